/- packsaddleref12: numbers, want, method. -/
import Derived.Test.YtbknkahakmfhkaaRecN
import Derived.Test.YtbknkahakmfhkaaRecQ
import Derived.Test.YtbknkahakmfhkaaRef02L
namespace Go.Proofs.Ytbknkahakmfhkaa
open Go.RowKit
set_option linter.unusedVariables false
set_option linter.unusedSimpArgs false

/-- The numbers of such sizes that a cursor reads; where it stands then. -/
def numV (l : List UInt8) : (Nat × Int) → List Nat → List Int
  | _, [] => []
  | s, m :: r => rdN l m s :: numV l (rdS l m s) r
def numS (l : List UInt8) (s : Nat × Int) (ms : List Nat) : Nat × Int := ms.foldl (fun s m => rdS l m s) s
theorem numV_app (l : List UInt8) (m : Nat) : ∀ (ms : List Nat) (s : Nat × Int), numV l s (ms ++ [m]) = numV l s ms ++ [rdN l m (numS l s ms)]
  | [], s => rfl
  | k :: r, s => by
    show rdN l k s :: numV l (rdS l k s) (r ++ [m]) = rdN l k s :: (numV l (rdS l k s) r ++ _)
    rw [numV_app l m r (rdS l k s)]
    rfl
theorem numS_app (l : List UInt8) (m : Nat) (ms : List Nat) (s : Nat × Int) : numS l s (ms ++ [m]) = rdS l m (numS l s ms) := by
  unfold numS; rw [List.foldl_append]; rfl
theorem numV_len (l : List UInt8) : ∀ (ms : List Nat) (s : Nat × Int), (numV l s ms).length = ms.length
  | [], s => rfl
  | k :: r, s => by show (numV l (rdS l k s) r).length + 1 = r.length + 1; rw [numV_len l r]
theorem numV_lt (l : List UInt8) : ∀ (ms : List Nat) (s : Nat × Int), (∀ x ∈ ms, x = 2 ∨ x = 4) → 0 ≤ (numV l s ms).getD 0 0 ∧ (numV l s ms).getD 0 0 < 4294967296
  | [], s, _ => by simp [numV]
  | k :: r, s, h => by
    have h1 := rdN_lt l k s
    have h2 : ((256 ^ k : Nat) : Int) ≤ 4294967296 := by rcases h k (by simp) with rfl | rfl <;> decide
    show 0 ≤ rdN l k s ∧ rdN l k s < 4294967296
    omega
theorem own_base {α : Type} {w : World} {B : Nat} {e : TypeId} {E : α → Value} {a : Option Addr} {n c : Nat} {l : List α} (h : Own w B e E a n c l) {k : Nat} (hk : (Value.slice a n c).ownBlock = some k) : B ≤ k := by
  rcases h.blk with ⟨h0, _⟩ | ⟨g, h0, h1, _⟩
  · rw [h0] at hk; cases hk
  · rw [h0] at hk; simp [Value.ownBlock] at hk; omega
theorem grown_new {w w1 w2 : World} {g : Nat} {row : Option Nat} (h : w.grownBy w1 (some g)) (k : w1.grownBy w2 row) (hr : ∀ j, row = some j → w.heap.size ≤ j) : w.grownBy w2 (some g) :=
  ⟨k.os.trans h.os, k.tape.trans h.tape, k.output.trans h.output, Nat.le_trans h.size k.size, fun j hj hn => (k.block j (Nat.lt_of_lt_of_le hj h.size) (fun e => by have := hr j e.symm; omega)).trans (h.block j hj hn)⟩
def markE (er v magic : Int) : Int := if er = 0 ∧ v ≠ magic then 14 else er
def wantE (er : Int) (b : Bool) : Int := if er = 0 ∧ b = false then 2 else er
theorem RefOk.lt' {w : World} {g p : Nat} {l : List UInt8} {er : Int} (h : RefOk w g l p er) : g < w.heap.size := by
  obtain ⟨a, n, c, h1, _⟩ := h.ex; exact h1.lt
set_option maxHeartbeats 2000000 in
theorem rmethod_any (n : Int) (w : World) : Calls Try.prog 70 #[.int .i64 n] w fun e w' => e = .returned (.bool (meth n)) ∧ w = w' := by
  have HM : Hid (meth n = (n == 0 || n == 8)) := Lib.hid rfl
  go_enter Try.func70, Try.ntmps70
  by_cases h0 : n = 0
  · subst h0
    go_wp2
    go_ret
    exact ⟨rfl, rfl⟩
  · have h0' : (n == 0) = false := by simpa using h0
    go_wp2
    go_ret
    exact ⟨by rw [HM.out, h0']; rfl, rfl⟩
set_option maxHeartbeats 4000000 in
theorem want_any (g : Nat) (l : List UInt8) (p : Nat) (er : Int) (b : Bool) (w : World) (h : RefOk w g l p er) :
  Calls Try.prog 69 #[.pointer (some ⟨g, 0, none⟩), .bool b] w fun e w' => e = .returned (.tuple #[]) ∧ RefOk w' g l p (wantE er b) ∧ w.grownBy w' (some g) := by
  obtain ⟨a, n, c, hb, hx⟩ := h.ex
  have h2 := hb.cell (i := 2) rfl
  have hf := hb.frozen 2
  have H := Lib.hid h
  clear h hb hx
  go_enter Try.func69, Try.ntmps69
  by_cases he : er = 0
  · subst he
    cases b with
    | true =>
      go_wp2
      go_end0
      exact ⟨rfl, H.out, World.grownBy.refl _ _⟩
    | false =>
      go_wp2
      go_end0
      exact ⟨rfl, H.out.setE 2, grownBy_setCell w ⟨g, 2, none⟩ (.int .i64 2)⟩
  · have he' : (er == 0) = false := by simpa using he
    have HW : Hid (wantE er b = er) := Lib.hid (by unfold wantE; rw [if_neg (fun h => he h.1)])
    clear he
    go_wp2
    go_end0
    rw [HW.out]
    exact ⟨rfl, H.out, World.grownBy.refl _ _⟩
set_option maxRecDepth 100000 in
set_option maxHeartbeats 16000000 in
theorem numbers_any (g : Nat) (l : List UInt8) (s : Nat × Int) (p : Option Addr) (m k0 : Nat) (ms : List Nat) (magic : Int) (w : World) (h : RefOk w g l s.1 s.2) (hm : ms.length = m) (hm0 : 0 < m) (hm1 : m ≤ 1000) (hms : ∀ x ∈ ms, x = 2 ∨ x = 4) (hv : Rd w iR p (ms.map Int.ofNat)) (hpg : ∀ b off, p = some ⟨b, off, none⟩ → b ≠ g) :
  Calls Try.prog 68 #[.pointer (some ⟨g, 0, none⟩), .slice p m k0, .int .u64 magic] w fun e w' => ∃ a c, e = .returned (.slice a m c) ∧ Own w' w.heap.size 3 iR a m c (numV l s ms) ∧ RefOk w' g l (numS l s ms).1 (markE (numS l s ms).2 ((numV l s ms).getD 0 0) magic) ∧ w.grownBy w' (some g) := by
  have HV := Lib.hid (And.intro hm (And.intro hms (And.intro hv hpg)))
  have HLT := Lib.hid h.lt'
  have H := Lib.hid h
  clear hm hms hv hpg h
  go_enter Try.func68, Try.ntmps68
  go_wp2
  go_loopw [7, 12] (fun x7 xi wr => ∃ (k c : Nat) (a : Option Addr), k ≤ m ∧ xi = .int .i64 k ∧ x7 = .slice a k c ∧ Own wr w.heap.size 3 iR a k c (numV l s (ms.take k)) ∧ RefOk wr g l (numS l s (ms.take k)).1 (numS l s (ms.take k)).2 ∧ w.grownBy wr (some g)) (fun _ xi _ => m - (intOf xi).toNat)
  case atStart => exact ⟨0, 0, none, by omega, rfl, rfl, Own.nil, H.out, World.grownBy.refl _ _⟩
  case round =>
    clear H
    obtain ⟨k, c, a, hk, rfl, rfl, hown, href, hg⟩ := hrel
    have hsz := hg.size
    by_cases hlt : k < m
    · have hkl : k < ms.length := by rw [HV.out.1]; exact hlt
      have hrdw : Rd wr iR p (ms.map Int.ofNat) := HV.out.2.2.1.grown hg (fun b off hb he => by have := HV.out.2.2.2 b off hb; simp only [Option.some.injEq] at he; exact this he)
      obtain ⟨b, off, rfl, -, hc⟩ := hrdw.at (k := k) (by rw [List.length_map]; exact hkl)
      rw [List.getElem_map] at hc
      have htk : ms.take (k + 1) = ms.take k ++ [ms[k]] := List.take_succ_eq_append_getElem hkl
      have HT := Lib.hid (show numV l s (ms.take (k + 1)) = numV l s (ms.take k) ++ [rdN l ms[k] (numS l s (ms.take k))] ∧ numS l s (ms.take (k + 1)) = rdS l ms[k] (numS l s (ms.take k)) by rw [htk, numV_app, numS_app]; exact ⟨rfl, rfl⟩)
      have hx24 := HV.out.2.1 ms[k] (List.getElem_mem hkl)
      generalize ms[k] = x at hc HT hx24
      generalize numV l s (ms.take k) = L at hown HT
      generalize numS l s (ms.take k) = t at href HT
      have HO := Lib.hid (And.intro hown (And.intro href hg))
      replace hc : wr.cell? ⟨b, off + k, none⟩ = some (.int .i64 (x : Int)) := hc
      have hsx : sizedB (x : Int) = true := by rcases hx24 with rfl | rfl <;> rfl
      have hxr : x ≤ 8 := by omega
      have HSX := Lib.hid hsx
      have HX24 := Lib.hid hx24
      clear hrdw htk hown href hg hsx hx24
      go_wp2_with fail
      clear hc
      refine (rLitGet_any g l t.1 t.2 x wr HO.out.2.1 (by omega) (by omega)).mono ?_
      rintro e w2 ⟨rfl, hc2, hg2⟩
      rw [HSX.out, rdN_lit l x t hxr]
      rw [HSX.out] at hc2
      have hrl := rdN_lt l x t
      have hxp : ((256 ^ x : Nat) : Int) ≤ 4294967296 := by rcases HX24.out with rfl | rfl <;> decide
      have WR := Lib.hid (wrap64 (rdN l x t) (by omega) (by omega))
      have hne : ∀ g', a = some ⟨g', 0, none⟩ → some g' ≠ some g := by
        intro g' hg' he
        simp only [Option.some.injEq] at he
        rcases HO.out.1.blk with ⟨h0, _⟩ | ⟨g'', h0, h1, _⟩
        · rw [h0] at hg'; cases hg'
        · rw [h0] at hg'
          simp only [Option.some.injEq, Addr.mk.injEq, and_true] at hg'
          have := HLT.out
          omega
      have HO2 := Lib.hid (And.intro (HO.out.1.grown hg2 hne) (And.intro (show RefOk w2 g l (rdS l x t).1 (rdS l x t).2 from hc2) (grownBy_trans HO.out.2.2 hg2)))
      have hsz2 : w.heap.size ≤ w2.heap.size := HO2.out.2.2.size
      have HWR : Hid (Value.int .i64 (IntKind.i64.wrap (rdN l x t)) = iR (rdN l x t)) := Lib.hid (by rw [WR.out])
      clear hc2 hg2 hne HO hrl hxp hsz
      generalize rdN l x t = v at HT HWR WR ⊢
      have hwr := WR.out
      go_wp2_with (at_builtin; refine wpList_push (E := iR) slIR rfl _ _ rfl rfl rfl HO2.out.1 v ⟨_, 0, none⟩ rfl (cell_push (by first | rfl | exact HWR.out) _ _) rfl (by omega) (by unfold maxLen; omega) hsz2 ?_; intro a3 c3 w3 hown3 hg3; have HO3 := Lib.hid (And.intro hown3 hg3); clear hown3 hg3)
      go_roundw
      case rel =>
        refine ⟨k + 1, c3, a3, by omega, by go_num, rfl, by rw [HT.out.1]; exact HO3.out.1, ?_, ?_⟩
        · rw [HT.out.2]
          refine HO2.out.2.1.grown HO3.out.2 (fun k' hk' => ?_)
          have := own_base HO2.out.1 hk'
          have := HLT.out
          omega
        · exact grown_new HO2.out.2.2 HO3.out.2 (fun k' hk' => own_base HO2.out.1 hk')
      case measure => simp [intOf] <;> omega
    · have hkm : k = m := by omega
      have hall : ms.take k = ms := List.take_of_length_le (by rw [HV.out.1]; omega)
      rw [hall] at hown href
      subst hkm
      obtain ⟨g0, y, rfl, hgb, -, hy0, hcy, -⟩ := hown.at (i := 0) hm0
      have hy : (numV l s ms).getD 0 0 = y := by rw [List.getD_eq_getElem?_getD, hy0]; rfl
      obtain ⟨aa, nn, cc, hbk, hx⟩ := href.ex
      have q2 := hbk.cell (i := 2) rfl
      have f2 := hbk.frozen 2
      have hyr : 0 ≤ y ∧ y < 4294967296 := by
        rw [← hy]; exact numV_lt l ms s HV.out.2.1
      have WY : IntKind.u64.wrap y = y := by
        have := u64N_int y; rw [u64N_pos y hyr.1 (by omega)] at this; rw [this]; omega
      have HF := Lib.hid (And.intro hown (And.intro href hg))
      have HY := Lib.hid hy
      replace hcy : wr.cell? ⟨g0, 0, none⟩ = some (.int .i64 y) := hcy
      generalize htt : numS l s ms = t at HF q2 hbk
      have HTT := Lib.hid htt
      clear htt
      clear hbk hx hown href hg hy hy0 hall hk hlt hyr
      by_cases he : t.2 = 0
      · rw [he] at q2
        by_cases hm14 : y = magic
        · have hmb : (y == magic) = true := by simpa using hm14
          have HE : Hid (markE t.2 y magic = t.2) := Lib.hid (by unfold markE; rw [if_neg (fun h => h.2 hm14)])
          clear hm14 he
          go_wp2
          go_ret
          rw [HTT.out, HY.out, HE.out]
          exact ⟨_, _, rfl, HF.out⟩
        · have hmb : (y == magic) = false := by simpa using hm14
          have HE : Hid (markE t.2 y magic = 14) := Lib.hid (by unfold markE; rw [if_pos ⟨he, hm14⟩])
          have HS : Hid (Own (wr.setCell ⟨g, 2, none⟩ (.int .i64 14)) w.heap.size 3 iR (some ⟨g0, 0, none⟩) k c (numV l s ms) ∧ RefOk (wr.setCell ⟨g, 2, none⟩ (.int .i64 14)) g l t.1 14 ∧ w.grownBy (wr.setCell ⟨g, 2, none⟩ (.int .i64 14)) (some g)) := Lib.hid ⟨HF.out.1.setCell_ne (fun g' h' => by simp only [Option.some.injEq, Addr.mk.injEq, and_true] at h'; have := HLT.out; show g' ≠ g; omega) _, HF.out.2.1.setE 14, grownBy_trans HF.out.2.2 (grownBy_setCell wr ⟨g, 2, none⟩ _)⟩
          clear hm14 he
          go_wp2
          go_ret
          rw [HTT.out, HY.out, HE.out]
          exact ⟨_, _, rfl, HS.out⟩
      · have he' : (t.2 == 0) = false := by simpa using he
        have HE : Hid (markE t.2 y magic = t.2) := Lib.hid (by unfold markE; rw [if_neg (fun h => he h.1)])
        clear he
        go_wp2
        go_ret
        rw [HTT.out, HY.out, HE.out]
        exact ⟨_, _, rfl, HF.out⟩
end Go.Proofs.Ytbknkahakmfhkaa
