/- A code: Signs, longest, Put. -/
import Derived.Test.YtnmdgmjheopolaaPreC
import Derived.Test.YtnmdgmjheopolaaPreE
import Derived.Test.YtnmdgmjheopolaaBitW
import Derived.Test.YtnmdgmjheopolaaRev
namespace Go.Proofs.Ytnmdgmjheopolaa
open Go.RowKit
set_option linter.unusedVariables false
set_option linter.unusedSimpArgs false

/-- The longest word's bits, up to k. -/
def lgF (l : List Int) : Nat → Nat
  | 0 => 0
  | k + 1 => if cn l (k + 1) = 0 then lgF l k else k + 1
theorem lgF_le (l : List Int) : ∀ k, lgF l k ≤ k
  | 0 => Nat.le_refl _
  | k + 1 => by unfold lgF; have := lgF_le l k; split <;> omega
section
variable {w : World} {g : Nat} {T : TypeId} {va vb vq : Value} {f : Nat → Nat}
theorem code_cnt (h : Arr w g T 19 (codeF va vb vq f)) {k : Nat} (hk : k < 16) : w.cell? ⟨g, 2 + k, none⟩ = some (.int .i64 ((f k : Nat) : Int)) := by
  have := h.cell (k := 2 + k) (by omega)
  unfold codeF at this
  rw [if_neg (by omega), if_neg (by omega), if_pos (by omega), show 2 + k - 2 = k by omega] at this
  exact this
theorem code_a (h : Arr w g T 19 (codeF va vb vq f)) : w.cell? ⟨g, 0, none⟩ = some va := h.cell (k := 0) (by omega)
theorem code_b (h : Arr w g T 19 (codeF va vb vq f)) : w.cell? ⟨g, 1, none⟩ = some vb := h.cell (k := 1) (by omega)
theorem code_q (h : Arr w g T 19 (codeF va vb vq f)) : w.cell? ⟨g, 18, none⟩ = some vq := h.cell (k := 18) (by omega)
end
set_option maxRecDepth 100000 in
theorem signs_nil (w : World) : Calls Try.prog 30 #[.pointer none] w fun e w' => e = .returned (.int .i64 0) ∧ w' = w := by
  go_enter Try.func30, Try.ntmps30
  go_wp2
  go_ret
  exact ⟨rfl, rfl⟩
set_option maxRecDepth 100000 in
theorem signs_any (g : Nat) (l : List Int) (w : World) (h : CodeOk w g l) : Calls Try.prog 30 #[.pointer (some ⟨g, 0, none⟩)] w fun e w' => e = .returned (.int .i64 (l.length : Int)) ∧ w' = w := by
  obtain ⟨a, p, q, n, c, m, d, o, h1, h2, h3, h4, h5, h6, h7⟩ := h.ex
  have k0 := code_a h1
  have HL := Lib.hid h5.len
  clear h h1 h4 h5 h6 h7
  go_enter Try.func30, Try.ntmps30
  go_wp2
  go_ret
  exact ⟨ret_int (by rw [HL.out]), rfl⟩
set_option maxRecDepth 100000 in
set_option maxHeartbeats 4000000 in
theorem longest_any (g : Nat) (l : List Int) (w : World) (h : CodeOk w g l) : Calls Try.prog 69 #[.pointer (some ⟨g, 0, none⟩)] w fun e w' => e = .returned (.int .i64 ((lgF l 15 : Nat) : Int)) ∧ w' = w := by
  obtain ⟨a, p, q, n, c, m, d, o, h1, h2, h3, h4, h5, h6, h7⟩ := h.ex
  have HA := Lib.hid h1
  clear h h1 h4 h5 h6 h7
  go_enter Try.func69, Try.ntmps69
  go_wp2
  go_loop [3] (fun x3 => ∃ k : Nat, k ≤ 15 ∧ x3 = .int .i64 k ∧ Hid (lgF l k = lgF l 15)) (fun x3 => (intOf x3).toNat)
  case atStart => exact ⟨15, by omega, rfl, Lib.hid rfl⟩
  case round =>
    obtain ⟨k, hk, rfl, hlg⟩ := hrel
    by_cases h0 : k = 0
    · subst h0
      have HE : Hid (lgF l 15 = 0) := Lib.hid (by rw [← hlg.out]; rfl)
      go_wp2
      go_ret
      exact ⟨by rw [HE.out]; rfl, rfl⟩
    · obtain ⟨j, rfl⟩ : ∃ j, k = j + 1 := ⟨k - 1, by omega⟩
      have k1 := code_cnt HA.out (k := j + 1) (by omega)
      by_cases hc : cn l (j + 1) = 0
      · rw [hc] at k1
        have HE : Hid (lgF l j = lgF l 15) := Lib.hid (by rw [← hlg.out]; unfold lgF; rw [if_pos hc]; cases j <;> rfl)
        go_wp2
        go_round
        case rel => exact ⟨j, by omega, by go_num, HE.out |> Lib.hid⟩
        case measure => simp [intOf] <;> omega
      · have HE : Hid (lgF l 15 = j + 1) := Lib.hid (by rw [← hlg.out]; unfold lgF; rw [if_neg hc])
        have g1 : (((cn l (j + 1) : Nat) : Int) == 0) = false := by simp; omega
        generalize cn l (j + 1) = z at *
        go_wp2
        go_ret
        exact ⟨ret_int (by rw [HE.out]; rfl), rfl⟩
theorem bitsL_revN (v n : Nat) (hv : v < 4294967296) (hn : n ≤ 32) : bitsL (revN v n) n = wb n v := by
  have hl : (bitsL v n).reverse.length = n := by rw [List.length_reverse, bitsL_length]
  rw [revN_num v n hv hn, numL_numF _ (by rw [hl]; exact hn)]
  have := bitsL_numF (bitsL v n).reverse
  rw [hl] at this
  exact this
theorem own_boolKeep {α : Type} {E : α → Value} {w w' : World} (h : BoolKeep w w') {B : Nat} {T : TypeId} {a : Option Addr} {n c : Nat} {l : List α} (ho : Own w B T E a n c l) (h8 : T ≠ 5) (hW : T ≠ 109) : Own w' B T E a n c l := by
  obtain ⟨⟨h1, h2⟩, h3⟩ := ho
  refine ⟨⟨h1, ?_⟩, h3⟩
  rcases h2 with h2 | ⟨g, cap, cur, hv, hge, hh, hrest⟩
  · exact .inl h2
  · exact .inr ⟨g, cap, cur, hv, hge, h g cur _ (0, 0) h8 hW hh, hrest⟩
theorem CodeOk.keep {w w' : World} {g : Nat} {l : List Int} (h : CodeOk w g l) (hk : BoolKeep w w') : CodeOk w' g l := by
  obtain ⟨a, p, q, n, c, m, d, o, h1, h2, h3, h4, h5, h6, h7⟩ := h.ex
  exact ⟨a, p, q, n, c, m, d, o, hk.blk h1 (by decide) (by decide), h2, h3, h4, own_boolKeep hk h5 (by decide) (by decide), own_boolKeep hk h6 (by decide) (by decide), own_boolKeep hk h7 (by decide) (by decide)⟩
/-- May the sign be written? -/
def putOk (l : List Int) (s : Int) : Prop := 0 ≤ s ∧ s < (l.length : Int) ∧ l.getD s.toNat 0 ≠ 0
open Classical in
noncomputable def putEr (l : List Int) (s : Int) : Int := if putOk l s then 0 else 5
open Classical in
noncomputable def putBits (l : List Int) (s : Int) (all : List Bool) : List Bool := if putOk l s then all ++ wb (l.getD s.toNat 0).toNat (wv l s.toNat) else all
set_option maxRecDepth 100000 in
theorem cPut_nil (p : Option Addr) (s : Int) (w : World) : Calls Try.prog 31 #[.pointer none, .pointer p, .int .i64 s] w fun e w' => e = .returned (.int .i64 1) ∧ w' = w := by
  go_enter Try.func31, Try.ntmps31
  go_wp2
  go_ret
  exact ⟨rfl, rfl⟩
set_option maxRecDepth 100000 in
set_option maxHeartbeats 4000000 in
theorem cPut_any (g : Nat) (l : List Int) (B k : Nat) (all : List Bool) (s : Int) (w : World) (h : CodeOk w g l) (hW : WBits w B k all) (hB : B ≤ w.heap.size) (hlen : all.length ≤ 1000000) (hs : -9223372036854775808 ≤ s ∧ s ≤ 9223372036854775807) :
  Calls Try.prog 31 #[.pointer (some ⟨g, 0, none⟩), .pointer (some ⟨k, 0, none⟩), .int .i64 s] w fun e w' => e = .returned (.int .i64 (putEr l s)) ∧ WBits w' B k (putBits l s all) ∧ Below B w w' ∧ BoolKeep w w' := by
  obtain ⟨a, p, q, n, c, m, d, o, h1, h2, h3, h4, h5, h6, h7⟩ := h.ex
  have k0 := code_a h1
  have k1 := code_b h1
  have HL := Lib.hid h5.len
  have HO5 := Lib.hid h5
  have HO6 := Lib.hid h6
  have HWB := Lib.hid hW
  have HV := Lib.hid h4
  clear h h1 h4 h5 h6 h7 hW
  by_cases hno : putOk l s
  · have HE : Hid (putEr l s = 0 ∧ putBits l s all = all ++ wb (l.getD s.toNat 0).toNat (wv l s.toNat)) := Lib.hid ⟨if_pos hno, if_pos hno⟩
    obtain ⟨hs0, hs1, hs2⟩ := hno
    obtain ⟨i, rfl⟩ := Int.eq_ofNat_of_zero_le hs0
    rw [Int.toNat_natCast] at hs2 HE
    have hil : i < l.length := by omega
    have hin : (i : Int) < n := by rw [← HL.out]; omega
    have hg : l.getD i 0 = l[i] := by rw [List.getD_eq_getElem?_getD, List.getElem?_eq_getElem hil]; rfl
    rw [hg] at hs2 HE
    have hx := HV.out l[i] (List.getElem_mem hil)
    obtain ⟨b1, o1, rfl, -, hc⟩ := HO5.out.rd.at hil
    replace hc : w.cell? ⟨b1, o1 + i, none⟩ = some (.int .i64 l[i]) := hc
    have hiw : i < (wsL l).length := by rw [wsL_length]; exact hil
    obtain ⟨b2, o2, rfl, -, hd⟩ := HO6.out.rd.at hiw
    have hwv : (wsL l)[i] = wv l i := by simp [wsL]
    rw [hwv] at hd
    replace hd : w.cell? ⟨b2, o2 + i, none⟩ = some (.int .u32 ((wv l i : Nat) : Int)) := hd
    have HVL : Hid (wv l i < 4294967296) := Lib.hid (by
      unfold wv; rw [hg]
      split
      · have h9 := baseW_15 l (by rw [HL.out]; exact h2) (k := l[i].toNat) (by omega)
        have h8 := cn_le (l.take i) l[i].toNat
        rw [List.length_take] at h8
        omega
      · omega)
    clear hg
    generalize l[i] = x at *
    obtain ⟨t, rfl⟩ := Int.eq_ofNat_of_zero_le hx.1
    have g0 : ((t : Int) == 0) = false := by simpa using hs2
    rw [Int.toNat_natCast] at HE
    generalize wv l i = v at *
    have ht : t ≤ 15 := by omega
    have HT : Hid (revI v t = revN v t) := Lib.hid (by unfold revI; rw [if_neg (by omega)]; rfl)
    clear hs0 hs1 hs2 hs
    go_enter Try.func31, Try.ntmps31
    go_wp2_with fail
    refine (reverse_any v t w HVL.out (by omega) (by omega)).mono ?_
    rintro e w1 ⟨rfl, rfl⟩
    rw [HT.out]
    go_wp2_with fail
    refine (wPutK_any B k all (revN v t) t w HWB.out hB hlen (by have := revN_lt v t (by omega) HVL.out; have := pow_le15 t ht; omega) (by omega) (by omega)).mono ?_
    rintro e w2 ⟨rfl, h21, h22, h23⟩
    rw [if_neg (by omega), Int.toNat_natCast, bitsL_revN v t HVL.out (by omega), ← HE.out.2] at h21
    have HF := Lib.hid (And.intro h21 (And.intro h22 h23))
    clear h21 h22 h23 k0 k1 hc hd
    go_wp2
    go_ret
    exact ⟨ret_int HE.out.1.symm, HF.out⟩
  · have HE : Hid (putEr l s = 5 ∧ putBits l s all = all) := Lib.hid ⟨if_neg hno, if_neg hno⟩
    by_cases hs0 : s < 0
    · go_enter Try.func31, Try.ntmps31
      go_wp2
      go_ret
      exact ⟨ret_int HE.out.1.symm, by rw [HE.out.2]; exact HWB.out, Below.refl _ _, BoolKeep.refl _⟩
    · obtain ⟨i, rfl⟩ := Int.eq_ofNat_of_zero_le (show 0 ≤ s by omega)
      by_cases hin : (i : Int) < n
      · have hil : i < l.length := by rw [HL.out]; omega
        have hg : l.getD i 0 = l[i] := by rw [List.getD_eq_getElem?_getD, List.getElem?_eq_getElem hil]; rfl
        have hz : l[i] = 0 := by
          refine Classical.byContradiction fun hne => hno ⟨by omega, by omega, ?_⟩
          rw [Int.toNat_natCast, hg]; exact hne
        obtain ⟨b1, o1, rfl, -, hc⟩ := HO5.out.rd.at hil
        replace hc : w.cell? ⟨b1, o1 + i, none⟩ = some (.int .i64 l[i]) := hc
        rw [hz] at hc
        clear hno hg hz hs
        go_enter Try.func31, Try.ntmps31
        go_wp2
        go_ret
        exact ⟨ret_int HE.out.1.symm, by rw [HE.out.2]; exact HWB.out, Below.refl _ _, BoolKeep.refl _⟩
      · clear hno hs
        go_enter Try.func31, Try.ntmps31
        go_wp2
        go_ret
        exact ⟨ret_int HE.out.1.symm, by rw [HE.out.2]; exact HWB.out, Below.refl _ _, BoolKeep.refl _⟩
end Go.Proofs.Ytnmdgmjheopolaa
