/- diff: what is told makes the second of the first; the law's fixed calls. -/
import Derived.Test.YtnfdbljeinlblaaDifE
import Derived.Lib.SlBytesConst
namespace Go.Proofs.Ytnfdbljeinlblaa
open Go.RowKit
set_option linter.unusedVariables false
set_option linter.unusedSimpArgs false

theorem strOf_inj {l l' : List UInt8} (h : strOf l = strOf l') : l = l' := by
  unfold strOf at h
  simpa using h
theorem idxF_some {d nm : ByteArray} {b : Bool} {j : Nat} : ∀ {L : List Ent} {i : Nat}, idxF L i d nm b = some j → i ≤ j ∧ ∃ e, L[j - i]? = some e ∧ strOf e.dt = d
  | [], i, h => by simp [idxF] at h
  | e :: r, i, h => by
    unfold idxF at h
    split at h
    · rename_i h1
      simp only [Option.some.injEq] at h; subst h
      exact ⟨Nat.le_refl _, e, by simp, h1.1.symm⟩
    · split at h
      · rename_i h1
        simp only [Option.some.injEq] at h; subst h
        exact ⟨Nat.le_refl _, e, by simp, h1.1.symm⟩
      · obtain ⟨h1, e', h2, h3⟩ := idxF_some h
        refine ⟨by omega, e', ?_, h3⟩
        rw [show j - i = (j - (i + 1)) + 1 by omega, List.getElem?_cons_succ]; exact h2
theorem ofE_form (es : List Ent) (x : Ent) : (∃ j e, es[j]? = some e ∧ e.dt = x.dt ∧ ofE es x = (x.na, x.da, x.cl, ((j : Nat) : Int), [])) ∨ ofE es x = (x.na, x.da, x.cl, -1, x.dt) := by
  unfold ofE
  cases h1 : idxF es 0 (strOf x.dt) x.na true with
  | some j =>
    obtain ⟨_, e, h2, h3⟩ := idxF_some h1
    exact .inl ⟨j, e, by simpa using h2, strOf_inj h3, rfl⟩
  | none =>
    cases h4 : idxF es 0 (strOf x.dt) ⟨#[]⟩ false with
    | some j =>
      obtain ⟨_, e, h2, h3⟩ := idxF_some h4
      exact .inl ⟨j, e, by simpa using h2, strOf_inj h3, rfl⟩
    | none => exact .inr rfl
theorem apE_of (es : List Ent) (x : Ent) : apE es (ofE es x) = enK x := by
  rcases ofE_form es x with ⟨j, e, h1, h2, h3⟩ | h3
  · rw [h3]; simp [apE, enK, List.getD_eq_getElem?_getD, h1, h2]
  · rw [h3]; simp [apE, enK]
theorem apSt_of (es : List Ent) : ∀ bs : List Ent, apSt es.length (bs.map (ofE es)) = 0
  | [] => rfl
  | x :: r => by
    rw [List.map_cons]
    rcases ofE_form es x with ⟨j, e, h1, h2, h3⟩ | h3
    · rw [h3, apSt_on]
      · exact apSt_of es r
      · have := (List.getElem?_eq_some_iff.1 h1).1; omega
      · simp
    · rw [h3, apSt_on]
      · exact apSt_of es r
      · omega
      · omega
theorem map_apE (es bs : List Ent) : (bs.map (ofE es)).map (apE es) = bs.map enK := by
  rw [List.map_map]; exact List.map_congr_left fun x _ => apE_of es x
theorem ofE_small {es bs : List Ent} {cs : List Chg} {w : World} {p : Option Addr} {m : Nat} (h : cs.map chK = bs.map (ofE es)) (hs : SmallE bs) (hr : RdC w p m cs) : ∀ q ∈ cs, q.k ≤ 1000000 := by
  intro q hq
  have h1 : chK q ∈ bs.map (ofE es) := by rw [← h]; exact List.mem_map.2 ⟨q, hq, rfl⟩
  obtain ⟨x, hx, he⟩ := List.mem_map.1 h1
  have hl := (hr.2.2 q hq).1
  have hd : (chK q).2.2.2.2 = q.dt := rfl
  rw [← he] at hd
  rcases ofE_form es x with ⟨j, e, h1, h2, h3⟩ | h3
  · rw [h3] at hd; simp only at hd; rw [← hl, ← hd]; simp
  · rw [h3] at hd; simp only at hd; rw [← hl, ← hd]; exact (hs x hx).2
theorem small_of {xs bs : List Ent} (h : xs.map enK = bs.map enK) (hs : SmallE bs) : SmallE xs := by
  intro e he
  have h1 : enK e ∈ bs.map enK := by rw [← h]; exact List.mem_map.2 ⟨e, he, rfl⟩
  obtain ⟨x, hx, hxe⟩ := List.mem_map.1 h1
  simp only [enK, Prod.mk.injEq] at hxe
  rw [← hxe.1, ← hxe.2.2.2]; exact hs x hx
/-- Of, then Apply: the second archive. -/
theorem apply_of (a : Option Addr) (n c : Nat) (es : List Ent) (p : Option Addr) (m k : Nat) (bs : List Ent) (cs : List Chg) (w : World) (hn : n ≤ 1000000) (hm : m ≤ 1000000) (hp : RdE w a n es) (hs : SmallE es) (hmb : bs.length = m) (ht : SmallE bs)
    (hr : RdC w p m cs) (hk : cs.map chK = bs.map (ofE es)) :
  Calls Try.prog 17 #[.slice a n c, .slice p m k] w fun e w' => ∃ p' c' xs, e = .returned (.tuple #[.slice p' m c', .int .i64 0]) ∧ RdE w' p' m xs ∧ xs.map enK = bs.map enK ∧ Below w.heap.size w w' := by
  refine (apply_any a n c es p m k cs w hn hm hp hs hr (ofE_small hk ht hr)).mono ?_
  rintro e w' ⟨hB, h⟩
  have hl : (cs.map chK).length = m := by rw [hk, List.length_map, hmb]
  have h0 : apSt n (cs.map chK) = 0 := by rw [hk, ← hp.1]; exact apSt_of es bs
  rcases h with ⟨h1, _⟩ | ⟨_, p', c', xs, h1, h2, h3⟩
  · exact absurd h0 h1
  · rw [hl] at h1 h2
    exact ⟨p', c', xs, h1, h2, by rw [h3, hk, map_apE], hB⟩
def fxA : Ent := ⟨⟨#[97]⟩, 0, 0, [120]⟩
def fxB : Ent := ⟨⟨#[98]⟩, 0, 0, [121]⟩
def fxC : Value × Value → Array Value := fun q => #[.string ⟨#[97]⟩, .int .u16 0, .int .u16 0, q.1, .string ⟨#[98]⟩, .int .u16 0, .int .u16 0, q.2]
theorem rdE_fx {w : World} {B : Nat} {p q : Option Addr} {c d : Nat} (h : Blk w B ET #[.string ⟨#[97]⟩, .int .u16 0, .int .u16 0, .slice p 1 c, .string ⟨#[98]⟩, .int .u16 0, .int .u16 0, .slice q 1 d]) (hp : Rd w bE p [120]) (hq : Rd w bE q [121]) :
    RdE w (some ⟨B, 0, none⟩) 2 [fxA, fxB] ∧ RdE w (some ⟨B, 4, none⟩) 1 [fxB] := by
  refine ⟨⟨rfl, fun i j => (([[.string ⟨#[97]⟩, .int .u16 0, .int .u16 0, .slice p 1 c], [.string ⟨#[98]⟩, .int .u16 0, .int .u16 0, .slice q 1 d]] : List (List Value)).getD i []).getD j undef, .inr ⟨B, 0, rfl, ?_⟩, ?_⟩, ⟨rfl, fun _ j => ([.string ⟨#[98]⟩, .int .u16 0, .int .u16 0, .slice q 1 d] : List Value).getD j undef, .inr ⟨B, 4, rfl, ?_⟩, ?_⟩⟩
  · intro i j hi hj
    match i, j, hi, hj with
    | 0, 0, _, _ => exact h.cell rfl
    | 0, 1, _, _ => exact h.cell rfl
    | 0, 2, _, _ => exact h.cell rfl
    | 0, 3, _, _ => exact h.cell rfl
    | 1, 0, _, _ => exact h.cell rfl
    | 1, 1, _, _ => exact h.cell rfl
    | 1, 2, _, _ => exact h.cell rfl
    | 1, 3, _, _ => exact h.cell rfl
  · intro i hi
    match i, hi with
    | 0, _ => exact ⟨rfl, rfl, rfl, p, 1, c, rfl, rfl, hp⟩
    | 1, _ => exact ⟨rfl, rfl, rfl, q, 1, d, rfl, rfl, hq⟩
  · intro i j hi hj
    match i, j, hi, hj with
    | 0, 0, _, _ => exact h.cell rfl
    | 0, 1, _, _ => exact h.cell rfl
    | 0, 2, _, _ => exact h.cell rfl
    | 0, 3, _, _ => exact h.cell rfl
  · intro i hi
    match i, hi with
    | 0, _ => exact ⟨rfl, rfl, rfl, q, 1, d, rfl, rfl, hq⟩
theorem fx_of : [fxB].map (ofE [fxA, fxB]) = [(⟨#[98]⟩, 0, 0, 1, [])] := by decide +kernel
theorem fx_small : SmallE [fxA, fxB] := by
  intro e he
  simp at he
  rcases he with rfl | rfl <;> exact ⟨by decide, by decide⟩
theorem fx_small1 : SmallE [fxB] := fun e he => fx_small e (by simp at he; simp [he])
set_option maxRecDepth 100000 in
set_option maxHeartbeats 8000000 in
theorem fixed40_any (w : World) : Calls Try.prog 15 #[] w fun e w' => e = .returned (.bool true) ∧ Below w.heap.size w w' := by
  have kc := fun (w : World) (C : Array Value) (n c : Nat) => Lib.run_convert_bytes_const (P := Try.prog) w 32 5 C n c Try.underlying32 Try.underlying5
  have kd := kc (w.alloc (.cells #[Value.int IntKind.u8 120] 5 (1, 2))) #[Value.int IntKind.u8 121] 1 1
  have hsz : (w.alloc (.cells #[Value.int IntKind.u8 120] 5 (1, 2))).heap.size = w.heap.size + 1 := by simp
  rw [hsz] at kd
  have r1 : Rd (w.alloc (.cells #[Value.int IntKind.u8 120] 5 (1, 2))) bE (some ⟨w.heap.size, 0, none⟩) [120] := rd_new w _ _ _ _ rfl
  have r2 : Rd ((w.alloc (.cells #[Value.int IntKind.u8 120] 5 (1, 2))).alloc (.cells #[Value.int IntKind.u8 121] 5 (1, 2))) bE (some ⟨w.heap.size + 1, 0, none⟩) [121] := by
    have := rd_new (E := bE) (w.alloc (.cells #[Value.int IntKind.u8 120] 5 (1, 2))) #[Value.int IntKind.u8 121] 5 (1, 2) [121] rfl
    rwa [hsz] at this
  have b1 := below_alloc w (.cells #[Value.int IntKind.u8 120] 5 (1, 2))
  have b2 := below_alloc (w.alloc (.cells #[Value.int IntKind.u8 120] 5 (1, 2))) (.cells #[Value.int IntKind.u8 121] 5 (1, 2))
  have HR := Lib.hid (And.intro (r1.below b2) (And.intro r2 (b1.trans (b2.mono b1.size))))
  clear r1 r2 b1 b2 hsz
  go_enter Try.func15, Try.ntmps15
  go_wp2_with fail
  generalize hW : ((w.alloc (.cells #[Value.int IntKind.u8 120] 5 (1, 2))).alloc (.cells #[Value.int IntKind.u8 121] 5 (1, 2))) = W at HR ⊢
  obtain ⟨B, hB⟩ : ∃ B, B = w.heap.size + 1 + 1 := ⟨_, rfl⟩
  have hBW : B = W.heap.size := by rw [hB, ← hW]; simp
  obtain ⟨p0, hp0⟩ : ∃ p0 : Option Addr, p0 = some ⟨w.heap.size, 0, none⟩ := ⟨_, rfl⟩
  obtain ⟨q0, hq0⟩ : ∃ q0 : Option Addr, q0 = some ⟨w.heap.size + 1, 0, none⟩ := ⟨_, rfl⟩
  rw [← hB, ← hp0, ← hq0]
  rw [← hp0, ← hq0] at HR
  generalize hV : W.alloc (.cells #[.string ⟨#[97]⟩, .int .u16 0, .int .u16 0, .slice p0 1 1, .string ⟨#[98]⟩, .int .u16 0, .int .u16 0, .slice q0 1 1] ET) = V
  have hbV : Below W.heap.size W V := by rw [← hV]; exact below_alloc _ _
  have hk : Blk V B ET #[.string ⟨#[97]⟩, .int .u16 0, .int .u16 0, .slice p0 1 1, .string ⟨#[98]⟩, .int .u16 0, .int .u16 0, .slice q0 1 1] := by rw [hBW, ← hV]; exact Blk.new _ _ _
  have HA := Lib.hid (rdE_fx hk (HR.out.1.below hbV) (HR.out.2.1.below hbV))
  have HB := Lib.hid (HR.out.2.2.trans (hbV.mono HR.out.2.2.size))
  clear hW hB hBW hp0 hq0 hV hbV hk HR kc kd
  refine (of_any (some ⟨B, 0, none⟩) 2 2 [fxA, fxB] (some ⟨B, 4, none⟩) 1 1 [fxB] V (by decide) (by decide) HA.out.1 fx_small HA.out.2 fx_small1).mono ?_
  rintro e w1 ⟨p, k, cs, rfl, hr, hk, hb⟩
  have HB1 := Lib.hid (HB.out.trans (hb.mono HB.out.size))
  have HA1 := Lib.hid (And.intro (HA.out.1.below hb) (HA.out.2.below hb))
  clear hb HA HB
  go_wp2_with fail
  refine (apply_of (some ⟨B, 0, none⟩) 2 2 [fxA, fxB] p 1 k [fxB] cs w1 (by decide) (by decide) HA1.out.1 fx_small rfl fx_small1 hr hk).mono ?_
  rintro e w2 ⟨p2, c2, xs, rfl, hx, hxe, hb⟩
  have HB := Lib.hid (HB1.out.trans (hb.mono HB1.out.size))
  have HA := Lib.hid (And.intro (HA1.out.1.below hb) (HA1.out.2.below hb))
  have HX := Lib.hid (And.intro hx hxe)
  have HC := Lib.hid (And.intro (hr.below hb) hk)
  clear hb HA1 HB1 hx hxe hr hk
  go_wp2_with fail
  generalize hV : w2.alloc (.cells #[.string ⟨#[]⟩, .int .u16 0, .int .u16 0, .int .i64 2, .slice none 0 0] CT) = V2
  have hbV : Below w2.heap.size w2 V2 := by rw [← hV]; exact below_alloc _ _
  have hk : Blk V2 w2.heap.size CT #[.string ⟨#[]⟩, .int .u16 0, .int .u16 0, .int .i64 2, .slice none 0 0] := by rw [← hV]; exact Blk.new _ _ _
  refine (apply_any (some ⟨B, 0, none⟩) 2 2 [fxA, fxB] (some ⟨w2.heap.size, 0, none⟩) 1 1 [⟨⟨#[]⟩, 0, 0, 2, none, 0, 0, []⟩] V2 (by decide) (by decide) (HA.out.1.below hbV) fx_small ⟨rfl, .inr ⟨_, 0, rfl, ?_⟩, ?_⟩ ?_).mono ?_
  · intro i j hi hj
    match i, j, hi, hj with
    | 0, 0, _, _ => exact hk.cell rfl
    | 0, 1, _, _ => exact hk.cell rfl
    | 0, 2, _, _ => exact hk.cell rfl
    | 0, 3, _, _ => exact hk.cell rfl
    | 0, 4, _, _ => exact hk.cell rfl
  · intro q hq
    rw [List.mem_singleton.1 hq]; exact ⟨rfl, Rd.nil⟩
  · intro q hq
    rw [List.mem_singleton.1 hq]; decide
  rintro e w3 ⟨hb3, h3⟩
  have h35 : apSt 2 ([⟨⟨#[]⟩, 0, 0, 2, none, 0, 0, []⟩].map chK) = 5 := by decide +kernel
  rw [h35] at h3
  rcases h3 with ⟨_, rfl⟩ | ⟨h3, _⟩
  case inr => exact absurd h3 (by decide)
  have hb : Below w2.heap.size w2 w3 := hbV.trans (hb3.mono hbV.size)
  have HB3 := Lib.hid (HB.out.trans (hb.mono HB.out.size))
  have HA3 := Lib.hid (HA.out.2.below hb)
  have HX3 := Lib.hid (And.intro (HX.out.1.below hb) HX.out.2)
  have hcl : cs.length = 1 := by have := congrArg List.length HC.out.2; simpa using this
  obtain ⟨b', off', rfl, c0, c1, c2', c3, c4, -, -⟩ := (HC.out.1.below hb).at (i := 0) (by omega)
  have hfr : (cs[0]).fr = 1 := by
    have h1 : (cs.map chK)[0]? = some (⟨#[98]⟩, 0, 0, 1, []) := by rw [HC.out.2, fx_of]; rfl
    rw [List.getElem?_map, List.getElem?_eq_getElem (by omega)] at h1
    simp only [Option.map_some, Option.some.injEq, chK, Prod.mk.injEq] at h1
    exact h1.2.2.2.1
  rw [hfr] at c3
  simp only [Nat.zero_mul, Nat.add_zero] at c3
  clear hV hbV hk hb hb3 HA HB HX HC h35 hcl c0 c1 c2' c4 hfr
  go_wp2_with fail
  refine (same_any p2 1 c2 xs (some ⟨B, 4, none⟩) 1 [fxB] w3 (by decide) HX3.out.1 HA3.out HX3.out.2).mono ?_
  rintro e w4 ⟨rfl, hb⟩
  have HB := Lib.hid (HB3.out.trans (hb.mono HB3.out.size))
  clear hb HB3 HA3 HX3
  go_wp2
  go_ret
  exact ⟨rfl, HB.out⟩
set_option maxRecDepth 100000 in
set_option maxHeartbeats 8000000 in
theorem walkDiffChain (a : Option Addr) (n c : Nat) (xa : List Ent) (b : Option Addr) (m d : Nat) (xb : List Ent) (q : Option Addr) (k f : Nat) (xc : List Ent) (w : World)
    (ha : (n ≤ c ∧ c ≤ maxLen) ∧ RdE w a n xa ∧ ∀ e ∈ xa, e.na.size ≤ maxLen ∧ e.dt.length ≤ maxLen)
    (hb : (m ≤ d ∧ d ≤ maxLen) ∧ RdE w b m xb ∧ ∀ e ∈ xb, e.na.size ≤ maxLen ∧ e.dt.length ≤ maxLen)
    (hc : (k ≤ f ∧ f ≤ maxLen) ∧ RdE w q k xc ∧ ∀ e ∈ xc, e.na.size ≤ maxLen ∧ e.dt.length ≤ maxLen) :
  Calls Try.prog 3 #[.slice a n c, .slice b m d, .slice q k f] w fun e w' => e = .returned (.bool true) ∧ Below w.heap.size w w' := by
  have HA := Lib.hid ha
  have HB := Lib.hid hb
  have HC := Lib.hid hc
  clear ha hb hc
  go_enter Try.func3, Try.ntmps3
  go_wp2_with fail
  refine (fixed40_any w).mono ?_
  rintro e w1 ⟨rfl, hb1⟩
  have HW := Lib.hid hb1
  clear hb1
  go_wp2_with fail
  refine (few40_any a n c xa w1 HA.out.1.1 HA.out.1.2 (HA.out.2.1.below HW.out) HA.out.2.2).mono ?_
  rintro e w2 ⟨ra, rfl, hra, hb2⟩
  have HRA := Lib.hid hra
  have HW2 := Lib.hid (HW.out.trans (hb2.mono HW.out.size))
  clear hra hb2 HW
  cases ra with
  | false =>
    go_wp2
    go_ret
    exact ⟨rfl, HW2.out⟩
  | true =>
  go_wp2_with fail
  refine (few40_any b m d xb w2 HB.out.1.1 HB.out.1.2 (HB.out.2.1.below HW2.out) HB.out.2.2).mono ?_
  rintro e w3 ⟨rb, rfl, hrb, hb3⟩
  have HRB := Lib.hid hrb
  have HW3 := Lib.hid (HW2.out.trans (hb3.mono HW2.out.size))
  clear hrb hb3 HW2
  cases rb with
  | false =>
    go_wp2
    go_ret
    exact ⟨rfl, HW3.out⟩
  | true =>
  go_wp2_with fail
  refine (few40_any q k f xc w3 HC.out.1.1 HC.out.1.2 (HC.out.2.1.below HW3.out) HC.out.2.2).mono ?_
  rintro e w4 ⟨rc, rfl, hrc, hb4⟩
  have HRC := Lib.hid hrc
  have HW4 := Lib.hid (HW3.out.trans (hb4.mono HW3.out.size))
  clear hrc hb4 HW3
  cases rc with
  | false =>
    go_wp2
    go_ret
    exact ⟨rfl, HW4.out⟩
  | true =>
  obtain ⟨hn, hsa⟩ := HRA.out (by trivial)
  obtain ⟨hm, hsb⟩ := HRB.out (by trivial)
  obtain ⟨hk, hsc⟩ := HRC.out (by trivial)
  have HS := Lib.hid (And.intro hsa (And.intro hsb hsc))
  clear HRA HRB HRC hsa hsb hsc
  go_wp2_with fail
  refine (of_any a n c xa b m d xb w4 (by omega) (by omega) (HA.out.2.1.below HW4.out) HS.out.1 (HB.out.2.1.below HW4.out) HS.out.2.1).mono ?_
  rintro e w5 ⟨p5, k5, cs5, rfl, hr5, hk5, hb5⟩
  have HW5 := Lib.hid (HW4.out.trans (hb5.mono HW4.out.size))
  clear hb5 HW4
  go_wp2_with fail
  refine (apply_of a n c xa p5 m k5 xb cs5 w5 (by omega) (by omega) (HA.out.2.1.below HW5.out) HS.out.1 HB.out.2.1.1 HS.out.2.1 hr5 hk5).mono ?_
  rintro e w6 ⟨p6, c6, xs, rfl, hx6, hxe, hb6⟩
  have HW6 := Lib.hid (HW5.out.trans (hb6.mono HW5.out.size))
  have HSX := Lib.hid (small_of hxe HS.out.2.1)
  clear hb6 HW5 hr5 hk5 hxe
  go_wp2_with fail
  refine (of_any p6 m c6 xs q k f xc w6 (by omega) (by omega) hx6 HSX.out (HC.out.2.1.below HW6.out) HS.out.2.2).mono ?_
  rintro e w7 ⟨p7, k7, cs7, rfl, hr7, hk7, hb7⟩
  have hx7 := hx6.below hb7
  have HW7 := Lib.hid (HW6.out.trans (hb7.mono HW6.out.size))
  clear hb7 HW6 hx6
  go_wp2_with fail
  refine (apply_of p6 m c6 xs p7 k k7 xc cs7 w7 (by omega) (by omega) hx7 HSX.out HC.out.2.1.1 HS.out.2.2 hr7 hk7).mono ?_
  rintro e w8 ⟨p8, c8, ys, rfl, hy8, hye, hb8⟩
  have HW8 := Lib.hid (HW7.out.trans (hb8.mono HW7.out.size))
  have HY := Lib.hid (And.intro hy8 hye)
  clear hb8 HW7 hr7 hk7 hx7 hy8 hye
  go_wp2_with fail
  refine (of_any a n c xa q k f xc w8 (by omega) (by omega) (HA.out.2.1.below HW8.out) HS.out.1 (HC.out.2.1.below HW8.out) HS.out.2.2).mono ?_
  rintro e w9 ⟨p9, k9, cs9, rfl, hr9, hk9, hb9⟩
  have HY9 := Lib.hid (And.intro (HY.out.1.below hb9) HY.out.2)
  have HW9 := Lib.hid (HW8.out.trans (hb9.mono HW8.out.size))
  clear hb9 HW8 HY
  go_wp2_with fail
  refine (apply_of a n c xa p9 k k9 xc cs9 w9 (by omega) (by omega) (HA.out.2.1.below HW9.out) HS.out.1 HC.out.2.1.1 HS.out.2.2 hr9 hk9).mono ?_
  rintro e wA ⟨pA, cA, zs, rfl, hzA, hze, hbA⟩
  have HYA := Lib.hid (And.intro (HY9.out.1.below hbA) HY9.out.2)
  have HWA := Lib.hid (HW9.out.trans (hbA.mono HW9.out.size))
  have HZ := Lib.hid (And.intro hzA hze)
  clear hbA HW9 HY9 hr9 hk9 hzA hze
  go_wp2_with fail
  refine (same_any p8 k c8 ys q f xc wA (by omega) HYA.out.1 (HC.out.2.1.below HWA.out) HYA.out.2).mono ?_
  rintro e wB ⟨rfl, hbB⟩
  have HZB := Lib.hid (And.intro (HZ.out.1.below hbB) HZ.out.2)
  have HWB := Lib.hid (HWA.out.trans (hbB.mono HWA.out.size))
  clear hbB HWA HZ HYA
  go_wp2_with fail
  refine (same_any pA k cA zs q f xc wB (by omega) HZB.out.1 (HC.out.2.1.below HWB.out) HZB.out.2).mono ?_
  rintro e wC ⟨rfl, hbC⟩
  have HWC := Lib.hid (HWB.out.trans (hbC.mono HWB.out.size))
  clear hbC HWB HZB
  go_wp2
  go_ret
  exact ⟨rfl, HWC.out⟩
end Go.Proofs.Ytnfdbljeinlblaa
