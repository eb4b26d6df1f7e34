/- The reader of instructions: is, big, signed, form. -/
import Derived.Test.YtgcdeadfkljeaaaOpsA
import Derived.Test.YtgcdeadfkljeaaaCurOB
namespace Go.Proofs.Ytgcdeadfkljeaaa
open Go.RowKit
set_option linter.unusedVariables false
set_option linter.unusedSimpArgs false

abbrev RDO : TypeId := 88
def rdC (gc : Nat) : Array Value := #[.pointer (some ⟨gc, 0, none⟩)] ++ formC
theorem rdC_zero (gc : Nat) : (rdC gc)[0]? = some (.pointer (some ⟨gc, 0, none⟩)) := by
  unfold rdC
  rw [Array.getElem?_append_left (by simp)]
  rfl
theorem rdC_at (gc k : Nat) (hk : k < 202) : (rdC gc)[1 + k]? = some (.int .u8 ((formF k : Nat) : Int)) := by
  unfold rdC formC
  rw [Array.getElem?_append_right (by simp)]
  simp [hk, fmV]
/-- Where a cursor stands, and its error. -/
structure CS where
  p : Nat
  e : Int
/-- A reader: its cursor, the forms. -/
structure RSt (w : World) (gr gc : Nat) (L : List UInt8) (s : CS) : Prop where
  blk : Blk w gr RDO (rdC gc)
  cur : CurOk w gc L s.p s.e
  ne : gc < gr
section
variable {w w' : World} {gr gc : Nat} {L : List UInt8} {s s' : CS}
theorem RSt.below (h : RSt w gr gc L s) (hb : Below w.heap.size w w') : RSt w' gr gc L s := ⟨h.blk.below hb, h.cur.below hb, h.ne⟩
theorem RSt.moved (h : RSt w gr gc L s) (hc : CurOk w' gc L s'.p s'.e) (hg : w.grownBy w' (some gc)) : RSt w' gr gc L s' := ⟨h.blk.grown hg (fun e => by have := Option.some.inj e; have := h.ne; omega), hc, h.ne⟩
end
def failC (x : Int) (s : CS) : CS := ⟨s.p, failE s.e x⟩
def isC (b : Bool) (s : CS) : CS := if b then s else failC 2 s
def bigK (L : List UInt8) (m : Int) (s : CS) : Int × CS := (bigR (nextL L s.p s.e m (sizedB m)), ⟨nextAt L.length s.p s.e m (sizedB m), nextEr L.length s.p s.e m (sizedB m)⟩)
/-- The number that bytes are, the first one the highest. -/
def bigN (l : List UInt8) : Nat := l.foldl (fun a x => a * 256 + x.toNat) 0
theorem bigN_acc (l : List UInt8) (a : Nat) : l.foldl (fun a x => a * 256 + x.toNat) a = a * 256 ^ l.length + bigN l := by
  induction l generalizing a with
  | nil => simp [bigN]
  | cons x l ih =>
    have e : bigN (x :: l) = l.foldl (fun a x => a * 256 + x.toNat) (0 * 256 + x.toNat) := rfl
    rw [e, List.foldl_cons, ih, ih, List.length_cons, Nat.pow_succ, Nat.zero_mul, Nat.zero_add, Nat.add_mul, Nat.mul_assoc, Nat.mul_comm 256, Nat.add_assoc]
theorem bigN_cons (x : UInt8) (l : List UInt8) : bigN (x :: l) = x.toNat * 256 ^ l.length + bigN l := by
  have e : bigN (x :: l) = l.foldl (fun a x => a * 256 + x.toNat) (0 * 256 + x.toNat) := rfl
  rw [e, bigN_acc, Nat.zero_mul, Nat.zero_add]
theorem bigN_lt (l : List UInt8) : bigN l < 256 ^ l.length := by
  induction l with
  | nil => decide
  | cons x l ih =>
    have hx := x.toNat_lt
    rw [bigN_cons, List.length_cons, Nat.pow_succ]
    have : x.toNat * 256 ^ l.length ≤ 255 * 256 ^ l.length := Nat.mul_le_mul_right _ (by omega)
    omega
theorem bigN_take (l : List UInt8) (k : Nat) (h : k < l.length) : bigN (l.take (k + 1)) = bigN (l.take k) * 256 + l[k].toNat := by
  rw [List.take_succ_eq_append_getElem h]; simp only [bigN, List.foldl_append, List.foldl_cons, List.foldl_nil]
theorem bigR_nat (l : List UInt8) (h : l.length ≤ 8) : bigR l = ((bigN l : Nat) : Int) := by
  have key : ∀ k, k ≤ l.length → bigR (l.take k) = ((bigN (l.take k) : Nat) : Int) := by
    intro k
    induction k with
    | zero => intro _; rfl
    | succ k ih =>
      intro hk
      have ih := ih (by omega)
      have hlt := bigN_lt (l.take k)
      rw [List.length_take, Nat.min_eq_left (by omega)] at hlt
      have hb : bigN (l.take k) * 256 < 18446744073709551616 := by
        have h7 : 256 ^ k ≤ 256 ^ 7 := Nat.pow_le_pow_right (by decide) (by omega)
        have : (256 : Nat) ^ 7 = 72057594037927936 := by decide
        omega
      rw [bigR_take l k (by omega), bigN_take l k (by omega), ih]
      generalize bigN (l.take k) = a at *
      have hx := l[k].toNat_lt
      generalize l[k] = x at *
      unfold bigI
      have e3 : (a : Int) * 256 % 18446744073709551616 = ((a * 256 : Nat) : Int) := by omega
      rw [e3, u64_or_nat _ _ hb (by omega)]
      have h8 := Nat.two_pow_add_eq_or_of_lt (i := 8) (show x.toNat < 2 ^ 8 by omega) a
      rw [show 2 ^ 8 * a = a * 256 by omega] at h8
      rw [← h8]
  have := key l.length (Nat.le_refl _)
  rwa [List.take_length] at this
theorem nextL_m (l : List UInt8) (p : Nat) (er m : Int) (hm : m = 1 ∨ m = 2 ∨ m = 4) : (nextL l p er m (sizedB m)).length ≤ m.toNat := by
  unfold nextL
  split
  · simp; omega
  · simp
theorem bigK_lt (L : List UInt8) (m : Int) (s : CS) (hm : m = 1 ∨ m = 2 ∨ m = 4) : 0 ≤ (bigK L m s).1 ∧ (bigK L m s).1 < ((256 ^ m.toNat : Nat) : Int) := by
  have h1 := nextL_m L s.p s.e m hm
  show 0 ≤ bigR _ ∧ bigR _ < _
  rw [bigR_nat _ (by omega)]
  have h2 := bigN_lt (nextL L s.p s.e m (sizedB m))
  have h3 : 256 ^ (nextL L s.p s.e m (sizedB m)).length ≤ 256 ^ m.toNat := Nat.pow_le_pow_right (by decide) h1
  omega
/-- A number of m bytes, with its sign. -/
def sgnV (m v : Int) : Int := if m = 1 then (if v < 128 then v else v - 256) else if m = 2 then (if v < 32768 then v else v - 65536) else (if v < 2147483648 then v else v - 4294967296)
def sgnK (L : List UInt8) (m : Int) (s : CS) : Int × CS := (sgnV m (bigK L m s).1, (bigK L m s).2)
def formB (f : Nat) (wide : Bool) : Bool := f == 0 || (wide && f != 118 && f != 105)
def formK (x : Int) (wide : Bool) (s : CS) : Nat × CS :=
  let f := if x ≤ 201 then formF x.toNat else 0
  (f, if formB f wide then failC 9 s else s)
def RPost (gr gc : Nat) (L : List UInt8) (w : World) (v : Ending) (s : CS) (e : Ending) (w' : World) : Prop := e = v ∧ RSt w' gr gc L s ∧ w.grownBy w' (some gc)
section
variable {w : World} {gr gc : Nat} {L : List UInt8} {s : CS}
set_option maxRecDepth 100000 in
theorem rIs_any (b : Bool) (w : World) (h : RSt w gr gc L s) : Calls Try.prog 75 #[.pointer (some ⟨gr, 0, none⟩), .bool b] w (RPost gr gc L w (.returned (.tuple #[])) (isC b s)) := by
  have H := Lib.hid h
  have c0 : w.cell? ⟨gr, 0, none⟩ = some (.pointer (some ⟨gc, 0, none⟩)) := h.blk.cell (i := 0) (rdC_zero gc)
  clear h
  cases b with
  | true =>
    go_enter Try.func75, Try.ntmps75
    go_wp2
    go_end0
    exact ⟨rfl, H.out, World.grownBy.refl _ _⟩
  | false =>
    go_enter Try.func75, Try.ntmps75
    go_wp2_with fail
    refine (cFail_any gc L s.p s.e 2 w H.out.cur).mono ?_
    rintro e w1 ⟨rfl, hc1, hg1⟩
    have HF : Hid (RSt w1 gr gc L (failC 2 s) ∧ w.grownBy w1 (some gc)) := Lib.hid ⟨H.out.moved hc1 hg1, hg1⟩
    clear hc1 hg1
    go_wp2
    go_end0
    exact ⟨rfl, HF.out.1, HF.out.2⟩
set_option maxRecDepth 100000 in
theorem rBig_any (m : Int) (w : World) (h : RSt w gr gc L s) (hm : m = 1 ∨ m = 2 ∨ m = 4) : Calls Try.prog 72 #[.pointer (some ⟨gr, 0, none⟩), .int .i64 m] w (RPost gr gc L w (.returned (.int .i64 (bigK L m s).1)) (bigK L m s).2) := by
  have H := Lib.hid h
  have c0 : w.cell? ⟨gr, 0, none⟩ = some (.pointer (some ⟨gc, 0, none⟩)) := h.blk.cell (i := 0) (rdC_zero gc)
  have hlt := bigK_lt L m s hm
  have hp : (256 : Nat) ^ m.toNat ≤ 4294967296 := by rcases hm with rfl | rfl | rfl <;> decide
  have HN := Lib.hid (cBigGet_any gc L s.p s.e m w h.cur (by omega) (by omega))
  have HK : Hid (bigK L m s = (bigR (nextL L s.p s.e m (sizedB m)), ⟨nextAt L.length s.p s.e m (sizedB m), nextEr L.length s.p s.e m (sizedB m)⟩)) := Lib.hid rfl
  unfold NumPost at HN
  have hlt : 0 ≤ bigR (nextL L s.p s.e m (sizedB m)) ∧ bigR (nextL L s.p s.e m (sizedB m)) < 4294967296 := by
    have : (bigK L m s).1 = bigR (nextL L s.p s.e m (sizedB m)) := rfl
    omega
  rw [HK.out]
  generalize bigR (nextL L s.p s.e m (sizedB m)) = v at *
  clear h hm hp
  go_enter Try.func72, Try.ntmps72
  go_wp2_with fail
  refine HN.out.mono ?_
  rintro e w1 ⟨rfl, hc1, hg1⟩
  have HF := Lib.hid (And.intro (H.out.moved (s' := ⟨_, _⟩) hc1 hg1) hg1)
  clear hc1 hg1
  go_wp2
  go_ret
  exact ⟨rfl, HF.out.1, HF.out.2⟩
set_option maxRecDepth 100000 in
theorem rSigned_any (m : Int) (w : World) (h : RSt w gr gc L s) (hm : m = 1 ∨ m = 2 ∨ m = 4) : Calls Try.prog 74 #[.pointer (some ⟨gr, 0, none⟩), .int .i64 m] w (RPost gr gc L w (.returned (.int .i64 (sgnK L m s).1)) (sgnK L m s).2) := by
  have H := Lib.hid h
  have c0 : w.cell? ⟨gr, 0, none⟩ = some (.pointer (some ⟨gc, 0, none⟩)) := h.blk.cell (i := 0) (rdC_zero gc)
  have hlt := bigK_lt L m s hm
  have HN := Lib.hid (cBigGet_any gc L s.p s.e m w h.cur (by omega) (by omega))
  have HK : Hid (sgnK L m s = (sgnV m (bigR (nextL L s.p s.e m (sizedB m))), ⟨nextAt L.length s.p s.e m (sizedB m), nextEr L.length s.p s.e m (sizedB m)⟩)) := Lib.hid rfl
  unfold NumPost at HN
  have hlt : 0 ≤ bigR (nextL L s.p s.e m (sizedB m)) ∧ bigR (nextL L s.p s.e m (sizedB m)) < ((256 ^ m.toNat : Nat) : Int) := hlt
  rw [HK.out]
  generalize bigR (nextL L s.p s.e m (sizedB m)) = v at *
  clear h
  rcases hm with rfl | rfl | rfl
  · replace hlt : 0 ≤ v ∧ v < 256 := hlt
    have HV : Hid (wrap64 (v * 72057594037927936) / 72057594037927936 = sgnV 1 v) := Lib.hid (by unfold wrap64 sgnV; simp only [if_true, if_false, show ¬ ((2 : Int) = 1) by decide, show ¬ ((4 : Int) = 1) by decide, show ¬ ((4 : Int) = 2) by decide]; split <;> omega)
    go_enter Try.func74, Try.ntmps74
    go_wp2_with fail
    refine HN.out.mono ?_
    rintro e w1 ⟨rfl, hc1, hg1⟩
    have HF := Lib.hid (And.intro (H.out.moved (s' := ⟨_, _⟩) hc1 hg1) hg1)
    clear hc1 hg1
    go_wp2
    go_ret
    exact ⟨congrArg (fun x => Ending.returned (.int .i64 x)) HV.out, HF.out.1, HF.out.2⟩
  · replace hlt : 0 ≤ v ∧ v < 65536 := hlt
    have HV : Hid (wrap64 (v * 281474976710656) / 281474976710656 = sgnV 2 v) := Lib.hid (by unfold wrap64 sgnV; simp only [if_true, if_false, show ¬ ((2 : Int) = 1) by decide, show ¬ ((4 : Int) = 1) by decide, show ¬ ((4 : Int) = 2) by decide]; split <;> omega)
    go_enter Try.func74, Try.ntmps74
    go_wp2_with fail
    refine HN.out.mono ?_
    rintro e w1 ⟨rfl, hc1, hg1⟩
    have HF := Lib.hid (And.intro (H.out.moved (s' := ⟨_, _⟩) hc1 hg1) hg1)
    clear hc1 hg1
    go_wp2
    go_ret
    exact ⟨congrArg (fun x => Ending.returned (.int .i64 x)) HV.out, HF.out.1, HF.out.2⟩
  · replace hlt : 0 ≤ v ∧ v < 4294967296 := hlt
    have HV : Hid (wrap64 (v * 4294967296) / 4294967296 = sgnV 4 v) := Lib.hid (by unfold wrap64 sgnV; simp only [if_true, if_false, show ¬ ((2 : Int) = 1) by decide, show ¬ ((4 : Int) = 1) by decide, show ¬ ((4 : Int) = 2) by decide]; split <;> omega)
    go_enter Try.func74, Try.ntmps74
    go_wp2_with fail
    refine HN.out.mono ?_
    rintro e w1 ⟨rfl, hc1, hg1⟩
    have HF := Lib.hid (And.intro (H.out.moved (s' := ⟨_, _⟩) hc1 hg1) hg1)
    clear hc1 hg1
    go_wp2
    go_ret
    exact ⟨congrArg (fun x => Ending.returned (.int .i64 x)) HV.out, HF.out.1, HF.out.2⟩
set_option maxRecDepth 100000 in
theorem rForm_any (x : Int) (wide : Bool) (w : World) (h : RSt w gr gc L s) (hx : 0 ≤ x ∧ x ≤ 255) : Calls Try.prog 73 #[.pointer (some ⟨gr, 0, none⟩), .int .i64 x, .bool wide] w (RPost gr gc L w (.returned (.int .u8 (((formK x wide s).1 : Nat) : Int))) (formK x wide s).2) := by
  have H := Lib.hid h
  have c0 : w.cell? ⟨gr, 0, none⟩ = some (.pointer (some ⟨gc, 0, none⟩)) := h.blk.cell (i := 0) (rdC_zero gc)
  obtain ⟨k, rfl⟩ := Int.eq_ofNat_of_zero_le hx.1
  have HF0 := Lib.hid (fun e => cFail_any gc L s.p s.e e w h.cur)
  have hfk : formK (k : Int) wide s = ((if (k : Int) ≤ 201 then formF k else 0), if formB (if (k : Int) ≤ 201 then formF k else 0) wide then failC 9 s else s) := rfl
  by_cases h201 : (k : Int) ≤ 201
  · have c1 : w.cell? ⟨gr, 1 + k, none⟩ = some (.int .u8 ((formF k : Nat) : Int)) := h.blk.cell (i := 1 + k) (rdC_at gc k (by omega))
    rw [hfk, if_pos h201]
    have hfl := formF_lt k
    generalize formF k = f at *
    clear h hfk
    by_cases hf0 : f = 0
    · subst hf0
      rw [show formB 0 wide = true from rfl, if_pos rfl]
      go_enter Try.func73, Try.ntmps73
      go_wp2_with fail
      refine (HF0.out 9).mono ?_
      rintro e w1 ⟨rfl, hc1, hg1⟩
      have HF : Hid (RSt w1 gr gc L (failC 9 s) ∧ w.grownBy w1 (some gc)) := Lib.hid ⟨H.out.moved hc1 hg1, hg1⟩
      clear hc1 hg1
      go_wp2
      go_ret
      exact ⟨rfl, HF.out.1, HF.out.2⟩
    have cf0 : ((f : Int) == 0) = false := by simp; omega
    have nf0 : (f == 0) = false := by simpa using hf0
    cases wide with
    | false =>
      rw [show formB f false = false by unfold formB; rw [nf0]; rfl, if_neg (by decide)]
      clear nf0 hf0
      go_enter Try.func73, Try.ntmps73
      go_wp2_with fail
      go_ret
      exact ⟨rfl, H.out, World.grownBy.refl _ _⟩
    | true =>
      by_cases hv : f = 118
      · subst hv
        rw [show formB 118 true = false from rfl, if_neg (by decide)]
        clear nf0 hf0
        go_enter Try.func73, Try.ntmps73
        go_wp2_with fail
        go_ret
        exact ⟨rfl, H.out, World.grownBy.refl _ _⟩
      by_cases hi : f = 105
      · subst hi
        rw [show formB 105 true = false from rfl, if_neg (by decide)]
        clear nf0 hf0
        go_enter Try.func73, Try.ntmps73
        go_wp2_with fail
        go_ret
        exact ⟨rfl, H.out, World.grownBy.refl _ _⟩
      have cf1 : ((f : Int) != 118) = true := by simp; omega
      have cf2 : ((f : Int) != 105) = true := by simp; omega
      rw [show formB f true = true by unfold formB; rw [nf0]; simp [hv, hi], if_pos rfl]
      clear nf0 hf0 hv hi
      go_enter Try.func73, Try.ntmps73
      go_wp2_with fail
      refine (HF0.out 9).mono ?_
      rintro e w1 ⟨rfl, hc1, hg1⟩
      have HF : Hid (RSt w1 gr gc L (failC 9 s) ∧ w.grownBy w1 (some gc)) := Lib.hid ⟨H.out.moved hc1 hg1, hg1⟩
      clear hc1 hg1
      go_wp2
      go_ret
      exact ⟨rfl, HF.out.1, HF.out.2⟩
  · rw [hfk, if_neg h201]
    have hb : formB 0 wide = true := rfl
    rw [hb, if_pos rfl]
    clear h hfk
    go_enter Try.func73, Try.ntmps73
    go_wp2_with fail
    refine (HF0.out 9).mono ?_
    rintro e w1 ⟨rfl, hc1, hg1⟩
    have HF : Hid (RSt w1 gr gc L (failC 9 s) ∧ w.grownBy w1 (some gc)) := Lib.hid ⟨H.out.moved hc1 hg1, hg1⟩
    clear hc1 hg1
    go_wp2
    go_ret
    exact ⟨rfl, HF.out.1, HF.out.2⟩
end
end Go.Proofs.Ytgcdeadfkljeaaa
