/- The document's Less; PoolOrder walked. -/
import Derived.Test.YtbknkahakmfhkaaPooW
namespace Go.Proofs.Ytbknkahakmfhkaa
open Go.RowKit
set_option linter.unusedVariables false
set_option linter.unusedSimpArgs false

def lessK (a b : ValK) : Bool := if a.tag ≠ b.tag then decide (a.tag < b.tag) else if a.text ≠ b.text then ltS a.text b.text else if a.bits ≠ b.bits then decide (a.bits < b.bits) else if a.cls ≠ b.cls then ltS a.cls b.cls else if a.name ≠ b.name then ltS a.name b.name else ltS a.desc b.desc
theorem bytesLess_irr : ∀ l : List UInt8, Op.bytesLess l l = false
  | [] => rfl
  | a :: l => by simp [Op.bytesLess, bytesLess_irr l]
theorem ltS_irr (s : ByteArray) : ltS s s = false := bytesLess_irr _
theorem sgnI_eq (a : Int) : sgnI a a = 0 := by unfold sgnI; simp
theorem sgnS_eq (s : ByteArray) : sgnS s s = 0 := by unfold sgnS; rw [if_neg (by rw [ltS_irr]; decide)]; simp
theorem sgnI_ne {a b : Int} (h : a ≠ b) : sgnI a b ≠ 0 ∧ (sgnI a b < 0 ↔ a < b) := by
  unfold sgnI
  by_cases h1 : a < b
  · rw [if_pos h1]; exact ⟨by decide, by simp [h1]⟩
  · rw [if_neg h1, if_pos (by omega)]; exact ⟨by decide, by simp [h1]⟩
theorem sgnS_ne {a b : ByteArray} (h : a ≠ b) : sgnS a b ≠ 0 ∧ (sgnS a b < 0 ↔ ltS a b = true) := by
  unfold sgnS
  by_cases h1 : ltS a b = true
  · rw [if_pos h1]; exact ⟨by decide, by simp [h1]⟩
  · rw [if_neg h1]
    have h2 : (a.toList == b.toList) = false := by
      have : ¬ a.toList = b.toList := fun e => h (str_inj e)
      simpa using this
    rw [Bool.eq_false_iff.2 h1, h2]
    exact ⟨by decide, by simp⟩
theorem orK_cons {x : Int} {l : List Int} : orK (x :: l) = if x = 0 then orK l else x := rfl
theorem cmpK_law (a b : ValK) : (cmpK a b < 0 ↔ lessK a b = true) ∧ (cmpK a b = 0 ↔ a = b) := by
  obtain ⟨t, s, bi, cl, nm, ds⟩ := a
  obtain ⟨t', s', bi', cl', nm', ds'⟩ := b
  unfold cmpK cmpL lessK
  simp only [orK_cons, ValK.mk.injEq]
  by_cases h0 : t = t'
  · subst h0
    rw [if_pos (sgnI_eq _)]
    by_cases h1 : s = s'
    · subst h1
      rw [if_pos (sgnS_eq _)]
      by_cases h2 : bi = bi'
      · subst h2
        rw [if_pos (sgnI_eq _)]
        by_cases h3 : cl = cl'
        · subst h3
          rw [if_pos (sgnS_eq _)]
          by_cases h4 : nm = nm'
          · subst h4
            rw [if_pos (sgnS_eq _)]
            by_cases h5 : ds = ds'
            · subst h5
              rw [if_pos (sgnS_eq _)]
              simp [ltS_irr, orK]
            · obtain ⟨g1, g2⟩ := sgnS_ne h5
              rw [if_neg g1]
              refine ⟨?_, by simp [g1, h5]⟩
              rw [g2]; simp [h5]
          · obtain ⟨g1, g2⟩ := sgnS_ne h4
            rw [if_neg g1]
            refine ⟨?_, by simp [g1, h4]⟩
            rw [g2]; simp [h4]
        · obtain ⟨g1, g2⟩ := sgnS_ne h3
          rw [if_neg g1]
          refine ⟨?_, by simp [g1, h3]⟩
          rw [g2]; simp [h3]
      · obtain ⟨g1, g2⟩ := sgnI_ne h2
        rw [if_neg g1]
        refine ⟨?_, by simp [g1, h2]⟩
        rw [g2]; simp [h2]
    · obtain ⟨g1, g2⟩ := sgnS_ne h1
      rw [if_neg g1]
      refine ⟨?_, by simp [g1, h1]⟩
      rw [g2]; simp [h1]
  · obtain ⟨g1, g2⟩ := sgnI_ne h0
    rw [if_neg g1]
    refine ⟨?_, by simp [g1, h0]⟩
    rw [g2]; simp [h0]
set_option maxRecDepth 100000 in
set_option maxHeartbeats 8000000 in
theorem less_any (a b : ValK) (w : World) : Calls Try.prog 49 #[.agg a.arr, .agg b.arr] w fun e w' => e = .returned (.bool (lessK a b)) ∧ Below w.heap.size w w' := by
  have HA : Hid (Blk ((w.alloc (.cells a.arr VAL)).alloc (.cells b.arr VAL)) w.heap.size VAL a.arr) := Lib.hid ((Blk.new _ _ _).below (below_alloc _ _))
  have HB : Hid (Blk ((w.alloc (.cells a.arr VAL)).alloc (.cells b.arr VAL)) (w.heap.size + 1) VAL b.arr) := Lib.hid (by
    have := Blk.new (w.alloc (.cells a.arr VAL)) VAL b.arr
    rwa [show (w.alloc (.cells a.arr VAL)).heap.size = w.heap.size + 1 by simp] at this)
  have HW : Hid (Below w.heap.size w ((w.alloc (.cells a.arr VAL)).alloc (.cells b.arr VAL))) := Lib.hid ((below_alloc _ _).alloc (below_alloc _ _).size _)
  have HL : Hid (lessK a b = lessK a b) := Lib.hid rfl
  obtain ⟨r, hr⟩ : ∃ r, r = lessK a b := ⟨_, rfl⟩
  rw [← hr]
  have HR := Lib.hid hr
  clear hr HL
  obtain ⟨t, s, bi, cl, nm, ds⟩ := a
  obtain ⟨t', s', bi', cl', nm', ds'⟩ := b
  simp only [ValK.arr] at HA HB HW ⊢
  by_cases h0 : t = t'
  · subst h0
    by_cases h1 : s = s'
    · subst h1
      by_cases h2 : bi = bi'
      · subst h2
        by_cases h3 : cl = cl'
        · subst h3
          by_cases h4 : nm = nm'
          · subst h4
            have HV : Hid (r = Op.bytesLess ds.toList ds'.toList) := Lib.hid (by rw [HR.out]; unfold lessK; simp only [ne_eq, not_true_eq_false, if_false]; rfl)
            have c0 := HA.out.cell (i := 0) rfl
            have d0 := HB.out.cell (i := 0) rfl
            have c1 := HA.out.cell (i := 1) rfl
            have d1 := HB.out.cell (i := 1) rfl
            have c2 := HA.out.cell (i := 2) rfl
            have d2 := HB.out.cell (i := 2) rfl
            have c3 := HA.out.cell (i := 3) rfl
            have d3 := HB.out.cell (i := 3) rfl
            have c4 := HA.out.cell (i := 4) rfl
            have d4 := HB.out.cell (i := 4) rfl
            have c5 := HA.out.cell (i := 5) rfl
            have d5 := HB.out.cell (i := 5) rfl
            go_enter Try.func49, Try.ntmps49
            go_wp2_with fail
            go_ret
            exact ⟨by rw [HV.out] <;> rfl, HW.out⟩
          · have g0 : ¬ nm.toList = nm'.toList := fun e => h4 (str_inj e)
            have g1 : (nm.toList == nm'.toList) = false := by simpa using g0
            have HV : Hid (r = Op.bytesLess nm.toList nm'.toList) := Lib.hid (by rw [HR.out]; unfold lessK; simp only [ne_eq, not_true_eq_false, if_false, h4, not_false_eq_true, if_true]; rfl)
            have c0 := HA.out.cell (i := 0) rfl
            have d0 := HB.out.cell (i := 0) rfl
            have c1 := HA.out.cell (i := 1) rfl
            have d1 := HB.out.cell (i := 1) rfl
            have c2 := HA.out.cell (i := 2) rfl
            have d2 := HB.out.cell (i := 2) rfl
            have c3 := HA.out.cell (i := 3) rfl
            have d3 := HB.out.cell (i := 3) rfl
            have c4 := HA.out.cell (i := 4) rfl
            have d4 := HB.out.cell (i := 4) rfl
            go_enter Try.func49, Try.ntmps49
            go_wp2_with fail
            go_ret
            exact ⟨by rw [HV.out] <;> rfl, HW.out⟩
        · have g0 : ¬ cl.toList = cl'.toList := fun e => h3 (str_inj e)
          have g1 : (cl.toList == cl'.toList) = false := by simpa using g0
          have HV : Hid (r = Op.bytesLess cl.toList cl'.toList) := Lib.hid (by rw [HR.out]; unfold lessK; simp only [ne_eq, not_true_eq_false, if_false, h3, not_false_eq_true, if_true]; rfl)
          have c0 := HA.out.cell (i := 0) rfl
          have d0 := HB.out.cell (i := 0) rfl
          have c1 := HA.out.cell (i := 1) rfl
          have d1 := HB.out.cell (i := 1) rfl
          have c2 := HA.out.cell (i := 2) rfl
          have d2 := HB.out.cell (i := 2) rfl
          have c3 := HA.out.cell (i := 3) rfl
          have d3 := HB.out.cell (i := 3) rfl
          go_enter Try.func49, Try.ntmps49
          go_wp2_with fail
          go_ret
          exact ⟨by rw [HV.out] <;> rfl, HW.out⟩
      · have g1 : (bi == bi') = false := by simpa using h2
        by_cases hlt : bi < bi'
        · have HV : Hid (r = true) := Lib.hid (by rw [HR.out]; unfold lessK; simp only [ne_eq, not_true_eq_false, if_false, h2, not_false_eq_true, if_true]; simp; omega)
          have c0 := HA.out.cell (i := 0) rfl
          have d0 := HB.out.cell (i := 0) rfl
          have c1 := HA.out.cell (i := 1) rfl
          have d1 := HB.out.cell (i := 1) rfl
          have c2 := HA.out.cell (i := 2) rfl
          have d2 := HB.out.cell (i := 2) rfl
          go_enter Try.func49, Try.ntmps49
          go_wp2_with fail
          go_ret
          exact ⟨by rw [HV.out] <;> rfl, HW.out⟩
        · have HV : Hid (r = false) := Lib.hid (by rw [HR.out]; unfold lessK; simp only [ne_eq, not_true_eq_false, if_false, h2, not_false_eq_true, if_true]; simp; omega)
          have hge : ¬ bi < bi' := hlt
          have c0 := HA.out.cell (i := 0) rfl
          have d0 := HB.out.cell (i := 0) rfl
          have c1 := HA.out.cell (i := 1) rfl
          have d1 := HB.out.cell (i := 1) rfl
          have c2 := HA.out.cell (i := 2) rfl
          have d2 := HB.out.cell (i := 2) rfl
          go_enter Try.func49, Try.ntmps49
          go_wp2_with fail
          go_ret
          exact ⟨by rw [HV.out] <;> rfl, HW.out⟩
    · have g0 : ¬ s.toList = s'.toList := fun e => h1 (str_inj e)
      have g1 : (s.toList == s'.toList) = false := by simpa using g0
      have HV : Hid (r = Op.bytesLess s.toList s'.toList) := Lib.hid (by rw [HR.out]; unfold lessK; simp only [ne_eq, not_true_eq_false, if_false, h1, not_false_eq_true, if_true]; rfl)
      have c0 := HA.out.cell (i := 0) rfl
      have d0 := HB.out.cell (i := 0) rfl
      have c1 := HA.out.cell (i := 1) rfl
      have d1 := HB.out.cell (i := 1) rfl
      go_enter Try.func49, Try.ntmps49
      go_wp2_with fail
      go_ret
      exact ⟨by rw [HV.out] <;> rfl, HW.out⟩
  · have g1 : (t == t') = false := by simpa using h0
    by_cases hlt : t < t'
    · have HV : Hid (r = true) := Lib.hid (by rw [HR.out]; unfold lessK; simp only [ne_eq, not_true_eq_false, if_false, h0, not_false_eq_true, if_true]; simp; omega)
      have c0 := HA.out.cell (i := 0) rfl
      have d0 := HB.out.cell (i := 0) rfl
      go_enter Try.func49, Try.ntmps49
      go_wp2_with fail
      go_ret
      exact ⟨by rw [HV.out] <;> rfl, HW.out⟩
    · have HV : Hid (r = false) := Lib.hid (by rw [HR.out]; unfold lessK; simp only [ne_eq, not_true_eq_false, if_false, h0, not_false_eq_true, if_true]; simp; omega)
      have hge : ¬ t < t' := hlt
      have c0 := HA.out.cell (i := 0) rfl
      have d0 := HB.out.cell (i := 0) rfl
      go_enter Try.func49, Try.ntmps49
      go_wp2_with fail
      go_ret
      exact ⟨by rw [HV.out] <;> rfl, HW.out⟩
end Go.Proofs.Ytbknkahakmfhkaa
