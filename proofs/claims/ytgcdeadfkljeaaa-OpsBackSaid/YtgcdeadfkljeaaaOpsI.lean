/- Writing instructions: right. -/
import Derived.Test.YtgcdeadfkljeaaaOpsH
namespace Go.Proofs.Ytgcdeadfkljeaaa
open Go.RowKit
set_option linter.unusedVariables false
set_option linter.unusedSimpArgs false

theorem size_sto8 : (Try.prog.info? STO).map (·.size) = some 8 := by kernel_rfl
def chainK (t : Bool) : List Int → Bool
  | a :: b :: r => (decide (a < b) && (!t || b - a == 1)) && chainK t (b :: r)
  | _ => true
theorem chainK_step {t : Bool} {l : List Int} {i : Nat} {x y : Int} (hx : l[i]? = some x) (hy : l[i + 1]? = some y) : chainK t (l.drop i) = ((decide (x < y) && (!t || y - x == 1)) && chainK t (l.drop (i + 1))) := by
  have h1 := (List.getElem?_eq_some_iff.1 hx)
  have h2 := (List.getElem?_eq_some_iff.1 hy)
  rw [List.drop_eq_getElem_cons h1.1, List.drop_eq_getElem_cons h2.1, h1.2, h2.2, chainK]
theorem chainK_end {t : Bool} {l : List Int} {i : Nat} (h : l.length ≤ i + 1) : chainK t (l.drop i) = true := by
  have : (l.drop i).length ≤ 1 := by rw [List.length_drop]; omega
  match hd : l.drop i, this with
  | [], _ => rfl
  | [a], _ => rfl
def rightK (st : StepK) (f : Nat) : Bool :=
  if f = 102 ∨ f = 109 then decide (1 ≤ st.var) && decide (st.var ≤ 255)
  else if f = 97 then decide (4 ≤ st.var) && decide (st.var ≤ 11)
  else if f = 116 ∨ f = 108 then (sizedK st && !(f == 116 && st.keys.length == 0)) && chainK (f == 116) (st.keys.drop 0)
  else true
section
variable {st : StepK} {ka : Option Addr} {kn kc : Nat} {ta : Option Addr} {tn tc : Nat}
set_option maxRecDepth 100000 in
set_option maxHeartbeats 8000000 in
theorem right_108 (w : World) (h : StvOk w st ka kn kc ta tn tc) : Calls Try.prog 48 #[stV st ka kn kc ta tn tc, .int .u8 108] w fun e w' => e = .returned (.bool (rightK st 108)) ∧ Below w.heap.size w w' := by
  have mixed : Try.prog.follows .mixedOrders = true := by kernel_rfl
  have hkb := h.kb
  have HK := Lib.hid h
  have HBO : Hid (Blk (w.alloc (.cells #[.int .i64 st.at', .int .i64 st.op, .int .i64 st.var, .int .i64 st.num, .int .i64 st.pool, .int .i64 st.goal, .slice ka kn kc, .slice ta tn tc] STO)) w.heap.size STO #[.int .i64 st.at', .int .i64 st.op, .int .i64 st.var, .int .i64 st.num, .int .i64 st.pool, .int .i64 st.goal, .slice ka kn kc, .slice ta tn tc] ∧ Below w.heap.size w (w.alloc (.cells #[.int .i64 st.at', .int .i64 st.op, .int .i64 st.var, .int .i64 st.num, .int .i64 st.pool, .int .i64 st.goal, .slice ka kn kc, .slice ta tn tc] STO))) := Lib.hid ⟨Blk.new _ _ _, below_alloc _ _⟩
  have HSZ := Lib.hid (fun w' => sized18_any (st := st) (ka := ka) (kn := kn) (kc := kc) (ta := ta) (tn := tn) (tc := tc) w' h.kl h.tl)
  have HRK : Hid (rightK st 108 = ((sizedK st && !(false && kn == 0)) && chainK false (st.keys.drop 0))) := Lib.hid (by rw [← h.kl]; rfl)
  obtain ⟨res, hres⟩ : ∃ r, r = rightK st 108 := ⟨_, rfl⟩
  rw [← hres]
  rw [HRK.out] at hres
  obtain ⟨tot, htot⟩ : ∃ t, t = chainK false (st.keys.drop 0) := ⟨_, rfl⟩
  rw [← htot] at hres
  have HTOT := Lib.hid htot
  generalize sizedK st = sz at *
  have HRES := Lib.hid hres
  clear h htot HRK hres
  go_enter Try.func48, Try.ntmps48
  go_wp2_with (refine wpList_load_row rfl _ _ rfl _ rfl _ _ _ _ HBO.out.1 Try.underlying48 rfl size_sto8 ?_)
  refine (HSZ.out _).mono ?_
  rintro e w2 ⟨rfl, hb2⟩
  obtain ⟨o, ho⟩ : ∃ o, o = w.heap.size := ⟨_, rfl⟩
  have HB2 : Hid (Blk w2 o STO #[.int .i64 st.at', .int .i64 st.op, .int .i64 st.var, .int .i64 st.num, .int .i64 st.pool, .int .i64 st.goal, .slice ka kn kc, .slice ta tn tc] ∧ Below w.heap.size w w2) := Lib.hid ⟨by rw [ho]; exact HBO.out.1.below hb2, HBO.out.2.trans (hb2.mono HBO.out.2.size)⟩
  rw [← ho]
  clear ho hb2 HBO HSZ
  cases sz with
  | false =>
    go_wp2
    go_ret
    exact ⟨by rw [HRES.out] <;> rfl, HB2.out.2⟩
  | true =>
    have q6 : w2.cell? ⟨o, 6, none⟩ = some (.slice ka kn kc) := HB2.out.1.cell (i := 6) rfl
    by_cases hk0 : kn = 0 ∧ false = true
    · exact absurd hk0.2 (by decide)
    · have hz2 : (false && (kn == 0)) = false := by first | rfl | (simp; simp at hk0; omega)
      have hz : false = true → ((kn : Int) == 0) = false := fun hb => by simp; simp [hb] at hk0; omega
      clear hz
      have HRT : Hid (res = tot) := Lib.hid (by rw [HRES.out, hz2]; rfl)
      clear hk0 hz2
      go_wp2
      go_loopw [5] (fun x5 wr => ∃ i : Nat, 1 ≤ i ∧ (i = 1 ∨ i ≤ kn) ∧ x5 = .int .i64 (i : Int) ∧ Hid (chainK false (st.keys.drop (i - 1)) = tot) ∧ Hid (Blk wr o STO #[.int .i64 st.at', .int .i64 st.op, .int .i64 st.var, .int .i64 st.num, .int .i64 st.pool, .int .i64 st.goal, .slice ka kn kc, .slice ta tn tc] ∧ Below w.heap.size w wr)) (fun x5 _ => kn + 1 - (intOf x5).toNat)
      case atStart => exact ⟨1, Nat.le_refl _, .inl rfl, rfl, Lib.hid HTOT.out.symm, HB2⟩
      case round =>
        clear HB2 q6
        obtain ⟨i, hi1, hi2, rfl, hp, hW⟩ := hrel
        have q6 : wr.cell? ⟨o, 6, none⟩ = some (.slice ka kn kc) := hW.out.1.cell (i := 6) rfl
        by_cases hin : i < kn
        · obtain ⟨j, rfl⟩ : ∃ j, i = j + 1 := ⟨i - 1, by omega⟩
          have hr := HK.out.rk.below hW.out.2
          have hl := HK.out.kl
          obtain ⟨b, off, rfl, -, hc1⟩ := hr.at (k := j) (by omega)
          obtain ⟨b', off', e', -, hc2⟩ := hr.at (k := j + 1) (by omega)
          obtain ⟨rfl, rfl⟩ : b = b' ∧ off = off' := by simpa using e'
          have hx : st.keys[j]? = some (st.keys[j]'(by omega)) := List.getElem?_eq_getElem _
          have hy : st.keys[j + 1]? = some (st.keys[j + 1]'(by omega)) := List.getElem?_eq_getElem _
          have hxr := HK.out.kr _ (List.getElem_mem (show j < st.keys.length by omega))
          have hyr := HK.out.kr _ (List.getElem_mem (show j + 1 < st.keys.length by omega))
          generalize st.keys[j]'(by omega) = x at *
          generalize st.keys[j + 1]'(by omega) = y at *
          have HP2 : Hid (tot = ((decide (x < y) && (!false || y - x == 1)) && chainK false (st.keys.drop (j + 1)))) := Lib.hid (by rw [← hp.out]; exact chainK_step hx hy)
          replace hc1 : wr.cell? ⟨b, off + j, none⟩ = some (.int .i64 x) := hc1
          replace hc2 : wr.cell? ⟨b, off + (j + 1), none⟩ = some (.int .i64 y) := hc2
          have hw0 : IntKind.i64.wrap (((j : Int) + 1) - 1) = (j : Int) := by rw [show ((j : Int) + 1) - 1 = (j : Int) by omega]; exact IntWalk.i64_in _ (by omega)
          have hw1 : IntKind.i64.wrap (y - x) = y - x := IntWalk.i64_in _ (by omega)
          have gi : ((j : Int) + 1 < (kn : Int)) = True := by simp; omega
          have p1 : 0 ≤ (j : Int) := by omega
          have p2 : (j : Int) < (kn : Int) := by omega
          clear e' hx hy hp hr hl
          by_cases hlt : x < y
          · have c1 : decide (y ≤ x) = false := decide_eq_false (by omega)
            have c1b : decide (x < y) = true := decide_eq_true hlt
            have HGOOD : Hid (chainK false (st.keys.drop (j + 1)) = tot) := Lib.hid (by rw [HP2.out, c1b]; rfl)
            clear hlt
            go_wp2_with fail
            go_quiet (fail)
            go_wp2
            go_roundw
            case rel => exact ⟨j + 1 + 1, by omega, by omega, by go_num, HGOOD, Lib.hid ⟨hW.out.1, hW.out.2.trans (below_drewN _ _ _)⟩⟩
            case measure => simp [intOf] <;> omega
          · have c1 : decide (y ≤ x) = true := decide_eq_true (by omega)
            have HBAD : Hid (tot = false) := Lib.hid (by rw [HP2.out, decide_eq_false hlt]; rfl)
            clear hlt
            go_wp2_with fail
            go_quiet (fail)
            go_wp2
            go_ret
            exact ⟨by rw [HRT.out, HBAD.out] <;> rfl, hW.out.2.trans (below_drewN _ _ _)⟩
        · have HEND : Hid (tot = true) := Lib.hid (by rw [← hp.out]; exact chainK_end (by rw [HK.out.kl]; omega))
          have gi : ((i : Int) < (kn : Int)) = False := by simp; omega
          clear hp
          go_wp2
          go_ret
          exact ⟨by rw [HRT.out, HEND.out] <;> rfl, hW.out.2⟩
set_option maxRecDepth 100000 in
set_option maxHeartbeats 8000000 in
theorem right_116 (w : World) (h : StvOk w st ka kn kc ta tn tc) : Calls Try.prog 48 #[stV st ka kn kc ta tn tc, .int .u8 116] w fun e w' => e = .returned (.bool (rightK st 116)) ∧ Below w.heap.size w w' := by
  have mixed : Try.prog.follows .mixedOrders = true := by kernel_rfl
  have hkb := h.kb
  have HK := Lib.hid h
  have HBO : Hid (Blk (w.alloc (.cells #[.int .i64 st.at', .int .i64 st.op, .int .i64 st.var, .int .i64 st.num, .int .i64 st.pool, .int .i64 st.goal, .slice ka kn kc, .slice ta tn tc] STO)) w.heap.size STO #[.int .i64 st.at', .int .i64 st.op, .int .i64 st.var, .int .i64 st.num, .int .i64 st.pool, .int .i64 st.goal, .slice ka kn kc, .slice ta tn tc] ∧ Below w.heap.size w (w.alloc (.cells #[.int .i64 st.at', .int .i64 st.op, .int .i64 st.var, .int .i64 st.num, .int .i64 st.pool, .int .i64 st.goal, .slice ka kn kc, .slice ta tn tc] STO))) := Lib.hid ⟨Blk.new _ _ _, below_alloc _ _⟩
  have HSZ := Lib.hid (fun w' => sized18_any (st := st) (ka := ka) (kn := kn) (kc := kc) (ta := ta) (tn := tn) (tc := tc) w' h.kl h.tl)
  have HRK : Hid (rightK st 116 = ((sizedK st && !(true && kn == 0)) && chainK true (st.keys.drop 0))) := Lib.hid (by rw [← h.kl]; rfl)
  obtain ⟨res, hres⟩ : ∃ r, r = rightK st 116 := ⟨_, rfl⟩
  rw [← hres]
  rw [HRK.out] at hres
  obtain ⟨tot, htot⟩ : ∃ t, t = chainK true (st.keys.drop 0) := ⟨_, rfl⟩
  rw [← htot] at hres
  have HTOT := Lib.hid htot
  generalize sizedK st = sz at *
  have HRES := Lib.hid hres
  clear h htot HRK hres
  go_enter Try.func48, Try.ntmps48
  go_wp2_with (refine wpList_load_row rfl _ _ rfl _ rfl _ _ _ _ HBO.out.1 Try.underlying48 rfl size_sto8 ?_)
  refine (HSZ.out _).mono ?_
  rintro e w2 ⟨rfl, hb2⟩
  obtain ⟨o, ho⟩ : ∃ o, o = w.heap.size := ⟨_, rfl⟩
  have HB2 : Hid (Blk w2 o STO #[.int .i64 st.at', .int .i64 st.op, .int .i64 st.var, .int .i64 st.num, .int .i64 st.pool, .int .i64 st.goal, .slice ka kn kc, .slice ta tn tc] ∧ Below w.heap.size w w2) := Lib.hid ⟨by rw [ho]; exact HBO.out.1.below hb2, HBO.out.2.trans (hb2.mono HBO.out.2.size)⟩
  rw [← ho]
  clear ho hb2 HBO HSZ
  cases sz with
  | false =>
    go_wp2
    go_ret
    exact ⟨by rw [HRES.out] <;> rfl, HB2.out.2⟩
  | true =>
    have q6 : w2.cell? ⟨o, 6, none⟩ = some (.slice ka kn kc) := HB2.out.1.cell (i := 6) rfl
    by_cases hk0 : kn = 0 ∧ true = true
    · have HK0 := Lib.hid hk0
      have hz : ((kn : Int) == 0) = true := by simp; omega
      have HZ : Hid (res = false) := Lib.hid (by rw [HRES.out, show (kn == 0) = true by simp; omega, hk0.2]; rfl)
      clear hk0
      go_wp2
      go_ret
      exact ⟨by rw [HZ.out] <;> rfl, HB2.out.2⟩
    · have hz2 : (true && (kn == 0)) = false := by first | rfl | (simp; simp at hk0; omega)
      have hz : true = true → ((kn : Int) == 0) = false := fun hb => by simp; simp [hb] at hk0; omega
      have hz := hz rfl
      have HRT : Hid (res = tot) := Lib.hid (by rw [HRES.out, hz2]; rfl)
      clear hk0 hz2
      go_wp2
      go_loopw [5] (fun x5 wr => ∃ i : Nat, 1 ≤ i ∧ (i = 1 ∨ i ≤ kn) ∧ x5 = .int .i64 (i : Int) ∧ Hid (chainK true (st.keys.drop (i - 1)) = tot) ∧ Hid (Blk wr o STO #[.int .i64 st.at', .int .i64 st.op, .int .i64 st.var, .int .i64 st.num, .int .i64 st.pool, .int .i64 st.goal, .slice ka kn kc, .slice ta tn tc] ∧ Below w.heap.size w wr)) (fun x5 _ => kn + 1 - (intOf x5).toNat)
      case atStart => exact ⟨1, Nat.le_refl _, .inl rfl, rfl, Lib.hid HTOT.out.symm, HB2⟩
      case round =>
        clear HB2 q6
        obtain ⟨i, hi1, hi2, rfl, hp, hW⟩ := hrel
        have q6 : wr.cell? ⟨o, 6, none⟩ = some (.slice ka kn kc) := hW.out.1.cell (i := 6) rfl
        by_cases hin : i < kn
        · obtain ⟨j, rfl⟩ : ∃ j, i = j + 1 := ⟨i - 1, by omega⟩
          have hr := HK.out.rk.below hW.out.2
          have hl := HK.out.kl
          obtain ⟨b, off, rfl, -, hc1⟩ := hr.at (k := j) (by omega)
          obtain ⟨b', off', e', -, hc2⟩ := hr.at (k := j + 1) (by omega)
          obtain ⟨rfl, rfl⟩ : b = b' ∧ off = off' := by simpa using e'
          have hx : st.keys[j]? = some (st.keys[j]'(by omega)) := List.getElem?_eq_getElem _
          have hy : st.keys[j + 1]? = some (st.keys[j + 1]'(by omega)) := List.getElem?_eq_getElem _
          have hxr := HK.out.kr _ (List.getElem_mem (show j < st.keys.length by omega))
          have hyr := HK.out.kr _ (List.getElem_mem (show j + 1 < st.keys.length by omega))
          generalize st.keys[j]'(by omega) = x at *
          generalize st.keys[j + 1]'(by omega) = y at *
          have HP2 : Hid (tot = ((decide (x < y) && (!true || y - x == 1)) && chainK true (st.keys.drop (j + 1)))) := Lib.hid (by rw [← hp.out]; exact chainK_step hx hy)
          replace hc1 : wr.cell? ⟨b, off + j, none⟩ = some (.int .i64 x) := hc1
          replace hc2 : wr.cell? ⟨b, off + (j + 1), none⟩ = some (.int .i64 y) := hc2
          have hw0 : IntKind.i64.wrap (((j : Int) + 1) - 1) = (j : Int) := by rw [show ((j : Int) + 1) - 1 = (j : Int) by omega]; exact IntWalk.i64_in _ (by omega)
          have hw1 : IntKind.i64.wrap (y - x) = y - x := IntWalk.i64_in _ (by omega)
          have gi : ((j : Int) + 1 < (kn : Int)) = True := by simp; omega
          have p1 : 0 ≤ (j : Int) := by omega
          have p2 : (j : Int) < (kn : Int) := by omega
          clear e' hx hy hp hr hl
          by_cases hlt : x < y
          · have c1 : decide (y ≤ x) = false := decide_eq_false (by omega)
            have c1b : decide (x < y) = true := decide_eq_true hlt
            by_cases h1 : y - x = 1
            · have c2 : (y - x == 1) = true := by simp [h1]
              have c3 : (y - x != 1) = false := by simp [h1]
              have HGOOD : Hid (chainK true (st.keys.drop (j + 1)) = tot) := Lib.hid (by rw [HP2.out, c1b, c2]; rfl)
              clear hlt h1
              go_wp2_with fail
              go_quiet (fail)
              go_wp2
              go_roundw
              case rel => exact ⟨j + 1 + 1, by omega, by omega, by go_num, HGOOD, Lib.hid ⟨hW.out.1, hW.out.2.trans (below_drewN _ _ _)⟩⟩
              case measure => simp [intOf] <;> omega
            · have c2 : (y - x == 1) = false := by simp [h1]
              have c3 : (y - x != 1) = true := by simp [h1]
              have HBAD : Hid (tot = false) := Lib.hid (by rw [HP2.out, c1b, c2]; rfl)
              clear hlt h1
              go_wp2_with fail
              go_quiet (fail)
              go_wp2
              go_ret
              exact ⟨by rw [HRT.out, HBAD.out] <;> rfl, hW.out.2.trans (below_drewN _ _ _)⟩
          · have c1 : decide (y ≤ x) = true := decide_eq_true (by omega)
            have HBAD : Hid (tot = false) := Lib.hid (by rw [HP2.out, decide_eq_false hlt]; rfl)
            clear hlt
            go_wp2_with fail
            go_quiet (fail)
            go_wp2
            go_ret
            exact ⟨by rw [HRT.out, HBAD.out] <;> rfl, hW.out.2.trans (below_drewN _ _ _)⟩
        · have HEND : Hid (tot = true) := Lib.hid (by rw [← hp.out]; exact chainK_end (by rw [HK.out.kl]; omega))
          have gi : ((i : Int) < (kn : Int)) = False := by simp; omega
          clear hp
          go_wp2
          go_ret
          exact ⟨by rw [HRT.out, HEND.out] <;> rfl, hW.out.2⟩
set_option maxRecDepth 100000 in
theorem right_102 (w : World) : Calls Try.prog 48 #[stV st ka kn kc ta tn tc, .int .u8 102] w fun e w' => e = .returned (.bool (rightK st 102)) ∧ Below w.heap.size w w' := by
  have HRK : Hid (rightK st 102 = (decide (1 ≤ st.var) && decide (st.var ≤ 255))) := Lib.hid rfl
  rw [HRK.out]
  by_cases h1 : 1 ≤ st.var
  · have c1 : decide (1 ≤ st.var) = true := decide_eq_true h1
    rw [c1]
    clear h1 HRK
    go_enter Try.func48, Try.ntmps48
    go_wp2
    go_ret
    exact ⟨by simp, below_alloc _ _⟩
  · have c1 : decide (1 ≤ st.var) = false := decide_eq_false h1
    rw [c1]
    clear h1 HRK
    go_enter Try.func48, Try.ntmps48
    go_wp2
    go_ret
    exact ⟨by simp, below_alloc _ _⟩
set_option maxRecDepth 100000 in
theorem right_109 (w : World) : Calls Try.prog 48 #[stV st ka kn kc ta tn tc, .int .u8 109] w fun e w' => e = .returned (.bool (rightK st 109)) ∧ Below w.heap.size w w' := by
  have HRK : Hid (rightK st 109 = (decide (1 ≤ st.var) && decide (st.var ≤ 255))) := Lib.hid rfl
  rw [HRK.out]
  by_cases h1 : 1 ≤ st.var
  · have c1 : decide (1 ≤ st.var) = true := decide_eq_true h1
    rw [c1]
    clear h1 HRK
    go_enter Try.func48, Try.ntmps48
    go_wp2
    go_ret
    exact ⟨by simp, below_alloc _ _⟩
  · have c1 : decide (1 ≤ st.var) = false := decide_eq_false h1
    rw [c1]
    clear h1 HRK
    go_enter Try.func48, Try.ntmps48
    go_wp2
    go_ret
    exact ⟨by simp, below_alloc _ _⟩
set_option maxRecDepth 100000 in
theorem right_97 (w : World) : Calls Try.prog 48 #[stV st ka kn kc ta tn tc, .int .u8 97] w fun e w' => e = .returned (.bool (rightK st 97)) ∧ Below w.heap.size w w' := by
  have HRK : Hid (rightK st 97 = (decide (4 ≤ st.var) && decide (st.var ≤ 11))) := Lib.hid rfl
  rw [HRK.out]
  by_cases h1 : 4 ≤ st.var
  · have c1 : decide (4 ≤ st.var) = true := decide_eq_true h1
    rw [c1]
    clear h1 HRK
    go_enter Try.func48, Try.ntmps48
    go_wp2
    go_ret
    exact ⟨by simp, below_alloc _ _⟩
  · have c1 : decide (4 ≤ st.var) = false := decide_eq_false h1
    rw [c1]
    clear h1 HRK
    go_enter Try.func48, Try.ntmps48
    go_wp2
    go_ret
    exact ⟨by simp, below_alloc _ _⟩
set_option maxRecDepth 100000 in
theorem right_any (f : Nat) (w : World) (hf : f < 256) (h : StvOk w st ka kn kc ta tn tc) : Calls Try.prog 48 #[stV st ka kn kc ta tn tc, .int .u8 (f : Int)] w fun e w' => e = .returned (.bool (rightK st f)) ∧ Below w.heap.size w w' := by
  by_cases h1 : f = 102
  · subst h1; exact right_102 w
  by_cases h2 : f = 109
  · subst h2; exact right_109 w
  by_cases h3 : f = 97
  · subst h3; exact right_97 w
  by_cases h4 : f = 116
  · subst h4; exact right_116 w h
  by_cases h5 : f = 108
  · subst h5; exact right_108 w h
  have HRK : Hid (rightK st f = true) := Lib.hid (by unfold rightK; rw [if_neg (by omega), if_neg h3, if_neg (by omega)])
  have e1 : ((f : Int) == 102) = false := by simp; omega
  have e2 : ((f : Int) == 109) = false := by simp; omega
  have e3 : ((f : Int) == 97) = false := by simp; omega
  have e4 : ((f : Int) == 116) = false := by simp; omega
  have e5 : ((f : Int) == 108) = false := by simp; omega
  rw [HRK.out]
  clear h1 h2 h3 h4 h5 HRK h
  go_enter Try.func48, Try.ntmps48
  go_wp2
  go_ret
  exact ⟨rfl, below_alloc _ _⟩
end
end Go.Proofs.Ytgcdeadfkljeaaa
