/- Writing instructions: fits. -/
import Derived.Test.YtgcdeadfkljeaaaOpsI
import Derived.Deep.DeepCutAuto
namespace Go.Proofs.Ytgcdeadfkljeaaa
open Go.RowKit
set_option linter.unusedVariables false
set_option linter.unusedSimpArgs false

def okT (k t : Int) : Bool := inK k 32 && (decide (0 ≤ t) && decide (t ≤ 1073741824))
def fitL (ks ts : List Int) : Bool := (List.zip ks ts).all fun x => okT x.1 x.2
theorem fitL_take {ks ts : List Int} {i : Nat} {x y : Int} (hx : ks[i]? = some x) (hy : ts[i]? = some y) : fitL (ks.take (i + 1)) (ts.take (i + 1)) = (fitL (ks.take i) (ts.take i) && okT x y) := by
  have h1 := List.getElem?_eq_some_iff.1 hx
  have h2 := List.getElem?_eq_some_iff.1 hy
  have e1 : ks.take (i + 1) = ks.take i ++ [x] := by rw [List.take_succ_eq_append_getElem h1.1, h1.2]
  have e2 : ts.take (i + 1) = ts.take i ++ [y] := by rw [List.take_succ_eq_append_getElem h2.1, h2.2]
  unfold fitL
  rw [e1, e2, List.zip_append (by rw [List.length_take, List.length_take]; have := h1.1; have := h2.1; omega)]
  simp
def fitsK (st : StepK) (f : Nat) (at' : Int) : Bool :=
  if f = 98 then inK st.num 8
  else if f = 115 then inK st.num 16
  else if f = 99 ∨ f = 100 ∨ f = 112 ∨ f = 102 ∨ f = 109 then shortK st.pool
  else if f = 118 then shortK st.var
  else if f = 105 then shortK st.var && inK st.num 16
  else if f = 106 then farK6 st.goal at' 16
  else if f = 119 then farK6 st.goal at' 32
  else if f = 116 ∨ f = 108 then (decide (0 ≤ st.goal) && decide (st.goal ≤ 1073741824)) && fitL st.keys st.tgts
  else true
section
variable {st : StepK} {ka : Option Addr} {kn kc : Nat} {ta : Option Addr} {tn tc : Nat}
set_option maxRecDepth 100000 in
theorem fits_98 (at' : Int) (w : World) (h : StvOk w st ka kn kc ta tn tc) (ha : 0 ≤ at' ∧ at' ≤ 1099511627776) : Calls Try.prog 49 #[stV st ka kn kc ta tn tc, .int .u8 98, .int .i64 at'] w fun e w' => e = .returned (.bool (fitsK st 98 at')) ∧ Below w.heap.size w w' := by
  have HRK : Hid (fitsK st 98 at' = inK st.num 8) := Lib.hid rfl
  have HC := Lib.hid (fun w' => within_any st.num 8 w' (.inl rfl))
  rw [HRK.out]
  generalize inK st.num 8 = r at *
  clear HRK h
  go_enter Try.func49, Try.ntmps49
  go_wp2_with fail
  refine (HC.out _).mono ?_
  rintro e w' ⟨rfl, hw⟩
  subst hw
  go_wp2
  go_ret
  exact ⟨rfl, below_alloc _ _⟩
set_option maxRecDepth 100000 in
theorem fits_115 (at' : Int) (w : World) (h : StvOk w st ka kn kc ta tn tc) (ha : 0 ≤ at' ∧ at' ≤ 1099511627776) : Calls Try.prog 49 #[stV st ka kn kc ta tn tc, .int .u8 115, .int .i64 at'] w fun e w' => e = .returned (.bool (fitsK st 115 at')) ∧ Below w.heap.size w w' := by
  have HRK : Hid (fitsK st 115 at' = inK st.num 16) := Lib.hid rfl
  have HC := Lib.hid (fun w' => within_any st.num 16 w' (.inr (.inl rfl)))
  rw [HRK.out]
  generalize inK st.num 16 = r at *
  clear HRK h
  go_enter Try.func49, Try.ntmps49
  go_wp2_with fail
  refine (HC.out _).mono ?_
  rintro e w' ⟨rfl, hw⟩
  subst hw
  go_wp2
  go_ret
  exact ⟨rfl, below_alloc _ _⟩
set_option maxRecDepth 100000 in
theorem fits_99 (at' : Int) (w : World) (h : StvOk w st ka kn kc ta tn tc) (ha : 0 ≤ at' ∧ at' ≤ 1099511627776) : Calls Try.prog 49 #[stV st ka kn kc ta tn tc, .int .u8 99, .int .i64 at'] w fun e w' => e = .returned (.bool (fitsK st 99 at')) ∧ Below w.heap.size w w' := by
  have HRK : Hid (fitsK st 99 at' = shortK st.pool) := Lib.hid rfl
  have HC := Lib.hid (fun w' => short_any st.pool w' h.pr)
  rw [HRK.out]
  generalize shortK st.pool = r at *
  clear HRK h
  go_enter Try.func49, Try.ntmps49
  go_wp2_with fail
  refine (HC.out _).mono ?_
  rintro e w' ⟨rfl, hw⟩
  subst hw
  go_wp2
  go_ret
  exact ⟨rfl, below_alloc _ _⟩
set_option maxRecDepth 100000 in
theorem fits_100 (at' : Int) (w : World) (h : StvOk w st ka kn kc ta tn tc) (ha : 0 ≤ at' ∧ at' ≤ 1099511627776) : Calls Try.prog 49 #[stV st ka kn kc ta tn tc, .int .u8 100, .int .i64 at'] w fun e w' => e = .returned (.bool (fitsK st 100 at')) ∧ Below w.heap.size w w' := by
  have HRK : Hid (fitsK st 100 at' = shortK st.pool) := Lib.hid rfl
  have HC := Lib.hid (fun w' => short_any st.pool w' h.pr)
  rw [HRK.out]
  generalize shortK st.pool = r at *
  clear HRK h
  go_enter Try.func49, Try.ntmps49
  go_wp2_with fail
  refine (HC.out _).mono ?_
  rintro e w' ⟨rfl, hw⟩
  subst hw
  go_wp2
  go_ret
  exact ⟨rfl, below_alloc _ _⟩
set_option maxRecDepth 100000 in
theorem fits_112 (at' : Int) (w : World) (h : StvOk w st ka kn kc ta tn tc) (ha : 0 ≤ at' ∧ at' ≤ 1099511627776) : Calls Try.prog 49 #[stV st ka kn kc ta tn tc, .int .u8 112, .int .i64 at'] w fun e w' => e = .returned (.bool (fitsK st 112 at')) ∧ Below w.heap.size w w' := by
  have HRK : Hid (fitsK st 112 at' = shortK st.pool) := Lib.hid rfl
  have HC := Lib.hid (fun w' => short_any st.pool w' h.pr)
  rw [HRK.out]
  generalize shortK st.pool = r at *
  clear HRK h
  go_enter Try.func49, Try.ntmps49
  go_wp2_with fail
  refine (HC.out _).mono ?_
  rintro e w' ⟨rfl, hw⟩
  subst hw
  go_wp2
  go_ret
  exact ⟨rfl, below_alloc _ _⟩
set_option maxRecDepth 100000 in
theorem fits_102 (at' : Int) (w : World) (h : StvOk w st ka kn kc ta tn tc) (ha : 0 ≤ at' ∧ at' ≤ 1099511627776) : Calls Try.prog 49 #[stV st ka kn kc ta tn tc, .int .u8 102, .int .i64 at'] w fun e w' => e = .returned (.bool (fitsK st 102 at')) ∧ Below w.heap.size w w' := by
  have HRK : Hid (fitsK st 102 at' = shortK st.pool) := Lib.hid rfl
  have HC := Lib.hid (fun w' => short_any st.pool w' h.pr)
  rw [HRK.out]
  generalize shortK st.pool = r at *
  clear HRK h
  go_enter Try.func49, Try.ntmps49
  go_wp2_with fail
  refine (HC.out _).mono ?_
  rintro e w' ⟨rfl, hw⟩
  subst hw
  go_wp2
  go_ret
  exact ⟨rfl, below_alloc _ _⟩
set_option maxRecDepth 100000 in
theorem fits_109 (at' : Int) (w : World) (h : StvOk w st ka kn kc ta tn tc) (ha : 0 ≤ at' ∧ at' ≤ 1099511627776) : Calls Try.prog 49 #[stV st ka kn kc ta tn tc, .int .u8 109, .int .i64 at'] w fun e w' => e = .returned (.bool (fitsK st 109 at')) ∧ Below w.heap.size w w' := by
  have HRK : Hid (fitsK st 109 at' = shortK st.pool) := Lib.hid rfl
  have HC := Lib.hid (fun w' => short_any st.pool w' h.pr)
  rw [HRK.out]
  generalize shortK st.pool = r at *
  clear HRK h
  go_enter Try.func49, Try.ntmps49
  go_wp2_with fail
  refine (HC.out _).mono ?_
  rintro e w' ⟨rfl, hw⟩
  subst hw
  go_wp2
  go_ret
  exact ⟨rfl, below_alloc _ _⟩
set_option maxRecDepth 100000 in
theorem fits_118 (at' : Int) (w : World) (h : StvOk w st ka kn kc ta tn tc) (ha : 0 ≤ at' ∧ at' ≤ 1099511627776) : Calls Try.prog 49 #[stV st ka kn kc ta tn tc, .int .u8 118, .int .i64 at'] w fun e w' => e = .returned (.bool (fitsK st 118 at')) ∧ Below w.heap.size w w' := by
  have HRK : Hid (fitsK st 118 at' = shortK st.var) := Lib.hid rfl
  have HC := Lib.hid (fun w' => short_any st.var w' h.vr)
  rw [HRK.out]
  generalize shortK st.var = r at *
  clear HRK h
  go_enter Try.func49, Try.ntmps49
  go_wp2_with fail
  refine (HC.out _).mono ?_
  rintro e w' ⟨rfl, hw⟩
  subst hw
  go_wp2
  go_ret
  exact ⟨rfl, below_alloc _ _⟩
set_option maxRecDepth 100000 in
theorem fits_106 (at' : Int) (w : World) (h : StvOk w st ka kn kc ta tn tc) (ha : 0 ≤ at' ∧ at' ≤ 1099511627776) : Calls Try.prog 49 #[stV st ka kn kc ta tn tc, .int .u8 106, .int .i64 at'] w fun e w' => e = .returned (.bool (fitsK st 106 at')) ∧ Below w.heap.size w w' := by
  have HRK : Hid (fitsK st 106 at' = farK6 st.goal at' 16) := Lib.hid rfl
  have HC := Lib.hid (fun w' => far18_any st.goal at' 16 w' (.inr (.inl rfl)) h.gr ha)
  rw [HRK.out]
  generalize farK6 st.goal at' 16 = r at *
  clear HRK h
  go_enter Try.func49, Try.ntmps49
  go_wp2_with fail
  refine (HC.out _).mono ?_
  rintro e w' ⟨rfl, hw⟩
  subst hw
  go_wp2
  go_ret
  exact ⟨rfl, below_alloc _ _⟩
set_option maxRecDepth 100000 in
theorem fits_119 (at' : Int) (w : World) (h : StvOk w st ka kn kc ta tn tc) (ha : 0 ≤ at' ∧ at' ≤ 1099511627776) : Calls Try.prog 49 #[stV st ka kn kc ta tn tc, .int .u8 119, .int .i64 at'] w fun e w' => e = .returned (.bool (fitsK st 119 at')) ∧ Below w.heap.size w w' := by
  have HRK : Hid (fitsK st 119 at' = farK6 st.goal at' 32) := Lib.hid rfl
  have HC := Lib.hid (fun w' => far18_any st.goal at' 32 w' (.inr (.inr rfl)) h.gr ha)
  rw [HRK.out]
  generalize farK6 st.goal at' 32 = r at *
  clear HRK h
  go_enter Try.func49, Try.ntmps49
  go_wp2_with fail
  refine (HC.out _).mono ?_
  rintro e w' ⟨rfl, hw⟩
  subst hw
  go_wp2
  go_ret
  exact ⟨rfl, below_alloc _ _⟩
set_option maxRecDepth 100000 in
theorem fits_105 (at' : Int) (w : World) (h : StvOk w st ka kn kc ta tn tc) : Calls Try.prog 49 #[stV st ka kn kc ta tn tc, .int .u8 105, .int .i64 at'] w fun e w' => e = .returned (.bool (fitsK st 105 at')) ∧ Below w.heap.size w w' := by
  have HRK : Hid (fitsK st 105 at' = (shortK st.var && inK st.num 16)) := Lib.hid rfl
  have HC := Lib.hid (fun w' => short_any st.var w' h.vr)
  have HD := Lib.hid (fun w' => within_any st.num 16 w' (.inr (.inl rfl)))
  rw [HRK.out]
  generalize shortK st.var = r at *
  generalize inK st.num 16 = q at *
  clear HRK h
  cases r with
  | false =>
    go_enter Try.func49, Try.ntmps49
    go_wp2_with fail
    refine (HC.out _).mono ?_
    rintro e w' ⟨rfl, hw⟩
    subst hw
    go_wp2
    go_ret
    exact ⟨rfl, below_alloc _ _⟩
  | true =>
    go_enter Try.func49, Try.ntmps49
    go_wp2_with fail
    refine (HC.out _).mono ?_
    rintro e w' ⟨rfl, hw⟩
    subst hw
    go_wp2_with fail
    refine (HD.out _).mono ?_
    rintro e w' ⟨rfl, hw⟩
    subst hw
    go_wp2
    go_ret
    exact ⟨rfl, below_alloc _ _⟩
set_option maxRecDepth 100000 in
set_option maxHeartbeats 8000000 in
theorem fits_116 (at' : Int) (w : World) (h : StvOk w st ka kn kc ta tn tc) (hkt : kn = tn) : Calls Try.prog 49 #[stV st ka kn kc ta tn tc, .int .u8 116, .int .i64 at'] w fun e w' => e = .returned (.bool (fitsK st 116 at')) ∧ Below w.heap.size w w' := by
  have hkb := h.kb
  have HK := Lib.hid h
  have HKT := Lib.hid hkt
  obtain ⟨o, ho⟩ : ∃ o, o = w.heap.size := ⟨_, rfl⟩
  have HBO : Hid (Blk (w.alloc (.cells #[.int .i64 st.at', .int .i64 st.op, .int .i64 st.var, .int .i64 st.num, .int .i64 st.pool, .int .i64 st.goal, .slice ka kn kc, .slice ta tn tc] STO)) w.heap.size STO #[.int .i64 st.at', .int .i64 st.op, .int .i64 st.var, .int .i64 st.num, .int .i64 st.pool, .int .i64 st.goal, .slice ka kn kc, .slice ta tn tc] ∧ Below w.heap.size w (w.alloc (.cells #[.int .i64 st.at', .int .i64 st.op, .int .i64 st.var, .int .i64 st.num, .int .i64 st.pool, .int .i64 st.goal, .slice ka kn kc, .slice ta tn tc] STO))) := Lib.hid ⟨Blk.new _ _ _, below_alloc _ _⟩
  obtain ⟨g, hg⟩ : ∃ g, g = (decide (0 ≤ st.goal) && decide (st.goal ≤ 1073741824)) := ⟨_, rfl⟩
  have HRK : Hid (fitsK st 116 at' = (g && fitL st.keys st.tgts)) := Lib.hid (by rw [hg]; rfl)
  obtain ⟨res, hres⟩ : ∃ r, r = fitsK st 116 at' := ⟨_, rfl⟩
  rw [← hres]
  have HRES : Hid (res = (g && fitL st.keys st.tgts)) := Lib.hid (by rw [hres]; exact HRK.out)
  clear h hkt hres HRK
  go_enter Try.func49, Try.ntmps49
  have c0 : (w.alloc (.cells #[.int .i64 st.at', .int .i64 st.op, .int .i64 st.var, .int .i64 st.num, .int .i64 st.pool, .int .i64 st.goal, .slice ka kn kc, .slice ta tn tc] STO)).cell? ⟨w.heap.size, 5, none⟩ = some (.int .i64 st.goal) := HBO.out.1.cell (i := 5) rfl
  go_upto_region 22 with fail
  go_cut [7] (fun x7 wx => x7 = .bool g ∧ wx = w.alloc (.cells #[.int .i64 st.at', .int .i64 st.op, .int .i64 st.var, .int .i64 st.num, .int .i64 st.pool, .int .i64 st.goal, .slice ka kn kc, .slice ta tn tc] STO))
  case first =>
    by_cases h1 : 0 ≤ st.goal
    · have c1 : decide (0 ≤ st.goal) = true := decide_eq_true h1
      rw [c1, Bool.true_and] at hg
      clear h1
      go_wp2
      go_meet
      exact ⟨by rw [hg], rfl⟩
    · have c1 : decide (0 ≤ st.goal) = false := decide_eq_false h1
      rw [c1, Bool.false_and] at hg
      clear h1
      go_wp2
      go_meet
      exact ⟨by rw [hg], rfl⟩
  case rest =>
    obtain ⟨rfl, hwc⟩ := hcut
    have HB0 : Hid (Blk wc o STO #[.int .i64 st.at', .int .i64 st.op, .int .i64 st.var, .int .i64 st.num, .int .i64 st.pool, .int .i64 st.goal, .slice ka kn kc, .slice ta tn tc] ∧ Below w.heap.size w wc) := Lib.hid (by rw [hwc, ho]; exact HBO.out)
    rw [← ho]
    clear hwc ho HBO c0 hg
    have q6 : wc.cell? ⟨o, 6, none⟩ = some (.slice ka kn kc) := HB0.out.1.cell (i := 6) rfl
    go_wp2
    go_loopw [7, 71] (fun x7 x71 wr => ∃ i : Nat, i ≤ kn ∧ x71 = .int .i64 (i : Int) ∧ x7 = .bool (g && fitL (st.keys.take i) (st.tgts.take i)) ∧ Hid (Blk wr o STO #[.int .i64 st.at', .int .i64 st.op, .int .i64 st.var, .int .i64 st.num, .int .i64 st.pool, .int .i64 st.goal, .slice ka kn kc, .slice ta tn tc] ∧ Below w.heap.size w wr)) (fun _ x71 _ => kn - (intOf x71).toNat)
    case atStart => exact ⟨0, Nat.zero_le _, rfl, by simp [fitL], HB0⟩
    case round =>
      clear HB0 q6
      obtain ⟨i, hi, rfl, rfl, hW⟩ := hrel
      by_cases hin : i < kn
      · have hl1 := HK.out.kl
        have hl2 := HK.out.tl
        have hkt := HKT.out
        obtain ⟨b1, o1, rfl, -, hc1⟩ := (HK.out.rk.below hW.out.2).at (k := i) (by omega)
        obtain ⟨b2, o2, rfl, -, hc2⟩ := (HK.out.rt.below hW.out.2).at (k := i) (by omega)
        have hx : st.keys[i]? = some (st.keys[i]'(by omega)) := List.getElem?_eq_getElem _
        have hy : st.tgts[i]? = some (st.tgts[i]'(by omega)) := List.getElem?_eq_getElem _
        generalize st.keys[i]'(by omega) = x at *
        generalize st.tgts[i]'(by omega) = y at *
        have HS : Hid ((g && fitL (st.keys.take (i + 1)) (st.tgts.take (i + 1))) = ((g && fitL (st.keys.take i) (st.tgts.take i)) && okT x y)) := Lib.hid (by rw [fitL_take hx hy, Bool.and_assoc])
        replace hc1 : wr.cell? ⟨b1, o1 + i, none⟩ = some (.int .i64 x) := hc1
        replace hc2 : wr.cell? ⟨b2, o2 + i, none⟩ = some (.int .i64 y) := hc2
        have q7 : wr.cell? ⟨o, 7, none⟩ = some (.slice (some ⟨b2, o2, none⟩) tn tc) := hW.out.1.cell (i := 7) rfl
        have gi : ((i : Int) < (kn : Int)) = True := by simp; omega
        have it : (i : Int) < (tn : Int) := by omega
        have HWI := Lib.hid (fun w' => within_any x 32 w' (.inr (.inr rfl)))
        have hok : okT x y = (inK x 32 && (decide (0 ≤ y) && decide (y ≤ 1073741824))) := rfl
        generalize (g && fitL (st.keys.take i) (st.tgts.take i)) = b at *
        generalize inK x 32 = r at *
        have HOK := Lib.hid hok
        clear hok hx hy hl1 hl2 hkt
        cases b with
        | false =>
          go_wp2
          go_roundw
          case rel => exact ⟨i + 1, by omega, by go_num, by rw [HS.out] <;> rfl, hW⟩
          case measure => simp [intOf] <;> omega
        | true =>
          go_wp2_with fail
          refine (HWI.out wr).mono ?_
          rintro e w' ⟨rfl, hw⟩
          replace hw := hw.symm
          subst hw
          cases r with
          | false =>
            go_wp2
            go_roundw
            case rel => exact ⟨i + 1, by omega, by go_num, by rw [HS.out, HOK.out] <;> rfl, hW⟩
            case measure => simp [intOf] <;> omega
          | true =>
            by_cases h1 : 0 ≤ y
            · have c1 : decide (0 ≤ y) = true := decide_eq_true h1
              have HE : Hid ((g && fitL (st.keys.take (i + 1)) (st.tgts.take (i + 1))) = decide (y ≤ 1073741824)) := Lib.hid (by rw [HS.out, HOK.out, c1]; simp)
              clear h1
              go_wp2
              go_roundw
              case rel => exact ⟨i + 1, by omega, by go_num, by rw [HE.out], hW⟩
              case measure => simp [intOf] <;> omega
            · have c1 : decide (0 ≤ y) = false := decide_eq_false h1
              have HE : Hid ((g && fitL (st.keys.take (i + 1)) (st.tgts.take (i + 1))) = false) := Lib.hid (by rw [HS.out, HOK.out, c1]; simp)
              clear h1
              go_wp2
              go_roundw
              case rel => exact ⟨i + 1, by omega, by go_num, by rw [HE.out], hW⟩
              case measure => simp [intOf] <;> omega
      · have HF : Hid ((g && fitL (st.keys.take i) (st.tgts.take i)) = res) := Lib.hid (by
          rw [HRES.out, List.take_of_length_le (by rw [HK.out.kl]; omega), List.take_of_length_le (by rw [HK.out.tl]; have := HKT.out; omega)])
        have gi : ((i : Int) < (kn : Int)) = False := by simp; omega
        go_wp2
        go_ret
        exact ⟨by rw [← HF.out] <;> rfl, hW.out.2⟩
set_option maxRecDepth 100000 in
set_option maxHeartbeats 8000000 in
theorem fits_108 (at' : Int) (w : World) (h : StvOk w st ka kn kc ta tn tc) (hkt : kn = tn) : Calls Try.prog 49 #[stV st ka kn kc ta tn tc, .int .u8 108, .int .i64 at'] w fun e w' => e = .returned (.bool (fitsK st 108 at')) ∧ Below w.heap.size w w' := by
  have hkb := h.kb
  have HK := Lib.hid h
  have HKT := Lib.hid hkt
  obtain ⟨o, ho⟩ : ∃ o, o = w.heap.size := ⟨_, rfl⟩
  have HBO : Hid (Blk (w.alloc (.cells #[.int .i64 st.at', .int .i64 st.op, .int .i64 st.var, .int .i64 st.num, .int .i64 st.pool, .int .i64 st.goal, .slice ka kn kc, .slice ta tn tc] STO)) w.heap.size STO #[.int .i64 st.at', .int .i64 st.op, .int .i64 st.var, .int .i64 st.num, .int .i64 st.pool, .int .i64 st.goal, .slice ka kn kc, .slice ta tn tc] ∧ Below w.heap.size w (w.alloc (.cells #[.int .i64 st.at', .int .i64 st.op, .int .i64 st.var, .int .i64 st.num, .int .i64 st.pool, .int .i64 st.goal, .slice ka kn kc, .slice ta tn tc] STO))) := Lib.hid ⟨Blk.new _ _ _, below_alloc _ _⟩
  obtain ⟨g, hg⟩ : ∃ g, g = (decide (0 ≤ st.goal) && decide (st.goal ≤ 1073741824)) := ⟨_, rfl⟩
  have HRK : Hid (fitsK st 108 at' = (g && fitL st.keys st.tgts)) := Lib.hid (by rw [hg]; rfl)
  obtain ⟨res, hres⟩ : ∃ r, r = fitsK st 108 at' := ⟨_, rfl⟩
  rw [← hres]
  have HRES : Hid (res = (g && fitL st.keys st.tgts)) := Lib.hid (by rw [hres]; exact HRK.out)
  clear h hkt hres HRK
  go_enter Try.func49, Try.ntmps49
  have c0 : (w.alloc (.cells #[.int .i64 st.at', .int .i64 st.op, .int .i64 st.var, .int .i64 st.num, .int .i64 st.pool, .int .i64 st.goal, .slice ka kn kc, .slice ta tn tc] STO)).cell? ⟨w.heap.size, 5, none⟩ = some (.int .i64 st.goal) := HBO.out.1.cell (i := 5) rfl
  go_upto_region 22 with fail
  go_cut [7] (fun x7 wx => x7 = .bool g ∧ wx = w.alloc (.cells #[.int .i64 st.at', .int .i64 st.op, .int .i64 st.var, .int .i64 st.num, .int .i64 st.pool, .int .i64 st.goal, .slice ka kn kc, .slice ta tn tc] STO))
  case first =>
    by_cases h1 : 0 ≤ st.goal
    · have c1 : decide (0 ≤ st.goal) = true := decide_eq_true h1
      rw [c1, Bool.true_and] at hg
      clear h1
      go_wp2
      go_meet
      exact ⟨by rw [hg], rfl⟩
    · have c1 : decide (0 ≤ st.goal) = false := decide_eq_false h1
      rw [c1, Bool.false_and] at hg
      clear h1
      go_wp2
      go_meet
      exact ⟨by rw [hg], rfl⟩
  case rest =>
    obtain ⟨rfl, hwc⟩ := hcut
    have HB0 : Hid (Blk wc o STO #[.int .i64 st.at', .int .i64 st.op, .int .i64 st.var, .int .i64 st.num, .int .i64 st.pool, .int .i64 st.goal, .slice ka kn kc, .slice ta tn tc] ∧ Below w.heap.size w wc) := Lib.hid (by rw [hwc, ho]; exact HBO.out)
    rw [← ho]
    clear hwc ho HBO c0 hg
    have q6 : wc.cell? ⟨o, 6, none⟩ = some (.slice ka kn kc) := HB0.out.1.cell (i := 6) rfl
    go_wp2
    go_loopw [7, 71] (fun x7 x71 wr => ∃ i : Nat, i ≤ kn ∧ x71 = .int .i64 (i : Int) ∧ x7 = .bool (g && fitL (st.keys.take i) (st.tgts.take i)) ∧ Hid (Blk wr o STO #[.int .i64 st.at', .int .i64 st.op, .int .i64 st.var, .int .i64 st.num, .int .i64 st.pool, .int .i64 st.goal, .slice ka kn kc, .slice ta tn tc] ∧ Below w.heap.size w wr)) (fun _ x71 _ => kn - (intOf x71).toNat)
    case atStart => exact ⟨0, Nat.zero_le _, rfl, by simp [fitL], HB0⟩
    case round =>
      clear HB0 q6
      obtain ⟨i, hi, rfl, rfl, hW⟩ := hrel
      by_cases hin : i < kn
      · have hl1 := HK.out.kl
        have hl2 := HK.out.tl
        have hkt := HKT.out
        obtain ⟨b1, o1, rfl, -, hc1⟩ := (HK.out.rk.below hW.out.2).at (k := i) (by omega)
        obtain ⟨b2, o2, rfl, -, hc2⟩ := (HK.out.rt.below hW.out.2).at (k := i) (by omega)
        have hx : st.keys[i]? = some (st.keys[i]'(by omega)) := List.getElem?_eq_getElem _
        have hy : st.tgts[i]? = some (st.tgts[i]'(by omega)) := List.getElem?_eq_getElem _
        generalize st.keys[i]'(by omega) = x at *
        generalize st.tgts[i]'(by omega) = y at *
        have HS : Hid ((g && fitL (st.keys.take (i + 1)) (st.tgts.take (i + 1))) = ((g && fitL (st.keys.take i) (st.tgts.take i)) && okT x y)) := Lib.hid (by rw [fitL_take hx hy, Bool.and_assoc])
        replace hc1 : wr.cell? ⟨b1, o1 + i, none⟩ = some (.int .i64 x) := hc1
        replace hc2 : wr.cell? ⟨b2, o2 + i, none⟩ = some (.int .i64 y) := hc2
        have q7 : wr.cell? ⟨o, 7, none⟩ = some (.slice (some ⟨b2, o2, none⟩) tn tc) := hW.out.1.cell (i := 7) rfl
        have gi : ((i : Int) < (kn : Int)) = True := by simp; omega
        have it : (i : Int) < (tn : Int) := by omega
        have HWI := Lib.hid (fun w' => within_any x 32 w' (.inr (.inr rfl)))
        have hok : okT x y = (inK x 32 && (decide (0 ≤ y) && decide (y ≤ 1073741824))) := rfl
        generalize (g && fitL (st.keys.take i) (st.tgts.take i)) = b at *
        generalize inK x 32 = r at *
        have HOK := Lib.hid hok
        clear hok hx hy hl1 hl2 hkt
        cases b with
        | false =>
          go_wp2
          go_roundw
          case rel => exact ⟨i + 1, by omega, by go_num, by rw [HS.out] <;> rfl, hW⟩
          case measure => simp [intOf] <;> omega
        | true =>
          go_wp2_with fail
          refine (HWI.out wr).mono ?_
          rintro e w' ⟨rfl, hw⟩
          replace hw := hw.symm
          subst hw
          cases r with
          | false =>
            go_wp2
            go_roundw
            case rel => exact ⟨i + 1, by omega, by go_num, by rw [HS.out, HOK.out] <;> rfl, hW⟩
            case measure => simp [intOf] <;> omega
          | true =>
            by_cases h1 : 0 ≤ y
            · have c1 : decide (0 ≤ y) = true := decide_eq_true h1
              have HE : Hid ((g && fitL (st.keys.take (i + 1)) (st.tgts.take (i + 1))) = decide (y ≤ 1073741824)) := Lib.hid (by rw [HS.out, HOK.out, c1]; simp)
              clear h1
              go_wp2
              go_roundw
              case rel => exact ⟨i + 1, by omega, by go_num, by rw [HE.out], hW⟩
              case measure => simp [intOf] <;> omega
            · have c1 : decide (0 ≤ y) = false := decide_eq_false h1
              have HE : Hid ((g && fitL (st.keys.take (i + 1)) (st.tgts.take (i + 1))) = false) := Lib.hid (by rw [HS.out, HOK.out, c1]; simp)
              clear h1
              go_wp2
              go_roundw
              case rel => exact ⟨i + 1, by omega, by go_num, by rw [HE.out], hW⟩
              case measure => simp [intOf] <;> omega
      · have HF : Hid ((g && fitL (st.keys.take i) (st.tgts.take i)) = res) := Lib.hid (by
          rw [HRES.out, List.take_of_length_le (by rw [HK.out.kl]; omega), List.take_of_length_le (by rw [HK.out.tl]; have := HKT.out; omega)])
        have gi : ((i : Int) < (kn : Int)) = False := by simp; omega
        go_wp2
        go_ret
        exact ⟨by rw [← HF.out] <;> rfl, hW.out.2⟩
set_option maxRecDepth 100000 in
theorem fits_any (f : Nat) (at' : Int) (w : World) (hf : f < 256) (h : StvOk w st ka kn kc ta tn tc) (ha : 0 ≤ at' ∧ at' ≤ 1099511627776) (hkt : f = 116 ∨ f = 108 → kn = tn) : Calls Try.prog 49 #[stV st ka kn kc ta tn tc, .int .u8 (f : Int), .int .i64 at'] w fun e w' => e = .returned (.bool (fitsK st f at')) ∧ Below w.heap.size w w' := by
  by_cases h98 : f = 98
  · subst h98; exact fits_98 at' w h ha
  by_cases h115 : f = 115
  · subst h115; exact fits_115 at' w h ha
  by_cases h99 : f = 99
  · subst h99; exact fits_99 at' w h ha
  by_cases h100 : f = 100
  · subst h100; exact fits_100 at' w h ha
  by_cases h112 : f = 112
  · subst h112; exact fits_112 at' w h ha
  by_cases h102 : f = 102
  · subst h102; exact fits_102 at' w h ha
  by_cases h109 : f = 109
  · subst h109; exact fits_109 at' w h ha
  by_cases h118 : f = 118
  · subst h118; exact fits_118 at' w h ha
  by_cases h105 : f = 105
  · subst h105; exact fits_105 at' w h
  by_cases h106 : f = 106
  · subst h106; exact fits_106 at' w h ha
  by_cases h119 : f = 119
  · subst h119; exact fits_119 at' w h ha
  by_cases h116 : f = 116
  · subst h116; exact fits_116 at' w h (hkt (.inl rfl))
  by_cases h108 : f = 108
  · subst h108; exact fits_108 at' w h (hkt (.inr rfl))
  have HRK : Hid (fitsK st f at' = true) := Lib.hid (by unfold fitsK; simp [h98, h115, h99, h100, h112, h102, h109, h118, h105, h106, h119, h116, h108])
  have e98 : ((f : Int) == 98) = false := by simp; omega
  have e115 : ((f : Int) == 115) = false := by simp; omega
  have e99 : ((f : Int) == 99) = false := by simp; omega
  have e100 : ((f : Int) == 100) = false := by simp; omega
  have e112 : ((f : Int) == 112) = false := by simp; omega
  have e102 : ((f : Int) == 102) = false := by simp; omega
  have e109 : ((f : Int) == 109) = false := by simp; omega
  have e118 : ((f : Int) == 118) = false := by simp; omega
  have e105 : ((f : Int) == 105) = false := by simp; omega
  have e106 : ((f : Int) == 106) = false := by simp; omega
  have e119 : ((f : Int) == 119) = false := by simp; omega
  have e116 : ((f : Int) == 116) = false := by simp; omega
  have e108 : ((f : Int) == 108) = false := by simp; omega
  rw [HRK.out]
  clear HRK h hkt h98 h115 h99 h100 h112 h102 h109 h118 h105 h106 h119 h116 h108
  go_enter Try.func49, Try.ntmps49
  go_wp2
  go_ret
  exact ⟨rfl, below_alloc _ _⟩
end
end Go.Proofs.Ytgcdeadfkljeaaa
