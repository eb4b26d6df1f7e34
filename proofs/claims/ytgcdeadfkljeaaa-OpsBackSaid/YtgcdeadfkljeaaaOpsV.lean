/- The size of a switch, by its place. -/
import Derived.Test.YtgcdeadfkljeaaaOpsM
namespace Go.Proofs.Ytgcdeadfkljeaaa
open Go.RowKit
set_option linter.unusedVariables false
set_option linter.unusedSimpArgs false

section
variable {st : StepK} {ka : Option Addr} {kn kc : Nat} {ta : Option Addr} {tn tc : Nat}
set_option maxRecDepth 100000 in
set_option maxHeartbeats 8000000 in
theorem size_0 (n : Nat) (w : World) (hf : formI st.op = 0) : Calls Try.prog 24 #[stV st ka kn kc ta tn tc, .int .i64 (n : Int)] w fun e w' => e = .returned (.int .i64 0) ∧ Below w.heap.size w w' := by
  obtain ⟨o, ho⟩ : ∃ o, o = w.heap.size := ⟨_, rfl⟩
  have HBO : Hid (Blk (w.alloc (.cells (stC st (.slice ka kn kc) (.slice ta tn tc)) STO)) w.heap.size STO (stC st (.slice ka kn kc) (.slice ta tn tc)) ∧ Below w.heap.size w (w.alloc (.cells (stC st (.slice ka kn kc) (.slice ta tn tc)) STO))) := Lib.hid ⟨Blk.new _ _ _, below_alloc _ _⟩
  have q1 : (w.alloc (.cells (stC st (.slice ka kn kc) (.slice ta tn tc)) STO)).cell? ⟨w.heap.size, 1, none⟩ = some (.int .i64 st.op) := HBO.out.1.cell (i := 1) rfl
  have HFO := Lib.hid hf
  clear hf
  go_enter Try.func24, Try.ntmps24
  go_wp2_with fail
  refine (form_any st.op _).mono ?_
  rintro e w2 ⟨rfl, hb2⟩
  have HB2 : Hid (Blk w2 o STO (stC st (.slice ka kn kc) (.slice ta tn tc)) ∧ Below w.heap.size w w2) := Lib.hid ⟨by rw [ho]; exact HBO.out.1.below hb2, HBO.out.2.trans (hb2.mono HBO.out.2.size)⟩
  rw [← ho]
  clear ho hb2 HBO q1
  rw [HFO.out]
  go_wp2
  go_ret
  exact ⟨rfl, HB2.out.2⟩
set_option maxRecDepth 100000 in
set_option maxHeartbeats 8000000 in
theorem size_116 (n : Nat) (w : World) (hf : formI st.op = 116) (hs : sizedK st = true) (hk : st.keys.length = kn) (ht : st.tgts.length = tn) (hn : n ≤ 1000000) (hkn : kn ≤ 100000) : Calls Try.prog 24 #[stV st ka kn kc ta tn tc, .int .i64 (n : Int)] w fun e w' => e = .returned (.int .i64 ((13 + nghK n + 4 * kn : Nat) : Int)) ∧ Below w.heap.size w w' := by
  obtain ⟨o, ho⟩ : ∃ o, o = w.heap.size := ⟨_, rfl⟩
  have HBO : Hid (Blk (w.alloc (.cells (stC st (.slice ka kn kc) (.slice ta tn tc)) STO)) w.heap.size STO (stC st (.slice ka kn kc) (.slice ta tn tc)) ∧ Below w.heap.size w (w.alloc (.cells (stC st (.slice ka kn kc) (.slice ta tn tc)) STO))) := Lib.hid ⟨Blk.new _ _ _, below_alloc _ _⟩
  have q1 : (w.alloc (.cells (stC st (.slice ka kn kc) (.slice ta tn tc)) STO)).cell? ⟨w.heap.size, 1, none⟩ = some (.int .i64 st.op) := HBO.out.1.cell (i := 1) rfl
  have HFO := Lib.hid hf
  clear hf
  have HSZ := Lib.hid (fun w' => sized18_any (st := st) (ka := ka) (kn := kn) (kc := kc) (ta := ta) (tn := tn) (tc := tc) w' hk ht)
  rw [hs] at HSZ
  have hng : nghK n ≤ 3 := by unfold nghK; omega
  clear hs hk ht
  go_enter Try.func24, Try.ntmps24
  go_wp2_with fail
  refine (form_any st.op _).mono ?_
  rintro e w2 ⟨rfl, hb2⟩
  have HB2 : Hid (Blk w2 o STO (stC st (.slice ka kn kc) (.slice ta tn tc)) ∧ Below w.heap.size w w2) := Lib.hid ⟨by rw [ho]; exact HBO.out.1.below hb2, HBO.out.2.trans (hb2.mono HBO.out.2.size)⟩
  rw [← ho]
  clear ho hb2 HBO q1
  rw [HFO.out]
  go_wp2_with (refine wpList_load_row rfl _ _ rfl _ rfl _ _ _ _ HB2.out.1 Try.underlying48 rfl size_sto8 ?_)
  refine (HSZ.out w2).mono ?_
  rintro e w3 ⟨rfl, hb3⟩
  have HB3 := Lib.hid (And.intro (HB2.out.1.below hb3) (HB2.out.2.trans (hb3.mono HB2.out.2.size)))
  clear hb3
  have q6 : w3.cell? ⟨o, 6, none⟩ = some (.slice ka kn kc) := HB3.out.1.cell (i := 6) rfl
  go_wp2_with fail
  refine (noughts_any n _ (by omega)).mono ?_
  rintro e w4 ⟨rfl, rfl⟩
  go_wp2
  go_ret
  exact ⟨by go_num, HB3.out.2⟩
set_option maxRecDepth 100000 in
set_option maxHeartbeats 8000000 in
theorem size_108 (n : Nat) (w : World) (hf : formI st.op = 108) (hs : sizedK st = true) (hk : st.keys.length = kn) (ht : st.tgts.length = tn) (hn : n ≤ 1000000) (hkn : kn ≤ 100000) : Calls Try.prog 24 #[stV st ka kn kc ta tn tc, .int .i64 (n : Int)] w fun e w' => e = .returned (.int .i64 ((9 + nghK n + 8 * kn : Nat) : Int)) ∧ Below w.heap.size w w' := by
  obtain ⟨o, ho⟩ : ∃ o, o = w.heap.size := ⟨_, rfl⟩
  have HBO : Hid (Blk (w.alloc (.cells (stC st (.slice ka kn kc) (.slice ta tn tc)) STO)) w.heap.size STO (stC st (.slice ka kn kc) (.slice ta tn tc)) ∧ Below w.heap.size w (w.alloc (.cells (stC st (.slice ka kn kc) (.slice ta tn tc)) STO))) := Lib.hid ⟨Blk.new _ _ _, below_alloc _ _⟩
  have q1 : (w.alloc (.cells (stC st (.slice ka kn kc) (.slice ta tn tc)) STO)).cell? ⟨w.heap.size, 1, none⟩ = some (.int .i64 st.op) := HBO.out.1.cell (i := 1) rfl
  have HFO := Lib.hid hf
  clear hf
  have HSZ := Lib.hid (fun w' => sized18_any (st := st) (ka := ka) (kn := kn) (kc := kc) (ta := ta) (tn := tn) (tc := tc) w' hk ht)
  rw [hs] at HSZ
  have hng : nghK n ≤ 3 := by unfold nghK; omega
  clear hs hk ht
  go_enter Try.func24, Try.ntmps24
  go_wp2_with fail
  refine (form_any st.op _).mono ?_
  rintro e w2 ⟨rfl, hb2⟩
  have HB2 : Hid (Blk w2 o STO (stC st (.slice ka kn kc) (.slice ta tn tc)) ∧ Below w.heap.size w w2) := Lib.hid ⟨by rw [ho]; exact HBO.out.1.below hb2, HBO.out.2.trans (hb2.mono HBO.out.2.size)⟩
  rw [← ho]
  clear ho hb2 HBO q1
  rw [HFO.out]
  go_wp2_with (refine wpList_load_row rfl _ _ rfl _ rfl _ _ _ _ HB2.out.1 Try.underlying48 rfl size_sto8 ?_)
  refine (HSZ.out w2).mono ?_
  rintro e w3 ⟨rfl, hb3⟩
  have HB3 := Lib.hid (And.intro (HB2.out.1.below hb3) (HB2.out.2.trans (hb3.mono HB2.out.2.size)))
  clear hb3
  have q6 : w3.cell? ⟨o, 6, none⟩ = some (.slice ka kn kc) := HB3.out.1.cell (i := 6) rfl
  go_wp2_with fail
  refine (noughts_any n _ (by omega)).mono ?_
  rintro e w4 ⟨rfl, rfl⟩
  go_wp2
  go_ret
  exact ⟨by go_num, HB3.out.2⟩
set_option maxRecDepth 100000 in
set_option maxHeartbeats 8000000 in
theorem size_116b (n : Nat) (w : World) (hf : formI st.op = 116) (hs : sizedK st = false) (hk : st.keys.length = kn) (ht : st.tgts.length = tn) (hn : n ≤ 1000000) (hkn : kn ≤ 100000) : Calls Try.prog 24 #[stV st ka kn kc ta tn tc, .int .i64 (n : Int)] w fun e w' => e = .returned (.int .i64 0) ∧ Below w.heap.size w w' := by
  obtain ⟨o, ho⟩ : ∃ o, o = w.heap.size := ⟨_, rfl⟩
  have HBO : Hid (Blk (w.alloc (.cells (stC st (.slice ka kn kc) (.slice ta tn tc)) STO)) w.heap.size STO (stC st (.slice ka kn kc) (.slice ta tn tc)) ∧ Below w.heap.size w (w.alloc (.cells (stC st (.slice ka kn kc) (.slice ta tn tc)) STO))) := Lib.hid ⟨Blk.new _ _ _, below_alloc _ _⟩
  have q1 : (w.alloc (.cells (stC st (.slice ka kn kc) (.slice ta tn tc)) STO)).cell? ⟨w.heap.size, 1, none⟩ = some (.int .i64 st.op) := HBO.out.1.cell (i := 1) rfl
  have HFO := Lib.hid hf
  clear hf
  have HSZ := Lib.hid (fun w' => sized18_any (st := st) (ka := ka) (kn := kn) (kc := kc) (ta := ta) (tn := tn) (tc := tc) w' hk ht)
  rw [hs] at HSZ
  have hng : nghK n ≤ 3 := by unfold nghK; omega
  clear hs hk ht
  go_enter Try.func24, Try.ntmps24
  go_wp2_with fail
  refine (form_any st.op _).mono ?_
  rintro e w2 ⟨rfl, hb2⟩
  have HB2 : Hid (Blk w2 o STO (stC st (.slice ka kn kc) (.slice ta tn tc)) ∧ Below w.heap.size w w2) := Lib.hid ⟨by rw [ho]; exact HBO.out.1.below hb2, HBO.out.2.trans (hb2.mono HBO.out.2.size)⟩
  rw [← ho]
  clear ho hb2 HBO q1
  rw [HFO.out]
  go_wp2_with (refine wpList_load_row rfl _ _ rfl _ rfl _ _ _ _ HB2.out.1 Try.underlying48 rfl size_sto8 ?_)
  refine (HSZ.out w2).mono ?_
  rintro e w3 ⟨rfl, hb3⟩
  have HB3 := Lib.hid (And.intro (HB2.out.1.below hb3) (HB2.out.2.trans (hb3.mono HB2.out.2.size)))
  clear hb3
  go_wp2
  go_ret
  exact ⟨rfl, HB3.out.2⟩
set_option maxRecDepth 100000 in
set_option maxHeartbeats 8000000 in
theorem size_108b (n : Nat) (w : World) (hf : formI st.op = 108) (hs : sizedK st = false) (hk : st.keys.length = kn) (ht : st.tgts.length = tn) (hn : n ≤ 1000000) (hkn : kn ≤ 100000) : Calls Try.prog 24 #[stV st ka kn kc ta tn tc, .int .i64 (n : Int)] w fun e w' => e = .returned (.int .i64 0) ∧ Below w.heap.size w w' := by
  obtain ⟨o, ho⟩ : ∃ o, o = w.heap.size := ⟨_, rfl⟩
  have HBO : Hid (Blk (w.alloc (.cells (stC st (.slice ka kn kc) (.slice ta tn tc)) STO)) w.heap.size STO (stC st (.slice ka kn kc) (.slice ta tn tc)) ∧ Below w.heap.size w (w.alloc (.cells (stC st (.slice ka kn kc) (.slice ta tn tc)) STO))) := Lib.hid ⟨Blk.new _ _ _, below_alloc _ _⟩
  have q1 : (w.alloc (.cells (stC st (.slice ka kn kc) (.slice ta tn tc)) STO)).cell? ⟨w.heap.size, 1, none⟩ = some (.int .i64 st.op) := HBO.out.1.cell (i := 1) rfl
  have HFO := Lib.hid hf
  clear hf
  have HSZ := Lib.hid (fun w' => sized18_any (st := st) (ka := ka) (kn := kn) (kc := kc) (ta := ta) (tn := tn) (tc := tc) w' hk ht)
  rw [hs] at HSZ
  have hng : nghK n ≤ 3 := by unfold nghK; omega
  clear hs hk ht
  go_enter Try.func24, Try.ntmps24
  go_wp2_with fail
  refine (form_any st.op _).mono ?_
  rintro e w2 ⟨rfl, hb2⟩
  have HB2 : Hid (Blk w2 o STO (stC st (.slice ka kn kc) (.slice ta tn tc)) ∧ Below w.heap.size w w2) := Lib.hid ⟨by rw [ho]; exact HBO.out.1.below hb2, HBO.out.2.trans (hb2.mono HBO.out.2.size)⟩
  rw [← ho]
  clear ho hb2 HBO q1
  rw [HFO.out]
  go_wp2_with (refine wpList_load_row rfl _ _ rfl _ rfl _ _ _ _ HB2.out.1 Try.underlying48 rfl size_sto8 ?_)
  refine (HSZ.out w2).mono ?_
  rintro e w3 ⟨rfl, hb3⟩
  have HB3 := Lib.hid (And.intro (HB2.out.1.below hb3) (HB2.out.2.trans (hb3.mono HB2.out.2.size)))
  clear hb3
  go_wp2
  go_ret
  exact ⟨rfl, HB3.out.2⟩
end
end Go.Proofs.Ytgcdeadfkljeaaa
