/- The document's fixed calls of layer 18. -/
import Derived.Test.YtgcdeadfkljeaaaOpsZd
import Derived.Test.YtgcdeadfkljeaaaOpsX
import Derived.Test.YtgcdeadfkljeaaaOpsV
namespace Go.Proofs.Ytgcdeadfkljeaaa
open Go.RowKit
set_option linter.unusedVariables false
set_option linter.unusedSimpArgs false

theorem fx_put : putK [] ⟨0, 18, 0, 0, 300, 0, [], []⟩ = ([19, 1, 44], 0) := by kernel_rfl
theorem fx_read1 : readK [16, 255, 167, 255, 254, 196, 21, 1, 0, 177] = ([⟨0, 16, 0, -1, 0, 0, [], []⟩, ⟨2, 167, 0, 0, 0, 0, [], []⟩, ⟨5, 21, 256, 0, 0, 0, [], []⟩, ⟨9, 177, 0, 0, 0, 0, [], []⟩], 0) := by kernel_rfl
theorem fx_read2 : readK [186] = ([], 9) := by kernel_rfl
theorem fx_form : formI 171 = 108 := by kernel_rfl
theorem fx_form0 : formI 170 = 116 := by kernel_rfl
theorem stv_nil (w : World) (a b c d e f : Int) (hb : -1099511627776 ≤ b ∧ b ≤ 1099511627776) (hc : -1099511627776 ≤ c ∧ c ≤ 1099511627776) (hd : -1099511627776 ≤ d ∧ d ≤ 1099511627776) (he : -1099511627776 ≤ e ∧ e ≤ 1099511627776) (hf : -1099511627776 ≤ f ∧ f ≤ 1099511627776) : StvOk w ⟨a, b, c, d, e, f, [], []⟩ none 0 0 none 0 0 :=
  ⟨rfl, rfl, by omega, Rd.nil, Rd.nil, hc, hd, he, hf, hb, by simp, by simp⟩
set_option maxRecDepth 100000 in
set_option maxHeartbeats 8000000 in
theorem fixed18_any (w : World) : Calls Try.prog 20 #[] w fun e w' => e = .returned (.bool true) ∧ Below w.heap.size w w' := by
  have HFP := Lib.hid fx_put
  have HF1 := Lib.hid fx_read1
  have HF2 := Lib.hid fx_read2
  go_enter Try.func20, Try.ntmps20
  go_wp2_with fail
  refine (put_any (st := ⟨0, 18, 0, 0, 300, 0, [], []⟩) (ka := none) (kn := 0) (kc := 0) (ta := none) (tn := 0) (tc := 0) none 0 0 [] w (stv_nil w 0 18 0 0 300 0 (by decide) (by decide) (by decide) (by decide) (by decide)) ⟨rfl, by decide⟩ Rd.nil).mono ?_
  rintro e w1 ⟨p1, n1, c1, rfl, hl1, hr1, hB1⟩
  rw [HFP.out] at hl1 hr1 ⊢
  have H1 := Lib.hid (And.intro hr1 hB1)
  obtain rfl : n1 = 3 := hl1.symm
  clear hl1 hr1 hB1 HFP
  go_wp2_with fail
  obtain ⟨w2, hw2⟩ : ∃ x, x = w1.alloc (.cells #[.int .u8 16, .int .u8 255, .int .u8 167, .int .u8 255, .int .u8 254, .int .u8 196, .int .u8 21, .int .u8 1, .int .u8 0, .int .u8 177] U8) := ⟨_, rfl⟩
  have HW2 : Hid (Rd w2 bE (some ⟨w1.heap.size, 0, none⟩) [16, 255, 167, 255, 254, 196, 21, 1, 0, 177] ∧ Below w1.heap.size w1 w2) := Lib.hid (by rw [hw2]; exact ⟨rd_new _ _ _ _ _ rfl, below_alloc _ _⟩)
  rw [← hw2]
  clear hw2
  refine (read_any (some ⟨w1.heap.size, 0, none⟩) 10 10 [16, 255, 167, 255, 254, 196, 21, 1, 0, 177] w2 rfl (by decide) HW2.out.1).mono ?_
  rintro e w3 ⟨a3, n3, c3, qs, rfl, hR3, hq3, hB3⟩
  rw [HF1.out] at hq3 ⊢
  have H3 := Lib.hid (And.intro hR3 (And.intro hq3 (HW2.out.2.trans (hB3.mono HW2.out.2.size))))
  have hn3 : n3 = 4 := by have h := congrArg List.length hq3; rw [List.length_map] at h; rw [← hR3.1]; exact h
  subst hn3
  clear hR3 hq3 hB3 HF1
  go_wp2_with fail
  obtain ⟨w4, hw4⟩ : ∃ x, x = w3.alloc (.cells #[.int .u8 186] U8) := ⟨_, rfl⟩
  have HW4 : Hid (Rd w4 bE (some ⟨w3.heap.size, 0, none⟩) [186] ∧ Below w3.heap.size w3 w4) := Lib.hid (by rw [hw4]; exact ⟨rd_new _ _ _ _ _ rfl, below_alloc _ _⟩)
  rw [← hw4]
  clear hw4
  refine (read_any (some ⟨w3.heap.size, 0, none⟩) 1 1 [186] w4 rfl (by decide) HW4.out.1).mono ?_
  rintro e w5 ⟨a5, n5, c5, qs5, rfl, -, -, hB5⟩
  rw [HF2.out]
  have H5 : Hid (Below w3.heap.size w3 w5) := Lib.hid (HW4.out.2.trans (hB5.mono HW4.out.2.size))
  clear hB5 HF2
  match qs, H3 with
  | [q0, q1, q2, q3], H3 =>
  have hq := H3.out.2.1
  simp only [List.map_cons, List.map_nil, List.cons.injEq, and_true] at hq
  obtain ⟨e0, e1, e2, e3⟩ := hq
  have hR5 := H3.out.1.below H5.out
  obtain ⟨b, off, rfl, hc, -⟩ := hR5.at (i := 0) (show 0 < 4 by decide)
  obtain ⟨b', off', hab, hc1, -⟩ := hR5.at (i := 1) (show 1 < 4 by decide)
  obtain ⟨b'', off'', hab', hc2, -⟩ := hR5.at (i := 2) (show 2 < 4 by decide)
  obtain ⟨b3, off3, hab3, hc3, -⟩ := hR5.at (i := 3) (show 3 < 4 by decide)
  simp only [Option.some.injEq, Addr.mk.injEq, and_true] at hab hab' hab3
  obtain ⟨rfl, rfl⟩ := hab
  obtain ⟨rfl, rfl⟩ := hab'
  obtain ⟨rfl, rfl⟩ := hab3
  have k0 : w5.cell? ⟨b, off + 3, none⟩ = some (.int .i64 (-1)) := by
    have h := hc 3 (by decide)
    have e : (msL q0).getD 3 undef = .int .i64 (-1) := by show Value.int .i64 q0.st.num = _; rw [e0]
    simpa using h.trans (congrArg some e)
  have k1 : w5.cell? ⟨b, off + 8 + 5, none⟩ = some (.int .i64 0) := by
    have h := hc1 5 (by decide)
    have e : (msL q1).getD 5 undef = .int .i64 0 := by show Value.int .i64 q1.st.goal = _; rw [e1]
    simpa using h.trans (congrArg some e)
  have k2 : w5.cell? ⟨b, off + 16 + 2, none⟩ = some (.int .i64 256) := by
    have h := hc2 2 (by decide)
    have e : (msL q2).getD 2 undef = .int .i64 256 := by show Value.int .i64 q2.st.var = _; rw [e2]
    simpa using h.trans (congrArg some e)
  have k3 : w5.cell? ⟨b, off + 24, none⟩ = some (.int .i64 9) := by
    have h := hc3 0 (by decide)
    have e : (msL q3).getD 0 undef = .int .i64 9 := by show Value.int .i64 q3.st.at' = _; rw [e3]
    simpa using h.trans (congrArg some e)
  have HB := Lib.hid (And.intro (H1.out.2.trans (H3.out.2.2.mono H1.out.2.size)) H5.out)
  have HB5 : Hid (Below w.heap.size w w5) := Lib.hid (HB.out.1.trans (HB.out.2.mono HB.out.1.size))
  have hcv := conv_str (P := Try.prog) Try.underlying22 Try.underlying5 Try.underlying9 c1 (n := 3) (l := [19, 1, 44]) rfl ((H1.out.1.below H3.out.2.2).below H5.out)
  rw [show strOf [19, 1, 44] = ⟨#[19, 1, 44]⟩ from rfl] at hcv
  clear e0 e1 e2 e3 hR5 hc hc1 hc2 hc3 H1 H3 H5 HB
  go_wp2_with fail
  refine (form_any 171 w5).mono ?_
  rintro e w6 ⟨rfl, hB6⟩
  rw [fx_form]
  have HB6 := Lib.hid (HB5.out.trans (hB6.mono HB5.out.size))
  clear hB6 HB5 k0 k1 k2 k3 hcv
  go_wp2_with fail
  have HS := Lib.hid (fun w' => size_116 (st := ⟨0, 170, 0, 0, 0, 0, [1], [0]⟩) (ka := some ⟨w6.heap.size, 0, none⟩) (kn := 1) (kc := 1) (ta := some ⟨w6.heap.size + 1, 0, none⟩) (tn := 1) (tc := 1) 0 w' fx_form0 (by decide) rfl rfl (by decide) (by decide))
  refine (HS.out _).mono ?_
  rintro e w7 ⟨rfl, hB7⟩
  have HB7 : Hid (Below w.heap.size w w7) := Lib.hid (HB6.out.trans (Below.trans (((below_alloc _ _).trans ((below_alloc _ _).mono (by simp))).mono HB6.out.size) (hB7.mono (by have := HB6.out.size; simp; omega))))
  clear hB7 HS
  go_wp2
  go_ret
  exact ⟨rfl, HB7.out⟩
end Go.Proofs.Ytgcdeadfkljeaaa
