/- Writing instructions: Put, form by form (what it refuses). -/
import Derived.Test.YtgcdeadfkljeaaaOpsM
namespace Go.Proofs.Ytgcdeadfkljeaaa
open Go.RowKit
set_option linter.unusedVariables false
set_option linter.unusedSimpArgs false

section
variable {st : StepK} {ka : Option Addr} {kn kc : Nat} {ta : Option Addr} {tn tc : Nat}
set_option maxRecDepth 100000 in
set_option maxHeartbeats 8000000 in
theorem put_bad0 (f : Nat) (p : Option Addr) (n c : Nat) (L : List UInt8) (w : World) (h : StvOk w st ka kn kc ta tn tc) (hl : L.length = n ∧ n ≤ 10000000) (hf : formI st.op = f) (h8 : f < 256) (h0 : f = 0) : Calls Try.prog 22 #[.slice p n c, stV st ka kn kc ta tn tc] w (PutPost w L st) := by
  have HK := Lib.hid h
  obtain ⟨o, ho⟩ : ∃ o, o = w.heap.size := ⟨_, rfl⟩
  have HBO : Hid (Blk (w.alloc (.cells (stC st (.slice ka kn kc) (.slice ta tn tc)) STO)) w.heap.size STO (stC st (.slice ka kn kc) (.slice ta tn tc)) ∧ Below w.heap.size w (w.alloc (.cells (stC st (.slice ka kn kc) (.slice ta tn tc)) STO))) := Lib.hid ⟨Blk.new _ _ _, below_alloc _ _⟩
  have q1 : (w.alloc (.cells (stC st (.slice ka kn kc) (.slice ta tn tc)) STO)).cell? ⟨w.heap.size, 1, none⟩ = some (.int .i64 st.op) := HBO.out.1.cell (i := 1) rfl
  have HFO := Lib.hid hf
  have HPK : Hid (putK L st = ([], 9)) := Lib.hid (by unfold putK; rw [hf, if_pos h0])
  subst h0
  clear hf h hl
  go_enter Try.func22, Try.ntmps22
  go_wp2_with fail
  refine (form_any st.op _).mono ?_
  rintro e w2 ⟨rfl, hb2⟩
  have HB2 : Hid (Blk w2 o STO (stC st (.slice ka kn kc) (.slice ta tn tc)) ∧ Below w.heap.size w w2) := Lib.hid ⟨by rw [ho]; exact HBO.out.1.below hb2, HBO.out.2.trans (hb2.mono HBO.out.2.size)⟩
  rw [← ho]
  clear ho hb2 HBO q1
  rw [HFO.out]
  go_wp2
  go_ret2
  exact ⟨none, 0, 0, by rw [HPK.out] <;> rfl, by rw [HPK.out]; rfl, by rw [HPK.out]; exact Rd.nil, HB2.out.2⟩
set_option maxRecDepth 100000 in
set_option maxHeartbeats 8000000 in
theorem put_bad2 (f : Nat) (p : Option Addr) (n c : Nat) (L : List UInt8) (w : World) (h : StvOk w st ka kn kc ta tn tc) (hl : L.length = n ∧ n ≤ 10000000) (hf : formI st.op = f) (h8 : f < 256) (h0 : f ≠ 0) (hR : rightK st f = false) : Calls Try.prog 22 #[.slice p n c, stV st ka kn kc ta tn tc] w (PutPost w L st) := by
  have HK := Lib.hid h
  obtain ⟨o, ho⟩ : ∃ o, o = w.heap.size := ⟨_, rfl⟩
  have HBO : Hid (Blk (w.alloc (.cells (stC st (.slice ka kn kc) (.slice ta tn tc)) STO)) w.heap.size STO (stC st (.slice ka kn kc) (.slice ta tn tc)) ∧ Below w.heap.size w (w.alloc (.cells (stC st (.slice ka kn kc) (.slice ta tn tc)) STO))) := Lib.hid ⟨Blk.new _ _ _, below_alloc _ _⟩
  have q1 : (w.alloc (.cells (stC st (.slice ka kn kc) (.slice ta tn tc)) STO)).cell? ⟨w.heap.size, 1, none⟩ = some (.int .i64 st.op) := HBO.out.1.cell (i := 1) rfl
  have HFO := Lib.hid hf
  have HPK : Hid (putK L st = ([], 2)) := Lib.hid (by unfold putK; rw [hf, if_neg h0, if_pos hR])
  have HRT := Lib.hid (fun w' h => right_any (st := st) (ka := ka) (kn := kn) (kc := kc) (ta := ta) (tn := tn) (tc := tc) f w' h8 h)
  rw [hR] at HRT
  have e0 : ((f : Int) == 0) = false := by simp; omega
  clear hR h0 h8
  clear hf h hl
  go_enter Try.func22, Try.ntmps22
  go_wp2_with fail
  refine (form_any st.op _).mono ?_
  rintro e w2 ⟨rfl, hb2⟩
  have HB2 : Hid (Blk w2 o STO (stC st (.slice ka kn kc) (.slice ta tn tc)) ∧ Below w.heap.size w w2) := Lib.hid ⟨by rw [ho]; exact HBO.out.1.below hb2, HBO.out.2.trans (hb2.mono HBO.out.2.size)⟩
  rw [← ho]
  clear ho hb2 HBO q1
  rw [HFO.out]
  go_wp2_with (refine wpList_load_row rfl _ _ rfl _ rfl _ _ _ _ HB2.out.1 Try.underlying48 rfl size_sto8 ?_)
  refine (HRT.out w2 (HK.out.later HB2.out.2)).mono ?_
  rintro e w3 ⟨rfl, hb3⟩
  have HB3 := Lib.hid (HB2.out.2.trans (hb3.mono HB2.out.2.size))
  clear hb3
  go_wp2
  go_ret2
  exact ⟨none, 0, 0, by rw [HPK.out] <;> rfl, by rw [HPK.out]; rfl, by rw [HPK.out]; exact Rd.nil, HB3.out⟩
set_option maxRecDepth 100000 in
set_option maxHeartbeats 8000000 in
theorem put_bad5 (f : Nat) (p : Option Addr) (n c : Nat) (L : List UInt8) (w : World) (h : StvOk w st ka kn kc ta tn tc) (hl : L.length = n ∧ n ≤ 10000000) (hf : formI st.op = f) (h8 : f < 256) (h0 : f ≠ 0) (hR : rightK st f = true) (hF : fitsK st f (n : Int) = false) (hkt : f = 116 ∨ f = 108 → kn = tn) : Calls Try.prog 22 #[.slice p n c, stV st ka kn kc ta tn tc] w (PutPost w L st) := by
  have HK := Lib.hid h
  obtain ⟨o, ho⟩ : ∃ o, o = w.heap.size := ⟨_, rfl⟩
  have HBO : Hid (Blk (w.alloc (.cells (stC st (.slice ka kn kc) (.slice ta tn tc)) STO)) w.heap.size STO (stC st (.slice ka kn kc) (.slice ta tn tc)) ∧ Below w.heap.size w (w.alloc (.cells (stC st (.slice ka kn kc) (.slice ta tn tc)) STO))) := Lib.hid ⟨Blk.new _ _ _, below_alloc _ _⟩
  have q1 : (w.alloc (.cells (stC st (.slice ka kn kc) (.slice ta tn tc)) STO)).cell? ⟨w.heap.size, 1, none⟩ = some (.int .i64 st.op) := HBO.out.1.cell (i := 1) rfl
  have HFO := Lib.hid hf
  have HPK : Hid (putK L st = ([], 5)) := Lib.hid (by unfold putK; rw [hf, hl.1, if_neg h0, if_neg (by rw [hR]; decide), if_pos hF])
  have HRT := Lib.hid (fun w' h => right_any (st := st) (ka := ka) (kn := kn) (kc := kc) (ta := ta) (tn := tn) (tc := tc) f w' h8 h)
  have HFT := Lib.hid (fun w' h => fits_any (st := st) (ka := ka) (kn := kn) (kc := kc) (ta := ta) (tn := tn) (tc := tc) f (n : Int) w' h8 h (by omega) hkt)
  rw [hR] at HRT
  rw [hF] at HFT
  have e0 : ((f : Int) == 0) = false := by simp; omega
  clear hR hF h0 h8 hkt
  clear hf h hl
  go_enter Try.func22, Try.ntmps22
  go_wp2_with fail
  refine (form_any st.op _).mono ?_
  rintro e w2 ⟨rfl, hb2⟩
  have HB2 : Hid (Blk w2 o STO (stC st (.slice ka kn kc) (.slice ta tn tc)) ∧ Below w.heap.size w w2) := Lib.hid ⟨by rw [ho]; exact HBO.out.1.below hb2, HBO.out.2.trans (hb2.mono HBO.out.2.size)⟩
  rw [← ho]
  clear ho hb2 HBO q1
  rw [HFO.out]
  go_wp2_with (refine wpList_load_row rfl _ _ rfl _ rfl _ _ _ _ HB2.out.1 Try.underlying48 rfl size_sto8 ?_)
  refine (HRT.out w2 (HK.out.later HB2.out.2)).mono ?_
  rintro e w3 ⟨rfl, hb3⟩
  have HB3 := Lib.hid (And.intro (HB2.out.1.below hb3) (HB2.out.2.trans (hb3.mono HB2.out.2.size)))
  clear hb3
  go_wp2_with (refine wpList_load_row rfl _ _ rfl _ rfl _ _ _ _ HB3.out.1 Try.underlying48 rfl size_sto8 ?_)
  refine (HFT.out w3 (HK.out.later HB3.out.2)).mono ?_
  rintro e w4 ⟨rfl, hb4⟩
  have HB4 := Lib.hid (HB3.out.2.trans (hb4.mono HB3.out.2.size))
  clear hb4
  go_wp2
  go_ret2
  exact ⟨none, 0, 0, by rw [HPK.out] <;> rfl, by rw [HPK.out]; rfl, by rw [HPK.out]; exact Rd.nil, HB4.out⟩
end
end Go.Proofs.Ytgcdeadfkljeaaa
