/- Writing instructions: Put, whatever the form. -/
import Derived.Test.YtgcdeadfkljeaaaOpsN
import Derived.Test.YtgcdeadfkljeaaaOpsO
import Derived.Test.YtgcdeadfkljeaaaOpsP
import Derived.Test.YtgcdeadfkljeaaaOpsQ
import Derived.Test.YtgcdeadfkljeaaaOpsR
import Derived.Test.YtgcdeadfkljeaaaOpsS
import Derived.Test.YtgcdeadfkljeaaaOpsU
namespace Go.Proofs.Ytgcdeadfkljeaaa
open Go.RowKit
set_option linter.unusedVariables false
set_option linter.unusedSimpArgs false

theorem formI_lt (x : Int) : formI x < 256 := by
  unfold formI
  split
  · omega
  · exact formF_lt _
theorem right_sw {st : StepK} {f : Nat} (hf : f = 116 ∨ f = 108) (h : rightK st f = true) : st.keys.length = st.tgts.length ∧ (f = 116 → st.keys ≠ []) := by
  unfold rightK at h
  rw [if_neg (by omega), if_neg (by omega), if_pos hf] at h
  simp only [Bool.and_eq_true, sizedK, beq_iff_eq] at h
  refine ⟨h.1.1.1, fun e he => ?_⟩
  have h2 := h.1.2
  rw [e, he] at h2
  simp at h2
section
variable {st : StepK} {ka : Option Addr} {kn kc : Nat} {ta : Option Addr} {tn tc : Nat}
theorem put_any (p : Option Addr) (n c : Nat) (L : List UInt8) (w : World) (h : StvOk w st ka kn kc ta tn tc) (hl : L.length = n ∧ n ≤ 1000000) (hr : Rd w bE p L) : Calls Try.prog 22 #[.slice p n c, stV st ka kn kc ta tn tc] w (PutPost w L st) := by
  have hl2 : L.length = n ∧ n ≤ 10000000 := ⟨hl.1, by omega⟩
  obtain ⟨f, hf⟩ : ∃ f, formI st.op = f := ⟨_, rfl⟩
  have h8 : f < 256 := hf ▸ formI_lt st.op
  by_cases h0 : f = 0
  · exact put_bad0 f p n c L w h hl2 hf h8 h0
  cases hR : rightK st f with
  | false => exact put_bad2 f p n c L w h hl2 hf h8 h0 hR
  | true =>
    have hkt : f = 116 ∨ f = 108 → kn = tn := fun hs => by
      have := (right_sw hs hR).1
      rw [h.kl, h.tl] at this
      exact this
    cases hF : fitsK st f (n : Int) with
    | false => exact put_bad5 f p n c L w h hl2 hf h8 h0 hR hF hkt
    | true =>
      by_cases h98 : f = 98
      · subst h98; exact put_98 p n c L w h hl2 hr hf hR hF
      by_cases h115 : f = 115
      · subst h115; exact put_115 p n c L w h hl2 hr hf hR hF
      by_cases h99 : f = 99
      · subst h99
        by_cases hp : 255 < st.pool
        · exact put_99b p n c L w h hl2 hr hf hR hF hp
        · exact put_99s p n c L w h hl2 hr hf hR hF hp
      by_cases h100 : f = 100
      · subst h100; exact put_100 p n c L w h hl2 hr hf hR hF
      by_cases h112 : f = 112
      · subst h112; exact put_112 p n c L w h hl2 hr hf hR hF
      by_cases h118 : f = 118
      · subst h118
        cases hw : wideK st 118 with
        | false => exact put_118n p n c L w h hl2 hr hf hR hF hw
        | true => exact put_118w p n c L w h hl2 hr hf hR hF hw
      by_cases h105 : f = 105
      · subst h105
        cases hw : wideK st 105 with
        | false => exact put_105n p n c L w h hl2 hr hf hR hF hw
        | true => exact put_105w p n c L w h hl2 hr hf hR hF hw
      by_cases h106 : f = 106
      · subst h106; exact put_106 p n c L w h hl2 hr hf hR hF
      by_cases h119 : f = 119
      · subst h119; exact put_119 p n c L w h hl2 hr hf hR hF
      by_cases h102 : f = 102
      · subst h102; exact put_102 p n c L w h hl2 hr hf hR hF
      by_cases h109 : f = 109
      · subst h109; exact put_109 p n c L w h hl2 hr hf hR hF
      by_cases h97 : f = 97
      · subst h97; exact put_97 p n c L w h hl2 hr hf hR hF
      by_cases h116 : f = 116
      · subst h116; exact put_116 p n c L w h hl hr hf hR hF (hkt (.inl rfl)) ((right_sw (.inl rfl) hR).2 rfl)
      by_cases h108 : f = 108
      · subst h108; exact put_108 p n c L w h hl hr hf hR hF (hkt (.inr rfl))
      exact put_else f p n c L w h hl2 hr hf hR hF ⟨h8, h0⟩ ⟨h98, h115, h99, h100, h112, h118, h105, h106, h119, h102, h109, h97, h116, h108⟩
end
end Go.Proofs.Ytgcdeadfkljeaaa
