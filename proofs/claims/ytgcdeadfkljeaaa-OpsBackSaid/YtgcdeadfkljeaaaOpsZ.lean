/- What an instruction that is read without an error tells; the instructions of a row. -/
import Derived.Test.YtgcdeadfkljeaaaOpsY
namespace Go.Proofs.Ytgcdeadfkljeaaa
open Go.RowKit
set_option linter.unusedVariables false
set_option linter.unusedSimpArgs false

/-- A step's bytes, as Put writes them at a place. -/
def stB (st : StepK) (p : Nat) : List UInt8 := headK st (formI st.op) ++ bodyK st (formI st.op) p
/-- What holds of a step that is read at p, q behind it. -/
structure StG (L : List UInt8) (p : Nat) (st : StepK) (q : Nat) : Prop where
  at' : st.at' = (p : Int)
  op : 0 ≤ st.op ∧ st.op ≤ 201 ∧ formI st.op ≠ 0
  right : rightK st (formI st.op) = true
  fits : (goesK (formI st.op) = true → 0 ≤ st.goal ∧ st.goal ≤ 65536) → (∀ t ∈ st.tgts, 0 ≤ t ∧ t ≤ 65536) → fitsK st (formI st.op) (p : Int) = true
  bytes : (stB st p).length < q - p ∨ (At L p (stB st p) ∧ p + (stB st p).length = q)
  lt : p < q ∧ q ≤ L.length
  vr : 0 ≤ st.var ∧ st.var ≤ 65535
  nr : -2147483648 ≤ st.num ∧ st.num ≤ 2147483647
  pr : 0 ≤ st.pool ∧ st.pool ≤ 65535
  gr : -2147483648 ≤ st.goal ∧ st.goal ≤ 4294967296
  kr : ∀ x ∈ st.keys, -2147483648 ≤ x ∧ x ≤ 2147483647
  tr : ∀ x ∈ st.tgts, -2147483648 ≤ x ∧ x ≤ 4294967296
  kt : st.keys.length = st.tgts.length ∧ st.keys.length ≤ L.length
theorem form_cases : ∀ k, k < 202 → formF k ∈ [0, 45, 98, 115, 99, 100, 112, 118, 105, 106, 119, 102, 109, 97, 116, 108] := by decide +kernel
def hdB (wide : Bool) (op : Int) : List UInt8 := (if wide then [196] else []) ++ [UInt8.ofNat op.toNat]
theorem fin_ok {L hd bd : List UInt8} {p p2 q : Nat} (h1 : At L p hd) (h2 : p2 = p + hd.length) (h3 : At L p2 bd) (h4 : q = p2 + bd.length) : At L p (hd ++ bd) ∧ p + (hd ++ bd).length = q := by
  subst h2
  exact ⟨h1.cat h3, by rw [List.length_append]; omega⟩
theorem hdB_len (wide : Bool) (op : Int) : (hdB wide op).length = if wide then 2 else 1 := by cases wide <;> rfl
theorem big_rng {L : List UInt8} {s : CS} : (0 ≤ (bigK L 1 s).1 ∧ (bigK L 1 s).1 ≤ 255) ∧ (0 ≤ (bigK L 2 s).1 ∧ (bigK L 2 s).1 ≤ 65535) := by
  have h1 := bigK_lt L 1 s (.inl rfl)
  have h2 := bigK_lt L 2 s (.inr (.inl rfl))
  have e1 : ((256 ^ (1 : Int).toNat : Nat) : Int) = 256 := by decide
  have e2 : ((256 ^ (2 : Int).toNat : Nat) : Int) = 65536 := by decide
  rw [e1] at h1
  rw [e2] at h2
  omega
theorem opK_good {L : List UInt8} {p : Nat} (h : (opK L ⟨p, 0⟩).2.2.2.e = 0) : ∃ wide op, opK L ⟨p, 0⟩ = (if wide then 2 else 1, wide, op, ⟨p + (hdB wide op).length, 0⟩) ∧ 0 ≤ op ∧ op ≤ 255 ∧ At L p (hdB wide op) := by
  unfold opK at h ⊢
  by_cases h196 : (bigK L 1 ⟨p, 0⟩).1 = 196
  · rw [if_pos h196] at h ⊢
    obtain ⟨h1, h2, h3, h4⟩ := big_put (.inl rfl) h
    obtain ⟨k1, k2, k3, k4⟩ := big_put (.inl rfl) h1
    have hr := (big_rng (L := L) (s := (bigK L 1 ⟨p, 0⟩).2)).1
    have e1 : (1 : Int).toNat = 1 := rfl
    rw [h196, putB_one 196 (by decide)] at k3
    rw [e1] at h2 k2
    have hp : (bigK L 1 ⟨p, 0⟩).2.p = p + 1 := by rw [k2]
    rw [putB_one _ (by omega), hp] at h3
    rw [hp] at h2
    refine ⟨true, (bigK L 1 (bigK L 1 ⟨p, 0⟩).2).1, ?_, hr.1, hr.2, k3.cat h3⟩
    rw [h2]; rfl
  · rw [if_neg h196] at h ⊢
    obtain ⟨h1, h2, h3, h4⟩ := big_put (.inl rfl) h
    have hr := (big_rng (L := L) (s := ⟨p, 0⟩)).1
    rw [putB_one _ (by omega)] at h3
    refine ⟨false, (bigK L 1 ⟨p, 0⟩).1, ?_, hr.1, hr.2, h3⟩
    rw [h2]; rfl
theorem form_e {x : Int} {wide : Bool} {s : CS} (h : (formK x wide s).2.e = 0) : (formK x wide s).2 = s ∧ x ≤ 201 ∧ (formK x wide s).1 = formF x.toNat ∧ formF x.toNat ≠ 0 ∧ (wide = true → formF x.toNat = 118 ∨ formF x.toNat = 105) := by
  unfold formK at h ⊢
  simp only at h ⊢
  by_cases hx : x ≤ 201
  · rw [if_pos hx] at h ⊢
    by_cases hb : formB (formF x.toNat) wide = true
    · exfalso
      rw [if_pos hb] at h
      unfold failC failE at h
      simp only at h
      split at h
      · cases h
      · rename_i h2; exact h2 h
    · rw [if_neg hb]
      refine ⟨rfl, hx, rfl, fun e => hb (by rw [e]; rfl), fun hw => ?_⟩
      rw [hw] at hb
      unfold formB at hb
      simp at hb
      omega
  · exfalso
    rw [if_neg hx] at h
    have hb : formB 0 wide = true := rfl
    rw [if_pos hb] at h
    unfold failC failE at h
    simp only at h
    split at h
    · cases h
    · rename_i h2; exact h2 h
abbrev stZ0 (p : Nat) (op : Int) : StepK := ⟨(p : Int), op, 0, 0, 0, 0, [], []⟩
theorem formI_of {op : Int} {f : Nat} (h : 0 ≤ op ∧ op ≤ 201) (hf : formF op.toNat = f) : formI op = f := by
  unfold formI; rw [if_neg (by omega)]; exact hf
theorem head_no {st : StepK} {f : Nat} (hw : wideK st f = false) (h9 : f ≠ 99) : headK st f = hdB false st.op := by
  unfold headK opcK hdB
  rw [hw, if_neg h9]
theorem head_yes {st : StepK} {f : Nat} (hw : wideK st f = true) (h9 : f ≠ 99) : headK st f = hdB true st.op := by
  unfold headK opcK hdB
  rw [hw, if_neg h9]
section
variable {L : List UInt8} {p q : Nat} {op : Int} {st : StepK} {f : Nat}
theorem mk_st (hfi : formI st.op = f) (hso : 0 ≤ st.op ∧ st.op ≤ 201) (h0 : f ≠ 0) (hb : (headK st f ++ bodyK st f p).length < q - p ∨ (At L p (headK st f ++ bodyK st f p) ∧ p + (headK st f ++ bodyK st f p).length = q)) (hq : p < q ∧ q ≤ L.length)
    (ha : st.at' = (p : Int)) (hR : rightK st f = true) (hF : (goesK f = true → 0 ≤ st.goal ∧ st.goal ≤ 65536) → (∀ t ∈ st.tgts, 0 ≤ t ∧ t ≤ 65536) → fitsK st f (p : Int) = true)
    (vr : 0 ≤ st.var ∧ st.var ≤ 65535) (nr : -2147483648 ≤ st.num ∧ st.num ≤ 2147483647) (pr : 0 ≤ st.pool ∧ st.pool ≤ 65535) (gr : -2147483648 ≤ st.goal ∧ st.goal ≤ 4294967296)
    (kr : ∀ x ∈ st.keys, -2147483648 ≤ x ∧ x ≤ 2147483647) (tr : ∀ x ∈ st.tgts, -2147483648 ≤ x ∧ x ≤ 4294967296) (kt : st.keys.length = st.tgts.length ∧ st.keys.length ≤ L.length) : StG L p st q := by
  refine ⟨ha, by rw [hfi]; exact ⟨hso.1, hso.2, h0⟩, by rw [hfi]; exact hR, by rw [hfi]; exact hF, by unfold stB; rw [hfi]; exact hb, hq, vr, nr, pr, gr, kr, tr, kt⟩
/-- A step whose bytes are read again. -/
theorem mk_ok {wide : Bool} {l : List UInt8} (hfi : formI st.op = f) (hso : 0 ≤ st.op ∧ st.op ≤ 201) (h0 : f ≠ 0) (h1 : At L p (hdB wide op)) (hhd : headK st f = hdB wide op) (h3 : At L (p + (hdB wide op).length) l) (hb : bodyK st f p = l) (hq : q = p + (hdB wide op).length + l.length)
    (ha : st.at' = (p : Int)) (hR : rightK st f = true) (hF : (goesK f = true → 0 ≤ st.goal ∧ st.goal ≤ 65536) → (∀ t ∈ st.tgts, 0 ≤ t ∧ t ≤ 65536) → fitsK st f (p : Int) = true)
    (vr : 0 ≤ st.var ∧ st.var ≤ 65535) (nr : -2147483648 ≤ st.num ∧ st.num ≤ 2147483647) (pr : 0 ≤ st.pool ∧ st.pool ≤ 65535) (gr : -2147483648 ≤ st.goal ∧ st.goal ≤ 4294967296)
    (kr : ∀ x ∈ st.keys, -2147483648 ≤ x ∧ x ≤ 2147483647) (tr : ∀ x ∈ st.tgts, -2147483648 ≤ x ∧ x ≤ 4294967296) (kt : st.keys.length = st.tgts.length ∧ st.keys.length ≤ L.length) : StG L p st q := by
  have hfin := fin_ok h1 rfl h3 hq
  have hlen : 0 < (hdB wide op).length := by rw [hdB_len]; split <;> omega
  have := h3.2
  exact mk_st hfi hso h0 (.inr (by rw [hhd, hb]; exact hfin)) ⟨by omega, by omega⟩ ha hR hF vr nr pr gr kr tr kt
end
theorem putB_up (x : Int) (h : 0 ≤ x ∧ x ≤ 255) : putB (u64N (x * 256)) 2 = [UInt8.ofNat x.toNat] ++ [0] := by
  show (littleL (u64N (x * 256)) 2).reverse = _
  rw [little_two]
  have h1 : u64N (x * 256) % 256 = 0 := by unfold u64N; omega
  have h2 : u64N (x * 256) / 256 % 256 = x.toNat := by unfold u64N; omega
  rw [h1, h2]; rfl
end Go.Proofs.Ytgcdeadfkljeaaa
