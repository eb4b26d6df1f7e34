/- What an instruction that is read without an error tells: form by form. -/
import Derived.Test.YtgcdeadfkljeaaaOpsZ
namespace Go.Proofs.Ytgcdeadfkljeaaa
open Go.RowKit
set_option linter.unusedVariables false
set_option linter.unusedSimpArgs false

section
variable {L : List UInt8} {p : Nat} {op : Int}
theorem no_keys {P : Int → Prop} : ∀ x ∈ ([] : List Int), P x := by simp
theorem z_rng : (0 : Int) ≤ 0 ∧ (0 : Int) ≤ 65535 := by decide
theorem z_rng2 : (-2147483648 : Int) ≤ 0 ∧ (0 : Int) ≤ 2147483647 := by decide
theorem z_rng3 : (-2147483648 : Int) ≤ 0 ∧ (0 : Int) ≤ 4294967296 := by decide
theorem z_kt : ([] : List Int).length = ([] : List Int).length ∧ ([] : List Int).length ≤ L.length := ⟨rfl, Nat.zero_le _⟩
theorem inK_rng {v : Int} : (inK v 8 = true → -2147483648 ≤ v ∧ v ≤ 2147483647) ∧ (inK v 16 = true → -2147483648 ≤ v ∧ v ≤ 2147483647) ∧ (inK v 32 = true → -2147483648 ≤ v ∧ v ≤ 2147483647) := by
  unfold inK
  refine ⟨?_, ?_, ?_⟩ <;> (intro h; simp at h; omega)
theorem short_of {v : Int} (h : 0 ≤ v ∧ v ≤ 65535) : shortK v = true := by unfold shortK; simp; omega
theorem far_of {goal at' : Int} {b : Nat} (h : 0 ≤ goal ∧ goal ≤ 65536) (hi : inK (goal - at') b = true) : farK6 goal at' b = true := by
  unfold farK6; rw [hi]; simp; omega
theorem good_45 (hf : formF op.toNat = 45) (h1 : At L p (hdB false op)) (hop : 0 ≤ op ∧ op ≤ 201) (hL : L.length < 65536) (h : (oneB L (stZ0 p op) 1 45 ⟨p + (hdB false op).length, 0⟩).2.e = 0) : StG L p (oneB L (stZ0 p op) 1 45 ⟨p + (hdB false op).length, 0⟩).1 (oneB L (stZ0 p op) 1 45 ⟨p + (hdB false op).length, 0⟩).2.p := by
  exact mk_ok (l := []) (formI_of hop hf) hop (by decide) h1 (head_no rfl (by decide)) (At.nil h1.2) rfl rfl rfl rfl (fun _ _ => rfl) z_rng z_rng2 z_rng z_rng3 no_keys no_keys z_kt
theorem good_98 (hf : formF op.toNat = 98) (h1 : At L p (hdB false op)) (hop : 0 ≤ op ∧ op ≤ 201) (hL : L.length < 65536) (h : (oneB L (stZ0 p op) 1 98 ⟨p + (hdB false op).length, 0⟩).2.e = 0) : StG L p (oneB L (stZ0 p op) 1 98 ⟨p + (hdB false op).length, 0⟩).1 (oneB L (stZ0 p op) 1 98 ⟨p + (hdB false op).length, 0⟩).2.p := by
  rw [oneB_98] at h ⊢
  obtain ⟨-, h2, h3, h4⟩ := sgn_put (.inl rfl) h
  exact mk_ok (formI_of hop hf) hop (by decide) h1 (head_no rfl (by decide)) h3 rfl (by rw [putB_lenM (.inl rfl)]; exact congrArg CS.p h2) rfl rfl (fun _ _ => sgn_in.1) z_rng (sgnK_rng L 1 _ (.inl rfl)) z_rng z_rng3 no_keys no_keys z_kt
theorem good_115 (hf : formF op.toNat = 115) (h1 : At L p (hdB false op)) (hop : 0 ≤ op ∧ op ≤ 201) (hL : L.length < 65536) (h : (oneB L (stZ0 p op) 1 115 ⟨p + (hdB false op).length, 0⟩).2.e = 0) : StG L p (oneB L (stZ0 p op) 1 115 ⟨p + (hdB false op).length, 0⟩).1 (oneB L (stZ0 p op) 1 115 ⟨p + (hdB false op).length, 0⟩).2.p := by
  rw [oneB_115] at h ⊢
  obtain ⟨-, h2, h3, h4⟩ := sgn_put (.inr (.inl rfl)) h
  exact mk_ok (formI_of hop hf) hop (by decide) h1 (head_no rfl (by decide)) h3 rfl (by rw [putB_lenM (.inr (.inl rfl))]; exact congrArg CS.p h2) rfl rfl (fun _ _ => sgn_in.2.1) z_rng (sgnK_rng L 2 _ (.inr (.inl rfl))) z_rng z_rng3 no_keys no_keys z_kt
theorem good_100 (hf : formF op.toNat = 100) (h1 : At L p (hdB false op)) (hop : 0 ≤ op ∧ op ≤ 201) (hL : L.length < 65536) (h : (oneB L (stZ0 p op) 1 100 ⟨p + (hdB false op).length, 0⟩).2.e = 0) : StG L p (oneB L (stZ0 p op) 1 100 ⟨p + (hdB false op).length, 0⟩).1 (oneB L (stZ0 p op) 1 100 ⟨p + (hdB false op).length, 0⟩).2.p := by
  rw [oneB_100] at h ⊢
  obtain ⟨-, h2, h3, h4⟩ := big_put (.inr (.inl rfl)) h
  exact mk_ok (formI_of hop hf) hop (by decide) h1 (head_no rfl (by decide)) h3 rfl (by rw [putB_lenM (.inr (.inl rfl))]; exact congrArg CS.p h2) rfl rfl (fun _ _ => short_of big_rng.2) z_rng z_rng2 big_rng.2 z_rng3 no_keys no_keys z_kt
theorem good_112 (hf : formF op.toNat = 112) (h1 : At L p (hdB false op)) (hop : 0 ≤ op ∧ op ≤ 201) (hL : L.length < 65536) (h : (oneB L (stZ0 p op) 1 112 ⟨p + (hdB false op).length, 0⟩).2.e = 0) : StG L p (oneB L (stZ0 p op) 1 112 ⟨p + (hdB false op).length, 0⟩).1 (oneB L (stZ0 p op) 1 112 ⟨p + (hdB false op).length, 0⟩).2.p := by
  rw [oneB_112] at h ⊢
  obtain ⟨-, h2, h3, h4⟩ := big_put (.inr (.inl rfl)) h
  exact mk_ok (formI_of hop hf) hop (by decide) h1 (head_no rfl (by decide)) h3 rfl (by rw [putB_lenM (.inr (.inl rfl))]; exact congrArg CS.p h2) rfl rfl (fun _ _ => short_of big_rng.2) z_rng z_rng2 big_rng.2 z_rng3 no_keys no_keys z_kt
theorem one_lt {x : Int} (h : 0 ≤ x ∧ x ≤ 255) : ¬ 255 < x := by omega
theorem good_99 (hf : formF op.toNat = 99) (h1 : At L p (hdB false op)) (hop : 0 ≤ op ∧ op ≤ 201) (hL : L.length < 65536) (h : (oneB L (stZ0 p op) 1 99 ⟨p + (hdB false op).length, 0⟩).2.e = 0) : StG L p (oneB L (stZ0 p op) 1 99 ⟨p + (hdB false op).length, 0⟩).1 (oneB L (stZ0 p op) 1 99 ⟨p + (hdB false op).length, 0⟩).2.p := by
  have hk : op.toNat = 18 ∨ op.toNat = 19 := form_99 _ (by omega) hf
  rw [oneB_99] at h ⊢
  rcases hk with hk | hk
  · obtain rfl : op = 18 := by omega
    have e1 : (stZ0 p 18).op - 18 + 1 = 1 := rfl
    rw [e1] at h ⊢
    obtain ⟨-, h2, h3, h4⟩ := big_put (.inl rfl) h
    have hr := (big_rng (L := L) (s := ⟨p + (hdB false 18).length, 0⟩)).1
    have hq : (bigK L 1 ⟨p + (hdB false 18).length, 0⟩).2.p = p + (hdB false 18).length + 1 := congrArg CS.p h2
    have e3 : (hdB false 18).length = 1 := rfl
    have e4 : (1 : Int).toNat = 1 := rfl
    simp only [e4] at h4
    generalize hv : (bigK L 1 ⟨p + (hdB false 18).length, 0⟩).1 = v at *
    have eo : opcK { stZ0 p 18 with pool := v, op := 18 } 99 = 18 := by
      unfold opcK; rw [if_pos rfl]; exact if_neg (one_lt hr)
    have hw : widK { stZ0 p 18 with pool := v, op := 18 } 99 = 1 := by
      unfold widK
      rw [if_neg (by simp [wideK]), if_neg (fun hx => one_lt hr hx.2)]
    have eh : headK { stZ0 p 18 with pool := v, op := 18 } 99 = hdB false 18 := by
      unfold headK; rw [eo]; rfl
    have eb : bodyK { stZ0 p 18 with pool := v, op := 18 } 99 p = putB (u64N v) 1 := by
      unfold bodyK; rw [hw]; rfl
    exact mk_ok (st := { stZ0 p 18 with pool := v, op := 18 }) (f := 99) (wide := false) (op := 18) rfl (show (0 : Int) ≤ 18 ∧ (18 : Int) ≤ 201 by decide) (by decide) h1 eh h3 eb (by rw [putB_lenM (.inl rfl)]; exact hq) rfl rfl (fun _ _ => short_of (v := v) (by omega)) z_rng z_rng2 (show 0 ≤ v ∧ v ≤ 65535 by omega) z_rng3 no_keys no_keys z_kt
  · obtain rfl : op = 19 := by omega
    have e1 : (stZ0 p 19).op - 18 + 1 = 2 := rfl
    rw [e1] at h ⊢
    obtain ⟨-, h2, h3, h4⟩ := big_put (.inr (.inl rfl)) h
    have hr := (big_rng (L := L) (s := ⟨p + (hdB false 19).length, 0⟩)).2
    have hq : (bigK L 2 ⟨p + (hdB false 19).length, 0⟩).2.p = p + (hdB false 19).length + 2 := congrArg CS.p h2
    have e3 : (hdB false 19).length = 1 := rfl
    have e4 : (2 : Int).toNat = 2 := rfl
    simp only [e4] at h4
    generalize hv : (bigK L 2 ⟨p + (hdB false 19).length, 0⟩).1 = v at *
    by_cases hb : 255 < v
    · skip
      have eo : opcK { stZ0 p 19 with pool := v, op := 18 } 99 = 19 := by
        unfold opcK; rw [if_pos rfl]; exact if_pos hb
      have hw : widK { stZ0 p 19 with pool := v, op := 18 } 99 = 2 := by
        unfold widK
        rw [if_neg (by simp [wideK]), if_pos ⟨rfl, hb⟩]
      have eh : headK { stZ0 p 19 with pool := v, op := 18 } 99 = hdB false 19 := by
        unfold headK; rw [eo]; rfl
      have eb : bodyK { stZ0 p 19 with pool := v, op := 18 } 99 p = putB (u64N v) 2 := by
        unfold bodyK; rw [hw]; rfl
      exact mk_ok (st := { stZ0 p 19 with pool := v, op := 18 }) (f := 99) (wide := false) (op := 19) rfl (show (0 : Int) ≤ 18 ∧ (18 : Int) ≤ 201 by decide) (by decide) h1 eh h3 eb (by rw [putB_lenM (.inr (.inl rfl))]; exact hq) rfl rfl (fun _ _ => short_of (v := v) (by omega)) z_rng z_rng2 (show 0 ≤ v ∧ v ≤ 65535 by omega) z_rng3 no_keys no_keys z_kt
    · have eo : opcK { stZ0 p 19 with pool := v, op := 18 } 99 = 18 := by
        unfold opcK; rw [if_pos rfl]; exact if_neg hb
      have hw : widK { stZ0 p 19 with pool := v, op := 18 } 99 = 1 := by
        unfold widK
        rw [if_neg (by simp [wideK]), if_neg (fun hx => hb hx.2)]
      have eh : headK { stZ0 p 19 with pool := v, op := 18 } 99 = hdB false 18 := by
        unfold headK; rw [eo]; rfl
      have eb : bodyK { stZ0 p 19 with pool := v, op := 18 } 99 p = putB (u64N v) (1 : Nat) := by
        unfold bodyK; rw [hw]; rfl
      have hlt : (headK { stZ0 p 19 with pool := v, op := 18 } 99 ++ bodyK { stZ0 p 19 with pool := v, op := 18 } 99 p).length < (bigK L 2 ⟨p + (hdB false 19).length, 0⟩).2.p - p := by
        rw [List.length_append, eb, eh, putB_len1, hq, e3]
        show 1 + 1 < _
        omega
      have h4b : p + (hdB false 19).length + 2 ≤ L.length := h4
      exact mk_st (st := { stZ0 p 19 with pool := v, op := 18 }) (f := 99) rfl (show (0 : Int) ≤ 18 ∧ (18 : Int) ≤ 201 by decide) (by decide) (.inl hlt) (by constructor <;> (simp only [hq]; omega)) rfl rfl (fun _ _ => short_of (v := v) (by omega)) z_rng z_rng2 (show 0 ≤ v ∧ v ≤ 65535 by omega) z_rng3 no_keys no_keys z_kt
theorem good_118 (hf : formF op.toNat = 118) (h1 : At L p (hdB false op)) (hop : 0 ≤ op ∧ op ≤ 201) (hL : L.length < 65536) (h : (oneB L (stZ0 p op) 1 118 ⟨p + (hdB false op).length, 0⟩).2.e = 0) : StG L p (oneB L (stZ0 p op) 1 118 ⟨p + (hdB false op).length, 0⟩).1 (oneB L (stZ0 p op) 1 118 ⟨p + (hdB false op).length, 0⟩).2.p := by
  rw [oneB_118] at h ⊢
  obtain ⟨-, h2, h3, h4⟩ := big_put (.inl rfl) h
  have hr := (big_rng (L := L) (s := ⟨p + (hdB false op).length, 0⟩)).1
  generalize hv : (bigK L 1 ⟨p + (hdB false op).length, 0⟩).1 = v at *
  have hw : wideK { stZ0 p op with var := v } 118 = false := by unfold wideK; simp; omega
  have hk : bodyK { stZ0 p op with var := v } 118 p = putB (u64N v) 1 := by
    unfold bodyK widK; rw [hw]; rfl
  exact mk_ok (formI_of hop hf) hop (by decide) h1 (head_no hw (by decide)) h3 hk (by rw [putB_lenM (.inl rfl)]; exact congrArg CS.p h2) rfl rfl (fun _ _ => short_of (v := v) (by omega)) (show 0 ≤ v ∧ v ≤ 65535 by omega) z_rng2 z_rng z_rng3 no_keys no_keys z_kt
theorem good_118w (hf : formF op.toNat = 118) (h1 : At L p (hdB true op)) (hop : 0 ≤ op ∧ op ≤ 201) (hL : L.length < 65536) (h : (oneB L (stZ0 p op) 2 118 ⟨p + (hdB true op).length, 0⟩).2.e = 0) : StG L p (oneB L (stZ0 p op) 2 118 ⟨p + (hdB true op).length, 0⟩).1 (oneB L (stZ0 p op) 2 118 ⟨p + (hdB true op).length, 0⟩).2.p := by
  rw [oneB_118] at h ⊢
  obtain ⟨-, h2, h3, h4⟩ := big_put (.inr (.inl rfl)) h
  have hr := (big_rng (L := L) (s := ⟨p + (hdB true op).length, 0⟩)).2
  have hq : (bigK L 2 ⟨p + (hdB true op).length, 0⟩).2.p = p + (hdB true op).length + 2 := congrArg CS.p h2
  have e3 : (hdB true op).length = 2 := rfl
  have e4 : (2 : Int).toNat = 2 := rfl
  simp only [e4] at h4
  generalize hv : (bigK L 2 ⟨p + (hdB true op).length, 0⟩).1 = v at *
  by_cases hb : 255 < v
  · have hw : wideK { stZ0 p op with var := v } 118 = true := by unfold wideK; simp; omega
    have hk : bodyK { stZ0 p op with var := v } 118 p = putB (u64N v) 2 := by
      unfold bodyK widK; rw [hw]; rfl
    exact mk_ok (formI_of hop hf) hop (by decide) h1 (head_yes hw (by decide)) h3 hk (by rw [putB_lenM (.inr (.inl rfl))]; exact congrArg CS.p h2) rfl rfl (fun _ _ => short_of (v := v) (by omega)) (show 0 ≤ v ∧ v ≤ 65535 by omega) z_rng2 z_rng z_rng3 no_keys no_keys z_kt
  · have hw : wideK { stZ0 p op with var := v } 118 = false := by unfold wideK; simp; omega
    have hk : bodyK { stZ0 p op with var := v } 118 p = putB (u64N v) (1 : Nat) := by
      unfold bodyK widK; rw [hw]; rfl
    refine mk_st (f := 118) (formI_of hop hf) hop (by decide) (.inl ?_) ⟨?_, ?_⟩ rfl rfl (fun _ _ => short_of (v := v) (by omega)) (show 0 ≤ v ∧ v ≤ 65535 by omega) z_rng2 z_rng z_rng3 no_keys no_keys z_kt
    · rw [List.length_append]
      show (headK { stZ0 p op with var := v } 118).length + (bodyK { stZ0 p op with var := v } 118 p).length < (bigK L 2 ⟨p + (hdB true op).length, 0⟩).2.p - p
      rw [hk, head_no hw (by decide), hdB_len, putB_len1, hq, e3]
      show 1 + 1 < _
      omega
    · show p < (bigK L 2 ⟨p + (hdB true op).length, 0⟩).2.p; rw [hq]; omega
    · show (bigK L 2 ⟨p + (hdB true op).length, 0⟩).2.p ≤ L.length; rw [hq]; omega
theorem good_105 (hf : formF op.toNat = 105) (h1 : At L p (hdB false op)) (hop : 0 ≤ op ∧ op ≤ 201) (hL : L.length < 65536) (h : (oneB L (stZ0 p op) 1 105 ⟨p + (hdB false op).length, 0⟩).2.e = 0) : StG L p (oneB L (stZ0 p op) 1 105 ⟨p + (hdB false op).length, 0⟩).1 (oneB L (stZ0 p op) 1 105 ⟨p + (hdB false op).length, 0⟩).2.p := by
  rw [oneB_105] at h ⊢
  obtain ⟨k1, h2, h3, h4⟩ := sgn_put (.inl rfl) h
  obtain ⟨-, k2, k3, k4⟩ := big_put (.inl rfl) k1
  have hr := (big_rng (L := L) (s := ⟨p + (hdB false op).length, 0⟩)).1
  have hr2 := (sgn_in (L := L) (s := (bigK L 1 ⟨p + (hdB false op).length, 0⟩).2)).1
  have hp : (bigK L 1 ⟨p + (hdB false op).length, 0⟩).2.p = p + (hdB false op).length + 1 := congrArg CS.p k2
  rw [hp] at h2 h3
  have hq : (sgnK L 1 (bigK L 1 ⟨p + (hdB false op).length, 0⟩).2).2.p = p + (hdB false op).length + 1 + 1 := congrArg CS.p h2
  generalize hv : (bigK L 1 ⟨p + (hdB false op).length, 0⟩).1 = v at *
  generalize hn : (sgnK L 1 (bigK L 1 ⟨p + (hdB false op).length, 0⟩).2).1 = x at *
  have hx := inK_rng.1 hr2
  have hx2 : inK x 16 = true := by unfold inK at hr2 ⊢; simp at hr2 ⊢; omega
  have hw : wideK { stZ0 p op with var := v, num := x } 105 = false := by unfold wideK; simp [hr2]; omega
  have hk : bodyK { stZ0 p op with var := v, num := x } 105 p = putB (u64N v) 1 ++ putB (u64N x) 1 := by
    unfold bodyK widK; rw [hw]; rfl
  exact mk_ok (formI_of hop hf) hop (by decide) h1 (head_no hw (by decide)) (k3.cat (by rw [putB_lenM (.inl rfl)]; exact h3)) hk (by rw [List.length_append, putB_lenM (.inl rfl), putB_lenM (.inl rfl)]; exact hq) rfl rfl (fun _ _ => by show (shortK v && inK x 16) = true; rw [short_of (by omega), hx2]; rfl) (show 0 ≤ v ∧ v ≤ 65535 by omega) hx z_rng z_rng3 no_keys no_keys z_kt
theorem good_105w (hf : formF op.toNat = 105) (h1 : At L p (hdB true op)) (hop : 0 ≤ op ∧ op ≤ 201) (hL : L.length < 65536) (h : (oneB L (stZ0 p op) 2 105 ⟨p + (hdB true op).length, 0⟩).2.e = 0) : StG L p (oneB L (stZ0 p op) 2 105 ⟨p + (hdB true op).length, 0⟩).1 (oneB L (stZ0 p op) 2 105 ⟨p + (hdB true op).length, 0⟩).2.p := by
  rw [oneB_105] at h ⊢
  obtain ⟨k1, h2, h3, h4⟩ := sgn_put (.inr (.inl rfl)) h
  obtain ⟨-, k2, k3, k4⟩ := big_put (.inr (.inl rfl)) k1
  have hr := (big_rng (L := L) (s := ⟨p + (hdB true op).length, 0⟩)).2
  have hr2 := (sgn_in (L := L) (s := (bigK L 2 ⟨p + (hdB true op).length, 0⟩).2)).2.1
  have hp : (bigK L 2 ⟨p + (hdB true op).length, 0⟩).2.p = p + (hdB true op).length + 2 := congrArg CS.p k2
  rw [hp] at h2 h3 h4
  have hq : (sgnK L 2 (bigK L 2 ⟨p + (hdB true op).length, 0⟩).2).2.p = p + (hdB true op).length + 2 + 2 := congrArg CS.p h2
  have e3 : (hdB true op).length = 2 := rfl
  have e4 : (2 : Int).toNat = 2 := rfl
  simp only [e4] at h4
  generalize hv : (bigK L 2 ⟨p + (hdB true op).length, 0⟩).1 = v at *
  generalize hn : (sgnK L 2 (bigK L 2 ⟨p + (hdB true op).length, 0⟩).2).1 = x at *
  have hx := inK_rng.2.1 hr2
  cases hw : wideK { stZ0 p op with var := v, num := x } 105 with
  | true =>
    have hk : bodyK { stZ0 p op with var := v, num := x } 105 p = putB (u64N v) 2 ++ putB (u64N x) 2 := by
      unfold bodyK widK; rw [hw]; rfl
    exact mk_ok (formI_of hop hf) hop (by decide) h1 (head_yes hw (by decide)) (k3.cat (by rw [putB_lenM (.inr (.inl rfl))]; exact h3)) hk (by rw [List.length_append, putB_lenM (.inr (.inl rfl)), putB_lenM (.inr (.inl rfl))]; exact hq) rfl rfl (fun _ _ => by show (shortK v && inK x 16) = true; rw [short_of (by omega), hr2]; rfl) (show 0 ≤ v ∧ v ≤ 65535 by omega) hx z_rng z_rng3 no_keys no_keys z_kt
  | false =>
    have hk : bodyK { stZ0 p op with var := v, num := x } 105 p = putB (u64N v) (1 : Nat) ++ putB (u64N x) (1 : Nat) := by
      unfold bodyK widK; rw [hw]; rfl
    refine mk_st (f := 105) (formI_of hop hf) hop (by decide) (.inl ?_) ⟨?_, ?_⟩ rfl rfl (fun _ _ => by show (shortK v && inK x 16) = true; rw [short_of (by omega), hr2]; rfl) (show 0 ≤ v ∧ v ≤ 65535 by omega) hx z_rng z_rng3 no_keys no_keys z_kt
    · rw [List.length_append]
      show (headK { stZ0 p op with var := v, num := x } 105).length + (bodyK { stZ0 p op with var := v, num := x } 105 p).length < (sgnK L 2 (bigK L 2 ⟨p + (hdB true op).length, 0⟩).2).2.p - p
      rw [hk, head_no hw (by decide), hdB_len, List.length_append, putB_len1, putB_len1, hq, e3]
      show 1 + (1 + 1) < _
      omega
    · show p < (sgnK L 2 (bigK L 2 ⟨p + (hdB true op).length, 0⟩).2).2.p; rw [hq]; omega
    · show (sgnK L 2 (bigK L 2 ⟨p + (hdB true op).length, 0⟩).2).2.p ≤ L.length; rw [hq]; omega
theorem good_106 (hf : formF op.toNat = 106) (h1 : At L p (hdB false op)) (hop : 0 ≤ op ∧ op ≤ 201) (hL : L.length < 65536) (h : (oneB L (stZ0 p op) 1 106 ⟨p + (hdB false op).length, 0⟩).2.e = 0) : StG L p (oneB L (stZ0 p op) 1 106 ⟨p + (hdB false op).length, 0⟩).1 (oneB L (stZ0 p op) 1 106 ⟨p + (hdB false op).length, 0⟩).2.p := by
  rw [oneB_106] at h ⊢
  obtain ⟨-, h2, h3, h4⟩ := sgn_put (.inr (.inl rfl)) h
  have hr := (sgn_in (L := L) (s := ⟨p + (hdB false op).length, 0⟩)).2.1
  have hx := sgnK_rng L 2 ⟨p + (hdB false op).length, 0⟩ (.inr (.inl rfl))
  have hpl := h1.2
  generalize hv : (sgnK L 2 ⟨p + (hdB false op).length, 0⟩).1 = v at *
  have hk : bodyK { stZ0 p op with goal := (stZ0 p op).at' + v } 106 p = putB (u64N v) 2 := by
    show putB (u64N ((p : Int) + v - (p : Int))) 2 = _
    rw [add_back]
  exact mk_ok (formI_of hop hf) hop (by decide) h1 (head_no rfl (by decide)) h3 hk (by rw [putB_lenM (.inr (.inl rfl))]; exact congrArg CS.p h2) rfl rfl (fun hg _ => far_of (hg rfl) (by show inK ((p : Int) + v - (p : Int)) 16 = true; rw [add_back]; exact hr)) z_rng z_rng2 z_rng (by show _ ≤ (p : Int) + v ∧ (p : Int) + v ≤ _; omega) no_keys no_keys z_kt
theorem good_119 (hf : formF op.toNat = 119) (h1 : At L p (hdB false op)) (hop : 0 ≤ op ∧ op ≤ 201) (hL : L.length < 65536) (h : (oneB L (stZ0 p op) 1 119 ⟨p + (hdB false op).length, 0⟩).2.e = 0) : StG L p (oneB L (stZ0 p op) 1 119 ⟨p + (hdB false op).length, 0⟩).1 (oneB L (stZ0 p op) 1 119 ⟨p + (hdB false op).length, 0⟩).2.p := by
  rw [oneB_119] at h ⊢
  obtain ⟨-, h2, h3, h4⟩ := sgn_put (.inr (.inr rfl)) h
  have hr := (sgn_in (L := L) (s := ⟨p + (hdB false op).length, 0⟩)).2.2
  have hx := sgnK_rng L 4 ⟨p + (hdB false op).length, 0⟩ (.inr (.inr rfl))
  have hpl := h1.2
  generalize hv : (sgnK L 4 ⟨p + (hdB false op).length, 0⟩).1 = v at *
  have hk : bodyK { stZ0 p op with goal := (stZ0 p op).at' + v } 119 p = putB (u64N v) 4 := by
    show putB (u64N ((p : Int) + v - (p : Int))) 4 = _
    rw [add_back]
  exact mk_ok (formI_of hop hf) hop (by decide) h1 (head_no rfl (by decide)) h3 hk (by rw [putB_lenM (.inr (.inr rfl))]; exact congrArg CS.p h2) rfl rfl (fun hg _ => far_of (hg rfl) (by show inK ((p : Int) + v - (p : Int)) 32 = true; rw [add_back]; exact hr)) z_rng z_rng2 z_rng (by show _ ≤ (p : Int) + v ∧ (p : Int) + v ≤ _; omega) no_keys no_keys z_kt
theorem good_97 (hf : formF op.toNat = 97) (h1 : At L p (hdB false op)) (hop : 0 ≤ op ∧ op ≤ 201) (hL : L.length < 65536) (h : (oneB L (stZ0 p op) 1 97 ⟨p + (hdB false op).length, 0⟩).2.e = 0) : StG L p (oneB L (stZ0 p op) 1 97 ⟨p + (hdB false op).length, 0⟩).1 (oneB L (stZ0 p op) 1 97 ⟨p + (hdB false op).length, 0⟩).2.p := by
  rw [oneB_97] at h ⊢
  obtain ⟨c1, c2⟩ := isC_ok h
  rw [c2] at h ⊢
  obtain ⟨-, h2, h3, h4⟩ := big_put (.inl rfl) h
  have hr := (big_rng (L := L) (s := ⟨p + (hdB false op).length, 0⟩)).1
  exact mk_ok (formI_of hop hf) hop (by decide) h1 (head_no rfl (by decide)) h3 rfl (by rw [putB_lenM (.inl rfl)]; exact congrArg CS.p h2) rfl c1 (fun _ _ => rfl) ⟨hr.1, Int.le_trans hr.2 (by decide)⟩ z_rng2 z_rng z_rng3 no_keys no_keys z_kt
theorem good_109 (hf : formF op.toNat = 109) (h1 : At L p (hdB false op)) (hop : 0 ≤ op ∧ op ≤ 201) (hL : L.length < 65536) (h : (oneB L (stZ0 p op) 1 109 ⟨p + (hdB false op).length, 0⟩).2.e = 0) : StG L p (oneB L (stZ0 p op) 1 109 ⟨p + (hdB false op).length, 0⟩).1 (oneB L (stZ0 p op) 1 109 ⟨p + (hdB false op).length, 0⟩).2.p := by
  rw [oneB_109] at h ⊢
  obtain ⟨c1, c2⟩ := isC_ok h
  rw [c2] at h ⊢
  obtain ⟨k1, h2, h3, h4⟩ := big_put (.inl rfl) h
  obtain ⟨-, k2, k3, k4⟩ := big_put (.inr (.inl rfl)) k1
  have hr := (big_rng (L := L) (s := (bigK L 2 ⟨p + (hdB false op).length, 0⟩).2)).1
  have hr2 := (big_rng (L := L) (s := ⟨p + (hdB false op).length, 0⟩)).2
  have hp : (bigK L 2 ⟨p + (hdB false op).length, 0⟩).2.p = p + (hdB false op).length + 2 := congrArg CS.p k2
  rw [hp] at h2 h3 h4
  have hq : (bigK L 1 (bigK L 2 ⟨p + (hdB false op).length, 0⟩).2).2.p = p + (hdB false op).length + 2 + 1 := congrArg CS.p h2
  generalize hv : (bigK L 2 ⟨p + (hdB false op).length, 0⟩).1 = v at *
  generalize hn : (bigK L 1 (bigK L 2 ⟨p + (hdB false op).length, 0⟩).2).1 = x at *
  have hx : 0 < x := by simpa using c1
  have hR : rightK { stZ0 p op with pool := v, var := x } 109 = true := by
    show (decide (1 ≤ x) && decide (x ≤ 255)) = true
    simp; omega
  exact mk_ok (formI_of hop hf) hop (by decide) h1 (head_no rfl (by decide)) (k3.cat (by rw [putB_lenM (.inr (.inl rfl))]; exact h3)) rfl (by rw [List.length_append, putB_lenM (.inr (.inl rfl)), putB_lenM (.inl rfl)]; exact hq) rfl hR (fun _ _ => short_of (v := v) (by omega)) (by show 0 ≤ x ∧ x ≤ 65535; omega) z_rng2 (by show 0 ≤ v ∧ v ≤ 65535; omega) z_rng3 no_keys no_keys z_kt
theorem good_102 (hf : formF op.toNat = 102) (h1 : At L p (hdB false op)) (hop : 0 ≤ op ∧ op ≤ 201) (hL : L.length < 65536) (h : (oneB L (stZ0 p op) 1 102 ⟨p + (hdB false op).length, 0⟩).2.e = 0) : StG L p (oneB L (stZ0 p op) 1 102 ⟨p + (hdB false op).length, 0⟩).1 (oneB L (stZ0 p op) 1 102 ⟨p + (hdB false op).length, 0⟩).2.p := by
  rw [oneB_102] at h ⊢
  obtain ⟨c1, c2⟩ := isC_ok h
  rw [c2] at h ⊢
  obtain ⟨j1, j2, j3, j4⟩ := big_put (.inl rfl) h
  obtain ⟨k1, h2, h3, h4⟩ := big_put (.inl rfl) j1
  obtain ⟨-, k2, k3, k4⟩ := big_put (.inr (.inl rfl)) k1
  have hr := (big_rng (L := L) (s := (bigK L 2 ⟨p + (hdB false op).length, 0⟩).2)).1
  have hr2 := (big_rng (L := L) (s := ⟨p + (hdB false op).length, 0⟩)).2
  have hp : (bigK L 2 ⟨p + (hdB false op).length, 0⟩).2.p = p + (hdB false op).length + 2 := congrArg CS.p k2
  rw [hp] at h2 h3 h4
  have hp2 : (bigK L 1 (bigK L 2 ⟨p + (hdB false op).length, 0⟩).2).2.p = p + (hdB false op).length + 2 + 1 := congrArg CS.p h2
  rw [hp2] at j2 j3 j4
  have hq : (bigK L 1 (bigK L 1 (bigK L 2 ⟨p + (hdB false op).length, 0⟩).2).2).2.p = p + (hdB false op).length + 2 + 1 + 1 := congrArg CS.p j2
  simp only [Bool.and_eq_true, decide_eq_true_eq, beq_iff_eq] at c1
  rw [c1.2] at j3
  generalize hv : (bigK L 2 ⟨p + (hdB false op).length, 0⟩).1 = v at *
  generalize hn : (bigK L 1 (bigK L 2 ⟨p + (hdB false op).length, 0⟩).2).1 = x at *
  rw [putB_one x (by omega)] at h3
  have hR : rightK { stZ0 p op with pool := v, var := x } 102 = true := by
    show (decide (1 ≤ x) && decide (x ≤ 255)) = true
    simp; omega
  have hk : bodyK { stZ0 p op with pool := v, var := x } 102 p = putB (u64N v) 2 ++ ([UInt8.ofNat x.toNat] ++ [0]) := by
    show putB (u64N v) 2 ++ putB (u64N (x * 256)) 2 = _
    rw [putB_up x (by omega)]
  exact mk_ok (formI_of hop hf) hop (by decide) h1 (head_no rfl (by decide)) (k3.cat (by rw [putB_lenM (.inr (.inl rfl))]; exact h3.cat j3)) hk (by rw [List.length_append, putB_lenM (.inr (.inl rfl))]; exact hq) rfl hR (fun _ _ => short_of (v := v) (by omega)) (by show 0 ≤ x ∧ x ≤ 65535; omega) z_rng2 (by show 0 ≤ v ∧ v ≤ 65535; omega) z_rng3 no_keys no_keys z_kt
theorem big_e {m : Int} {s : CS} (he : s.e ≠ 0) : (bigK L m s).2.e ≠ 0 := by
  show nextEr L.length s.p s.e m (sizedB m) ≠ 0
  unfold nextEr
  rw [if_pos he]; exact he
theorem ngh_pad (p : Nat) : (4 - (p + 1) % 4) % 4 = nghK p := by unfold nghK; omega
theorem beg_good {s : CS} {at' : Int} (h : (begK L at' s).2.e = 0) (hp : s.p = p + 1) (hl : p + 1 ≤ L.length) :
    s.e = 0 ∧ At L (p + 1) (List.replicate (nghK p) 0 ++ p4 ((begK L at' s).1 - at')) ∧ (begK L at' s).2 = ⟨p + 1 + nghK p + 4, 0⟩ ∧ at' - 2147483648 ≤ (begK L at' s).1 ∧ (begK L at' s).1 ≤ at' + 2147483647 ∧ p + 1 + nghK p + 4 ≤ L.length := by
  obtain ⟨h1, h2, h3, h4⟩ := sgn_put (s := padK L 4 s) (.inr (.inr rfl)) h
  obtain ⟨k1, k2, k3, k4⟩ := pad_good L 4 s h1 (by omega) (by omega)
  rw [hp, ngh_pad] at k2 k3 k4
  have hpp : (padK L 4 s).p = p + 1 + nghK p := by rw [k2]
  have hr := sgn_far (L := L) (s := padK L 4 s)
  have e4 : (4 : Int).toNat = 4 := rfl
  rw [hpp] at h2 h3 h4
  rw [e4] at h4
  refine ⟨k1, k3.cat ?_, h2, ?_, ?_, h4⟩
  · rw [List.length_replicate]
    show At L _ (p4 (at' + (sgnK L 4 (padK L 4 s)).1 - at'))
    rw [add_back]; exact h3
  · show _ ≤ at' + (sgnK L 4 (padK L 4 s)).1; omega
  · show at' + (sgnK L 4 (padK L 4 s)).1 ≤ _; omega
theorem rows_116 : ∀ {ks ts : List Int} {a : Int}, ks.length = ts.length → (rowsL 116 a ks ts).length = 4 * ks.length
  | [], [], _, _ => rfl
  | [], _ :: _, _, h => by simp at h
  | _ :: _, [], _, h => by simp at h
  | k :: ks, t :: ts, a, h => by
    rw [rowsL_cons, if_neg (by decide), List.nil_append, List.length_append, p4_len, rows_116 (by simpa using h), List.length_cons]; omega
theorem good_116 (hf : formF op.toNat = 116) (h1 : At L p (hdB false op)) (hop : 0 ≤ op ∧ op ≤ 201) (hL : L.length < 65536) (h : (oneB L (stZ0 p op) 1 116 ⟨p + (hdB false op).length, 0⟩).2.e = 0) : StG L p (oneB L (stZ0 p op) 1 116 ⟨p + (hdB false op).length, 0⟩).1 (oneB L (stZ0 p op) 1 116 ⟨p + (hdB false op).length, 0⟩).2.p := by
  rw [oneB_116] at h ⊢
  have e3 : (hdB false op).length = 1 := rfl
  have hpl := h1.2
  rw [e3] at hpl h ⊢
  unfold tblK at h ⊢
  simp only at h ⊢
  generalize hs0 : (⟨p + 1, 0⟩ : CS) = s0 at *
  have hp0 : s0.p = p + 1 := by rw [← hs0]
  have hi1 : (isC (decide ((sgnK L 4 (begK L (p : Int) s0).2).1 ≤ (sgnK L 4 (sgnK L 4 (begK L (p : Int) s0).2).2).1)) (sgnK L 4 (sgnK L 4 (begK L (p : Int) s0).2).2).2).e = 0 := by
    by_cases he : (isC (decide ((sgnK L 4 (begK L (p : Int) s0).2).1 ≤ (sgnK L 4 (sgnK L 4 (begK L (p : Int) s0).2).2).1)) (sgnK L 4 (sgnK L 4 (begK L (p : Int) s0).2).2).2).e = 0
    · exact he
    · exact absurd h (tabK_e he)
  obtain ⟨c1, c2⟩ := isC_ok hi1
  rw [c2] at h hi1 ⊢
  obtain ⟨a1, a2, a3, a4⟩ := sgn_put (.inr (.inr rfl)) hi1
  obtain ⟨b1, b2, b3, b4⟩ := sgn_put (.inr (.inr rfl)) a1
  obtain ⟨-, d2, d3, d4, d5, d6⟩ := beg_good b1 hp0 hpl
  have e4 : (4 : Int).toNat = 4 := rfl
  have hp1 : (begK L (p : Int) s0).2.p = p + 1 + nghK p + 4 := by rw [d3]
  have hr1 := sgn_far (L := L) (s := (begK L (p : Int) s0).2)
  have hr2 := sgn_far (L := L) (s := (sgnK L 4 (begK L (p : Int) s0).2).2)
  rw [hp1] at b2 b3 b4
  rw [e4] at b2 b4
  have hp2 : (sgnK L 4 (begK L (p : Int) s0).2).2.p = p + 1 + nghK p + 4 + 4 := by rw [b2]
  rw [hp2] at a2 a3 a4
  rw [e4] at a2 a4
  have hp3 : (sgnK L 4 (sgnK L 4 (begK L (p : Int) s0).2).2).2.p = p + 1 + nghK p + 4 + 4 + 4 := by rw [a2]
  generalize (sgnK L 4 (sgnK L 4 (begK L (p : Int) s0).2).2).2 = s3 at *
  generalize (sgnK L 4 (sgnK L 4 (begK L (p : Int) s0).2).2).1 = hi at *
  generalize (sgnK L 4 (begK L (p : Int) s0).2).1 = lo at *
  generalize (begK L (p : Int) s0).1 = go at *
  obtain ⟨-, m, ts, t1, t2, t3, t4, t5, t6, t7⟩ := tab_good L (p : Int) hi (L.length + 3) lo [] [] s3 h (by omega) (by omega)
  have hlo : lo ≤ hi := by simpa using c1
  have hm : lo + m = hi + 1 := t3 (by omega)
  obtain ⟨m', rfl⟩ : ∃ m', m = m' + 1 := ⟨m - 1, by omega⟩
  rw [t2, t4]
  rw [hp3] at t5 t7 ⊢
  simp only [List.nil_append]
  have hkl := krL_len (m' + 1) lo
  have hrl := rows_116 (a := (p : Int)) (hkl.trans t1.symm)
  have hkm : ∀ x ∈ krL (m' + 1) lo, -2147483648 ≤ x ∧ x ≤ 2147483647 := fun x hx => by have := krL_mem _ _ _ hx; push_cast at *; omega
  have hbody : bodyK { stZ0 p op with goal := go, keys := krL (m' + 1) lo, tgts := ts } 116 p = (List.replicate (nghK p) 0 ++ p4 (go - (p : Int))) ++ ((p4 lo ++ p4 hi) ++ rowsL 116 (p : Int) (krL (m' + 1) lo) ts) := by
    show List.replicate (nghK p) 0 ++ (p4 (go - (p : Int)) ++ ((p4 ((krL (m' + 1) lo).headD 0) ++ p4 ((krL (m' + 1) lo).getLastD 0)) ++ rowsL 116 (p : Int) (krL (m' + 1) lo) ts)) = _
    rw [krL_last, show (krL (m' + 1) lo).headD 0 = lo from rfl, show lo + (m' : Int) = hi by push_cast at hm; omega]; simp only [List.append_assoc]
  have hat : At L (p + 1) ((List.replicate (nghK p) 0 ++ p4 (go - (p : Int))) ++ ((p4 lo ++ p4 hi) ++ rowsL 116 (p : Int) (krL (m' + 1) lo) ts)) := by
    refine d2.cat ?_
    rw [List.length_append, List.length_replicate, p4_len, show p + 1 + (nghK p + 4) = p + 1 + nghK p + 4 by omega]
    refine At.cat (At.cat b3 ?_) ?_
    · rw [p4_len]; exact a3
    · rw [List.length_append, p4_len, p4_len, show p + 1 + nghK p + 4 + (4 + 4) = p + 1 + nghK p + 4 + 4 + 4 by omega]; exact t5
  have hR : rightK { stZ0 p op with goal := go, keys := krL (m' + 1) lo, tgts := ts } 116 = true := by
    show ((((krL (m' + 1) lo).length == ts.length && decide ((krL (m' + 1) lo).length ≤ 65536)) && !(true && (krL (m' + 1) lo).length == 0)) && chainK true (krL (m' + 1) lo)) = true
    rw [krL_chain, hkl, t1]
    simp; omega
  exact mk_ok (st := { stZ0 p op with goal := go, keys := krL (m' + 1) lo, tgts := ts }) (formI_of hop hf) hop (by decide) h1 (head_no rfl (by decide)) hat hbody
    (by simp only [List.length_append, List.length_replicate, p4_len, e3]; omega) rfl hR
    (fun hg ht => by
      show ((decide (0 ≤ go) && decide (go ≤ 1073741824)) && fitL (krL (m' + 1) lo) ts) = true
      rw [fitL_all (fun x hx => by have := hkm x hx; unfold inK; simp; omega) ht]
      have := hg rfl
      simp only at this
      simp; omega)
    z_rng z_rng2 z_rng (show -2147483648 ≤ go ∧ go ≤ 4294967296 by omega) hkm (fun x hx => by have := t6 x hx; omega) (show (krL (m' + 1) lo).length = ts.length ∧ (krL (m' + 1) lo).length ≤ L.length by omega)
theorem rows_108 : ∀ {ks ts : List Int} {a : Int}, ks.length = ts.length → (rowsL 108 a ks ts).length = 8 * ks.length
  | [], [], _, _ => rfl
  | [], _ :: _, _, h => by simp at h
  | _ :: _, [], _, h => by simp at h
  | k :: ks, t :: ts, a, h => by
    rw [rowsL_cons, if_pos rfl, List.length_append, List.length_append, p4_len, p4_len, rows_108 (by simpa using h), List.length_cons]; omega
theorem good_108 (hf : formF op.toNat = 108) (h1 : At L p (hdB false op)) (hop : 0 ≤ op ∧ op ≤ 201) (hL : L.length < 65536) (h : (oneB L (stZ0 p op) 1 108 ⟨p + (hdB false op).length, 0⟩).2.e = 0) : StG L p (oneB L (stZ0 p op) 1 108 ⟨p + (hdB false op).length, 0⟩).1 (oneB L (stZ0 p op) 1 108 ⟨p + (hdB false op).length, 0⟩).2.p := by
  rw [oneB_108] at h ⊢
  have e3 : (hdB false op).length = 1 := rfl
  have hpl := h1.2
  rw [e3] at hpl h ⊢
  unfold lkpK at h ⊢
  simp only at h ⊢
  generalize hs0 : (⟨p + 1, 0⟩ : CS) = s0 at *
  have hp0 : s0.p = p + 1 := by rw [← hs0]
  have hi1 : (isC (decide (0 ≤ (sgnK L 4 (begK L (p : Int) s0).2).1)) (sgnK L 4 (begK L (p : Int) s0).2).2).e = 0 := by
    by_cases he : (isC (decide (0 ≤ (sgnK L 4 (begK L (p : Int) s0).2).1)) (sgnK L 4 (begK L (p : Int) s0).2).2).e = 0
    · exact he
    · exact absurd h (lokK_e he)
  obtain ⟨c1, c2⟩ := isC_ok hi1
  rw [c2] at h hi1 ⊢
  obtain ⟨b1, b2, b3, b4⟩ := sgn_put (.inr (.inr rfl)) hi1
  obtain ⟨-, d2, d3, d4, d5, d6⟩ := beg_good b1 hp0 hpl
  have e4 : (4 : Int).toNat = 4 := rfl
  have hp1 : (begK L (p : Int) s0).2.p = p + 1 + nghK p + 4 := by rw [d3]
  rw [hp1] at b2 b3 b4
  rw [e4] at b2 b4
  have hp2 : (sgnK L 4 (begK L (p : Int) s0).2).2.p = p + 1 + nghK p + 4 + 4 := by rw [b2]
  generalize (sgnK L 4 (begK L (p : Int) s0).2).2 = s3 at *
  generalize (sgnK L 4 (begK L (p : Int) s0).2).1 = n at *
  generalize (begK L (p : Int) s0).1 = go at *
  obtain ⟨-, ks, ts, t1, t2, t3, t4, t5, t6, t7, t8, t9⟩ := lok_good L (p : Int) n (L.length + 3) 0 [] [] s3 rfl rfl h (by omega) (by omega)
  have hn0 : 0 ≤ n := by simpa using c1
  have hm : (ks.length : Int) = n := by have := t3 (by simpa using hn0); simpa using this
  rw [t2, t4]
  rw [hp2] at t5 t9 ⊢
  simp only [List.nil_append] at t8 ⊢
  have hrl := rows_108 (a := (p : Int)) t1
  have hbody : bodyK { stZ0 p op with goal := go, keys := ks, tgts := ts } 108 p = (List.replicate (nghK p) 0 ++ p4 (go - (p : Int))) ++ (p4 n ++ rowsL 108 (p : Int) ks ts) := by
    show List.replicate (nghK p) 0 ++ (p4 (go - (p : Int)) ++ (p4 (ks.length : Int) ++ rowsL 108 (p : Int) ks ts)) = _
    rw [hm]; simp only [List.append_assoc]
  have hat : At L (p + 1) ((List.replicate (nghK p) 0 ++ p4 (go - (p : Int))) ++ (p4 n ++ rowsL 108 (p : Int) ks ts)) := by
    refine d2.cat ?_
    rw [List.length_append, List.length_replicate, p4_len, show p + 1 + (nghK p + 4) = p + 1 + nghK p + 4 by omega]
    refine At.cat b3 ?_
    rw [p4_len]; exact t5
  have hR : rightK { stZ0 p op with goal := go, keys := ks, tgts := ts } 108 = true := by
    show (((ks.length == ts.length && decide (ks.length ≤ 65536)) && !(false && ks.length == 0)) && chainK false ks) = true
    rw [t8, ← t1, decide_eq_true (show ks.length ≤ 65536 by omega), beq_self_eq_true]
    rfl
  exact mk_ok (st := { stZ0 p op with goal := go, keys := ks, tgts := ts }) (formI_of hop hf) hop (by decide) h1 (head_no rfl (by decide)) hat hbody
    (by simp only [List.length_append, List.length_replicate, p4_len, e3]; omega) rfl hR
    (fun hg ht => by
      show ((decide (0 ≤ go) && decide (go ≤ 1073741824)) && fitL ks ts) = true
      rw [fitL_all t7 ht]
      have := hg rfl
      simp only at this
      simp; omega)
    z_rng z_rng2 z_rng (show -2147483648 ≤ go ∧ go ≤ 4294967296 by omega) (fun x hx => inK_rng.2.2 (t7 x hx)) (fun x hx => by have := t6 x hx; omega) (show ks.length = ts.length ∧ ks.length ≤ L.length by omega)
theorem oneB_els {st : StepK} {n : Int} {f : Nat} {s : CS} (hd : f ≠ 98 ∧ f ≠ 115 ∧ f ≠ 99 ∧ f ≠ 100 ∧ f ≠ 112 ∧ f ≠ 118 ∧ f ≠ 105 ∧ f ≠ 106 ∧ f ≠ 119 ∧ f ≠ 102 ∧ f ≠ 109 ∧ f ≠ 97 ∧ f ≠ 116 ∧ f ≠ 108) : oneB L st n f s = (st, s) := by
  obtain ⟨d1, d2, d3, d4, d5, d6, d7, d8, d9, d10, d11, d12, d13, d14⟩ := hd
  unfold oneB
  rw [if_neg d1, if_neg d2, if_neg d3, if_neg (by omega), if_neg d6, if_neg d7, if_neg d8, if_neg d9, if_neg d10, if_neg d12, if_neg d11, if_neg d13, if_neg d14]
theorem oneB_e (st : StepK) (n : Int) (f : Nat) (s : CS) (he : s.e ≠ 0) : (oneB L st n f s).2.e ≠ 0 := by
  have hp : (padK L 4 s) = s := by rw [padK, if_neg (fun hx => he hx.2)]
  have h1 : (begK L st.at' s).2.e ≠ 0 := by
    show (sgnK L 4 (padK L 4 s)).2.e ≠ 0
    rw [hp]; exact sgn_e he
  have hC : ∀ {b : Bool} {s : CS}, s.e ≠ 0 → (isC b s).e ≠ 0 := by
    intro b s h h2
    have h3 := (isC_ok h2).2
    rw [h3] at h2
    exact h h2
  by_cases d1 : f = 98
  · subst d1; rw [oneB_98]; exact sgn_e he
  by_cases d2 : f = 115
  · subst d2; rw [oneB_115]; exact sgn_e he
  by_cases d3 : f = 99
  · subst d3; rw [oneB_99]; exact big_e he
  by_cases d4 : f = 100
  · subst d4; rw [oneB_100]; exact big_e he
  by_cases d5 : f = 112
  · subst d5; rw [oneB_112]; exact big_e he
  by_cases d6 : f = 118
  · subst d6; rw [oneB_118]; exact big_e he
  by_cases d7 : f = 105
  · subst d7; rw [oneB_105]; exact sgn_e (big_e he)
  by_cases d8 : f = 106
  · subst d8; rw [oneB_106]; exact sgn_e he
  by_cases d9 : f = 119
  · subst d9; rw [oneB_119]; exact sgn_e he
  by_cases d10 : f = 102
  · subst d10; rw [oneB_102]; exact hC (big_e (big_e (big_e he)))
  by_cases d11 : f = 109
  · subst d11; rw [oneB_109]; exact hC (big_e (big_e he))
  by_cases d12 : f = 97
  · subst d12; rw [oneB_97]; exact hC (big_e he)
  by_cases d13 : f = 116
  · subst d13; rw [oneB_116]; exact tabK_e (hC (sgn_e (sgn_e h1)))
  by_cases d14 : f = 108
  · subst d14; rw [oneB_108]; exact lokK_e (hC (sgn_e h1))
  rw [oneB_els ⟨d1, d2, d3, d4, d5, d6, d7, d8, d9, d10, d11, d12, d13, d14⟩]
  exact he
theorem one_good (hL : L.length < 65536) (h : (oneK L ⟨p, 0⟩).2.e = 0) : StG L p (oneK L ⟨p, 0⟩).1 (oneK L ⟨p, 0⟩).2.p := by
  unfold oneK at h ⊢
  simp only at h ⊢
  have hfe : (formK (opK L ⟨p, 0⟩).2.2.1 (opK L ⟨p, 0⟩).2.1 (opK L ⟨p, 0⟩).2.2.2).2.e = 0 := by
    by_cases he : (formK (opK L ⟨p, 0⟩).2.2.1 (opK L ⟨p, 0⟩).2.1 (opK L ⟨p, 0⟩).2.2.2).2.e = 0
    · exact he
    · exfalso
      exact oneB_e _ _ _ _ he h
  obtain ⟨f1, f2, f3, f4, f5⟩ := form_e hfe
  rw [f1] at hfe h ⊢
  rw [f3] at h ⊢
  obtain ⟨wide, op, o1, o2, o3, o4⟩ := opK_good hfe
  rw [o1] at h f2 f4 f5 ⊢
  simp only at h f2 f4 f5 ⊢
  have hop : 0 ≤ op ∧ op ≤ 201 := ⟨o2, f2⟩
  have hc := form_cases op.toNat (by omega)
  simp only [List.mem_cons, List.not_mem_nil, or_false] at hc
  generalize hfv : formF op.toNat = f at *
  cases wide with
  | true =>
    rcases f5 rfl with rfl | rfl
    · exact good_118w hfv o4 hop hL h
    · exact good_105w hfv o4 hop hL h
  | false =>
    rcases hc with rfl | rfl | rfl | rfl | rfl | rfl | rfl | rfl | rfl | rfl | rfl | rfl | rfl | rfl | rfl | rfl
    · exact absurd rfl f4
    · exact good_45 hfv o4 hop hL h
    · exact good_98 hfv o4 hop hL h
    · exact good_115 hfv o4 hop hL h
    · exact good_99 hfv o4 hop hL h
    · exact good_100 hfv o4 hop hL h
    · exact good_112 hfv o4 hop hL h
    · exact good_118 hfv o4 hop hL h
    · exact good_105 hfv o4 hop hL h
    · exact good_106 hfv o4 hop hL h
    · exact good_119 hfv o4 hop hL h
    · exact good_102 hfv o4 hop hL h
    · exact good_109 hfv o4 hop hL h
    · exact good_97 hfv o4 hop hL h
    · exact good_116 hfv o4 hop hL h
    · exact good_108 hfv o4 hop hL h
end
end Go.Proofs.Ytgcdeadfkljeaaa
