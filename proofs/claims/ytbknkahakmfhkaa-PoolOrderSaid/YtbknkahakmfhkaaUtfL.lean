/- What a unit's bytes tell. -/
import Derived.Test.YtbknkahakmfhkaaUtfC
namespace Go.Proofs.Ytbknkahakmfhkaa
open Go.RowKit
set_option linter.unusedVariables false
set_option linter.unusedSimpArgs false

theorem encU_eq {v : Nat} (hv : v < 65536) (t : List UInt8) : encU v = t ↔ encN v = t.map UInt8.toNat := by
  constructor
  · rintro rfl
    unfold encU
    rw [List.map_map]
    have : ∀ x ∈ encN v, (UInt8.toNat ∘ UInt8.ofNat) x = x := fun x hx => by
      show (UInt8.ofNat x).toNat = x
      rw [UInt8.toNat_ofNat', Nat.mod_eq_of_lt (encN_lt hv x hx)]
    rw [List.map_congr_left this, List.map_id']
  · intro h
    unfold encU
    rw [h, List.map_map]
    have : ∀ x ∈ t, (UInt8.ofNat ∘ UInt8.toNat) x = x := fun x _ => by
      show UInt8.ofNat x.toNat = x
      simp
    rw [List.map_congr_left this, List.map_id']
theorem next_one (b : UInt8) (r : List UInt8) (hc : b.toNat < 192) : nextU (b :: r) = if encU b.toNat = [b] then (b.toNat, 1) else (0, 0) := by
  have hb := b.toNat_lt
  have hg : ((b :: r).getD 0 0) = b := rfl
  unfold nextU
  rw [hg]
  by_cases h1 : b.toNat ≠ 0 ∧ b.toNat < 128
  · rw [if_pos h1, if_pos]
    rw [encU_eq (by omega), encN_1 (by omega)]; rfl
  · rw [if_neg h1, if_neg (by omega), if_neg (by omega), if_neg]
    rw [encU_eq (by omega), encN_2 (by omega) (by omega)]
    simp
theorem next_two0 (b : UInt8) (hc : 192 ≤ b.toNat) (h2 : b.toNat < 224) : nextU [b] = (0, 0) := by
  have hg : ([b].getD 0 0) = b := rfl
  unfold nextU
  rw [hg, if_neg (by omega), if_pos (by omega)]
  simp [furU, unit2]
theorem next_two (b b1 : UInt8) (r : List UInt8) (hc : 192 ≤ b.toNat) (h2 : b.toNat < 224) : nextU (b :: b1 :: r) = if encU ((b.toNat - 192) * 64 + b1.toNat % 64) = [b, b1] then ((b.toNat - 192) * 64 + b1.toNat % 64, 2) else (0, 0) := by
  have hg : ((b :: b1 :: r).getD 0 0) = b := rfl
  have hb1 := b1.toNat_lt
  have hf : furU (b :: b1 :: r) 1 = if b1.toNat / 64 = 2 then (b1.toNat % 64, true) else (0, false) := rfl
  unfold nextU
  rw [hg, if_neg (by omega), if_pos (by omega), hf]
  by_cases h3 : b1.toNat / 64 = 2
  · rw [if_pos h3]
    have e : b.toNat % 32 * 64 + b1.toNat % 64 = (b.toNat - 192) * 64 + b1.toNat % 64 := by omega
    unfold unit2
    simp only [e, true_and]
    by_cases h4 : (b.toNat - 192) * 64 + b1.toNat % 64 = 0 ∨ 128 ≤ (b.toNat - 192) * 64 + b1.toNat % 64
    · rw [if_pos h4, if_pos]
      rw [encU_eq (by omega), encN_2 (by omega) (by omega)]
      simp only [List.map_cons, List.map_nil, List.cons.injEq, and_true]
      omega
    · rw [if_neg h4, if_neg]
      rw [encU_eq (by omega), encN_1 (by omega)]
      simp
  · rw [if_neg h3, if_neg]
    · simp [unit2]
    · rw [encU_eq (by omega)]
      intro h
      by_cases h4 : 1 ≤ (b.toNat - 192) * 64 + b1.toNat % 64 ∧ (b.toNat - 192) * 64 + b1.toNat % 64 < 128
      · rw [encN_1 h4] at h; simp at h
      · rw [encN_2 h4 (by omega)] at h
        simp only [List.map_cons, List.map_nil, List.cons.injEq, and_true] at h
        omega
theorem next_three0 (b : UInt8) (r : List UInt8) (hc : 224 ≤ b.toNat) (hr : r.length < 2) : nextU (b :: r) = (0, 0) := by
  have hg : ((b :: r).getD 0 0) = b := rfl
  have hf : furU (b :: r) 2 = (0, false) := by unfold furU; rw [List.getElem?_eq_none (by simp; omega)]
  unfold nextU
  rw [hg, if_neg (by omega), if_neg (by omega), hf]
  split
  · simp [unit3]
  · rfl
theorem next_big (b b1 b2 : UInt8) (r : List UInt8) (hc : 224 ≤ b.toNat) (hv : 65535 < (b.toNat - 224) * 4096 + b1.toNat % 64 * 64 + b2.toNat % 64) : nextU (b :: b1 :: b2 :: r) = (0, 0) := by
  have hg : ((b :: b1 :: b2 :: r).getD 0 0) = b := rfl
  have hb := b.toNat_lt
  unfold nextU
  rw [hg, if_neg (by omega), if_neg (by omega), if_neg (by omega)]
theorem next_three (b b1 b2 : UInt8) (r : List UInt8) (hc : 224 ≤ b.toNat) (hv : (b.toNat - 224) * 4096 + b1.toNat % 64 * 64 + b2.toNat % 64 < 65536) :
    nextU (b :: b1 :: b2 :: r) = if encU ((b.toNat - 224) * 4096 + b1.toNat % 64 * 64 + b2.toNat % 64) = [b, b1, b2] then ((b.toNat - 224) * 4096 + b1.toNat % 64 * 64 + b2.toNat % 64, 3) else (0, 0) := by
  have hg : ((b :: b1 :: b2 :: r).getD 0 0) = b := rfl
  have hb := b.toNat_lt
  have hb1 := b1.toNat_lt
  have hb2 := b2.toNat_lt
  have hf1 : furU (b :: b1 :: b2 :: r) 1 = if b1.toNat / 64 = 2 then (b1.toNat % 64, true) else (0, false) := rfl
  have hf2 : furU (b :: b1 :: b2 :: r) 2 = if b2.toNat / 64 = 2 then (b2.toNat % 64, true) else (0, false) := rfl
  unfold nextU
  rw [hg, if_neg (by omega), if_neg (by omega), if_pos (by omega), hf1, hf2]
  have hno : ¬ (b1.toNat / 64 = 2 ∧ b2.toNat / 64 = 2) → ¬ encU ((b.toNat - 224) * 4096 + b1.toNat % 64 * 64 + b2.toNat % 64) = [b, b1, b2] := by
    intro h3
    rw [encU_eq hv]
    intro h
    by_cases h5 : (b.toNat - 224) * 4096 + b1.toNat % 64 * 64 + b2.toNat % 64 < 2048
    · by_cases h4 : 1 ≤ (b.toNat - 224) * 4096 + b1.toNat % 64 * 64 + b2.toNat % 64 ∧ (b.toNat - 224) * 4096 + b1.toNat % 64 * 64 + b2.toNat % 64 < 128
      · rw [encN_1 h4] at h; simp at h
      · rw [encN_2 h4 h5] at h; simp at h
    · rw [encN_3 h5] at h
      simp only [List.map_cons, List.map_nil, List.cons.injEq, and_true] at h
      omega
  by_cases h3 : b1.toNat / 64 = 2
  · by_cases h4 : b2.toNat / 64 = 2
    · rw [if_pos h3, if_pos h4]
      have e : b.toNat % 16 * 4096 + b1.toNat % 64 * 64 + b2.toNat % 64 = (b.toNat - 224) * 4096 + b1.toNat % 64 * 64 + b2.toNat % 64 := by omega
      unfold unit3
      simp only [e, true_and]
      by_cases h5 : 2048 ≤ (b.toNat - 224) * 4096 + b1.toNat % 64 * 64 + b2.toNat % 64
      · rw [if_pos h5, if_pos]
        rw [encU_eq hv, encN_3 (by omega)]
        simp only [List.map_cons, List.map_nil, List.cons.injEq, and_true]
        omega
      · rw [if_neg h5, if_neg]
        rw [encU_eq hv]
        by_cases h6 : 1 ≤ (b.toNat - 224) * 4096 + b1.toNat % 64 * 64 + b2.toNat % 64 ∧ (b.toNat - 224) * 4096 + b1.toNat % 64 * 64 + b2.toNat % 64 < 128
        · rw [encN_1 h6]; simp
        · rw [encN_2 h6 (by omega)]; simp
    · rw [if_pos h3, if_neg h4, if_neg (hno (by omega))]; simp [unit3]
  · rw [if_neg h3, if_neg (hno (by omega))]; simp [unit3]
/-- A unit's bytes, and any behind them, tell the unit. -/
theorem next_enc {u : Nat} (hu : u < 65536) (r : List UInt8) : nextU (encU u ++ r) = (u, (encU u).length) := by
  have hn : ∀ x : Nat, x < 256 → (UInt8.ofNat x).toNat = x := fun x hx => by rw [UInt8.toNat_ofNat', Nat.mod_eq_of_lt hx]
  by_cases h1 : 1 ≤ u ∧ u < 128
  · have e : encU u = [UInt8.ofNat u] := by unfold encU; rw [encN_1 h1]; rfl
    rw [e]
    have := next_one (UInt8.ofNat u) r (by rw [hn u (by omega)]; omega)
    rw [hn u (by omega), if_pos e] at this
    exact this
  · by_cases h2 : u < 2048
    · have e : encU u = [UInt8.ofNat (192 + u / 64), UInt8.ofNat (128 + u % 64)] := by unfold encU; rw [encN_2 h1 h2]; rfl
      rw [e]
      have := next_two (UInt8.ofNat (192 + u / 64)) (UInt8.ofNat (128 + u % 64)) r (by rw [hn _ (by omega)]; omega) (by rw [hn _ (by omega)]; omega)
      rw [hn _ (by omega), hn _ (by omega), show (192 + u / 64 - 192) * 64 + (128 + u % 64) % 64 = u by omega, if_pos e] at this
      exact this
    · have e : encU u = [UInt8.ofNat (224 + u / 4096), UInt8.ofNat (128 + u / 64 % 64), UInt8.ofNat (128 + u % 64)] := by unfold encU; rw [encN_3 h2]; rfl
      rw [e]
      have := next_three (UInt8.ofNat (224 + u / 4096)) (UInt8.ofNat (128 + u / 64 % 64)) (UInt8.ofNat (128 + u % 64)) r (by rw [hn _ (by omega)]; omega) (by rw [hn _ (by omega), hn _ (by omega), hn _ (by omega)]; omega)
      rw [hn _ (by omega), hn _ (by omega), hn _ (by omega), show (224 + u / 4096 - 224) * 4096 + (128 + u / 64 % 64) % 64 * 64 + (128 + u % 64) % 64 = u by omega, if_pos e] at this
      exact this
theorem encU_pos (u : Nat) : 0 < (encU u).length := by
  rw [encU_len]; unfold encN; split
  · simp
  · split <;> simp
theorem units_bytes : ∀ us : List Nat, (∀ x ∈ us, x < 65536) → unitsOf (bytU us) = some us
  | [], _ => rfl
  | u :: r, h => by
    have hu := h u (by simp)
    have e : bytU (u :: r) = encU u ++ bytU r := rfl
    rw [e, unitsOf_step (by rw [List.length_append]; have := encU_pos u; omega), next_enc hu]
    simp only
    rw [if_neg (by have := encU_pos u; omega), List.drop_append_of_le_length (Nat.le_refl _), List.drop_length, List.nil_append, units_bytes r fun x hx => h x (List.mem_cons_of_mem _ hx)]
    rfl
/-- Units that bytes tell have these bytes. -/
theorem next_back (l : List UInt8) (h0 : 0 < l.length) (h : (nextU l).2 ≠ 0) : encU (nextU l).1 = l.take (nextU l).2 := by
  match l, h0 with
  | b :: r, _ =>
    by_cases h1 : b.toNat < 192
    · rw [next_one b r h1] at h ⊢
      split at h
      · rename_i he; rw [if_pos he]; exact he
      · exact absurd rfl h
    · by_cases h2 : b.toNat < 224
      · match r with
        | [] => rw [next_two0 b (by omega) h2] at h; exact absurd rfl h
        | b1 :: r =>
          rw [next_two b b1 r (by omega) h2] at h ⊢
          split at h
          · rename_i he; rw [if_pos he]; exact he
          · exact absurd rfl h
      · match r with
        | [] => rw [next_three0 b [] (by omega) (by simp)] at h; exact absurd rfl h
        | [b1] => rw [next_three0 b [b1] (by omega) (by simp)] at h; exact absurd rfl h
        | b1 :: b2 :: r =>
          by_cases hv : (b.toNat - 224) * 4096 + b1.toNat % 64 * 64 + b2.toNat % 64 < 65536
          · rw [next_three b b1 b2 r (by omega) hv] at h ⊢
            split at h
            · rename_i he; rw [if_pos he]; exact he
            · exact absurd rfl h
          · rw [next_big b b1 b2 r (by omega) (by omega)] at h; exact absurd rfl h
theorem bytes_units : ∀ (n : Nat) (l : List UInt8) (us : List Nat), l.length ≤ n → unitsOf l = some us → bytU us = l
  | _, [], us, _, h => by rw [unitsOf_nil] at h; simp at h; subst h; rfl
  | 0, b :: r, us, hn, _ => by simp at hn
  | n + 1, b :: r, us, hn, h => by
    rw [unitsOf_step (by simp)] at h
    by_cases h0 : (nextU (b :: r)).2 = 0
    · rw [if_pos h0] at h; cases h
    · rw [if_neg h0] at h
      cases h2 : unitsOf ((b :: r).drop (nextU (b :: r)).2) with
      | none => rw [h2] at h; cases h
      | some vs =>
        rw [h2] at h
        simp only [Option.map_some, Option.some.injEq] at h
        subst h
        have h3 := bytes_units n _ vs (by rw [List.length_drop]; simp at hn ⊢; omega) h2
        have e : bytU ((nextU (b :: r)).1 :: vs) = encU (nextU (b :: r)).1 ++ bytU vs := rfl
        rw [e, h3, next_back _ (by simp) h0, List.take_append_drop]
end Go.Proofs.Ytbknkahakmfhkaa
