/- What runs.Of tells is told back: plain. -/
import Derived.Test.YtmmgcfhoigpomaaRunsH
namespace Go.Proofs.Ytmmgcfhoigpomaa
open Go.RowKit
set_option linter.unusedVariables false
set_option linter.unusedSimpArgs false

theorem strGo_take (x : Int) : ∀ r : List Int, r.take (strGo x r) = List.replicate (strGo x r) x
  | [] => rfl
  | y :: r => by
    rw [strGo]
    by_cases h : y = x
    · rw [if_pos h, List.take_succ_cons, strGo_take x r, h]; rfl
    · rw [if_neg h]; rfl
theorem strN_take (x : Int) (r : List Int) : (x :: r).take (strN (x :: r)) = List.replicate (strN (x :: r)) x := by
  show (x :: r).take (strGo x r + 1) = List.replicate (strGo x r + 1) x
  rw [List.take_succ_cons, strGo_take]; rfl
theorem exp_step (s m : Int) (k : Nat) (x : Int) (qs : List (Int × Int)) (out : List Int) (h1 : rightB s m = true) (h2 : ¬ (s = 16 ∧ out.length = 0)) (h3 : timesOf s m = k) (h4 : out.length + k ≤ 320) (h5 : whatOf out s = x) :
    expGo ((s, m) :: qs) out = expGo qs (out ++ List.replicate k x) := by
  rw [expGo, if_neg (by simp [h1]), if_neg h2, if_neg (by simp only; rw [h3]; omega)]
  simp only
  rw [h3, h5]
theorem exp_one (x : Int) (qs : List (Int × Int)) (out : List Int) (hx : 0 ≤ x ∧ x ≤ 15) (h : out.length + 1 ≤ 320) : expGo ((x, 0) :: qs) out = expGo qs (out ++ [x]) := by
  have hl : leastOf x = 1 := by unfold leastOf; rw [if_neg (by omega), if_neg (by omega)]
  refine exp_step x 0 1 x qs out ?_ (by omega) (by unfold timesOf; rw [hl]; rfl) h ?_
  · unfold rightB
    rw [decide_eq_true hx.1, decide_eq_true (show x ≤ 18 by omega), decide_eq_true (show (0 : Int) ≤ 0 by omega), decide_eq_true (by simp)]; rfl
  · unfold whatOf; rw [if_neg (by omega), if_neg (by omega)]
theorem exp_rep (x : Int) (qs : List (Int × Int)) (hx : 0 ≤ x ∧ x ≤ 15) : ∀ (k : Nat) (out : List Int), out.length + k ≤ 320 → expGo (List.replicate k (x, 0) ++ qs) out = expGo qs (out ++ List.replicate k x) := by
  intro k
  induction k with
  | zero => intro out _; simp
  | succ k ih =>
    intro out h
    rw [List.replicate_succ, List.cons_append, exp_one x _ out hx (by omega), ih _ (by simp; omega), List.append_assoc, List.replicate_succ]; rfl
theorem last_rep (out : List Int) (x : Int) (k : Nat) (h : out.getLastD 0 = x) (hk : 1 ≤ k) : (out ++ List.replicate k x).getLastD 0 = x := by
  obtain ⟨j, rfl⟩ : ∃ j, k = j + 1 := ⟨k - 1, by omega⟩
  rw [List.replicate_succ', ← List.append_assoc]
  simp
theorem what_rep (s x : Int) (out : List Int) (k : Nat) (hk : 1 ≤ k) (h : whatOf out s = x) : whatOf (out ++ List.replicate k x) s = x := by
  unfold whatOf at *
  by_cases h16 : s = 16
  · rw [if_pos h16] at h ⊢; exact last_rep out x k h hk
  · rw [if_neg h16] at h ⊢; exact h
theorem splitGo_le (s : Int) : ∀ (f n : Nat), (splitGo s f n).2 ≤ n := by
  intro f
  induction f with
  | zero => intro n; exact Nat.le_refl _
  | succ f ih =>
    intro n
    rw [splitGo]; split
    · exact Nat.le_refl _
    · have := ih (n - min n (highOf s)); simp only; omega
theorem exp_split (s x : Int) (hs : s = 16 ∨ s = 17 ∨ s = 18) (qs : List (Int × Int)) : ∀ (b n : Nat) (out : List Int), n ≤ b → out.length + n ≤ 320 → whatOf out s = x → (s = 16 → 0 < out.length) →
    expGo ((splitGo s n n).1 ++ qs) out = expGo qs (out ++ List.replicate (n - (splitGo s n n).2) x) := by
  have hle := leastOf_le s
  have hhi := high_ge s
  have hp : 1 ≤ 2 ^ bitsOf s := Nat.one_le_two_pow
  have hh : highOf s = leastOf s + 2 ^ bitsOf s - 1 := rfl
  intro b
  induction b with
  | zero =>
    intro n out hn _ _ _
    have : n = 0 := by omega
    subst this
    simp [splitGo]
  | succ b ih =>
    intro n out hn hlen hw h16
    by_cases hlt : n < leastOf s
    · rw [splitGo_end s n hlt]; simp
    · rw [splitGo_step s n hlt]
      simp only [List.cons_append]
      have hk1 : leastOf s ≤ min n (highOf s) := Nat.le_min.2 ⟨by omega, hhi⟩
      have hk2 : min n (highOf s) ≤ n := Nat.min_le_left _ _
      have hk3 : min n (highOf s) ≤ highOf s := Nat.min_le_right _ _
      generalize min n (highOf s) = k at *
      have hm : ((k : Nat) : Int) - leastOf s = ((k - leastOf s : Nat) : Int) := by omega
      have hsl := splitGo_le s (n - k) (n - k)
      rw [hm, exp_step s _ k x _ out ?_ (by omega) (by unfold timesOf; rw [Int.toNat_natCast]; omega) (by omega) hw]
      · rw [ih (n - k) (out ++ List.replicate k x) (by omega) (by simp; omega) (what_rep s x out k (by omega) hw) (fun _ => by simp; omega)]
        rw [List.append_assoc, List.replicate_append_replicate]
        congr 3; omega
      · unfold rightB
        have hs0 : 0 ≤ s ∧ s ≤ 18 := by omega
        rw [decide_eq_true hs0.1, decide_eq_true hs0.2, decide_eq_true (show (0 : Int) ≤ ((k - leastOf s : Nat) : Int) by omega)]
        have : ((k - leastOf s : Nat) : Int) / 2 ^ bitsOf s = 0 := by
          have h2 : ((2 : Int) ^ bitsOf s) = ((2 ^ bitsOf s : Nat) : Int) := by rw [Int.natCast_pow]; rfl
          rw [h2]
          have : (k - leastOf s) / 2 ^ bitsOf s = 0 := Nat.div_eq_of_lt (by omega)
          exact_mod_cast this
        rw [decide_eq_true this]; rfl
theorem exp_head (x : Int) (n : Nat) (qs : List (Int × Int)) (out : List Int) (hx : 0 ≤ x ∧ x ≤ 15) (hn : 1 ≤ n) (h : out.length + n ≤ 320) : expGo (headOf x n ++ qs) out = expGo qs (out ++ List.replicate n x) := by
  unfold headOf
  by_cases h0 : x = 0
  · rw [if_pos h0]
    subst h0
    have l1 := splitGo_le 18 n n
    have l2 := splitGo_le 17 (splitGo 18 n n).2 (splitGo 18 n n).2
    rw [List.append_assoc, List.append_assoc, exp_split 18 0 (by omega) _ n n out (Nat.le_refl _) h rfl (by omega)]
    rw [exp_split 17 0 (by omega) _ _ _ _ (Nat.le_refl _) (by simp; omega) rfl (by omega), exp_rep 0 qs (by omega) _ _ (by simp; omega)]
    simp only [List.append_assoc, List.replicate_append_replicate]
    congr 3; omega
  · rw [if_neg h0]
    have l1 := splitGo_le 16 (n - 1) (n - 1)
    simp only [List.append_assoc, List.cons_append, List.nil_append]
    rw [exp_one x _ out hx (by omega)]
    rw [exp_split 16 x (by omega) _ _ _ _ (Nat.le_refl _) (by simp; omega) (by unfold whatOf; simp) (fun _ => by simp), exp_rep x qs hx _ _ (by simp; omega)]
    simp only [List.append_assoc, List.replicate_append_replicate]
    congr 2
    rw [show ([x] : List Int) = List.replicate 1 x from rfl, List.replicate_append_replicate]
    congr 1; omega
theorem exp_of : ∀ (f : Nat) (l out : List Int), l.length ≤ f → (∀ x ∈ l, 0 ≤ x ∧ x ≤ 15) → out.length + l.length ≤ 320 → expGo (ofGo f l) out = (0, out ++ l) := by
  intro f
  induction f with
  | zero => intro l out h _ _; have : l = [] := List.eq_nil_of_length_eq_zero (by omega); subst this; simp [ofGo, expGo]
  | succ f ih =>
    intro l out h hx hlen
    cases l with
    | nil => simp [ofGo, expGo]
    | cons x r =>
      have hs := strN_le x r
      rw [ofGo, exp_head x _ _ out (hx x (by simp)) hs.1 (by omega), ih _ _ ?_ ?_ ?_]
      · rw [List.append_assoc, ← strN_take, List.take_append_drop]
      · rw [List.length_drop]; simp only [List.length_cons] at h hs ⊢; omega
      · intro y hy; exact hx y (List.mem_of_mem_drop hy)
      · simp only [List.length_append, List.length_replicate, List.length_drop]; omega
theorem of_back (l : List Int) (h : ofErr l = 0) : expGo (ofRes l) [] = (0, l) := by
  have hr : ofRes l = ofGo l.length l := by unfold ofRes; rw [if_pos h]
  have hb : l.any badB = false := by
    cases hc : l.any badB with
    | false => rfl
    | true => unfold ofErr at h; rw [hc] at h; simp at h
  have hl : l.length ≤ 320 := by
    unfold ofErr at h; rw [hb] at h
    by_cases h3 : 320 < l.length
    · rw [if_neg (by simp), if_pos h3] at h; omega
    · omega
  rw [hr]
  have := exp_of l.length l [] (Nat.le_refl _) (fun x hx => by
    have h2 : ¬ badB x = true := fun hc => by
      have := List.any_eq_true.2 ⟨x, hx, hc⟩
      rw [hb] at this; cases this
    unfold badB at h2
    simp at h2
    omega) (by simpa using hl)
  simpa using this
end Go.Proofs.Ytmmgcfhoigpomaa
