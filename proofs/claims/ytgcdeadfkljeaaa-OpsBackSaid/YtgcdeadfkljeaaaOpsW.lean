/- What a step that is read without an error tells: its bytes, and that Put gives them again, or fewer. -/
import Derived.Test.YtgcdeadfkljeaaaOpsG
import Derived.Test.YtgcdeadfkljeaaaOpsM
namespace Go.Proofs.Ytgcdeadfkljeaaa
open Go.RowKit
set_option linter.unusedVariables false
set_option linter.unusedSimpArgs false

/-- The bytes from p on are l. -/
def At (L : List UInt8) (p : Nat) (l : List UInt8) : Prop := (L.drop p).take l.length = l ∧ p + l.length ≤ L.length
theorem At.nil {L : List UInt8} {p : Nat} (h : p ≤ L.length) : At L p [] := ⟨by simp, by simpa using h⟩
theorem At.cat {L : List UInt8} {p : Nat} {a b : List UInt8} (h1 : At L p a) (h2 : At L (p + a.length) b) : At L p (a ++ b) := by
  obtain ⟨e1, l1⟩ := h1
  obtain ⟨e2, l2⟩ := h2
  refine ⟨?_, by rw [List.length_append]; omega⟩
  rw [List.length_append, List.take_add, e1, List.drop_drop, e2]
theorem At.take {L : List UInt8} {p : Nat} {a : List UInt8} (h : At L p a) : L.take (p + a.length) = L.take p ++ a := by
  rw [List.take_add, h.1]
theorem bigK_good {L : List UInt8} {m : Int} {s : CS} (hm : m = 1 ∨ m = 2 ∨ m = 4) (h : (bigK L m s).2.e = 0) :
    s.e = 0 ∧ (bigK L m s).2 = ⟨s.p + m.toNat, 0⟩ ∧ ∃ l, l.length = m.toNat ∧ At L s.p l ∧ (bigK L m s).1 = ((bigN l : Nat) : Int) := by
  obtain ⟨h1, h2, h3⟩ := bigK_ok hm h
  have hz : sizedB m = true := by rcases hm with rfl | rfl | rfl <;> rfl
  refine ⟨h1, ?_, (L.drop s.p).take m.toNat, by rw [List.length_take, List.length_drop]; omega, ⟨by rw [List.length_take, List.length_drop, Nat.min_eq_left (by omega)], by rw [List.length_take, List.length_drop]; omega⟩, ?_⟩
  · have e : (bigK L m s).2 = ⟨(bigK L m s).2.p, (bigK L m s).2.e⟩ := rfl
    rw [e, h2, h]
  · show bigR (nextL L s.p s.e m (sizedB m)) = _
    have hok : nextOk L.length s.p s.e m (sizedB m) = true := by unfold nextOk; rw [hz]; simp; omega
    unfold nextL
    rw [if_pos hok]
    exact bigR_nat _ (by rw [List.length_take]; omega)
theorem u64N_mod (v : Int) (k : Nat) (hk : k = 256 ∨ k = 65536 ∨ k = 4294967296) : ((u64N v % k : Nat) : Int) = v % (k : Int) := by
  unfold u64N
  rcases hk with rfl | rfl | rfl <;> omega
theorem little_one (v : Nat) : littleL v 1 = [UInt8.ofNat (v % 256)] := by simp [littleL, List.range_succ]
theorem little_two (v : Nat) : littleL v 2 = [UInt8.ofNat (v % 256), UInt8.ofNat (v / 256 % 256)] := by simp [littleL, List.range_succ]
theorem little_four (v : Nat) : littleL v 4 = [UInt8.ofNat (v % 256), UInt8.ofNat (v / 256 % 256), UInt8.ofNat (v / 65536 % 256), UInt8.ofNat (v / 16777216 % 256)] := by simp [littleL, List.range_succ]
theorem u8_back (x : UInt8) (n : Nat) (h : n = x.toNat) : UInt8.ofNat n = x := by
  subst h
  exact UInt8.ofNat_toNat
theorem putB_back {l : List UInt8} {m : Int} (hm : m = 1 ∨ m = 2 ∨ m = 4) (hl : l.length = m.toNat) (v : Int) (hv : v % ((256 ^ m.toNat : Nat) : Int) = ((bigN l : Nat) : Int)) : putB (u64N v) m = l := by
  rcases hm with rfl | rfl | rfl
  · match l, hl with
    | [a], _ =>
      have e : bigN [a] = a.toNat := by simp [bigN]
      have h := u64N_mod v 256 (.inl rfl)
      rw [e] at hv
      have h2 : v % (256 : Nat) = (a.toNat : Int) := hv
      show (littleL (u64N v) 1).reverse = _
      rw [little_one, u8_back a _ (by omega)]
      rfl
  · match l, hl with
    | [a, b], _ =>
      have e : bigN [a, b] = a.toNat * 256 + b.toNat := by simp [bigN]
      have h := u64N_mod v 65536 (.inr (.inl rfl))
      have ha := a.toNat_lt
      have hb := b.toNat_lt
      rw [e] at hv
      have h2 : v % (65536 : Nat) = ((a.toNat * 256 + b.toNat : Nat) : Int) := hv
      show (littleL (u64N v) 2).reverse = _
      rw [little_two, u8_back b _ (by omega), u8_back a _ (by omega)]
      rfl
  · match l, hl with
    | [a, b, c, d], _ =>
      have e : bigN [a, b, c, d] = ((a.toNat * 256 + b.toNat) * 256 + c.toNat) * 256 + d.toNat := by simp [bigN]
      have h := u64N_mod v 4294967296 (.inr (.inr rfl))
      have ha := a.toNat_lt
      have hb := b.toNat_lt
      have hc := c.toNat_lt
      have hd := d.toNat_lt
      rw [e] at hv
      have h2 : v % (4294967296 : Nat) = ((((a.toNat * 256 + b.toNat) * 256 + c.toNat) * 256 + d.toNat : Nat) : Int) := hv
      show (littleL (u64N v) 4).reverse = _
      rw [little_four, u8_back d _ (by omega), u8_back c _ (by omega), u8_back b _ (by omega), u8_back a _ (by omega)]
      rfl
theorem putB_lenM {m : Int} (hm : m = 1 ∨ m = 2 ∨ m = 4) (v : Nat) : (putB v m).length = m.toNat := by
  rcases hm with rfl | rfl | rfl <;> (unfold putB; rw [if_pos (by decide)]; simp [littleL_length])
theorem pow_m {m : Int} (hm : m = 1 ∨ m = 2 ∨ m = 4) : (256 ^ m.toNat : Nat) = if m = 1 then 256 else if m = 2 then 65536 else 4294967296 := by
  rcases hm with rfl | rfl | rfl <;> rfl
/-- A number that is read: its bytes are those that it is put as. -/
theorem big_put {L : List UInt8} {m : Int} {s : CS} (hm : m = 1 ∨ m = 2 ∨ m = 4) (h : (bigK L m s).2.e = 0) :
    s.e = 0 ∧ (bigK L m s).2 = ⟨s.p + m.toNat, 0⟩ ∧ At L s.p (putB (u64N (bigK L m s).1) m) ∧ s.p + m.toNat ≤ L.length := by
  obtain ⟨h1, h2, l, h3, h4, h5⟩ := bigK_good hm h
  have h6 := bigK_lt L m s hm
  refine ⟨h1, h2, ?_, by have := h4.2; omega⟩
  rw [putB_back hm h3 _ (by rw [Int.emod_eq_of_lt h6.1 h6.2, h5])]
  exact h4
theorem sgn_put {L : List UInt8} {m : Int} {s : CS} (hm : m = 1 ∨ m = 2 ∨ m = 4) (h : (sgnK L m s).2.e = 0) :
    s.e = 0 ∧ (sgnK L m s).2 = ⟨s.p + m.toNat, 0⟩ ∧ At L s.p (putB (u64N (sgnK L m s).1) m) ∧ s.p + m.toNat ≤ L.length := by
  obtain ⟨h1, h2, l, h3, h4, h5⟩ := bigK_good hm h
  have h6 := bigK_lt L m s hm
  refine ⟨h1, h2, ?_, by have := h4.2; omega⟩
  rw [putB_back hm h3 _ ?_]
  · exact h4
  · rw [← h5]
    show sgnV m (bigK L m s).1 % _ = _
    generalize (bigK L m s).1 = v at *
    unfold sgnV
    rcases hm with rfl | rfl | rfl
    · have e : ((256 ^ (1 : Int).toNat : Nat) : Int) = 256 := by decide
      rw [e] at h6 ⊢
      rw [if_pos rfl]; split <;> omega
    · have e : ((256 ^ (2 : Int).toNat : Nat) : Int) = 65536 := by decide
      rw [e] at h6 ⊢
      rw [if_neg (by decide), if_pos rfl]; split <;> omega
    · have e : ((256 ^ (4 : Int).toNat : Nat) : Int) = 4294967296 := by decide
      rw [e] at h6 ⊢
      rw [if_neg (by decide), if_neg (by decide)]; split <;> omega
theorem sgn_in {L : List UInt8} {s : CS} : inK (sgnK L 1 s).1 8 = true ∧ inK (sgnK L 2 s).1 16 = true ∧ inK (sgnK L 4 s).1 32 = true := by
  refine ⟨?_, ?_, ?_⟩
  · have h := bigK_lt L 1 s (.inl rfl)
    have e : ((256 ^ (1 : Int).toNat : Nat) : Int) = 256 := by decide
    rw [e] at h
    show inK (sgnV 1 (bigK L 1 s).1) 8 = true
    generalize (bigK L 1 s).1 = v at *
    unfold inK sgnV
    rw [if_pos rfl]; split <;> simp <;> omega
  · have h := bigK_lt L 2 s (.inr (.inl rfl))
    have e : ((256 ^ (2 : Int).toNat : Nat) : Int) = 65536 := by decide
    rw [e] at h
    show inK (sgnV 2 (bigK L 2 s).1) 16 = true
    generalize (bigK L 2 s).1 = v at *
    unfold inK sgnV
    rw [if_neg (by decide), if_pos rfl]; split <;> simp <;> omega
  · have h := bigK_lt L 4 s (.inr (.inr rfl))
    have e : ((256 ^ (4 : Int).toNat : Nat) : Int) = 4294967296 := by decide
    rw [e] at h
    show inK (sgnV 4 (bigK L 4 s).1) 32 = true
    generalize (bigK L 4 s).1 = v at *
    unfold inK sgnV
    rw [if_neg (by decide), if_neg (by decide)]; split <;> simp <;> omega
theorem putB_one (x : Int) (h : 0 ≤ x ∧ x < 256) : putB (u64N x) 1 = [UInt8.ofNat x.toNat] := by
  show (littleL (u64N x) 1).reverse = _
  rw [little_one]
  have : u64N x % 256 = x.toNat := by unfold u64N; omega
  rw [this]; rfl
theorem isC_e {b : Bool} {s : CS} (h : (isC b s).e = 0) : b = true ∧ isC b s = s := isC_ok h
end Go.Proofs.Ytgcdeadfkljeaaa
