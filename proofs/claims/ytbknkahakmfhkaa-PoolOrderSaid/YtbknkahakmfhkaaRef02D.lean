/- The methods Big, End of packsaddleref02.Cursor. -/
import Derived.Test.YtbknkahakmfhkaaCurOB
import Derived.Test.YtbknkahakmfhkaaRef02C
import Derived.Test.YtbknkahakmfhkaaLitM
namespace Go.Proofs.Ytbknkahakmfhkaa
open Go.RowKit
set_option linter.unusedVariables false
set_option linter.unusedSimpArgs false

theorem or64_add (a b k : Nat) (ha : a * 2 ^ k < 18446744073709551616) (hb : b < 2 ^ k) (hb2 : b < 18446744073709551616) : bits .or .u64 ((a * 2 ^ k : Nat) : Int) (b : Int) = ((a * 2 ^ k + b : Nat) : Int) := by
  rw [u64_or_nat _ _ ha hb2, Nat.mul_comm, Nat.two_pow_add_eq_or_of_lt hb a]
/-- A number and one more byte, the document's way. -/
def numI (v : Int) (x : UInt8) : Int := (v * 256 % 18446744073709551616 + (x.toNat : Int)) % 18446744073709551616
theorem bigI_num (v : Int) (x : UInt8) (h : 0 ≤ v ∧ v < 18446744073709551616) : numI v x = bigI v x := by
  obtain ⟨n, rfl⟩ := Int.eq_ofNat_of_zero_le h.1
  have hx := x.toNat_lt
  have e : (n : Int) * 256 % 18446744073709551616 = ((n % 72057594037927936 * 2 ^ 8 : Nat) : Int) := by omega
  unfold numI bigI
  rw [e, or64_add _ x.toNat 8 (by omega) (by omega) (by omega)]
  omega
def numR (l : List UInt8) : Int := l.foldl numI 0
theorem numI_range (v : Int) (x : UInt8) : 0 ≤ numI v x ∧ numI v x < 18446744073709551616 := by unfold numI; omega
theorem numR_take (l : List UInt8) (k : Nat) (h : k < l.length) : numR (l.take (k + 1)) = numI (numR (l.take k)) l[k] := by
  rw [List.take_succ_eq_append_getElem h]; simp only [numR, List.foldl_append, List.foldl_cons, List.foldl_nil]
theorem numR_big (l : List UInt8) : numR l = bigR l := by
  unfold numR bigR
  have h : ∀ (l : List UInt8) (v : Int), 0 ≤ v ∧ v < 18446744073709551616 → l.foldl numI v = l.foldl bigI v := by
    intro l
    induction l with
    | nil => intro v _; rfl
    | cons x l ih => intro v hv; rw [List.foldl_cons, List.foldl_cons, ← bigI_num v x hv]; exact ih _ (numI_range v x)
  exact h l 0 (by omega)

set_option maxRecDepth 100000 in
set_option maxHeartbeats 2000000 in
theorem rNumber_any (a : Option Addr) (n c : Nat) (l : List UInt8) (w : World) (hl : l.length = n) (hn : n ≤ maxLen) (hr : Rd w bE a l) :
  Calls Try.prog 113 #[.slice a n c] w fun e w' => e = .returned (.int .u64 (bigR l)) ∧ w = w' := by
  unfold maxLen at hn
  go_enter Try.func113, Try.ntmps113
  have HL := Lib.hid hl
  clear hl
  go_wp2
  go_loop [3, 8] (fun v i => ∃ k : Nat, k ≤ n ∧ i = .int .i64 k ∧ v = .int .u64 (numR (l.take k))) (fun _ i => n - (intOf i).toNat)
  case atStart => exact ⟨0, by omega, rfl, rfl⟩
  case round =>
    obtain ⟨k, hk, rfl, rfl⟩ := hrel
    have hrg : 0 ≤ numR (l.take k) ∧ numR (l.take k) < 18446744073709551616 := by rw [numR_big]; exact bigR_range _
    by_cases hlt : k < n
    · obtain ⟨b, off, rfl, -, hc⟩ := hr.at (k := k) (by rw [HL.out]; exact hlt)
      have hcl : k < l.length := by rw [HL.out]; exact hlt
      have hst := numR_take l k hcl
      have HST := Lib.hid hst
      clear hst hr
      generalize numR (l.take k) = v at hrg HST ⊢
      generalize l[k] = x at hc HST
      have hx : (x.toNat : Int) < 256 := by have := x.toNat_lt; omega
      go_wp2
      go_round
      case rel => exact ⟨k + 1, by omega, by go_num, by rw [HST.out]; rfl⟩
      case measure => simp [intOf]; omega
    · have hk' : k = n := by omega
      subst hk'
      go_wp2
      go_ret
      exact ⟨ret_int (by rw [← numR_big, List.take_of_length_le (by rw [HL.out]; exact Nat.le_refl _)]), rfl⟩

/-- Little's number is Big's of the bytes the other way round. -/
theorem bigR_reverse (l : List UInt8) (h : l.length ≤ 8) : bigR l.reverse = litR l l.length := by
  have hb : ∀ (v n a : Nat), n ≤ 8 → a < 256 ^ (8 - n) → (littleL v n).reverse.foldl bigI (a : Int) = ((a * 256 ^ n + v % 256 ^ n : Nat) : Int) := by
    intro v n
    induction n with
    | zero => intro a _ _; simp [littleL, Nat.mod_one]
    | succ n ih =>
      intro a hn ha
      rw [littleL_succ, List.reverse_append, List.reverse_singleton, List.singleton_append, List.foldl_cons]
      have h1 : 256 ^ (8 - (n + 1)) ≤ 256 ^ 7 := Nat.pow_le_pow_right (by omega) (by omega)
      have hbi : ∀ (a : Nat) (x : UInt8), a < 2 ^ 56 → bigI (a : Int) x = ((a * 256 + x.toNat : Nat) : Int) := by
        intro a x ha
        have hx := x.toNat_lt
        have := or64_add a x.toNat 8 (by omega) (by omega) (by omega)
        rw [← this, bigI]
        congr 1
        omega
      rw [hbi a _ (by omega), byte_toNat, ih _ (by omega) ?_]
      · congr 1
        rw [Nat.pow_succ, Nat.mod_mul, Nat.add_mul, Nat.mul_assoc, Nat.mul_comm 256 (256 ^ n), Nat.mul_comm (v / 256 ^ n % 256)]
        omega
      · have h2 : 256 ^ (8 - n) = 256 ^ (8 - (n + 1)) * 256 := by rw [← Nat.pow_succ]; congr 1; omega
        omega
  have h2 := hb (numLE l l.length) l.length 0 h (Nat.pow_pos (by omega))
  rw [littleL_num, Nat.zero_mul, Nat.zero_add, Nat.mod_eq_of_lt (numLE_lt _ _)] at h2
  rw [litR_num l _ h]
  exact h2

def RNumPost (w : World) (g : Nat) (l : List UInt8) (p : Nat) (er m : Int) (v : Int) (e : Ending) (w' : World) : Prop :=
  e = .returned (.int .u64 v) ∧ RefOk w' g l (nextAt l.length p er m (sizedB m)) (nextEr l.length p er m (sizedB m)) ∧ w.grownBy w' (some g)
/-- What Big and Little of the document do first: an error for a wrong size. -/
theorem sized_next (l : List UInt8) (p : Nat) (er m : Int) (h : er ≠ 0 ∨ sizedB m = true) : nextL l p er m (sizedB m) = nextL l p er m true ∧ nextAt l.length p er m (sizedB m) = nextAt l.length p er m true ∧ nextEr l.length p er m (sizedB m) = nextEr l.length p er m true := by
  rcases h with h | h
  · have ho : ∀ n sz, nextOk n p er m sz = false := fun n sz => by unfold nextOk; exact decide_eq_false (by rintro ⟨h2, _⟩; exact h h2)
    refine ⟨by unfold nextL; rw [ho, ho], by unfold nextAt; rw [ho, ho], by unfold nextEr; rw [if_pos h, if_pos h]⟩
  · rw [h]; exact ⟨rfl, rfl, rfl⟩
theorem unsized_next (l : List UInt8) (p : Nat) (m : Int) (h : sizedB m = false) : nextL l p 0 m (sizedB m) = nextL l p 1 m true ∧ nextAt l.length p 0 m (sizedB m) = nextAt l.length p 1 m true ∧ nextEr l.length p 0 m (sizedB m) = nextEr l.length p 1 m true := by
  rw [h]
  have h1 : ∀ n, nextOk n p 0 m false = false := fun n => by unfold nextOk; exact decide_eq_false (by rintro ⟨_, _, h2, _⟩; cases h2)
  have h2 : ∀ n, nextOk n p 1 m true = false := fun n => by unfold nextOk; exact decide_eq_false (by rintro ⟨h2, _⟩; omega)
  refine ⟨by unfold nextL; rw [h1, h2], by unfold nextAt; rw [h1, h2], by unfold nextEr; rw [if_neg (by omega), if_pos (.inr rfl), if_pos (by omega)]⟩

set_option maxRecDepth 100000 in
set_option maxHeartbeats 2000000 in
theorem rBigGet_any (g : Nat) (l : List UInt8) (p : Nat) (er m : Int) (w : World) (h : RefOk w g l p er) (hm1 : -9223372036854775808 ≤ m) (hm2 : m ≤ 9223372036854775807) :
  Calls Try.prog 85 #[.pointer (some ⟨g, 0, none⟩), .int .i64 m] w (RNumPost w g l p er m (bigR (nextL l p er m (sizedB m)))) := by
  have hle := nextL_len l p er m (sizedB m)
  have hlen := h.len
  by_cases hcase : er = 0 ∧ sizedB m = false
  · obtain ⟨rfl, hs⟩ := hcase
    obtain ⟨e1, e2, e3⟩ := unsized_next l p m hs
    have h1 := h.setE 1
    have hg1 := grownBy_setCell w ⟨g, 2, none⟩ (.int .i64 1)
    have hsz : sizedB m = false := hs
    obtain ⟨a, n, c, hb, -⟩ := h.ex
    have h2 := hb.cell (i := 2) rfl
    have hf := hb.frozen 2
    have HG := Lib.hid hg1
    have H1 := Lib.hid h1
    unfold RNumPost
    rw [e2, e3]
    rw [e1] at hle ⊢
    clear h hb e1 e2 e3 h1 hg1 hs
    go_enter Try.func85, Try.ntmps85
    go_wp2_with fail
    refine (size2_any m w).mono ?_
    rintro e w' ⟨rfl, rfl⟩
    go_wp2_with fail
    refine (rTake_any g l p 1 m _ H1.out hm1 hm2).mono ?_
    rintro e w2 ⟨a2, k2, c2, rfl, hk2, hr2, hc2, hg2⟩
    have hgg := grownBy_trans HG.out hg2
    go_wp2_with fail
    refine (rNumber_any a2 k2 c2 _ w2 hk2 (by unfold maxLen; omega) hr2).mono ?_
    rintro e w' ⟨rfl, rfl⟩
    go_wp2
    go_ret
    exact ⟨rfl, hc2, hgg⟩
  · have hcase2 : er ≠ 0 ∨ sizedB m = true := by
      by_cases h0 : er = 0
      · right
        cases hs : sizedB m with
        | true => rfl
        | false => exact absurd ⟨h0, hs⟩ hcase
      · exact .inl h0
    obtain ⟨e1, e2, e3⟩ := sized_next l p er m hcase2
    have H1 := Lib.hid h
    obtain ⟨a, n, c, hb, -⟩ := h.ex
    have h2 := hb.cell (i := 2) rfl
    unfold RNumPost
    rw [e2, e3]
    rw [e1] at hle ⊢
    clear h hb e1 e2 e3 hcase
    go_enter Try.func85, Try.ntmps85
    by_cases h0 : er = 0
    · subst h0
      have hs : sizedB m = true := by rcases hcase2 with h | h; exact absurd rfl h; exact h
      clear hcase2
      go_wp2_with fail
      refine (size2_any m w).mono ?_
      rintro e w' ⟨rfl, rfl⟩
      go_wp2_with fail
      refine (rTake_any g l p 0 m _ H1.out hm1 hm2).mono ?_
      rintro e w2 ⟨a2, k2, c2, rfl, hk2, hr2, hc2, hg2⟩
      go_wp2_with fail
      refine (rNumber_any a2 k2 c2 _ w2 hk2 (by unfold maxLen; omega) hr2).mono ?_
      rintro e w' ⟨rfl, rfl⟩
      go_wp2
      go_ret
      exact ⟨rfl, hc2, hg2⟩
    · have he2 : (er == 0) = false := by simpa using h0
      clear hcase2 h0
      go_wp2_with fail
      refine (rTake_any g l p er m _ H1.out hm1 hm2).mono ?_
      rintro e w2 ⟨a2, k2, c2, rfl, hk2, hr2, hc2, hg2⟩
      go_wp2_with fail
      refine (rNumber_any a2 k2 c2 _ w2 hk2 (by unfold maxLen; omega) hr2).mono ?_
      rintro e w' ⟨rfl, rfl⟩
      go_wp2
      go_ret
      exact ⟨rfl, hc2, hg2⟩

theorem own_one {α : Type} {E : α → Value} (w : World) (e : TypeId) {base : Nat} (hb : base ≤ w.heap.size) (y : α) : Own (w.alloc (.cells #[E y] e)) base e E (some ⟨w.heap.size, 0, none⟩) 1 1 [y] :=
  ⟨⟨rfl, .inr ⟨w.heap.size, 1, #[E y], rfl, hb, heap_alloc_new w _, Nat.le_refl _, by decide, rfl, rfl⟩⟩, rfl⟩
end Go.Proofs.Ytbknkahakmfhkaa
