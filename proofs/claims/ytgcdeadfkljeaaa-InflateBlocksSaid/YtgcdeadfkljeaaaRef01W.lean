/- The walks of packsaddleref01: Bits, Number, Of. -/
import Derived.Test.YtgcdeadfkljeaaaRows
import Derived.Test.YtgcdeadfkljeaaaLib
import Derived.Test.YtgcdeadfkljeaaaSlB
namespace Go.Proofs.Ytgcdeadfkljeaaa
open Go.RowKit
set_option linter.unusedVariables false
set_option linter.unusedSimpArgs false

theorem slBool : SlT Try.prog 29 4 (.bool false) 1 1 := ⟨Try.underlying29, by kernel_rfl, rfl⟩

/-- The n lowest bits, the lowest first. -/
def bitsL (v n : Nat) : List Bool := (List.range n).map fun i => decide (v / 2 ^ i % 2 = 1)
theorem bitsL_length (v n : Nat) : (bitsL v n).length = n := by simp [bitsL]
theorem bitsL_succ (v n : Nat) : bitsL v (n + 1) = bitsL v n ++ [decide (v / 2 ^ n % 2 = 1)] := by
  simp [bitsL, List.range_succ]

set_option maxRecDepth 100000 in
set_option maxHeartbeats 1000000 in
theorem bits_any (v : Nat) (n : Int) (w : World) (hv : v < 4294967296) (hn : n ≤ 1000000000) :
  Calls Try.prog 35 #[.int .u32 (v : Int), .int .i64 n] w fun e w' => ∃ a c, e = .returned (.slice a n.toNat c) ∧ Own w' w.heap.size 4 Value.bool a n.toNat c (bitsL v n.toNat) ∧ Below w.heap.size w w' := by
  go_enter Try.func35, Try.ntmps35
  go_wp2
  go_loopw [0, 5, 6] (fun x out i wr => ∃ (k : Nat) (a : Option Addr) (c : Nat), (k : Int) ≤ max n 0 ∧ i = .int .i64 k ∧ x = .int .u32 ((v / 2 ^ k : Nat) : Int) ∧ out = .slice a k c ∧ Own wr w.heap.size 4 Value.bool a k c (bitsL v k) ∧ Below w.heap.size w wr) (fun _ _ i _ => (n - intOf i).toNat)
  case atStart => exact ⟨0, none, 0, by omega, rfl, by simp, rfl, Own.nil, Below.refl _ _⟩
  case round =>
    obtain ⟨k, a, c, hk, rfl, rfl, rfl, hown, hB⟩ := hrel
    have hsz := hB.size
    by_cases hlt : (k : Int) < n
    · have hb : v / 2 ^ k ≤ v := Nat.div_le_self _ _
      have hpow : v / 2 ^ (k + 1) = v / 2 ^ k / 2 := by rw [Nat.pow_succ, Nat.div_div_eq_div_mul]
      have HP := Lib.hid hpow
      clear hpow
      have hs := bitsL_succ v k
      have HS := Lib.hid hs
      clear hs
      generalize v / 2 ^ k = x at hb HP HS ⊢
      have hc : Value.bool ((x : Int) % 2 == 1) = Value.bool (decide (x % 2 = 1)) := by
        congr 1; rw [Bool.eq_iff_iff]; simp; omega
      have HC := Lib.hid hc
      clear hc
      go_wp2_with (at_builtin; refine wpList_push slBool rfl _ _ rfl rfl rfl hown (decide (x % 2 = 1)) ⟨wr.heap.size, 0, none⟩ rfl (cell_push HC.out _ _) rfl (by omega) (by unfold maxLen; omega) hsz ?_; intro a1 c1 w1 hown1 hg1; have hB1 := hown.step hB hg1 hsz; clear hown hB hg1)
      go_roundw
      case rel => exact ⟨k + 1, a1, c1, by omega, by go_num, by rw [HP.out]; go_num, rfl, by rw [HS.out]; exact hown1, hB1⟩
      case measure => simp [intOf]; omega
    · go_wp2
      go_ret
      have hk2 : n.toNat = k := by omega
      rw [hk2]
      exact ⟨_, _, rfl, hown, hB⟩

/-- The number that bits are, the lowest first, modulo 2^32. -/
def numL : List Bool → Nat
  | [] => 0
  | b :: l => (2 * numL l + if b then 1 else 0) % 4294967296
theorem numL_lt (l : List Bool) : numL l < 4294967296 := by
  cases l with
  | nil => simp [numL]
  | cons b l => simp only [numL]; omega
theorem numL_drop (l : List Bool) (k : Nat) (h : k < l.length) : numL (l.drop k) = (2 * numL (l.drop (k + 1)) + if l[k] then 1 else 0) % 4294967296 := by
  rw [List.drop_eq_getElem_cons h]; rfl

set_option maxRecDepth 100000 in
set_option maxHeartbeats 1000000 in
theorem number_any (a : Option Addr) (n c : Nat) (l : List Bool) (w : World) (hl : l.length = n) (hn : n ≤ 9000000000000000000) (hr : Rd w Value.bool a l) :
  Calls Try.prog 38 #[.slice a n c] w fun e w' => e = .returned (.int .u32 (numL l : Nat)) ∧ w = w' := by
  have HL := Lib.hid hl
  clear hl
  go_enter Try.func38, Try.ntmps38
  go_wp2
  go_loop [3, 4] (fun v i => ∃ k : Nat, k ≤ n ∧ i = .int .i64 ((k : Int) - 1) ∧ v = .int .u32 (numL (l.drop k) : Nat)) (fun _ i => (intOf i + 1).toNat)
  case atStart => exact ⟨n, Nat.le_refl _, rfl, by rw [List.drop_of_length_le (by rw [HL.out]; exact Nat.le_refl _)]; rfl⟩
  case round =>
    obtain ⟨k, hk, rfl, rfl⟩ := hrel
    have hlt0 := numL_lt (l.drop k)
    cases k with
    | zero =>
      have e0 : ((0 : Nat) : Int) - 1 = -1 := rfl
      go_wp2
      go_ret
      exact ⟨ret_int (by simp), rfl⟩
    | succ k =>
      have ek : (((k + 1 : Nat) : Int) - 1) = (k : Int) := by omega
      rw [ek]
      obtain ⟨b, off, rfl, -, hc⟩ := hr.at (k := k) (by rw [HL.out]; omega)
      have hkl : k < l.length := by rw [HL.out]; omega
      have hd := numL_drop l k hkl
      have HD := Lib.hid hd
      clear hd
      generalize numL (l.drop (k + 1)) = x at hlt0 HD ⊢
      generalize l[k] = y at hc HD ⊢
      clear hr
      cases y
      all_goals
        go_wp2
        go_round
        case rel => exact ⟨k, by omega, by go_num, by rw [HD.out]; go_num⟩
        case measure => simp [intOf]

/-- The bits of bytes. -/
def ofL (l : List UInt8) : List Bool := l.flatMap fun b => bitsL b.toNat 8
theorem ofL_length (l : List UInt8) : (ofL l).length = 8 * l.length := by
  induction l with
  | nil => rfl
  | cons b l ih => simp only [ofL, List.flatMap_cons, List.length_append, bitsL_length, List.length_cons] at ih ⊢; omega
theorem ofL_take (l : List UInt8) (k : Nat) (h : k < l.length) : ofL (l.take (k + 1)) = ofL (l.take k) ++ bitsL l[k].toNat 8 := by
  rw [List.take_succ_eq_append_getElem h]; simp only [ofL, List.flatMap_append, List.flatMap_cons, List.flatMap_nil, List.append_nil]
theorem bool_one (k : List Bool) : ∀ y ∈ k, (Value.bool y).oneCell' = true := fun _ _ => rfl

set_option maxRecDepth 100000 in
set_option maxHeartbeats 1000000 in
theorem of_any (a : Option Addr) (n c : Nat) (l : List UInt8) (w : World) (hl : l.length = n) (hn : n ≤ 10000000000) (hr : Rd w (fun b : UInt8 => Value.int .u8 (b.toNat : Int)) a l) :
  Calls Try.prog 28 #[.slice a n c] w fun e w' => ∃ a' c', e = .returned (.slice a' (8 * n) c') ∧ Own w' w.heap.size 4 Value.bool a' (8 * n) c' (ofL l) ∧ Below w.heap.size w w' := by
  have HL := Lib.hid hl
  clear hl
  go_enter Try.func28, Try.ntmps28
  go_wp2
  go_loopw [3, 8] (fun out i wr => ∃ (k : Nat) (a' : Option Addr) (c' : Nat), k ≤ n ∧ i = .int .i64 k ∧ out = .slice a' (8 * k) c' ∧ Own wr w.heap.size 4 Value.bool a' (8 * k) c' (ofL (l.take k)) ∧ Below w.heap.size w wr) (fun _ i _ => n - (intOf i).toNat)
  case atStart => exact ⟨0, none, 0, by omega, rfl, rfl, by simpa [ofL] using Own.nil, Below.refl _ _⟩
  case round =>
    obtain ⟨k, a', c', hk, rfl, rfl, hown, hB⟩ := hrel
    have hsz := hB.size
    by_cases hlt : k < n
    · have hkl : k < l.length := by rw [HL.out]; omega
      obtain ⟨b, off, rfl, -, hc⟩ := (hr.later hB).at (k := k) hkl
      have hs := ofL_take l k hkl
      have HS := Lib.hid hs
      clear hs
      have hx := l[k].toNat_lt
      generalize l[k] = x at hc HS hx ⊢
      have hx2 : (x.toNat : Int) < 256 := by omega
      go_wp2_with fail
      refine (bits_any x.toNat 8 wr (by omega) (by omega)).mono ?_
      rintro e w1 ⟨a1, c1, rfl, hown1, hB1⟩
      have hown0 := hown.below hB1
      have hBB := below_trans0 hB hsz hB1
      clear hc hB hown hB1
      have hsz1 := hBB.size
      go_wp2_with (at_builtin; refine wpList_cat slBool rfl _ _ rfl rfl hown0 rfl (bitsL_length _ _) hown1.rd (bool_one _) (by omega) (by unfold maxLen; omega) hsz1 ?_; intro a2 c2 w2 hown2 hg2 _ _; have hB2 := hown0.step hBB hg2 hsz1; clear hBB hown0 hg2)
      go_roundw
      case rel => exact ⟨k + 1, a2, c2, by omega, by go_num, by rw [show 8 * (k + 1) = 8 * k + 8 from by omega], by rw [HS.out]; exact hown2, hB2⟩
      case measure => simp [intOf]; omega
    · have hk' : k = n := by omega
      subst hk'
      go_wp2
      go_ret
      exact ⟨_, _, rfl, by rw [List.take_of_length_le (by rw [HL.out]; exact Nat.le_refl _)] at hown; exact hown, hB⟩
end Go.Proofs.Ytgcdeadfkljeaaa
