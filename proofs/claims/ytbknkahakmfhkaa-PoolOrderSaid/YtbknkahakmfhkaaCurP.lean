/- The walks of cursor.Big, Little, and of packsaddleref02's. -/
import Derived.Test.YtbknkahakmfhkaaBuf
namespace Go.Proofs.Ytbknkahakmfhkaa
open Go.RowKit
set_option linter.unusedVariables false
set_option linter.unusedSimpArgs false

def sizedB (n : Int) : Bool := n == 1 || n == 2 || n == 4 || n == 8
theorem sizedB_cases (n : Int) (h : sizedB n = true) : n = 1 ∨ n = 2 ∨ n = 4 ∨ n = 8 := by
  simp [sizedB] at h; omega
theorem sizedB_no (n : Int) (h1 : n ≠ 1) (h2 : n ≠ 2) (h4 : n ≠ 4) (h8 : n ≠ 8) : sizedB n = false := by
  simp [sizedB, h1, h2, h4, h8]

set_option maxHeartbeats 1000000 in
theorem sized_any (n : Int) (w : World) (h1 : -9223372036854775808 ≤ n) (h2 : n ≤ 9223372036854775807) :
  Calls Try.prog 116 #[.int .i64 n] w fun e w' => e = .returned (.bool (sizedB n)) ∧ w = w' := by
  by_cases hlo : n < 1
  · have hf : sizedB n = false := sizedB_no n (by omega) (by omega) (by omega) (by omega)
    rw [hf]
    go_enter Try.func116, Try.ntmps116
    go_wp2
    go_ret
    exact ⟨rfl, rfl⟩
  by_cases hhi : 8 < n
  · have hf : sizedB n = false := sizedB_no n (by omega) (by omega) (by omega) (by omega)
    rw [hf]
    go_enter Try.func116, Try.ntmps116
    go_wp2
    go_ret
    exact ⟨rfl, rfl⟩
  have hc : n = 1 ∨ n = 2 ∨ n = 3 ∨ n = 4 ∨ n = 5 ∨ n = 6 ∨ n = 7 ∨ n = 8 := by omega
  rcases hc with rfl | rfl | rfl | rfl | rfl | rfl | rfl | rfl
  all_goals
    clear hlo hhi h1 h2
    go_enter Try.func116, Try.ntmps116
    go_wp2
    go_ret
    exact ⟨ret_bool (by decide), rfl⟩

set_option maxHeartbeats 1000000 in
theorem size2_any (n : Int) (w : World) :
  Calls Try.prog 112 #[.int .i64 n] w fun e w' => e = .returned (.bool (sizedB n)) ∧ w = w' := by
  by_cases h1 : n = 1
  · subst h1
    go_enter Try.func112, Try.ntmps112
    go_wp2
    go_ret
    exact ⟨ret_bool (by decide), rfl⟩
  by_cases h2 : n = 2
  · subst h2
    clear h1
    go_enter Try.func112, Try.ntmps112
    go_wp2
    go_ret
    exact ⟨ret_bool (by decide), rfl⟩
  by_cases h4 : n = 4
  · subst h4
    clear h1 h2
    go_enter Try.func112, Try.ntmps112
    go_wp2
    go_ret
    exact ⟨ret_bool (by decide), rfl⟩
  by_cases h8 : n = 8
  · subst h8
    clear h1 h2 h4
    go_enter Try.func112, Try.ntmps112
    go_wp2
    go_ret
    exact ⟨ret_bool (by decide), rfl⟩
  have hf := sizedB_no n h1 h2 h4 h8
  rw [hf]
  have e1 : (n == 1) = false := by simpa using h1
  have e2 : (n == 2) = false := by simpa using h2
  have e4 : (n == 4) = false := by simpa using h4
  have e8 : (n == 8) = false := by simpa using h8
  clear h1 h2 h4 h8
  go_enter Try.func112, Try.ntmps112
  go_wp2
  go_ret
  exact ⟨rfl, rfl⟩

/-- A number's n bytes, the lowest first. -/
def littleL (v n : Nat) : List UInt8 := (List.range n).map fun i => UInt8.ofNat (v / 256 ^ i % 256)
theorem littleL_length (v n : Nat) : (littleL v n).length = n := by simp [littleL]
theorem littleL_succ (v n : Nat) : littleL v (n + 1) = littleL v n ++ [UInt8.ofNat (v / 256 ^ n % 256)] := by simp [littleL, List.range_succ]
def putL (v : Nat) (n : Int) : List UInt8 := if sizedB n then littleL v n.toNat else []
def putB (v : Nat) (n : Int) : List UInt8 := if sizedB n then (littleL v n.toNat).reverse else []
theorem byte_toNat (x : Nat) : (UInt8.ofNat (x % 256)).toNat = x % 256 := by
  rw [UInt8.toNat_ofNat']; exact Nat.mod_eq_of_lt (by omega)
theorem putL_le (v : Nat) (n : Int) : (putL v n).length ≤ 8 := by
  unfold putL
  cases h : sizedB n
  · simp
  · rcases sizedB_cases n h with rfl | rfl | rfl | rfl <;> simp [littleL_length]
theorem putB_le (v : Nat) (n : Int) : (putB v n).length ≤ 8 := by
  unfold putB
  cases h : sizedB n
  · simp
  · rcases sizedB_cases n h with rfl | rfl | rfl | rfl <;> simp [littleL_length]

set_option maxRecDepth 100000 in
set_option maxHeartbeats 2000000 in
theorem cLittle_full (a : Option Addr) (n c : Nat) (l : List UInt8) (v : Nat) (m : Int) (w : World) (hl : l.length = n) (hn : n ≤ 1000000000) (hv : v < 18446744073709551616) (h1 : -9223372036854775808 ≤ m) (h2 : m ≤ 9223372036854775807) (hr : Rd w bE a l) :
  Calls Try.prog 99 #[.slice a n c, .int .u64 (v : Int), .int .i64 m] w fun e w' => ∃ a' n' c', e = .returned (.slice a' n' c') ∧ Buf w' w.heap.size 5 bE a' n' c' (l ++ putL v m) ∧ (sizedB m = true → Own w' w.heap.size 5 bE a' n' c' (l ++ putL v m)) ∧ Below w.heap.size w w' := by
  go_enter Try.func99, Try.ntmps99
  go_wp2_with fail
  refine (clone_any a n c l w hl (by omega) hr).mono ?_
  rintro e w1 ⟨a1, c1, rfl, hown1, hB1⟩
  go_wp2_with fail
  refine (clip_any a1 n c1 _ hown1.le_cap hown1.cap_max ?_).mono ?_
  · intro h
    rcases hown1.blk with ⟨_, h2, h3⟩ | ⟨g, h4, _⟩
    · exact ⟨h2, h3⟩
    · rw [h] at h4; cases h4
  rintro e w' ⟨rfl, rfl⟩
  have hbuf : Buf w1 w.heap.size 5 bE a1 n n l := .inr ⟨rfl, by unfold maxLen; omega, hl, hown1.rd⟩
  clear hown1
  go_wp2_with fail
  refine (sized_any m w1 h1 h2).mono ?_
  rintro e w' ⟨rfl, rfl⟩
  have hput : putL v m = if sizedB m then littleL v m.toNat else [] := rfl
  cases hs : sizedB m with
  | false =>
    rw [hs] at hput
    have HP := Lib.hid hput
    have HSF : Hid (¬ sizedB m = true) := Lib.hid (by rw [hs]; simp)
    clear hput hs
    go_wp2
    go_ret
    exact ⟨_, _, _, rfl, by rw [HP.out]; simpa using hbuf, (fun h => absurd h HSF.out), hB1⟩
  | true =>
    rw [hs] at hput
    obtain ⟨k, hk0, hk, rfl⟩ : ∃ k : Nat, 0 < k ∧ k ≤ 8 ∧ m = (k : Int) := by
      rcases sizedB_cases m hs with rfl | rfl | rfl | rfl
      · exact ⟨1, by omega, by omega, rfl⟩
      · exact ⟨2, by omega, by omega, rfl⟩
      · exact ⟨4, by omega, by omega, rfl⟩
      · exact ⟨8, by omega, by omega, rfl⟩
    have hput2 : putL v k = littleL v k := by rw [hput]; simp
    have HP := Lib.hid hput2
    clear hput hput2 hs
    go_wp2
    go_loopw [1, 7, 16] (fun x out i wr => ∃ (j : Nat) (a' : Option Addr) (c' : Nat), j ≤ k ∧ i = .int .i64 j ∧ x = .int .u64 ((v / 256 ^ j : Nat) : Int) ∧ out = .slice a' (n + j) c' ∧ Buf wr w.heap.size 5 bE a' (n + j) c' (l ++ littleL v j) ∧ (0 < j → Own wr w.heap.size 5 bE a' (n + j) c' (l ++ littleL v j)) ∧ Below w.heap.size w wr) (fun _ _ i _ => k - (intOf i).toNat)
    case atStart => exact ⟨0, _, _, by omega, rfl, by simp, rfl, by simpa [littleL] using hbuf, (fun h => absurd h (by omega)), hB1⟩
    case round =>
      obtain ⟨j, a', c', hj, rfl, rfl, rfl, hb, hpos, hB⟩ := hrel
      clear hbuf hB1
      have hsz := hB.size
      by_cases hlt : j < k
      · clear hpos
        have hle : v / 256 ^ j ≤ v := Nat.div_le_self _ _
        have hpow : v / 256 ^ (j + 1) = v / 256 ^ j / 256 := by rw [Nat.pow_succ, Nat.div_div_eq_div_mul]
        have HPW := Lib.hid hpow
        have hs := littleL_succ v j
        have HS := Lib.hid hs
        clear hpow hs
        generalize v / 256 ^ j = x at hle HPW HS ⊢
        have hc : Value.int .u8 ((x : Int) % 256) = bE (UInt8.ofNat (x % 256)) := by
          simp only [bE, byte_toNat]; rfl
        have HC := Lib.hid hc
        clear hc
        go_wp2_with (at_builtin; refine wpList_pushB slByte rfl rfl _ _ rfl rfl rfl hb hB (UInt8.ofNat (x % 256)) ⟨wr.heap.size, 0, none⟩ rfl (cell_push HC.out _ _) rfl (by omega) (by unfold maxLen; omega) hsz ?_; intro a2 c2 w2 hown2 hB2; clear hb hB)
        go_roundw
        case rel => exact ⟨j + 1, a2, c2, by omega, by go_num, by rw [HPW.out]; go_num, rfl, by rw [HS.out, ← List.append_assoc]; exact .inl hown2, (fun _ => by rw [HS.out, ← List.append_assoc]; exact hown2), hB2⟩
        case measure => simp [intOf]; omega
      · have hj' : j = k := by omega
        subst hj'
        have HPOS := Lib.hid (hpos hk0)
        clear hpos
        go_wp2
        go_ret
        exact ⟨_, _, _, rfl, by rw [HP.out]; exact hb, (fun _ => by rw [HP.out]; exact HPOS.out), hB⟩

theorem cLittle_any (a : Option Addr) (n c : Nat) (l : List UInt8) (v : Nat) (m : Int) (w : World) (hl : l.length = n) (hn : n ≤ 1000000000) (hv : v < 18446744073709551616) (h1 : -9223372036854775808 ≤ m) (h2 : m ≤ 9223372036854775807) (hr : Rd w bE a l) :
  Calls Try.prog 99 #[.slice a n c, .int .u64 (v : Int), .int .i64 m] w fun e w' => ∃ a' n' c', e = .returned (.slice a' n' c') ∧ Buf w' w.heap.size 5 bE a' n' c' (l ++ putL v m) ∧ Below w.heap.size w w' := by
  exact (cLittle_full a n c l v m w hl hn hv h1 h2 hr).mono fun e w' ⟨a', n', c', h3, h4, _, h5⟩ => ⟨a', n', c', h3, h4, h5⟩

end Go.Proofs.Ytbknkahakmfhkaa
