/- The walk of BitioReverse. -/
import Derived.Test.YtmmgcfhoigpomaaFix01
namespace Go.Proofs.Ytmmgcfhoigpomaa
open Go.RowKit
set_option linter.unusedVariables false
set_option linter.unusedSimpArgs false

theorem revI_lt (v : Nat) (n : Int) : revI v n < 4294967296 := by
  unfold revI; split
  · decide
  · exact (revB (BitVec.ofNat 32 v) >>> (32 - n.toNat)).isLt
theorem revI_num (v n : Nat) (hv : v < 4294967296) (hn : n ≤ 32) : revI v n = numL (bitsL v n).reverse := by
  unfold revI
  by_cases h : n = 0
  · subst h; rfl
  · rw [if_neg (by omega), Int.toNat_natCast, revN_num v n hv hn]
theorem revI_twice (v n : Nat) (hv : v < 4294967296) (hn : n ≤ 32) : revI (revI v n) n = numL (bitsL v n) := by
  by_cases h : n = 0
  · subst h; rfl
  · have e : ∀ x, revI x (n : Int) = revN x n := fun x => by unfold revI; rw [if_neg (by omega), Int.toNat_natCast]
    rw [e, e, revN_twice v n hv hn]

set_option maxHeartbeats 4000000 in
set_option maxRecDepth 100000 in
theorem walkBitioReverse (a0 a1 : Int) (w : World) (h0 : 0 ≤ a0 ∧ a0 < 4294967296) (h1 : -9223372036854775808 ≤ a1 ∧ a1 ≤ 9223372036854775807) :
    Calls Try.prog 4 #[.int .u32 a0, .int .i64 a1] w fun e w' => e = .returned (.bool true) ∧ Below w.heap.size w w' := by
  obtain ⟨v, rfl⟩ := Int.eq_ofNat_of_zero_le h0.1
  have hv : v < 4294967296 := by omega
  go_enter Try.func4, Try.ntmps4
  go_wp2_with fail
  refine (fixed01_any _).mono ?_
  rintro e w1 ⟨rfl, hb1⟩
  have hs1 := hb1.size
  by_cases hlo : a1 < 0
  · have hz : revI v a1 = 0 := by unfold revI; rw [if_pos (.inl (by omega))]
    go_wp2_with fail
    refine (reverse_any v a1 w1 hv h1.1 h1.2).mono ?_
    rw [hz]
    rintro e w' ⟨rfl, rfl⟩
    clear hz
    go_wp2
    go_ret
    exact ⟨rfl, hb1⟩
  · by_cases hhi : a1 > 32
    · have hz : revI v a1 = 0 := by unfold revI; rw [if_pos (.inr hhi)]
      go_wp2_with fail
      refine (reverse_any v a1 w1 hv h1.1 h1.2).mono ?_
      rw [hz]
      rintro e w' ⟨rfl, rfl⟩
      clear hz
      go_wp2
      go_ret
      exact ⟨rfl, hb1⟩
    · obtain ⟨n, rfl⟩ := Int.eq_ofNat_of_zero_le (show 0 ≤ a1 by omega)
      have hn : n ≤ 32 := by omega
      have hr1 := revI_num v n hv hn
      have hr2 := revI_twice v n hv hn
      go_wp2_with fail
      refine (bits_any v n w1 hv (by omega)).mono ?_
      rintro e w2 ⟨a5, c5, rfl, hown5, hb⟩
      rw [Int.toNat_natCast] at hown5 ⊢
      have hb2 := below_trans0 hb1 hs1 hb
      have hs2 := hb2.size
      have hll : (bitsL v n).length = n := bitsL_length v n
      clear hb1 hs1 hb
      obtain ⟨l, hl⟩ : ∃ l, bitsL v n = l := ⟨_, rfl⟩
      rw [hl] at hown5 hr1 hr2 hll
      have HR1 := Lib.hid hr1
      have HR2 := Lib.hid hr2
      have HLL := Lib.hid hll
      have hrl := hown5.rd
      clear hl hr1 hr2 hll hown5
      go_wp2
      go_loopw [6, 7] (fun bk i wr => ∃ (k : Nat) (a' : Option Addr) (c' : Nat), k ≤ n ∧ i = .int .i64 ((k : Int) - 1) ∧ bk = .slice a' (n - k) c' ∧ Own wr w2.heap.size 4 Value.bool a' (n - k) c' ((l.drop k).reverse) ∧ Below w2.heap.size w2 wr) (fun _ i _ => (intOf i + 1).toNat)
      case atStart =>
        refine ⟨n, none, 0, Nat.le_refl _, rfl, by rw [Nat.sub_self], ?_, Below.refl _ _⟩
        rw [Nat.sub_self, List.drop_of_length_le (by rw [HLL.out]; exact Nat.le_refl _)]
        exact Own.nil
      case round =>
        obtain ⟨k, a', c', hk, rfl, rfl, hown, hB⟩ := hrel
        have hsz := hB.size
        by_cases hk0 : 0 < k
        · obtain ⟨j, rfl⟩ : ∃ j, k = j + 1 := ⟨k - 1, by omega⟩
          have hjl : j < l.length := by rw [HLL.out]; omega
          obtain ⟨b, off, rfl, -, hc⟩ := (hrl.below hB).at (k := j) hjl
          have hst : (l.drop (j + 1)).reverse ++ [l[j]] = (l.drop j).reverse := by rw [List.drop_eq_getElem_cons hjl, List.reverse_cons]
          obtain ⟨r, hr⟩ : ∃ r, n - (j + 1) = r := ⟨_, rfl⟩
          have hr2 : n - j = r + 1 := by omega
          rw [hr] at hown ⊢
          have HST := Lib.hid hst
          have HR := Lib.hid hr2
          have hi : ((j + 1 : Nat) : Int) - 1 = (j : Int) := by omega
          have HRL := Lib.hid hrl
          have hr32 : r ≤ 32 := by omega
          clear hst hr hr2 hrl
          rw [hi]
          generalize l[j] = x at hc HST
          go_wp2_with (at_builtin; refine wpList_push slBool rfl _ _ rfl rfl rfl hown x ⟨wr.heap.size, 0, none⟩ rfl (cell_push rfl _ _) rfl (by omega) (by unfold maxLen; omega) hsz ?_; intro a2 c2 w5 hown2 hg2; have hB2 := hown.step hB hg2 hsz)
          go_roundw
          case rel => exact ⟨j, a2, c2, by omega, by go_num, by rw [HR.out], by rw [HR.out, ← HST.out]; exact hown2, hB2⟩
          case measure => simp [intOf] <;> omega
        · have hk0' : k = 0 := by omega
          subst hk0'
          rw [Nat.sub_zero] at hown ⊢
          have hrb := hown.rd
          rw [List.drop_zero] at hrb
          have hrl2 := hrl.below hB
          have hb3 := below_trans0 hb2 hs2 hB
          have hx := revI_lt v n
          have hlr : l.reverse.length = n := by rw [List.length_reverse]; exact HLL.out
          have HRL := Lib.hid hrl2
          have HRB := Lib.hid hrb
          have HLR := Lib.hid hlr
          have HB := Lib.hid hb3
          clear hown hB hrl hrl2 hrb hlr hb2 hs2 hb3
          go_wp2_with fail
          refine (reverse_any v n wr hv (by omega) (by omega)).mono ?_
          rintro e w' ⟨rfl, rfl⟩
          go_wp2_with fail
          refine (number_any a' n c' l.reverse wr HLR.out (by omega) HRB.out).mono ?_
          rw [← HR1.out]
          rintro e w' ⟨rfl, rfl⟩
          generalize revI v n = x at hx HR2 ⊢
          go_wp2_with fail
          refine (reverse_any x n wr hx (by omega) (by omega)).mono ?_
          rw [HR2.out]
          rintro e w' ⟨rfl, rfl⟩
          go_wp2_with fail
          refine (number_any a5 n c5 l wr HLL.out (by omega) HRL.out).mono ?_
          rintro e w' ⟨rfl, rfl⟩
          go_wp2
          go_ret
          exact ⟨rfl, HB.out⟩
end Go.Proofs.Ytmmgcfhoigpomaa
