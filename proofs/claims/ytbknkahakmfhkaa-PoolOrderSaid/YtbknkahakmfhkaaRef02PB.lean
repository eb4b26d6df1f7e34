/- The walk of packsaddleref02.Big. -/
import Derived.Test.YtbknkahakmfhkaaRef02P
namespace Go.Proofs.Ytbknkahakmfhkaa
open Go.RowKit
set_option linter.unusedVariables false
set_option linter.unusedSimpArgs false

set_option maxRecDepth 100000 in
set_option maxHeartbeats 2000000 in
theorem rBig_any (a : Option Addr) (n c : Nat) (l : List UInt8) (v : Nat) (m : Int) (w : World) (hl : l.length = n) (hn : n ≤ 1000000000) (hv : v < 18446744073709551616) (hr : Rd w bE a l) :
  Calls Try.prog 84 #[.slice a n c, .int .u64 (v : Int), .int .i64 m] w fun e w' => ∃ a' n' c', e = .returned (.slice a' n' c') ∧ Own w' w.heap.size 5 bE a' n' c' (l ++ putB v m) ∧ Below w.heap.size w w' := by
  have hown0 := own_empty0 (E := bE) w 5 (Nat.le_refl _)
  have hB0 := below_alloc w (.cells #[] 5)
  have hs0 := hB0.size
  have HQ := Lib.hid (hr.below hB0)
  have HL := Lib.hid hl
  clear hl hr
  have hput : putB v m = (putL v m).reverse := by
    unfold putB putL
    cases sizedB m <;> simp
  have HP := Lib.hid hput
  clear hput
  go_enter Try.func84, Try.ntmps84
  go_wp2_with (at_builtin; refine wpList_cat slByte rfl _ _ rfl rfl hown0 rfl HL.out HQ.out (byteOne _) (by omega) (by unfold maxLen; omega) hs0 ?_; intro a4 c4 w4 hown4 hg4 _ _; simp only [Nat.zero_add, List.nil_append] at hown4; have hb7 := hown0.step hB0 hg4 hs0; clear hown0 hB0 hg4)
  refine (rLittle_any none 0 0 [] v m w4 rfl (by omega) hv Rd.nil).mono ?_
  rintro e w5 ⟨a5, k, c5, rfl, hown5, hB5⟩
  rw [List.nil_append] at hown5
  have hk8 : k ≤ 8 := by rw [← hown5.len]; exact putL_le v m
  have hown6 := hown4.below hB5
  have hs7 := hb7.size
  have hb8 := below_trans0 hb7 hs7 hB5
  have hlen5 := Lib.hid hown5.len
  have hrd5 := hown5.rd
  have hne5 : ∀ g, a4 = some ⟨g, 0, none⟩ → ∀ g' off', a5 = some ⟨g', off', none⟩ → g' ≠ g := by
    intro g hg g' off' hg'
    rcases hown4.blk with ⟨h, _⟩ | ⟨q, h, _, hlt⟩
    · rw [h] at hg; cases hg
    · rcases hown5.blk with ⟨h2, _⟩ | ⟨q2, h2, hge, _⟩
      · rw [h2] at hg'; cases hg'
      · rw [h] at hg; rw [h2] at hg'
        simp at hg hg'
        omega
  have hlt5 : ∀ g' off', a5 = some ⟨g', off', none⟩ → g' < w5.heap.size := by
    intro g' off' hg'
    rcases hown5.blk with ⟨h2, _⟩ | ⟨q2, h2, _, hlt⟩
    · rw [h2] at hg'; cases hg'
    · rw [h2] at hg'; simp at hg'; omega
  have HLT5 := Lib.hid hlt5
  clear hlt5
  clear hown4 hb7 hown5
  generalize putL v m = L at HP hlen5 hrd5
  go_wp2
  have hbs : w.heap.size ≤ w5.heap.size := hb8.size
  go_loopw [7, 9] (fun out i wr => ∃ (j : Nat) (a' : Option Addr) (c' : Nat), j ≤ k ∧ i = .int .i64 ((j : Int) - 1) ∧ out = .slice a' (n + (k - j)) c' ∧ Own wr w.heap.size 5 bE a' (n + (k - j)) c' (l ++ (L.drop j).reverse) ∧ Below w.heap.size w wr ∧ Rd wr bE a5 L ∧ w5.heap.size ≤ wr.heap.size ∧ (∀ g, a' = some ⟨g, 0, none⟩ → ∀ g' off', a5 = some ⟨g', off', none⟩ → g' ≠ g)) (fun _ i _ => (intOf i + 1).toNat)
  case atStart => exact ⟨k, a4, c4, by omega, rfl, by simp, by rw [List.drop_of_length_le (by rw [hlen5.out]; exact Nat.le_refl _)]; simpa using hown6, hb8, hrd5, Nat.le_refl _, hne5⟩
  case round =>
    obtain ⟨j, a', c', hj, rfl, rfl, hb, hB, hrd, hs5, hne⟩ := hrel
    have HNE := Lib.hid hne
    clear hown6 hb8 hrd5 hne5 hne
    have hsz := hB.size
    cases j with
    | zero =>
      have e0 : ((0 : Nat) : Int) - 1 = -1 := rfl
      go_wp2
      go_ret
      exact ⟨_, _, _, rfl, by rw [HP.out]; exact hb, hB⟩
    | succ j =>
      have ek : (((j + 1 : Nat) : Int) - 1) = (j : Int) := by omega
      rw [ek]
      have hjl : j < L.length := by rw [hlen5.out]; omega
      obtain ⟨b, off, rfl, -, hc⟩ := hrd.at (k := j) hjl
      have hL : (L.drop j).reverse = (L.drop (j + 1)).reverse ++ [L[j]] := by
        rw [List.drop_eq_getElem_cons hjl, List.reverse_cons]
      have HS := Lib.hid hL
      clear hL
      generalize L[j] = y at hc HS
      have HRD := Lib.hid hrd
      clear hrd
      generalize hq : n + (k - (j + 1)) = q at hb
      have HQ := Lib.hid hq
      have hq2 : q ≤ 1000000008 := by omega
      clear hq
      go_wp2_with (at_builtin; refine wpList_push2 slByte rfl rfl _ _ rfl rfl rfl hb y ⟨wr.heap.size, 0, none⟩ rfl (cell_push rfl _ _) rfl (by omega) (by unfold maxLen; omega) hsz ?_; intro a2 c2 w2 hown2 hg2 hp2)
      have hB2 := hb.step hB hg2 hsz
      have hrd2 : Rd w2 bE (some ⟨b, off, none⟩) L := by
        refine HRD.out.grown hg2 ?_
        intro g' off' hg' he
        rcases hb.blk with ⟨h, _⟩ | ⟨g, h, _, _⟩
        · rw [h] at he; simp [Value.ownBlock] at he
        · rw [h] at he
          simp [Value.ownBlock] at he
          exact HNE.out g h g' off' hg' he
      have hsz2 : w5.heap.size ≤ w2.heap.size := Nat.le_trans hs5 hg2.size
      have hne2 : ∀ g, a2 = some ⟨g, 0, none⟩ → ∀ g' off', (some ⟨b, off, none⟩ : Option Addr) = some ⟨g', off', none⟩ → g' ≠ g := by
        intro g hg g' off' hg'
        rcases hp2 with rfl | ⟨q2, rfl, hq3⟩
        · exact HNE.out g hg g' off' hg'
        · have := HLT5.out g' off' hg'
          simp at hg
          omega
      clear hb hB hg2 hp2 hc
      go_wp2
      go_roundw
      case rel => exact ⟨j, a2, c2, by omega, by go_num, by rw [show n + (k - j) = q + 1 from by rw [← HQ.out]; omega], by rw [show n + (k - j) = q + 1 from by rw [← HQ.out]; omega, HS.out, ← List.append_assoc]; exact hown2, hB2, hrd2, hsz2, hne2⟩
      case measure => simp [intOf]
end Go.Proofs.Ytbknkahakmfhkaa
