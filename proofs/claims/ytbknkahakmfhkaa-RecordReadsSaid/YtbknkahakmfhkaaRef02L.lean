/- The method Little of packsaddleref02.Cursor. -/
import Derived.Test.YtbknkahakmfhkaaRef02D
namespace Go.Proofs.Ytbknkahakmfhkaa
open Go.RowKit
set_option linter.unusedVariables false
set_option linter.unusedSimpArgs false

set_option maxRecDepth 100000 in
set_option maxHeartbeats 4000000 in
theorem rLitGet_any (g : Nat) (l : List UInt8) (p : Nat) (er m : Int) (w : World) (h : RefOk w g l p er) (hm1 : -9223372036854775808 ≤ m) (hm2 : m ≤ 9223372036854775807) :
  Calls Try.prog 104 #[.pointer (some ⟨g, 0, none⟩), .int .i64 m] w (RNumPost w g l p er m (litR (nextL l p er m (sizedB m)) (nextL l p er m (sizedB m)).length)) := by
  have hle := nextL_le' l p er m
  have hlen := h.len
  by_cases hcase : er = 0 ∧ sizedB m = false
  · obtain ⟨rfl, hs⟩ := hcase
    obtain ⟨e1, e2, e3⟩ := unsized_next l p m hs
    have h1 := h.setE 1
    have hg1 := grownBy_setCell w ⟨g, 2, none⟩ (.int .i64 1)
    have hsz : sizedB m = false := hs
    obtain ⟨a, n, c, hb, -⟩ := h.ex
    have h2 := hb.cell (i := 2) rfl
    have hf := hb.frozen 2
    have HG := Lib.hid hg1
    have H1 := Lib.hid h1
    unfold RNumPost
    rw [e2, e3]
    rw [e1] at hle ⊢
    clear h hb e1 e2 e3 h1 hg1 hs
    go_enter Try.func104, Try.ntmps104
    go_wp2_with fail
    refine (size2_any m w).mono ?_
    rintro e w' ⟨rfl, rfl⟩
    go_wp2_with fail
    refine (rTake_any g l p 1 m _ H1.out hm1 hm2).mono ?_
    rintro e w2 ⟨a2, k2, c2, rfl, hk2, hr2, hc2, hg2⟩
    have hk8 : k2 ≤ 8 := by rw [← hk2]; exact hle
    generalize hLe : nextL l p 1 m true = L at hk2 hr2 hle ⊢
    have HLE := Lib.hid hLe
    have HK := Lib.hid hk2
    have hs2 := Nat.le_refl w2.heap.size
    have hbz := Below.refl w2.heap.size w2
    clear hLe hk2
    go_wp2
    go_loopw [5, 25] (fun bk i wr => ∃ (j : Nat) (a' : Option Addr) (c' : Nat), j ≤ k2 ∧ i = .int .i64 j ∧ bk = .slice a' j c' ∧ Rd wr bE a' ((L.take j).reverse) ∧ Below w2.heap.size w2 wr) (fun _ i _ => k2 - (intOf i).toNat)
    case atStart => exact ⟨0, none, 0, by omega, rfl, rfl, by simp; exact Rd.nil, hbz⟩
    case round =>
      obtain ⟨j, a', c', hj, rfl, rfl, hrb, hB⟩ := hrel
      have hsz := hB.size
      by_cases hlt : j < k2
      · have hr3 := hr2.below hB
        obtain ⟨b, off, rfl, -, hc⟩ := hr3.at (k := j) (by rw [HK.out]; exact hlt)
        have hcl : j < L.length := by rw [HK.out]; exact hlt
        have hst : [L[j]] ++ (L.take j).reverse = (L.take (j + 1)).reverse := by rw [List.take_succ_eq_append_getElem hcl, List.reverse_append]; rfl
        have HST := Lib.hid hst
        have hbl : ((L.take j).reverse).length = j := by rw [List.length_reverse, List.length_take]; omega
        have HBL := Lib.hid hbl
        clear hst hbl hr3
        generalize L[j] = x at hc HST
        have hown1 := own_one (E := bE) wr 5 (base := w2.heap.size) hsz x
        have hrb1 := hrb.below (below_alloc wr (.cells #[bE x] 5))
        have hB1 := hB.alloc hsz (.cells #[bE x] 5)
        have hsz1 := hB1.size
        have HR2 := Lib.hid hr2
        clear hr2 hrb
        go_wp2_with (at_builtin; refine wpList_cat slByte rfl _ _ rfl rfl hown1 rfl HBL.out hrb1 (byteOne _) (by omega) (by unfold maxLen; omega) hsz1 ?_; intro a4 c4 w4 hown4 hg4 _ _; have hb7 := hown1.step hB1 hg4 hsz1; clear hown1 hB1 hg4 hrb1)
        go_roundw
        case rel => exact ⟨j + 1, a4, c4, by omega, by go_num, by rw [Nat.add_comm], by rw [← HST.out]; exact hown4.rd, hb7⟩
        case measure => simp [intOf]; omega
      · have hj' : k2 = j := by omega
        subst hj'
        have hLr : (L.take k2).reverse = L.reverse := by rw [List.take_of_length_le (by rw [HK.out]; exact Nat.le_refl _)]
        rw [hLr] at hrb
        have hrev : L.reverse.length = k2 := by rw [List.length_reverse]; exact HK.out
        have hfin : bigR L.reverse = litR L L.length := bigR_reverse L (by rw [HK.out]; exact hk8)
        go_wp2_with fail
        refine (rNumber_any a' k2 c' _ wr hrev (by unfold maxLen; omega) hrb).mono ?_
        rw [hfin]
        rintro e w' ⟨rfl, rfl⟩
        go_wp2
        go_ret
        exact ⟨ret_int (by rw [HLE.out]), hc2.below hB, grownBy_trans (grownBy_trans HG.out hg2) (grownBy_of_below _ hB)⟩
  · have hcase2 : er ≠ 0 ∨ sizedB m = true := by
      by_cases h0 : er = 0
      · right
        cases hs : sizedB m with
        | true => rfl
        | false => exact absurd ⟨h0, hs⟩ hcase
      · exact .inl h0
    obtain ⟨e1, e2, e3⟩ := sized_next l p er m hcase2
    have H1 := Lib.hid h
    obtain ⟨a, n, c, hb, -⟩ := h.ex
    have h2 := hb.cell (i := 2) rfl
    unfold RNumPost
    rw [e2, e3]
    rw [e1] at hle ⊢
    clear h hb e1 e2 e3 hcase
    go_enter Try.func104, Try.ntmps104
    by_cases h0 : er = 0
    · subst h0
      have hs : sizedB m = true := by rcases hcase2 with h | h; exact absurd rfl h; exact h
      clear hcase2
      go_wp2_with fail
      refine (size2_any m w).mono ?_
      rintro e w' ⟨rfl, rfl⟩
      go_wp2_with fail
      refine (rTake_any g l p 0 m _ H1.out hm1 hm2).mono ?_
      rintro e w2 ⟨a2, k2, c2, rfl, hk2, hr2, hc2, hg2⟩
      have hk8 : k2 ≤ 8 := by rw [← hk2]; exact hle
      generalize hLe : nextL l p 0 m true = L at hk2 hr2 hle ⊢
      have HLE := Lib.hid hLe
      have HK := Lib.hid hk2
      have hs2 := Nat.le_refl w2.heap.size
      have hbz := Below.refl w2.heap.size w2
      clear hLe hk2
      go_wp2
      go_loopw [5, 25] (fun bk i wr => ∃ (j : Nat) (a' : Option Addr) (c' : Nat), j ≤ k2 ∧ i = .int .i64 j ∧ bk = .slice a' j c' ∧ Rd wr bE a' ((L.take j).reverse) ∧ Below w2.heap.size w2 wr) (fun _ i _ => k2 - (intOf i).toNat)
      case atStart => exact ⟨0, none, 0, by omega, rfl, rfl, by simp; exact Rd.nil, hbz⟩
      case round =>
        obtain ⟨j, a', c', hj, rfl, rfl, hrb, hB⟩ := hrel
        have hsz := hB.size
        by_cases hlt : j < k2
        · have hr3 := hr2.below hB
          obtain ⟨b, off, rfl, -, hc⟩ := hr3.at (k := j) (by rw [HK.out]; exact hlt)
          have hcl : j < L.length := by rw [HK.out]; exact hlt
          have hst : [L[j]] ++ (L.take j).reverse = (L.take (j + 1)).reverse := by rw [List.take_succ_eq_append_getElem hcl, List.reverse_append]; rfl
          have HST := Lib.hid hst
          have hbl : ((L.take j).reverse).length = j := by rw [List.length_reverse, List.length_take]; omega
          have HBL := Lib.hid hbl
          clear hst hbl hr3
          generalize L[j] = x at hc HST
          have hown1 := own_one (E := bE) wr 5 (base := w2.heap.size) hsz x
          have hrb1 := hrb.below (below_alloc wr (.cells #[bE x] 5))
          have hB1 := hB.alloc hsz (.cells #[bE x] 5)
          have hsz1 := hB1.size
          have HR2 := Lib.hid hr2
          clear hr2 hrb
          go_wp2_with (at_builtin; refine wpList_cat slByte rfl _ _ rfl rfl hown1 rfl HBL.out hrb1 (byteOne _) (by omega) (by unfold maxLen; omega) hsz1 ?_; intro a4 c4 w4 hown4 hg4 _ _; have hb7 := hown1.step hB1 hg4 hsz1; clear hown1 hB1 hg4 hrb1)
          go_roundw
          case rel => exact ⟨j + 1, a4, c4, by omega, by go_num, by rw [Nat.add_comm], by rw [← HST.out]; exact hown4.rd, hb7⟩
          case measure => simp [intOf]; omega
        · have hj' : k2 = j := by omega
          subst hj'
          have hLr : (L.take k2).reverse = L.reverse := by rw [List.take_of_length_le (by rw [HK.out]; exact Nat.le_refl _)]
          rw [hLr] at hrb
          have hrev : L.reverse.length = k2 := by rw [List.length_reverse]; exact HK.out
          have hfin : bigR L.reverse = litR L L.length := bigR_reverse L (by rw [HK.out]; exact hk8)
          go_wp2_with fail
          refine (rNumber_any a' k2 c' _ wr hrev (by unfold maxLen; omega) hrb).mono ?_
          rw [hfin]
          rintro e w' ⟨rfl, rfl⟩
          go_wp2
          go_ret
          exact ⟨ret_int (by rw [HLE.out]), hc2.below hB, grownBy_trans (hg2) (grownBy_of_below _ hB)⟩
    · have he2 : (er == 0) = false := by simpa using h0
      clear hcase2 h0
      go_wp2_with fail
      refine (rTake_any g l p er m _ H1.out hm1 hm2).mono ?_
      rintro e w2 ⟨a2, k2, c2, rfl, hk2, hr2, hc2, hg2⟩
      have hk8 : k2 ≤ 8 := by rw [← hk2]; exact hle
      generalize hLe : nextL l p er m true = L at hk2 hr2 hle ⊢
      have HLE := Lib.hid hLe
      have HK := Lib.hid hk2
      have hs2 := Nat.le_refl w2.heap.size
      have hbz := Below.refl w2.heap.size w2
      clear hLe hk2
      go_wp2
      go_loopw [5, 25] (fun bk i wr => ∃ (j : Nat) (a' : Option Addr) (c' : Nat), j ≤ k2 ∧ i = .int .i64 j ∧ bk = .slice a' j c' ∧ Rd wr bE a' ((L.take j).reverse) ∧ Below w2.heap.size w2 wr) (fun _ i _ => k2 - (intOf i).toNat)
      case atStart => exact ⟨0, none, 0, by omega, rfl, rfl, by simp; exact Rd.nil, hbz⟩
      case round =>
        obtain ⟨j, a', c', hj, rfl, rfl, hrb, hB⟩ := hrel
        have hsz := hB.size
        by_cases hlt : j < k2
        · have hr3 := hr2.below hB
          obtain ⟨b, off, rfl, -, hc⟩ := hr3.at (k := j) (by rw [HK.out]; exact hlt)
          have hcl : j < L.length := by rw [HK.out]; exact hlt
          have hst : [L[j]] ++ (L.take j).reverse = (L.take (j + 1)).reverse := by rw [List.take_succ_eq_append_getElem hcl, List.reverse_append]; rfl
          have HST := Lib.hid hst
          have hbl : ((L.take j).reverse).length = j := by rw [List.length_reverse, List.length_take]; omega
          have HBL := Lib.hid hbl
          clear hst hbl hr3
          generalize L[j] = x at hc HST
          have hown1 := own_one (E := bE) wr 5 (base := w2.heap.size) hsz x
          have hrb1 := hrb.below (below_alloc wr (.cells #[bE x] 5))
          have hB1 := hB.alloc hsz (.cells #[bE x] 5)
          have hsz1 := hB1.size
          have HR2 := Lib.hid hr2
          clear hr2 hrb
          go_wp2_with (at_builtin; refine wpList_cat slByte rfl _ _ rfl rfl hown1 rfl HBL.out hrb1 (byteOne _) (by omega) (by unfold maxLen; omega) hsz1 ?_; intro a4 c4 w4 hown4 hg4 _ _; have hb7 := hown1.step hB1 hg4 hsz1; clear hown1 hB1 hg4 hrb1)
          go_roundw
          case rel => exact ⟨j + 1, a4, c4, by omega, by go_num, by rw [Nat.add_comm], by rw [← HST.out]; exact hown4.rd, hb7⟩
          case measure => simp [intOf]; omega
        · have hj' : k2 = j := by omega
          subst hj'
          have hLr : (L.take k2).reverse = L.reverse := by rw [List.take_of_length_le (by rw [HK.out]; exact Nat.le_refl _)]
          rw [hLr] at hrb
          have hrev : L.reverse.length = k2 := by rw [List.length_reverse]; exact HK.out
          have hfin : bigR L.reverse = litR L L.length := bigR_reverse L (by rw [HK.out]; exact hk8)
          go_wp2_with fail
          refine (rNumber_any a' k2 c' _ wr hrev (by unfold maxLen; omega) hrb).mono ?_
          rw [hfin]
          rintro e w' ⟨rfl, rfl⟩
          go_wp2
          go_ret
          exact ⟨ret_int (by rw [HLE.out]), hc2.below hB, grownBy_trans (hg2) (grownBy_of_below _ hB)⟩
end Go.Proofs.Ytbknkahakmfhkaa
