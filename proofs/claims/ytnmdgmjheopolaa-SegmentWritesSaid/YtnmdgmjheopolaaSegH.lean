/- What is written of parts is read; packsaddlelaw33.fixed. -/
import Derived.Test.YtnmdgmjheopolaaSegG
import Derived.Test.YtnmdgmjheopolaaSegD
import Derived.Test.YtnmdgmjheopolaaLitM
namespace Go.Proofs.Ytnmdgmjheopolaa
open Go.RowKit
set_option linter.unusedVariables false
set_option linter.unusedSimpArgs false

theorem next_at (B u rest : List UInt8) (p : Nat) (m : Nat) (sz : Bool) (hs : sz = true) (hp : p ≤ B.length) (h : B.drop p = u ++ rest) (hu : u.length = m) : nextL B p 0 m sz = u ∧ nextAt B.length p 0 m sz = p + m ∧ nextEr B.length p 0 m sz = 0 := by
  have hlen : B.length - p = m + rest.length := by have := congrArg List.length h; rw [List.length_drop, List.length_append, hu] at this; exact this
  have hok : nextOk B.length p 0 m sz = true := by unfold nextOk; exact decide_eq_true ⟨rfl, by omega, hs, by omega⟩
  refine ⟨?_, ?_, ?_⟩
  · unfold nextL; rw [hok]; simp only [if_true]
    rw [h, show (m : Int).toNat = u.length by rw [hu]; rfl, List.take_left]
  · unfold nextAt; rw [hok]; simp
  · unfold nextEr; rw [if_neg (by omega), if_neg (by rw [hs]; simp), if_neg (by omega)]
theorem bigR_putB (v : Nat) (m : Int) (k : Nat) (hm : m = k) (hs : sizedB m = true) (hk : k ≤ 8) (hv : v < 256 ^ k) : bigR (putB v m) = (v : Int) := by
  unfold putB; rw [if_pos hs, hm, Int.toNat_natCast]
  have hl : (littleL v k).length = k := littleL_length v k
  rw [bigR_reverse _ (by omega), hl, litR_num _ _ hk, numLE_little v k k (Nat.le_refl _), Nat.mod_eq_of_lt hv]
theorem drop_app {α : Type} (a c : List α) (k : Nat) (h : a.length = k) : (a ++ c).drop k = c := by subst h; exact List.drop_left
def lensI (ls : List (List UInt8)) : List Int := ls.map fun l => (l.length : Int)
theorem lensI_len (ls : List (List UInt8)) : (lensI ls).length = ls.length := by simp [lensI]
theorem segLens_split (ls : List (List UInt8)) (k : Nat) (hk : k < ls.length) : segLens ls = segLens (ls.take k) ++ (putB ls[k].length 4 ++ segLens (ls.drop (k + 1))) := by
  have h1 : segLens ls = segLens (ls.take k) ++ segLens (ls.drop k) := by
    unfold segLens; rw [← List.flatten_append, ← List.map_append, List.take_append_drop]
  rw [h1, List.drop_eq_getElem_cons hk]; rfl
theorem flat_split (ls : List (List UInt8)) (k : Nat) (hk : k < ls.length) : ls.flatten = (ls.take k).flatten ++ (ls[k] ++ (ls.drop (k + 1)).flatten) := by
  have h1 : ls.flatten = (ls.take k).flatten ++ (ls.drop k).flatten := by rw [← List.flatten_append, List.take_append_drop]
  rw [h1, List.drop_eq_getElem_cons hk]; rfl
theorem segB_len (ls : List (List UInt8)) : (segB ls).length = 8 + 4 * ls.length + sumL ls := by
  unfold segB; rw [List.length_append, List.length_append, segHead_len, segLens_len, sumL_flat]
theorem seg_head (ls : List (List UInt8)) (hn : ls.length ≤ 255) : smag (segB ls) = [80, 75, 83, 76] ∧ sv2 (segB ls) = 1 ∧ sv3 (segB ls) = (ls.length : Int) ∧ sp3 (segB ls) = 8 ∧ se3 (segB ls) = 0 := by
  have hB : segB ls = [80, 75, 83, 76] ++ (putB 1 2 ++ (putB ls.length 2 ++ (segLens ls ++ ls.flatten))) := by unfold segB segHead; simp only [List.append_assoc]
  have hlen := segB_len ls
  obtain ⟨a1, a2, a3⟩ := next_at (segB ls) [80, 75, 83, 76] (putB 1 2 ++ (putB ls.length 2 ++ (segLens ls ++ ls.flatten))) 0 4 true rfl (by omega) (by rw [List.drop_zero]; exact hB) rfl
  have d4 : (segB ls).drop 4 = putB 1 2 ++ (putB ls.length 2 ++ (segLens ls ++ ls.flatten)) := by rw [hB]; rfl
  have d6 : (segB ls).drop 6 = putB ls.length 2 ++ (segLens ls ++ ls.flatten) := by
    rw [show (6 : Nat) = 4 + 2 from rfl, ← List.drop_drop, d4, drop_app _ _ 2 (putB2_len 1)]
  have e1 : smag (segB ls) = [80, 75, 83, 76] := a1
  have e2 : sp1 (segB ls) = 4 := a2
  have e3 : se1 (segB ls) = 0 := a3
  obtain ⟨b1, b2, b3⟩ := next_at (segB ls) (putB 1 2) (putB ls.length 2 ++ (segLens ls ++ ls.flatten)) 4 2 (sizedB 2) (by decide) (by omega) d4 (putB2_len 1)
  have e4 : sv2 (segB ls) = 1 := by unfold sv2; rw [e2, e3]; exact (congrArg bigR b1).trans (bigR_putB 1 2 2 rfl (by decide) (by omega) (by omega))
  have e5 : sp2 (segB ls) = 6 := by unfold sp2; rw [e2, e3]; exact b2
  have e6 : se2 (segB ls) = 0 := by unfold se2; rw [e2, e3]; exact b3
  obtain ⟨c1, c2, c3⟩ := next_at (segB ls) (putB ls.length 2) (segLens ls ++ ls.flatten) 6 2 (sizedB 2) (by decide) (by omega) d6 (putB2_len _)
  refine ⟨e1, e4, ?_, ?_, ?_⟩
  · unfold sv3; rw [e5, e6]; exact (congrArg bigR c1).trans (bigR_putB ls.length 2 2 rfl (by decide) (by omega) (by omega))
  · unfold sp3; rw [e5, e6]; exact c2
  · unfold se3; rw [e5, e6]; exact c3
theorem seg_sizes (ls : List (List UInt8)) (hs : sumL ls ≤ 1000) (k : Nat) (hk : k ≤ ls.length) : szIt (segB ls) 8 0 k = ((lensI ls).take k, 8 + 4 * k, 0) := by
  induction k with
  | zero => simp [szIt]
  | succ k ih =>
    have ih := ih (by omega)
    have hkl : k < ls.length := by omega
    have hd : (segB ls).drop (8 + 4 * k) = putB ls[k].length 4 ++ (segLens (ls.drop (k + 1)) ++ ls.flatten) := by
      have hB : segB ls = (segHead ls.length ++ segLens (ls.take k)) ++ (putB ls[k].length 4 ++ (segLens (ls.drop (k + 1)) ++ ls.flatten)) := by
        unfold segB; rw [segLens_split ls k hkl]; simp only [List.append_assoc]
      rw [hB, drop_app _ _ _ (by rw [List.length_append, segHead_len, segLens_len, List.length_take]; omega)]
    have hat := sumL_at ls k hkl
    obtain ⟨c1, c2, c3⟩ := next_at (segB ls) (putB ls[k].length 4) _ (8 + 4 * k) 4 (sizedB 4) (by decide) (by rw [segB_len]; omega) hd (putB4_len _)
    have hv := bigR_putB ls[k].length 4 4 rfl (by decide) (by omega) (by omega)
    have c1' : nextL (segB ls) (8 + 4 * k) 0 4 (sizedB 4) = putB ls[k].length 4 := c1
    have c2' : nextAt (segB ls).length (8 + 4 * k) 0 4 (sizedB 4) = 8 + 4 * k + 4 := c2
    have c3' : nextEr (segB ls).length (8 + 4 * k) 0 4 (sizedB 4) = 0 := c3
    have hkI : k < (lensI ls).length := by rw [lensI_len]; exact hkl
    simp only [szIt]
    rw [ih]
    simp only
    rw [c1', c2', c3', hv, List.take_succ_eq_append_getElem hkI]
    simp [lensI]; omega
theorem seg_takes (ls : List (List UInt8)) (k : Nat) (hk : k ≤ ls.length) : tkIt (segB ls) (lensI ls) (8 + 4 * ls.length) 0 k = (ls.take k, 8 + 4 * ls.length + sumL (ls.take k), 0) := by
  induction k with
  | zero => simp [tkIt, sumL]
  | succ k ih =>
    have ih := ih (by omega)
    have hkl : k < ls.length := by omega
    have hd : (segB ls).drop (8 + 4 * ls.length + sumL (ls.take k)) = ls[k] ++ (ls.drop (k + 1)).flatten := by
      have hB : segB ls = (segHead ls.length ++ segLens ls ++ (ls.take k).flatten) ++ (ls[k] ++ (ls.drop (k + 1)).flatten) := by
        unfold segB; conv => lhs; rw [flat_split ls k hkl]
        simp only [List.append_assoc]
      rw [hB, drop_app _ _ _ (by rw [List.length_append, List.length_append, segHead_len, segLens_len, sumL_flat])]
    have hle := sumL_le ls k
    obtain ⟨c1, c2, c3⟩ := next_at (segB ls) ls[k] _ (8 + 4 * ls.length + sumL (ls.take k)) ls[k].length true rfl (by rw [segB_len]; omega) hd rfl
    have hkI : k < (lensI ls).length := by rw [lensI_len]; exact hkl
    have hg : (lensI ls).getD k 0 = (ls[k].length : Int) := by simp [lensI, List.getD, hkl]
    simp only [tkIt]
    rw [ih]
    simp only
    rw [hg, c1, c2, c3, List.take_succ_eq_append_getElem hkl, ← List.take_succ_eq_append_getElem hkl, sumL_snoc ls k hkl, List.take_succ_eq_append_getElem hkl]
    simp only [Nat.add_assoc]
/-- What was written is read. -/
theorem seg_back (ls : List (List UInt8)) (hn : ls.length ≤ 255) (hs : sumL ls ≤ 1000) (m : Int) (hm : ((segWL ls).length : Int) ≤ m ∧ m ≤ 16777216) : segE (segWL ls) m = 0 ∧ segO (segWL ls) m = ls := by
  have hw : segWL ls = sealL (segB ls) := by unfold segWL; rw [if_neg (by omega)]
  obtain ⟨h1, h2, h3, h4, h5⟩ := seg_head ls hn
  have hN : segN (segB ls) = ls.length := by unfold segN; rw [h3]; rfl
  have hS : segS (segB ls) = (lensI ls, 8 + 4 * ls.length, 0) := by
    unfold segS; rw [h4, h5, hN, seg_sizes ls hs _ (Nat.le_refl _), List.take_of_length_le (by rw [lensI_len]; omega)]
  have hT : segT (segB ls) = (ls, 8 + 4 * ls.length + sumL ls, 0) := by
    unfold segT; rw [hS, hN]; simp only
    rw [seg_takes ls _ (Nat.le_refl _), List.take_of_length_le (Nat.le_refl _)]
  have hE : segE (segWL ls) m = 0 := by
    rw [segE_body (by omega) (by omega) (by rw [hw]; exact openEr_seal _), hw, openL_seal]
    rw [head_good (by rw [h1, h2]; simp) (by rw [h3]; omega) h5, hT]
    simp only
    unfold endEr; rw [segB_len, if_neg (by omega)]
  refine ⟨hE, ?_⟩
  unfold segO; rw [if_pos hE, hw, openL_seal, hT]
theorem segWL_long (ls : List (List UInt8)) (hn : ls.length ≤ 255) : 12 ≤ (segWL ls).length := by
  unfold segWL; rw [if_neg (by omega), sealL_len, segB_len]; omega
theorem parts_nil (w : World) : Parts w none 0 [] := ⟨[], rfl, rfl, Rd.nil, trivial⟩
theorem segW_0 : (segWL []).length = 12 := by unfold segWL; rw [if_neg (by simp), sealL_len, segB_len]; rfl
theorem segW_2 : (segWL [[97, 98], []]).length = 22 := by unfold segWL; rw [if_neg (by simp), sealL_len, segB_len]; rfl

set_option maxRecDepth 100000 in
set_option maxHeartbeats 8000000 in
theorem fixed33_any (w : World) : Calls Try.prog 38 #[] w fun e w' => e = .returned (.bool true) ∧ Below w.heap.size w w' := by
  go_enter Try.func38, Try.ntmps38
  go_wp2_with fail
  refine (bWrite33_any none 0 0 [] w (by decide) (by decide) (parts_nil w)).mono ?_
  rintro e w1 ⟨a1, n1, c1, rfl, hl1, hm1, hnc1, hc1, hr1, hb1⟩
  rw [show segWE [] = 0 from rfl]
  have hn1 : n1 = 12 := hl1.symm.trans segW_0
  subst hn1
  go_wp2_with fail
  refine (bRead33_any a1 12 c1 (segWL []) 100 w1 hl1 (by decide) hnc1 hc1 hr1 (by decide)).mono ?_
  unfold SegRPost
  rw [(seg_back [] (by decide) (by decide) 100 (by rw [segW_0]; omega)).1, (seg_back [] (by decide) (by decide) 100 (by rw [segW_0]; omega)).2]
  rintro e w2 ⟨a2, n2, c2, rfl, hm2, hp2, hb2⟩
  have hn2 : n2 = 0 := hp2.len.symm
  subst hn2
  have hB2 := hb1.trans (hb2.mono hb1.size)
  clear hl1 hr1 hnc1 hc1 hp2 hb1 hb2
  have kc := fun (w : World) (C : Array Value) (n c : Nat) => Lib.run_convert_bytes_const (P := Try.prog) w 26 5 C n c Try.underlying26 Try.underlying5
  go_wp2_with fail
  clear kc
  refine (bWrite33_any _ 2 2 [[97, 98], []] _ (by decide) (by decide) ?_).mono ?_
  · refine ⟨[.slice (some ⟨w2.heap.size, 0, none⟩) 2 2, .slice none 0 0], rfl, rfl, ?_, ?_⟩
    · have h := rd_new (E := fun v : Value => v) (w2.alloc (.cells #[Value.int IntKind.u8 97, Value.int IntKind.u8 98] 5 (2, 3))) #[Value.slice (some ⟨w2.heap.size, 0, none⟩) 2 2, Value.slice none 0 0] 26 (0, 0) [Value.slice (some ⟨w2.heap.size, 0, none⟩) 2 2, Value.slice none 0 0] rfl
      rw [heap_size_alloc] at h
      exact h
    · exact ⟨⟨_, _, _, rfl, rfl, (rd_new w2 _ _ _ _ rfl).below (below_alloc _ _)⟩, ⟨_, _, _, rfl, rfl, Rd.nil⟩, trivial⟩
  rintro e w3 ⟨a3, n3, c3, rfl, hl3, hm3, hnc3, hc3, hr3, hb3⟩
  rw [show segWE [[97, 98], []] = 0 from rfl]
  have hB3' := hB2.trans ((((below_alloc w2 (.cells #[Value.int IntKind.u8 97, Value.int IntKind.u8 98] 5 (2, 3))).trans ((below_alloc _ (.cells #[Value.slice (some ⟨w2.heap.size, 0, none⟩) 2 2, Value.slice none 0 0] 26)).mono (by simp))).trans (hb3.mono (by simp; omega))).mono hB2.size)
  have hn3 : n3 = 22 := hl3.symm.trans segW_2
  subst hn3
  clear hB2 hb3
  go_wp2_with fail
  refine (bRead33_any a3 22 c3 (segWL [[97, 98], []]) 100 w3 hl3 (by decide) hnc3 hc3 hr3 (by decide)).mono ?_
  unfold SegRPost
  rw [(seg_back [[97, 98], []] (by decide) (by decide) 100 (by rw [segW_2]; omega)).1, (seg_back [[97, 98], []] (by decide) (by decide) 100 (by rw [segW_2]; omega)).2]
  rintro e w4 ⟨a4, n4, c4, rfl, hm4, hp4, hb4⟩
  have hn4 : n4 = 2 := hp4.len.symm
  subst hn4
  have hB4 := hB3'.trans (hb4.mono hB3'.size)
  have hr4 := hr3.below hb4
  clear hB3' hb4 hr3
  go_wp2_with fail
  refine (bRead33_any a3 22 c3 (segWL [[97, 98], []]) 3 w4 hl3 (by decide) hnc3 hc3 hr4 (by decide)).mono ?_
  unfold SegRPost
  rw [segE_long (l := segWL [[97, 98], []]) (most := 3) (by omega) (by rw [segW_2]; omega)]
  rintro e w5 ⟨a5, n5, c5, rfl, hm5, hp5, hb5⟩
  have hp5' := hp4.below hb5
  have hB5 := hB4.trans (hb5.mono hB4.size)
  obtain ⟨b0, o0, a0, n0, c0, hq, hc0, hl0, hr0⟩ := hp5'.at (i := 0) (by decide)
  subst hq
  have hn0 : n0 = 2 := hl0.symm
  subst hn0
  rw [Nat.add_zero] at hc0
  have hcv := conv_str (P := Try.prog) Try.underlying26 Try.underlying5 Try.underlying9 c0 hl0 hr0
  rw [show strOf ([[97, 98], []] : List (List UInt8))[0] = (⟨#[97, 98]⟩ : ByteArray) from rfl] at hcv
  clear hp5 hp5' hp4 hb5 hB4 hr4 hl3
  go_wp2
  go_ret
  exact ⟨rfl, hB5⟩
end Go.Proofs.Ytnmdgmjheopolaa
