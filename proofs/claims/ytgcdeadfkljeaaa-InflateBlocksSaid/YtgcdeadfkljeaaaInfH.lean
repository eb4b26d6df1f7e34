/- inflate: the fixed codes. -/
import Derived.Test.YtgcdeadfkljeaaaInfF
import Derived.Test.YtgcdeadfkljeaaaGrowI
import Derived.Laws.ResultCell
namespace Go.Proofs.Ytgcdeadfkljeaaa
open Go.RowKit
set_option linter.unusedVariables false
set_option linter.unusedSimpArgs false

def fixA : List Int := List.replicate 144 8 ++ List.replicate 112 9 ++ List.replicate 24 7 ++ List.replicate 8 8
def fixB : List Int := List.replicate 32 5
/-- kindS, to be reckoned. -/
def kindD (l : List Int) : Int := if l.any (fun n => decide (n < 0) || decide (15 < n)) then 0 else if kC l = 0 then 1 else if kC l = 1 ∧ kO l = 1 then 2 else if kW l = 32768 then 3 else 0
theorem kindS_eq (l : List Int) : kindS l = kindD l := by
  unfold kindS kindD
  have h : (∃ n ∈ l, kBad n) ↔ (l.any (fun n => decide (n < 0) || decide (15 < n))) = true := by
    rw [List.any_eq_true]
    constructor
    · rintro ⟨n, h1, h2⟩; exact ⟨n, h1, by unfold kBad at h2; simpa using h2⟩
    · rintro ⟨n, h1, h2⟩; exact ⟨n, h1, by unfold kBad; simpa using h2⟩
  by_cases hb : ∃ n ∈ l, kBad n
  · rw [if_pos hb, if_pos (h.1 hb)]
  · rw [if_neg hb, if_neg (fun e => hb (h.2 e))]
set_option maxRecDepth 100000 in
theorem kind_fixA : kindS fixA ≠ 0 := by rw [kindS_eq]; decide +kernel
set_option maxRecDepth 100000 in
theorem kind_fixB : kindS fixB ≠ 0 := by rw [kindS_eq]; decide +kernel
def FixPost (w : World) (e : Ending) (w' : World) : Prop := ∃ gc gf, e = .returned (.tuple #[.pointer (some ⟨gc, 0, none⟩), .pointer (some ⟨gf, 0, none⟩)]) ∧ CodeOk w' gc fixA ∧ CodeOk w' gf fixB ∧ Below w.heap.size w w'
abbrev AT : TypeId := 129
abbrev BT : TypeId := 130
/-- The first i of a list, then noughts. -/
def partF (l : List Int) (i : Nat) (j : Nat) : Value := .int .i64 (if j < i then l.getD j 0 else 0)
theorem partF_step (l : List Int) (i k : Nat) (v : Int) (h : l.getD i 0 = v) : (if k = i then Value.int .i64 v else partF l i k) = partF l (i + 1) k := by
  unfold partF
  by_cases hk : k = i
  · subst hk; rw [if_pos rfl, if_pos (by omega), h]
  · rw [if_neg hk]
    by_cases h2 : k < i
    · rw [if_pos h2, if_pos (by omega)]
    · rw [if_neg h2, if_neg (by omega)]
theorem fixA_at (i : Nat) (v : Int) (h : (i < 144 ∧ v = 8) ∨ (144 ≤ i ∧ i < 256 ∧ v = 9) ∨ (256 ≤ i ∧ i < 280 ∧ v = 7) ∨ (280 ≤ i ∧ i < 288 ∧ v = 8)) : (List.replicate 144 (8 : Int) ++ List.replicate 112 9 ++ List.replicate 24 7 ++ List.replicate 8 8).getD i 0 = v := by
  rw [List.getD_eq_getElem?_getD]
  simp only [List.getElem?_append, List.length_append, List.length_replicate, List.getElem?_replicate]
  rcases h with ⟨h1, rfl⟩ | ⟨h1, h2, rfl⟩ | ⟨h1, h2, rfl⟩ | ⟨h1, h2, rfl⟩
  all_goals (repeat' split)
  all_goals first | rfl | omega
theorem arr_all {w : World} {g m : Nat} {T : TypeId} {l : List Int} (h : Arr w g T m (partF l m)) (hl : l.length = m) : Rd w nE (some ⟨g, 0, none⟩) l := by
  refine .inr ⟨g, 0, rfl, fun j x hj => ?_⟩
  have hjl := (List.getElem?_eq_some_iff.1 hj).1
  have := h.cell (k := j) (by omega)
  rw [Nat.zero_add, this]
  unfold partF
  rw [if_pos (by omega), List.getD_eq_getElem?_getD, hj]; rfl
theorem zeroA : Try.zeroCells129 = ((List.range 288).map (partF fixA 0)).toArray := by kernel_rfl
set_option maxRecDepth 100000 in
set_option maxHeartbeats 16000000 in
theorem iFixed_any (w : World) : Calls Try.prog 59 #[] w (FixPost w) := by
  go_enter Try.func59, Try.ntmps59
  go_wp2_with fail
  obtain ⟨g2, hg2⟩ : ∃ g, g = w.heap.size := ⟨_, rfl⟩
  obtain ⟨g3, hg3⟩ : ∃ g, g = w.heap.size + 1 := ⟨_, rfl⟩
  rw [zeroA]
  have HW0 : Hid (Arr ((w.alloc (.cells ((List.range 288).map (partF fixA 0)).toArray AT)).alloc (.cells ((List.range 32).map (partF fixB 0)).toArray BT)) g2 AT 288 (partF fixA 0) ∧ Arr ((w.alloc (.cells ((List.range 288).map (partF fixA 0)).toArray AT)).alloc (.cells ((List.range 32).map (partF fixB 0)).toArray BT)) g3 BT 32 (partF fixB 0) ∧ Below w.heap.size w ((w.alloc (.cells ((List.range 288).map (partF fixA 0)).toArray AT)).alloc (.cells ((List.range 32).map (partF fixB 0)).toArray BT))) := Lib.hid (by
    refine ⟨?_, ?_, (below_alloc _ _).alloc (below_alloc _ _).size _⟩
    · rw [hg2]; exact (Blk.new _ _ _).below (below_alloc _ _)
    · have := Blk.new (w.alloc (.cells ((List.range 288).map (partF fixA 0)).toArray AT)) BT ((List.range 32).map (partF fixB 0)).toArray
      rw [hg3]
      rwa [show (w.alloc (.cells ((List.range 288).map (partF fixA 0)).toArray AT)).heap.size = w.heap.size + 1 by simp] at this)
  have HG : Hid (w.heap.size ≤ g2 ∧ w.heap.size ≤ g3 ∧ g2 ≠ g3) := Lib.hid (by omega)
  rw [← hg3, ← hg2]
  clear hg2 hg3
  go_loopw [10] (fun x10 wr => ∃ i : Nat, i ≤ 288 ∧ x10 = .int .i64 (i : Int) ∧ Hid (Arr wr g2 AT 288 (partF fixA i) ∧ Arr wr g3 BT 32 (partF fixB 0) ∧ Below w.heap.size w wr)) (fun x10 _ => 288 - (intOf x10).toNat)
  case atStart => exact ⟨0, by omega, rfl, HW0⟩
  case round =>
    clear HW0
    obtain ⟨i, hi, rfl, hW⟩ := hrel
    by_cases hin : i < 288
    · have kc := hW.out.1.cell (k := i) hin
      have kf := hW.out.1.frozen i
      have b1 : (i : Int) < 288 := by omega
      by_cases h1 : i < 144
      · have c1 : (i : Int) < 144 := by omega
        have HW2 : Hid (Arr (wr.setCell ⟨g2, i, none⟩ (.int .i64 8)) g2 AT 288 (partF fixA (i + 1)) ∧ Arr (wr.setCell ⟨g2, i, none⟩ (.int .i64 8)) g3 BT 32 (partF fixB 0) ∧ Below w.heap.size w (wr.setCell ⟨g2, i, none⟩ (.int .i64 8))) := Lib.hid (by
          refine ⟨(hW.out.1.set i (.int .i64 8)).congr (fun k hk => partF_step fixA i k 8 (by rw [show fixA = List.replicate 144 8 ++ List.replicate 112 9 ++ List.replicate 24 7 ++ List.replicate 8 8 from rfl]; exact fixA_at i 8 (by omega))), hW.out.2.1.other (by have := HG.out; simp; omega) _, hW.out.2.2.setCell HG.out.1 _⟩)
        go_wp2_with fail
        go_roundw
        case rel => exact ⟨i + 1, by omega, by go_num, HW2⟩
        case measure => simp [intOf] <;> omega
      · have c1 : ¬ (i : Int) < 144 := by omega
        by_cases h2 : i < 256
        · have c2 : (i : Int) < 256 := by omega
          have HW2 : Hid (Arr (wr.setCell ⟨g2, i, none⟩ (.int .i64 9)) g2 AT 288 (partF fixA (i + 1)) ∧ Arr (wr.setCell ⟨g2, i, none⟩ (.int .i64 9)) g3 BT 32 (partF fixB 0) ∧ Below w.heap.size w (wr.setCell ⟨g2, i, none⟩ (.int .i64 9))) := Lib.hid (by
            refine ⟨(hW.out.1.set i (.int .i64 9)).congr (fun k hk => partF_step fixA i k 9 (by rw [show fixA = List.replicate 144 8 ++ List.replicate 112 9 ++ List.replicate 24 7 ++ List.replicate 8 8 from rfl]; exact fixA_at i 9 (by omega))), hW.out.2.1.other (by have := HG.out; simp; omega) _, hW.out.2.2.setCell HG.out.1 _⟩)
          go_wp2_with fail
          go_roundw
          case rel => exact ⟨i + 1, by omega, by go_num, HW2⟩
          case measure => simp [intOf] <;> omega
        · have c2 : ¬ (i : Int) < 256 := by omega
          by_cases h3 : i < 280
          · have c3 : (i : Int) < 280 := by omega
            have HW2 : Hid (Arr (wr.setCell ⟨g2, i, none⟩ (.int .i64 7)) g2 AT 288 (partF fixA (i + 1)) ∧ Arr (wr.setCell ⟨g2, i, none⟩ (.int .i64 7)) g3 BT 32 (partF fixB 0) ∧ Below w.heap.size w (wr.setCell ⟨g2, i, none⟩ (.int .i64 7))) := Lib.hid (by
              refine ⟨(hW.out.1.set i (.int .i64 7)).congr (fun k hk => partF_step fixA i k 7 (by rw [show fixA = List.replicate 144 8 ++ List.replicate 112 9 ++ List.replicate 24 7 ++ List.replicate 8 8 from rfl]; exact fixA_at i 7 (by omega))), hW.out.2.1.other (by have := HG.out; simp; omega) _, hW.out.2.2.setCell HG.out.1 _⟩)
            go_wp2_with fail
            go_roundw
            case rel => exact ⟨i + 1, by omega, by go_num, HW2⟩
            case measure => simp [intOf] <;> omega
          · have c3 : ¬ (i : Int) < 280 := by omega
            have HW2 : Hid (Arr (wr.setCell ⟨g2, i, none⟩ (.int .i64 8)) g2 AT 288 (partF fixA (i + 1)) ∧ Arr (wr.setCell ⟨g2, i, none⟩ (.int .i64 8)) g3 BT 32 (partF fixB 0) ∧ Below w.heap.size w (wr.setCell ⟨g2, i, none⟩ (.int .i64 8))) := Lib.hid (by
              refine ⟨(hW.out.1.set i (.int .i64 8)).congr (fun k hk => partF_step fixA i k 8 (by rw [show fixA = List.replicate 144 8 ++ List.replicate 112 9 ++ List.replicate 24 7 ++ List.replicate 8 8 from rfl]; exact fixA_at i 8 (by omega))), hW.out.2.1.other (by have := HG.out; simp; omega) _, hW.out.2.2.setCell HG.out.1 _⟩)
            go_wp2_with fail
            go_roundw
            case rel => exact ⟨i + 1, by omega, by go_num, HW2⟩
            case measure => simp [intOf] <;> omega
    · have hi8 : i = 288 := by omega
      subst hi8
      go_wp2_with fail
      go_loopw [31] (fun x31 wr => ∃ i : Nat, i ≤ 32 ∧ x31 = .int .i64 (i : Int) ∧ Hid (Arr wr g2 AT 288 (partF fixA 288) ∧ Arr wr g3 BT 32 (partF fixB i) ∧ Below w.heap.size w wr)) (fun x31 _ => 32 - (intOf x31).toNat)
      case atStart => exact ⟨0, by omega, rfl, hW⟩
      case round =>
        clear hW
        obtain ⟨i, hi, rfl, hW⟩ := hrel
        by_cases hin : i < 32
        · have kc := hW.out.2.1.cell (k := i) hin
          have kf := hW.out.2.1.frozen i
          have b1 : (i : Int) < 32 := by omega
          have HW2 : Hid (Arr (wr.setCell ⟨g3, i, none⟩ (.int .i64 5)) g2 AT 288 (partF fixA 288) ∧ Arr (wr.setCell ⟨g3, i, none⟩ (.int .i64 5)) g3 BT 32 (partF fixB (i + 1)) ∧ Below w.heap.size w (wr.setCell ⟨g3, i, none⟩ (.int .i64 5))) := Lib.hid (by
            refine ⟨hW.out.1.other (by have := HG.out; simp; omega) _, (hW.out.2.1.set i (.int .i64 5)).congr (fun k hk => partF_step fixB i k 5 (by unfold fixB; rw [List.getD_eq_getElem?_getD, List.getElem?_replicate, if_pos hin]; rfl)), hW.out.2.2.setCell HG.out.2.1 _⟩)
          go_wp2_with fail
          go_roundw
          case rel => exact ⟨i + 1, by omega, by go_num, HW2⟩
          case measure => simp [intOf] <;> omega
        · have hi8 : i = 32 := by omega
          subst hi8
          go_wp2_with fail
          refine (new_any _ 288 288 fixA wr rfl (by decide) (arr_all hW.out.1 rfl)).mono ?_
          rintro e w3 hp3
          obtain ⟨hb3, ⟨hk, -⟩ | ⟨-, gc, hgc, rfl, hc3⟩⟩ := hp3
          · exact absurd hk kind_fixA
          have H3 : Hid (CodeOk w3 gc fixA ∧ Arr w3 g3 BT 32 (partF fixB 32) ∧ Below w.heap.size w w3) := Lib.hid ⟨hc3, hW.out.2.1.below hb3, hW.out.2.2.trans (hb3.mono hW.out.2.2.size)⟩
          clear hb3 hgc hc3 hW
          go_wp2_with fail
          refine (new_any _ 32 32 fixB w3 rfl (by decide) (arr_all H3.out.2.1 rfl)).mono ?_
          rintro e w4 hp4
          obtain ⟨hb4, ⟨hk, -⟩ | ⟨-, gf, hgf, rfl, hc4⟩⟩ := hp4
          · exact absurd hk kind_fixB
          have H4 : Hid (CodeOk w4 gc fixA ∧ CodeOk w4 gf fixB ∧ Below w.heap.size w w4) := Lib.hid ⟨H3.out.1.keepT (KeepT.below hb4), hc4, H3.out.2.2.trans (hb4.mono H3.out.2.2.size)⟩
          clear hb4 hgf hc4 H3
          go_wp2_with fail
          go_ret2
          exact ⟨gc, gf, rfl, H4.out⟩
end Go.Proofs.Ytgcdeadfkljeaaa
/- inflate.state: Order, dynamic. -/
namespace Go.Proofs.Ytgcdeadfkljeaaa
open Go.RowKit
set_option linter.unusedVariables false
set_option linter.unusedSimpArgs false

abbrev T19 : TypeId := 40
def orderL : List Int := [16, 17, 18, 0, 8, 7, 9, 6, 10, 5, 11, 4, 12, 3, 13, 2, 14, 1, 15]
def ordC : Array Value := #[.int .i64 16, .int .i64 17, .int .i64 18, .int .i64 0, .int .i64 8, .int .i64 7, .int .i64 9, .int .i64 6, .int .i64 10, .int .i64 5, .int .i64 11, .int .i64 4, .int .i64 12, .int .i64 3, .int .i64 13, .int .i64 2, .int .i64 14, .int .i64 1, .int .i64 15]
theorem size_19 : (Try.prog.info? T19).map (·.size) = some 19 := by kernel_rfl
theorem ord_ones : ∀ u ∈ ordC.toList, u.oneCell' = true := by
  intro u hu
  simp only [ordC, List.mem_cons, List.not_mem_nil, or_false] at hu
  rcases hu with rfl | rfl | rfl | rfl | rfl | rfl | rfl | rfl | rfl | rfl | rfl | rfl | rfl | rfl | rfl | rfl | rfl | rfl | rfl <;> rfl
/-- The lengths of the lengths' signs, of so many as are told. -/
def hdrK (L : List UInt8) : Nat → IS → List Int × IS
  | 0, s => (List.replicate 19 0, s)
  | k+1, s => ((hdrK L k s).1.set (orderL.getD k 0).toNat (((bitsK L 3 (hdrK L k s).2).1 : Nat) : Int), (bitsK L 3 (hdrK L k s).2).2)
theorem hdrK_len (L : List UInt8) (s : IS) : ∀ k, (hdrK L k s).1.length = 19
  | 0 => by simp [hdrK]
  | k+1 => by rw [hdrK, List.length_set]; exact hdrK_len L s k
/-- A block's own codes. -/
noncomputable def dynK (L : List UInt8) (s : IS) : (List Int × List Int) × IS :=
  let a := bitsK L 5 s
  let b := bitsK L 5 a.2
  let c := bitsK L 4 b.2
  let s1 := if c.2.e = 0 ∧ (a.1 + 257 > 286 ∨ b.1 + 1 > 30) then failS 4 c.2 else c.2
  if s1.e ≠ 0 then (([], []), s1) else
  let h := hdrK L (c.1 + 4) s1
  if h.2.e ≠ 0 then (([], []), h.2) else
  let s2 := codeK h.1 h.2
  if s2.e ≠ 0 then (([], []), s2) else
  let r := lensK L h.1 (a.1 + 257 + (b.1 + 1)) (a.1 + 257 + (b.1 + 1) + 1) [] s2
  let s3 := if r.2.e = 0 ∧ r.1.getD 256 0 = 0 then failS 12 r.2 else r.2
  if s3.e ≠ 0 then (([], []), s3) else
  ((r.1.take (a.1 + 257), r.1.drop (a.1 + 257)), codeK (r.1.drop (a.1 + 257)) (codeK (r.1.take (a.1 + 257)) s3))
/-- The lengths have their number, where there is no error. -/
theorem lensK_len {L : List UInt8} {l : List Int} {n : Nat} : ∀ (k : Nat) (acc : List Int) (s : IS), n - acc.length < k → acc.length ≤ n → (lensK L l n k acc s).2.e = 0 → (lensK L l n k acc s).1.length = n
  | 0, acc, s, hf, _, _ => by omega
  | k+1, acc, s, hf, hle, h => by
    unfold lensK at h ⊢
    by_cases h1 : acc.length < n
    · rw [if_pos h1] at h ⊢
      by_cases h2 : (lenStep L l n acc s).2.e = 0
      · rw [if_neg (by simpa using h2)] at h ⊢
        have := lenStep_ok h2
        exact lensK_len k _ _ (by simp; omega) (by simp; omega) h
      · rw [if_pos h2] at h
        exact absurd h h2
    · rw [if_neg h1]
      show acc.length = n
      omega
def DynPost (A B gs gr : Nat) (L : List UInt8) (most : Int) (w : World) (r : (List Int × List Int) × IS) (e : Ending) (w' : World) : Prop :=
  ISt w' A B gs gr L most r.2 ∧ Chg A w w' ∧ ∃ v1 v2, e = .returned (.tuple #[.pointer v1, .pointer v2]) ∧ (r.2.e = 0 → ∃ gc gf, v1 = some ⟨gc, 0, none⟩ ∧ v2 = some ⟨gf, 0, none⟩ ∧ CodeOk w' gc r.1.1 ∧ CodeOk w' gf r.1.2)
set_option maxRecDepth 100000 in
set_option maxHeartbeats 8000000 in
theorem iOrder_any (w : World) : Calls Try.prog 19 #[] w fun e w' => e = .returned (.agg ordC) ∧ Below w.heap.size w w' := by
  have HZ : Hid (Blk (w.alloc (.cells #[.int .i64 0, .int .i64 0, .int .i64 0, .int .i64 0, .int .i64 0, .int .i64 0, .int .i64 0, .int .i64 0, .int .i64 0, .int .i64 0, .int .i64 0, .int .i64 0, .int .i64 0, .int .i64 0, .int .i64 0, .int .i64 0, .int .i64 0, .int .i64 0, .int .i64 0] T19)) w.heap.size T19 #[.int .i64 0, .int .i64 0, .int .i64 0, .int .i64 0, .int .i64 0, .int .i64 0, .int .i64 0, .int .i64 0, .int .i64 0, .int .i64 0, .int .i64 0, .int .i64 0, .int .i64 0, .int .i64 0, .int .i64 0, .int .i64 0, .int .i64 0, .int .i64 0, .int .i64 0]) := Lib.hid (Blk.new _ _ _)
  go_enter Try.func19, Try.ntmps19
  go_wp2_with (first | (refine wpList_storeBlk (cs' := ordC) rfl _ _ rfl rfl rfl HZ.out rfl size_19 ord_ones ?_; intro d0 dg))
  refine bodyPost_ret (results_cell_row (p := 0) rfl _ _ w.heap.size _ _ _ _ rfl d0 Try.underlying40 rfl size_19) rfl ⟨rfl, ?_⟩
  exact (below_alloc _ _).grown dg (below_alloc _ _).size (fun k hk => by have := Option.some.inj hk; omega)
end Go.Proofs.Ytgcdeadfkljeaaa
