/- ops.forms, ops.Form. -/
import Derived.Test.YtgcdeadfkljeaaaBuf
import Derived.Test.YtgcdeadfkljeaaaSl
namespace Go.Proofs.Ytgcdeadfkljeaaa
open Go.RowKit
set_option linter.unusedVariables false
set_option linter.unusedSimpArgs false

abbrev FA : TypeId := 85
abbrev FE : TypeId := 120
/-- From where, to where, which form. -/
def tbL : List (Nat × Nat × Nat) := [(16, 16, 98), (17, 17, 115), (18, 19, 99), (20, 20, 100), (21, 25, 118), (54, 58, 118), (132, 132, 105), (153, 168, 106), (169, 169, 118), (170, 170, 116), (171, 171, 108), (178, 184, 112), (185, 185, 102), (186, 186, 0), (187, 187, 112), (188, 188, 97), (189, 189, 112), (192, 193, 112), (196, 196, 0), (197, 197, 109), (198, 199, 106), (200, 201, 119)]
def tbC : Array Value := #[.int .i64 16, .int .i64 16, .int .u8 98, .int .i64 17, .int .i64 17, .int .u8 115, .int .i64 18, .int .i64 19, .int .u8 99, .int .i64 20, .int .i64 20, .int .u8 100, .int .i64 21, .int .i64 25, .int .u8 118, .int .i64 54, .int .i64 58, .int .u8 118, .int .i64 132, .int .i64 132, .int .u8 105, .int .i64 153, .int .i64 168, .int .u8 106, .int .i64 169, .int .i64 169, .int .u8 118, .int .i64 170, .int .i64 170, .int .u8 116, .int .i64 171, .int .i64 171, .int .u8 108, .int .i64 178, .int .i64 184, .int .u8 112, .int .i64 185, .int .i64 185, .int .u8 102, .int .i64 186, .int .i64 186, .int .u8 0, .int .i64 187, .int .i64 187, .int .u8 112, .int .i64 188, .int .i64 188, .int .u8 97, .int .i64 189, .int .i64 189, .int .u8 112, .int .i64 192, .int .i64 193, .int .u8 112, .int .i64 196, .int .i64 196, .int .u8 0, .int .i64 197, .int .i64 197, .int .u8 109, .int .i64 198, .int .i64 199, .int .u8 106, .int .i64 200, .int .i64 201, .int .u8 119]
theorem tb_at : ∀ j, (h : j < 22) → tbC[j * 3]? = some (.int .i64 (((tbL.getD j (0, 0, 0)).1 : Nat) : Int)) ∧ tbC[j * 3 + 1]? = some (.int .i64 (((tbL.getD j (0, 0, 0)).2.1 : Nat) : Int)) ∧ tbC[j * 3 + 2]? = some (.int .u8 (((tbL.getD j (0, 0, 0)).2.2 : Nat) : Int)) := by
  intro j hj
  match j, hj with
  | 0, _ => exact ⟨rfl, rfl, rfl⟩
  | 1, _ => exact ⟨rfl, rfl, rfl⟩
  | 2, _ => exact ⟨rfl, rfl, rfl⟩
  | 3, _ => exact ⟨rfl, rfl, rfl⟩
  | 4, _ => exact ⟨rfl, rfl, rfl⟩
  | 5, _ => exact ⟨rfl, rfl, rfl⟩
  | 6, _ => exact ⟨rfl, rfl, rfl⟩
  | 7, _ => exact ⟨rfl, rfl, rfl⟩
  | 8, _ => exact ⟨rfl, rfl, rfl⟩
  | 9, _ => exact ⟨rfl, rfl, rfl⟩
  | 10, _ => exact ⟨rfl, rfl, rfl⟩
  | 11, _ => exact ⟨rfl, rfl, rfl⟩
  | 12, _ => exact ⟨rfl, rfl, rfl⟩
  | 13, _ => exact ⟨rfl, rfl, rfl⟩
  | 14, _ => exact ⟨rfl, rfl, rfl⟩
  | 15, _ => exact ⟨rfl, rfl, rfl⟩
  | 16, _ => exact ⟨rfl, rfl, rfl⟩
  | 17, _ => exact ⟨rfl, rfl, rfl⟩
  | 18, _ => exact ⟨rfl, rfl, rfl⟩
  | 19, _ => exact ⟨rfl, rfl, rfl⟩
  | 20, _ => exact ⟨rfl, rfl, rfl⟩
  | 21, _ => exact ⟨rfl, rfl, rfl⟩
  | n + 22, h => exact absurd h (by omega)
theorem tb_rng : ∀ j, j < 22 → (tbL.getD j (0, 0, 0)).1 ≤ (tbL.getD j (0, 0, 0)).2.1 ∧ (tbL.getD j (0, 0, 0)).2.1 < 202 ∧ (tbL.getD j (0, 0, 0)).2.2 < 256 := by decide
def stpF (f : Nat → Nat) (e : Nat × Nat × Nat) (lim : Nat) : Nat → Nat := fun k => if e.1 ≤ k ∧ k < lim then e.2.2 else f k
def fmF (j : Nat) : Nat → Nat := (tbL.take j).foldl (fun f e => stpF f e (e.2.1 + 1)) (fun _ => 45)
theorem fmF_succ (j : Nat) (hj : j < 22) : fmF (j + 1) = stpF (fmF j) (tbL.getD j (0, 0, 0)) ((tbL.getD j (0, 0, 0)).2.1 + 1) := by
  have hl : j < tbL.length := hj
  unfold fmF
  rw [List.take_succ_eq_append_getElem hl, List.foldl_append, List.getD_eq_getElem?_getD, List.getElem?_eq_getElem hl]
  rfl
/-- An opcode's form, of 0 to 201. -/
def formF (k : Nat) : Nat := fmF 22 k
def fmV (f : Nat → Nat) (k : Nat) : Value := .int .u8 ((f k : Nat) : Int)
def fm0 (i : Nat) (k : Nat) : Nat := if k < i then 45 else 0
theorem fm0_step (i k : Nat) : (if k = i then Value.int .u8 45 else fmV (fm0 i) k) = fmV (fm0 (i + 1)) k := by
  unfold fmV fm0
  by_cases hk : k = i
  · subst hk; rw [if_pos rfl, if_pos (by omega)]; rfl
  · rw [if_neg hk]
    by_cases h2 : k < i
    · rw [if_pos h2, if_pos (by omega)]
    · rw [if_neg h2, if_neg (by omega)]
theorem stpF_step (f : Nat → Nat) (e : Nat × Nat × Nat) (i k : Nat) (hi : e.1 ≤ i) : (if k = i then Value.int .u8 ((e.2.2 : Nat) : Int) else fmV (stpF f e i) k) = fmV (stpF f e (i + 1)) k := by
  unfold fmV stpF
  by_cases hk : k = i
  · subst hk; rw [if_pos rfl, if_pos ⟨hi, by omega⟩]
  · rw [if_neg hk]
    by_cases h2 : e.1 ≤ k ∧ k < i
    · rw [if_pos h2, if_pos (by omega)]
    · rw [if_neg h2, if_neg (by omega)]
theorem zero_FA : Try.zeroCells85 = ((List.range 202).map (fmV (fm0 0))).toArray := by kernel_rfl
def formC : Array Value := ((List.range 202).map (fmV formF)).toArray
theorem size_FA : (Try.prog.info? FA).map (·.size) = some 202 := by kernel_rfl
theorem zero_size : ((List.range 202).map (fmV (fm0 0))).toArray.size = 202 := by simp
theorem formC_size : formC.size = 202 := by simp [formC]
theorem formC_one : ∀ u ∈ formC.toList, u.oneCell' = true := by
  intro u hu
  simp only [formC, List.mem_map] at hu
  obtain ⟨k, -, rfl⟩ := hu
  rfl
theorem formF_lt (k : Nat) : formF k < 256 := by
  have : ∀ (l : List (Nat × Nat × Nat)) (f : Nat → Nat), (∀ e ∈ l, e.2.2 < 256) → (∀ k, f k < 256) → ∀ k, (l.foldl (fun f e => stpF f e (e.2.1 + 1)) f) k < 256 := by
    intro l
    induction l with
    | nil => intro f _ hf k; exact hf k
    | cons e l ih =>
      intro f hl hf k
      refine ih _ (fun x hx => hl x (List.mem_cons_of_mem _ hx)) (fun k => ?_) k
      show (if e.1 ≤ k ∧ k < e.2.1 + 1 then e.2.2 else f k) < 256
      split
      · exact hl e List.mem_cons_self
      · exact hf k
  exact this _ _ (by decide) (fun _ => by decide) k
set_option maxRecDepth 100000 in
set_option maxHeartbeats 16000000 in
theorem forms_any (w : World) : Calls Try.prog 43 #[] w fun e w' => e = .returned (.agg formC) ∧ Below w.heap.size w w' := by
  go_enter Try.func43, Try.ntmps43
  go_wp2_with fail
  obtain ⟨g0, hg0⟩ : ∃ g, g = w.heap.size := ⟨_, rfl⟩
  obtain ⟨g1, hg1⟩ : ∃ g, g = w.heap.size + 1 := ⟨_, rfl⟩
  rw [zero_FA]
  have HW0 : Hid (Arr ((w.alloc (.cells ((List.range 202).map (fmV (fm0 0))).toArray FA)).alloc (.cells ((List.range 202).map (fmV (fm0 0))).toArray FA)) g0 FA 202 (fmV (fm0 0)) ∧ Arr ((w.alloc (.cells ((List.range 202).map (fmV (fm0 0))).toArray FA)).alloc (.cells ((List.range 202).map (fmV (fm0 0))).toArray FA)) g1 FA 202 (fmV (fm0 0)) ∧ Below w.heap.size w ((w.alloc (.cells ((List.range 202).map (fmV (fm0 0))).toArray FA)).alloc (.cells ((List.range 202).map (fmV (fm0 0))).toArray FA))) := Lib.hid (by
    refine ⟨?_, ?_, (below_alloc _ _).alloc (below_alloc _ _).size _⟩
    · rw [hg0]; exact (Blk.new _ _ _).below (below_alloc _ _)
    · have := Blk.new (w.alloc (.cells ((List.range 202).map (fmV (fm0 0))).toArray FA)) FA ((List.range 202).map (fmV (fm0 0))).toArray
      rw [hg1]
      rwa [show (w.alloc (.cells ((List.range 202).map (fmV (fm0 0))).toArray FA)).heap.size = w.heap.size + 1 by simp] at this)
  have HG : Hid (w.heap.size ≤ g0 ∧ w.heap.size ≤ g1 ∧ g0 ≠ g1) := Lib.hid (by omega)
  rw [← hg1, ← hg0]
  clear hg0 hg1
  go_loopw [6] (fun x6 wr => ∃ i : Nat, i ≤ 202 ∧ x6 = .int .i64 (i : Int) ∧ Hid (Arr wr g0 FA 202 (fmV (fm0 0)) ∧ Arr wr g1 FA 202 (fmV (fm0 i)) ∧ Below w.heap.size w wr)) (fun x6 _ => 202 - (intOf x6).toNat)
  case atStart => exact ⟨0, by omega, rfl, HW0⟩
  case round =>
    clear HW0
    obtain ⟨i, hi, rfl, hW⟩ := hrel
    by_cases hin : i < 202
    · have kc := hW.out.2.1.cell (k := i) hin
      have kf := hW.out.2.1.frozen i
      have b1 : (i : Int) < 202 := by omega
      have HW2 : Hid (Arr (wr.setCell ⟨g1, i, none⟩ (.int .u8 45)) g0 FA 202 (fmV (fm0 0)) ∧ Arr (wr.setCell ⟨g1, i, none⟩ (.int .u8 45)) g1 FA 202 (fmV (fm0 (i + 1))) ∧ Below w.heap.size w (wr.setCell ⟨g1, i, none⟩ (.int .u8 45))) := Lib.hid ⟨hW.out.1.other (by have := HG.out; simp; omega) _, (hW.out.2.1.set i (.int .u8 45)).congr (fun k hk => fm0_step i k), hW.out.2.2.setCell HG.out.2.1 _⟩
      go_wp2_with fail
      go_roundw
      case rel => exact ⟨i + 1, by omega, by go_num, HW2⟩
      case measure => simp [intOf] <;> omega
    · have HI : Hid (i = 202) := Lib.hid (by omega)
      have bi : ((i : Int) < 202) = False := by simp; omega
      obtain ⟨g2, hg2⟩ : ∃ g, g = wr.heap.size := ⟨_, rfl⟩
      have HG2 : Hid (w.heap.size ≤ g2 ∧ g2 ≠ g0 ∧ g2 ≠ g1) := Lib.hid (by have := hW.out.1.lt; have := hW.out.2.1.lt; have := hW.out.2.2.size; omega)
      have HW1 : Hid (Arr (wr.alloc (.cells tbC FE)) g0 FA 202 (fmV (fm0 0)) ∧ Arr (wr.alloc (.cells tbC FE)) g1 FA 202 (fmV (fmF 0)) ∧ Blk (wr.alloc (.cells tbC FE)) g2 FE tbC ∧ Below w.heap.size w (wr.alloc (.cells tbC FE))) := Lib.hid (by
        refine ⟨hW.out.1.below (below_alloc _ _), (hW.out.2.1.below (below_alloc _ _)).congr (fun k hk => ?_), ?_, hW.out.2.2.alloc hW.out.2.2.size _⟩
        · unfold fmV fm0 fmF; rw [HI.out, if_pos hk]; rfl
        · rw [hg2]; exact Blk.new _ _ _)
      go_wp2
      rw [← hg2]
      clear hg2 hW
      obtain ⟨wa, hwa⟩ : ∃ wa, wa = wr.alloc (.cells tbC FE) := ⟨_, rfl⟩
      rw [← hwa] at HW1
      unfold tbC at hwa
      rw [← hwa]
      clear hwa
      go_loopw [4, 5, 36] (fun x4 x5 x36 wr => ∃ j : Nat, j ≤ 22 ∧ x36 = .int .i64 (j : Int) ∧ Hid (Arr wr g0 FA 202 (fmV (fm0 0)) ∧ Arr wr g1 FA 202 (fmV (fmF j)) ∧ Blk wr g2 FE tbC ∧ Below w.heap.size w wr)) (fun _ _ x36 _ => 22 - (intOf x36).toNat)
      case atStart => exact ⟨0, by omega, rfl, HW1⟩
      case round =>
        clear HW1
        obtain ⟨j, hj, rfl, hW⟩ := hrel
        by_cases hj22 : j < 22
        · obtain ⟨e0, e1, e2⟩ := tb_at j hj22
          obtain ⟨r0, r1, r2⟩ := tb_rng j hj22
          have HFS := Lib.hid (fmF_succ j hj22)
          have t0 := hW.out.2.2.1.cell e0
          have t1 := hW.out.2.2.1.cell e1
          have t2 := hW.out.2.2.1.cell e2
          generalize tbL.getD j (0, 0, 0) = en at *
          obtain ⟨fr, to, fm⟩ := en
          simp only at r0 r1 r2 t0 t1 t2
          clear e0 e1 e2
          obtain ⟨g4, hg4⟩ : ∃ g, g = wr.heap.size := ⟨_, rfl⟩
          have HG4 : Hid (w.heap.size ≤ g4 ∧ g4 ≠ g0 ∧ g4 ≠ g1 ∧ g4 ≠ g2) := Lib.hid (by have := hW.out.1.lt; have := hW.out.2.1.lt; have := hW.out.2.2.1.lt; have := hW.out.2.2.2.size; omega)
          have HW4 : Hid (Arr (wr.alloc (.cells #[.int .i64 (fr : Int), .int .i64 (to : Int), .int .u8 (fm : Int)] FE)) g0 FA 202 (fmV (fm0 0)) ∧ Arr (wr.alloc (.cells #[.int .i64 (fr : Int), .int .i64 (to : Int), .int .u8 (fm : Int)] FE)) g1 FA 202 (fmV (stpF (fmF j) (fr, to, fm) fr)) ∧ Blk (wr.alloc (.cells #[.int .i64 (fr : Int), .int .i64 (to : Int), .int .u8 (fm : Int)] FE)) g2 FE tbC ∧ Blk (wr.alloc (.cells #[.int .i64 (fr : Int), .int .i64 (to : Int), .int .u8 (fm : Int)] FE)) g4 FE #[.int .i64 (fr : Int), .int .i64 (to : Int), .int .u8 (fm : Int)] ∧ Below w.heap.size w (wr.alloc (.cells #[.int .i64 (fr : Int), .int .i64 (to : Int), .int .u8 (fm : Int)] FE))) := Lib.hid (by
            refine ⟨hW.out.1.below (below_alloc _ _), (hW.out.2.1.below (below_alloc _ _)).congr (fun k hk => ?_), hW.out.2.2.1.below (below_alloc _ _), ?_, hW.out.2.2.2.alloc hW.out.2.2.2.size _⟩
            · unfold fmV stpF; rw [if_neg (by simp only; omega)]
            · rw [hg4]; exact Blk.new _ _ _)
          go_wp2
          rw [← hg4]
          obtain ⟨wb, hwb⟩ : ∃ wb, wb = wr.alloc (.cells #[.int .i64 (fr : Int), .int .i64 (to : Int), .int .u8 (fm : Int)] FE) := ⟨_, rfl⟩
          rw [← hwb] at HW4 ⊢
          clear hwb hg4 hW t0 t1 t2
          go_loopw [5] (fun x5 wr => ∃ op : Nat, fr ≤ op ∧ op ≤ to + 1 ∧ x5 = .int .i64 (op : Int) ∧ Hid (Arr wr g0 FA 202 (fmV (fm0 0)) ∧ Arr wr g1 FA 202 (fmV (stpF (fmF j) (fr, to, fm) op)) ∧ Blk wr g2 FE tbC ∧ Blk wr g4 FE #[.int .i64 (fr : Int), .int .i64 (to : Int), .int .u8 (fm : Int)] ∧ Below w.heap.size w wr)) (fun x5 _ => to + 1 - (intOf x5).toNat)
          case atStart => exact ⟨fr, by omega, by omega, rfl, HW4⟩
          case round =>
            clear HW4
            obtain ⟨op, hop1, hop2, rfl, hW⟩ := hrel
            have q1 := hW.out.2.2.2.1.cell (i := 1) rfl
            have q2 := hW.out.2.2.2.1.cell (i := 2) rfl
            by_cases hot : op < to + 1
            · have b0 : (op : Int) ≤ (to : Int) := by omega
              have b1 : (op : Int) < 202 := by omega
              have kc := hW.out.2.1.cell (k := op) (by omega)
              have kf := hW.out.2.1.frozen op
              have HW5 : Hid (Arr (wr.setCell ⟨g1, op, none⟩ (.int .u8 (fm : Int))) g0 FA 202 (fmV (fm0 0)) ∧ Arr (wr.setCell ⟨g1, op, none⟩ (.int .u8 (fm : Int))) g1 FA 202 (fmV (stpF (fmF j) (fr, to, fm) (op + 1))) ∧ Blk (wr.setCell ⟨g1, op, none⟩ (.int .u8 (fm : Int))) g2 FE tbC ∧ Blk (wr.setCell ⟨g1, op, none⟩ (.int .u8 (fm : Int))) g4 FE #[.int .i64 (fr : Int), .int .i64 (to : Int), .int .u8 (fm : Int)] ∧ Below w.heap.size w (wr.setCell ⟨g1, op, none⟩ (.int .u8 (fm : Int)))) := Lib.hid ⟨hW.out.1.other (by have := HG.out; simp; omega) _, (hW.out.2.1.set op (.int .u8 (fm : Int))).congr (fun k hk => stpF_step (fmF j) (fr, to, fm) op k hop1), Blk.setCell_ne hW.out.2.2.1 (by have := HG2.out; simp; omega) _, Blk.setCell_ne hW.out.2.2.2.1 (by have := HG4.out; simp; omega) _, hW.out.2.2.2.2.setCell HG.out.2.1 _⟩
              clear hW
              go_wp2_with fail
              go_roundw
              case rel => exact ⟨op + 1, by omega, by omega, by go_num, HW5⟩
              case measure => simp [intOf] <;> omega
            · have hot' : op = to + 1 := by omega
              have b0 : ((op : Int) ≤ (to : Int)) = False := by simp; omega
              have HW6 : Hid (Arr wr g0 FA 202 (fmV (fm0 0)) ∧ Arr wr g1 FA 202 (fmV (fmF (j + 1))) ∧ Blk wr g2 FE tbC ∧ Below w.heap.size w wr) := Lib.hid ⟨hW.out.1, by rw [HFS.out, ← hot']; exact hW.out.2.1, hW.out.2.2.1, hW.out.2.2.2.2⟩
              clear hW hot'
              go_wp2_with fail
              go_roundw
              case rel => exact ⟨j + 1, by omega, by go_num, HW6⟩
              case measure => simp [intOf] <;> omega
        · have HJ : Hid (j = 22) := Lib.hid (by omega)
          have bj : ((j : Int) < 22) = False := by simp; omega
          have HA : Hid (Blk wr g1 FA formC ∧ Blk wr g0 FA ((List.range 202).map (fmV (fm0 0))).toArray ∧ Below w.heap.size w wr) := Lib.hid ⟨by have := hW.out.2.1; rw [HJ.out] at this; exact this, hW.out.1, hW.out.2.2.2⟩
          clear hW
          go_wp2_with (first | (refine wpList_load_row rfl _ _ rfl _ rfl _ _ _ _ HA.out.1 Try.underlying85 rfl (by rw [formC_size]; exact size_FA) ?_) | (refine wpList_storeBlk (cs' := formC) rfl _ _ rfl rfl rfl HA.out.2.1 (by rw [formC_size, zero_size]) (by rw [zero_size]; exact size_FA) formC_one ?_; intro d0 dg))
          refine bodyPost_ret (results_cell_row (p := 0) rfl _ _ g0 _ _ _ _ rfl d0 Try.underlying85 rfl (by rw [formC_size]; exact size_FA)) rfl ⟨rfl, ?_⟩
          exact HA.out.2.2.grown dg HA.out.2.2.size (fun k hk => by have := Option.some.inj hk; have := HG.out.1; omega)
theorem run_index_form (k : Nat) (hk : k < 202) (x : Int) (hx : x = (k : Int)) (w : World) : (Instr.index FA (.agg formC) (.int .i64 x)).run Try.prog w = .ok (.int .u8 ((formF k : Nat) : Int)) w := by
  subst hx
  have h1 : formC[k]? = some (.int .u8 ((formF k : Nat) : Int)) := by
    unfold formC
    simp [hk, fmV]
  obtain ⟨i, hi, hz⟩ := Option.map_eq_some_iff.1 (show (Try.prog.info? 5).map (·.size) = some 1 by kernel_rfl)
  simp [Instr.index, run_underlying Try.underlying85, asIntOf, hk, hi, hz, h1, go_sem]
/-- An opcode's form. -/
def formI (x : Int) : Nat := if x < 0 ∨ 201 < x then 0 else formF x.toNat
set_option maxRecDepth 100000 in
theorem form_any (x : Int) (w : World) : Calls Try.prog 41 #[.int .i64 x] w fun e w' => e = .returned (.int .u8 ((formI x : Nat) : Int)) ∧ Below w.heap.size w w' := by
  by_cases h1 : x < 0
  · have HF : Hid (formI x = 0) := Lib.hid (by unfold formI; rw [if_pos (.inl h1)])
    have c1 : decide (x < 0) = true := decide_eq_true h1
    rw [HF.out]
    go_enter Try.func41, Try.ntmps41
    go_wp2
    go_ret
    exact ⟨rfl, Below.refl _ _⟩
  have c1 : decide (x < 0) = false := decide_eq_false h1
  by_cases h2 : 201 < x
  · have HF : Hid (formI x = 0) := Lib.hid (by unfold formI; rw [if_pos (.inr h2)])
    have c2 : decide (201 < x) = true := decide_eq_true h2
    rw [HF.out]
    go_enter Try.func41, Try.ntmps41
    go_wp2
    go_ret
    exact ⟨rfl, Below.refl _ _⟩
  have c2 : decide (201 < x) = false := decide_eq_false h2
  have HF : Hid (formI x = formF x.toNat) := Lib.hid (by unfold formI; rw [if_neg (by omega)])
  have hix := fun w => run_index_form x.toNat (by omega) x (by omega) w
  rw [HF.out]
  generalize formF x.toNat = f at *
  go_enter Try.func41, Try.ntmps41
  go_wp2_with fail
  refine (forms_any w).mono ?_
  rintro e w1 ⟨rfl, hb1⟩
  have HB := Lib.hid hb1
  clear hb1
  go_wp2
  go_ret
  exact ⟨rfl, HB.out⟩
end Go.Proofs.Ytgcdeadfkljeaaa
