/- Proved: OpsSizes, as far as its walk (the law is lifted elsewhere). No condition. -/
import Derived.Test.YtgcdeadfkljeaaaOpsZe
import Derived.Test.YtgcdeadfkljeaaaGrowM
namespace Go.Proofs.Ytgcdeadfkljeaaa
open Go.RowKit
set_option linter.unusedVariables false
set_option linter.unusedSimpArgs false

set_option maxRecDepth 100000 in
theorem run_mkW (w : World) {T e : TypeId} {z : Value} {bytes : Nat} (hT : SlT Try.prog T e z 1 bytes) (hz1 : z.cells = #[z]) (k : Nat) (hk : k * bytes ≤ 100000 ∧ k ≤ 100000) : (Instr.makeSlice T (.int .i64 (k : Int)) (.int .i64 (k : Int))).run Try.prog w = .ok (.slice (some ⟨w.heap.size, 0, none⟩) k k) (w.alloc (.cells ((List.range k).map fun _ => z).toArray e)) := by
  obtain ⟨ti, hti, hz0, hz2, hz3⟩ := info_parts hT.info
  have hr := run_makeSlice (P := Try.prog) w T e ti z hT.under hti hz0 .i64 .i64 (k : Int) (k : Int) (by omega) (Int.le_refl _) (by rw [hz2]; simp; omega) (by rw [hz3, ← Int.natCast_mul, Nat.mul_comm]; omega) (by omega)
  have h := madeCells_one z k
  have : madeCells #[z] k = ((List.range k).map fun _ => z).toArray := by
    apply Array.toList_inj.1
    rw [h]
    apply List.ext_getElem <;> simp
  rw [hr, hz2, hz1, Nat.mul_one, Int.toNat_natCast, this]
theorem blk_at {w : World} {T : TypeId} {cs : Array Value} {g : Nat} (hg : g = w.heap.size) : Blk (w.alloc (.cells cs T)) g T cs := by subst hg; exact Blk.new _ _ _
theorem Blk.drew {w : World} {T : TypeId} {cs : Array Value} {g : Nat} (h : Blk w g T cs) : Blk w.drew g T cs := h
theorem rd_arr {w : World} {g m : Nat} {T : TypeId} {l : Nat → Int} (h : Arr w g T m (fun j => nE (l j))) : Rd w nE (some ⟨g, 0, none⟩) ((List.range m).map l) := by
  refine .inr ⟨_, _, rfl, fun j x hj => ?_⟩
  have hm : j < m := by have := (List.getElem?_eq_some_iff.1 hj).1; simpa using this
  have hx : l j = x := by simpa [hm] using hj
  rw [Nat.zero_add, h.cell hm, hx]
/-- The switch that is made. -/
def swK (f : Int) (K : Nat) : StepK := ⟨0, f, 0, 0, 0, 0, (List.range K).map (fun j : Nat => (j : Int) - 3), (List.range K).map (fun _ : Nat => (0 : Int))⟩
theorem sw_right : ∀ K, K < 40 → (rightK (swK 170 (K + 1)) 116 = true ∧ fitsK (swK 170 (K + 1)) 116 0 = true) ∧ (rightK (swK 171 (K + 1)) 108 = true ∧ fitsK (swK 171 (K + 1)) 108 0 = true) := by decide +kernel
theorem sw_form : formI 170 = 116 ∧ formI 171 = 108 := by decide +kernel
/-- What Put makes of it. -/
theorem sw_put (K p : Nat) (hK : 1 ≤ K ∧ K ≤ 40) (f : Int) (ea mo : Nat) (hf : f = 171 ∧ ea = 8 ∧ mo = 9 ∨ f = 170 ∧ ea = 4 ∧ mo = 13) (L : List UInt8) (hL : L.length = p) : (putK L (swK f K)).2 = 0 ∧ (putK L (swK f K)).1.length = p + (mo + nghK p + ea * K) := by
  obtain ⟨k, rfl⟩ : ∃ k, K = k + 1 := ⟨K - 1, by omega⟩
  have hr := sw_right k (by omega)
  have hlk : ((List.range (k + 1)).map (fun j : Nat => (j : Int) - 3)).length = k + 1 := by simp
  have hlt : ((List.range (k + 1)).map (fun _ : Nat => (0 : Int))).length = k + 1 := by simp
  rcases hf with ⟨rfl, rfl, rfl⟩ | ⟨rfl, rfl, rfl⟩
  · have e : putK L (swK 171 (k + 1)) = (L ++ (headK (swK 171 (k + 1)) 108 ++ bodyK (swK 171 (k + 1)) 108 L.length), 0) := by
      unfold putK
      rw [show (swK 171 (k + 1)).op = 171 from rfl, sw_form.2, if_neg (by decide), if_neg (by rw [hr.2.1]; decide), if_neg (by rw [show fitsK (swK 171 (k + 1)) 108 (L.length : Int) = fitsK (swK 171 (k + 1)) 108 0 from rfl, hr.2.2]; decide)]
    rw [e]
    refine ⟨rfl, ?_⟩
    have hb : bodyK (swK 171 (k + 1)) 108 L.length = List.replicate (nghK L.length) 0 ++ (p4 (0 - (L.length : Int)) ++ (p4 (((List.range (k + 1)).map (fun j : Nat => (j : Int) - 3)).length : Int) ++ rowsL 108 (L.length : Int) ((List.range (k + 1)).map (fun j : Nat => (j : Int) - 3)) ((List.range (k + 1)).map (fun _ : Nat => (0 : Int))))) := rfl
    rw [hb, head_no rfl (by decide)]
    simp only [List.length_append, List.length_replicate, p4_len, hdB_len, rows_108 (hlk.trans hlt.symm), hlk, hL]
    simp
    omega
  · have e : putK L (swK 170 (k + 1)) = (L ++ (headK (swK 170 (k + 1)) 116 ++ bodyK (swK 170 (k + 1)) 116 L.length), 0) := by
      unfold putK
      rw [show (swK 170 (k + 1)).op = 170 from rfl, sw_form.1, if_neg (by decide), if_neg (by rw [hr.1.1]; decide), if_neg (by rw [show fitsK (swK 170 (k + 1)) 116 (L.length : Int) = fitsK (swK 170 (k + 1)) 116 0 from rfl, hr.1.2]; decide)]
    rw [e]
    refine ⟨rfl, ?_⟩
    have hb : bodyK (swK 170 (k + 1)) 116 L.length = List.replicate (nghK L.length) 0 ++ (p4 (0 - (L.length : Int)) ++ ((p4 (((List.range (k + 1)).map (fun j : Nat => (j : Int) - 3)).headD 0) ++ p4 (((List.range (k + 1)).map (fun j : Nat => (j : Int) - 3)).getLastD 0)) ++ rowsL 116 (L.length : Int) ((List.range (k + 1)).map (fun j : Nat => (j : Int) - 3)) ((List.range (k + 1)).map (fun _ : Nat => (0 : Int))))) := rfl
    rw [hb, head_no rfl (by decide)]
    simp only [List.length_append, List.length_replicate, p4_len, hdB_len, rows_116 (hlk.trans hlt.symm), hlk, hL]
    simp
    omega
section
variable {P : Program} {ops : Array Oper} {Q : Exit → Act → World → Prop} {a : Act} {w0 : World} {o : Oper} {rest : List Oper} {done : List (Nat × Spec)}
theorem gw_newO (G : Spec) (hm : Mono G) (h1 : ∀ (a' : Act) (w' : World), Below w0.heap.size w0 w' → (∀ t ∈ o.looksAt ops, KnownAt done a a' w' t) → Region.wanted o (yielded ops a'.tmps) = true ∧ ∃ V ob, (execOp a'.eval o).run P w' = .ok (.value V) (w'.alloc ob) ∧ G V (w'.alloc ob))
    (h : GW P ops Q a w0 rest (consD o G done)) : GW P ops Q a w0 (o :: rest) done := by
  refine ⟨G, hm, fun a' w' hb hk => ?_, h⟩
  obtain ⟨h2, V, ob, h3, h4⟩ := h1 a' w' hb hk
  rw [if_pos h2]
  unfold Oper.wp
  rw [h3]
  exact ⟨V, rfl, h4, below_alloc _ _⟩
end
/-- What Put answers, as far as its length. -/
def TupG (m : Nat) : Spec := fun v _ => ∃ a c, v = .tuple #[.slice a m c, .int .i64 0]
theorem mono_tup (m : Nat) : Mono (TupG m) := fun _ _ _ h _ => h
def LenG (m : Nat) : Spec := fun v _ => ∃ a c, v = .slice a m c
theorem mono_lenG (m : Nat) : Mono (LenG m) := fun _ _ _ h _ => h
theorem z_big : (-1099511627776 : Int) ≤ 0 ∧ (0 : Int) ≤ 1099511627776 := by decide
/-- A row of noughts. -/
def NouG (p : Nat) : Spec := fun v w => ∃ g, v = .slice (some ⟨g, 0, none⟩) p p ∧ Rd w bE (some ⟨g, 0, none⟩) (List.replicate p 0)
theorem mono_nou (p : Nat) : Mono (NouG p) := fun v w w' ⟨g, h1, h2⟩ hb => ⟨g, h1, h2.below hb⟩
def SwR (w0 : World) (K : Nat) (f : Int) (i A g1 g2 : Nat) (w : World) : Prop :=
  Blk w A STO (stC (swK f K) (.slice (some ⟨g1, 0, none⟩) K K) (.slice (some ⟨g2, 0, none⟩) K K)) ∧ Arr w g1 3 K (fun j : Nat => .int .i64 (if j < i then (j : Int) - 3 else 0)) ∧ Arr w g2 3 K (fun _ => .int .i64 0) ∧ (A ≠ g1 ∧ A ≠ g2 ∧ g1 ≠ g2) ∧ (w0.heap.size ≤ A ∧ w0.heap.size ≤ g1 ∧ w0.heap.size ≤ g2) ∧ Below w0.heap.size w0 w
theorem sw_start {w w1 wx : World} {K A g1 g2 : Nat} (hB : Below w.heap.size w w1) (hA : Blk wx A STO (stC (swK 171 K) (.slice (some ⟨g1, 0, none⟩) K K) (.slice (some ⟨g2, 0, none⟩) K K))) (h1 : Arr wx g1 3 K (fun _ => .int .i64 0)) (h2 : Arr wx g2 3 K (fun _ => .int .i64 0))
    (hne : A ≠ g1 ∧ A ≠ g2 ∧ g1 ≠ g2) (hge : w1.heap.size ≤ A ∧ w1.heap.size ≤ g1 ∧ w1.heap.size ≤ g2) (hb : Below w1.heap.size w1 wx) : SwR w K 171 0 A g1 g2 wx :=
  ⟨hA, h1.congr (fun k _ => by rw [if_neg (by omega)]), h2, hne, by have := hB.size; omega, hB.trans (hb.mono hB.size)⟩
set_option maxRecDepth 100000 in
set_option maxHeartbeats 8000000 in
theorem walkOpsSizes (a0 a1 : Int) (tab : Bool) (w : World) (h0 : 0 ≤ a0 ∧ a0 < 256) (h1 : 0 ≤ a1 ∧ a1 < 65536) : Calls Try.prog 8 #[.int .u8 a0, .int .u16 a1, .bool tab] w fun e w' => e = .returned (.bool true) ∧ Below w.heap.size w w' := by
  have mixed : Try.prog.follows .mixedOrders = true := by kernel_rfl
  go_enter Try.func8, Try.ntmps8
  go_wp2_with fail
  refine (fixed18_any w).mono ?_
  rintro e w1 ⟨rfl, hB1⟩
  have HB1 := Lib.hid hB1
  clear hB1
  go_upto_region 4 with fail
  obtain ⟨K, hK⟩ := Int.eq_ofNat_of_zero_le (show 0 ≤ 1 + a0 % 40 by omega)
  have hK1 : 1 ≤ K ∧ K ≤ 40 := by omega
  rw [hK]
  have HKE := Lib.hid hK
  clear hK
  have hmk := fun w' => run_mkW w' slIntE rfl K (by omega)
  go_cut [8] (fun x8 wx => ∃ A g1 g2, x8 = .pointer (some ⟨A, 0, none⟩) ∧ Hid (SwR w K 171 0 A g1 g2 wx))
  case first =>
    go_region
    · (try go_wp2)
      go_meet
      refine ⟨w1.heap.size + 1 + 1, w1.heap.size, w1.heap.size + 1, rfl, Lib.hid (sw_start HB1.out (Blk.drew (blk_at (by simp))) (Blk.drew (((blk_at (by simp)).alloc _).alloc _)) (Blk.drew ((blk_at (by simp)).alloc _)) (by omega) (by omega) ?_)⟩
      repeat (first | exact Below.refl _ _ | refine Below.drew ?_ | refine Below.alloc ?_ (by simp <;> omega) _)
    · (try go_wp2)
      go_meet
      refine ⟨w1.heap.size + 1, w1.heap.size, w1.heap.size + 1 + 1, rfl, Lib.hid (sw_start HB1.out (Blk.drew ((blk_at (by simp)).alloc _)) (Blk.drew (((blk_at (by simp)).alloc _).alloc _)) (Blk.drew (blk_at (by simp))) (by omega) (by omega) ?_)⟩
      repeat (first | exact Below.refl _ _ | refine Below.drew ?_ | refine Below.alloc ?_ (by simp <;> omega) _)
    · (try go_wp2)
      go_meet
      refine ⟨w1.heap.size + 1 + 1, w1.heap.size + 1, w1.heap.size, rfl, Lib.hid (sw_start HB1.out (Blk.drew (blk_at (by simp))) (Blk.drew ((blk_at (by simp)).alloc _)) (Blk.drew (((blk_at (by simp)).alloc _).alloc _)) (by omega) (by omega) ?_)⟩
      repeat (first | exact Below.refl _ _ | refine Below.drew ?_ | refine Below.alloc ?_ (by simp <;> omega) _)
    · (try go_wp2)
      go_meet
      refine ⟨w1.heap.size + 1, w1.heap.size + 1 + 1, w1.heap.size, rfl, Lib.hid (sw_start HB1.out (Blk.drew ((blk_at (by simp)).alloc _)) (Blk.drew (blk_at (by simp))) (Blk.drew (((blk_at (by simp)).alloc _).alloc _)) (by omega) (by omega) ?_)⟩
      repeat (first | exact Below.refl _ _ | refine Below.drew ?_ | refine Below.alloc ?_ (by simp <;> omega) _)
    · (try go_wp2)
      go_meet
      refine ⟨w1.heap.size, w1.heap.size + 1, w1.heap.size + 1 + 1, rfl, Lib.hid (sw_start HB1.out (Blk.drew (((blk_at (by simp)).alloc _).alloc _)) (Blk.drew ((blk_at (by simp)).alloc _)) (Blk.drew (blk_at (by simp))) (by omega) (by omega) ?_)⟩
      repeat (first | exact Below.refl _ _ | refine Below.drew ?_ | refine Below.alloc ?_ (by simp <;> omega) _)
    · (try go_wp2)
      go_meet
      refine ⟨w1.heap.size, w1.heap.size + 1 + 1, w1.heap.size + 1, rfl, Lib.hid (sw_start HB1.out (Blk.drew (((blk_at (by simp)).alloc _).alloc _)) (Blk.drew (blk_at (by simp))) (Blk.drew ((blk_at (by simp)).alloc _)) (by omega) (by omega) ?_)⟩
      repeat (first | exact Below.refl _ _ | refine Below.drew ?_ | refine Below.alloc ?_ (by simp <;> omega) _)
  case rest =>
    obtain ⟨A, g1, g2, rfl, hS⟩ := hcut
    clear hmk HB1
    go_upto_if 28 with fail
    go_cut [9, 10] (fun x9 x10 wx => ∃ (f : Int) (ea mo : Nat), (f = 171 ∧ ea = 8 ∧ mo = 9 ∨ f = 170 ∧ ea = 4 ∧ mo = 13) ∧ x9 = .int .i64 (ea : Int) ∧ x10 = .int .i64 (mo : Int) ∧ Hid (SwR w K f 0 A g1 g2 wx))
    case first =>
      cases tab with
      | false =>
        go_wp2
        go_meet
        exact ⟨171, 8, 9, .inl ⟨rfl, rfl, rfl⟩, rfl, rfl, hS⟩
      | true =>
        have q1 : wc.cell? ⟨A, 1, none⟩ = some (.int .i64 171) := hS.out.1.cell (i := 1) rfl
        have f1 := hS.out.1.frozen 1
        have HS2 : Hid (SwR w K 170 0 A g1 g2 (wc.setCell ⟨A, 1, none⟩ (.int .i64 170))) := Lib.hid (by
          obtain ⟨h1, h2, h3, h4, h5, h6⟩ := hS.out
          exact ⟨h1.setCell 1 _, h2.other (by simp only; omega) _, h3.other (by simp only; omega) _, h4, h5, h6.setCell (by simp only; omega) _⟩)
        clear hS
        go_wp2
        go_meet
        exact ⟨170, 4, 13, .inr ⟨rfl, rfl, rfl⟩, rfl, rfl, HS2⟩
    case rest =>
      obtain ⟨f, ea, mo, hf, rfl, rfl, hS2⟩ := hcut
      clear hS
      have q6 : wc.cell? ⟨A, 6, none⟩ = some (.slice (some ⟨g1, 0, none⟩) K K) := hS2.out.1.cell (i := 6) rfl
      go_wp2_with fail
      go_loopw [33] (fun x33 wr => ∃ i : Nat, i ≤ K ∧ x33 = .int .i64 (i : Int) ∧ Hid (SwR w K f i A g1 g2 wr)) (fun x33 _ => K - (intOf x33).toNat)
      case atStart => exact ⟨0, Nat.zero_le _, rfl, hS2⟩
      case round =>
        clear hS2 q6
        obtain ⟨i, hi, rfl, hW⟩ := hrel
        have q6 : wr.cell? ⟨A, 6, none⟩ = some (.slice (some ⟨g1, 0, none⟩) K K) := hW.out.1.cell (i := 6) rfl
        by_cases hik : i < K
        · have qi : wr.cell? ⟨g1, i, none⟩ = some (.int .i64 0) := by
            have h := hW.out.2.1.cell hik
            simpa using h
          have fi := hW.out.2.1.frozen i
          have HS3 : Hid (SwR w K f (i + 1) A g1 g2 (wr.setCell ⟨g1, i, none⟩ (.int .i64 ((i : Int) - 3)))) := Lib.hid (by
            obtain ⟨h1, h2, h3, h4, h5, h6⟩ := hW.out
            refine ⟨h1.setCell_ne (by simp only; omega) _, (h2.set i _).congr (fun j hj => ?_), h3.other (by simp only; omega) _, h4, h5, h6.setCell (by simp only; omega) _⟩
            by_cases e : j = i
            · subst e; rw [if_pos rfl, if_pos (by omega)]
            · rw [if_neg e]
              by_cases e2 : j < i
              · rw [if_pos e2, if_pos (by omega)]
              · rw [if_neg e2, if_neg (by omega)])
          have hit : (i : Int) < (K : Int) := by omega
          clear hW
          go_wp2_with fail
          go_roundw
          case rel => exact ⟨i + 1, by omega, by go_num, HS3⟩
          case measure => simp [intOf] <;> omega
        · obtain rfl : i = K := by omega
          obtain ⟨p, hp⟩ := Int.eq_ofNat_of_zero_le (show 0 ≤ a1 % 1000 by omega)
          have hp1 : p < 1000 := by omega
          have HSZ : Hid (∀ w', Calls Try.prog 24 #[stV (swK f i) (some ⟨g1, 0, none⟩) i i (some ⟨g2, 0, none⟩) i i, .int .i64 (p : Int)] w' fun e w'' => e = .returned (.int .i64 ((mo + nghK p + ea * i : Nat) : Int)) ∧ Below w'.heap.size w' w'') := Lib.hid (by
            intro w'
            obtain ⟨k, rfl⟩ : ∃ k, i = k + 1 := ⟨i - 1, by omega⟩
            have hr := sw_right k (by omega)
            have hsz : sizedK (swK 170 (k + 1)) = true ∧ sizedK (swK 171 (k + 1)) = true := by
              have : ∀ k, k < 40 → (sizedK (swK 170 (k + 1)) = true ∧ sizedK (swK 171 (k + 1)) = true) := by decide +kernel
              exact this k (by omega)
            rcases hf with ⟨rfl, rfl, rfl⟩ | ⟨rfl, rfl, rfl⟩
            · exact size_108 p w' sw_form.2 hsz.2 (by simp [swK]) (by simp [swK]) (by omega) (by omega)
            · exact size_116 p w' sw_form.1 hsz.1 (by simp [swK]) (by simp [swK]) (by omega) (by omega))
          have HPT : Hid (∀ L : List UInt8, L.length = p → (putK L (swK f i)).2 = 0 ∧ (putK L (swK f i)).1.length = p + (mo + nghK p + ea * i)) := Lib.hid (fun L hL => sw_put i p hK1 f ea mo hf L hL)
          have HST : Hid (∀ w', Below wr.heap.size wr w' → StvOk w' (swK f i) (some ⟨g1, 0, none⟩) i i (some ⟨g2, 0, none⟩) i i) := Lib.hid (fun w' hb => by
            obtain ⟨h1, h2, h3, -, -, -⟩ := hW.out
            have h2 := h2.congr (f' := fun j => nE ((j : Int) - 3)) (fun j hj => by rw [if_pos hj])
            refine ⟨by simp [swK], by simp [swK], by omega, (rd_arr h2).below hb, (rd_arr (l := fun _ => 0) h3).below hb, z_big, z_big, z_big, z_big, ?_, ?_, ?_⟩
            · show -1099511627776 ≤ f ∧ f ≤ 1099511627776
              omega
            · intro x hx
              obtain ⟨j, hj, rfl⟩ := List.mem_map.1 hx
              have := List.mem_range.1 hj
              omega
            · intro x hx
              obtain ⟨j, hj, rfl⟩ := List.mem_map.1 hx
              decide)
          have hng : nghK p ≤ 3 ∧ (p + 1 + nghK p) % 4 = 0 := by unfold nghK; omega
          have hbd : ea * i ≤ 320 ∧ mo ≤ 13 := by rcases hf with ⟨-, rfl, rfl⟩ | ⟨-, rfl, rfl⟩ <;> omega
          have HBW := Lib.hid hW.out.2.2.2.2.2
          have HBA := Lib.hid hW.out.1
          have hit : ((i : Int) < (i : Int)) = False := by simp
          have e1000 : a1 % 1000 = (p : Int) := hp
          clear hf hp
          go_wp2_with (refine wpList_load_row rfl _ _ rfl _ rfl _ _ _ _ HBA.out Try.underlying48 rfl size_sto8 ?_)
          refine (HSZ.out wr).mono ?_
          rintro e w5 ⟨rfl, hB5⟩
          obtain ⟨E, hE⟩ : ∃ E, E = ea * i := ⟨_, rfl⟩
          obtain ⟨q, hq⟩ : ∃ q, q = nghK p := ⟨_, rfl⟩
          obtain ⟨S, hS⟩ : ∃ S, S = mo + q + E := ⟨_, rfl⟩
          have hSb : S ≤ 400 ∧ mo ≤ 13 ∧ E ≤ 320 := by omega
          have gE : (ea : Int) * (i : Int) = (E : Int) := by rw [hE]; push_cast; rfl
          have gf : (S : Int) - (mo : Int) - (E : Int) = (q : Int) := by rw [hS]; push_cast; omega
          have hqb : q ≤ 3 := by omega
          have g4 : ((p : Int) + 1 + (q : Int)) % 4 = 0 := by omega
          have HPT2 : Hid (∀ L : List UInt8, L.length = p → (putK L (swK f i)).2 = 0 ∧ (putK L (swK f i)).1.length = p + S) := Lib.hid (by rw [hS, hq, hE]; exact HPT.out)
          rw [← hE, ← hq, ← hS]
          have HB5 := Lib.hid hB5
          have HA5 := Lib.hid (HBA.out.below hB5)
          clear hE hq hS hng hbd HPT HSZ hB5
          go_wp2_with fail
          refine wp_region_grow (by kernel_rfl) (by kernel_rfl) (by rfl) ?_
          apply gw_val
          · intro a' w' hk
            refine ⟨wanted_none rfl, ?_⟩
            simp [Oper.looksAt, Op.operands, Call.operands, KnownAt, List.lookup, consD] at hk
            simp [execOp, Act.eval, hk, go_sem]
            all_goals rfl
          refine gw_newO (NouG p) (mono_nou p) ?_ ?_
          · intro a' w' hb' hk
            refine ⟨wanted_none rfl, ?_⟩
            simp [Oper.looksAt, Op.operands, Call.operands, KnownAt, List.lookup, consD] at hk
            refine ⟨.slice (some ⟨w'.heap.size, 0, none⟩) p p, .cells ((List.range p).map fun _ => Value.int .u8 0).toArray U8, ?_, ⟨_, rfl, rd_new _ _ _ _ _ ?_⟩⟩
            · have hm8 := run_mkW w' slByte rfl p (by omega)
              simp [execOp, Act.eval, hk, hm8, go_sem]
              all_goals rfl
            · apply List.ext_getElem <;> simp [bE]
          refine gw_valB (fun v _ => v = stV (swK f i) (some ⟨g1, 0, none⟩) i i (some ⟨g2, 0, none⟩) i i) (mono_eq _) ?_ ?_
          · intro a' w' hb' hk
            refine ⟨wanted_none rfl, _, ?_, rfl⟩
            have hb8 : Below w5.heap.size w5 w' := ((Below.refl w5.heap.size w5).drew).trans hb'
            have hbk := HA5.out.below hb8
            have l0 : w'.cell? ⟨A, 0, none⟩ = some (.int .i64 0) := hbk.cell (i := 0) rfl
            have l1 : w'.cell? ⟨A, 1, none⟩ = some (.int .i64 f) := hbk.cell (i := 1) rfl
            have l2 : w'.cell? ⟨A, 2, none⟩ = some (.int .i64 0) := hbk.cell (i := 2) rfl
            have l3 : w'.cell? ⟨A, 3, none⟩ = some (.int .i64 0) := hbk.cell (i := 3) rfl
            have l4 : w'.cell? ⟨A, 4, none⟩ = some (.int .i64 0) := hbk.cell (i := 4) rfl
            have l5 : w'.cell? ⟨A, 5, none⟩ = some (.int .i64 0) := hbk.cell (i := 5) rfl
            have l6 : w'.cell? ⟨A, 6, none⟩ = some (.slice (some ⟨g1, 0, none⟩) i i) := hbk.cell (i := 6) rfl
            have l7 : w'.cell? ⟨A, 7, none⟩ = some (.slice (some ⟨g2, 0, none⟩) i i) := hbk.cell (i := 7) rfl
            simp [Oper.looksAt, Op.operands, Call.operands, KnownAt, List.lookup, consD] at hk
            simp [execOp, Act.eval, hk, l0, l1, l2, l3, l4, l5, l6, l7, go_sem]
            all_goals first | rfl | exact ⟨rfl, rfl, rfl, rfl, rfl, rfl⟩
          refine gw_callE 22 (fun args w' => ∃ gz, args = #[.slice (some ⟨gz, 0, none⟩) p p, stV (swK f i) (some ⟨g1, 0, none⟩) i i (some ⟨g2, 0, none⟩) i i] ∧ Rd w' bE (some ⟨gz, 0, none⟩) (List.replicate p 0)) (TupG (p + S)) (mono_tup _) ?_ ?_ ?_
          · intro a' w' hk
            refine ⟨wanted_none rfl, ?_⟩
            simp [Oper.looksAt, Op.operands, Call.operands, KnownAt, List.lookup, consD] at hk
            obtain ⟨⟨gz, hk1, hrz⟩, hk2⟩ := hk
            refine ⟨_, ⟨gz, rfl, hrz⟩, ?_⟩
            simp [execOp, Act.eval, hk1, hk2, go_sem]
            all_goals rfl
          · rintro w' args hb' ⟨gz, rfl, hrz⟩
            have hb8 : Below w5.heap.size w5 w' := ((Below.refl w5.heap.size w5).drew).trans hb'
            have hbw := HB5.out.trans (hb8.mono HB5.out.size)
            refine (put_any (st := swK f i) (ka := some ⟨g1, 0, none⟩) (kn := i) (kc := i) (ta := some ⟨g2, 0, none⟩) (tn := i) (tc := i) (some ⟨gz, 0, none⟩) p p (List.replicate p 0) w' (HST.out w' hbw) ⟨by simp, by omega⟩ hrz).mono ?_
            rintro e w7 ⟨p7, n7, c7, rfl, hl7, -, hB7⟩
            have hpt := HPT2.out (List.replicate p 0) (by simp)
            rw [hpt.2] at hl7
            rw [hpt.1]
            subst hl7
            exact ⟨_, rfl, ⟨p7, c7, rfl⟩, hB7⟩
          refine gw_valB (TupG (p + S)) (mono_tup _) ?_ ?_
          · intro a' w' hb' hk
            refine ⟨wanted_none rfl, ?_⟩
            simp [Oper.looksAt, Op.operands, Call.operands, KnownAt, List.lookup, consD] at hk
            obtain ⟨p7, c7, hk⟩ := hk
            refine ⟨_, ?_, p7, c7, rfl⟩
            simp [execOp, Act.eval, hk, go_sem]
            all_goals rfl
          refine gw_valB (LenG (p + S)) (mono_lenG _) ?_ ?_
          · intro a' w' hb' hk
            refine ⟨wanted_none rfl, ?_⟩
            simp [Oper.looksAt, Op.operands, Call.operands, KnownAt, List.lookup, consD] at hk
            obtain ⟨p7, c7, hk⟩ := hk
            refine ⟨_, ?_, p7, c7, rfl⟩
            simp [execOp, Act.eval, hk, go_sem]
            all_goals rfl
          refine gw_valB (fun v _ => v = .int .i64 0) (mono_eq _) ?_ ?_
          · intro a' w' hb' hk
            refine ⟨wanted_none rfl, ?_⟩
            simp [Oper.looksAt, Op.operands, Call.operands, KnownAt, List.lookup, consD] at hk
            obtain ⟨p7, c7, hk⟩ := hk
            refine ⟨_, ?_, rfl⟩
            simp [execOp, Act.eval, hk, go_sem]
            all_goals rfl
          refine gw_valB (LenG (p + S)) (mono_lenG _) ?_ ?_
          · intro a' w' hb' hk
            refine ⟨wanted_none rfl, ?_⟩
            simp [Oper.looksAt, Op.operands, Call.operands, KnownAt, List.lookup, consD] at hk
            obtain ⟨p7, c7, hk⟩ := hk
            refine ⟨_, ?_, p7, c7, rfl⟩
            simp [execOp, Act.eval, hk, go_sem]
            all_goals rfl
          apply gw_val
          · intro a' w' hk
            refine ⟨wanted_none rfl, ?_⟩
            simp [Oper.looksAt, Op.operands, Call.operands, KnownAt, List.lookup, consD] at hk
            simp [execOp, Act.eval, hk, go_sem]
            all_goals rfl
          intro vs w7 hb7 hall
          simp only [AllS, consD] at hall
          simp only [consD, putAllS, Act.put]
          obtain ⟨h16, h15, h62, h61, h56, h60, h59, h58, h57, -⟩ := hall
          obtain ⟨p7, c7, h15⟩ := h15
          rw [h16, h15]
          clear h16 h15 h62 h61 h56 h60 h59 h58 h57
          simp only [List.setIfInBounds_toArray, List.set_cons_succ, List.set_cons_zero]
          have hb8 : Below w5.heap.size w5 w7 := ((Below.refl w5.heap.size w5).drew).trans hb7
          have HB7 := Lib.hid (HBW.out.trans ((HB5.out.trans (hb8.mono HB5.out.size)).mono HBW.out.size))
          clear hb7 hb8 HPT2 HST HA5 HB5
          have gl : ((p + S : Nat) : Int) = (p : Int) + (S : Int) := by push_cast; rfl
          go_wp2_with fail
          have HZ0 := Lib.hid (fun w' => size_0 (st := ⟨0, 186, 0, 0, 0, 0, [], []⟩) (ka := none) (kn := 0) (kc := 0) (ta := none) (tn := 0) (tc := 0) 0 w' (by decide +kernel))
          refine (HZ0.out w7).mono ?_
          rintro e w8 ⟨rfl, hB8⟩
          have HB8 := Lib.hid (HB7.out.trans (hB8.mono HB7.out.size))
          clear hB8 HZ0
          go_wp2_with fail
          have HZ1 := Lib.hid (fun w' => size_108b (st := ⟨0, 171, 0, 0, 0, 0, [1], []⟩) (ka := some ⟨w8.heap.size, 0, none⟩) (kn := 1) (kc := 1) (ta := none) (tn := 0) (tc := 0) 0 w' (by decide +kernel) (by decide) rfl rfl (by decide) (by decide))
          refine (HZ1.out _).mono ?_
          rintro e w9 ⟨rfl, hB9⟩
          have HB9 : Hid (Below w.heap.size w w9) := Lib.hid (HB8.out.trans (Below.trans ((below_alloc _ _).mono HB8.out.size) (hB9.mono (by have := HB8.out.size; simp; omega))))
          clear hB9 HZ1
          go_wp2
          go_ret
          exact ⟨rfl, HB9.out⟩
end Go.Proofs.Ytgcdeadfkljeaaa
