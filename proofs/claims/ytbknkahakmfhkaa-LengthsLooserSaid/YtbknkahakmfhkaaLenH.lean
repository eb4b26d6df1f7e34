/- lengths.pairs. -/
import Derived.Test.YtbknkahakmfhkaaLenG
import Derived.Test.YtbknkahakmfhkaaGrowT
import Derived.Test.YtbknkahakmfhkaaGrowL
import Derived.Test.YtbknkahakmfhkaaGrowM
namespace Go.Proofs.Ytbknkahakmfhkaa
open Go.RowKit
set_option linter.unusedVariables false
set_option linter.unusedSimpArgs false

theorem cell_later2 {w w' : World} {a : Addr} {v : Value} (h : w.cell? a = some v) (hb : Below w.drew.heap.size w.drew w') : w'.cell? a = some v :=
  (hb.cell (World.block_lt_of_cell? w.drew _ h)).trans h
def pairK : List (Int × List Nat) → List (Int × List Nat)
  | a :: b :: r => (a.1 + b.1, a.2 ++ b.2) :: pairK r
  | _ => []
theorem pairK_two {l : List (Int × List Nat)} {i : Nat} (h : i + 1 < l.length) : pairK (l.drop i) = (l[i].1 + l[i + 1].1, l[i].2 ++ l[i + 1].2) :: pairK (l.drop (i + 2)) := by
  rw [List.drop_eq_getElem_cons (show i < l.length by omega), List.drop_eq_getElem_cons h]; rfl
theorem pairK_end {l : List (Int × List Nat)} {i : Nat} (h : l.length ≤ i + 1) : pairK (l.drop i) = [] := by
  have : (l.drop i).length ≤ 1 := by rw [List.length_drop]; omega
  match l.drop i, this with
  | [], _ => rfl
  | [_], _ => rfl
/-- Signs in a new row. -/
def SgG (B : Nat) (s : List Nat) : Spec := fun v w => ∃ p c, v = .slice p s.length c ∧ Own w B IN zN p s.length c s
theorem mono_sg (B : Nat) (s : List Nat) : Mono (SgG B s) := fun v w w' ⟨p, c, h1, h2⟩ hb => ⟨p, c, h1, h2.below hb⟩
def PbG (B : Nat) (o : Int) (s : List Nat) : Spec := fun v w => ∃ p c, v = .agg #[.int .i64 o, .slice p s.length c] ∧ Own w B IN zN p s.length c s
theorem mono_pb (B : Nat) (o : Int) (s : List Nat) : Mono (PbG B o s) := fun v w w' ⟨p, c, h1, h2⟩ hb => ⟨p, c, h1, h2.below hb⟩
def PrG (B : Nat) (o : Int) (s : List Nat) : Spec := fun v w => ∃ g p c, v = .slice (some ⟨g, 0, none⟩) 1 1 ∧ Blk w g PK #[.int .i64 o, .slice p s.length c] ∧ Own w B IN zN p s.length c s
theorem mono_pr (B : Nat) (o : Int) (s : List Nat) : Mono (PrG B o s) := fun v w w' ⟨g, p, c, h1, h2, h3⟩ hb => ⟨g, p, c, h1, h2.below hb, h3.below hb⟩
def TwG (s t : Value) : Spec := fun v w => ∃ b, v = .slice (some ⟨b, 0, none⟩) 2 2 ∧ b < w.heap.size ∧ w.cell? ⟨b, 0, none⟩ = some s ∧ w.cell? ⟨b, 1, none⟩ = some t
theorem mono_tw (s t : Value) : Mono (TwG s t) := fun v w w' ⟨b, h1, h2, h3, h4⟩ hb => ⟨b, h1, Nat.lt_of_lt_of_le h2 hb.size, (hb.cell h2).trans h3, (hb.cell h2).trans h4⟩
section
variable {P : Program} {ops : Array Oper} {Q : Exit → Act → World → Prop} {a : Act} {w0 : World} {o : Oper} {rest : List Oper} {done : List (Nat × Spec)}
theorem gw_newP (G : Spec) (hm : Mono G) (h1 : ∀ (a' : Act) (w' : World), Below w0.heap.size w0 w' → (∀ t ∈ o.looksAt ops, KnownAt done a a' w' t) → Region.wanted o (yielded ops a'.tmps) = true ∧ ∃ V ob, (execOp a'.eval o).run P w' = .ok (.value V) (w'.alloc ob) ∧ G V (w'.alloc ob))
    (h : GW P ops Q a w0 rest (consD o G done)) : GW P ops Q a w0 (o :: rest) done := by
  refine ⟨G, hm, fun a' w' hb hk => ?_, h⟩
  obtain ⟨h2, V, ob, h3, h4⟩ := h1 a' w' hb hk
  rw [if_pos h2]
  unfold Oper.wp
  rw [h3]
  exact ⟨V, rfl, h4, below_alloc _ _⟩
end
theorem pk_cells {w : World} {e1 g n c i : Nat} {ps : List Pk} (h : OwnR w e1 PK 2 (some ⟨g, 0, none⟩) n c (ps.map pkE)) (hi : i < ps.length) :
    w.cell? ⟨g, i * 2, none⟩ = some (.int .i64 ps[i].often) ∧ w.cell? ⟨g, i * 2 + 1, none⟩ = some (.slice ps[i].ptr ps[i].signs.length ps[i].cap) := by
  have hl : i < (ps.map pkE).length := by rw [List.length_map]; exact hi
  have h0 := flat_at h.2.2 hl (show 0 < 2 by omega)
  have h1 := flat_at h.2.2 hl (show 1 < 2 by omega)
  rw [List.getElem_map] at h0 h1
  exact ⟨h.cells _ _ h0, h.cells _ _ h1⟩
/-- No sign's row lies ahead of B. -/
def Far (B : Nat) (qs : List Pk) : Prop := ∀ p ∈ qs, ∀ b, p.ptr = some ⟨b, 0, none⟩ → B ≤ b
theorem own_far {w : World} {B n c : Nat} {p : Option Addr} {s : List Nat} (h : Own w B IN zN p n c s) : ∀ b, p = some ⟨b, 0, none⟩ → B ≤ b := by
  intro b hb
  rcases h.blk with ⟨h1, _⟩ | ⟨g, h1, h2, _⟩
  · rw [h1] at hb; cases hb
  · rw [h1] at hb
    simp only [Option.some.injEq, Addr.mk.injEq, and_true, true_and] at hb
    omega
def PairP (w : World) (ps : List Pk) (e : Ending) (w' : World) : Prop := Below w.heap.size w w' ∧ ∃ q k d qs, e = .returned (.slice q k d) ∧ Packs w' w.heap.size q k d qs ∧ Far w.heap.size qs ∧ qs.map keyP = pairK (ps.map keyP)
set_option maxRecDepth 100000 in
set_option maxHeartbeats 8000000 in
theorem pairs_any (g n c e1 : Nat) (ps : List Pk) (w : World) (h : Packs w e1 (some ⟨g, 0, none⟩) n c ps) (hn : n ≤ 100000) (hs : ∀ p ∈ ps, p.signs.length ≤ 500000 ∧ 0 ≤ p.often ∧ p.often ≤ 1000000000000) :
  Calls Try.prog 78 #[.slice (some ⟨g, 0, none⟩) n c] w (PairP w ps) := by
  have HP := Lib.hid (And.intro h hs)
  have HL : Hid (ps.length = n) := Lib.hid (by have := h.1.2.1; rwa [List.length_map] at this)
  clear h hs
  go_enter Try.func78, Try.ntmps78
  go_wp2
  go_loopw [3, 4] (fun x3 x4 wr => ∃ (i k : Nat) (q : Option Addr) (d : Nat) (qs : List Pk), i ≤ n ∧ k ≤ i ∧ x3 = .slice q k d ∧ x4 = .int .i64 i ∧ Hid (pairK (ps.map keyP) = qs.map keyP ++ pairK ((ps.map keyP).drop i)) ∧ Packs wr w.heap.size q k d qs ∧ Hid (Far w.heap.size qs) ∧ Below w.heap.size w wr) (fun _ x4 _ => n - (intOf x4).toNat)
  case atStart => exact ⟨0, 0, none, 0, [], Nat.zero_le _, Nat.le_refl _, rfl, rfl, Lib.hid rfl, ⟨OwnR.nil, fun p hp => by cases hp⟩, Lib.hid (fun p hp => by cases hp), Below.refl _ _⟩
  case round =>
    obtain ⟨i, k, q, d, qs, hi, hk, rfl, rfl, hst, hQ, hFr, hB⟩ := hrel
    by_cases hin : i + 1 < n
    · have hi1 : i < ps.length := by rw [HL.out]; omega
      have hi2 : i + 1 < ps.length := by rw [HL.out]; omega
      have HC1 := Lib.hid (pk_cells (HP.out.1.1.below hB) hi1)
      have HC2 := Lib.hid (pk_cells (HP.out.1.1.below hB) hi2)
      have HS1 := Lib.hid (And.intro ((HP.out.1.2 ps[i] (List.getElem_mem hi1)).rd.below hB) (HP.out.2 ps[i] (List.getElem_mem hi1)))
      have HS2 := Lib.hid (And.intro ((HP.out.1.2 ps[i + 1] (List.getElem_mem hi2)).rd.below hB) (HP.out.2 ps[i + 1] (List.getElem_mem hi2)))
      have HST : Hid (pairK ((ps.map keyP).drop i) = (ps[i].often + ps[i + 1].often, ps[i].signs ++ ps[i + 1].signs) :: pairK ((ps.map keyP).drop (i + 2))) := Lib.hid (by
        rw [pairK_two (by rw [List.length_map]; exact hi2), List.getElem_map, List.getElem_map]; rfl)
      have HW := Lib.hid (And.intro hQ hB)
      have hbs := hB.size
      clear hQ hB
      generalize ps[i] = x at *
      generalize ps[i + 1] = y at *
      obtain ⟨o1, p1, c1, s1⟩ := x
      obtain ⟨o2, p2, c2, s2⟩ := y
      obtain ⟨n1, hn1⟩ : ∃ n1, Hid (s1.length = n1) := ⟨_, Lib.hid rfl⟩
      obtain ⟨n2, hn2⟩ : ∃ n2, Hid (s2.length = n2) := ⟨_, Lib.hid rfl⟩
      have ho1 : 0 ≤ o1 ∧ o1 ≤ 1000000000000 := HS1.out.2.2
      have ho2 : 0 ≤ o2 ∧ o2 ≤ 1000000000000 := HS2.out.2.2
      have hm1 : n1 ≤ 500000 := by rw [← hn1.out]; exact HS1.out.2.1
      have hm2 : n2 ≤ 500000 := by rw [← hn2.out]; exact HS2.out.2.1
      have HK1 : Hid (wr.cell? ⟨g, i * 2, none⟩ = some (.int .i64 o1) ∧ wr.cell? ⟨g, i * 2 + 1, none⟩ = some (.slice p1 n1 c1)) := Lib.hid (by rw [← hn1.out]; exact HC1.out)
      have HK2 : Hid (wr.cell? ⟨g, (i + 1) * 2, none⟩ = some (.int .i64 o2) ∧ wr.cell? ⟨g, (i + 1) * 2 + 1, none⟩ = some (.slice p2 n2 c2)) := Lib.hid (by rw [← hn2.out]; exact HC2.out)
      have HR1 : Hid (Rd wr zN p1 s1) := Lib.hid HS1.out.1
      have HR2 : Hid (Rd wr zN p2 s2) := Lib.hid HS2.out.1
      clear HC1 HC2 HS1 HS2
      have g1 : (i : Int) + 1 < (n : Int) := by omega
      have g2 : ((i : Int) + 1).toNat = i + 1 := by omega
      have g3 : (i : Int) < (n : Int) := by omega
      have hlt : i < n := by omega
      have g4 : (0 : Int) ≤ (i : Int) + 1 := by omega
      have g5 : IntKind.i64.wrap ((i : Int) + 1) = (i : Int) + 1 := by rw [IntKind.wrap_i64]; omega
      have g6 : IntKind.i64.wrap (o1 + o2) = o1 + o2 := by rw [IntKind.wrap_i64]; omega
      go_wp2_with fail
      refine wp_region_growT 28 (by kernel_rfl) (by kernel_rfl) (by rfl) (by kernel_rfl) ?_
      apply gw_val
      · intro a' w' hk
        refine ⟨wanted_none rfl, ?_⟩
        simp [Oper.looksAt, Op.operands, Call.operands, KnownAt, List.lookup, consD] at hk
        simp [execOp, Act.eval, hk, hlt, hin, g1, g2, g3, g4, g5, g6, go_sem]
        all_goals rfl
      apply gw_val
      · intro a' w' hk
        refine ⟨wanted_none rfl, ?_⟩
        simp [Oper.looksAt, Op.operands, Call.operands, KnownAt, List.lookup, consD] at hk
        simp [execOp, Act.eval, hk, hlt, hin, g1, g2, g3, g4, g5, g6, go_sem]
        all_goals rfl
      apply gw_val
      · intro a' w' hk
        refine ⟨wanted_none rfl, ?_⟩
        simp [Oper.looksAt, Op.operands, Call.operands, KnownAt, List.lookup, consD] at hk
        simp [execOp, Act.eval, hk, hlt, hin, g1, g2, g3, g4, g5, g6, go_sem]
        all_goals rfl
      apply gw_val
      · intro a' w' hk
        refine ⟨wanted_none rfl, ?_⟩
        simp [Oper.looksAt, Op.operands, Call.operands, KnownAt, List.lookup, consD] at hk
        simp [execOp, Act.eval, hk, hlt, hin, g1, g2, g3, g4, g5, g6, go_sem]
        all_goals rfl
      apply gw_val
      · intro a' w' hk
        refine ⟨wanted_none rfl, ?_⟩
        simp [Oper.looksAt, Op.operands, Call.operands, KnownAt, List.lookup, consD] at hk
        simp [execOp, Act.eval, hk, hlt, hin, g1, g2, g3, g4, g5, g6, go_sem]
        all_goals rfl
      refine gw_valB (fun v _ => v = .int .i64 o1) (mono_eq _) ?_ ?_
      · intro a' w' hb' hk
        refine ⟨wanted_none rfl, _, ?_, rfl⟩
        have q0 := cell_later2 HK1.out.1 hb'
        simp [Oper.looksAt, Op.operands, Call.operands, KnownAt, List.lookup, consD] at hk
        simp [execOp, Act.eval, hk, hlt, hin, g1, g2, g3, g4, g5, g6, q0, go_sem]
        all_goals rfl
      apply gw_val
      · intro a' w' hk
        refine ⟨wanted_none rfl, ?_⟩
        simp [Oper.looksAt, Op.operands, Call.operands, KnownAt, List.lookup, consD] at hk
        simp [execOp, Act.eval, hk, hlt, hin, g1, g2, g3, g4, g5, g6, go_sem]
        all_goals rfl
      apply gw_val
      · intro a' w' hk
        refine ⟨wanted_none rfl, ?_⟩
        simp [Oper.looksAt, Op.operands, Call.operands, KnownAt, List.lookup, consD] at hk
        simp [execOp, Act.eval, hk, hlt, hin, g1, g2, g3, g4, g5, g6, go_sem]
        all_goals rfl
      apply gw_val
      · intro a' w' hk
        refine ⟨wanted_none rfl, ?_⟩
        simp [Oper.looksAt, Op.operands, Call.operands, KnownAt, List.lookup, consD] at hk
        simp [execOp, Act.eval, hk, hlt, hin, g1, g2, g3, g4, g5, g6, go_sem]
        all_goals rfl
      apply gw_val
      · intro a' w' hk
        refine ⟨wanted_none rfl, ?_⟩
        simp [Oper.looksAt, Op.operands, Call.operands, KnownAt, List.lookup, consD] at hk
        simp [execOp, Act.eval, hk, hlt, hin, g1, g2, g3, g4, g5, g6, go_sem]
        all_goals rfl
      apply gw_val
      · intro a' w' hk
        refine ⟨wanted_none rfl, ?_⟩
        simp [Oper.looksAt, Op.operands, Call.operands, KnownAt, List.lookup, consD] at hk
        simp [execOp, Act.eval, hk, hlt, hin, g1, g2, g3, g4, g5, g6, go_sem]
        all_goals rfl
      refine gw_valB (fun v _ => v = .int .i64 o2) (mono_eq _) ?_ ?_
      · intro a' w' hb' hk
        refine ⟨wanted_none rfl, _, ?_, rfl⟩
        have q0 := cell_later2 HK2.out.1 hb'
        simp [Oper.looksAt, Op.operands, Call.operands, KnownAt, List.lookup, consD] at hk
        simp [execOp, Act.eval, hk, hlt, hin, g1, g2, g3, g4, g5, g6, q0, go_sem]
        all_goals rfl
      apply gw_val
      · intro a' w' hk
        refine ⟨wanted_none rfl, ?_⟩
        simp [Oper.looksAt, Op.operands, Call.operands, KnownAt, List.lookup, consD] at hk
        simp [execOp, Act.eval, hk, hlt, hin, g1, g2, g3, g4, g5, g6, go_sem]
        all_goals rfl
      apply gw_val
      · intro a' w' hk
        refine ⟨wanted_none rfl, ?_⟩
        simp [Oper.looksAt, Op.operands, Call.operands, KnownAt, List.lookup, consD] at hk
        simp [execOp, Act.eval, hk, hlt, hin, g1, g2, g3, g4, g5, g6, go_sem]
        all_goals rfl
      apply gw_val
      · intro a' w' hk
        refine ⟨wanted_none rfl, ?_⟩
        simp [Oper.looksAt, Op.operands, Call.operands, KnownAt, List.lookup, consD] at hk
        simp [execOp, Act.eval, hk, hlt, hin, g1, g2, g3, g4, g5, g6, go_sem]
        all_goals rfl
      apply gw_val
      · intro a' w' hk
        refine ⟨wanted_none rfl, ?_⟩
        simp [Oper.looksAt, Op.operands, Call.operands, KnownAt, List.lookup, consD] at hk
        simp [execOp, Act.eval, hk, hlt, hin, g1, g2, g3, g4, g5, g6, go_sem]
        all_goals rfl
      apply gw_val
      · intro a' w' hk
        refine ⟨wanted_none rfl, ?_⟩
        simp [Oper.looksAt, Op.operands, Call.operands, KnownAt, List.lookup, consD] at hk
        simp [execOp, Act.eval, hk, hlt, hin, g1, g2, g3, g4, g5, g6, go_sem]
        all_goals rfl
      refine gw_valB (fun v _ => v = .slice p1 n1 c1) (mono_eq _) ?_ ?_
      · intro a' w' hb' hk
        refine ⟨wanted_none rfl, _, ?_, rfl⟩
        have q0 := cell_later2 HK1.out.2 hb'
        simp [Oper.looksAt, Op.operands, Call.operands, KnownAt, List.lookup, consD] at hk
        simp [execOp, Act.eval, hk, hlt, hin, g1, g2, g3, g4, g5, g6, q0, go_sem]
        all_goals rfl
      apply gw_val
      · intro a' w' hk
        refine ⟨wanted_none rfl, ?_⟩
        simp [Oper.looksAt, Op.operands, Call.operands, KnownAt, List.lookup, consD] at hk
        simp [execOp, Act.eval, hk, hlt, hin, g1, g2, g3, g4, g5, g6, go_sem]
        all_goals rfl
      apply gw_val
      · intro a' w' hk
        refine ⟨wanted_none rfl, ?_⟩
        simp [Oper.looksAt, Op.operands, Call.operands, KnownAt, List.lookup, consD] at hk
        simp [execOp, Act.eval, hk, hlt, hin, g1, g2, g3, g4, g5, g6, go_sem]
        all_goals rfl
      apply gw_val
      · intro a' w' hk
        refine ⟨wanted_none rfl, ?_⟩
        simp [Oper.looksAt, Op.operands, Call.operands, KnownAt, List.lookup, consD] at hk
        simp [execOp, Act.eval, hk, hlt, hin, g1, g2, g3, g4, g5, g6, go_sem]
        all_goals rfl
      apply gw_val
      · intro a' w' hk
        refine ⟨wanted_none rfl, ?_⟩
        simp [Oper.looksAt, Op.operands, Call.operands, KnownAt, List.lookup, consD] at hk
        simp [execOp, Act.eval, hk, hlt, hin, g1, g2, g3, g4, g5, g6, go_sem]
        all_goals rfl
      apply gw_val
      · intro a' w' hk
        refine ⟨wanted_none rfl, ?_⟩
        simp [Oper.looksAt, Op.operands, Call.operands, KnownAt, List.lookup, consD] at hk
        simp [execOp, Act.eval, hk, hlt, hin, g1, g2, g3, g4, g5, g6, go_sem]
        all_goals rfl
      refine gw_valB (fun v _ => v = .slice p2 n2 c2) (mono_eq _) ?_ ?_
      · intro a' w' hb' hk
        refine ⟨wanted_none rfl, _, ?_, rfl⟩
        have q0 := cell_later2 HK2.out.2 hb'
        simp [Oper.looksAt, Op.operands, Call.operands, KnownAt, List.lookup, consD] at hk
        simp [execOp, Act.eval, hk, hlt, hin, g1, g2, g3, g4, g5, g6, q0, go_sem]
        all_goals rfl
      refine gw_newP (TwG (.slice p1 n1 c1) (.slice p2 n2 c2)) (mono_tw _ _) ?_ ?_
      · intro a' w' hb' hk
        refine ⟨wanted_none rfl, ?_⟩
        simp [Oper.looksAt, Op.operands, Call.operands, KnownAt, List.lookup, consD] at hk
        refine ⟨.slice (some ⟨w'.heap.size, 0, none⟩) 2 2, .cells #[.slice p1 n1 c1, .slice p2 n2 c2] 52, ?_, _, rfl, by simp, (Blk.new _ _ _).cell rfl, (Blk.new _ _ _).cell rfl⟩
        simp [execOp, Act.eval, hk, go_sem]
        all_goals rfl
      refine gw_callE 107 (fun args w' => ∃ v, args = #[v] ∧ TwG (.slice p1 n1 c1) (.slice p2 n2 c2) v w') (SgG wr.heap.size (s1 ++ s2)) (mono_sg _ _) ?_ ?_ ?_
      · intro a' w' hk
        refine ⟨wanted_none rfl, ?_⟩
        simp [Oper.looksAt, Op.operands, Call.operands, KnownAt, List.lookup, consD] at hk
        obtain ⟨b, hv, hb1, hb2, hb3⟩ := hk
        refine ⟨_, ⟨_, rfl, b, rfl, hb1, hb2, hb3⟩, ?_⟩
        simp [execOp, Act.eval, hv, go_sem]
        all_goals rfl
      · rintro w' args hb' ⟨v, rfl, b, rfl, hb1, hb2, hb3⟩
        have hbd : Below wr.heap.size wr w' := ((Below.refl wr.heap.size wr).drew).trans hb'
        refine (concatI_any b 0 2 p1 p2 n1 c1 n2 c2 s1 s2 w' hb1 hb2 hb3 hn1.out hn2.out hm1 hm2 (HR1.out.below hbd) (HR2.out.below hbd)).mono ?_
        rintro e w'' ⟨hbb, p, c, rfl, ho⟩
        exact ⟨_, rfl, ⟨p, c, rfl, ho.mono hbd.size⟩, hbb⟩
      refine gw_valB (PbG wr.heap.size (o1 + o2) (s1 ++ s2)) (mono_pb _ _ _) ?_ ?_
      · intro a' w' hb' hk
        refine ⟨wanted_none rfl, ?_⟩
        simp [Oper.looksAt, Op.operands, Call.operands, KnownAt, List.lookup, consD] at hk
        obtain ⟨kA, p, c, kB, kO⟩ := hk
        refine ⟨_, ?_, p, c, rfl, kO⟩
        simp [execOp, Act.eval, kA, kB, go_sem]
        all_goals rfl
      refine gw_newP (PrG wr.heap.size (o1 + o2) (s1 ++ s2)) (mono_pr _ _ _) ?_ ?_
      · intro a' w' hb' hk
        refine ⟨wanted_none rfl, ?_⟩
        simp [Oper.looksAt, Op.operands, Call.operands, KnownAt, List.lookup, consD] at hk
        obtain ⟨p, c, kB, kO⟩ := hk
        refine ⟨.slice (some ⟨w'.heap.size, 0, none⟩) 1 1, .cells #[.int .i64 (o1 + o2), .slice p (s1 ++ s2).length c] PK, ?_, _, p, c, rfl, Blk.new _ _ _, kO.alloc _⟩
        simp [execOp, Act.eval, kB, go_sem]
        all_goals rfl
      intro vs w3 hb3 hall _
      simp only [AllS, consD] at hall
      simp only [consD, putAllS, Act.put]
      obtain ⟨hA, -, -, -, -, -, -, -, -, -, -, -, -, -, -, -, -, -, -, -, -, -, -, -, -, -, -, hZ, -⟩ := hall
      obtain ⟨gg, a7, c7, hAe, hblk, hown7⟩ := hA
      rw [hAe, hZ]
      clear hAe hZ
      simp only [List.drop_succ_cons, List.drop_zero, List.setIfInBounds_toArray, List.set_cons_succ, List.set_cons_zero]
      have hb3' : Below wr.heap.size wr w3 := ((Below.refl wr.heap.size wr).drew).trans hb3
      have HO3 := Lib.hid (And.intro (HW.out.1.below hb3') (HW.out.2.trans (hb3'.mono HW.out.2.size)))
      have HG3 := Lib.hid (And.intro hblk hown7)
      have hbase := HO3.out.2.size
      clear hb3 hb3' hblk hown7
      refine wpList_pushRx slPk (by decide) rfl _ _ rfl (vs := [.int .i64 (o1 + o2), .slice a7 (s1 ++ s2).length c7]) HG3.out.1 rfl (by simp [Value.oneCell']) rfl HO3.out.1.1 rfl (by omega) (by unfold maxLen; omega) hbase ?_
      intro p3 c3 w4 hown3 hg3
      have HF : Hid (Packs w4 w.heap.size p3 (k + 1) c3 (qs ++ [⟨o1 + o2, a7, c7, s1 ++ s2⟩]) ∧ Below w.heap.size w w4) := Lib.hid (by
        refine ⟨⟨by rw [List.map_append]; exact hown3, fun p hp => ?_⟩, HO3.out.1.1.step HO3.out.2 hg3 hbase⟩
        rcases List.mem_append.1 hp with hp | hp
        · exact HO3.out.1.1.own_kept (HO3.out.1.2 p hp) (by decide) hg3
        · rw [List.mem_singleton.1 hp]
          exact HO3.out.1.1.own_kept (HG3.out.2.mono (Nat.zero_le _)) (by decide) hg3)
      have HF2 : Hid (Far w.heap.size (qs ++ [⟨o1 + o2, a7, c7, s1 ++ s2⟩])) := Lib.hid (fun p hp b hb => by
        rcases List.mem_append.1 hp with hp | hp
        · exact hFr.out p hp b hb
        · rw [List.mem_singleton.1 hp] at hb
          have := own_far HG3.out.2 b hb
          have := HW.out.2.size
          omega)
      clear hown3 hg3
      go_wp2
      go_roundw
      case rel => exact ⟨i + 2, k + 1, p3, c3, qs ++ [⟨o1 + o2, a7, c7, s1 ++ s2⟩], by omega, by omega, rfl, by go_num, Lib.hid (by rw [hst.out, HST.out, List.map_append, List.append_assoc]; rfl), HF.out.1, HF2, HF.out.2⟩
      case measure => simp [intOf] <;> omega
    · have HE : Hid (pairK ((ps.map keyP).drop i) = []) := Lib.hid (pairK_end (by rw [List.length_map, HL.out]; omega))
      have HF : Hid (PairP w ps (.returned (.slice q k d)) wr) := Lib.hid ⟨hB, q, k, d, qs, rfl, hQ, hFr.out, by rw [hst.out, HE.out, List.append_nil]⟩
      have g1 : ¬ (i : Int) + 1 < (n : Int) := by omega
      clear hQ hB
      go_wp2
      go_ret
      exact HF.out
end Go.Proofs.Ytbknkahakmfhkaa
