/- slices.Grow and slices.Concat at packs. -/
import Derived.Test.YtbknkahakmfhkaaLenE
namespace Go.Proofs.Ytbknkahakmfhkaa
open Go.RowKit
set_option linter.unusedVariables false
set_option linter.unusedSimpArgs false

theorem pkOnes (l : List Pk) : ∀ r ∈ l.map pkE, ∀ v ∈ r, v.oneCell' = true := by
  intro r hr v hv
  obtain ⟨p, _, rfl⟩ := List.mem_map.1 hr
  exact pkE_one p v hv
theorem OwnR.cells {w : World} {base m g n c : Nat} {e : TypeId} {rs : List (List Value)} (h : OwnR w base e m (some ⟨g, 0, none⟩) n c rs) : ∀ (j : Nat) (u : Value), rs.flatten[j]? = some u → w.cell? ⟨g, j, none⟩ = some u := by
  obtain ⟨⟨h1, h2⟩, h3, h4⟩ := h
  intro j u hj
  rcases h2 with ⟨h5, _⟩ | ⟨g', cap, cur, hv, hg, hh, hnc, hcm, hcs, htake⟩
  · simp at h5
  · simp only [Value.slice.injEq, Option.some.injEq, Addr.mk.injEq, and_true, true_and] at hv
    obtain ⟨rfl, rfl⟩ := hv
    rw [cell_of_row w g _ cur _ (0, 0) hh]
    rw [← htake, List.getElem?_take] at hj
    split at hj
    · rwa [Array.getElem?_toList] at hj
    · cases hj
section
variable {P : Program} {w : World} {ops : Array Oper} {rest : List Oper} {o : Oper} {a : Act} {Q : Exit → Act → World → Prop} {base : Nat}
theorem wpList_catR {T e : TypeId} {z : Value} {m bytes : Nat} (hT : SlT P T e z m bytes) (hm : 0 < m) (hgd : o.guard = none) (s x : Operand)
    (ho : o.op = .call { callee := .builtin .append, args := #[s, x], argTypes := #[T, T] })
    {p : Option Addr} {n c : Nat} {rs : List (List Value)} (hs : a.eval s = .slice p n c) (hown : OwnR w base e m p n c rs)
    {g k d b2 : Nat} {rs2 : List (List Value)} (hx : a.eval x = .slice (some ⟨g, 0, none⟩) k d) (hown2 : OwnR w b2 e m (some ⟨g, 0, none⟩) k d rs2) (h1 : ∀ r ∈ rs2, ∀ v ∈ r, v.oneCell' = true)
    (hlen : (n + k) * bytes ≤ 140737488355328) (hlen2 : n + k ≤ maxLen) (hbase : base ≤ w.heap.size)
    (h : ∀ p' c' w', OwnR w' base e m p' (n + k) c' (rs ++ rs2) → w.grownBy w' (Value.slice p n c).ownBlock → wpList P ops Q rest (a.put o.dst (.slice p' (n + k) c')) w') :
    wpList P ops Q (o :: rest) a w := by
  obtain ⟨i, hi, hz0, hz1, hz2⟩ := info_parts hT.info
  refine wpList_append_own (P := P) w hgd s x _ ho base _ i _ m bytes hT.under hi hz0 hz1 hz2 hT.zsize hm _ n _ hs hown.1 ⟨g, 0, none⟩ k d rs2.flatten hx (by rw [flat_len hown2.2.2, hown2.2.1]) ?_ ?_ hlen2 hlen hbase ?_
  · intro j u hj
    rw [Addr.add_lit, Nat.zero_add]
    exact hown2.cells j u hj
  · intro u hu
    obtain ⟨r, hr, hu⟩ := List.mem_flatten.1 hu
    exact h1 r hr u hu
  · intro v' w' hr hg hiff
    have hv : ∃ p' c', v' = .slice p' (n + k) c' := by
      rcases hr.2 with ⟨h0, h2⟩ | ⟨g, cap, cur, hv, _⟩
      · exact ⟨none, 0, by rw [h0, h2]⟩
      · exact ⟨_, _, hv⟩
    obtain ⟨p', c', rfl⟩ := hv
    refine h p' c' w' ⟨by rw [List.flatten_append]; exact hr, by simp [hown.2.1, hown2.2.1], ?_⟩ hg
    intro r hr
    rcases List.mem_append.1 hr with hr | hr
    · exact hown.2.2 r hr
    · exact hown2.2.2 r hr
/-- append(nil, make([]T, k)...), cut to nothing. -/
theorem wpList_zerosR {T e : TypeId} {z : Value} {m bytes : Nat} (hT : SlT P T e z m bytes) (hm : 0 < m) (hgd : o.guard = none) (s x : Operand) {tn : TypeId} {kn kq : IntKind} (htn : P.underlying tn = some (.int kn))
    (ho : o.op = .call { callee := .builtin .append, args := #[s, x], argTypes := #[T, tn] })
    (hs : a.eval s = .slice none 0 0) (k : Nat) {i : Int} (hx : a.eval x = .int kq i) (hik : i = (k : Int)) (h0 : 0 < k)
    (hlen : k * bytes ≤ 140737488355328) (hlen2 : k ≤ maxLen)
    (h : ∀ g c' w', OwnR w' w.heap.size e m (some ⟨g, 0, none⟩) 0 c' [] → k ≤ c' → w.grownBy w' none → wpList P ops Q rest (a.put o.dst (.slice (some ⟨g, 0, none⟩) k c')) w') :
    wpList P ops Q (o :: rest) a w := by
  obtain ⟨ti, hti, hz0, hz2, hz3⟩ := info_parts hT.info
  subst hik
  have hmax := hlen2
  unfold maxLen at hlen2
  have hfit : Builtin.nextslicecap (0 + k) 0 * ti.bytes ≤ 281474976710656 := growslice_fits (by omega) (by rw [hz3, Nat.zero_add]; exact hlen)
  have hold := run_firstCells_none (P := P) w.drew ti.size 0 0 0
  have hrun := Lib.run_append_grow_zeros (P := P) (ty := o.type) w T tn e ti z kq kn hT.under htn hti hz0 none 0 0 [] hold k h0 (by omega) (by omega) (by omega) (by rw [hz3]; omega) hfit
  rw [Nat.zero_add] at hrun
  have hc1 := grownCap_ge w k 0 e
  refine Lib.wpList_append_run w hgd s x T tn ho _ _ hs hx _ _ hrun (h w.heap.size _ _ ⟨⟨by simp, .inr ⟨w.heap.size, _, _, rfl, Nat.le_refl _, heap_alloc_new w.drew _, Nat.zero_le _, grownCap_le_maxLen _ _ _ _ hmax, ?_, by simp⟩⟩, rfl, fun _ h => by cases h⟩ hc1 ?_)
  · have hzs := hT.zsize
    simp only [List.toArray, Array.size_append, Builtin.zeroCells, Array.size_map, Array.size_range, hzs]
    rw [Nat.sub_mul]
    have : k * m ≤ grownCap w k 0 e * m := Nat.mul_le_mul_right _ hc1
    simp
    omega
  · exact ⟨rfl, rfl, rfl, by simp, fun j hj _ => heap_alloc_old w.drew _ hj⟩
end
def GrowR (w : World) (e : Ending) (w' : World) : Prop := Below w.heap.size w w' ∧ ∃ p c, e = .returned (.slice p 0 c) ∧ OwnR w' w.heap.size PK 2 p 0 c []
set_option maxRecDepth 100000 in
set_option maxHeartbeats 8000000 in
theorem growR_any (n : Nat) (w : World) (hn : n ≤ 1000000) :
  Calls Try.prog 106 #[.slice none 0 0, .int .i64 n] w (GrowR w) := by
  by_cases h0 : 0 < n
  · have g1 : (0 : Int) < (n : Int) := by omega
    have g2 : ¬ (n : Int) < 0 := by omega
    go_enter Try.func106, Try.ntmps106
    go_wp2_with (at_builtin; refine wpList_zerosR slPk (by decide) rfl _ _ Try.underlying3 rfl rfl n rfl rfl h0 (by omega) (by unfold maxLen; omega) ?_; intro g5 c5 w5 hown5 hc5 hg5)
    have HF := Lib.hid (And.intro hown5 (grownBy_below hg5 (Nat.le_refl _) (fun k hk => by cases hk)))
    clear hown5 hg5
    go_wp2
    go_ret
    exact ⟨HF.out.2, _, _, rfl, HF.out.1⟩
  · have h0' : n = 0 := by omega
    subst h0'
    go_enter Try.func106, Try.ntmps106
    go_wp2
    go_ret
    exact ⟨Below.refl _ _, _, _, rfl, OwnR.nil⟩
def CatR (w : World) (n : Nat) (l : List Pk) (e : Ending) (w' : World) : Prop := Below w.heap.size w w' ∧ ∃ p c, e = .returned (.slice p n c) ∧ OwnR w' w.heap.size PK 2 p n c (l.map pkE)
set_option maxRecDepth 100000 in
set_option maxHeartbeats 8000000 in
theorem concatP_any (b off cap : Nat) (g1 g2 e1 e2 : Nat) (n1 c1 n2 c2 : Nat) (l1 l2 : List Pk) (w : World) (hb : b < w.heap.size)
  (k1 : w.cell? ⟨b, off, none⟩ = some (.slice (some ⟨g1, 0, none⟩) n1 c1)) (k2 : w.cell? ⟨b, off + 1, none⟩ = some (.slice (some ⟨g2, 0, none⟩) n2 c2)) 
  (hn1 : n1 ≤ 500000) (hn2 : n2 ≤ 500000) (r1 : OwnR w e1 PK 2 (some ⟨g1, 0, none⟩) n1 c1 (l1.map pkE)) (r2 : OwnR w e2 PK 2 (some ⟨g2, 0, none⟩) n2 c2 (l2.map pkE)) :
  Calls Try.prog 77 #[.slice (some ⟨b, off, none⟩) 2 cap] w (CatR w (n1 + n2) (l1 ++ l2)) := by
  have HR := Lib.hid (And.intro r1 r2)
  have HK := Lib.hid (And.intro k1 k2)
  clear r1 r2
  go_enter Try.func77, Try.ntmps77
  go_wp2
  go_loopw [3, 11] (fun x3 x11 wr => w = wr ∧ ((x3 = .int .i64 0 ∧ x11 = .int .i64 0) ∨ (x3 = .int .i64 (n1 : Int) ∧ x11 = .int .i64 1) ∨ (x3 = .int .i64 ((n1 : Int) + (n2 : Int)) ∧ x11 = .int .i64 2))) (fun _ x11 _ => 2 - (intOf x11).toNat)
  case atStart => exact ⟨rfl, .inl ⟨rfl, rfl⟩⟩
  case round =>
    obtain ⟨rfl, hrel⟩ := hrel
    rcases hrel with ⟨rfl, rfl⟩ | ⟨rfl, rfl⟩ | ⟨rfl, rfl⟩
    · have g1 : ¬ (n1 : Int) < 0 := by omega
      go_wp2
      go_roundw
      case rel => exact ⟨trivial, .inr (.inl ⟨rfl, rfl⟩)⟩
      case measure => simp [intOf]
    · have g1 : ¬ (n1 : Int) + (n2 : Int) < 0 := by omega
      go_wp2
      go_roundw
      case rel => exact ⟨trivial, .inr (.inr ⟨rfl, rfl⟩)⟩
      case measure => simp [intOf]
    · have HG := Lib.hid (growR_any (n1 + n2) w (by omega))
      rw [Int.natCast_add] at HG
      clear k1 k2
      go_wp2_with fail
      refine HG.out.mono ?_
      rintro e w1 ⟨hB1, q, d, rfl, ho⟩
      have HB1 := Lib.hid hB1
      have HO := Lib.hid ho
      have m1 : w1.cell? ⟨b, off, none⟩ = some (.slice (some ⟨g1, 0, none⟩) n1 c1) := by
        rw [show w1.cell? ⟨b, off, none⟩ = w.cell? ⟨b, off, none⟩ from World.cell?_of_block (hB1.block b hb)]; exact HK.out.1
      have m2 : w1.cell? ⟨b, off + 1, none⟩ = some (.slice (some ⟨g2, 0, none⟩) n2 c2) := by
        rw [show w1.cell? ⟨b, off + 1, none⟩ = w.cell? ⟨b, off + 1, none⟩ from World.cell?_of_block (hB1.block b hb)]; exact HK.out.2
      have hs1 := hB1.size
      clear hB1 ho
      go_wp2
      go_loopw [6, 27] (fun x6 x27 wr => (x27 = .int .i64 0 ∧ x6 = .slice q 0 d ∧ wr = w1) ∨ (∃ q1 d1, x27 = .int .i64 1 ∧ x6 = .slice q1 n1 d1 ∧ OwnR wr w.heap.size PK 2 q1 n1 d1 (l1.map pkE) ∧ Below w.heap.size w wr) ∨ (∃ q2 d2, x27 = .int .i64 2 ∧ x6 = .slice q2 (n1 + n2) d2 ∧ OwnR wr w.heap.size PK 2 q2 (n1 + n2) d2 ((l1 ++ l2).map pkE) ∧ Below w.heap.size w wr)) (fun _ x27 _ => 2 - (intOf x27).toNat)
      case atStart => exact .inl ⟨rfl, rfl, rfl⟩
      case round =>
        rcases hrel with ⟨rfl, rfl, rfl⟩ | ⟨q1, d1, rfl, rfl, ho1, hB2⟩ | ⟨q2, d2, rfl, rfl, ho2, hB2⟩
        · go_wp2_with (at_builtin; refine wpList_catR slPk (by decide) rfl _ _ rfl rfl HO.out rfl (HR.out.1.below HB1.out) (pkOnes _) (by omega) (by unfold maxLen; omega) hs1 ?_; intro a6 c6 w6 hown6 hg6)
          have HF := Lib.hid (And.intro hown6 (HO.out.step HB1.out hg6 hs1))
          clear hown6 hg6
          go_roundw
          case rel => exact .inr (.inl ⟨a6, c6, rfl, rfl, by have := HF.out.1; rwa [Nat.zero_add, List.nil_append] at this, HF.out.2⟩)
          case measure => simp [intOf]
        · have hs2 := hB2.size
          have m3 : wr.cell? ⟨b, off + 1, none⟩ = some (.slice (some ⟨g2, 0, none⟩) n2 c2) := by
            rw [show wr.cell? ⟨b, off + 1, none⟩ = w.cell? ⟨b, off + 1, none⟩ from World.cell?_of_block (hB2.block b hb)]; exact HK.out.2
          have HO2 := Lib.hid (And.intro ho1 hB2)
          clear ho1 hB2
          go_wp2_with (at_builtin; refine wpList_catR slPk (by decide) rfl _ _ rfl rfl HO2.out.1 rfl (HR.out.2.below HO2.out.2) (pkOnes _) (by omega) (by unfold maxLen; omega) hs2 ?_; intro a6 c6 w6 hown6 hg6)
          have HF := Lib.hid (And.intro hown6 (HO2.out.1.step HO2.out.2 hg6 hs2))
          clear hown6 hg6
          go_roundw
          case rel => exact .inr (.inr ⟨a6, c6, rfl, rfl, by rw [List.map_append]; exact HF.out.1, HF.out.2⟩)
          case measure => simp [intOf]
        · have HF : Hid (CatR w (n1 + n2) (l1 ++ l2) (.returned (.slice q2 (n1 + n2) d2)) wr) := Lib.hid ⟨hB2, q2, d2, rfl, ho2⟩
          clear ho2 hB2
          go_wp2
          go_ret
          exact HF.out
end Go.Proofs.Ytbknkahakmfhkaa
