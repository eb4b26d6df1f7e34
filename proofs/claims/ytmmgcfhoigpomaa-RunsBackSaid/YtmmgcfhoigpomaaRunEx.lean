/- RunsExpand. -/
import Derived.Test.YtmmgcfhoigpomaaRunFix
namespace Go.Proofs.Ytmmgcfhoigpomaa
open Go.RowKit
set_option linter.unusedVariables false
set_option linter.unusedSimpArgs false

theorem own_ne {w : World} {B n c : Nat} {l : List Int} {p : Option Addr} (h : Own w B 3 iR p n c l) : ∀ g, p = some ⟨g, 0, none⟩ → g ≠ w.heap.size := by
  intro g hg
  have := (own_lt h g hg).1
  omega
set_option maxRecDepth 100000 in
set_option maxHeartbeats 16000000 in
theorem goRunsExpand (a : Option Addr) (n c : Nat) (ps : List (Int × Int)) (w : World) (hp : RdP w a n ps) (hi : ∀ p ∈ ps, (-9223372036854775808 ≤ p.1 ∧ p.1 ≤ 9223372036854775807) ∧ (-9223372036854775808 ≤ p.2 ∧ p.2 ≤ 9223372036854775807)) :
  Calls Try.prog 12 #[.slice a n c] w fun e w' => e = .returned (.bool true) ∧ Below w.heap.size w w' := by
  have HL := Lib.hid hp.1
  have HP := Lib.hid hp
  have HI := Lib.hid hi
  clear hp hi
  go_enter Try.func12, Try.ntmps12
  go_wp2_with fail
  refine (fixed08_any w).mono ?_
  rintro e w0 ⟨rfl, hB0⟩
  by_cases hbig : 400 < n
  · go_wp2
    go_ret
    exact ⟨rfl, hB0⟩
  · go_wp2
    go_loopw [3, 4, 18] (fun x3 x4 xi wr => ∃ (k c1 c2 : Nat) (p1 p2 : Option Addr), k ≤ n ∧ xi = .int .i64 k ∧ x3 = .slice p1 k c1 ∧ x4 = .slice p2 k c2 ∧ Own wr w.heap.size 3 iR p1 k c1 ((ps.take k).map Prod.fst) ∧ Own wr w.heap.size 3 iR p2 k c2 ((ps.take k).map Prod.snd) ∧ (∀ g, p1 = some ⟨g, 0, none⟩ → p2 ≠ some ⟨g, 0, none⟩) ∧ Below w.heap.size w wr) (fun _ _ xi _ => n - (intOf xi).toNat)
    case atStart => exact ⟨0, 0, 0, none, none, by omega, rfl, rfl, rfl, Own.nil, Own.nil, (fun g hg => by cases hg), hB0⟩
    case round =>
      clear hB0
      obtain ⟨k, c1, c2, p1, p2, hk, rfl, rfl, rfl, ho1, ho2, hd, hB⟩ := hrel
      by_cases hlt : k < n
      · have hkl : k < ps.length := by rw [HL.out]; exact hlt
        obtain ⟨b, off, rfl, hc0, hc1⟩ := (HP.out.later hB).at hkl
        have hii := HI.out ps[k] (List.getElem_mem hkl)
        have ht1 : (ps.take (k + 1)).map Prod.fst = (ps.take k).map Prod.fst ++ [ps[k].1] := by rw [List.take_succ_eq_append_getElem hkl, List.map_append]; rfl
        have ht2 : (ps.take (k + 1)).map Prod.snd = (ps.take k).map Prod.snd ++ [ps[k].2] := by rw [List.take_succ_eq_append_getElem hkl, List.map_append]; rfl
        generalize ps[k] = q at hc0 hc1 hii ht1 ht2
        obtain ⟨u, v⟩ := q
        simp only at hc0 hc1 hii ht1 ht2
        have HII := Lib.hid hii
        have HT := Lib.hid (And.intro ht1 ht2)
        have HLT := Lib.hid (And.intro (own_ne ho1) (own_ne ho2))
        have HOW := Lib.hid (And.intro (ho1.alloc (.cells #[.int .i64 u, .int .i64 v] 74)) (And.intro (ho2.alloc (.cells #[.int .i64 u, .int .i64 v] 74)) (And.intro hd (And.intro (Blk.new wr 74 #[.int .i64 u, .int .i64 v]) (show w.heap.size ≤ (wr.alloc (.cells #[.int .i64 u, .int .i64 v] 74)).heap.size from by have := hB.size; simp; omega)))))
        have HB := Lib.hid (hB.alloc hB.size (.cells #[.int .i64 u, .int .i64 v] 74))
        clear hii ht1 ht2 ho1 ho2 hd hB
        obtain ⟨q, hq⟩ : ∃ q, q = wr.heap.size := ⟨_, rfl⟩
        go_wp2_with fail
        clear hc0 hc1
        rw [← hq] at HOW HLT ⊢
        clear hq
        generalize wr.alloc (.cells #[.int .i64 u, .int .i64 v] 74) = w1 at HOW HB ⊢
        generalize (ps.take k).map Prod.fst = L1 at HOW HT
        generalize (ps.take k).map Prod.snd = L2 at HOW HT
        refine wp_region_growA TS (I3 w.heap.size w1.drew q 74 #[.int .i64 u, .int .i64 v] k c1 L1 u p1 k c2 L2 v p2 25 26 30 31 3 4) (by kernel_rfl) (by kernel_rfl) (by rfl) (I3.start HOW.out.1.drew HOW.out.2.1.drew HOW.out.2.2.1 (fun g hg => (HLT.out.1 g hg)) (fun g hg => (HLT.out.2 g hg)) HOW.out.2.2.2.1 (Below.refl _ _) HOW.out.2.2.2.2) ?_
        refine ga_val (.slice p1 k c1) (fun L a' w' _ _ h => h.step (h.1.pure (by decide) (by decide) (by decide) (by decide) (by decide) (by decide) (by decide) (by decide) _) (by decide) (by decide) (by decide) (by decide) (.inl (by decide)) (.inl (by decide))) ?_ ?_
        · intro a' w' L hL haf hi hk
          refine ⟨wanted_none rfl, ?_⟩
          simp [Oper.looksAt, Op.operands, Call.operands, KnownAt, List.lookup, consD] at hk
          simp [execOp, Act.eval, hk, go_sem]
          all_goals rfl
        refine ga_val (.pointer (some ⟨q, 0, none⟩)) (fun L a' w' _ _ h => h.step (h.1.pure (by decide) (by decide) (by decide) (by decide) (by decide) (by decide) (by decide) (by decide) _) (by decide) (by decide) (by decide) (by decide) (.inl (by decide)) (.inl (by decide))) ?_ ?_
        · intro a' w' L hL haf hi hk
          refine ⟨wanted_none rfl, ?_⟩
          simp [Oper.looksAt, Op.operands, Call.operands, KnownAt, List.lookup, consD] at hk
          simp [execOp, Act.eval, hk, go_sem]
          all_goals rfl
        refine ga_val (.int .i64 u) (fun L a' w' _ _ h => h.step (h.1.pure (by decide) (by decide) (by decide) (by decide) (by decide) (by decide) (by decide) (by decide) _) (by decide) (by decide) (by decide) (by decide) (.inl (by decide)) (.inl (by decide))) ?_ ?_
        · intro a' w' L hL haf hi hk
          refine ⟨wanted_none rfl, ?_⟩
          have hq := hi.1.blk.cell (i := 0) rfl
          simp [Oper.looksAt, Op.operands, Call.operands, KnownAt, List.lookup, consD] at hk
          simp [execOp, Act.eval, hk, go_sem, hq]
          all_goals rfl
        refine ga_to (fun a' w' => .slice (some ⟨w'.heap.size, 0, none⟩) 1 1) (fun w' => w'.alloc (.cells #[iR u] 3)) ?_ ?_
        · intro a' w' L hsz hL haf hi hk
          have hsz' : a'.tmps.size = 69 := hsz
          refine ⟨wanted_none rfl, ?_, hi.step (hi.1.lay1 hL (by decide) (by decide) (by decide) (by omega)) (by decide) (by decide) (by decide) (by decide) (.inl (by decide)) (.inl (by decide))⟩
          simp [Oper.looksAt, Op.operands, Call.operands, KnownAt, List.lookup, consD] at hk
          simp [execOp, Act.eval, hk, go_sem]
          all_goals rfl
        refine ga_op (fun _ _ => True) monoT_any ?_ ?_
        · intro a' w' L hsz hL haf hi hk
          refine ⟨wanted_none rfl, ?_⟩
          have hsz' : a'.tmps.size = 69 := hsz
          have hs : a'.tmps.getD 22 undef = (.slice p1 k c1) := known_of (hk 22 (by decide)) rfl
          have h3 : L 3 = true := haf ⟨3, .data⟩ (by simp) (by decide)
          have hi1 := hi.1
          obtain ⟨x1, x2, q1, q2, i1, i2, i3, i4, i5, i6⟩ := hi1
          obtain ⟨e0, hown⟩ := i1.1 hL
          obtain ⟨g9, e9, hx, hc⟩ := i1.2.2.1 h3 hL
          subst e9
          refine wp_of_list (ops := #[]) rfl ?_
          refine wpList_pushAt (E := iR) slIR rfl rfl (.tmp 22) (.tmp 25) rfl hs hown _ ⟨g9, 0, none⟩ hx hc rfl (by omega) (by unfold maxLen; omega) i6 ?_
          intro p' c' w'' hown' hg hp'
          simp only [wpList]
          exact ⟨trivial, _, rfl, trivial, hi.step (hi.1.app1 h3 hL (by decide) (by decide) (by omega) hown' hg hp') (by decide) (by decide) (by decide) (by decide) (.inr hL) (.inl (by decide))⟩
        refine ga_val (.slice p2 k c2) (fun L a' w' _ _ h => h.step (h.1.pure (by decide) (by decide) (by decide) (by decide) (by decide) (by decide) (by decide) (by decide) _) (by decide) (by decide) (by decide) (by decide) (.inl (by decide)) (.inl (by decide))) ?_ ?_
        · intro a' w' L hL haf hi hk
          refine ⟨wanted_none rfl, ?_⟩
          simp [Oper.looksAt, Op.operands, Call.operands, KnownAt, List.lookup, consD] at hk
          simp [execOp, Act.eval, hk, go_sem]
          all_goals rfl
        refine ga_val (.pointer (some ⟨q, 1, none⟩)) (fun L a' w' _ _ h => h.step (h.1.pure (by decide) (by decide) (by decide) (by decide) (by decide) (by decide) (by decide) (by decide) _) (by decide) (by decide) (by decide) (by decide) (.inl (by decide)) (.inl (by decide))) ?_ ?_
        · intro a' w' L hL haf hi hk
          refine ⟨wanted_none rfl, ?_⟩
          simp [Oper.looksAt, Op.operands, Call.operands, KnownAt, List.lookup, consD] at hk
          simp [execOp, Act.eval, hk, go_sem]
          all_goals rfl
        refine ga_val (.int .i64 v) (fun L a' w' _ _ h => h.step (h.1.pure (by decide) (by decide) (by decide) (by decide) (by decide) (by decide) (by decide) (by decide) _) (by decide) (by decide) (by decide) (by decide) (.inl (by decide)) (.inl (by decide))) ?_ ?_
        · intro a' w' L hL haf hi hk
          refine ⟨wanted_none rfl, ?_⟩
          have hq := hi.1.blk.cell (i := 1) rfl
          simp [Oper.looksAt, Op.operands, Call.operands, KnownAt, List.lookup, consD] at hk
          simp [execOp, Act.eval, hk, go_sem, hq]
          all_goals rfl
        refine ga_to (fun a' w' => .slice (some ⟨w'.heap.size, 0, none⟩) 1 1) (fun w' => w'.alloc (.cells #[iR v] 3)) ?_ ?_
        · intro a' w' L hsz hL haf hi hk
          have hsz' : a'.tmps.size = 69 := hsz
          refine ⟨wanted_none rfl, ?_, hi.step (hi.1.lay2 hL (by decide) (by decide) (by decide) (by omega)) (by decide) (by decide) (by decide) (by decide) (.inl (by decide)) (.inl (by decide))⟩
          simp [Oper.looksAt, Op.operands, Call.operands, KnownAt, List.lookup, consD] at hk
          simp [execOp, Act.eval, hk, go_sem]
          all_goals rfl
        refine ga_op (fun _ _ => True) monoT_any ?_ ?_
        · intro a' w' L hsz hL haf hi hk
          refine ⟨wanted_none rfl, ?_⟩
          have hsz' : a'.tmps.size = 69 := hsz
          have hs : a'.tmps.getD 27 undef = (.slice p2 k c2) := known_of (hk 27 (by decide)) rfl
          have h3 : L 8 = true := haf ⟨8, .data⟩ (by simp) (by decide)
          have hi1 := hi.1
          obtain ⟨x1, x2, q1, q2, i1, i2, i3, i4, i5, i6⟩ := hi1
          obtain ⟨e0, hown⟩ := i2.1 hL
          obtain ⟨g9, e9, hx, hc⟩ := i2.2.2.1 h3 hL
          subst e9
          refine wp_of_list (ops := #[]) rfl ?_
          refine wpList_pushAt (E := iR) slIR rfl rfl (.tmp 27) (.tmp 30) rfl hs hown _ ⟨g9, 0, none⟩ hx hc rfl (by omega) (by unfold maxLen; omega) i6 ?_
          intro p' c' w'' hown' hg hp'
          simp only [wpList]
          exact ⟨trivial, _, rfl, trivial, hi.step (hi.1.app2 h3 hL (by decide) (by decide) (by omega) hown' hg hp') (by decide) (by decide) (by decide) (by decide) (.inl (by decide)) (.inr hL)⟩
        refine ga_to (fun a' w' => a'.tmps.getD 26 undef) (fun w' => w') ?_ ?_
        · intro a' w' L hsz hL haf hi hk
          have hsz' : a'.tmps.size = 69 := hsz
          refine ⟨wanted_none rfl, ?_, hi.set1 (haf ⟨4, .data⟩ (by simp) (by decide)) ⟨by decide, by decide, by decide, by decide, by decide⟩ (by omega)⟩
          simp [execOp, Act.eval, go_sem]
          all_goals rfl
        refine ga_to (fun a' w' => a'.tmps.getD 31 undef) (fun w' => w') ?_ ?_
        · intro a' w' L hsz hL haf hi hk
          have hsz' : a'.tmps.size = 69 := hsz
          refine ⟨wanted_none rfl, ?_, hi.set2 (haf ⟨9, .data⟩ (by simp) (by decide)) ⟨by decide, by decide, by decide, by decide, by decide⟩ (by omega)⟩
          simp [execOp, Act.eval, go_sem]
          all_goals rfl
        intro vs w' L hall hi hval
        simp only [AllS, consD] at hval
        obtain ⟨p1', p2', k1', k2', e1, e2, ho1, ho2, hd', hb', hB'⟩ := hi.done hall
        simp only [consD, putAllS, Act.put] at e1 e2 ⊢
        have e1' : vs 3 = .slice p1' (k + 1) k1' := by simpa using e1
        have e2' : vs 4 = .slice p2' (k + 1) k2' := by simpa using e2
        rw [e1', e2']
        simp only [List.setIfInBounds_toArray, List.set_cons_succ, List.set_cons_zero]
        have hblk := hb'
        clear hb' HOW HLT e1 e2 e1' e2'
        have hB2 := HB.out.drew.trans hB'
        have HC := Lib.hid (And.intro (hblk.cell (i := 0) rfl) (hblk.cell (i := 1) rfl))
        have HO := Lib.hid (And.intro ho1 (And.intro ho2 (And.intro hd' hB2)))
        clear HB hB' hblk ho1 ho2 hd' hB2
        go_wp2_with fail
        refine wp_region_grow (by kernel_rfl) (by kernel_rfl) (by rfl) ?_
        apply gw_val
        · intro a' w' hk
          refine ⟨wanted_none rfl, ?_⟩
          simp [Oper.looksAt, Op.operands, Call.operands, KnownAt, List.lookup, consD] at hk
          simp [execOp, Act.eval, hk, go_sem]
          all_goals rfl
        refine gw_valB (fun x _ => x = .int .i64 u) (mono_eq _) ?_ ?_
        · intro a' w' hb' hk
          refine ⟨wanted_none rfl, _, ?_, rfl⟩
          have hq := cell_later2 HC.out.1 hb'
          simp [Oper.looksAt, Op.operands, Call.operands, KnownAt, List.lookup, consD] at hk
          simp [execOp, Act.eval, hk, hq, go_sem]
          all_goals rfl
        refine gw_call _ #[.int .i64 u] (fun x _ => x = .int .i64 ((bitsOf u : Nat) : Int)) (mono_eq _) (fun a' w' hk => ?_) (fun w' hb => (runBits_any u w').mono ?_) ?_
        · refine ⟨wanted_none rfl, ?_⟩
          simp [Oper.looksAt, Op.operands, Call.operands, KnownAt, List.lookup, consD] at hk
          simp [execOp, Act.eval, hk, go_sem]
          all_goals rfl
        · rintro e w'' ⟨rfl, rfl⟩
          exact ⟨_, rfl, rfl, Below.refl _ _⟩
        apply gw_val
        · intro a' w' hk
          refine ⟨wanted_none rfl, ?_⟩
          simp [Oper.looksAt, Op.operands, Call.operands, KnownAt, List.lookup, consD] at hk
          simp [execOp, Act.eval, hk, go_sem]
          all_goals rfl
        refine gw_valB (fun x _ => x = .int .i64 u) (mono_eq _) ?_ ?_
        · intro a' w' hb' hk
          refine ⟨wanted_none rfl, _, ?_, rfl⟩
          have hq := cell_later2 HC.out.1 hb'
          simp [Oper.looksAt, Op.operands, Call.operands, KnownAt, List.lookup, consD] at hk
          simp [execOp, Act.eval, hk, hq, go_sem]
          all_goals rfl
        refine gw_call _ #[.int .i64 u] (fun x _ => x = .int .i64 ((bitsOf u : Nat) : Int)) (mono_eq _) (fun a' w' hk => ?_) (fun w' hb => (refBits_any u w').mono ?_) ?_
        · refine ⟨wanted_none rfl, ?_⟩
          simp [Oper.looksAt, Op.operands, Call.operands, KnownAt, List.lookup, consD] at hk
          simp [execOp, Act.eval, hk, go_sem]
          all_goals rfl
        · rintro e w'' ⟨rfl, rfl⟩
          exact ⟨_, rfl, rfl, Below.refl _ _⟩
        refine gw_val ((.bool false)) ?_ ?_
        · intro a' w' hk
          refine ⟨wanted_none rfl, ?_⟩
          simp [Oper.looksAt, Op.operands, Call.operands, KnownAt, List.lookup, consD] at hk
          simp [execOp, Act.eval, hk, go_sem]
          all_goals rfl
        apply gw_val
        · intro a' w' hk
          refine ⟨wanted_none rfl, ?_⟩
          simp [Oper.looksAt, Op.operands, Call.operands, KnownAt, List.lookup, consD] at hk
          simp [execOp, Act.eval, hk, go_sem]
          all_goals rfl
        refine gw_valB (fun x _ => x = .agg #[.int .i64 u, .int .i64 v]) (mono_eq _) ?_ ?_
        · intro a' w' hb' hk
          refine ⟨wanted_guard (t := 39) rfl rfl (by simpa [KnownAt, List.lookup, consD] using hk 39 (by decide)), _, ?_, rfl⟩
          have hq := cell_later2 HC.out.1 hb'
          have hq2 := cell_later2 HC.out.2 hb'
          simp [Oper.looksAt, Op.operands, Call.operands, KnownAt, List.lookup, consD] at hk
          simp [execOp, Act.eval, hk, hq, hq2, go_sem]
          all_goals rfl
        refine gw_call _ #[.agg #[.int .i64 u, .int .i64 v]] (fun x _ => x = .bool (rightB u v)) (mono_eq _) (fun a' w' hk => ?_) (fun w' hb => (runRight_any u v w' HII.out.1 HII.out.2).mono ?_) ?_
        · refine ⟨wanted_guard (t := 39) rfl rfl (by simpa [KnownAt, List.lookup, consD] using hk 39 (by decide)), ?_⟩
          simp [Oper.looksAt, Op.operands, Call.operands, KnownAt, List.lookup, consD] at hk
          simp [execOp, Act.eval, hk, go_sem]
          all_goals rfl
        · rintro e w'' ⟨rfl, hB⟩
          exact ⟨_, rfl, rfl, hB⟩
        apply gw_val
        · intro a' w' hk
          refine ⟨wanted_guard (t := 39) rfl rfl (by simpa [KnownAt, List.lookup, consD] using hk 39 (by decide)), ?_⟩
          simp [Oper.looksAt, Op.operands, Call.operands, KnownAt, List.lookup, consD] at hk
          simp [execOp, Act.eval, hk, go_sem]
          all_goals rfl
        refine gw_valB (fun x _ => x = .int .i64 u) (mono_eq _) ?_ ?_
        · intro a' w' hb' hk
          refine ⟨wanted_guard (t := 39) rfl rfl (by simpa [KnownAt, List.lookup, consD] using hk 39 (by decide)), _, ?_, rfl⟩
          have hq := cell_later2 HC.out.1 hb'
          simp [Oper.looksAt, Op.operands, Call.operands, KnownAt, List.lookup, consD] at hk
          simp [execOp, Act.eval, hk, hq, go_sem]
          all_goals rfl
        apply gw_val
        · intro a' w' hk
          refine ⟨wanted_guard (t := 39) rfl rfl (by simpa [KnownAt, List.lookup, consD] using hk 39 (by decide)), ?_⟩
          simp [Oper.looksAt, Op.operands, Call.operands, KnownAt, List.lookup, consD] at hk
          simp [execOp, Act.eval, hk, go_sem]
          all_goals rfl
        refine gw_valB (fun x _ => x = .int .i64 v) (mono_eq _) ?_ ?_
        · intro a' w' hb' hk
          refine ⟨wanted_guard (t := 39) rfl rfl (by simpa [KnownAt, List.lookup, consD] using hk 39 (by decide)), _, ?_, rfl⟩
          have hq := cell_later2 HC.out.2 hb'
          simp [Oper.looksAt, Op.operands, Call.operands, KnownAt, List.lookup, consD] at hk
          simp [execOp, Act.eval, hk, hq, go_sem]
          all_goals rfl
        refine gw_call _ #[.int .i64 u, .int .i64 v] (fun x _ => x = .bool (rightB u v)) (mono_eq _) (fun a' w' hk => ?_) (fun w' hb => (refRight_any u v w' HII.out.1 HII.out.2).mono ?_) ?_
        · refine ⟨wanted_guard (t := 39) rfl rfl (by simpa [KnownAt, List.lookup, consD] using hk 39 (by decide)), ?_⟩
          simp [Oper.looksAt, Op.operands, Call.operands, KnownAt, List.lookup, consD] at hk
          simp [execOp, Act.eval, hk, go_sem]
          all_goals rfl
        · rintro e w'' ⟨rfl, rfl⟩
          exact ⟨_, rfl, rfl, Below.refl _ _⟩
        refine gw_val ((.bool false)) ?_ ?_
        · intro a' w' hk
          refine ⟨wanted_guard (t := 39) rfl rfl (by simpa [KnownAt, List.lookup, consD] using hk 39 (by decide)), ?_⟩
          simp [Oper.looksAt, Op.operands, Call.operands, KnownAt, List.lookup, consD] at hk
          simp [execOp, Act.eval, hk, go_sem]
          all_goals rfl
        refine gw_val ((.bool false)) ?_ ?_
        · intro a' w' hk
          refine ⟨wanted_none rfl, ?_⟩
          simp [Oper.looksAt, Op.operands, Call.operands, KnownAt, List.lookup, consD] at hk
          simp [execOp, Act.eval, hk, go_sem]
          all_goals rfl
        intro vs w3 hb3 hall
        simp only [AllS, consD] at hall
        simp only [consD, putAllS, Act.put]
        obtain ⟨h9, -⟩ := hall
        rw [h9]
        simp only [List.setIfInBounds_toArray, List.set_cons_succ, List.set_cons_zero]
        have hb3' : Below w'.heap.size w' w3 := ((Below.refl w'.heap.size w').drew).trans hb3
        go_wp2
        go_roundw
        case rel => exact ⟨k + 1, k1', k2', p1', p2', by omega, by go_num, rfl, rfl, by rw [HT.out.1]; exact HO.out.1.below hb3', by rw [HT.out.2]; exact HO.out.2.1.below hb3', HO.out.2.2.1, HO.out.2.2.2.trans (hb3'.mono HO.out.2.2.2.size)⟩
        case measure => simp [intOf]; omega
      · have hkn : k = n := by omega
        rw [hkn] at ho1 ho2 ⊢
        rw [List.take_of_length_le (by rw [HL.out]; omega)] at ho1 ho2
        have hr1 := ho1.rd
        have hr2 := ho2.rd
        clear hkn hk hlt ho1 ho2 hd
        go_wp2_with fail
        refine (runExpand_any a n c ps wr (by omega) (HP.out.later hB) HI.out).mono ?_
        unfold ExpPost
        rintro e w4 ⟨a4, n4, c4, rfl, hl4, hn4, hr4, hB4⟩
        have hr1' := hr1.below hB4
        have hr2' := hr2.below hB4
        have hB5 := hB.trans (hB4.mono hB.size)
        clear hr1 hr2 hB hB4
        go_wp2_with fail
        refine (refExpand_any p1 n c1 p2 c2 ps w4 (by omega) HL.out hr1' hr2' HI.out).mono ?_
        unfold ExpPost
        rintro e w6 ⟨a6, n6, c6, rfl, hl6, hn6, hr6, hB6⟩
        have hr4' := hr4.below hB6
        have hB7 := hB5.trans (hB6.mono hB5.size)
        clear hr1' hr2' hr4 hB5 hB6
        generalize (expGo ps []).1 = er at *
        generalize (expGo ps []).2 = res at *
        go_wp2_with fail
        refine (same_any a4 n4 c4 res a6 n6 c6 res w6 hl4 hl6 (by omega) (by omega) hr4' hr6).mono ?_
        rw [decide_eq_true rfl]
        rintro e w8 ⟨rfl, hB8⟩
        have hB9 := hB7.trans (hB8.mono hB7.size)
        go_wp2
        go_ret
        exact ⟨rfl, hB9⟩
theorem pairs_of {n : Nat} {F : Nat → Nat → Value} (hf : ∀ i, i < n → ∃ (x0 x1 : Int), F i 0 = .int .i64 x0 ∧ F i 1 = .int .i64 x1 ∧ (-9223372036854775808 ≤ x0 ∧ x0 ≤ 9223372036854775807) ∧ (-9223372036854775808 ≤ x1 ∧ x1 ≤ 9223372036854775807)) :
    ∃ ps : List (Int × Int), ps.length = n ∧ (∀ i (h : i < ps.length), F i 0 = .int .i64 ps[i].1 ∧ F i 1 = .int .i64 ps[i].2) ∧ ∀ p ∈ ps, (-9223372036854775808 ≤ p.1 ∧ p.1 ≤ 9223372036854775807) ∧ (-9223372036854775808 ≤ p.2 ∧ p.2 ≤ 9223372036854775807) := by
  refine ⟨(List.range n).map fun i => (intOf (F i 0), intOf (F i 1)), by simp, fun i h => ?_, fun p hp => ?_⟩
  · obtain ⟨x0, x1, h0, h1, -⟩ := hf i (by simpa using h)
    rw [List.getElem_map, List.getElem_range, h0, h1]; exact ⟨rfl, rfl⟩
  · obtain ⟨i, hi, rfl⟩ := List.mem_map.1 hp
    obtain ⟨x0, x1, h0, h1, h2⟩ := hf i (by simpa using hi)
    rw [h0, h1]; exact h2
theorem walkRunsExpand (a : Option Addr) (n c : Nat) (F : Nat → Nat → Value) (w : World) (hm : n ≤ c ∧ c ≤ maxLen) (hr : RdN w a n 2 F) (hf : ∀ i, i < n → ∃ (x0 x1 : Int), F i 0 = .int .i64 x0 ∧ F i 1 = .int .i64 x1 ∧ (-9223372036854775808 ≤ x0 ∧ x0 ≤ 9223372036854775807) ∧ (-9223372036854775808 ≤ x1 ∧ x1 ≤ 9223372036854775807)) :
  Calls Try.prog 12 #[.slice a n c] w fun e w' => e = .returned (.bool true) ∧ Below w.heap.size w w' := by
  obtain ⟨ps, h1, h2, h3⟩ := pairs_of hf
  exact goRunsExpand a n c ps w ⟨h1, F, hr, h2⟩ h3
end Go.Proofs.Ytmmgcfhoigpomaa
