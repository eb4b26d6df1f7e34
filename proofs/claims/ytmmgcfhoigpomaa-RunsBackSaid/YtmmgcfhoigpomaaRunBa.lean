/- RunsBack. -/
import Derived.Test.YtmmgcfhoigpomaaRunEx
namespace Go.Proofs.Ytmmgcfhoigpomaa
open Go.RowKit
set_option linter.unusedVariables false
set_option linter.unusedSimpArgs false

theorem ofErr_bad {l : List Int} (h : l.any badB = true) : ofErr l = 5 := by unfold ofErr; rw [if_pos h]
theorem ofErr_many {l : List Int} (h : l.any badB = false) (h2 : 320 < l.length) : ofErr l = 4 := by unfold ofErr; rw [h, if_neg (by simp), if_pos h2]
theorem ofErr_ok {l : List Int} (h : l.any badB = false) (h2 : ¬ 320 < l.length) : ofErr l = 0 := by unfold ofErr; rw [h, if_neg (by simp), if_neg h2]
theorem ofRes_bad {l : List Int} {x : Int} (h : ofErr l = x) (h0 : x ≠ 0) : ofRes l = [] := by unfold ofRes; rw [h, if_neg h0]
theorem splitGo_mem (s : Int) : ∀ (f n : Nat), ∀ p ∈ (splitGo s f n).1, p.1 = s ∧ 0 ≤ p.2 ∧ p.2 ≤ 127 := by
  have hle := leastOf_le s
  have hhi := high_ge s
  have hb : 2 ^ bitsOf s ≤ 2 ^ 7 := Nat.pow_le_pow_right (by omega) (bitsOf_le s)
  have hh : highOf s = leastOf s + 2 ^ bitsOf s - 1 := rfl
  intro f
  induction f with
  | zero => intro n p hp; simp [splitGo] at hp
  | succ f ih =>
    intro n p hp
    rw [splitGo] at hp
    by_cases h : n < leastOf s
    · rw [if_pos h] at hp; simp at hp
    · rw [if_neg h] at hp
      rcases List.mem_cons.1 hp with rfl | hp
      · have h1 : min n (highOf s) ≤ highOf s := Nat.min_le_right _ _
        have h2 : leastOf s ≤ min n (highOf s) := Nat.le_min.2 ⟨by omega, hhi⟩
        exact ⟨rfl, by show (0 : Int) ≤ ((min n (highOf s) : Nat) : Int) - leastOf s; omega, by show ((min n (highOf s) : Nat) : Int) - leastOf s ≤ 127; omega⟩
      · exact ih _ p hp
theorem headOf_mem (x : Int) (n : Nat) (hx : 0 ≤ x ∧ x ≤ 15) : ∀ p ∈ headOf x n, (0 ≤ p.1 ∧ p.1 ≤ 18) ∧ 0 ≤ p.2 ∧ p.2 ≤ 127 := by
  have hrep : ∀ k, ∀ p ∈ List.replicate k (x, (0 : Int)), (0 ≤ p.1 ∧ p.1 ≤ 18) ∧ 0 ≤ p.2 ∧ p.2 ≤ 127 := fun k p hp => by
    rw [(List.mem_replicate.1 hp).2]; exact ⟨⟨hx.1, by show x ≤ 18; omega⟩, by show (0 : Int) ≤ 0; omega, by show (0 : Int) ≤ 127; omega⟩
  have hsp : ∀ s, 0 ≤ s ∧ s ≤ 18 → ∀ f n, ∀ p ∈ (splitGo s f n).1, (0 ≤ p.1 ∧ p.1 ≤ 18) ∧ 0 ≤ p.2 ∧ p.2 ≤ 127 := fun s hs f n p hp => by
    obtain ⟨h1, h2⟩ := splitGo_mem s f n p hp
    rw [h1]; exact ⟨hs, h2⟩
  intro p hp
  unfold headOf at hp
  split at hp
  · rcases List.mem_append.1 hp with hp | hp
    · rcases List.mem_append.1 hp with hp | hp
      · exact hsp 18 (by decide) _ _ p hp
      · exact hsp 17 (by decide) _ _ p hp
    · exact hrep _ p hp
  · rcases List.mem_append.1 hp with hp | hp
    · rcases List.mem_append.1 hp with hp | hp
      · exact hrep 1 p (by simpa using hp)
      · exact hsp 16 (by decide) _ _ p hp
    · exact hrep _ p hp
theorem ofGo_mem : ∀ (f : Nat) (l : List Int), (∀ x ∈ l, 0 ≤ x ∧ x ≤ 15) → ∀ p ∈ ofGo f l, (0 ≤ p.1 ∧ p.1 ≤ 18) ∧ 0 ≤ p.2 ∧ p.2 ≤ 127 := by
  intro f
  induction f with
  | zero => intro l _ p hp; simp [ofGo] at hp
  | succ f ih =>
    intro l hl p hp
    cases l with
    | nil => simp [ofGo] at hp
    | cons x r =>
      rw [ofGo] at hp
      rcases List.mem_append.1 hp with hp | hp
      · exact headOf_mem x _ (hl x (by simp)) p hp
      · exact ih _ (fun y hy => hl y (List.mem_of_mem_drop hy)) p hp
theorem ofRes_range {l : List Int} (h : ofErr l = 0) : ∀ p ∈ ofRes l, (-9223372036854775808 ≤ p.1 ∧ p.1 ≤ 9223372036854775807) ∧ (-9223372036854775808 ≤ p.2 ∧ p.2 ≤ 9223372036854775807) := by
  have hb : ∀ x ∈ l, 0 ≤ x ∧ x ≤ 15 := fun x hx => by
    have h1 : l.any badB = false := by
      cases hc : l.any badB with
      | false => rfl
      | true => rw [ofErr_bad hc] at h; cases h
    have h2 : ¬ badB x = true := fun hc => by
      have := List.any_eq_true.2 ⟨x, hx, hc⟩
      rw [h1] at this; cases this
    unfold badB at h2
    simp at h2
    omega
  intro p hp
  unfold ofRes at hp
  rw [if_pos h] at hp
  have := ofGo_mem _ _ hb p hp
  omega
set_option maxRecDepth 100000 in
set_option maxHeartbeats 16000000 in
theorem walkRunsBack (a : Option Addr) (n c : Nat) (l : List Int) (w : World) (hl : l.length = n) (hm : n ≤ c ∧ c ≤ maxLen) (hr : Rd w iR a l) (hi : ∀ x ∈ l, -9223372036854775808 ≤ x ∧ x ≤ 9223372036854775807) :
  Calls Try.prog 13 #[.slice a n c] w fun e w' => e = .returned (.bool true) ∧ Below w.heap.size w w' := by
  have HL := Lib.hid hl
  have HR := Lib.hid hr
  have HI := Lib.hid hi
  have HM := Lib.hid hm
  clear hl hr hi hm
  go_enter Try.func13, Try.ntmps13
  go_wp2_with fail
  refine (fixed08_any w).mono ?_
  rintro e w0 ⟨rfl, hB0⟩
  by_cases hbig : 400 < n
  · go_wp2
    go_ret
    exact ⟨rfl, hB0⟩
  · go_wp2_with fail
    refine (runOf_any a n c l w0 HL.out (by omega) HM.out.1 HM.out.2 (HR.out.below hB0)).mono ?_
    unfold OfPost
    rintro e w2 ⟨ao, no, co, rfl, hno, hnl, hro, hBo⟩
    have hB2 := hB0.trans (hBo.mono hB0.size)
    clear hBo hB0
    obtain ⟨er, her⟩ : ∃ er, er = ofErr l := ⟨_, rfl⟩
    obtain ⟨rs, hrs⟩ : ∃ rs, rs = ofRes l := ⟨_, rfl⟩
    rw [← her]
    rw [← hrs] at hro
    have HE := Lib.hid her
    have HRS := Lib.hid hrs
    have HRO := Lib.hid hro
    clear her hrs hro
    go_wp2
    go_loopw [25] (fun xi wr => ∃ k : Nat, k ≤ n ∧ xi = .int .i64 k ∧ (l.take k).any badB = false ∧ w2 = wr) (fun xi _ => n - (intOf xi).toNat)
    case atStart => exact ⟨0, by omega, rfl, rfl, rfl⟩
    case round =>
      obtain ⟨k, hk, rfl, hany, rfl⟩ := hrel
      by_cases hlt : k < n
      · have hkl : k < l.length := by rw [HL.out]; exact hlt
        obtain ⟨b, off, rfl, -, hck⟩ := (HR.out.below hB2).at hkl
        unfold iR at hck
        have hst : (l.take (k + 1)).any badB = ((l.take k).any badB || badB l[k]) := by rw [List.take_succ_eq_append_getElem hkl, List.any_append]; simp
        have hall : badB l[k] = true → l.any badB = true := fun h => List.any_eq_true.2 ⟨l[k], List.getElem_mem hkl, h⟩
        rw [hany] at hst
        have HST := Lib.hid hst
        have HALL := Lib.hid hall
        clear hst hall hany
        generalize l[k] = x at hck HST HALL
        by_cases hbx : x < 0 ∨ x > 15
        · have hb : badB x = true := by unfold badB; simpa using hbx
          have h5 := ofErr_bad (HALL.out hb)
          have h6 := ofRes_bad h5 (by decide)
          have hn0 : no = 0 := by have := HRO.out.1; rw [HRS.out, h6] at this; exact this.symm
          have he5 : er = 5 := HE.out.trans h5
          subst hn0
          subst he5
          clear h5 h6 hb
          by_cases h0 : x < 0
          · clear hbx
            go_wp2
            go_ret
            exact ⟨rfl, hB2⟩
          · have h15 : 15 < x := by omega
            clear hbx
            go_wp2
            go_ret
            exact ⟨rfl, hB2⟩
        · have hb : badB x = false := by
            unfold badB
            simp
            omega
          have h1 : ¬ x < 0 := by omega
          have h2 : ¬ 15 < x := by omega
          have hst := HST.out
          rw [hb] at hst
          have HST2 := Lib.hid hst
          clear hbx HST HALL hb hst
          go_wp2
          go_roundw
          case rel => exact ⟨k + 1, by omega, by go_num, HST2.out, trivial⟩
          case measure => simp [intOf]; omega
      · have hkn : k = n := by omega
        rw [hkn, List.take_of_length_le (by rw [HL.out]; omega)] at hany
        by_cases hmany : 320 < n
        · have h5 := ofErr_many hany (by rw [HL.out]; exact hmany)
          have h6 := ofRes_bad h5 (by decide)
          have hn0 : no = 0 := by have := HRO.out.1; rw [HRS.out, h6] at this; exact this.symm
          have he5 : er = 4 := HE.out.trans h5
          subst hn0
          subst he5
          clear h5 h6 hany
          rw [hkn]
          clear hkn hk hlt
          go_wp2
          go_ret
          exact ⟨rfl, hB2⟩
        · have h5 := ofErr_ok hany (by rw [HL.out]; exact hmany)
          have hbk := of_back l h5
          have he5 : er = 0 := HE.out.trans h5
          subst he5
          rw [← HRS.out] at hbk
          have HBK := Lib.hid hbk
          have HRG := Lib.hid (show ∀ p ∈ rs, (-9223372036854775808 ≤ p.1 ∧ p.1 ≤ 9223372036854775807) ∧ (-9223372036854775808 ≤ p.2 ∧ p.2 ≤ 9223372036854775807) from by rw [HRS.out]; exact ofRes_range h5)
          clear h5 hbk hany HE
          rw [hkn]
          clear hkn hk hlt
          go_wp2
          go_loopw [7, 8, 55] (fun x3 x4 xi wr => ∃ (k c1 c2 : Nat) (p1 p2 : Option Addr), k ≤ no ∧ xi = .int .i64 k ∧ x3 = .slice p1 k c1 ∧ x4 = .slice p2 k c2 ∧ Own wr w2.heap.size 3 iR p1 k c1 ((rs.take k).map Prod.fst) ∧ Own wr w2.heap.size 3 iR p2 k c2 ((rs.take k).map Prod.snd) ∧ (∀ g, p1 = some ⟨g, 0, none⟩ → p2 ≠ some ⟨g, 0, none⟩) ∧ Below w2.heap.size w2 wr) (fun _ _ xi _ => no - (intOf xi).toNat)
          case atStart => exact ⟨0, 0, 0, none, none, by omega, rfl, rfl, rfl, Own.nil, Own.nil, (fun g hg => by cases hg), Below.refl _ _⟩
          case round =>
            obtain ⟨k, c1, c2, p1, p2, hk, rfl, rfl, rfl, ho1, ho2, hd, hB⟩ := hrel
            have hsz := HRO.out.1
            by_cases hlt : k < no
            · have hkl : k < rs.length := by omega
              obtain ⟨b, off, rfl, hc0, hc1⟩ := (HRO.out.later hB).at hkl
              have ht1 : (rs.take (k + 1)).map Prod.fst = (rs.take k).map Prod.fst ++ [rs[k].1] := by rw [List.take_succ_eq_append_getElem hkl, List.map_append]; rfl
              have ht2 : (rs.take (k + 1)).map Prod.snd = (rs.take k).map Prod.snd ++ [rs[k].2] := by rw [List.take_succ_eq_append_getElem hkl, List.map_append]; rfl
              generalize rs[k] = q at hc0 hc1 ht1 ht2
              obtain ⟨u, v⟩ := q
              simp only at hc0 hc1 ht1 ht2
              have HT := Lib.hid (And.intro ht1 ht2)
              have HLT := Lib.hid (And.intro (own_ne ho1) (own_ne ho2))
              have HOW := Lib.hid (And.intro (ho1.alloc (.cells #[.int .i64 u, .int .i64 v] 74)) (And.intro (ho2.alloc (.cells #[.int .i64 u, .int .i64 v] 74)) (And.intro hd (And.intro (Blk.new wr 74 #[.int .i64 u, .int .i64 v]) (show w2.heap.size ≤ (wr.alloc (.cells #[.int .i64 u, .int .i64 v] 74)).heap.size from by have := hB.size; simp; omega)))))
              have HB := Lib.hid (hB.alloc hB.size (.cells #[.int .i64 u, .int .i64 v] 74))
              clear ht1 ht2 ho1 ho2 hd hB hsz hkl
              obtain ⟨q, hq⟩ : ∃ q, q = wr.heap.size := ⟨_, rfl⟩
              go_wp2_with fail
              clear hc0 hc1
              rw [← hq] at HOW HLT ⊢
              clear hq
              generalize wr.alloc (.cells #[.int .i64 u, .int .i64 v] 74) = w1 at HOW HB ⊢
              generalize (rs.take k).map Prod.fst = L1 at HOW HT
              generalize (rs.take k).map Prod.snd = L2 at HOW HT
              refine wp_region_growA TS (I3 w2.heap.size w1.drew q 74 #[.int .i64 u, .int .i64 v] k c1 L1 u p1 k c2 L2 v p2 62 63 67 68 7 8) (by kernel_rfl) (by kernel_rfl) (by rfl) (I3.start HOW.out.1.drew HOW.out.2.1.drew HOW.out.2.2.1 (fun g hg => (HLT.out.1 g hg)) (fun g hg => (HLT.out.2 g hg)) HOW.out.2.2.2.1 (Below.refl _ _) HOW.out.2.2.2.2) ?_
              refine ga_val (.slice p1 k c1) (fun L a' w' _ _ h => h.step (h.1.pure (by decide) (by decide) (by decide) (by decide) (by decide) (by decide) (by decide) (by decide) _) (by decide) (by decide) (by decide) (by decide) (.inl (by decide)) (.inl (by decide))) ?_ ?_
              · intro a' w' L hL haf hi hk
                refine ⟨wanted_none rfl, ?_⟩
                simp [Oper.looksAt, Op.operands, Call.operands, KnownAt, List.lookup, consD] at hk
                simp [execOp, Act.eval, hk, go_sem]
                all_goals rfl
              refine ga_val (.pointer (some ⟨q, 0, none⟩)) (fun L a' w' _ _ h => h.step (h.1.pure (by decide) (by decide) (by decide) (by decide) (by decide) (by decide) (by decide) (by decide) _) (by decide) (by decide) (by decide) (by decide) (.inl (by decide)) (.inl (by decide))) ?_ ?_
              · intro a' w' L hL haf hi hk
                refine ⟨wanted_none rfl, ?_⟩
                simp [Oper.looksAt, Op.operands, Call.operands, KnownAt, List.lookup, consD] at hk
                simp [execOp, Act.eval, hk, go_sem]
                all_goals rfl
              refine ga_val (.int .i64 u) (fun L a' w' _ _ h => h.step (h.1.pure (by decide) (by decide) (by decide) (by decide) (by decide) (by decide) (by decide) (by decide) _) (by decide) (by decide) (by decide) (by decide) (.inl (by decide)) (.inl (by decide))) ?_ ?_
              · intro a' w' L hL haf hi hk
                refine ⟨wanted_none rfl, ?_⟩
                have hq := hi.1.blk.cell (i := 0) rfl
                simp [Oper.looksAt, Op.operands, Call.operands, KnownAt, List.lookup, consD] at hk
                simp [execOp, Act.eval, hk, go_sem, hq]
                all_goals rfl
              refine ga_to (fun a' w' => .slice (some ⟨w'.heap.size, 0, none⟩) 1 1) (fun w' => w'.alloc (.cells #[iR u] 3)) ?_ ?_
              · intro a' w' L hsz hL haf hi hk
                have hsz' : a'.tmps.size = 94 := hsz
                refine ⟨wanted_none rfl, ?_, hi.step (hi.1.lay1 hL (by decide) (by decide) (by decide) (by omega)) (by decide) (by decide) (by decide) (by decide) (.inl (by decide)) (.inl (by decide))⟩
                simp [Oper.looksAt, Op.operands, Call.operands, KnownAt, List.lookup, consD] at hk
                simp [execOp, Act.eval, hk, go_sem]
                all_goals rfl
              refine ga_op (fun _ _ => True) monoT_any ?_ ?_
              · intro a' w' L hsz hL haf hi hk
                refine ⟨wanted_none rfl, ?_⟩
                have hsz' : a'.tmps.size = 94 := hsz
                have hs : a'.tmps.getD 59 undef = (.slice p1 k c1) := known_of (hk 59 (by decide)) rfl
                have h3 : L 3 = true := haf ⟨3, .data⟩ (by simp) (by decide)
                have hi1 := hi.1
                obtain ⟨x1, x2, q1, q2, i1, i2, i3, i4, i5, i6⟩ := hi1
                obtain ⟨e0, hown⟩ := i1.1 hL
                obtain ⟨g9, e9, hx, hc⟩ := i1.2.2.1 h3 hL
                subst e9
                refine wp_of_list (ops := #[]) rfl ?_
                refine wpList_pushAt (E := iR) slIR rfl rfl (.tmp 59) (.tmp 62) rfl hs hown _ ⟨g9, 0, none⟩ hx hc rfl (by omega) (by unfold maxLen; omega) i6 ?_
                intro p' c' w'' hown' hg hp'
                simp only [wpList]
                exact ⟨trivial, _, rfl, trivial, hi.step (hi.1.app1 h3 hL (by decide) (by decide) (by omega) hown' hg hp') (by decide) (by decide) (by decide) (by decide) (.inr hL) (.inl (by decide))⟩
              refine ga_val (.slice p2 k c2) (fun L a' w' _ _ h => h.step (h.1.pure (by decide) (by decide) (by decide) (by decide) (by decide) (by decide) (by decide) (by decide) _) (by decide) (by decide) (by decide) (by decide) (.inl (by decide)) (.inl (by decide))) ?_ ?_
              · intro a' w' L hL haf hi hk
                refine ⟨wanted_none rfl, ?_⟩
                simp [Oper.looksAt, Op.operands, Call.operands, KnownAt, List.lookup, consD] at hk
                simp [execOp, Act.eval, hk, go_sem]
                all_goals rfl
              refine ga_val (.pointer (some ⟨q, 1, none⟩)) (fun L a' w' _ _ h => h.step (h.1.pure (by decide) (by decide) (by decide) (by decide) (by decide) (by decide) (by decide) (by decide) _) (by decide) (by decide) (by decide) (by decide) (.inl (by decide)) (.inl (by decide))) ?_ ?_
              · intro a' w' L hL haf hi hk
                refine ⟨wanted_none rfl, ?_⟩
                simp [Oper.looksAt, Op.operands, Call.operands, KnownAt, List.lookup, consD] at hk
                simp [execOp, Act.eval, hk, go_sem]
                all_goals rfl
              refine ga_val (.int .i64 v) (fun L a' w' _ _ h => h.step (h.1.pure (by decide) (by decide) (by decide) (by decide) (by decide) (by decide) (by decide) (by decide) _) (by decide) (by decide) (by decide) (by decide) (.inl (by decide)) (.inl (by decide))) ?_ ?_
              · intro a' w' L hL haf hi hk
                refine ⟨wanted_none rfl, ?_⟩
                have hq := hi.1.blk.cell (i := 1) rfl
                simp [Oper.looksAt, Op.operands, Call.operands, KnownAt, List.lookup, consD] at hk
                simp [execOp, Act.eval, hk, go_sem, hq]
                all_goals rfl
              refine ga_to (fun a' w' => .slice (some ⟨w'.heap.size, 0, none⟩) 1 1) (fun w' => w'.alloc (.cells #[iR v] 3)) ?_ ?_
              · intro a' w' L hsz hL haf hi hk
                have hsz' : a'.tmps.size = 94 := hsz
                refine ⟨wanted_none rfl, ?_, hi.step (hi.1.lay2 hL (by decide) (by decide) (by decide) (by omega)) (by decide) (by decide) (by decide) (by decide) (.inl (by decide)) (.inl (by decide))⟩
                simp [Oper.looksAt, Op.operands, Call.operands, KnownAt, List.lookup, consD] at hk
                simp [execOp, Act.eval, hk, go_sem]
                all_goals rfl
              refine ga_op (fun _ _ => True) monoT_any ?_ ?_
              · intro a' w' L hsz hL haf hi hk
                refine ⟨wanted_none rfl, ?_⟩
                have hsz' : a'.tmps.size = 94 := hsz
                have hs : a'.tmps.getD 64 undef = (.slice p2 k c2) := known_of (hk 64 (by decide)) rfl
                have h3 : L 8 = true := haf ⟨8, .data⟩ (by simp) (by decide)
                have hi1 := hi.1
                obtain ⟨x1, x2, q1, q2, i1, i2, i3, i4, i5, i6⟩ := hi1
                obtain ⟨e0, hown⟩ := i2.1 hL
                obtain ⟨g9, e9, hx, hc⟩ := i2.2.2.1 h3 hL
                subst e9
                refine wp_of_list (ops := #[]) rfl ?_
                refine wpList_pushAt (E := iR) slIR rfl rfl (.tmp 64) (.tmp 67) rfl hs hown _ ⟨g9, 0, none⟩ hx hc rfl (by omega) (by unfold maxLen; omega) i6 ?_
                intro p' c' w'' hown' hg hp'
                simp only [wpList]
                exact ⟨trivial, _, rfl, trivial, hi.step (hi.1.app2 h3 hL (by decide) (by decide) (by omega) hown' hg hp') (by decide) (by decide) (by decide) (by decide) (.inl (by decide)) (.inr hL)⟩
              refine ga_to (fun a' w' => a'.tmps.getD 63 undef) (fun w' => w') ?_ ?_
              · intro a' w' L hsz hL haf hi hk
                have hsz' : a'.tmps.size = 94 := hsz
                refine ⟨wanted_none rfl, ?_, hi.set1 (haf ⟨4, .data⟩ (by simp) (by decide)) ⟨by decide, by decide, by decide, by decide, by decide⟩ (by omega)⟩
                simp [execOp, Act.eval, go_sem]
                all_goals rfl
              refine ga_to (fun a' w' => a'.tmps.getD 68 undef) (fun w' => w') ?_ ?_
              · intro a' w' L hsz hL haf hi hk
                have hsz' : a'.tmps.size = 94 := hsz
                refine ⟨wanted_none rfl, ?_, hi.set2 (haf ⟨9, .data⟩ (by simp) (by decide)) ⟨by decide, by decide, by decide, by decide, by decide⟩ (by omega)⟩
                simp [execOp, Act.eval, go_sem]
                all_goals rfl
              intro vs w' L hall hi hval
              simp only [AllS, consD] at hval
              obtain ⟨p1', p2', k1', k2', e1, e2, ho1, ho2, hd', hb', hB'⟩ := hi.done hall
              simp only [consD, putAllS, Act.put] at e1 e2 ⊢
              have e1' : vs 7 = .slice p1' (k + 1) k1' := by simpa using e1
              have e2' : vs 8 = .slice p2' (k + 1) k2' := by simpa using e2
              rw [e1', e2']
              simp only [List.setIfInBounds_toArray, List.set_cons_succ, List.set_cons_zero]
              have hB2' := HB.out.drew.trans hB'
              have HO := Lib.hid (And.intro ho1 (And.intro ho2 (And.intro hd' hB2')))
              clear hb' HOW HLT e1 e2 e1' e2' HB hB' ho1 ho2 hd' hB2'
              go_wp2
              go_roundw
              case rel => exact ⟨k + 1, k1', k2', p1', p2', by omega, by go_num, rfl, rfl, by rw [HT.out.1]; exact HO.out.1, by rw [HT.out.2]; exact HO.out.2.1, HO.out.2.2.1, HO.out.2.2.2⟩
              case measure => simp [intOf]; omega
            · have hkn : k = no := by omega
              rw [hkn] at ho1 ho2 ⊢
              rw [List.take_of_length_le (by omega)] at ho1 ho2
              have hr1 := ho1.rd
              have hr2 := ho2.rd
              have hB3 := hB2.trans (hB.mono hB2.size)
              clear hkn hk hlt ho1 ho2 hd hB hB2
              go_wp2_with fail
              refine (refExpand_any p1 no c1 p2 c2 rs wr (by omega) hsz hr1 hr2 HRG.out).mono ?_
              unfold ExpPost
              rw [HBK.out]
              rintro e w6 ⟨a6, n6, c6, rfl, hl6, hn6, hr6, hB6⟩
              have hB7 := hB3.trans (hB6.mono hB3.size)
              have HH := Lib.hid (show no ≤ n by rw [← HL.out]; exact hnl)
              clear hr1 hr2 hB3 hB6 hsz hnl
              go_wp2_with fail
              refine (same_any a6 n6 c6 l a n c l w6 hl6 HL.out (by omega) (by omega) hr6 (HR.out.below hB7)).mono ?_
              rw [decide_eq_true rfl]
              rintro e w8 ⟨rfl, hB8⟩
              have hB9 := hB7.trans (hB8.mono hB7.size)
              have hno2 := HH.out
              clear hl6 hr6
              go_wp2
              go_ret
              exact ⟨rfl, hB9⟩
end Go.Proofs.Ytmmgcfhoigpomaa
