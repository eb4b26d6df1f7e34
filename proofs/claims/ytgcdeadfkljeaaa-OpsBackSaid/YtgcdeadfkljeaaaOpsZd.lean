/- Reading instructions: Read. -/
import Derived.Test.YtgcdeadfkljeaaaOpsZc
import Derived.BigQuiet
import Derived.Deep.CutBlock
import Derived.Deep.DeepCutAuto
namespace Go.Proofs.Ytgcdeadfkljeaaa
open Go.RowKit
set_option linter.unusedVariables false
set_option linter.unusedSimpArgs false

def ReadPost (w : World) (L : List UInt8) (e : Ending) (w' : World) : Prop :=
  ∃ a n c qs, e = .returned (.tuple #[.slice a n c, .int .i64 (readK L).2]) ∧ RdS w' a n qs ∧ qs.map Mst.st = (readK L).1 ∧ Below w.heap.size w w'
theorem RdS.nil {w : World} : RdS w none 0 [] := ⟨rfl, .inl rfl, fun _ h => by cases h⟩
/-- What stands while instructions are read. -/
structure RdW (w0 w : World) (B gr gc m : Nat) (L : List UInt8) (s : CS) (nm : Nat) (pl : List Int) (a : Option Addr) (n c : Nat) (qs : List Mst) : Prop where
  rd : RSt w gr gc L s
  map : PMap w m nm pl
  out : OwnS w B a n c qs
  le : gc < m ∧ gr < B ∧ m < B ∧ m ≠ gr ∧ B ≤ w.heap.size ∧ w0.heap.size ≤ gc ∧ w0.heap.size ≤ B
  bel : Below w0.heap.size w0 w
section
variable {w0 w w' : World} {B gr gc m nm : Nat} {L : List UInt8} {s s' : CS} {pl pl' : List Int} {a a' : Option Addr} {n c c' : Nat} {qs : List Mst}
theorem RdW.below (h : RdW w0 w B gr gc m L s nm pl a n c qs) (hb : Below w.heap.size w w') : RdW w0 w' B gr gc m L s nm pl a n c qs := by
  obtain ⟨h1, h2, h3, h4, h5, h6, h7⟩ := h.le
  exact ⟨h.rd.below hb, h.map.below hb, h.out.below hb, ⟨h1, h2, h3, h4, Nat.le_trans h5 hb.size, h6, h7⟩, h.bel.trans (hb.mono h.bel.size)⟩
/-- The cursor has moved. -/
theorem RdW.moved (h : RdW w0 w B gr gc m L s nm pl a n c qs) (hr : RSt w' gr gc L s') (hg : w.grownBy w' (some gc)) : RdW w0 w' B gr gc m L s' nm pl a n c qs := by
  obtain ⟨h1, h2, h3, h4, h5, h6, h7⟩ := h.le
  exact ⟨hr, h.map.kept hg (by simp; omega), h.out.old hg (by omega), ⟨h1, h2, h3, h4, Nat.le_trans h5 hg.size, h6, h7⟩, h.bel.grown hg h.bel.size (fun k hk => by have := Option.some.inj hk; omega)⟩
/-- A place more. -/
theorem RdW.placed (h : RdW w0 w B gr gc m L s nm pl a n c qs) {nm' : Nat} (hm : PMap w' m nm' pl') (hg : w.grownBy w' (some m)) : RdW w0 w' B gr gc m L s nm' pl' a n c qs := by
  obtain ⟨h1, h2, h3, h4, h5, h6, h7⟩ := h.le
  exact ⟨h.rd.later hg (fun k hk => by have := Option.some.inj hk; omega), hm, h.out.old hg h3, ⟨h1, h2, h3, h4, Nat.le_trans h5 hg.size, h6, h7⟩, h.bel.grown hg h.bel.size (fun k hk => by have := Option.some.inj hk; omega)⟩
/-- An instruction more. -/
theorem RdW.snoc (h : RdW w0 w B gr gc m L s nm pl a n c qs) {q : Mst} (hn : OwnR w' B STO 8 a' (n + 1) c' (qs.map msL ++ [msL q])) (hg : w.grownBy w' (Value.slice a n c).ownBlock)
    (hk : Own w B 3 nE q.ka q.kn q.kc q.st.keys) (ht : Own w B 3 nE q.ta q.tn q.tc q.st.tgts) : RdW w0 w' B gr gc m L s nm pl a' (n + 1) c' (qs ++ [q]) := by
  obtain ⟨h1, h2, h3, h4, h5, h6, h7⟩ := h.le
  have hr : ∀ k, (Value.slice a n c).ownBlock = some k → B ≤ k := fun k hk => (h.out.1.row k hk).1
  exact ⟨h.rd.later hg (fun k hk => by have := hr k hk; omega), h.map.kept hg (fun e => by have := hr m e.symm; omega), h.out.snoc hn hg hk ht, ⟨h1, h2, h3, h4, Nat.le_trans h5 hg.size, h6, h7⟩, h.bel.grown hg h.bel.size (fun k hk => by have := hr k hk; omega)⟩
end
theorem oneB_at (L : List UInt8) (st : StepK) (n : Int) (f : Nat) (s : CS) : (oneB L st n f s).1.at' = st.at' := by
  by_cases d1 : f = 98
  · subst d1; rfl
  by_cases d2 : f = 115
  · subst d2; rfl
  by_cases d3 : f = 99
  · subst d3; rfl
  by_cases d4 : f = 100
  · subst d4; rfl
  by_cases d5 : f = 112
  · subst d5; rfl
  by_cases d6 : f = 118
  · subst d6; rfl
  by_cases d7 : f = 105
  · subst d7; rfl
  by_cases d8 : f = 106
  · subst d8; rfl
  by_cases d9 : f = 119
  · subst d9; rfl
  by_cases d10 : f = 102
  · subst d10; rfl
  by_cases d11 : f = 109
  · subst d11; rfl
  by_cases d12 : f = 97
  · subst d12; rfl
  by_cases d13 : f = 116
  · subst d13; rfl
  by_cases d14 : f = 108
  · subst d14; rfl
  rw [oneB_els ⟨d1, d2, d3, d4, d5, d6, d7, d8, d9, d10, d11, d12, d13, d14⟩]
theorem oneK_at (L : List UInt8) (s : CS) : (oneK L s).1.at' = (s.p : Int) := oneB_at L _ _ _ _
theorem sgnK_p (L : List UInt8) (m : Int) (s : CS) : s.p ≤ (sgnK L m s).2.p := bigK_p L m s
theorem padK_p (L : List UInt8) : ∀ (f : Nat) (s : CS), s.p ≤ (padK L f s).p
  | 0, s => Nat.le_refl _
  | f + 1, s => by
    rw [padK]
    split
    · refine Nat.le_trans (bigK_p L 1 s) (Nat.le_trans (Nat.le_of_eq (isC_p _ _).symm) (padK_p L f _))
    · exact Nat.le_refl _
theorem tabK_p (L : List UInt8) (at' hi : Int) : ∀ (f : Nat) (k : Int) (ks ts : List Int) (s : CS), s.p ≤ (tabK L at' hi f k ks ts s).2.p
  | 0, _, _, _, s => Nat.le_refl _
  | f + 1, k, ks, ts, s => by
    rw [tabK]
    split
    · exact Nat.le_trans (sgnK_p L 4 s) (tabK_p L at' hi f _ _ _ _)
    · exact Nat.le_refl _
theorem lokK_p (L : List UInt8) (at' n : Int) : ∀ (f i : Nat) (ks ts : List Int) (s : CS), s.p ≤ (lokK L at' n f i ks ts s).2.p
  | 0, _, _, _, s => Nat.le_refl _
  | f + 1, i, ks, ts, s => by
    rw [lokK]
    split
    · exact Nat.le_trans (sgnK_p L 4 s) (Nat.le_trans (Nat.le_of_eq (isC_p _ _).symm) (Nat.le_trans (sgnK_p L 4 _) (lokK_p L at' n f _ _ _ _)))
    · exact Nat.le_refl _
theorem oneB_p (L : List UInt8) (st : StepK) (n : Int) (f : Nat) (s : CS) : s.p ≤ (oneB L st n f s).2.p := by
  have hC : ∀ (b : Bool) (s : CS), s.p ≤ (isC b s).p := fun b s => Nat.le_of_eq (isC_p b s).symm
  by_cases d1 : f = 98
  · subst d1; exact sgnK_p _ _ _
  by_cases d2 : f = 115
  · subst d2; exact sgnK_p _ _ _
  by_cases d3 : f = 99
  · subst d3; rw [oneB_99]; exact bigK_p _ _ _
  by_cases d4 : f = 100
  · subst d4; exact bigK_p _ _ _
  by_cases d5 : f = 112
  · subst d5; exact bigK_p _ _ _
  by_cases d6 : f = 118
  · subst d6; rw [oneB_118]; exact bigK_p _ _ _
  by_cases d7 : f = 105
  · subst d7; rw [oneB_105]; exact Nat.le_trans (bigK_p L n s) (sgnK_p _ _ _)
  by_cases d8 : f = 106
  · subst d8; exact sgnK_p _ _ _
  by_cases d9 : f = 119
  · subst d9; exact sgnK_p _ _ _
  by_cases d10 : f = 102
  · subst d10; rw [oneB_102]; exact Nat.le_trans (bigK_p L 2 s) (Nat.le_trans (bigK_p L 1 _) (Nat.le_trans (bigK_p L 1 _) (hC _ _)))
  by_cases d11 : f = 109
  · subst d11; rw [oneB_109]; exact Nat.le_trans (bigK_p L 2 s) (Nat.le_trans (bigK_p L 1 _) (hC _ _))
  by_cases d12 : f = 97
  · subst d12; rw [oneB_97]; exact Nat.le_trans (bigK_p L 1 s) (hC _ _)
  by_cases d13 : f = 116
  · subst d13; rw [oneB_116]; exact Nat.le_trans (padK_p L 4 s) (Nat.le_trans (sgnK_p L 4 _) (Nat.le_trans (sgnK_p L 4 _) (Nat.le_trans (sgnK_p L 4 _) (Nat.le_trans (hC _ _) (tabK_p _ _ _ _ _ _ _ _)))))
  by_cases d14 : f = 108
  · subst d14; rw [oneB_108]; exact Nat.le_trans (padK_p L 4 s) (Nat.le_trans (sgnK_p L 4 _) (Nat.le_trans (sgnK_p L 4 _) (Nat.le_trans (hC _ _) (lokK_p _ _ _ _ _ _ _ _))))
  rw [oneB_els ⟨d1, d2, d3, d4, d5, d6, d7, d8, d9, d10, d11, d12, d13, d14⟩]
  exact Nat.le_refl _
theorem oneK_p (L : List UInt8) (s : CS) : s.p ≤ (oneK L s).2.p := by
  unfold oneK
  simp only
  refine Nat.le_trans ?_ (oneB_p L _ _ _ _)
  have h1 : (opK L s).2.2.2.p ≤ (formK (opK L s).2.2.1 (opK L s).2.1 (opK L s).2.2.2).2.p := by
    unfold formK
    simp only
    generalize (if (opK L s).2.2.1 ≤ 201 then formF (opK L s).2.2.1.toNat else 0) = z
    split <;> exact Nat.le_refl _
  refine Nat.le_trans ?_ h1
  unfold opK
  split
  · exact Nat.le_trans (bigK_p L 1 s) (bigK_p L 1 _)
  · exact bigK_p L 1 s
set_option maxRecDepth 100000 in
theorem rd_fold (gc : Nat) : Array.foldl (fun cs x => cs.setIfInBounds (1 + x.snd) x.fst) (Try.zeroCells88.setIfInBounds 0 (Value.pointer (some ⟨gc, 0, none⟩))) formC.zipIdx 0 202 = rdC gc := by kernel_rfl
set_option maxRecDepth 100000 in
set_option maxHeartbeats 8000000 in
theorem read_any (a : Option Addr) (n c : Nat) (L : List UInt8) (w : World) (hl : L.length = n) (hn : n ≤ 1000000000) (hr : Rd w bE a L) : Calls Try.prog 21 #[.slice a n c] w (ReadPost w L) := by
  have mixed : Try.prog.follows .mixedOrders = true := by kernel_rfl
  by_cases h0 : n = 0
  · have HK : Hid (readK L = ([], 1)) := Lib.hid (by unfold readK; rw [if_pos (by omega)])
    subst h0
    clear hr hl
    go_enter Try.func21, Try.ntmps21
    go_wp2
    go_ret2
    exact ⟨none, 0, 0, [], by rw [HK.out] <;> rfl, RdS.nil, by rw [HK.out]; rfl, Below.refl _ _⟩
  by_cases h6 : 65536 ≤ n
  · have HK : Hid (readK L = ([], 3)) := Lib.hid (by unfold readK; rw [if_neg (by omega), if_pos (by omega)])
    have e0 : ((n : Int) == 0) = false := by simp; omega
    have e1 : decide ((65536 : Int) ≤ (n : Int)) = true := decide_eq_true (by omega)
    clear hr hl
    go_enter Try.func21, Try.ntmps21
    go_wp2
    go_ret2
    exact ⟨none, 0, 0, [], by rw [HK.out] <;> rfl, RdS.nil, by rw [HK.out]; rfl, Below.refl _ _⟩
  have hL6 : L.length < 65536 := by omega
  obtain ⟨tot, htot⟩ : ∃ t, t = stepsK L L.length ⟨0, 0⟩ := ⟨_, rfl⟩
  have HK : Hid (readK L = if tot.2.e ≠ 0 then ([], tot.2.e) else if tot.1.all (okP (tot.1.map StepK.at')) then (tot.1, 0) else ([], 11)) := Lib.hid (by unfold readK; rw [if_neg (by omega), if_neg (by omega), htot])
  have HG : Hid (tot.2.e = 0 → ChG L 0 tot.1 L.length ∧ tot.2 = ⟨L.length, 0⟩) := Lib.hid (fun h => by rw [htot] at h ⊢; exact steps_good hL6 _ _ h (by omega) (Nat.zero_le _))
  have HT := Lib.hid htot
  have e0 : ((n : Int) == 0) = false := by simp; omega
  have e1 : decide ((65536 : Int) ≤ (n : Int)) = false := decide_eq_false (by omega)
  have HR := Lib.hid hr
  have HL := Lib.hid hl
  clear htot hr hl
  go_enter Try.func21, Try.ntmps21
  go_wp2_with fail
  refine (cNew_any a n c L w HL.out (by omega) HR.out).mono ?_
  rintro e w1 ⟨gc, rfl, hgc, hcur, hB1⟩
  have H1 := Lib.hid (And.intro hgc (And.intro hcur hB1))
  clear hgc hcur hB1
  go_wp2_with fail
  refine (forms_any w1).mono ?_
  rintro e w2 ⟨rfl, hB2⟩
  have H2 := Lib.hid (And.intro (H1.out.2.1.below hB2) (H1.out.2.2.trans (hB2.mono H1.out.2.2.size)))
  clear hB2
  have hfs := formC_size
  have hmm := @run_makeMap Try.prog
  go_upto_block 1 with fail
  rw [rd_fold]
  clear hfs hmm e0 e1
  obtain ⟨gr, hgr⟩ : ∃ g, g = w2.heap.size := ⟨_, rfl⟩
  obtain ⟨m, hm⟩ : ∃ g, g = w2.heap.size + 1 := ⟨_, rfl⟩
  have hms : (w2.alloc (.cells (rdC gc) RDO)).heap.size = m := by rw [hm]; simp
  obtain ⟨w3, hw3⟩ : ∃ w', w' = (w2.alloc (.cells (rdC gc) RDO)).alloc (.map #[] 0) := ⟨_, rfl⟩
  have HS0 : Hid (RdW w w3 w3.heap.size gr gc m L ⟨0, 0⟩ 0 [] none 0 0 []) := Lib.hid (by
    have hb3 : Below w2.heap.size w2 w3 := by rw [hw3]; exact (below_alloc _ _).trans ((below_alloc _ _).mono (by simp))
    have hsz : w3.heap.size = w2.heap.size + 2 := by rw [hw3]; simp
    have hgl : gc < w2.heap.size := by obtain ⟨_, _, _, hb, -⟩ := H2.out.1.ex; exact hb.lt
    have h1s := H1.out.1
    refine ⟨⟨?_, H2.out.1.below hb3, by omega⟩, ?_, ⟨OwnR.nil, fun q hq => by cases hq⟩, ⟨by omega, by omega, by omega, by omega, Nat.le_refl _, h1s, by omega⟩, H2.out.2.trans (hb3.mono H2.out.2.size)⟩
    · rw [hgr, hw3]; exact (Blk.new _ _ _).alloc _
    · rw [hw3, ← hms]; exact PMap.made _)
  rw [← hm, ← hgr, ← hw3]
  obtain ⟨B, hB⟩ : ∃ B, B = w3.heap.size := ⟨_, rfl⟩
  rw [← hB] at HS0
  clear hw3 hgr hm hms H1 H2 hB
  go_cut [5] (fun x5 wx => ∃ (p : Option Addr) (k d : Nat) (qs : List Mst), x5 = .slice p k d ∧ k ≤ L.length ∧ Hid (qs.map Mst.st = tot.1) ∧ RdW w wx B gr gc m L tot.2 k (qs.map fun q => q.st.at') p k d qs)
  case first =>
    go_wp2_with fail
    go_loopw [5] (fun x5 wr => ∃ (f : Nat) (s : CS) (p : Option Addr) (k d : Nat) (qs : List Mst), x5 = .slice p k d ∧ Hid (qs.map Mst.st ++ (stepsK L f s).1 = tot.1 ∧ (stepsK L f s).2 = tot.2) ∧ Hid (s.e = 0 → L.length ≤ s.p + f) ∧ k + f = L.length ∧ RdW w wr B gr gc m L s k (qs.map fun q => q.st.at') p k d qs) (fun _ wr => msC gc L.length wr)
    case atStart => exact ⟨L.length, ⟨0, 0⟩, none, 0, 0, [], rfl, Lib.hid (by rw [HT.out]; exact ⟨rfl, rfl⟩), Lib.hid (fun _ => by simp), by simp, HS0.out⟩
    case round =>
      clear HS0
      obtain ⟨f, s, p, k, d, qs, rfl, hrest, hf, hkf, hW⟩ := hrel
      have HW := Lib.hid hW
      have hpl := hW.rd.cur.place
      have c0 : wr.cell? ⟨gr, 0, none⟩ = some (.pointer (some ⟨gc, 0, none⟩)) := hW.rd.blk.cell (i := 0) (rdC_zero gc)
      have HLF := Lib.hid (cLeft_any gc L s.p s.e wr hW.rd.cur)
      have HE := Lib.hid (fun j => cErr_any gc L s.p s.e (wr.drewN j) (hW.rd.cur.drewN j))
      clear hW
      by_cases hx : s.p < L.length
      · have gl : decide ((0 : Int) < (L.length : Int) - (s.p : Int)) = true := decide_eq_true (by omega)
        by_cases he : s.e = 0
        · have ge : (s.e == 0) = true := beq_iff_eq.2 he
          obtain ⟨f', rfl⟩ : ∃ f', f = f' + 1 := ⟨f - 1, by have := hf.out he; omega⟩
          go_wp2_with fail
          refine HLF.out.mono ?_
          rintro e w' ⟨rfl, j, rfl⟩
          have c1 : (wr.drewN j).cell? ⟨gr, 0, none⟩ = some (.pointer (some ⟨gc, 0, none⟩)) := c0
          go_wp2_with fail
          refine (HE.out j).mono ?_
          rintro e w' ⟨rfl, hw⟩
          subst hw
          have HCS := Lib.hid (And.intro he (cs_eta s he))
          have HS : Hid (RdW w (wr.drewN j) B gr gc m L s k (qs.map fun q => q.st.at') p k d qs ∧ msC gc L.length wr = (L.length + 1 - s.p) + 1) := Lib.hid ⟨HW.out.below (below_drewN wr _ j), by rw [msC_eq HW.out.rd.cur, if_pos he]⟩
          have HP : Hid (qs.map Mst.st ++ ((oneK L s).1 :: (stepsK L f' (oneK L s).2).1) = tot.1 ∧ (stepsK L f' (oneK L s).2).2 = tot.2) := Lib.hid (by
            have h := hrest.out
            rw [stepsK, if_pos ⟨hx, he⟩] at h
            exact h)
          have HQ : Hid ((oneK L s).2.e = 0 → s.p < (oneK L s).2.p ∧ (oneK L s).2.p ≤ L.length) := Lib.hid (fun h => by
            rw [HCS.out.2] at h ⊢
            exact (one_good hL6 h).lt)
          have HF := Lib.hid (hf.out he)
          have HAT := Lib.hid (oneK_at L s)
          have HPP := Lib.hid (oneK_p L s)
          have HO := Lib.hid (fun w' h => rOne_any (gr := gr) (gc := gc) (L := L) (s := s) w' h)
          generalize oneK L s = r at *
          obtain ⟨st, s'⟩ := r
          clear hrest hf
          clear c0 c1 HLF HE he
          go_wp2_with fail
          refine (HO.out (wr.drewN j) HS.out.1.rd).mono ?_
          rintro e w5 ⟨ka, kn, kc, ta, tn, tc, rfl, hk5, ht5, hr5, hg5⟩
          have HA5 := Lib.hid (And.intro ((HS.out.1.moved hr5 hg5).below (below_alloc w5 (.cells (stC st (.slice ka kn kc) (.slice ta tn tc)) STO))) (And.intro ((hk5.mono HS.out.1.le.2.2.2.2.1).below (below_alloc w5 (.cells (stC st (.slice ka kn kc) (.slice ta tn tc)) STO))) (And.intro ((ht5.mono HS.out.1.le.2.2.2.2.1).below (below_alloc w5 (.cells (stC st (.slice ka kn kc) (.slice ta tn tc)) STO))) (Blk.new w5 STO (stC st (.slice ka kn kc) (.slice ta tn tc))))))
          obtain ⟨w6, hrun6, hmap6, hg6⟩ := HA5.out.1.map.put (by unfold maxLen; omega) st.at' (by have h : st.at' = (s.p : Int) := HAT.out; omega)
          have HA6 : Hid (RdW w w6 B gr gc m L s' (k + 1) ((qs ++ [(⟨st, ka, kn, kc, ta, tn, tc⟩ : Mst)]).map fun q => q.st.at') p k d qs ∧ Own w6 B 3 nE ka kn kc st.keys ∧ Own w6 B 3 nE ta tn tc st.tgts ∧ Blk w6 w5.heap.size STO (stC st (.slice ka kn kc) (.slice ta tn tc))) := Lib.hid (by
            have h1 := HA5.out
            have h2 := h1.1.le
            refine ⟨h1.1.placed (by rw [List.map_append]; exact hmap6) hg6, h1.2.1.grown hg6 (fun b e1 e2 => ?_), h1.2.2.1.grown hg6 (fun b e1 e2 => ?_), h1.2.2.2.grown hg6 (fun e => ?_)⟩
            · have := (h1.2.1.1.lt b (by rw [e1]; exact ownB_some _ _ _)).1; have := Option.some.inj e2; omega
            · have := (h1.2.2.1.1.lt b (by rw [e1]; exact ownB_some _ _ _)).1; have := Option.some.inj e2; omega
            · have := Option.some.inj e; have h3 := h2.2.2.2.2.1; have hm := h1.1.map; have h4 := hg5.size; have h5 := HS.out.1.le; omega)
          clear hk5 ht5 hr5 hg5 hmap6 hg6 HA5
          unfold PMT stC at hrun6
          go_wp2_with (first | (refine wpList_load_row rfl _ _ rfl _ rfl _ _ _ _ HA6.out.2.2.2 Try.underlying48 rfl size_sto ?_) | (at_builtin; refine wpList_pushR slSto (by decide) rfl _ _ rfl (vs := msL ⟨st, ka, kn, kc, ta, tn, tc⟩) rfl rfl (by simp [msL, Value.oneCell']) rfl HA6.out.1.out.1 rfl (by omega) (by unfold maxLen; omega) HA6.out.1.le.2.2.2.2.1 ?_; intro p7 c7 w7 hown7 hg7))
          have HA7 := Lib.hid (HA6.out.1.snoc (q := ⟨st, ka, kn, kc, ta, tn, tc⟩) hown7 hg7 HA6.out.2.1 HA6.out.2.2.1)
          clear hown7 hg7 HA6 hrun6
          go_roundw
          case rel => exact ⟨f', s', p7, k + 1, c7, qs ++ [⟨st, ka, kn, kc, ta, tn, tc⟩], rfl, Lib.hid ⟨by rw [← HP.out.1]; simp, HP.out.2⟩, Lib.hid (fun h => by have h1 : s.p < s'.p ∧ s'.p ≤ L.length := HQ.out h; have h2 := HF.out; omega), by omega, HA7.out⟩
          case measure =>
            rw [HS.out.2, msC_eq HA7.out.rd.cur]
            have hp := HA7.out.rd.cur.place
            have h1 : s'.e = 0 → s.p < s'.p ∧ s'.p ≤ L.length := HQ.out
            have h2 : s.p ≤ s'.p := HPP.out
            split
            · rename_i h; have := h1 h; omega
            · omega
        · have ge : (s.e == 0) = false := beq_eq_false_iff_ne.2 he
          have HR2 : Hid (qs.map Mst.st = tot.1 ∧ s = tot.2) := Lib.hid (by
            have h := hrest.out
            cases f with
            | zero => exact ⟨by simpa [stepsK] using h.1, h.2⟩
            | succ f => rw [stepsK, if_neg (fun h => he h.2)] at h; exact ⟨by simpa using h.1, h.2⟩)
          clear he hrest hf
          go_wp2_with fail
          refine HLF.out.mono ?_
          rintro e w' ⟨rfl, j, rfl⟩
          have c1 : (wr.drewN j).cell? ⟨gr, 0, none⟩ = some (.pointer (some ⟨gc, 0, none⟩)) := c0
          go_wp2_with fail
          refine (HE.out j).mono ?_
          rintro e w' ⟨rfl, hw⟩
          subst hw
          go_wp2_with fail
          go_meet
          exact ⟨p, k, d, qs, rfl, by omega, Lib.hid HR2.out.1, by rw [← HR2.out.2]; exact HW.out.below (below_drewN wr _ j)⟩
      · have gl : decide ((0 : Int) < (L.length : Int) - (s.p : Int)) = false := decide_eq_false (by omega)
        have HR2 : Hid (qs.map Mst.st = tot.1 ∧ s = tot.2) := Lib.hid (by
          have h := hrest.out
          cases f with
          | zero => exact ⟨by simpa [stepsK] using h.1, h.2⟩
          | succ f => rw [stepsK, if_neg (fun h => hx h.1)] at h; exact ⟨by simpa using h.1, h.2⟩)
        clear hrest hf
        go_wp2_with fail
        refine HLF.out.mono ?_
        rintro e w' ⟨rfl, j, rfl⟩
        go_wp2_with fail
        go_meet
        exact ⟨p, k, d, qs, rfl, by omega, Lib.hid HR2.out.1, by rw [← HR2.out.2]; exact HW.out.below (below_drewN wr _ j)⟩
  case rest =>
    obtain ⟨p, k, d, qs, rfl, hkl, hq, hW⟩ := hcut
    have HQ := Lib.hid hq.out
    have HW := Lib.hid hW
    have c0 : wc.cell? ⟨gr, 0, none⟩ = some (.pointer (some ⟨gc, 0, none⟩)) := hW.rd.blk.cell (i := 0) (rdC_zero gc)
    have HE := Lib.hid (cErr_any gc L tot.2.p tot.2.e wc hW.rd.cur)
    clear hq hW HS0
    go_wp2_with fail
    refine HE.out.mono ?_
    rintro e w' ⟨rfl, hw⟩
    subst hw
    by_cases he : tot.2.e = 0
    · have ge : (tot.2.e != 0) = false := by rw [bne, beq_iff_eq.2 he]; rfl
      have HCH := Lib.hid (And.intro he (HG.out he).1)
      obtain ⟨pl, hpl⟩ : ∃ pl, pl = tot.1.map StepK.at' := ⟨_, rfl⟩
      have HW2 : Hid (RdW w wc B gr gc m L tot.2 k pl p k d qs) := Lib.hid (by
        have e : qs.map (fun q => q.st.at') = pl := by rw [hpl, ← HQ.out, List.map_map]; rfl
        rw [← e]; exact HW.out)
      have HKP : Hid (readK L = if tot.1.all (okP pl) then (tot.1, 0) else ([], 11)) := Lib.hid (by rw [HK.out, if_neg (by simp [he]), hpl])
      clear he HE hpl HW HK HT HG c0
      go_wp2_with fail
      go_loopw [60] (fun x60 wr => ∃ i : Nat, i ≤ k ∧ x60 = .int .i64 (i : Int) ∧ Hid ((tot.1.take i).all (okP pl) = true) ∧ RdW w wr B gr gc m L tot.2 k pl p k d qs) (fun x60 _ => k - (intOf x60).toNat)
      case atStart => exact ⟨0, Nat.zero_le _, rfl, Lib.hid rfl, HW2.out⟩
      case round =>
        clear HW2
        obtain ⟨i, hi, rfl, hall, hW⟩ := hrel
        have HWr := Lib.hid hW
        have hql : qs.length = k := hW.out.rd.1
        clear hW
        by_cases hik : i < k
        · have hil : i < qs.length := by omega
          obtain ⟨b, off, rfl, hc, hkt, hrk, hrt⟩ := HWr.out.out.rd.at hil
          have hst : tot.1[i]? = some qs[i].st := by rw [← HQ.out, List.getElem?_map, List.getElem?_eq_getElem hil]; rfl
          have hmem : qs[i].st ∈ tot.1 := List.mem_of_getElem? hst
          have HTK : Hid (tot.1.take (i + 1) = tot.1.take i ++ [qs[i].st]) := Lib.hid (by
            have h1 := List.getElem?_eq_some_iff.1 hst
            rw [List.take_succ_eq_append_getElem h1.1, h1.2])
          have HMM := Lib.hid hmem
          obtain ⟨x1, y1, hsg⟩ := HCH.out.2.mem _ hmem
          have c0 : wr.cell? ⟨b, off + i * 8, none⟩ = some (.int .i64 qs[i].st.at') := hc 0 (by omega)
          have c1 : wr.cell? ⟨b, off + i * 8 + 1, none⟩ = some (.int .i64 qs[i].st.op) := hc 1 (by omega)
          have c2 : wr.cell? ⟨b, off + i * 8 + 2, none⟩ = some (.int .i64 qs[i].st.var) := hc 2 (by omega)
          have c3 : wr.cell? ⟨b, off + i * 8 + 3, none⟩ = some (.int .i64 qs[i].st.num) := hc 3 (by omega)
          have c4 : wr.cell? ⟨b, off + i * 8 + 4, none⟩ = some (.int .i64 qs[i].st.pool) := hc 4 (by omega)
          have c5 : wr.cell? ⟨b, off + i * 8 + 5, none⟩ = some (.int .i64 qs[i].st.goal) := hc 5 (by omega)
          have c6 : wr.cell? ⟨b, off + i * 8 + 6, none⟩ = some (.slice qs[i].ka qs[i].kn qs[i].kc) := hc 6 (by omega)
          have c7 : wr.cell? ⟨b, off + i * 8 + 7, none⟩ = some (.slice qs[i].ta qs[i].tn qs[i].tc) := hc 7 (by omega)
          have HMQ : Hid (qs[i] ∈ qs) := Lib.hid (List.getElem_mem hil)
          clear hc hst hmem
          generalize qs[i] = q at *
          obtain ⟨st, ka, kn, kc, ta, tn, tc⟩ := q
          simp only at c0 c1 c2 c3 c4 c5 c6 c7 hkt hrk hrt hsg
          have HSG := Lib.hid hsg
          have HRT := Lib.hid (And.intro hkt.2 hrt)
          have htn : tn ≤ L.length := by have h1 := hsg.kt; omega
          clear hkt hrk hrt hsg hil
          go_upto_region 18 with fail
          obtain ⟨o, ho⟩ := Int.eq_ofNat_of_zero_le HSG.out.op.1
          have ho2 : (o : Int) < 202 := by have := HSG.out.op.2.1; omega
          have HFI : Hid (formI st.op = formF o) := Lib.hid (by rw [ho]; unfold formI; rw [if_neg (by omega)]; rfl)
          obtain ⟨A, hA⟩ : ∃ A, A = wr.heap.size := ⟨_, rfl⟩
          obtain ⟨wA, hwA⟩ : ∃ x, x = wr.alloc (.cells (stC st (.slice ka kn kc) (.slice ta tn tc)) STO) := ⟨_, rfl⟩
          have HBA : Hid (Below wr.heap.size wr wA) := Lib.hid (by rw [hwA]; exact below_alloc _ _)
          have hbk : Blk wA A STO (stC st (.slice ka kn kc) (.slice ta tn tc)) := by rw [hwA, hA]; exact Blk.new _ _ _
          have HWA := Lib.hid (HWr.out.below HBA.out)
          have a1 : wA.cell? ⟨A, 1, none⟩ = some (.int .i64 (o : Int)) := by rw [← ho]; exact hbk.cell (i := 1) rfl
          have a5 : wA.cell? ⟨A, 5, none⟩ = some (.int .i64 st.goal) := hbk.cell (i := 5) rfl
          have HA7 : Hid (wA.cell? ⟨A, 7, none⟩ = some (.slice ta tn tc)) := Lib.hid (hbk.cell (i := 7) rfl)
          have af : wA.cell? ⟨gr, 1 + o, none⟩ = some (.int .u8 ((formF o : Nat) : Int)) := HWA.out.rd.blk.cell (i := 1 + o) (rdC_at gc o (by omega))
          have hlk := fun j => (HWA.out.map.below (below_drewN wA _ j)).look st.goal (by have := HSG.out.gr; omega)
          unfold PMT at hlk
          have HGO := Lib.hid (fun w' => goes_any (formF o) w' (formF_lt o))
          unfold stC at hwA
          rw [← hwA, ← hA]
          clear hwA hA hbk c0 c1 c2 c3 c4 c5 c6 c7 ho
          generalize formF o = f at *
          go_cut [60, 78] from 60 to 91 (fun x60 x78 wx => x60 = .int .i64 (i : Int) ∧ x78 = .bool (goesK f && !pl.contains st.goal) ∧ ∃ j, wx = wA.drewN j)
          case first =>
            cases hgo : goesK f with
            | true =>
              rw [hgo] at HGO
              cases hct : pl.contains st.goal with
              | false =>
                rw [hct] at hlk
                go_quiet (first | (go_at_call 47; refine Calls.quiet_of_same (HGO.out _)))
                go_wp2
                go_meet
                exact ⟨rfl, by rw [hgo, hct]; rfl, _, rfl⟩
              | true =>
                rw [hct] at hlk
                go_quiet (first | (go_at_call 47; refine Calls.quiet_of_same (HGO.out _)))
                go_wp2
                go_meet
                exact ⟨rfl, by rw [hgo, hct]; rfl, _, rfl⟩
            | false =>
              rw [hgo] at HGO
              go_quiet (first | (go_at_call 47; refine Calls.quiet_of_same (HGO.out _)))
              go_wp2
              go_meet
              exact ⟨rfl, by rw [hgo]; rfl, _, rfl⟩
          case rest =>
            obtain ⟨rfl, rfl, j, rfl⟩ := hcut
            have HWB := Lib.hid (HWA.out.below (below_drewN wA _ j))
            have a7 : (wA.drewN j).cell? ⟨A, 7, none⟩ = some (.slice ta tn tc) := HA7.out
            generalize wA.drewN j = wB at *
            cases hbad : (goesK f && !pl.contains st.goal) with
            | true =>
              have HKF : Hid (readK L = ([], 11)) := Lib.hid (by
                rw [HKP.out, if_neg]
                intro h
                have h1 := List.all_eq_true.1 h st HMM.out
                unfold okP at h1
                rw [HFI.out] at h1
                rw [Bool.and_eq_true] at hbad h1
                rw [hbad.1] at h1
                have h2 := hbad.2
                have h3 := h1.1
                cases hx : pl.contains st.goal <;> rw [hx] at h2 h3 <;> simp at h2 h3)
              clear hbad a1 a5 af hlk
              go_wp2
              go_ret2
              exact ⟨none, 0, 0, [], by rw [HKF.out] <;> rfl, RdS.nil, by rw [HKF.out]; rfl, HWB.out.bel⟩
            | false =>
              have HGD : Hid ((!goesK f || pl.contains st.goal) = true) := Lib.hid (by cases h1 : goesK f <;> cases h2 : pl.contains st.goal <;> rw [h1, h2] at hbad <;> simp at hbad ⊢)
              clear hbad a1 a5 af hlk
              go_wp2_with fail
              clear HBA HWr HWA HA7 HGO a7
              obtain ⟨wa, hwa⟩ : ∃ x, x = wr := ⟨_, rfl⟩
              subst hwa
              go_loopw [82] (fun x82 wr => ∃ j : Nat, j ≤ tn ∧ x82 = .int .i64 (j : Int) ∧ Hid ((st.tgts.take j).all (fun t => pl.contains t) = true) ∧ RdW w wr B gr gc m L tot.2 k pl (some ⟨b, off, none⟩) k d qs) (fun x82 _ => tn - (intOf x82).toNat)
              case atStart => exact ⟨0, Nat.zero_le _, rfl, Lib.hid rfl, HWB.out⟩
              case round =>
                clear HWB
                obtain ⟨j, hj, rfl, htl, hW2⟩ := hrel
                have HWi := Lib.hid hW2
                clear hW2
                by_cases hjn : j < tn
                · have hq2 := HWi.out.out.rd.2.2 _ HMQ.out
                  have hjl : j < st.tgts.length := by rw [HRT.out.1]; exact hjn
                  obtain ⟨b2, o2, hta, hb2, hc2⟩ := hq2.2.2.at hjl
                  simp only at hta
                  subst hta
                  have hty : st.tgts[j]? = some (st.tgts[j]'hjl) := List.getElem?_eq_getElem _
                  have htr := HSG.out.tr _ (List.getElem_mem hjl)
                  have HTJ : Hid (st.tgts.take (j + 1) = st.tgts.take j ++ [st.tgts[j]'hjl] ∧ st.tgts[j]'hjl ∈ st.tgts) := Lib.hid ⟨List.take_succ_eq_append_getElem hjl, List.getElem_mem hjl⟩
                  clear hq2 hty
                  generalize st.tgts[j]'hjl = y at *
                  have hlk := HWi.out.map.look y (by omega)
                  unfold PMT at hlk
                  have hjt : (j : Int) < (tn : Int) := by omega
                  clear hjl htr
                  cases hct : pl.contains y with
                  | true =>
                    rw [hct] at hlk
                    have HT2 : Hid ((st.tgts.take (j + 1)).all (fun t => pl.contains t) = true) := Lib.hid (by
                      rw [HTJ.out.1, List.all_append, htl.out, Bool.true_and]
                      simp only [List.all_cons, List.all_nil, Bool.and_true]
                      exact hct)
                    clear hct htl
                    go_wp2_with fail
                    go_roundw
                    case rel => exact ⟨j + 1, by omega, by go_num, HT2, HWi.out⟩
                    case measure => simp [intOf] <;> omega
                  | false =>
                    have HKF : Hid (readK L = ([], 11)) := Lib.hid (by
                      rw [HKP.out, if_neg]
                      intro h
                      have h1 := List.all_eq_true.1 h st HMM.out
                      unfold okP at h1
                      rw [Bool.and_eq_true] at h1
                      have h2 := List.all_eq_true.1 h1.2 y HTJ.out.2
                      rw [hct] at h2
                      cases h2)
                    rw [hct] at hlk
                    clear hct htl
                    go_wp2
                    go_ret2
                    exact ⟨none, 0, 0, [], by rw [HKF.out] <;> rfl, RdS.nil, by rw [HKF.out]; rfl, HWi.out.bel⟩
                · have HNX : Hid ((tot.1.take (i + 1)).all (okP pl) = true) := Lib.hid (by
                    rw [HTK.out, List.all_append, hall.out, Bool.true_and]
                    simp only [List.all_cons, List.all_nil, Bool.and_true]
                    have h1 := htl.out
                    rw [List.take_of_length_le (by rw [HRT.out.1]; omega)] at h1
                    unfold okP
                    rw [HFI.out, HGD.out, h1]
                    rfl)
                  have hjt : ((j : Int) < (tn : Int)) = False := by simp; omega
                  clear htl hall
                  go_wp2_with fail
                  go_roundw
                  case rel => exact ⟨i + 1, by omega, by go_num, HNX, HWi.out⟩
                  case measure => simp [intOf] <;> omega
        · have HKF : Hid (readK L = (tot.1, 0)) := Lib.hid (by
            rw [HKP.out, if_pos]
            have h1 := hall.out
            rw [List.take_of_length_le (by rw [← HQ.out, List.length_map]; omega)] at h1
            exact h1)
          have hjt : ((i : Int) < (k : Int)) = False := by simp; omega
          clear hall
          go_wp2
          go_ret2
          exact ⟨p, k, d, qs, by rw [HKF.out] <;> rfl, HWr.out.out.rd, by rw [HKF.out]; exact HQ.out, HWr.out.bel⟩
    · have HKF : Hid (readK L = ([], tot.2.e)) := Lib.hid (by rw [HK.out, if_pos he])
      have ge : (tot.2.e != 0) = true := by rw [bne, beq_eq_false_iff_ne.2 he]; rfl
      clear he HE
      go_wp2
      go_ret2
      exact ⟨none, 0, 0, [], by rw [HKF.out] <;> rfl, RdS.nil, by rw [HKF.out]; rfl, HW.out.bel⟩
end Go.Proofs.Ytgcdeadfkljeaaa
