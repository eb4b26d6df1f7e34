/- runs.Of. -/
import Derived.Test.YtmmgcfhoigpomaaRunsG
namespace Go.Proofs.Ytmmgcfhoigpomaa
open Go.RowKit
set_option linter.unusedVariables false
set_option linter.unusedSimpArgs false

/-- The runs of n like numbers. -/
def headOf (x : Int) (n : Nat) : List (Int × Int) :=
  if x = 0 then (splitGo 18 n n).1 ++ (splitGo 17 (splitGo 18 n n).2 (splitGo 18 n n).2).1 ++ List.replicate (splitGo 17 (splitGo 18 n n).2 (splitGo 18 n n).2).2 (x, 0)
  else [(x, 0)] ++ (splitGo 16 (n - 1) (n - 1)).1 ++ List.replicate (splitGo 16 (n - 1) (n - 1)).2 (x, 0)
def ofGo : Nat → List Int → List (Int × Int)
  | 0, _ => []
  | f+1, [] => []
  | f+1, x :: r => headOf x (strN (x :: r)) ++ ofGo f ((x :: r).drop (strN (x :: r)))
theorem strGo_le (x : Int) : ∀ l : List Int, strGo x l ≤ l.length
  | [] => Nat.le_refl _
  | y :: r => by
    have := strGo_le x r
    rw [strGo]; split
    · simp; omega
    · simp
theorem strN_le (x : Int) (r : List Int) : 1 ≤ strN (x :: r) ∧ strN (x :: r) ≤ (x :: r).length := by
  have := strGo_le x r
  simp only [strN, List.length_cons]; omega
theorem ofGo_fuel : ∀ (f : Nat) (l : List Int), l.length ≤ f → ofGo (f + 1) l = ofGo f l := by
  intro f
  induction f with
  | zero => intro l h; have : l = [] := List.eq_nil_of_length_eq_zero (by omega); subst this; rfl
  | succ f ih =>
    intro l h
    cases l with
    | nil => rfl
    | cons x r =>
      have hs := strN_le x r
      conv => lhs; rw [ofGo]
      conv => rhs; rw [ofGo]
      rw [ih _ (by rw [List.length_drop]; simp only [List.length_cons] at h hs ⊢; omega)]
theorem ofGo_fuel2 (l : List Int) : ∀ d, ofGo (l.length + d) l = ofGo l.length l := by
  intro d
  induction d with
  | zero => rfl
  | succ d ih => rw [← Nat.add_assoc, ofGo_fuel _ _ (by omega), ih]
theorem ofGo_step (x : Int) (r : List Int) : ofGo (x :: r).length (x :: r) = headOf x (strN (x :: r)) ++ ofGo ((x :: r).drop (strN (x :: r))).length ((x :: r).drop (strN (x :: r))) := by
  have hs := strN_le x r
  rw [List.length_cons] at hs ⊢
  rw [ofGo]
  congr 1
  obtain ⟨d, hd⟩ : ∃ d, r.length = ((x :: r).drop (strN (x :: r))).length + d := ⟨r.length - ((x :: r).drop (strN (x :: r))).length, by rw [List.length_drop, List.length_cons]; omega⟩
  rw [hd, ofGo_fuel2]
def ofErr (l : List Int) : Int := if l.any badB then 5 else if 320 < l.length then 4 else 0
def ofRes (l : List Int) : List (Int × Int) := if ofErr l = 0 then ofGo l.length l else []
def OfPost (w : World) (l : List Int) (e : Ending) (w' : World) : Prop :=
  ∃ a n c, e = .returned (.tuple #[.slice a n c, .int .i64 (ofErr l)]) ∧ n ≤ 320 ∧ n ≤ l.length ∧ RdP w' a n (ofRes l) ∧ Below w.heap.size w w'
theorem rdP_nil (w : World) : RdP w none 0 [] := ⟨rfl, fun _ _ => undef, .inl rfl, fun i h => by simp at h⟩
theorem ofPost_bad {w w' : World} {l : List Int} {x : Int} (h : ofErr l = x) (h0 : x ≠ 0) (hB : Below w.heap.size w w') : OfPost w l (.returned (.tuple #[.slice none 0 0, .int .i64 x])) w' := by
  have hr : ofRes l = [] := by unfold ofRes; rw [h, if_neg h0]
  exact ⟨none, 0, 0, by rw [h], by omega, by omega, by rw [hr]; exact rdP_nil w', hB⟩
theorem ofPost_ok {w w' : World} {l : List Int} {a : Option Addr} {n c : Nat} (h : ofErr l = 0) (hn : n ≤ 320) (hn2 : n ≤ l.length) (hr : RdP w' a n (ofGo l.length l)) (hB : Below w.heap.size w w') : OfPost w l (.returned (.tuple #[.slice a n c, .int .i64 0])) w' :=
  ⟨a, n, c, by rw [h], hn, hn2, by unfold ofRes; rw [if_pos h]; exact hr, hB⟩
def lenV : Value → Nat
  | .slice _ n _ => n
  | _ => 0
theorem repR_snoc (acc : List (Int × Int)) (x : Int) (t : Nat) : acc ++ List.replicate t (x, (0 : Int)) ++ [(x, 0)] = acc ++ List.replicate (t + 1) (x, 0) := by
  rw [List.append_assoc, ← List.replicate_succ']
set_option maxRecDepth 100000 in
set_option maxHeartbeats 16000000 in
theorem runOf_any (a : Option Addr) (n c : Nat) (l : List Int) (w : World) (hl : l.length = n) (hn : n ≤ 1000000) (hnc : n ≤ c) (hc : c ≤ maxLen) (hr : Rd w iR a l) :
  Calls Try.prog 52 #[.slice a n c] w (OfPost w l) := by
  have HL := Lib.hid hl
  have HR := Lib.hid hr
  clear hl hr
  unfold maxLen at hc
  go_enter Try.func52, Try.ntmps52
  go_wp2_with fail
  refine (contains_any a n c l w HL.out hn HR.out).mono ?_
  rintro e w1 ⟨rfl, hB1⟩
  cases hbad : l.any badB with
  | true =>
    have HF := Lib.hid (ofPost_bad (w := w) (w' := w1) (l := l) (x := 5) (by unfold ofErr; rw [hbad]; rfl) (by omega) hB1)
    clear hbad
    go_wp2
    go_ret2
    exact HF.out
  | false =>
    by_cases h320 : n > 320
    · have HF := Lib.hid (ofPost_bad (w := w) (w' := w1) (l := l) (x := 4) (by unfold ofErr; rw [hbad, if_neg (by simp), if_pos (by rw [HL.out]; exact h320)]) (by omega) hB1)
      clear hbad
      go_wp2
      go_ret2
      exact HF.out
    · have HE : Hid (ofErr l = 0) := Lib.hid (by unfold ofErr; rw [hbad, if_neg (by simp), if_neg (by rw [HL.out]; exact h320)])
      clear hbad
      have hr1 := HR.out.below hB1
      go_wp2
      go_loopw [4, 5] (fun x4 x5 wr => ∃ (n5 c5 n' c' : Nat) (a5 p' : Option Addr) (rest : List Int) (acc : List (Int × Int)), x5 = .slice a5 n5 c5 ∧ x4 = .slice p' n' c' ∧ rest.length = n5 ∧ n5 ≤ c5 ∧ c5 ≤ 9223372036854775807 ∧ n' + n5 ≤ n ∧ Rd w iR a5 rest ∧ OwnR wr w.heap.size p' n' c' acc ∧ acc ++ ofGo rest.length rest = ofGo l.length l ∧ Below w.heap.size w wr) (fun _ x5 _ => lenV x5)
      case atStart => exact ⟨n, c, 0, 0, a, none, l, [], rfl, rfl, HL.out, hnc, hc, by omega, HR.out, OwnR.nil, rfl, hB1⟩
      case round =>
        clear hr1 hB1
        obtain ⟨n5, c5, n', c', a5, p', rest, acc, rfl, rfl, hlr, hnc5, hc5, hcount, hrr, hown, hrun, hB⟩ := hrel
        cases rest with
        | nil =>
          have h5 : n5 = 0 := by simpa using hlr.symm
          subst h5
          rw [show ofGo ([] : List Int).length [] = [] from rfl, List.append_nil] at hrun
          have hrd := hown.rd
          rw [hrun] at hrd
          have HF : Hid (OfPost w l (.returned (.tuple #[.slice p' n' c', .int .i64 0])) wr) := Lib.hid (ofPost_ok HE.out (by omega) (by rw [HL.out]; omega) hrd hB)
          clear hrun hown hlr hrr hrd
          go_wp2
          go_ret2
          exact HF.out
        | cons x r =>
          have hpos : 0 < n5 := by rw [← hlr]; simp
          obtain ⟨b, off, rfl, -, hc0⟩ := (hrr.later hB).at (k := 0) (by simp)
          rw [Nat.add_zero] at hc0
          unfold iR at hc0
          simp only [List.getElem_cons_zero] at hc0
          rw [ofGo_step] at hrun
          have hsn := strN_le x r
          rw [hlr] at hsn
          have HLR := Lib.hid hlr
          have HRR := Lib.hid (hrr.later hB)
          have HRW := Lib.hid hrr
          have HC0 := Lib.hid hc0
          obtain ⟨st, hst⟩ : ∃ st, strN (x :: r) = st := ⟨_, rfl⟩
          rw [hst] at hrun hsn
          have HST := Lib.hid hst
          have HRUN := Lib.hid hrun
          clear hlr hrr hc0 hst hrun
          go_wp2_with fail
          have s3 : (0 : Int) < (n5 : Int) := by omega
          refine wp_region_grow (by kernel_rfl) (by kernel_rfl) (by rfl) ?_
          apply gw_val
          · intro a' w' hk
            refine ⟨wanted_none rfl, ?_⟩
            simp [Oper.looksAt, Op.operands, Call.operands, KnownAt, List.lookup, consD] at hk
            simp [execOp, Act.eval, hk, go_sem]
            all_goals rfl
          refine gw_call _ #[.slice (some ⟨b, off, none⟩) n5 c5] (fun x _ => x = .int .i64 ((st : Nat) : Int)) (mono_eq _) (fun a' w' hk => ?_) (fun w' hb => (stretch_any (some ⟨b, off, none⟩) n5 c5 x r w' HLR.out (by omega) (HRR.out.drew.later hb)).mono ?_) ?_
          · refine ⟨wanted_none rfl, ?_⟩
            simp [Oper.looksAt, Op.operands, Call.operands, KnownAt, List.lookup, consD] at hk
            simp [execOp, Act.eval, hk, go_sem]
            all_goals rfl
          · rw [HST.out]
            rintro e w'' ⟨rfl, hB⟩
            exact ⟨_, rfl, rfl, hB⟩
          apply gw_val
          · intro a' w' hk
            refine ⟨wanted_none rfl, ?_⟩
            simp [Oper.looksAt, Op.operands, Call.operands, KnownAt, List.lookup, consD] at hk
            simp [execOp, Act.eval, hk, go_sem]
            all_goals rfl
          apply gw_val
          · intro a' w' hk
            refine ⟨wanted_none rfl, ?_⟩
            simp [Oper.looksAt, Op.operands, Call.operands, KnownAt, List.lookup, consD] at hk
            simp [execOp, Act.eval, hk, go_sem, hpos]
            all_goals rfl
          refine gw_valB (fun v _ => v = .int .i64 x) (mono_eq _) ?_ ?_
          · intro a' w' hb' hk
            refine ⟨wanted_none rfl, _, ?_, rfl⟩
            have hq := cell_later2 HC0.out hb'
            simp [Oper.looksAt, Op.operands, Call.operands, KnownAt, List.lookup, consD] at hk
            simp [execOp, Act.eval, hk, hq, go_sem]
            all_goals rfl
          apply gw_val
          · intro a' w' hk
            refine ⟨wanted_none rfl, ?_⟩
            simp [Oper.looksAt, Op.operands, Call.operands, KnownAt, List.lookup, consD] at hk
            simp [execOp, Act.eval, hk, go_sem]
            all_goals rfl
          apply gw_val
          · intro a' w' hk
            refine ⟨wanted_none rfl, ?_⟩
            simp [Oper.looksAt, Op.operands, Call.operands, KnownAt, List.lookup, consD] at hk
            simp [execOp, Act.eval, hk, go_sem]
            all_goals rfl
          clear s3
          intro vs w3 hb3 hall
          simp only [AllS, consD] at hall
          simp only [consD, putAllS, Act.put]
          obtain ⟨h7, h6, -⟩ := hall
          rw [h7, h6]
          simp only [List.setIfInBounds_toArray, List.set_cons_succ, List.set_cons_zero]
          have hb3' : Below wr.heap.size wr w3 := ((Below.refl wr.heap.size wr).drew).trans hb3
          have hown3 := hown.below hb3'
          have hB3 := hB.trans (hb3'.mono hB.size)
          have hrest := Rd.slP HRW.out st c5 (by rw [HLR.out]; exact hnc5)
          have hlenr : ((x :: r).drop st).length = n5 - st := by rw [List.length_drop, HLR.out]
          clear h7 h6 hb3 hb3' hown hB HRR HC0 HST
          have hsl := fun w => run_slice_l1 (P := Try.prog) slIR (some ⟨b, off, none⟩) n5 c5 st hsn.2 (st : Int) rfl w
          obtain ⟨q5, hq5⟩ : ∃ q5, slP (some ⟨b, off, none⟩) c5 st = q5 := ⟨_, rfl⟩
          rw [hq5] at hsl hrest
          clear hq5
          generalize (x :: r).drop st = rest at HRUN hrest hlenr
          have HREST := Lib.hid (And.intro hrest hlenr)
          clear hrest hlenr
          have hc5' : c5 - st ≤ 9223372036854775807 := by omega
          have hsz3 := hB3.size
          by_cases hx : x = 0
          · have hrun := HRUN.out
            unfold headOf at hrun
            rw [if_pos hx] at hrun
            rw [hx] at hrun ⊢
            have HR9 := Lib.hid hrun
            clear hrun HRUN hx
            go_wp2_with fail
            clear hsl
            refine (split18_any p' n' c' acc st w3 w.heap.size hsz3 hown3 (by omega)).mono ?_
            rintro e w4 ⟨p4, n4, c4, rfl, hown4, hcnt4, hB4⟩
            have hB4' := hB3.trans hB4
            clear hown3 hB3 hB4
            generalize splitGo 18 st st = s18 at *
            obtain ⟨l18, k18⟩ := s18
            simp only at hown4 hcnt4 HR9
            go_wp2_with fail
            refine (split17_any p4 n4 c4 _ k18 w4 w.heap.size hB4'.size hown4 (by omega)).mono ?_
            rintro e w5 ⟨p5, n5', c5', rfl, hown5, hcnt5, hB5⟩
            have hB5' := hB4'.trans hB5
            clear hown4 hB4' hB5
            generalize splitGo 17 k18 k18 = s17 at *
            obtain ⟨l17, k17⟩ := s17
            simp only at hown5 hcnt5 HR9
            have HR8 : Hid ((acc ++ l18 ++ l17) ++ List.replicate k17 ((0 : Int), (0 : Int)) ++ ofGo rest.length rest = ofGo l.length l) := Lib.hid (by rw [← HR9.out]; simp only [List.append_assoc])
            clear HR9
            generalize acc ++ l18 ++ l17 = acc2 at *
            go_wp2
            go_loopw [4, 52] (fun x4 xi wr => ∃ (t c2 : Nat) (p2 : Option Addr), t ≤ k17 ∧ xi = .int .i64 t ∧ x4 = .slice p2 (n5' + t) c2 ∧ OwnR wr w.heap.size p2 (n5' + t) c2 (acc2 ++ List.replicate t (0, (0 : Int))) ∧ Below w.heap.size w wr) (fun _ xi _ => k17 - (intOf xi).toNat)
            case atStart => exact ⟨0, c5', p5, by omega, rfl, rfl, by simpa using hown5, hB5'⟩
            case round =>
              clear hown5 hB5'
              obtain ⟨t, c2, p2, ht, rfl, rfl, hown, hB⟩ := hrel
              by_cases htt : t < k17
              · have hsz := hB.size
                have hrow := fun k hk => (hown.1.lt k hk).1
                have HROW2 := Lib.hid hrow
                clear hrow
                go_wp2_with (at_builtin; refine wpList_pushR rfl _ _ rfl (u := 0) (v := 0) rfl rfl hown rfl (by omega) hsz ?_; intro p6 c6 w6 hown6 hg6; have hB6 := hB.grown hg6 hsz (fun k hk => HROW2.out k hk); clear hown hB hg6)
                go_roundw
                case rel => exact ⟨t + 1, c6, p6, by omega, by go_num, rfl, by rw [← repR_snoc]; exact hown6, hB6⟩
                case measure => simp [intOf]; omega
              · have htn : t = k17 := by omega
                rw [htn] at hown ⊢
                clear htn htt ht
                have HFIN := Lib.hid (And.intro hown hB)
                clear hown hB
                go_wp2
                go_roundw
                case rel => exact ⟨n5 - st, c5 - st, n5' + k17, c2, q5, p2, rest, _, rfl, rfl, HREST.out.2, by omega, by omega, by omega, HREST.out.1, HFIN.out.1, HR8.out, HFIN.out.2⟩
                case measure => simp [lenV]; omega
          · have hrun := HRUN.out
            unfold headOf at hrun
            rw [if_neg hx] at hrun
            have HR9 := Lib.hid hrun
            have hxb : (x == 0) = false := beq_eq_false_iff_ne.2 hx
            have hrow := fun k hk => (hown3.1.lt k hk).1
            have HROW := Lib.hid hrow
            clear hrun HRUN hx hrow
            obtain ⟨s0, rfl⟩ : ∃ s0, st = s0 + 1 := ⟨st - 1, by omega⟩
            rw [Nat.add_sub_cancel] at HR9
            have hsl' : ∀ w, (Instr.slice 72 (.slice (some ⟨b, off, none⟩) n5 c5) (some (.int .i64 ((s0 : Int) + 1))) none none).run Try.prog w = .ok (.slice q5 (n5 - (s0 + 1)) (c5 - (s0 + 1))) w := fun w => by have := hsl w; push_cast at this; exact this
            clear hsl
            go_wp2_with (at_builtin; refine wpList_pushR rfl _ _ rfl (u := x) (v := 0) rfl rfl hown3 rfl (by omega) hsz3 ?_; intro p4 c4 w4 hown4 hg4; have hB4' := hB3.grown hg4 hsz3 (fun k hk => HROW.out k hk); have hgr4 := hg4; clear hown3 hB3 hg4)
            clear hsl'
            refine (split16_any p4 (n' + 1) c4 _ s0 w4 w.heap.size hB4'.size hown4 (by omega)).mono ?_
            rintro e w5 ⟨p5, n5', c5', rfl, hown5, hcnt5, hB5⟩
            have hB5' := hB4'.trans hB5
            clear hown4 hB4' hB5
            generalize splitGo 16 s0 s0 = s16 at *
            obtain ⟨l17, k17⟩ := s16
            simp only at hown5 hcnt5 HR9
            have HR8 : Hid ((acc ++ [(x, 0)] ++ l17) ++ List.replicate k17 (x, (0 : Int)) ++ ofGo rest.length rest = ofGo l.length l) := Lib.hid (by rw [← HR9.out]; simp only [List.append_assoc])
            clear HR9
            generalize acc ++ [(x, 0)] ++ l17 = acc2 at *
            go_wp2
            go_loopw [4, 52] (fun x4 xi wr => ∃ (t c2 : Nat) (p2 : Option Addr), t ≤ k17 ∧ xi = .int .i64 t ∧ x4 = .slice p2 (n5' + t) c2 ∧ OwnR wr w.heap.size p2 (n5' + t) c2 (acc2 ++ List.replicate t (x, (0 : Int))) ∧ Below w.heap.size w wr) (fun _ xi _ => k17 - (intOf xi).toNat)
            case atStart => exact ⟨0, c5', p5, by omega, rfl, rfl, by simpa using hown5, hB5'⟩
            case round =>
              clear hown5 hB5'
              obtain ⟨t, c2, p2, ht, rfl, rfl, hown, hB⟩ := hrel
              by_cases htt : t < k17
              · have hsz := hB.size
                have hrow := fun k hk => (hown.1.lt k hk).1
                have HROW2 := Lib.hid hrow
                clear hrow
                go_wp2_with (at_builtin; refine wpList_pushR rfl _ _ rfl (u := x) (v := 0) rfl rfl hown rfl (by omega) hsz ?_; intro p6 c6 w6 hown6 hg6; have hB6 := hB.grown hg6 hsz (fun k hk => HROW2.out k hk); clear hown hB hg6)
                go_roundw
                case rel => exact ⟨t + 1, c6, p6, by omega, by go_num, rfl, by rw [← repR_snoc]; exact hown6, hB6⟩
                case measure => simp [intOf]; omega
              · have htn : t = k17 := by omega
                rw [htn] at hown ⊢
                clear htn htt ht
                have HFIN := Lib.hid (And.intro hown hB)
                clear hown hB
                go_wp2
                go_roundw
                case rel => exact ⟨n5 - (s0 + 1), c5 - (s0 + 1), n5' + k17, c2, q5, p2, rest, _, rfl, rfl, HREST.out.2, by omega, by omega, by omega, HREST.out.1, HFIN.out.1, HR8.out, HFIN.out.2⟩
                case measure => simp [lenV]; omega
end Go.Proofs.Ytmmgcfhoigpomaa
