/- The reader of instructions: one. -/
import Derived.Test.YtgcdeadfkljeaaaOpsF
import Derived.BigQuiet
import Derived.Deep.DeepCutAuto
namespace Go.Proofs.Ytgcdeadfkljeaaa
open Go.RowKit
set_option linter.unusedVariables false
set_option linter.unusedSimpArgs false

/-- What an opcode's form wants. -/
def oneB (L : List UInt8) (st : StepK) (n : Int) (f : Nat) (s : CS) : StepK × CS :=
  if f = 98 then ({ st with num := (sgnK L 1 s).1 }, (sgnK L 1 s).2)
  else if f = 115 then ({ st with num := (sgnK L 2 s).1 }, (sgnK L 2 s).2)
  else if f = 99 then ({ st with pool := (bigK L (st.op - 18 + 1) s).1, op := 18 }, (bigK L (st.op - 18 + 1) s).2)
  else if f = 100 ∨ f = 112 then ({ st with pool := (bigK L 2 s).1 }, (bigK L 2 s).2)
  else if f = 118 then ({ st with var := (bigK L n s).1 }, (bigK L n s).2)
  else if f = 105 then ({ st with var := (bigK L n s).1, num := (sgnK L n (bigK L n s).2).1 }, (sgnK L n (bigK L n s).2).2)
  else if f = 106 then ({ st with goal := st.at' + (sgnK L 2 s).1 }, (sgnK L 2 s).2)
  else if f = 119 then ({ st with goal := st.at' + (sgnK L 4 s).1 }, (sgnK L 4 s).2)
  else if f = 102 then
    let p := bigK L 2 s
    let v := bigK L 1 p.2
    let o := bigK L 1 v.2
    ({ st with pool := p.1, var := v.1 }, isC (decide (0 < v.1) && (o.1 == 0)) o.2)
  else if f = 97 then
    let v := bigK L 1 s
    ({ st with var := v.1 }, isC (decide (4 ≤ v.1) && decide (v.1 ≤ 11)) v.2)
  else if f = 109 then
    let p := bigK L 2 s
    let v := bigK L 1 p.2
    ({ st with pool := p.1, var := v.1 }, isC (decide (0 < v.1)) v.2)
  else if f = 116 then tblK L st s
  else if f = 108 then lkpK L st s
  else (st, s)
/-- The opcode: how many bytes numbers have, whether it is wide, the opcode behind, the state. -/
def opK (L : List UInt8) (s : CS) : Int × Bool × Int × CS :=
  if (bigK L 1 s).1 = 196 then (2, true, (bigK L 1 (bigK L 1 s).2).1, (bigK L 1 (bigK L 1 s).2).2) else (1, false, (bigK L 1 s).1, (bigK L 1 s).2)
def oneK (L : List UInt8) (s : CS) : StepK × CS :=
  let o := opK L s
  let f := formK o.2.2.1 o.2.1 o.2.2.2
  oneB L ⟨(s.p : Int), o.2.2.1, 0, 0, 0, 0, [], []⟩ o.1 f.1 f.2
def OnePost (gr gc : Nat) (L : List UInt8) (w : World) (r : StepK × CS) (e : Ending) (w' : World) : Prop :=
  ∃ ka kn kc ta tn tc, e = .returned (.agg (stC r.1 (.slice ka kn kc) (.slice ta tn tc))) ∧ Own w' w.heap.size 3 nE ka kn kc r.1.keys ∧ Own w' w.heap.size 3 nE ta tn tc r.1.tgts ∧ RSt w' gr gc L r.2 ∧ w.grownBy w' (some gc)
theorem oneB_98 (L : List UInt8) (st : StepK) (n : Int) (s : CS) : oneB L st n 98 s = ({ st with num := (sgnK L 1 s).1 }, (sgnK L 1 s).2) := rfl
theorem oneB_115 (L : List UInt8) (st : StepK) (n : Int) (s : CS) : oneB L st n 115 s = ({ st with num := (sgnK L 2 s).1 }, (sgnK L 2 s).2) := rfl
theorem oneB_100 (L : List UInt8) (st : StepK) (n : Int) (s : CS) : oneB L st n 100 s = ({ st with pool := (bigK L 2 s).1 }, (bigK L 2 s).2) := rfl
theorem oneB_112 (L : List UInt8) (st : StepK) (n : Int) (s : CS) : oneB L st n 112 s = ({ st with pool := (bigK L 2 s).1 }, (bigK L 2 s).2) := rfl
theorem oneB_118 (L : List UInt8) (st : StepK) (n : Int) (s : CS) : oneB L st n 118 s = ({ st with var := (bigK L n s).1 }, (bigK L n s).2) := rfl
theorem oneB_105 (L : List UInt8) (st : StepK) (n : Int) (s : CS) : oneB L st n 105 s = ({ st with var := (bigK L n s).1, num := (sgnK L n (bigK L n s).2).1 }, (sgnK L n (bigK L n s).2).2) := rfl
theorem oneB_99 (L : List UInt8) (st : StepK) (n : Int) (s : CS) : oneB L st n 99 s = ({ st with pool := (bigK L (st.op - 18 + 1) s).1, op := 18 }, (bigK L (st.op - 18 + 1) s).2) := rfl
theorem form_99 : ∀ k, k < 202 → formF k = 99 → k = 18 ∨ k = 19 := by decide +kernel
theorem oneB_106 (L : List UInt8) (st : StepK) (n : Int) (s : CS) : oneB L st n 106 s = ({ st with goal := st.at' + (sgnK L 2 s).1 }, (sgnK L 2 s).2) := rfl
theorem oneB_119 (L : List UInt8) (st : StepK) (n : Int) (s : CS) : oneB L st n 119 s = ({ st with goal := st.at' + (sgnK L 4 s).1 }, (sgnK L 4 s).2) := rfl
theorem oneB_97 (L : List UInt8) (st : StepK) (n : Int) (s : CS) : oneB L st n 97 s = ({ st with var := (bigK L 1 s).1 }, isC (decide (4 ≤ (bigK L 1 s).1) && decide ((bigK L 1 s).1 ≤ 11)) (bigK L 1 s).2) := rfl
theorem oneB_109 (L : List UInt8) (st : StepK) (n : Int) (s : CS) : oneB L st n 109 s = ({ st with pool := (bigK L 2 s).1, var := (bigK L 1 (bigK L 2 s).2).1 }, isC (decide (0 < (bigK L 1 (bigK L 2 s).2).1)) (bigK L 1 (bigK L 2 s).2).2) := rfl
theorem oneB_102 (L : List UInt8) (st : StepK) (n : Int) (s : CS) : oneB L st n 102 s = ({ st with pool := (bigK L 2 s).1, var := (bigK L 1 (bigK L 2 s).2).1 }, isC (decide (0 < (bigK L 1 (bigK L 2 s).2).1) && ((bigK L 1 (bigK L 1 (bigK L 2 s).2).2).1 == 0)) (bigK L 1 (bigK L 1 (bigK L 2 s).2).2).2) := rfl
theorem oneB_116 (L : List UInt8) (st : StepK) (n : Int) (s : CS) : oneB L st n 116 s = tblK L st s := rfl
theorem oneB_108 (L : List UInt8) (st : StepK) (n : Int) (s : CS) : oneB L st n 108 s = lkpK L st s := rfl
theorem size_sto : (Try.prog.info? STO).map (·.size) = some 8 := by kernel_rfl
abbrev nilS : Value := .slice none 0 0
abbrev stZ : Array Value := #[.int .i64 0, .int .i64 0, .int .i64 0, .int .i64 0, .int .i64 0, .int .i64 0, nilS, nilS]
theorem Gx.grown {w w' : World} {S : List Nat} {g : Nat} (h : Gx w w' S) (hs : ∀ k ∈ S, k = g ∨ w.heap.size ≤ k) : w.grownBy w' (some g) := ⟨h.os, h.tape, h.output, h.size, fun k hk hn => h.block k hk (fun hm => by
  rcases hs k hm with e | e
  · exact hn (by rw [e])
  · omega)⟩
theorem stC_one (st : StepK) (p q : Option Addr) (n c m d : Nat) : ∀ u ∈ (stC st (.slice p n c) (.slice q m d)).toList, u.oneCell' = true := by
  intro u hu
  simp only [stC, List.mem_cons, List.not_mem_nil, or_false] at hu
  rcases hu with rfl | rfl | rfl | rfl | rfl | rfl | rfl | rfl <;> rfl
/-- Where an instruction stands while it is read. -/
structure OneSt (w0 w : World) (gr gc gs g0 : Nat) (L : List UInt8) (s : CS) (st : StepK) (k t : Value) : Prop where
  rd : RSt w gr gc L s
  blk : Blk w gs STO (stC st k t)
  res : Blk w g0 STO stZ
  gx : Gx w0 w [gc, gs, g0]
  le : gr < g0 ∧ gr < gs ∧ w0.heap.size ≤ g0 ∧ w0.heap.size ≤ gs ∧ g0 < gs
section
variable {w0 w w' : World} {gr gc gs g0 : Nat} {L : List UInt8} {s s' : CS} {st : StepK} {k t : Value}
theorem OneSt.moved (h : OneSt w0 w gr gc gs g0 L s st k t) (hr : RSt w' gr gc L s') (hg : w.grownBy w' (some gc)) : OneSt w0 w' gr gc gs g0 L s' st k t := by
  have hle := h.le
  have hne := h.rd.ne
  exact ⟨hr, h.blk.grown hg (fun e => by have := Option.some.inj e; omega), h.res.grown hg (fun e => by have := Option.some.inj e; omega), h.gx.trans ((Gx.of_grown hg).mono (by simp)), hle⟩
theorem OneSt.drewN (h : OneSt w0 w gr gc gs g0 L s st k t) (n : Nat) : OneSt w0 (w.drewN n) gr gc gs g0 L s st k t :=
  ⟨h.rd.below (below_drewN w w.heap.size n), h.blk, h.res, h.gx.trans (Gx.of_below (below_drewN w w.heap.size n)), h.le⟩
theorem OneSt.set (h : OneSt w0 w gr gc gs g0 L s st k t) (i : Nat) (v : Value) {st' : StepK} {k' t' : Value} (he : (stC st k t).setIfInBounds i v = stC st' k' t') : OneSt w0 (w.setCell ⟨gs, i, none⟩ v) gr gc gs g0 L s st' k' t' := by
  have hle := h.le
  have hne := h.rd.ne
  have hg := grownBy_setCell w ⟨gs, i, none⟩ v
  refine ⟨h.rd.later hg (fun x hx => by have := Option.some.inj hx; simp only at this; omega), by rw [← he]; exact h.blk.setCell i v, h.res.setCell_ne (by simp only; omega) v, h.gx.trans ((Gx.of_grown hg).mono (by simp)), hle⟩
theorem OneSt.fin (h : OneSt w0 w gr gc gs g0 L s st nilS nilS) (hk : st.keys = []) (ht : st.tgts = []) (hg : w.grownBy w' (some g0)) : OnePost gr gc L w0 (st, s) (.returned (.agg (stC st nilS nilS))) w' := by
  have hle := h.le
  have hne := h.rd.ne
  refine ⟨none, 0, 0, none, 0, 0, rfl, by simp only; rw [hk]; exact Own.nil, by simp only; rw [ht]; exact Own.nil, h.rd.later hg (fun x hx => by have := Option.some.inj hx; omega), (h.gx.trans ((Gx.of_grown hg).mono (by simp))).grown (fun x hx => ?_)⟩
  simp at hx
  omega
theorem OneSt.finS (h : OneSt w0 w gr gc gs g0 L s st k t) {w6 : World} {s6 : CS} {st6 : StepK} {ka : Option Addr} {kn kc : Nat} {ta : Option Addr} {tn tc : Nat} (hS : StR w6 gr gc gs w.heap.size L s6 st6 ka kn kc ta tn tc) (hgx : Gx w w6 [gc, gs]) (hg : w6.grownBy w' (some g0)) : OnePost gr gc L w0 (st6, s6) (.returned (.agg (stC st6 (.slice ka kn kc) (.slice ta tn tc)))) w' := by
  have hle := h.le
  have hne := h.rd.ne
  have hlt := h.res.lt
  have hsz := h.gx.size
  refine ⟨ka, kn, kc, ta, tn, tc, rfl, (hS.keys.grown hg (fun b e1 e2 => ?_)).mono hsz, (hS.tgts.grown hg (fun b e1 e2 => ?_)).mono hsz, hS.rd.later hg (fun x hx => by have := Option.some.inj hx; omega), (h.gx.trans ((hgx.mono (by simp)).trans ((Gx.of_grown hg).mono (by simp)))).grown (fun x hx => ?_)⟩
  · subst e1; have := (hS.keys.1.lt b (ownB_some _ _ _)).1; have := Option.some.inj e2; omega
  · subst e1; have := (hS.tgts.1.lt b (ownB_some _ _ _)).1; have := Option.some.inj e2; omega
  · simp at hx
    omega
end
section
variable {gr gc : Nat} {L : List UInt8} {s : CS}
set_option maxRecDepth 100000 in
set_option maxHeartbeats 16000000 in
theorem rOne_any (w : World) (h : RSt w gr gc L s) : Calls Try.prog 46 #[.pointer (some ⟨gr, 0, none⟩)] w (OnePost gr gc L w (oneK L s)) := by
  have mixed : Try.prog.follows .mixedOrders = true := by kernel_rfl
  have hlen := h.cur.len
  have hpl := h.cur.place
  have HZ : Hid (RSt (w.alloc (.cells stZ STO)) gr gc L s ∧ Blk (w.alloc (.cells stZ STO)) w.heap.size STO stZ ∧ Below w.heap.size w (w.alloc (.cells stZ STO)) ∧ gr < w.heap.size) := Lib.hid ⟨h.below (below_alloc _ _), Blk.new _ _ _, below_alloc _ _, h.blk.lt⟩
  have c0 : (w.alloc (.cells stZ STO)).cell? ⟨gr, 0, none⟩ = some (.pointer (some ⟨gc, 0, none⟩)) := HZ.out.1.blk.cell (i := 0) (rdC_zero gc)
  have HA := Lib.hid (cAt_any gc L s.p s.e (w.alloc (.cells stZ STO)) HZ.out.1.cur)
  have HBG := Lib.hid (fun w' h => rBig_any (s := s) (gr := gr) (gc := gc) (L := L) 1 w' h (.inl rfl))
  have HBG2 := Lib.hid (fun w' h => rBig_any (s := (bigK L 1 s).2) (gr := gr) (gc := gc) (L := L) 1 w' h (.inl rfl))
  have hbl := bigK_lt L 1 s (.inl rfl)
  have hbl2 := bigK_lt L 1 (bigK L 1 s).2 (.inl rfl)
  obtain ⟨tot, htot⟩ : ∃ t, t = oneK L s := ⟨_, rfl⟩
  rw [← htot]
  have hop : opK L s = if (bigK L 1 s).1 = 196 then (2, true, (bigK L 1 (bigK L 1 s).2).1, (bigK L 1 (bigK L 1 s).2).2) else (1, false, (bigK L 1 s).1, (bigK L 1 s).2) := rfl
  generalize bigK L 1 s = o1 at *
  obtain ⟨ov, os⟩ := o1
  generalize bigK L 1 os = o2 at *
  obtain ⟨pv, ps⟩ := o2
  simp only at hbl hbl2 hop
  have hbl : 0 ≤ ov ∧ ov < 256 := hbl
  have hbl2 : 0 ≤ pv ∧ pv < 256 := hbl2
  have HOP := Lib.hid hop
  have HTOT := Lib.hid htot
  clear h hop htot
  go_enter Try.func46, Try.ntmps46
  go_wp2_with fail
  refine HA.out.mono ?_
  rintro e w' ⟨rfl, hw⟩
  subst hw
  go_wp2_with fail
  refine (HBG.out _ HZ.out.1).mono ?_
  rintro e w2 ⟨rfl, h2, g2⟩
  obtain ⟨g0, hg0⟩ : ∃ g, g = w.heap.size := ⟨_, rfl⟩
  have HZ2 : Hid (RSt w2 gr gc L os ∧ Blk w2 g0 STO stZ ∧ w.grownBy w2 (some gc) ∧ gr < g0 ∧ w.heap.size ≤ g0 ∧ gc < gr) := Lib.hid (by
    have hn := h2.ne
    have h4 := HZ.out.2.2.2
    refine ⟨h2, by rw [hg0]; exact HZ.out.2.1.grown g2 (fun e => by have := Option.some.inj e; omega), ?_, by omega, by omega, hn⟩
    exact grownBy_trans (grownBy_of_below _ HZ.out.2.2.1) g2)
  rw [← hg0]
  clear h2 g2 HA HZ HBG c0 hg0
  have HS : Hid (RSt (w2.alloc (.cells #[.int .i64 (s.p : Int), .int .i64 ov, .int .i64 0, .int .i64 0, .int .i64 0, .int .i64 0, nilS, nilS] STO)) gr gc L os ∧ Blk (w2.alloc (.cells #[.int .i64 (s.p : Int), .int .i64 ov, .int .i64 0, .int .i64 0, .int .i64 0, .int .i64 0, nilS, nilS] STO)) w2.heap.size STO (stC ⟨(s.p : Int), ov, 0, 0, 0, 0, [], []⟩ nilS nilS) ∧ Below w2.heap.size w2 (w2.alloc (.cells #[.int .i64 (s.p : Int), .int .i64 ov, .int .i64 0, .int .i64 0, .int .i64 0, .int .i64 0, nilS, nilS] STO))) := Lib.hid ⟨HZ2.out.1.below (below_alloc _ _), Blk.new _ _ _, below_alloc _ _⟩
  go_wp2_with fail
  obtain ⟨gs, hgs⟩ : ∃ g, g = w2.heap.size := ⟨_, rfl⟩
  obtain ⟨w3, hw3⟩ : ∃ x, x = w2.alloc (.cells #[.int .i64 (s.p : Int), .int .i64 ov, .int .i64 0, .int .i64 0, .int .i64 0, .int .i64 0, nilS, nilS] STO) := ⟨_, rfl⟩
  have H3 : Hid (OneSt w w3 gr gc gs g0 L os ⟨(s.p : Int), ov, 0, 0, 0, 0, [], []⟩ nilS nilS) := Lib.hid (by
    have h1 := HZ2.out
    have h2 := HS.out
    have hlt := h1.2.1.lt
    rw [← hw3] at h2
    rw [← hgs] at h2
    exact ⟨h2.1, h2.2.1, h1.2.1.below (by rw [hgs] at h2; exact h2.2.2), ((Gx.of_grown h1.2.2.1).mono (by simp)).trans (Gx.of_below (by rw [hgs] at h2; exact h2.2.2)), h1.2.2.2.1, by omega, h1.2.2.2.2.1, by omega, by omega⟩)
  have HGC : Hid (gc < gr) := Lib.hid HZ2.out.2.2.2.2.2
  rw [← hw3, ← hgs]
  clear hw3 hgs HS HZ2
  obtain ⟨wd, hwd⟩ : ∃ b, (ov == 196) = b := ⟨_, rfl⟩
  have HOP2 : Hid (opK L s = if wd then (2, true, pv, ps) else (1, false, ov, os)) := Lib.hid (by
    rw [HOP.out, ← hwd]
    by_cases h : ov = 196
    · rw [if_pos h, show (ov == 196) = true by simp [h]]; rfl
    · rw [if_neg h, show (ov == 196) = false by simp [h]]; rfl)
  have cs1 : w3.cell? ⟨gs, 1, none⟩ = some (.int .i64 ov) := H3.out.blk.cell (i := 1) rfl
  go_quiet (fail)
  clear hwd cs1
  go_upto_if 18 with fail
  go_cut [4] (fun x4 wx => ∃ (n op2 : Int) (s2 : CS), x4 = .int .i64 n ∧ Hid (opK L s = (n, wd, op2, s2)) ∧ (0 ≤ op2 ∧ op2 < 256) ∧ (n = 1 ∨ n = 2) ∧ Hid (OneSt w wx gr gc gs g0 L s2 ⟨(s.p : Int), op2, 0, 0, 0, 0, [], []⟩ nilS nilS))
  case first =>
    have H3d := Lib.hid (H3.out.drewN 1)
    cases wd with
    | false =>
      have HO : Hid (opK L s = (1, false, ov, os)) := Lib.hid (by rw [HOP2.out]; rfl)
      go_wp2
      go_meet
      exact ⟨1, ov, os, rfl, HO, hbl, .inl rfl, Lib.hid (H3.out.drewN _)⟩
    | true =>
      have HO : Hid (opK L s = (2, true, pv, ps)) := Lib.hid (by rw [HOP2.out]; rfl)
      go_wp2_with fail
      refine (HBG2.out _ (H3.out.drewN _).rd).mono ?_
      rintro e w4 ⟨rfl, h4, g4⟩
      have H4 := Lib.hid ((H3.out.drewN _).moved h4 g4)
      have q1 : w4.cell? ⟨gs, 1, none⟩ = some (.int .i64 ov) := H4.out.blk.cell (i := 1) rfl
      have f1 := H4.out.blk.frozen 1
      clear h4 g4
      go_wp2
      go_meet
      exact ⟨2, pv, ps, rfl, HO, hbl2, .inr rfl, Lib.hid (H4.out.set 1 _ rfl)⟩
  case rest =>
    obtain ⟨n, op2, s2, rfl, HO, hop2, hn12, H4⟩ := hcut
    have hn4 : n = 1 ∨ n = 2 ∨ n = 4 := by omega
    have hT : tot = oneB L ⟨(s.p : Int), op2, 0, 0, 0, 0, [], []⟩ n (formK op2 wd s2).1 (formK op2 wd s2).2 := by rw [HTOT.out]; unfold oneK; rw [HO.out]
    have HFM := Lib.hid (fun w' h => rForm_any (s := s2) (gr := gr) (gc := gc) (L := L) op2 wd w' h (by omega))
    have hff : (formK op2 wd s2).1 = if op2 ≤ 201 then formF op2.toNat else 0 := rfl
    generalize formK op2 wd s2 = fk at *
    obtain ⟨f, fs⟩ := fk
    simp only at hT hff
    have HT := Lib.hid hT
    have HFF := Lib.hid hff
    clear hT hff HO HOP2 HOP HTOT hbl hbl2 HBG2 H3
    have c1 : wc.cell? ⟨gs, 1, none⟩ = some (.int .i64 op2) := H4.out.blk.cell (i := 1) rfl
    go_wp2_with fail
    refine (HFM.out _ H4.out.rd).mono ?_
    rintro e w5 ⟨rfl, h5, g5⟩
    have H5 := Lib.hid (H4.out.moved h5 g5)
    clear h5 g5 c1 H4 HFM
    by_cases h98 : f = 98
    · subst h98
      have hTC := HT.out
      replace hTC : tot = _ := hTC.trans (oneB_98 L _ n fs)
      simp only at hTC
      have Ha := Lib.hid (fun w' h => rSigned_any (s := fs) (gr := gr) (gc := gc) (L := L) 1 w' h (.inl rfl))
      have hra := sgnK_rng L 1 fs (.inl rfl)
      generalize sgnK L 1 fs = qa at *
      obtain ⟨va, sa⟩ := qa
      simp only at hra
      have HTC : Hid (tot = (⟨(s.p : Int), op2, 0, va, 0, 0, [], []⟩, sa)) := Lib.hid hTC
      clear hTC HT
      go_wp2_with fail
      refine (Ha.out _ H5.out.rd).mono ?_
      rintro e w6a ⟨rfl, ha, ga⟩
      have HMa := Lib.hid (H5.out.moved ha ga)
      clear ha ga
      have q3num : w6a.cell? ⟨gs, 3, none⟩ = some (.int .i64 (0)) := HMa.out.blk.cell (i := 3) rfl
      have f3num := HMa.out.blk.frozen 3
      have HTnum : Hid (OneSt w (w6a.setCell ⟨gs, 3, none⟩ (.int .i64 (va))) gr gc gs g0 L sa ⟨(s.p : Int), op2, 0, va, 0, 0, [], []⟩ nilS nilS) := Lib.hid (HMa.out.set 3 _ rfl)
      have HG := HTnum
      go_wp2_with (first | (refine wpList_load_row rfl _ _ rfl _ rfl _ _ _ _ HG.out.blk Try.underlying48 rfl size_sto ?_) | (refine wpList_storeBlk (cs' := stC ⟨(s.p : Int), op2, 0, va, 0, 0, [], []⟩ nilS nilS) rfl _ _ rfl rfl rfl HG.out.res rfl size_sto (stC_one _ _ _ _ _ _ _) ?_; intro d0 dg))
      refine bodyPost_ret (results_cell_row (p := 2) rfl _ _ g0 _ _ _ _ rfl d0 Try.underlying48 rfl size_sto) rfl ?_
      rw [HTC.out]
      exact HG.out.fin rfl rfl dg
    by_cases h115 : f = 115
    · subst h115
      have hTC := HT.out
      replace hTC : tot = _ := hTC.trans (oneB_115 L _ n fs)
      simp only at hTC
      have Ha := Lib.hid (fun w' h => rSigned_any (s := fs) (gr := gr) (gc := gc) (L := L) 2 w' h (.inr (.inl rfl)))
      have hra := sgnK_rng L 2 fs (.inr (.inl rfl))
      generalize sgnK L 2 fs = qa at *
      obtain ⟨va, sa⟩ := qa
      simp only at hra
      have HTC : Hid (tot = (⟨(s.p : Int), op2, 0, va, 0, 0, [], []⟩, sa)) := Lib.hid hTC
      clear hTC HT
      go_wp2_with fail
      refine (Ha.out _ H5.out.rd).mono ?_
      rintro e w6a ⟨rfl, ha, ga⟩
      have HMa := Lib.hid (H5.out.moved ha ga)
      clear ha ga
      have q3num : w6a.cell? ⟨gs, 3, none⟩ = some (.int .i64 (0)) := HMa.out.blk.cell (i := 3) rfl
      have f3num := HMa.out.blk.frozen 3
      have HTnum : Hid (OneSt w (w6a.setCell ⟨gs, 3, none⟩ (.int .i64 (va))) gr gc gs g0 L sa ⟨(s.p : Int), op2, 0, va, 0, 0, [], []⟩ nilS nilS) := Lib.hid (HMa.out.set 3 _ rfl)
      have HG := HTnum
      go_wp2_with (first | (refine wpList_load_row rfl _ _ rfl _ rfl _ _ _ _ HG.out.blk Try.underlying48 rfl size_sto ?_) | (refine wpList_storeBlk (cs' := stC ⟨(s.p : Int), op2, 0, va, 0, 0, [], []⟩ nilS nilS) rfl _ _ rfl rfl rfl HG.out.res rfl size_sto (stC_one _ _ _ _ _ _ _) ?_; intro d0 dg))
      refine bodyPost_ret (results_cell_row (p := 2) rfl _ _ g0 _ _ _ _ rfl d0 Try.underlying48 rfl size_sto) rfl ?_
      rw [HTC.out]
      exact HG.out.fin rfl rfl dg
    by_cases h100 : f = 100
    · subst h100
      have hTC := HT.out
      replace hTC : tot = _ := hTC.trans (oneB_100 L _ n fs)
      simp only at hTC
      have Ha := Lib.hid (fun w' h => rBig_any (s := fs) (gr := gr) (gc := gc) (L := L) 2 w' h (.inr (.inl rfl)))
      have hra := bigK_lt L 2 fs (.inr (.inl rfl))
      generalize bigK L 2 fs = qa at *
      obtain ⟨va, sa⟩ := qa
      simp only at hra
      have HTC : Hid (tot = (⟨(s.p : Int), op2, 0, 0, va, 0, [], []⟩, sa)) := Lib.hid hTC
      clear hTC HT
      go_wp2_with fail
      refine (Ha.out _ H5.out.rd).mono ?_
      rintro e w6a ⟨rfl, ha, ga⟩
      have HMa := Lib.hid (H5.out.moved ha ga)
      clear ha ga
      have q4pool : w6a.cell? ⟨gs, 4, none⟩ = some (.int .i64 (0)) := HMa.out.blk.cell (i := 4) rfl
      have f4pool := HMa.out.blk.frozen 4
      have HTpool : Hid (OneSt w (w6a.setCell ⟨gs, 4, none⟩ (.int .i64 (va))) gr gc gs g0 L sa ⟨(s.p : Int), op2, 0, 0, va, 0, [], []⟩ nilS nilS) := Lib.hid (HMa.out.set 4 _ rfl)
      have HG := HTpool
      go_wp2_with (first | (refine wpList_load_row rfl _ _ rfl _ rfl _ _ _ _ HG.out.blk Try.underlying48 rfl size_sto ?_) | (refine wpList_storeBlk (cs' := stC ⟨(s.p : Int), op2, 0, 0, va, 0, [], []⟩ nilS nilS) rfl _ _ rfl rfl rfl HG.out.res rfl size_sto (stC_one _ _ _ _ _ _ _) ?_; intro d0 dg))
      refine bodyPost_ret (results_cell_row (p := 2) rfl _ _ g0 _ _ _ _ rfl d0 Try.underlying48 rfl size_sto) rfl ?_
      rw [HTC.out]
      exact HG.out.fin rfl rfl dg
    by_cases h112 : f = 112
    · subst h112
      have hTC := HT.out
      replace hTC : tot = _ := hTC.trans (oneB_112 L _ n fs)
      simp only at hTC
      have Ha := Lib.hid (fun w' h => rBig_any (s := fs) (gr := gr) (gc := gc) (L := L) 2 w' h (.inr (.inl rfl)))
      have hra := bigK_lt L 2 fs (.inr (.inl rfl))
      generalize bigK L 2 fs = qa at *
      obtain ⟨va, sa⟩ := qa
      simp only at hra
      have HTC : Hid (tot = (⟨(s.p : Int), op2, 0, 0, va, 0, [], []⟩, sa)) := Lib.hid hTC
      clear hTC HT
      go_wp2_with fail
      refine (Ha.out _ H5.out.rd).mono ?_
      rintro e w6a ⟨rfl, ha, ga⟩
      have HMa := Lib.hid (H5.out.moved ha ga)
      clear ha ga
      have q4pool : w6a.cell? ⟨gs, 4, none⟩ = some (.int .i64 (0)) := HMa.out.blk.cell (i := 4) rfl
      have f4pool := HMa.out.blk.frozen 4
      have HTpool : Hid (OneSt w (w6a.setCell ⟨gs, 4, none⟩ (.int .i64 (va))) gr gc gs g0 L sa ⟨(s.p : Int), op2, 0, 0, va, 0, [], []⟩ nilS nilS) := Lib.hid (HMa.out.set 4 _ rfl)
      have HG := HTpool
      go_wp2_with (first | (refine wpList_load_row rfl _ _ rfl _ rfl _ _ _ _ HG.out.blk Try.underlying48 rfl size_sto ?_) | (refine wpList_storeBlk (cs' := stC ⟨(s.p : Int), op2, 0, 0, va, 0, [], []⟩ nilS nilS) rfl _ _ rfl rfl rfl HG.out.res rfl size_sto (stC_one _ _ _ _ _ _ _) ?_; intro d0 dg))
      refine bodyPost_ret (results_cell_row (p := 2) rfl _ _ g0 _ _ _ _ rfl d0 Try.underlying48 rfl size_sto) rfl ?_
      rw [HTC.out]
      exact HG.out.fin rfl rfl dg
    by_cases h118 : f = 118
    · subst h118
      have hTC := HT.out
      replace hTC : tot = _ := hTC.trans (oneB_118 L _ n fs)
      simp only at hTC
      have Ha := Lib.hid (fun w' h => rBig_any (s := fs) (gr := gr) (gc := gc) (L := L) n w' h hn4)
      have hra := bigK_lt L n fs hn4
      generalize bigK L n fs = qa at *
      obtain ⟨va, sa⟩ := qa
      simp only at hra
      have HTC : Hid (tot = (⟨(s.p : Int), op2, va, 0, 0, 0, [], []⟩, sa)) := Lib.hid hTC
      clear hTC HT
      go_wp2_with fail
      refine (Ha.out _ H5.out.rd).mono ?_
      rintro e w6a ⟨rfl, ha, ga⟩
      have HMa := Lib.hid (H5.out.moved ha ga)
      clear ha ga
      have q2var : w6a.cell? ⟨gs, 2, none⟩ = some (.int .i64 (0)) := HMa.out.blk.cell (i := 2) rfl
      have f2var := HMa.out.blk.frozen 2
      have HTvar : Hid (OneSt w (w6a.setCell ⟨gs, 2, none⟩ (.int .i64 (va))) gr gc gs g0 L sa ⟨(s.p : Int), op2, va, 0, 0, 0, [], []⟩ nilS nilS) := Lib.hid (HMa.out.set 2 _ rfl)
      have HG := HTvar
      go_wp2_with (first | (refine wpList_load_row rfl _ _ rfl _ rfl _ _ _ _ HG.out.blk Try.underlying48 rfl size_sto ?_) | (refine wpList_storeBlk (cs' := stC ⟨(s.p : Int), op2, va, 0, 0, 0, [], []⟩ nilS nilS) rfl _ _ rfl rfl rfl HG.out.res rfl size_sto (stC_one _ _ _ _ _ _ _) ?_; intro d0 dg))
      refine bodyPost_ret (results_cell_row (p := 2) rfl _ _ g0 _ _ _ _ rfl d0 Try.underlying48 rfl size_sto) rfl ?_
      rw [HTC.out]
      exact HG.out.fin rfl rfl dg
    by_cases h105 : f = 105
    · subst h105
      have hTC := HT.out
      replace hTC : tot = _ := hTC.trans (oneB_105 L _ n fs)
      simp only at hTC
      have Ha := Lib.hid (fun w' h => rBig_any (s := fs) (gr := gr) (gc := gc) (L := L) n w' h hn4)
      have hra := bigK_lt L n fs hn4
      generalize bigK L n fs = qa at *
      obtain ⟨va, sa⟩ := qa
      simp only at hra
      have Hb := Lib.hid (fun w' h => rSigned_any (s := sa) (gr := gr) (gc := gc) (L := L) n w' h hn4)
      have hrb := sgnK_rng L n sa hn4
      generalize sgnK L n sa = qb at *
      obtain ⟨vb, sb⟩ := qb
      simp only at hrb
      have HTC : Hid (tot = (⟨(s.p : Int), op2, va, vb, 0, 0, [], []⟩, sb)) := Lib.hid hTC
      clear hTC HT
      go_wp2_with fail
      refine (Ha.out _ H5.out.rd).mono ?_
      rintro e w6a ⟨rfl, ha, ga⟩
      have HMa := Lib.hid (H5.out.moved ha ga)
      clear ha ga
      have q2var : w6a.cell? ⟨gs, 2, none⟩ = some (.int .i64 (0)) := HMa.out.blk.cell (i := 2) rfl
      have f2var := HMa.out.blk.frozen 2
      have HTvar : Hid (OneSt w (w6a.setCell ⟨gs, 2, none⟩ (.int .i64 (va))) gr gc gs g0 L sa ⟨(s.p : Int), op2, va, 0, 0, 0, [], []⟩ nilS nilS) := Lib.hid (HMa.out.set 2 _ rfl)
      go_wp2_with fail
      refine (Hb.out _ HTvar.out.rd).mono ?_
      rintro e w6b ⟨rfl, hb, gb⟩
      have HMb := Lib.hid (HTvar.out.moved hb gb)
      clear hb gb
      have q3num : w6b.cell? ⟨gs, 3, none⟩ = some (.int .i64 (0)) := HMb.out.blk.cell (i := 3) rfl
      have f3num := HMb.out.blk.frozen 3
      have HTnum : Hid (OneSt w (w6b.setCell ⟨gs, 3, none⟩ (.int .i64 (vb))) gr gc gs g0 L sb ⟨(s.p : Int), op2, va, vb, 0, 0, [], []⟩ nilS nilS) := Lib.hid (HMb.out.set 3 _ rfl)
      have HG := HTnum
      go_wp2_with (first | (refine wpList_load_row rfl _ _ rfl _ rfl _ _ _ _ HG.out.blk Try.underlying48 rfl size_sto ?_) | (refine wpList_storeBlk (cs' := stC ⟨(s.p : Int), op2, va, vb, 0, 0, [], []⟩ nilS nilS) rfl _ _ rfl rfl rfl HG.out.res rfl size_sto (stC_one _ _ _ _ _ _ _) ?_; intro d0 dg))
      refine bodyPost_ret (results_cell_row (p := 2) rfl _ _ g0 _ _ _ _ rfl d0 Try.underlying48 rfl size_sto) rfl ?_
      rw [HTC.out]
      exact HG.out.fin rfl rfl dg
    by_cases h99 : f = 99
    · subst h99
      have ho : op2 = 18 ∨ op2 = 19 := by
        have h1 := HFF.out
        rw [if_pos (by by_cases h : op2 ≤ 201; exact h; rw [if_neg h] at h1; cases h1)] at h1
        have h2 : op2 ≤ 201 := by have h1 := HFF.out; by_cases h : op2 ≤ 201; exact h; rw [if_neg h] at h1; cases h1
        have := form_99 op2.toNat (by omega) h1.symm
        omega
      clear HFF
      rcases ho with rfl | rfl
      · have hTC := HT.out
        replace hTC : tot = _ := hTC.trans (oneB_99 L _ n fs)
        simp only at hTC
        rw [show ((18 : Int) - 18 + 1) = 1 from rfl] at hTC
        have Ha := Lib.hid (fun w' h => rBig_any (s := fs) (gr := gr) (gc := gc) (L := L) 1 w' h (.inl rfl))
        have hra := bigK_lt L 1 fs (.inl rfl)
        generalize bigK L 1 fs = qa at *
        obtain ⟨va, sa⟩ := qa
        simp only at hra
        have HTC : Hid (tot = (⟨(s.p : Int), 18, 0, 0, va, 0, [], []⟩, sa)) := Lib.hid hTC
        clear hTC HT
        have q1x : w5.cell? ⟨gs, 1, none⟩ = some (.int .i64 18) := H5.out.blk.cell (i := 1) rfl
        go_wp2_with fail
        refine (Ha.out _ H5.out.rd).mono ?_
        rintro e w6a ⟨rfl, ha, ga⟩
        have HMa := Lib.hid (H5.out.moved ha ga)
        clear ha ga
        have q4pool : w6a.cell? ⟨gs, 4, none⟩ = some (.int .i64 (0)) := HMa.out.blk.cell (i := 4) rfl
        have f4pool := HMa.out.blk.frozen 4
        have HTpool : Hid (OneSt w (w6a.setCell ⟨gs, 4, none⟩ (.int .i64 (va))) gr gc gs g0 L sa ⟨(s.p : Int), 18, 0, 0, va, 0, [], []⟩ nilS nilS) := Lib.hid (HMa.out.set 4 _ rfl)
        have q1op : (w6a.setCell ⟨gs, 4, none⟩ (.int .i64 (va))).cell? ⟨gs, 1, none⟩ = some (.int .i64 (18)) := HTpool.out.blk.cell (i := 1) rfl
        have f1op := HTpool.out.blk.frozen 1
        have HTop : Hid (OneSt w ((w6a.setCell ⟨gs, 4, none⟩ (.int .i64 (va))).setCell ⟨gs, 1, none⟩ (.int .i64 (18))) gr gc gs g0 L sa ⟨(s.p : Int), 18, 0, 0, va, 0, [], []⟩ nilS nilS) := Lib.hid (HTpool.out.set 1 _ rfl)
        have HG := HTop
        go_wp2_with (first | (refine wpList_load_row rfl _ _ rfl _ rfl _ _ _ _ HG.out.blk Try.underlying48 rfl size_sto ?_) | (refine wpList_storeBlk (cs' := stC ⟨(s.p : Int), 18, 0, 0, va, 0, [], []⟩ nilS nilS) rfl _ _ rfl rfl rfl HG.out.res rfl size_sto (stC_one _ _ _ _ _ _ _) ?_; intro d0 dg))
        refine bodyPost_ret (results_cell_row (p := 2) rfl _ _ g0 _ _ _ _ rfl d0 Try.underlying48 rfl size_sto) rfl ?_
        rw [HTC.out]
        exact HG.out.fin rfl rfl dg
      · have hTC := HT.out
        replace hTC : tot = _ := hTC.trans (oneB_99 L _ n fs)
        simp only at hTC
        rw [show ((19 : Int) - 18 + 1) = 2 from rfl] at hTC
        have Ha := Lib.hid (fun w' h => rBig_any (s := fs) (gr := gr) (gc := gc) (L := L) 2 w' h (.inr (.inl rfl)))
        have hra := bigK_lt L 2 fs (.inr (.inl rfl))
        generalize bigK L 2 fs = qa at *
        obtain ⟨va, sa⟩ := qa
        simp only at hra
        have HTC : Hid (tot = (⟨(s.p : Int), 18, 0, 0, va, 0, [], []⟩, sa)) := Lib.hid hTC
        clear hTC HT
        have q1x : w5.cell? ⟨gs, 1, none⟩ = some (.int .i64 19) := H5.out.blk.cell (i := 1) rfl
        go_wp2_with fail
        refine (Ha.out _ H5.out.rd).mono ?_
        rintro e w6a ⟨rfl, ha, ga⟩
        have HMa := Lib.hid (H5.out.moved ha ga)
        clear ha ga
        have q4pool : w6a.cell? ⟨gs, 4, none⟩ = some (.int .i64 (0)) := HMa.out.blk.cell (i := 4) rfl
        have f4pool := HMa.out.blk.frozen 4
        have HTpool : Hid (OneSt w (w6a.setCell ⟨gs, 4, none⟩ (.int .i64 (va))) gr gc gs g0 L sa ⟨(s.p : Int), 19, 0, 0, va, 0, [], []⟩ nilS nilS) := Lib.hid (HMa.out.set 4 _ rfl)
        have q1op : (w6a.setCell ⟨gs, 4, none⟩ (.int .i64 (va))).cell? ⟨gs, 1, none⟩ = some (.int .i64 (19)) := HTpool.out.blk.cell (i := 1) rfl
        have f1op := HTpool.out.blk.frozen 1
        have HTop : Hid (OneSt w ((w6a.setCell ⟨gs, 4, none⟩ (.int .i64 (va))).setCell ⟨gs, 1, none⟩ (.int .i64 (18))) gr gc gs g0 L sa ⟨(s.p : Int), 18, 0, 0, va, 0, [], []⟩ nilS nilS) := Lib.hid (HTpool.out.set 1 _ rfl)
        have HG := HTop
        go_wp2_with (first | (refine wpList_load_row rfl _ _ rfl _ rfl _ _ _ _ HG.out.blk Try.underlying48 rfl size_sto ?_) | (refine wpList_storeBlk (cs' := stC ⟨(s.p : Int), 18, 0, 0, va, 0, [], []⟩ nilS nilS) rfl _ _ rfl rfl rfl HG.out.res rfl size_sto (stC_one _ _ _ _ _ _ _) ?_; intro d0 dg))
        refine bodyPost_ret (results_cell_row (p := 2) rfl _ _ g0 _ _ _ _ rfl d0 Try.underlying48 rfl size_sto) rfl ?_
        rw [HTC.out]
        exact HG.out.fin rfl rfl dg
    by_cases h106 : f = 106
    · subst h106
      have hTC := HT.out
      replace hTC : tot = _ := hTC.trans (oneB_106 L _ n fs)
      simp only at hTC
      have Ha := Lib.hid (fun w' h => rSigned_any (s := fs) (gr := gr) (gc := gc) (L := L) 2 w' h (.inr (.inl rfl)))
      have hra := sgnK_rng L 2 fs (.inr (.inl rfl))
      generalize sgnK L 2 fs = qa at *
      obtain ⟨va, sa⟩ := qa
      simp only at hra hTC
      have HTC : Hid (tot = (⟨(s.p : Int), op2, 0, 0, 0, (s.p : Int) + va, [], []⟩, sa)) := Lib.hid hTC
      clear hTC HT
      have hw1 : IntKind.i64.wrap ((s.p : Int) + va) = (s.p : Int) + va := IntWalk.i64_in _ (by omega)
      have cs0 : w5.cell? ⟨gs, 0, none⟩ = some (.int .i64 (s.p : Int)) := H5.out.blk.cell (i := 0) rfl
      go_wp2_with fail
      go_region_held3 (fun w' => w'.cell? ⟨gs, 0, none⟩ = some (.int .i64 (s.p : Int)))
        (first | exact cs0 | exact cs1 | exact cs2)
        (first | (go_at_call 74; refine (Ha.out _ (H5.out.drewN 1).rd).mono ?_; rintro e w6a ⟨rfl, ha, ga⟩; have HMa := Lib.hid ((H5.out.drewN 1).moved ha ga); have cs1 : w6a.cell? ⟨gs, 0, none⟩ = some (.int .i64 (s.p : Int)) := HMa.out.blk.cell (i := 0) rfl; have q5 : w6a.cell? ⟨gs, 5, none⟩ = some (.int .i64 0) := HMa.out.blk.cell (i := 5) rfl; have f5 := HMa.out.blk.frozen 5; have HTj : Hid (OneSt w (w6a.setCell ⟨gs, 5, none⟩ (.int .i64 ((s.p : Int) + va))) gr gc gs g0 L sa ⟨(s.p : Int), op2, 0, 0, 0, (s.p : Int) + va, [], []⟩ nilS nilS) := Lib.hid (HMa.out.set 5 _ rfl); have cs2 : (w6a.setCell ⟨gs, 5, none⟩ (.int .i64 ((s.p : Int) + va))).cell? ⟨gs, 0, none⟩ = some (.int .i64 (s.p : Int)) := HTj.out.blk.cell (i := 0) rfl; clear ha ga)
               | fail)
      have HG := HTj
      go_wp2_with (first | (refine wpList_load_row rfl _ _ rfl _ rfl _ _ _ _ HG.out.blk Try.underlying48 rfl size_sto ?_) | (refine wpList_storeBlk (cs' := stC ⟨(s.p : Int), op2, 0, 0, 0, (s.p : Int) + va, [], []⟩ nilS nilS) rfl _ _ rfl rfl rfl HG.out.res rfl size_sto (stC_one _ _ _ _ _ _ _) ?_; intro d0 dg))
      refine bodyPost_ret (results_cell_row (p := 2) rfl _ _ g0 _ _ _ _ rfl d0 Try.underlying48 rfl size_sto) rfl ?_
      rw [HTC.out]
      exact HG.out.fin rfl rfl dg
    by_cases h119 : f = 119
    · subst h119
      have hTC := HT.out
      replace hTC : tot = _ := hTC.trans (oneB_119 L _ n fs)
      simp only at hTC
      have Ha := Lib.hid (fun w' h => rSigned_any (s := fs) (gr := gr) (gc := gc) (L := L) 4 w' h (.inr (.inr rfl)))
      have hra := sgnK_rng L 4 fs (.inr (.inr rfl))
      generalize sgnK L 4 fs = qa at *
      obtain ⟨va, sa⟩ := qa
      simp only at hra hTC
      have HTC : Hid (tot = (⟨(s.p : Int), op2, 0, 0, 0, (s.p : Int) + va, [], []⟩, sa)) := Lib.hid hTC
      clear hTC HT
      have hw1 : IntKind.i64.wrap ((s.p : Int) + va) = (s.p : Int) + va := IntWalk.i64_in _ (by omega)
      have cs0 : w5.cell? ⟨gs, 0, none⟩ = some (.int .i64 (s.p : Int)) := H5.out.blk.cell (i := 0) rfl
      go_wp2_with fail
      go_region_held3 (fun w' => w'.cell? ⟨gs, 0, none⟩ = some (.int .i64 (s.p : Int)))
        (first | exact cs0 | exact cs1 | exact cs2)
        (first | (go_at_call 74; refine (Ha.out _ (H5.out.drewN 1).rd).mono ?_; rintro e w6a ⟨rfl, ha, ga⟩; have HMa := Lib.hid ((H5.out.drewN 1).moved ha ga); have cs1 : w6a.cell? ⟨gs, 0, none⟩ = some (.int .i64 (s.p : Int)) := HMa.out.blk.cell (i := 0) rfl; have q5 : w6a.cell? ⟨gs, 5, none⟩ = some (.int .i64 0) := HMa.out.blk.cell (i := 5) rfl; have f5 := HMa.out.blk.frozen 5; have HTj : Hid (OneSt w (w6a.setCell ⟨gs, 5, none⟩ (.int .i64 ((s.p : Int) + va))) gr gc gs g0 L sa ⟨(s.p : Int), op2, 0, 0, 0, (s.p : Int) + va, [], []⟩ nilS nilS) := Lib.hid (HMa.out.set 5 _ rfl); have cs2 : (w6a.setCell ⟨gs, 5, none⟩ (.int .i64 ((s.p : Int) + va))).cell? ⟨gs, 0, none⟩ = some (.int .i64 (s.p : Int)) := HTj.out.blk.cell (i := 0) rfl; clear ha ga)
               | fail)
      have HG := HTj
      go_wp2_with (first | (refine wpList_load_row rfl _ _ rfl _ rfl _ _ _ _ HG.out.blk Try.underlying48 rfl size_sto ?_) | (refine wpList_storeBlk (cs' := stC ⟨(s.p : Int), op2, 0, 0, 0, (s.p : Int) + va, [], []⟩ nilS nilS) rfl _ _ rfl rfl rfl HG.out.res rfl size_sto (stC_one _ _ _ _ _ _ _) ?_; intro d0 dg))
      refine bodyPost_ret (results_cell_row (p := 2) rfl _ _ g0 _ _ _ _ rfl d0 Try.underlying48 rfl size_sto) rfl ?_
      rw [HTC.out]
      exact HG.out.fin rfl rfl dg
    by_cases h97 : f = 97
    · subst h97
      have hTC := HT.out
      replace hTC : tot = _ := hTC.trans (oneB_97 L _ n fs)
      simp only at hTC
      have Ha := Lib.hid (fun w' h => rBig_any (s := fs) (gr := gr) (gc := gc) (L := L) 1 w' h (.inl rfl))
      have hra := bigK_lt L 1 fs (.inl rfl)
      generalize bigK L 1 fs = qa at *
      obtain ⟨va, sa⟩ := qa
      simp only at hra
      have HTC0 := Lib.hid hTC
      clear hTC HT
      go_wp2_with fail
      refine (Ha.out _ H5.out.rd).mono ?_
      rintro e w6a ⟨rfl, ha, ga⟩
      have HMa := Lib.hid (H5.out.moved ha ga)
      clear ha ga
      have q2var : w6a.cell? ⟨gs, 2, none⟩ = some (.int .i64 (0)) := HMa.out.blk.cell (i := 2) rfl
      have f2var := HMa.out.blk.frozen 2
      have HTvar : Hid (OneSt w (w6a.setCell ⟨gs, 2, none⟩ (.int .i64 (va))) gr gc gs g0 L sa ⟨(s.p : Int), op2, va, 0, 0, 0, [], []⟩ nilS nilS) := Lib.hid (HMa.out.set 2 _ rfl)
      have qv : (w6a.setCell ⟨gs, 2, none⟩ (.int .i64 (va))).cell? ⟨gs, 2, none⟩ = some (.int .i64 (va)) := HTvar.out.blk.cell (i := 2) rfl
      by_cases hcc : 4 ≤ va
      · have cb : decide (4 ≤ va) = true := decide_eq_true hcc
        have HTC : Hid (tot = (⟨(s.p : Int), op2, va, 0, 0, 0, [], []⟩, isC (decide (va ≤ 11)) sa)) := Lib.hid (by rw [HTC0.out]; rw [cb]; rfl)
        clear hcc
        go_wp2_with fail
        refine (rIs_any (decide (va ≤ 11)) _ HTvar.out.rd).mono ?_
        rintro e w7 ⟨rfl, h7, g7⟩
        have HG := Lib.hid (HTvar.out.moved h7 g7)
        clear h7 g7
        go_wp2_with (first | (refine wpList_load_row rfl _ _ rfl _ rfl _ _ _ _ HG.out.blk Try.underlying48 rfl size_sto ?_) | (refine wpList_storeBlk (cs' := stC ⟨(s.p : Int), op2, va, 0, 0, 0, [], []⟩ nilS nilS) rfl _ _ rfl rfl rfl HG.out.res rfl size_sto (stC_one _ _ _ _ _ _ _) ?_; intro d0 dg))
        refine bodyPost_ret (results_cell_row (p := 2) rfl _ _ g0 _ _ _ _ rfl d0 Try.underlying48 rfl size_sto) rfl ?_
        rw [HTC.out]
        exact HG.out.fin rfl rfl dg
      · have cb : decide (4 ≤ va) = false := decide_eq_false hcc
        have HTC : Hid (tot = (⟨(s.p : Int), op2, va, 0, 0, 0, [], []⟩, isC (false) sa)) := Lib.hid (by rw [HTC0.out]; rw [cb]; rfl)
        clear hcc
        go_wp2_with fail
        refine (rIs_any (false) _ HTvar.out.rd).mono ?_
        rintro e w7 ⟨rfl, h7, g7⟩
        have HG := Lib.hid (HTvar.out.moved h7 g7)
        clear h7 g7
        go_wp2_with (first | (refine wpList_load_row rfl _ _ rfl _ rfl _ _ _ _ HG.out.blk Try.underlying48 rfl size_sto ?_) | (refine wpList_storeBlk (cs' := stC ⟨(s.p : Int), op2, va, 0, 0, 0, [], []⟩ nilS nilS) rfl _ _ rfl rfl rfl HG.out.res rfl size_sto (stC_one _ _ _ _ _ _ _) ?_; intro d0 dg))
        refine bodyPost_ret (results_cell_row (p := 2) rfl _ _ g0 _ _ _ _ rfl d0 Try.underlying48 rfl size_sto) rfl ?_
        rw [HTC.out]
        exact HG.out.fin rfl rfl dg
    by_cases h109 : f = 109
    · subst h109
      have hTC := HT.out
      replace hTC : tot = _ := hTC.trans (oneB_109 L _ n fs)
      simp only at hTC
      have Ha := Lib.hid (fun w' h => rBig_any (s := fs) (gr := gr) (gc := gc) (L := L) 2 w' h (.inr (.inl rfl)))
      have hra := bigK_lt L 2 fs (.inr (.inl rfl))
      generalize bigK L 2 fs = qa at *
      obtain ⟨va, sa⟩ := qa
      simp only at hra
      have Hb := Lib.hid (fun w' h => rBig_any (s := sa) (gr := gr) (gc := gc) (L := L) 1 w' h (.inl rfl))
      have hrb := bigK_lt L 1 sa (.inl rfl)
      generalize bigK L 1 sa = qb at *
      obtain ⟨vb, sb⟩ := qb
      simp only at hrb
      have HTC0 := Lib.hid hTC
      clear hTC HT
      go_wp2_with fail
      refine (Ha.out _ H5.out.rd).mono ?_
      rintro e w6a ⟨rfl, ha, ga⟩
      have HMa := Lib.hid (H5.out.moved ha ga)
      clear ha ga
      go_wp2_with fail
      refine (Hb.out _ HMa.out.rd).mono ?_
      rintro e w6b ⟨rfl, hb, gb⟩
      have HMb := Lib.hid (HMa.out.moved hb gb)
      clear hb gb
      have q4pool : w6b.cell? ⟨gs, 4, none⟩ = some (.int .i64 (0)) := HMb.out.blk.cell (i := 4) rfl
      have f4pool := HMb.out.blk.frozen 4
      have HTpool : Hid (OneSt w (w6b.setCell ⟨gs, 4, none⟩ (.int .i64 (va))) gr gc gs g0 L sb ⟨(s.p : Int), op2, 0, 0, va, 0, [], []⟩ nilS nilS) := Lib.hid (HMb.out.set 4 _ rfl)
      have q2var : (w6b.setCell ⟨gs, 4, none⟩ (.int .i64 (va))).cell? ⟨gs, 2, none⟩ = some (.int .i64 (0)) := HTpool.out.blk.cell (i := 2) rfl
      have f2var := HTpool.out.blk.frozen 2
      have HTvar : Hid (OneSt w ((w6b.setCell ⟨gs, 4, none⟩ (.int .i64 (va))).setCell ⟨gs, 2, none⟩ (.int .i64 (vb))) gr gc gs g0 L sb ⟨(s.p : Int), op2, vb, 0, va, 0, [], []⟩ nilS nilS) := Lib.hid (HTpool.out.set 2 _ rfl)
      have qv : ((w6b.setCell ⟨gs, 4, none⟩ (.int .i64 (va))).setCell ⟨gs, 2, none⟩ (.int .i64 (vb))).cell? ⟨gs, 2, none⟩ = some (.int .i64 (vb)) := HTvar.out.blk.cell (i := 2) rfl
      have HTC : Hid (tot = (⟨(s.p : Int), op2, vb, 0, va, 0, [], []⟩, isC (decide (0 < vb)) sb)) := Lib.hid (by rw [HTC0.out])
      go_wp2_with fail
      refine (rIs_any (decide (0 < vb)) _ HTvar.out.rd).mono ?_
      rintro e w7 ⟨rfl, h7, g7⟩
      have HG := Lib.hid (HTvar.out.moved h7 g7)
      clear h7 g7
      go_wp2_with (first | (refine wpList_load_row rfl _ _ rfl _ rfl _ _ _ _ HG.out.blk Try.underlying48 rfl size_sto ?_) | (refine wpList_storeBlk (cs' := stC ⟨(s.p : Int), op2, vb, 0, va, 0, [], []⟩ nilS nilS) rfl _ _ rfl rfl rfl HG.out.res rfl size_sto (stC_one _ _ _ _ _ _ _) ?_; intro d0 dg))
      refine bodyPost_ret (results_cell_row (p := 2) rfl _ _ g0 _ _ _ _ rfl d0 Try.underlying48 rfl size_sto) rfl ?_
      rw [HTC.out]
      exact HG.out.fin rfl rfl dg
    by_cases h102 : f = 102
    · subst h102
      have hTC := HT.out
      replace hTC : tot = _ := hTC.trans (oneB_102 L _ n fs)
      simp only at hTC
      have Ha := Lib.hid (fun w' h => rBig_any (s := fs) (gr := gr) (gc := gc) (L := L) 2 w' h (.inr (.inl rfl)))
      have hra := bigK_lt L 2 fs (.inr (.inl rfl))
      generalize bigK L 2 fs = qa at *
      obtain ⟨va, sa⟩ := qa
      simp only at hra
      have Hb := Lib.hid (fun w' h => rBig_any (s := sa) (gr := gr) (gc := gc) (L := L) 1 w' h (.inl rfl))
      have hrb := bigK_lt L 1 sa (.inl rfl)
      generalize bigK L 1 sa = qb at *
      obtain ⟨vb, sb⟩ := qb
      simp only at hrb
      have Hc := Lib.hid (fun w' h => rBig_any (s := sb) (gr := gr) (gc := gc) (L := L) 1 w' h (.inl rfl))
      have hrc := bigK_lt L 1 sb (.inl rfl)
      generalize bigK L 1 sb = qc at *
      obtain ⟨vc, sc⟩ := qc
      simp only at hrc
      have HTC0 := Lib.hid hTC
      clear hTC HT
      go_wp2_with fail
      refine (Ha.out _ H5.out.rd).mono ?_
      rintro e w6a ⟨rfl, ha, ga⟩
      have HMa := Lib.hid (H5.out.moved ha ga)
      clear ha ga
      go_wp2_with fail
      refine (Hb.out _ HMa.out.rd).mono ?_
      rintro e w6b ⟨rfl, hb, gb⟩
      have HMb := Lib.hid (HMa.out.moved hb gb)
      clear hb gb
      have q4pool : w6b.cell? ⟨gs, 4, none⟩ = some (.int .i64 (0)) := HMb.out.blk.cell (i := 4) rfl
      have f4pool := HMb.out.blk.frozen 4
      have HTpool : Hid (OneSt w (w6b.setCell ⟨gs, 4, none⟩ (.int .i64 (va))) gr gc gs g0 L sb ⟨(s.p : Int), op2, 0, 0, va, 0, [], []⟩ nilS nilS) := Lib.hid (HMb.out.set 4 _ rfl)
      have q2var : (w6b.setCell ⟨gs, 4, none⟩ (.int .i64 (va))).cell? ⟨gs, 2, none⟩ = some (.int .i64 (0)) := HTpool.out.blk.cell (i := 2) rfl
      have f2var := HTpool.out.blk.frozen 2
      have HTvar : Hid (OneSt w ((w6b.setCell ⟨gs, 4, none⟩ (.int .i64 (va))).setCell ⟨gs, 2, none⟩ (.int .i64 (vb))) gr gc gs g0 L sb ⟨(s.p : Int), op2, vb, 0, va, 0, [], []⟩ nilS nilS) := Lib.hid (HTpool.out.set 2 _ rfl)
      go_wp2_with fail
      refine (Hc.out _ HTvar.out.rd).mono ?_
      rintro e w6c ⟨rfl, hc, gc⟩
      have HMc := Lib.hid (HTvar.out.moved hc gc)
      clear hc gc
      have qv : w6c.cell? ⟨gs, 2, none⟩ = some (.int .i64 (vb)) := HMc.out.blk.cell (i := 2) rfl
      by_cases hcc : 0 < vb
      · have cb : decide (0 < vb) = true := decide_eq_true hcc
        have HTC : Hid (tot = (⟨(s.p : Int), op2, vb, 0, va, 0, [], []⟩, isC (vc == 0) sc)) := Lib.hid (by rw [HTC0.out]; rw [cb]; rfl)
        clear hcc
        go_wp2_with fail
        refine (rIs_any (vc == 0) _ HMc.out.rd).mono ?_
        rintro e w7 ⟨rfl, h7, g7⟩
        have HG := Lib.hid (HMc.out.moved h7 g7)
        clear h7 g7
        go_wp2_with (first | (refine wpList_load_row rfl _ _ rfl _ rfl _ _ _ _ HG.out.blk Try.underlying48 rfl size_sto ?_) | (refine wpList_storeBlk (cs' := stC ⟨(s.p : Int), op2, vb, 0, va, 0, [], []⟩ nilS nilS) rfl _ _ rfl rfl rfl HG.out.res rfl size_sto (stC_one _ _ _ _ _ _ _) ?_; intro d0 dg))
        refine bodyPost_ret (results_cell_row (p := 2) rfl _ _ g0 _ _ _ _ rfl d0 Try.underlying48 rfl size_sto) rfl ?_
        rw [HTC.out]
        exact HG.out.fin rfl rfl dg
      · have cb : decide (0 < vb) = false := decide_eq_false hcc
        have HTC : Hid (tot = (⟨(s.p : Int), op2, vb, 0, va, 0, [], []⟩, isC (false) sc)) := Lib.hid (by rw [HTC0.out]; rw [cb]; rfl)
        clear hcc
        go_wp2_with fail
        refine (rIs_any (false) _ HMc.out.rd).mono ?_
        rintro e w7 ⟨rfl, h7, g7⟩
        have HG := Lib.hid (HMc.out.moved h7 g7)
        clear h7 g7
        go_wp2_with (first | (refine wpList_load_row rfl _ _ rfl _ rfl _ _ _ _ HG.out.blk Try.underlying48 rfl size_sto ?_) | (refine wpList_storeBlk (cs' := stC ⟨(s.p : Int), op2, vb, 0, va, 0, [], []⟩ nilS nilS) rfl _ _ rfl rfl rfl HG.out.res rfl size_sto (stC_one _ _ _ _ _ _ _) ?_; intro d0 dg))
        refine bodyPost_ret (results_cell_row (p := 2) rfl _ _ g0 _ _ _ _ rfl d0 Try.underlying48 rfl size_sto) rfl ?_
        rw [HTC.out]
        exact HG.out.fin rfl rfl dg
    by_cases h116 : f = 116
    · subst h116
      have hTC := HT.out
      replace hTC : tot = _ := hTC.trans (oneB_116 L _ n fs)
      have HX := Lib.hid (rTable_any (s := fs) (gr := gr) (gc := gc) (gs := gs) (L := L) ⟨(s.p : Int), op2, 0, 0, 0, 0, [], []⟩ w5 H5.out.rd H5.out.blk ⟨by have := H5.out.le; have := H5.out.rd.ne; omega, by have := H5.out.le; omega⟩ rfl rfl (by simp only; omega))
      generalize tblK L ⟨(s.p : Int), op2, 0, 0, 0, 0, [], []⟩ fs = tb at *
      obtain ⟨tst, tss⟩ := tb
      have HTC := Lib.hid hTC
      clear hTC HT
      go_wp2_with fail
      refine HX.out.mono ?_
      rintro e w6 ⟨rfl, ⟨ka, kn, kc, ta, tn, tc, hS⟩, hgx⟩
      have HS := Lib.hid (And.intro hS hgx)
      have HR := Lib.hid (hgx.blk H5.out.res (by have := H5.out.le; have := H5.out.rd.ne; simp; omega))
      clear hS hgx HX
      go_wp2_with (first | (refine wpList_load_row rfl _ _ rfl _ rfl _ _ _ _ HS.out.1.blk Try.underlying48 rfl size_sto ?_) | (refine wpList_storeBlk (cs' := stC tst (.slice ka kn kc) (.slice ta tn tc)) rfl _ _ rfl rfl rfl HR.out rfl size_sto (stC_one _ _ _ _ _ _ _) ?_; intro d0 dg))
      refine bodyPost_ret (results_cell_row (p := 2) rfl _ _ g0 _ _ _ _ rfl d0 Try.underlying48 rfl size_sto) rfl ?_
      rw [HTC.out]
      exact H5.out.finS HS.out.1 HS.out.2 dg
    by_cases h108 : f = 108
    · subst h108
      have hTC := HT.out
      replace hTC : tot = _ := hTC.trans (oneB_108 L _ n fs)
      have HX := Lib.hid (rLookup_any (s := fs) (gr := gr) (gc := gc) (gs := gs) (L := L) ⟨(s.p : Int), op2, 0, 0, 0, 0, [], []⟩ w5 H5.out.rd H5.out.blk ⟨by have := H5.out.le; have := H5.out.rd.ne; omega, by have := H5.out.le; omega⟩ rfl rfl (by simp only; omega))
      generalize lkpK L ⟨(s.p : Int), op2, 0, 0, 0, 0, [], []⟩ fs = tb at *
      obtain ⟨tst, tss⟩ := tb
      have HTC := Lib.hid hTC
      clear hTC HT
      go_wp2_with fail
      refine HX.out.mono ?_
      rintro e w6 ⟨rfl, ⟨ka, kn, kc, ta, tn, tc, hS⟩, hgx⟩
      have HS := Lib.hid (And.intro hS hgx)
      have HR := Lib.hid (hgx.blk H5.out.res (by have := H5.out.le; have := H5.out.rd.ne; simp; omega))
      clear hS hgx HX
      go_wp2_with (first | (refine wpList_load_row rfl _ _ rfl _ rfl _ _ _ _ HS.out.1.blk Try.underlying48 rfl size_sto ?_) | (refine wpList_storeBlk (cs' := stC tst (.slice ka kn kc) (.slice ta tn tc)) rfl _ _ rfl rfl rfl HR.out rfl size_sto (stC_one _ _ _ _ _ _ _) ?_; intro d0 dg))
      refine bodyPost_ret (results_cell_row (p := 2) rfl _ _ g0 _ _ _ _ rfl d0 Try.underlying48 rfl size_sto) rfl ?_
      rw [HTC.out]
      exact H5.out.finS HS.out.1 HS.out.2 dg
    have HTC : Hid (tot = (⟨(s.p : Int), op2, 0, 0, 0, 0, [], []⟩, fs)) := Lib.hid (by rw [HT.out]; unfold oneB; simp [h98, h115, h100, h112, h118, h105, h99, h106, h119, h97, h109, h102, h116, h108])
    have k98 : ((f : Int) == 98) = false := by simp; omega
    have k115 : ((f : Int) == 115) = false := by simp; omega
    have k100 : ((f : Int) == 100) = false := by simp; omega
    have k112 : ((f : Int) == 112) = false := by simp; omega
    have k118 : ((f : Int) == 118) = false := by simp; omega
    have k105 : ((f : Int) == 105) = false := by simp; omega
    have k99 : ((f : Int) == 99) = false := by simp; omega
    have k106 : ((f : Int) == 106) = false := by simp; omega
    have k119 : ((f : Int) == 119) = false := by simp; omega
    have k97 : ((f : Int) == 97) = false := by simp; omega
    have k109 : ((f : Int) == 109) = false := by simp; omega
    have k102 : ((f : Int) == 102) = false := by simp; omega
    have k116 : ((f : Int) == 116) = false := by simp; omega
    have k108 : ((f : Int) == 108) = false := by simp; omega
    clear h98 h115 h100 h112 h118 h105 h99 h106 h119 h97 h109 h102 h116 h108 HT HFF
    have HG := H5
    go_wp2_with (first | (refine wpList_load_row rfl _ _ rfl _ rfl _ _ _ _ HG.out.blk Try.underlying48 rfl size_sto ?_) | (refine wpList_storeBlk (cs' := stC ⟨(s.p : Int), op2, 0, 0, 0, 0, [], []⟩ nilS nilS) rfl _ _ rfl rfl rfl HG.out.res rfl size_sto (stC_one _ _ _ _ _ _ _) ?_; intro d0 dg))
    refine bodyPost_ret (results_cell_row (p := 2) rfl _ _ g0 _ _ _ _ rfl d0 Try.underlying48 rfl size_sto) rfl ?_
    rw [HTC.out]
    exact HG.out.fin rfl rfl dg
end
end Go.Proofs.Ytgcdeadfkljeaaa
