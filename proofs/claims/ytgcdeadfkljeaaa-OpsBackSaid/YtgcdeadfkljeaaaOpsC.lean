/- The reader of instructions: begin. -/
import Derived.Test.YtgcdeadfkljeaaaOpsB
import Derived.Test.YtgcdeadfkljeaaaSplit
import Derived.Deep.RegionHeld3
namespace Go.Proofs.Ytgcdeadfkljeaaa
open Go.RowKit
set_option linter.unusedVariables false
set_option linter.unusedSimpArgs false

/-- Only the blocks of S change. -/
structure Gx (w w' : World) (S : List Nat) : Prop where
  os : w'.os = w.os
  tape : w'.tape = w.tape
  output : w'.output = w.output
  size : w.heap.size ≤ w'.heap.size
  block : ∀ k, k < w.heap.size → k ∉ S → w'.heap[k]? = w.heap[k]?
section
variable {w w' w'' : World} {S S' : List Nat}
theorem Gx.refl (w : World) (S : List Nat) : Gx w w S := ⟨rfl, rfl, rfl, Nat.le_refl _, fun _ _ _ => rfl⟩
theorem Gx.trans (h : Gx w w' S) (k : Gx w' w'' S) : Gx w w'' S := ⟨k.os.trans h.os, k.tape.trans h.tape, k.output.trans h.output, Nat.le_trans h.size k.size, fun j hj hs => (k.block j (Nat.lt_of_lt_of_le hj h.size) hs).trans (h.block j hj hs)⟩
theorem Gx.mono (h : Gx w w' S) (hs : ∀ k ∈ S, k ∈ S') : Gx w w' S' := ⟨h.os, h.tape, h.output, h.size, fun k hk hn => h.block k hk (fun hm => hn (hs k hm))⟩
theorem Gx.of_grown {g : Nat} (h : w.grownBy w' (some g)) : Gx w w' [g] := ⟨h.os, h.tape, h.output, h.size, fun k hk hn => h.block k hk (by simpa using hn)⟩
theorem Gx.of_below (h : Below w.heap.size w w') : Gx w w' S := ⟨h.os, h.tape, h.output, h.size, fun k hk _ => h.block k hk⟩
theorem Gx.blk {g : Nat} {T : TypeId} {cs : Array Value} (hg : Gx w w' S) (h : Blk w g T cs) (hn : g ∉ S) : Blk w' g T cs := (hg.block g h.lt hn).trans h
end
theorem curO_grown {w w' : World} {g : Nat} {l : List UInt8} {p : Nat} {er : Int} {row : Option Nat} (h : CurOk w g l p er) (hg : w.grownBy w' row) (hrow : ∀ k, row = some k → g < k) : CurOk w' g l p er := by
  obtain ⟨a, n, c, h1, h2, h3, h4, h5, h6, h7⟩ := h.ex
  refine ⟨a, n, c, h1.grown hg (fun e => ?_), h2, h3, h4, h5.grown hg (fun b off e e2 => ?_), h6, h7⟩
  · have := hrow g e.symm; omega
  · have := hrow b e2.symm; have := h6 b off e; omega
theorem RSt.later {w w' : World} {gr gc : Nat} {L : List UInt8} {s : CS} {row : Option Nat} (h : RSt w gr gc L s) (hg : w.grownBy w' row) (h1 : ∀ k, row = some k → gc < k ∧ k ≠ gr) : RSt w' gr gc L s :=
  ⟨h.blk.grown hg (fun e => (h1 gr e.symm).2 rfl), curO_grown h.cur hg (fun k hk => (h1 k hk).1), h.ne⟩
abbrev STO : TypeId := 48
/-- An instruction that is read. -/
structure StepK where
  at' : Int
  op : Int
  var : Int
  num : Int
  pool : Int
  goal : Int
  keys : List Int
  tgts : List Int
abbrev stC (s : StepK) (k t : Value) : Array Value := #[.int .i64 s.at', .int .i64 s.op, .int .i64 s.var, .int .i64 s.num, .int .i64 s.pool, .int .i64 s.goal, k, t]
/-- Noughts up to a place that four divides. -/
def padK (L : List UInt8) : Nat → CS → CS
  | 0, s => s
  | f + 1, s => if s.p % 4 ≠ 0 ∧ s.e = 0 then padK L f (isC ((bigK L 1 s).1 == 0) (bigK L 1 s).2) else s
def begK (L : List UInt8) (at' : Int) (s : CS) : Int × CS := (at' + (sgnK L 4 (padK L 4 s)).1, (sgnK L 4 (padK L 4 s)).2)
theorem bigK_one {L : List UInt8} {s : CS} (h : (bigK L 1 s).2.e = 0) : (bigK L 1 s).2.p = s.p + 1 := by
  have h1 : nextEr L.length s.p s.e 1 (sizedB 1) = 0 := h
  show nextAt L.length s.p s.e 1 (sizedB 1) = _
  have hz : sizedB 1 = true := rfl
  unfold nextEr at h1
  unfold nextAt nextOk
  by_cases he : s.e = 0
  · rw [if_neg (by simpa using he), hz] at h1
    rw [hz]
    rw [if_neg (by simp)] at h1
    split at h1
    · cases h1
    · rw [if_pos (by simp [he]; omega)]; rfl
  · rw [if_pos he] at h1; exact absurd h1 he
theorem isC_ok {b : Bool} {s : CS} (h : (isC b s).e = 0) : b = true ∧ isC b s = s := by
  cases b with
  | true => exact ⟨rfl, rfl⟩
  | false =>
    exfalso
    unfold isC failC failE at h
    simp only [Bool.false_eq_true, if_false] at h
    split at h
    · cases h
    · rename_i h2; exact h2 h
theorem and3_o (n : Nat) : bits .and .i64 (n : Int) 3 = ((n % 4 : Nat) : Int) := by
  have hm : (BitVec.ofInt 64 3).toNat = 2 ^ 2 - 1 := by decide
  have key : (BitVec.ofInt 64 (n : Int) &&& BitVec.ofInt 64 3).toNat = ((n : Int) % ((2 ^ 64 : Nat) : Int)).toNat % 2 ^ 2 := by
    rw [BitVec.toNat_and, BitVec.toNat_ofInt, hm, Nat.and_two_pow_sub_one_eq_mod]
  show IntKind.i64.wrap ((BitVec.ofInt 64 (n : Int) &&& BitVec.ofInt 64 3).toNat : Nat) = _
  rw [key, IntKind.wrap_i64]
  omega
/-- What is left of a cursor's bytes, and whether there is no error. -/
def msC (gc n : Nat) (w : World) : Nat := match w.cell? ⟨gc, 1, none⟩, w.cell? ⟨gc, 2, none⟩ with | some (.int _ p), some (.int _ e) => (n + 1 - p.toNat) + (if e = 0 then 1 else 0) | _, _ => 0
theorem msC_eq {w : World} {gc : Nat} {L : List UInt8} {p : Nat} {e : Int} (h : CurOk w gc L p e) (n : Nat) : msC gc n w = (n + 1 - p) + (if e = 0 then 1 else 0) := by
  obtain ⟨a, m, c, hb, -⟩ := h.ex
  unfold msC
  rw [hb.cell (i := 1) rfl, hb.cell (i := 2) rfl]
  simp
theorem isC_p (b : Bool) (s : CS) : (isC b s).p = s.p := by cases b <;> rfl
theorem bigK_one_p (L : List UInt8) (s : CS) : s.p ≤ (bigK L 1 s).2.p := by
  show s.p ≤ nextAt L.length s.p s.e 1 (sizedB 1)
  unfold nextAt
  split <;> omega
theorem sgnK_rng (L : List UInt8) (m : Int) (s : CS) (hm : m = 1 ∨ m = 2 ∨ m = 4) : -2147483648 ≤ (sgnK L m s).1 ∧ (sgnK L m s).1 ≤ 2147483647 := by
  have h1 := bigK_lt L m s hm
  show -2147483648 ≤ sgnV m _ ∧ sgnV m _ ≤ 2147483647
  unfold sgnV
  rcases hm with rfl | rfl | rfl
  all_goals simp at h1 ⊢
  all_goals split <;> omega
section
variable {gr gc gs : Nat} {L : List UInt8} {s : CS}
set_option maxRecDepth 100000 in
set_option maxHeartbeats 4000000 in
theorem rBegin_any (st : StepK) (kv tv : Value) (w : World) (h : RSt w gr gc L s) (hb : Blk w gs STO (stC st kv tv)) (hne : gc < gs ∧ gs ≠ gr) (hat : 0 ≤ st.at' ∧ st.at' ≤ 1000000000000) :
  Calls Try.prog 98 #[.pointer (some ⟨gr, 0, none⟩), .pointer (some ⟨gs, 0, none⟩)] w fun e w' => e = .returned (.tuple #[]) ∧ RSt w' gr gc L (begK L st.at' s).2 ∧ Blk w' gs STO (stC { st with goal := (begK L st.at' s).1 } kv tv) ∧ Gx w w' [gc, gs] := by
  have H := Lib.hid (And.intro h hb)
  obtain ⟨tot, htot⟩ : ∃ t, t = padK L 4 s := ⟨_, rfl⟩
  have HT := Lib.hid htot
  clear h hb htot
  go_enter Try.func98, Try.ntmps98
  go_wp2
  go_loopw [] (fun wr => ∃ (f : Nat) (s' : CS), Hid (padK L f s' = tot) ∧ (s'.e = 0 → s'.p % 4 = 0 ∨ 4 ≤ s'.p % 4 + f) ∧ RSt wr gr gc L s' ∧ Blk wr gs STO (stC st kv tv) ∧ Gx w wr [gc, gs]) (fun wr => msC gc L.length wr)
  case atStart => exact ⟨4, s, Lib.hid HT.out.symm, fun _ => .inr (by omega), H.out.1, H.out.2, Gx.refl _ _⟩
  case round =>
    clear H
    obtain ⟨f, s', hp, hf, hR, hB, hG⟩ := hrel
    have HR := Lib.hid (And.intro hR (And.intro hB hG))
    have c0 : wr.cell? ⟨gr, 0, none⟩ = some (.pointer (some ⟨gc, 0, none⟩)) := hR.blk.cell (i := 0) (rdC_zero gc)
    have ha := and3_o s'.p
    have HA := Lib.hid (cAt_any gc L s'.p s'.e wr hR.cur)
    have HE := Lib.hid (cErr_any gc L s'.p s'.e wr hR.cur)
    clear hR hB hG
    by_cases hx : s'.p % 4 ≠ 0 ∧ s'.e = 0
    · have g1 : (((s'.p % 4 : Nat) : Int) != 0) = true := by have := hx.1; simp; omega
      have g2 : (s'.e == 0) = true := by simp [hx.2]
      obtain ⟨f', rfl⟩ : ∃ f', f = f' + 1 := ⟨f - 1, by have := hf hx.2; omega⟩
      have HP : Hid (padK L f' (isC ((bigK L 1 s').1 == 0) (bigK L 1 s').2) = tot) := Lib.hid (by rw [← hp.out, padK, if_pos hx])
      have HF : Hid ((isC ((bigK L 1 s').1 == 0) (bigK L 1 s').2).e = 0 → (isC ((bigK L 1 s').1 == 0) (bigK L 1 s').2).p = s'.p + 1) := Lib.hid (fun he => by
        have h1 := (isC_ok he).2
        rw [h1] at he ⊢
        exact bigK_one he)
      have HM : Hid (msC gc L.length wr = (L.length + 1 - s'.p) + 1) := Lib.hid (by rw [msC_eq HR.out.1.cur, if_pos hx.2])
      have HPG := Lib.hid (isC_p ((bigK L 1 s').1 == 0) (bigK L 1 s').2)
      have HPG2 := Lib.hid (bigK_one_p L s')
      have HBG := Lib.hid (fun w' h => rBig_any (s := s') (gr := gr) (gc := gc) (L := L) 1 w' h (.inl rfl))
      have hlt := bigK_lt L 1 s' (.inl rfl)
      generalize bigK L 1 s' = bk at *
      obtain ⟨bv, bs⟩ := bk
      generalize hsp : s'.p % 4 = pm at *
      have HSP := Lib.hid hsp
      have HX := Lib.hid hx
      clear hsp hp
      simp only at hlt
      go_wp2_with fail
      refine HA.out.mono ?_
      rintro e w' ⟨rfl, hw⟩
      subst hw
      go_wp2_with fail
      refine HE.out.mono ?_
      rintro e w' ⟨rfl, hw⟩
      subst hw
      go_wp2_with fail
      refine (HBG.out _ HR.out.1).mono ?_
      rintro e w2 ⟨rfl, h2, g2⟩
      go_wp2_with fail
      refine (rIs_any (bv == 0) w2 h2).mono ?_
      rintro e w3 ⟨rfl, h3, g3⟩
      have HR3 := Lib.hid (And.intro h3 (And.intro ((Gx.of_grown g3).blk ((Gx.of_grown g2).blk HR.out.2.1 (by have := hne.1; simp; omega)) (by have := hne.1; simp; omega)) (HR.out.2.2.trans (((Gx.of_grown g2).trans (Gx.of_grown g3)).mono (by simp)))))
      clear h2 g2 h3 g3
      go_wp2
      go_roundw
      case rel => exact ⟨f', _, HP.out, fun he => by have h1 := HF.out he; have h2 := hf HX.out.2; have h3 := HSP.out; have h4 := HX.out.1; omega, HR3.out.1, HR3.out.2.1, HR3.out.2.2⟩
      case measure =>
        rw [HM.out, msC_eq HR3.out.1.cur]
        have h1 := HF.out
        have h2 := HPG.out
        have h3 := HPG2.out
        have h4 := HR3.out.1.cur.place
        have h5 := HR.out.1.cur.place
        try simp only at h1 h2 h3
        split
        · rename_i he; have := h1 he; omega
        · omega
    · have HTS : Hid (tot = s') := Lib.hid (by
        rw [← hp.out]
        cases f with
        | zero => rfl
        | succ f => rw [padK, if_neg hx])
      clear hp hf
      obtain ⟨w1, hw1⟩ : ∃ w1, w1 = wr := ⟨_, rfl⟩
      subst hw1
      by_cases h0 : s'.p % 4 = 0
      · rw [h0] at ha
        clear hx
        go_wp2_with fail
        refine HA.out.mono ?_
        rintro e w' ⟨rfl, hw⟩
        subst hw
        go_wp2_with fail
        have cs0 : w1.cell? ⟨gs, 0, none⟩ = some (.int .i64 st.at') := HR.out.2.1.cell (i := 0) rfl
        have HSG := Lib.hid (fun w' h => rSigned_any (s := s') (gr := gr) (gc := gc) (L := L) 4 w' h (.inr (.inr rfl)))
        have hsr := sgnK_rng L 4 s' (.inr (.inr rfl))
        have HBK : Hid (begK L st.at' s = (st.at' + (sgnK L 4 s').1, (sgnK L 4 s').2)) := Lib.hid (by unfold begK; rw [← HT.out, HTS.out])
        generalize sgnK L 4 s' = sg at *
        obtain ⟨sv, ss⟩ := sg
        simp only at hsr
        have hw1 : IntKind.i64.wrap (st.at' + sv) = st.at' + sv := IntWalk.i64_in _ (by omega)
        go_region_held3 (fun w' => w'.cell? ⟨gs, 0, none⟩ = some (.int .i64 st.at'))
          (first | exact cs0 | exact cs1 | (exact cs2) | go_keep)
          (first | (go_at_call 74; refine (HSG.out _ (RSt.below HR.out.1 (below_drewN w1 _ 1))).mono ?_; rintro e w2 ⟨rfl, h2, g2⟩; have hb2 : Blk w2 gs STO (stC st kv tv) := Blk.grown (HR.out.2.1.below (below_drewN w1 _ 1)) g2 (by have := hne.1; simp; omega); have cs1 : w2.cell? ⟨gs, 0, none⟩ = some (.int .i64 st.at') := hb2.cell (i := 0) rfl; have cs5 : w2.cell? ⟨gs, 5, none⟩ = some (.int .i64 st.goal) := hb2.cell (i := 5) rfl; have cf5 := hb2.frozen 5; have cs2 : (w2.setCell ⟨gs, 5, none⟩ (.int .i64 (st.at' + sv))).cell? ⟨gs, 0, none⟩ = some (.int .i64 st.at') := (hb2.setCell 5 (.int .i64 (st.at' + sv))).cell (i := 0) rfl)
                 | fail)
        have HF : Hid (RSt (w2.setCell ⟨gs, 5, none⟩ (.int .i64 (st.at' + sv))) gr gc L ss ∧ Blk (w2.setCell ⟨gs, 5, none⟩ (.int .i64 (st.at' + sv))) gs STO (stC { st with goal := st.at' + sv } kv tv) ∧ Gx w (w2.setCell ⟨gs, 5, none⟩ (.int .i64 (st.at' + sv))) [gc, gs]) := Lib.hid ⟨h2.later (grownBy_setCell w2 ⟨gs, 5, none⟩ (.int .i64 (st.at' + sv))) (fun k hk => by have := Option.some.inj hk; have := hne; simp only at *; omega), hb2.setCell 5 _, HR.out.2.2.trans (((Gx.of_below (below_drewN w1 _ 1)).trans (((Gx.of_grown g2).mono (by simp)).trans ((Gx.of_grown (grownBy_setCell w2 ⟨gs, 5, none⟩ (.int .i64 (st.at' + sv)))).mono (by simp)))))⟩
        go_wp2
        go_end0
        rw [HBK.out]
        exact ⟨rfl, HF.out.1, HF.out.2.1, HF.out.2.2⟩
      · have g1 : (((s'.p % 4 : Nat) : Int) != 0) = true := by simp; omega
        have g2 : (s'.e == 0) = false := by
          have : ¬ s'.e = 0 := fun h => hx ⟨h0, h⟩
          simpa using this
        generalize hpm : s'.p % 4 = pm at *
        clear hx hpm
        go_wp2_with fail
        refine HA.out.mono ?_
        rintro e w' ⟨rfl, hw⟩
        subst hw
        go_wp2_with fail
        refine HE.out.mono ?_
        rintro e w' ⟨rfl, hw⟩
        subst hw
        go_wp2_with fail
        have cs0 : w1.cell? ⟨gs, 0, none⟩ = some (.int .i64 st.at') := HR.out.2.1.cell (i := 0) rfl
        have HSG := Lib.hid (fun w' h => rSigned_any (s := s') (gr := gr) (gc := gc) (L := L) 4 w' h (.inr (.inr rfl)))
        have hsr := sgnK_rng L 4 s' (.inr (.inr rfl))
        have HBK : Hid (begK L st.at' s = (st.at' + (sgnK L 4 s').1, (sgnK L 4 s').2)) := Lib.hid (by unfold begK; rw [← HT.out, HTS.out])
        generalize sgnK L 4 s' = sg at *
        obtain ⟨sv, ss⟩ := sg
        simp only at hsr
        have hw1 : IntKind.i64.wrap (st.at' + sv) = st.at' + sv := IntWalk.i64_in _ (by omega)
        go_region_held3 (fun w' => w'.cell? ⟨gs, 0, none⟩ = some (.int .i64 st.at'))
          (first | exact cs0 | exact cs1 | (exact cs2) | go_keep)
          (first | (go_at_call 74; refine (HSG.out _ (RSt.below HR.out.1 (below_drewN w1 _ 1))).mono ?_; rintro e w2 ⟨rfl, h2, g3⟩; have hb2 : Blk w2 gs STO (stC st kv tv) := Blk.grown (HR.out.2.1.below (below_drewN w1 _ 1)) g3 (by have := hne.1; simp; omega); have cs1 : w2.cell? ⟨gs, 0, none⟩ = some (.int .i64 st.at') := hb2.cell (i := 0) rfl; have cs5 : w2.cell? ⟨gs, 5, none⟩ = some (.int .i64 st.goal) := hb2.cell (i := 5) rfl; have cf5 := hb2.frozen 5; have cs2 : (w2.setCell ⟨gs, 5, none⟩ (.int .i64 (st.at' + sv))).cell? ⟨gs, 0, none⟩ = some (.int .i64 st.at') := (hb2.setCell 5 (.int .i64 (st.at' + sv))).cell (i := 0) rfl)
                 | fail)
        have HF : Hid (RSt (w2.setCell ⟨gs, 5, none⟩ (.int .i64 (st.at' + sv))) gr gc L ss ∧ Blk (w2.setCell ⟨gs, 5, none⟩ (.int .i64 (st.at' + sv))) gs STO (stC { st with goal := st.at' + sv } kv tv) ∧ Gx w (w2.setCell ⟨gs, 5, none⟩ (.int .i64 (st.at' + sv))) [gc, gs]) := Lib.hid ⟨h2.later (grownBy_setCell w2 ⟨gs, 5, none⟩ (.int .i64 (st.at' + sv))) (fun k hk => by have := Option.some.inj hk; have := hne; simp only at *; omega), hb2.setCell 5 _, HR.out.2.2.trans (((Gx.of_below (below_drewN w1 _ 1)).trans (((Gx.of_grown g3).mono (by simp)).trans ((Gx.of_grown (grownBy_setCell w2 ⟨gs, 5, none⟩ (.int .i64 (st.at' + sv)))).mono (by simp)))))⟩
        go_wp2
        go_end0
        rw [HBK.out]
        exact ⟨rfl, HF.out.1, HF.out.2.1, HF.out.2.2⟩
end
end Go.Proofs.Ytgcdeadfkljeaaa
