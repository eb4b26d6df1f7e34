/- record.reader: two, four, is, method, noughts, done. -/
import Derived.Test.YtbknkahakmfhkaaRecB
import Derived.Test.YtbknkahakmfhkaaCurOB
import Derived.Test.YtbknkahakmfhkaaRef02C
import Derived.Test.YtbknkahakmfhkaaLitM
namespace Go.Proofs.Ytbknkahakmfhkaa
open Go.RowKit
set_option linter.unusedVariables false
set_option linter.unusedSimpArgs false

abbrev TRd : TypeId := 85
/-- From w to w' only the blocks of S change, of those that were there. -/
structure Gs (w w' : World) (S : List Nat) : Prop where
  os : w'.os = w.os
  tape : w'.tape = w.tape
  output : w'.output = w.output
  size : w.heap.size ≤ w'.heap.size
  block : ∀ k, k < w.heap.size → k ∉ S → w'.heap[k]? = w.heap[k]?
section
variable {w w' w'' : World} {S S' : List Nat}
theorem Gs.refl (w : World) (S : List Nat) : Gs w w S := ⟨rfl, rfl, rfl, Nat.le_refl _, fun _ _ _ => rfl⟩
theorem Gs.trans (h : Gs w w' S) (k : Gs w' w'' S) : Gs w w'' S := ⟨k.os.trans h.os, k.tape.trans h.tape, k.output.trans h.output, Nat.le_trans h.size k.size, fun j hj hs => (k.block j (Nat.lt_of_lt_of_le hj h.size) hs).trans (h.block j hj hs)⟩
theorem Gs.mono (h : Gs w w' S) (hs : ∀ k ∈ S, k ∈ S') : Gs w w' S' := ⟨h.os, h.tape, h.output, h.size, fun k hk hn => h.block k hk (fun hm => hn (hs k hm))⟩
theorem Gs.of_grown {g : Nat} (h : w.grownBy w' (some g)) : Gs w w' [g] := ⟨h.os, h.tape, h.output, h.size, fun k hk hn => h.block k hk (by simpa using hn)⟩
theorem Gs.of_below (h : Below w.heap.size w w') : Gs w w' S := ⟨h.os, h.tape, h.output, h.size, fun k hk _ => h.block k hk⟩
theorem Blk.gs {g : Nat} {T : TypeId} {cs : Array Value} (h : Blk w g T cs) (hg : Gs w w' S) (hn : g ∉ S) : Blk w' g T cs := (hg.block g h.lt hn).trans h
theorem CurOk.gs {g p : Nat} {l : List UInt8} {er : Int} (h : CurOk w g l p er) (hg : Gs w w' S) (hn : ∀ k ∈ S, g < k) : CurOk w' g l p er := by
  obtain ⟨a, n, c, h1, h2, h3, h4, h5, h6, h7⟩ := h.ex
  refine ⟨a, n, c, h1.gs hg (fun e => ?_), h2, h3, h4, ?_, h6, h7⟩
  · have := hn g e; omega
  · rcases h5 with rfl | ⟨b, off, rfl, hc⟩
    · exact .inl rfl
    · refine .inr ⟨b, off, rfl, fun j x hj => ?_⟩
      have hcj := hc j x hj
      have hbg := h6 b off rfl
      have hlt := World.block_lt_of_cell? w _ hcj
      have hbl := hg.block b hlt (fun e => by have := hn b e; omega)
      rw [World.cell?, hbl]
      exact hcj
/-- Blocks that are new behind w0 don't count. -/
theorem Gs.grown {g : Nat} (h : Gs w w' S) (hs : ∀ k ∈ S, k = g ∨ w.heap.size ≤ k) : w.grownBy w' (some g) := ⟨h.os, h.tape, h.output, h.size, fun k hk hn => h.block k hk (fun hm => by
  rcases hs k hm with rfl | h2
  · exact hn rfl
  · omega)⟩
end
/-- A reader at block gr, of the cursor at g. -/
structure RdOk (w : World) (gr g : Nat) (l : List UInt8) (s : Nat × Int) (odd : Bool) : Prop where
  blk : Blk w gr TRd #[.pointer (some ⟨g, 0, none⟩), .bool odd]
  cur : CurOk w g l s.1 s.2
  lt : g < gr
section
variable {w w' : World} {gr g : Nat} {l : List UInt8} {s : Nat × Int} {odd : Bool}
theorem RdOk.gs {S : List Nat} (h : RdOk w gr g l s odd) (hg : Gs w w' S) (h1 : gr ∉ S) (h2 : ∀ k ∈ S, g < k) : RdOk w' gr g l s odd := ⟨h.blk.gs hg h1, h.cur.gs hg h2, h.lt⟩
theorem RdOk.below (h : RdOk w gr g l s odd) (hb : Below w.heap.size w w') : RdOk w' gr g l s odd := ⟨h.blk.below hb, h.cur.below hb, h.lt⟩
end
/-- The number of m bytes that a cursor reads, and where it stands then. -/
def rdN (l : List UInt8) (m : Nat) (s : Nat × Int) : Int := ((numLE (nextL l s.1 s.2 m true) (nextL l s.1 s.2 m true).length : Nat) : Int)
def rdS (l : List UInt8) (m : Nat) (s : Nat × Int) : Nat × Int := (nextAt l.length s.1 s.2 m true, nextEr l.length s.1 s.2 m true)
theorem rdN_lt (l : List UInt8) (m : Nat) (s : Nat × Int) : 0 ≤ rdN l m s ∧ rdN l m s < ((256 ^ m : Nat) : Int) := by
  unfold rdN
  have h1 := numLE_lt (nextL l s.1 s.2 m true) (nextL l s.1 s.2 m true).length
  have h2 : (nextL l s.1 s.2 m true).length ≤ m := by
    unfold nextL
    split
    · simp; omega
    · simp
  have h3 : 256 ^ (nextL l s.1 s.2 m true).length ≤ 256 ^ m := Nat.pow_le_pow_right (by omega) h2
  omega
theorem rdN_lit (l : List UInt8) (m : Nat) (s : Nat × Int) (hm : m ≤ 8) : litR (nextL l s.1 s.2 m true) (nextL l s.1 s.2 m true).length = rdN l m s := by
  have h2 : (nextL l s.1 s.2 m true).length ≤ m := by
    unfold nextL
    split
    · simp; omega
    · simp
  exact litR_num _ _ (by omega)
theorem rd2_lt (l : List UInt8) (s : Nat × Int) : 0 ≤ rdN l 2 s ∧ rdN l 2 s < 65536 := rdN_lt l 2 s
theorem rd4_lt (l : List UInt8) (s : Nat × Int) : 0 ≤ rdN l 4 s ∧ rdN l 4 s < 4294967296 := rdN_lt l 4 s
set_option maxHeartbeats 2000000 in
theorem two_any (gr g : Nat) (l : List UInt8) (s : Nat × Int) (odd : Bool) (w : World) (h : RdOk w gr g l s odd) :
  Calls Try.prog 60 #[.pointer (some ⟨gr, 0, none⟩)] w fun e w' => e = .returned (.int .i64 (rdN l 2 s)) ∧ RdOk w' gr g l (rdS l 2 s) odd ∧ Gs w w' [g] := by
  have H := Lib.hid h
  have h0 := h.blk.cell (i := 0) rfl
  have WR := Lib.hid (wrap64 (rdN l 2 s) (by have := rd2_lt l s; omega) (by have := rd2_lt l s; omega))
  clear h
  go_enter Try.func60, Try.ntmps60
  go_wp2_with fail
  clear h0
  refine (cLitGet_any g l s.1 s.2 2 w H.out.cur (by decide) (by decide)).mono ?_
  rintro e w2 ⟨rfl, hc, hg⟩
  have hl : litR (nextL l s.1 s.2 2 (sizedB 2)) (nextL l s.1 s.2 2 (sizedB 2)).length = rdN l 2 s := rdN_lit l 2 s (by decide)
  rw [hl]
  have HF := Lib.hid (show RdOk w2 gr g l (rdS l 2 s) odd ∧ Gs w w2 [g] from ⟨⟨H.out.blk.grown hg (fun e => by have := H.out.lt; simp only [Option.some.injEq] at e; omega), hc, H.out.lt⟩, Gs.of_grown hg⟩)
  have hw := WR.out
  clear hc hg hl H WR
  go_wp2
  go_ret
  exact ⟨by first | rfl | rw [hw], HF.out⟩
set_option maxHeartbeats 2000000 in
theorem four_any (gr g : Nat) (l : List UInt8) (s : Nat × Int) (odd : Bool) (w : World) (h : RdOk w gr g l s odd) :
  Calls Try.prog 58 #[.pointer (some ⟨gr, 0, none⟩)] w fun e w' => e = .returned (.int .i64 (rdN l 4 s)) ∧ RdOk w' gr g l (rdS l 4 s) odd ∧ Gs w w' [g] := by
  have H := Lib.hid h
  have h0 := h.blk.cell (i := 0) rfl
  have WR := Lib.hid (wrap64 (rdN l 4 s) (by have := rd4_lt l s; omega) (by have := rd4_lt l s; omega))
  clear h
  go_enter Try.func58, Try.ntmps58
  go_wp2_with fail
  clear h0
  refine (cLitGet_any g l s.1 s.2 4 w H.out.cur (by decide) (by decide)).mono ?_
  rintro e w2 ⟨rfl, hc, hg⟩
  have hl : litR (nextL l s.1 s.2 4 (sizedB 4)) (nextL l s.1 s.2 4 (sizedB 4)).length = rdN l 4 s := rdN_lit l 4 s (by decide)
  rw [hl]
  have HF := Lib.hid (show RdOk w2 gr g l (rdS l 4 s) odd ∧ Gs w w2 [g] from ⟨⟨H.out.blk.grown hg (fun e => by have := H.out.lt; simp only [Option.some.injEq] at e; omega), hc, H.out.lt⟩, Gs.of_grown hg⟩)
  have hw := WR.out
  clear hc hg hl H WR
  go_wp2
  go_ret
  exact ⟨by first | rfl | rw [hw], HF.out⟩
set_option maxHeartbeats 2000000 in
theorem is_any (gr g : Nat) (l : List UInt8) (s : Nat × Int) (odd b : Bool) (w : World) (h : RdOk w gr g l s odd) :
  Calls Try.prog 59 #[.pointer (some ⟨gr, 0, none⟩), .bool b] w fun e w' => e = .returned (.tuple #[]) ∧ RdOk w' gr g l s (odd || !b) ∧ Gs w w' [gr] := by
  have h1 := h.blk.cell (i := 1) rfl
  have hf := h.blk.frozen 1
  have HF : Hid (∀ v : Bool, RdOk (w.setCell ⟨gr, 1, none⟩ (.bool v)) gr g l s v ∧ Gs w (w.setCell ⟨gr, 1, none⟩ (.bool v)) [gr]) := Lib.hid fun v => by
    have hg := Gs.of_grown (grownBy_setCell w ⟨gr, 1, none⟩ (.bool v))
    exact ⟨⟨h.blk.setCell 1 (.bool v), h.cur.gs hg (fun k hk => by simp only [List.mem_singleton] at hk; have := h.lt; omega), h.lt⟩, hg⟩
  clear h
  go_enter Try.func59, Try.ntmps59
  cases odd with
  | true => go_wp2; go_end0; exact ⟨rfl, HF.out true⟩
  | false =>
    cases b with
    | true => go_wp2; go_end0; exact ⟨rfl, HF.out false⟩
    | false => go_wp2; go_end0; exact ⟨rfl, HF.out true⟩
def meth (n : Int) : Bool := n == 0 || n == 8
set_option maxHeartbeats 2000000 in
theorem method_any (gr g : Nat) (l : List UInt8) (s : Nat × Int) (odd : Bool) (w : World) (h : RdOk w gr g l s odd) :
  Calls Try.prog 102 #[.pointer (some ⟨gr, 0, none⟩)] w fun e w' => e = .returned (.int .i64 (rdN l 2 s)) ∧ RdOk w' gr g l (rdS l 2 s) (odd || !meth (rdN l 2 s)) ∧ Gs w w' [g, gr] := by
  go_enter Try.func102, Try.ntmps102
  go_wp2_with fail
  refine (two_any gr g l s odd w h).mono ?_
  rintro e w1 ⟨rfl, h1, hg1⟩
  have H1 := Lib.hid h1
  have HG := Lib.hid (hg1.mono (S' := [g, gr]) (by simp))
  have HM : Hid (meth (rdN l 2 s) = (rdN l 2 s == 0 || rdN l 2 s == 8)) := Lib.hid rfl
  clear h h1 hg1
  generalize hn : rdN l 2 s = n at HM ⊢
  have HNN := Lib.hid hn
  clear hn
  by_cases h0 : n = 0
  · subst h0
    go_wp2_with fail
    refine (is_any gr g l (rdS l 2 s) odd true w1 H1.out).mono ?_
    rintro e w2 ⟨rfl, h2, hg2⟩
    have HF := Lib.hid (And.intro h2 (HG.out.trans (hg2.mono (S' := [g, gr]) (by simp))))
    clear h2 hg2
    go_wp2
    go_ret
    rw [HNN.out]
    exact ⟨rfl, HF.out⟩
  · have h0' : (n == 0) = false := by simpa using h0
    go_wp2_with fail
    refine (is_any gr g l (rdS l 2 s) odd (n == 8) w1 H1.out).mono ?_
    rintro e w2 ⟨rfl, h2, hg2⟩
    have HF := Lib.hid (And.intro h2 (HG.out.trans (hg2.mono (S' := [g, gr]) (by simp))))
    clear h2 hg2
    go_wp2
    go_ret
    rw [HNN.out]
    refine ⟨rfl, ?_, HF.out.2⟩
    rw [HM.out, h0', Bool.false_or]
    exact HF.out.1
def nghS (l : List UInt8) (s : Nat × Int) (odd : Bool) : Nat → (Nat × Int) × Bool
  | 0 => (s, odd)
  | k+1 => (rdS l 2 (nghS l s odd k).1, (nghS l s odd k).2 || !(rdN l 2 (nghS l s odd k).1 == 0))
set_option maxRecDepth 100000 in
set_option maxHeartbeats 4000000 in
theorem noughts_any (gr g : Nat) (l : List UInt8) (s : Nat × Int) (odd : Bool) (m : Nat) (w : World) (hm : m ≤ 1000) (h : RdOk w gr g l s odd) :
  Calls Try.prog 62 #[.pointer (some ⟨gr, 0, none⟩), .int .i64 m] w fun e w' => e = .returned (.tuple #[]) ∧ RdOk w' gr g l (nghS l s odd m).1 (nghS l s odd m).2 ∧ Gs w w' [g, gr] := by
  have H := Lib.hid h
  clear h
  go_enter Try.func62, Try.ntmps62
  go_wp2
  go_loopw [5] (fun xi wr => ∃ k : Nat, k ≤ m ∧ xi = .int .i64 k ∧ RdOk wr gr g l (nghS l s odd k).1 (nghS l s odd k).2 ∧ Gs w wr [g, gr]) (fun xi _ => m - (intOf xi).toNat)
  case atStart => exact ⟨0, by omega, rfl, H.out, Gs.refl _ _⟩
  case round =>
    clear H
    obtain ⟨k, hk, rfl, hr, hg⟩ := hrel
    have HR := Lib.hid hr
    have HG := Lib.hid hg
    clear hr hg
    by_cases hlt : k < m
    · go_wp2_with fail
      refine (two_any gr g l _ _ wr HR.out).mono ?_
      rintro e w1 ⟨rfl, h1, hg1⟩
      have H1 := Lib.hid h1
      have HG1 := Lib.hid (HG.out.trans (hg1.mono (S' := [g, gr]) (by simp)))
      have HN : Hid (nghS l s odd (k + 1) = (rdS l 2 (nghS l s odd k).1, (nghS l s odd k).2 || !(rdN l 2 (nghS l s odd k).1 == 0))) := Lib.hid rfl
      clear h1 hg1 HG HR
      generalize rdN l 2 (nghS l s odd k).1 = n at HN ⊢
      go_wp2_with fail
      refine (is_any gr g l _ _ (n == 0) w1 H1.out).mono ?_
      rintro e w2 ⟨rfl, h2, hg2⟩
      have HF := Lib.hid (And.intro h2 (HG1.out.trans (hg2.mono (S' := [g, gr]) (by simp))))
      clear h2 hg2 H1 HG1
      go_wp2
      go_roundw
      case rel => exact ⟨k + 1, by omega, by go_num, by rw [HN.out]; exact HF.out.1, HF.out.2⟩
      case measure => simp [intOf] <;> omega
    · have hkm : k = m := by omega
      rw [hkm] at HR
      go_wp2
      go_end0
      exact ⟨rfl, HR.out, HG.out⟩
/-- done's error. -/
def doneE (er : Int) (mark want : Int) (odd : Bool) : Int := let e1 := if mark = want then er else failE er 14; if odd then failE e1 2 else e1
set_option maxHeartbeats 4000000 in
theorem done_any (gr g : Nat) (l : List UInt8) (s : Nat × Int) (odd : Bool) (mark want : Int) (w : World) (h : RdOk w gr g l s odd) :
  Calls Try.prog 63 #[.pointer (some ⟨gr, 0, none⟩), .int .i64 mark, .int .i64 want] w fun e w' => e = .returned (.bool (doneE s.2 mark want odd == 0)) ∧ RdOk w' gr g l (s.1, doneE s.2 mark want odd) odd ∧ Gs w w' [g] := by
  have h0 := h.blk.cell (i := 0) rfl
  have h1 := h.blk.cell (i := 1) rfl
  have H := Lib.hid h
  clear h
  go_enter Try.func63, Try.ntmps63
  by_cases hm : mark = want
  · have hmb : (mark == want) = true := by simpa using hm
    have HD : Hid (doneE s.2 mark want odd = if odd then failE s.2 2 else s.2) := Lib.hid (by simp [doneE, hm])
    clear hm
    cases odd with
    | true =>
      go_wp2_with fail
      refine (cFail_any g l s.1 s.2 2 w H.out.cur).mono ?_
      rintro e w2 ⟨rfl, hc2, hg2⟩
      have h2 : RdOk w2 gr g l (s.1, failE s.2 2) true := ⟨H.out.blk.grown hg2 (fun e => by have := H.out.lt; simp only [Option.some.injEq] at e; omega), hc2, H.out.lt⟩
      have HF := Lib.hid (And.intro h2 (Gs.of_grown hg2))
      have k0 := h2.blk.cell (i := 0) rfl
      clear h0 h1 H hc2 hg2 h2
      go_wp2_with fail
      refine (cErr_any g l s.1 _ w2 HF.out.1.cur).mono ?_
      rintro e w3 ⟨rfl, rfl⟩
      go_wp2
      go_ret
      rw [HD.out]
      exact ⟨rfl, HF.out⟩
    | false =>
      go_wp2_with fail
      refine (cErr_any g l s.1 _ w H.out.cur).mono ?_
      rintro e w3 ⟨rfl, rfl⟩
      go_wp2
      go_ret
      rw [HD.out]
      exact ⟨rfl, H.out, Gs.refl _ _⟩
  · have hmb : (mark == want) = false := by simpa using hm
    have HD : Hid (doneE s.2 mark want odd = if odd then failE (failE s.2 14) 2 else failE s.2 14) := Lib.hid (by simp [doneE, hm])
    clear hm
    go_wp2_with fail
    refine (cFail_any g l s.1 s.2 14 w H.out.cur).mono ?_
    rintro e w1 ⟨rfl, hc1, hg1⟩
    have h2 : RdOk w1 gr g l (s.1, failE s.2 14) odd := ⟨H.out.blk.grown hg1 (fun e => by have := H.out.lt; simp only [Option.some.injEq] at e; omega), hc1, H.out.lt⟩
    have HF1 := Lib.hid (And.intro h2 (Gs.of_grown hg1))
    have k0 := h2.blk.cell (i := 0) rfl
    have k1 := h2.blk.cell (i := 1) rfl
    clear h0 h1 H hc1 hg1 h2
    cases odd with
    | true =>
      go_wp2_with fail
      refine (cFail_any g l s.1 _ 2 w1 HF1.out.1.cur).mono ?_
      rintro e w2 ⟨rfl, hc2, hg2⟩
      have h2 : RdOk w2 gr g l (s.1, failE (failE s.2 14) 2) true := ⟨HF1.out.1.blk.grown hg2 (fun e => by have := HF1.out.1.lt; simp only [Option.some.injEq] at e; omega), hc2, HF1.out.1.lt⟩
      have HF := Lib.hid (And.intro h2 (HF1.out.2.trans (Gs.of_grown hg2)))
      have q0 := h2.blk.cell (i := 0) rfl
      clear k0 k1 HF1 hc2 hg2 h2
      go_wp2_with fail
      refine (cErr_any g l s.1 _ w2 HF.out.1.cur).mono ?_
      rintro e w3 ⟨rfl, rfl⟩
      go_wp2
      go_ret
      rw [HD.out]
      exact ⟨rfl, HF.out⟩
    | false =>
      go_wp2_with fail
      refine (cErr_any g l s.1 _ w1 HF1.out.1.cur).mono ?_
      rintro e w3 ⟨rfl, rfl⟩
      go_wp2
      go_ret
      rw [HD.out]
      exact ⟨rfl, HF1.out⟩
end Go.Proofs.Ytbknkahakmfhkaa
