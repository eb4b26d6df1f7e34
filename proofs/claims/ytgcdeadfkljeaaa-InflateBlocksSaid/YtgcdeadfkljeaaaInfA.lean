/- inflate.state: fail, bits, sign, room, code. -/
import Derived.Test.YtgcdeadfkljeaaaPreM
import Derived.Test.YtgcdeadfkljeaaaBitR2
namespace Go.Proofs.Ytgcdeadfkljeaaa
open Go.RowKit
set_option linter.unusedVariables false
set_option linter.unusedSimpArgs false

/-- Blocks of other types than these stay as they are. -/
def KeepT (S : List TypeId) (w w' : World) : Prop := ∀ (q : Nat) (cs : Array Value) (T : TypeId) (fr : Nat × Nat), T ∉ S → w.heap[q]? = some (.cells cs T fr) → w'.heap[q]? = some (.cells cs T fr)
section
variable {S : List TypeId} {w w' w'' : World}
theorem KeepT.refl (S : List TypeId) (w : World) : KeepT S w w := fun _ _ _ _ _ h => h
theorem KeepT.trans (h : KeepT S w w') (k : KeepT S w' w'') : KeepT S w w'' := fun q cs T fr h1 hq => k q cs T fr h1 (h q cs T fr h1 hq)
theorem KeepT.below (hb : Below w.heap.size w w') : KeepT S w w' := fun q cs T fr _ hq => (hb.block q (Array.getElem?_eq_some_iff.1 hq).1).trans hq
theorem KeepT.one {g : Nat} {cs : Array Value} {T : TypeId} (hb : Blk w g T cs) (hT : T ∈ S) (hg : w.grownBy w' (some g)) : KeepT S w w' := by
  intro q cs' T' fr h1 hq
  refine (hg.block q (Array.getElem?_eq_some_iff.1 hq).1 (fun e => ?_)).trans hq
  have e := Option.some.inj e
  subst e
  have h2 : some (Obj.cells cs' T' fr) = some (.cells cs T (0, 0)) := hq.symm.trans hb
  simp only [Option.some.injEq, Obj.cells.injEq] at h2
  exact h1 (h2.2.1 ▸ hT)
theorem KeepT.own {α : Type} {E : α → Value} {B : Nat} {T : TypeId} {a : Option Addr} {n c : Nat} {l : List α} (ho : Own w B T E a n c l) (hT : T ∈ S) (hg : w.grownBy w' (Value.slice a n c).ownBlock) : KeepT S w w' := by
  intro q cs T' fr h1 hq
  refine (hg.block q (Array.getElem?_eq_some_iff.1 hq).1 (fun e => ?_)).trans hq
  obtain ⟨⟨h3, h4⟩, h5⟩ := ho
  rcases h4 with ⟨h6, h7⟩ | ⟨g, cap, cur, hv, hge, hh, hrest⟩
  · rw [h6] at e; simp [Value.ownBlock] at e
  · rw [hv] at e
    have e : q = g := by simpa [Value.ownBlock] using e
    subst e
    have h2 : some (Obj.cells cs T' fr) = some (.cells cur T (0, 0)) := hq.symm.trans hh
    simp only [Option.some.injEq, Obj.cells.injEq] at h2
    exact h1 (h2.2.1 ▸ hT)
theorem KeepT.blk (h : KeepT S w w') {q : Nat} {T : TypeId} {cs : Array Value} (hb : Blk w q T cs) (hT : T ∉ S) : Blk w' q T cs := h q cs T (0, 0) hT hb
theorem KeepT.ownR {α : Type} {E : α → Value} (h : KeepT S w w') {B : Nat} {T : TypeId} {a : Option Addr} {n c : Nat} {l : List α} (ho : Own w B T E a n c l) (hT : T ∉ S) : Own w' B T E a n c l := by
  obtain ⟨⟨h1, h2⟩, h3⟩ := ho
  refine ⟨⟨h1, ?_⟩, h3⟩
  rcases h2 with h2 | ⟨g, cap, cur, hv, hge, hh, hrest⟩
  · exact .inl h2
  · exact .inr ⟨g, cap, cur, hv, hge, h g cur _ (0, 0) hT hh, hrest⟩
end
abbrev STT : TypeId := 60
abbrev RDR : TypeId := 102
abbrev U8T : TypeId := 5
abbrev SI : List TypeId := [STT, RDR, U8T]
theorem CodeOk.keepT {w w' : World} {g : Nat} {l : List Int} (h : CodeOk w g l) (hk : KeepT SI w w') : CodeOk w' g l := by
  obtain ⟨a, p, q, n, c, m, d, o, h1, h2, h3, h4, h5, h6, h7⟩ := h.ex
  exact ⟨a, p, q, n, c, m, d, o, hk.blk h1 (by decide), h2, h3, h4, hk.ownR h5 (by decide), hk.ownR h6 (by decide), hk.ownR h7 (by decide)⟩
theorem RdOk.grown {w w' : World} {g : Nat} {l : List UInt8} {p : Nat} {row : Option Nat} (h : RdOk w g l p) (hg : w.grownBy w' row) (hrow : ∀ k, row = some k → g < k) : RdOk w' g l p := by
  obtain ⟨a, n, c, h1, h2, h3, h4, h5, h6⟩ := h.ex
  exact ⟨a, n, c, h1.grown hg (fun e => by have := hrow g e.symm; omega), h2, h3, h4, h4.2.2.grown h5 hg (fun k hk => Nat.le_of_lt (hrow k hk)), h6⟩
theorem RdOk.blk {w : World} {g : Nat} {l : List UInt8} {p : Nat} (h : RdOk w g l p) : ∃ cs, Blk w g RDR cs := by
  obtain ⟨a, n, c, h1, -⟩ := h.ex; exact ⟨_, h1⟩
/-- What is read, and what came out. -/
structure IS where
  p : Nat
  out : List UInt8
  e : Int
/-- What the calls of a state do to the world. -/
structure Chg (A : Nat) (w w' : World) : Prop where
  bel : Below A w w'
  keep : KeepT SI w w'
theorem Chg.refl (A : Nat) (w : World) : Chg A w w := ⟨Below.refl _ _, KeepT.refl _ _⟩
theorem Chg.trans {A : Nat} {w w' w'' : World} (h : Chg A w w') (k : Chg A w' w'') : Chg A w w'' := ⟨h.bel.trans k.bel, h.keep.trans k.keep⟩
theorem Chg.of_below {A : Nat} {w w' : World} (h : Below w.heap.size w w') (hA : A ≤ w.heap.size) : Chg A w w' := ⟨h.mono hA, KeepT.below h⟩
/-- A state: its reader, what came out, how much may, the error. -/
structure ISt (w : World) (A B gs gr : Nat) (L : List UInt8) (most : Int) (s : IS) : Prop where
  ex : ∃ (q : Option Addr) (n c : Nat), Blk w gs STT #[.pointer (some ⟨gr, 0, none⟩), .slice q n c, .int .i64 most, .int .i64 s.e] ∧ Own w B U8T bE q n c s.out
  rd : RdOk w gr L s.p
  le : A ≤ gs ∧ A ≤ gr ∧ gs < B ∧ gr < B ∧ gs ≠ gr ∧ B ≤ w.heap.size
section
variable {w w' : World} {A B gs gr : Nat} {L : List UInt8} {most : Int} {s : IS}
theorem own_far {α : Type} {E : α → Value} {T : TypeId} {q : Option Addr} {n c : Nat} {l : List α} (h : Own w B T E q n c l) {g : Nat} (hg : g < B) : ∀ k, (Value.slice q n c).ownBlock = some k → g < k := fun k hk => Nat.lt_of_lt_of_le hg (h.1.lt k hk).1
theorem ISt.below (h : ISt w A B gs gr L most s) (hb : Below w.heap.size w w') : ISt w' A B gs gr L most s := by
  obtain ⟨q, n, c, h1, h2⟩ := h.ex
  exact ⟨⟨q, n, c, h1.below hb, h2.below hb⟩, h.rd.below hb, h.le.1, h.le.2.1, h.le.2.2.1, h.le.2.2.2.1, h.le.2.2.2.2.1, Nat.le_trans h.le.2.2.2.2.2 hb.size⟩
theorem ISt.moved (h : ISt w A B gs gr L most s) {p : Nat} (hr : RdOk w' gr L p) (hg : w.grownBy w' (some gr)) : ISt w' A B gs gr L most { s with p := p } ∧ Chg A w w' := by
  obtain ⟨q, n, c, h1, h2⟩ := h.ex
  obtain ⟨cs, hrb⟩ := h.rd.blk
  have hle := h.le
  refine ⟨⟨⟨q, n, c, h1.grown hg (fun e => by have := Option.some.inj e; omega), h2.grown hg (fun k hk e => by have := Option.some.inj e; have := own_far h2 h.le.2.2.2.1 k (by rw [hk]; rfl); omega)⟩, hr, h.le.1, h.le.2.1, h.le.2.2.1, h.le.2.2.2.1, h.le.2.2.2.2.1, Nat.le_trans h.le.2.2.2.2.2 hg.size⟩, ?_, KeepT.one hrb (by decide) hg⟩
  exact (Below.refl _ _).grown hg (by omega) (fun k hk => by have := Option.some.inj hk; omega)
theorem ISt.set (h : ISt w A B gs gr L most s) {i : Nat} {v : Value} : w.grownBy (w.setCell ⟨gs, i, none⟩ v) (some gs) ∧ Chg A w (w.setCell ⟨gs, i, none⟩ v) := by
  obtain ⟨q, n, c, h1, h2⟩ := h.ex
  have hg := grownBy_setCell w ⟨gs, i, none⟩ v
  have hle := h.le
  exact ⟨hg, (Below.refl _ _).grown hg (by omega) (fun k hk => by have := Option.some.inj hk; simp only at this; omega), KeepT.one h1 (by decide) hg⟩
theorem ISt.setE (h : ISt w A B gs gr L most s) (x : Int) : ISt (w.setCell ⟨gs, 3, none⟩ (.int .i64 x)) A B gs gr L most { s with e := x } := by
  obtain ⟨q, n, c, h1, h2⟩ := h.ex
  have hg := grownBy_setCell w ⟨gs, 3, none⟩ (.int .i64 x)
  have hle := h.le
  have hr := h.rd
  refine ⟨⟨q, n, c, h1.setCell 3 (.int .i64 x), h2.grown hg (fun k hk e => by have := Option.some.inj e; have := own_far h2 h.le.2.2.1 k (by rw [hk]; rfl); simp only at *; omega)⟩, ?_, h.le.1, h.le.2.1, h.le.2.2.1, h.le.2.2.2.1, h.le.2.2.2.2.1, Nat.le_trans h.le.2.2.2.2.2 hg.size⟩
  obtain ⟨a, m, d, g1, g2, g3, g4, g5, g6⟩ := h.rd.ex
  refine ⟨a, m, d, g1.grown hg (fun e => by have := Option.some.inj e; simp only at this; omega), g2, g3, g4, ?_, g6⟩
  refine g5.keep (keep_of_grown hg (fun off z he => ?_))
  rw [cell_of_row w gs off _ STT (0, 0) h1] at he
  match off, he with
  | 0, he => simp at he
  | 1, he => simp at he
  | 2, he => simp at he
  | 3, he => simp at he
  | off + 4, he => simp at he
theorem ISt.base (h : ISt w A B gs gr L most s) : A ≤ w.heap.size := by have := h.le; omega
theorem ISt.cells (h : ISt w A B gs gr L most s) : ∃ (q : Option Addr) (n c : Nat), w.cell? ⟨gs, 0, none⟩ = some (.pointer (some ⟨gr, 0, none⟩)) ∧ w.cell? ⟨gs, 1, none⟩ = some (.slice q n c) ∧ w.cell? ⟨gs, 2, none⟩ = some (.int .i64 most) ∧ w.cell? ⟨gs, 3, none⟩ = some (.int .i64 s.e) ∧ w.frozen? ⟨gs, 3, none⟩ = false ∧ Own w B U8T bE q n c s.out := by
  obtain ⟨q, n, c, h1, h2⟩ := h.ex
  exact ⟨q, n, c, h1.cell (i := 0) rfl, h1.cell (i := 1) rfl, h1.cell (i := 2) rfl, h1.cell (i := 3) rfl, h1.frozen 3, h2⟩
end
/-- The first error stays. -/
def failS (x : Int) (s : IS) : IS := if s.e = 0 then { s with e := x } else s
def StPost (A B gs gr : Nat) (L : List UInt8) (most : Int) (w : World) (v : Ending) (s : IS) (e : Ending) (w' : World) : Prop := e = v ∧ ISt w' A B gs gr L most s ∧ Chg A w w'
set_option maxRecDepth 100000 in
set_option maxHeartbeats 4000000 in
theorem iFail_g {A B gs gr : Nat} {L : List UInt8} {most : Int} {s : IS} (x : Int) (w : World) (h : ISt w A B gs gr L most s) :
  Calls Try.prog 62 #[.pointer (some ⟨gs, 0, none⟩), .int .i64 x] w fun e w' => StPost A B gs gr L most w (.returned (.bool ((failS x s).e != 0))) (failS x s) e w' ∧ w.grownBy w' (some gs) := by
  obtain ⟨q, n, c, c0, c1, c2, c3, f3, -⟩ := h.cells
  by_cases he : s.e = 0
  · have hf : failS x s = { s with e := x } := by unfold failS; rw [if_pos he]
    have HF : Hid (ISt (w.setCell ⟨gs, 3, none⟩ (.int .i64 x)) A B gs gr L most (failS x s) ∧ Chg A w (w.setCell ⟨gs, 3, none⟩ (.int .i64 x)) ∧ (failS x s).e = x ∧ w.grownBy (w.setCell ⟨gs, 3, none⟩ (.int .i64 x)) (some gs)) := Lib.hid (by rw [hf]; exact ⟨h.setE x, h.set.2, rfl, h.set.1⟩)
    rw [he] at c3
    clear hf h he c0 c1 c2
    go_enter Try.func62, Try.ntmps62
    go_wp2_with fail
    go_ret
    exact ⟨⟨by rw [HF.out.2.2.1] <;> rfl, HF.out.1, HF.out.2.1⟩, HF.out.2.2.2⟩
  · have hf : failS x s = s := by unfold failS; rw [if_neg he]
    have HF : Hid (failS x s = s) := Lib.hid hf
    have H := Lib.hid h
    have heb : (s.e == 0) = false := by simpa using he
    clear hf h c0 c1 c2
    go_enter Try.func62, Try.ntmps62
    go_wp2_with fail
    go_ret
    rw [HF.out]
    exact ⟨⟨rfl, H.out, Chg.refl _ _⟩, World.grownBy.refl _ _⟩
theorem iFail_any {A B gs gr : Nat} {L : List UInt8} {most : Int} {s : IS} (x : Int) (w : World) (h : ISt w A B gs gr L most s) :
  Calls Try.prog 62 #[.pointer (some ⟨gs, 0, none⟩), .int .i64 x] w (StPost A B gs gr L most w (.returned (.bool ((failS x s).e != 0))) (failS x s)) :=
  (iFail_g x w h).mono fun _ _ h => h.1
theorem ISt.nobyte {w : World} {A B gs gr : Nat} {L : List UInt8} {most : Int} {s : IS} (h : ISt w A B gs gr L most s) : ∀ off (z : UInt8), w.cell? ⟨gs, off, none⟩ ≠ some (bE z) := by
  obtain ⟨q, n, c, h1, -⟩ := h.ex
  intro off z he
  rw [cell_of_row w gs off _ STT (0, 0) h1] at he
  match off, he with
  | 0, he => simp at he
  | 1, he => simp at he
  | 2, he => simp at he
  | 3, he => simp at he
  | off + 4, he => simp at he
def bitsK (L : List UInt8) (m : Int) (s : IS) : Nat × IS := if s.e = 0 then (rdGetV L s.p m, { s with p := rdGetAt L s.p m, e := rdGetEr L s.p m }) else (0, s)
set_option maxRecDepth 100000 in
set_option maxHeartbeats 4000000 in
theorem iBits_any {A B gs gr : Nat} {L : List UInt8} {most : Int} {s : IS} (m : Int) (w : World) (h : ISt w A B gs gr L most s) (hm : 0 ≤ m ∧ m ≤ 32) :
  Calls Try.prog 57 #[.pointer (some ⟨gs, 0, none⟩), .int .i64 m] w (StPost A B gs gr L most w (.returned (.int .i64 (((bitsK L m s).1 : Nat) : Int))) (bitsK L m s).2) := by
  obtain ⟨q, n, c, c0, c1, c2, c3, f3, -⟩ := h.cells
  by_cases he : s.e = 0
  · have hb : bitsK L m s = (rdGetV L s.p m, { s with p := rdGetAt L s.p m, e := rdGetEr L s.p m }) := by unfold bitsK; rw [if_pos he]
    have hv : rdGetV L s.p m < 4294967296 := by
      unfold rdGetV
      split
      · refine Nat.lt_of_lt_of_le (numF_lt _) ?_
        have : (((ofL L).drop s.p).take m.toNat).length ≤ 32 := by rw [List.length_take]; omega
        exact Nat.le_trans (Nat.pow_le_pow_right (by decide) this) (by decide)
      · decide
    have HB : Hid (bitsK L m s = (rdGetV L s.p m, { s with p := rdGetAt L s.p m, e := rdGetEr L s.p m }) ∧ s.e = 0) := Lib.hid ⟨hb, he⟩
    have HG := Lib.hid (rdGet_any gr L s.p m w h.rd (by omega) (by omega))
    have H := Lib.hid h
    unfold RdGetPost at HG
    rw [he] at c3
    generalize rdGetV L s.p m = v at *
    generalize rdGetEr L s.p m = er at *
    generalize rdGetAt L s.p m = p' at *
    have gv : IntKind.i64.wrap (v : Int) = (v : Int) := IntWalk.i64_in _ (by omega)
    clear hb h he c1 c2 f3 hv
    go_enter Try.func57, Try.ntmps57
    go_wp2_with fail
    refine HG.out.mono ?_
    rintro e w1 ⟨rfl, hr1, hg1⟩
    have H1 := Lib.hid (H.out.moved hr1 hg1)
    clear hr1 hg1 c0 c3
    go_wp2_with fail
    refine (iFail_any er w1 H1.out.1).mono ?_
    rintro e w2 ⟨rfl, h2, k2⟩
    have HF : Hid (ISt w2 A B gs gr L most (bitsK L m s).2 ∧ Chg A w w2 ∧ (bitsK L m s).1 = v) := Lib.hid (by
      rw [HB.out.1]
      refine ⟨?_, H1.out.2.trans k2, rfl⟩
      have : failS er { s with p := p' } = { s with p := p', e := er } := by unfold failS; rw [if_pos HB.out.2]
      rw [this] at h2
      exact h2)
    clear h2 k2
    go_wp2_with fail
    go_ret
    exact ⟨by rw [HF.out.2.2] <;> rfl, HF.out.1, HF.out.2.1⟩
  · have HF : Hid (bitsK L m s = (0, s)) := Lib.hid (by unfold bitsK; rw [if_neg he])
    have H := Lib.hid h
    have heb : (s.e != 0) = true := by simpa using he
    clear h c0 c1 c2
    go_enter Try.func57, Try.ntmps57
    go_wp2_with fail
    go_ret
    rw [HF.out]
    exact ⟨rfl, H.out, Chg.refl _ _⟩
def signK (L : List UInt8) (l : List Int) (s : IS) : Int × IS := if s.e = 0 then ((getS l ((ofL L).drop s.p)).1, { s with p := s.p + (getS l ((ofL L).drop s.p)).2.2, e := (getS l ((ofL L).drop s.p)).2.1 }) else (0, s)
set_option maxRecDepth 100000 in
set_option maxHeartbeats 4000000 in
theorem iSign_any {A B gs gr : Nat} {L : List UInt8} {most : Int} {s : IS} (gc : Nat) (l : List Int) (w : World) (h : ISt w A B gs gr L most s) (hc : CodeOk w gc l) :
  Calls Try.prog 89 #[.pointer (some ⟨gs, 0, none⟩), .pointer (some ⟨gc, 0, none⟩)] w (StPost A B gs gr L most w (.returned (.int .i64 (signK L l s).1)) (signK L l s).2) := by
  obtain ⟨q, n, c, c0, c1, c2, c3, f3, -⟩ := h.cells
  by_cases he : s.e = 0
  · have HB : Hid (signK L l s = ((getS l ((ofL L).drop s.p)).1, { s with p := s.p + (getS l ((ofL L).drop s.p)).2.2, e := (getS l ((ofL L).drop s.p)).2.1 }) ∧ s.e = 0) := Lib.hid ⟨by unfold signK; rw [if_pos he], he⟩
    have HG := Lib.hid (cGet_any gc gr l L s.p w hc h.rd)
    have H := Lib.hid h
    rw [he] at c3
    clear h he c1 c2 f3 hc
    go_enter Try.func89, Try.ntmps89
    go_wp2_with fail
    refine HG.out.mono ?_
    rintro e w1 ⟨rfl, hr1, -, hg1⟩
    have H1 := Lib.hid (H.out.moved hr1 hg1)
    clear hr1 hg1 c0 c3
    generalize getS l ((ofL L).drop s.p) = gt at *
    obtain ⟨v, er, k⟩ := gt
    simp only at *
    go_wp2_with fail
    refine (iFail_any er w1 H1.out.1).mono ?_
    rintro e w2 ⟨rfl, h2, k2⟩
    have HF : Hid (ISt w2 A B gs gr L most (signK L l s).2 ∧ Chg A w w2 ∧ (signK L l s).1 = v) := Lib.hid (by
      rw [HB.out.1]
      refine ⟨?_, H1.out.2.trans k2, rfl⟩
      have : failS er { s with p := s.p + k } = { s with p := s.p + k, e := er } := by unfold failS; rw [if_pos HB.out.2]
      rw [this] at h2
      exact h2)
    clear h2 k2
    go_wp2_with fail
    go_ret
    exact ⟨by rw [HF.out.2.2] <;> rfl, HF.out.1, HF.out.2.1⟩
  · have HF : Hid (signK L l s = (0, s)) := Lib.hid (by unfold signK; rw [if_neg he])
    have H := Lib.hid h
    have heb : (s.e != 0) = true := by simpa using he
    clear h c0 c1 c2 hc
    go_enter Try.func89, Try.ntmps89
    go_wp2_with fail
    go_ret
    rw [HF.out]
    exact ⟨rfl, H.out, Chg.refl _ _⟩
def roomK (most : Int) (n : Int) (s : IS) : Bool := decide (s.e = 0) && decide (n ≤ most - (s.out.length : Int))
set_option maxRecDepth 100000 in
set_option maxHeartbeats 4000000 in
theorem iRoom_any {A B gs gr : Nat} {L : List UInt8} {most : Int} {s : IS} (m : Int) (w : World) (h : ISt w A B gs gr L most s) (hm : 0 ≤ m ∧ m ≤ 100000) (hmost : 0 ≤ most ∧ most ≤ 100000000) :
  Calls Try.prog 86 #[.pointer (some ⟨gs, 0, none⟩), .int .i64 m] w fun e w' => e = .returned (.bool (roomK most m s)) ∧ ∃ k, w' = w.drewN k := by
  obtain ⟨q, n, c, c0, c1, c2, c3, f3, ho⟩ := h.cells
  have hl := ho.len
  have hcm := ho.cap_max
  have hlc := ho.le_cap
  unfold maxLen at hcm
  have HH := Lib.hid (And.intro h hl)
  have hsub : IntKind.i64.wrap (most - (n : Int)) = most - (n : Int) := IntWalk.i64_in _ (by omega)
  by_cases he : s.e = 0
  · have HF : Hid (roomK most m s = decide (m ≤ most - (n : Int))) := Lib.hid (by unfold roomK; rw [HH.out.2, he]; simp)
    rw [he] at c3
    clear h ho hl
    go_enter Try.func86, Try.ntmps86
    go_wp2
    go_quiet (fail)
    go_wp2
    go_ret
    exact ⟨by rw [HF.out] <;> rfl, _, rfl⟩
  · have HF : Hid (roomK most m s = false) := Lib.hid (by unfold roomK; simp [he])
    have heb : (s.e == 0) = false := by simpa using he
    clear h ho hl
    go_enter Try.func86, Try.ntmps86
    go_wp2
    go_quiet (fail)
    go_wp2
    go_ret
    exact ⟨by rw [HF.out] <;> rfl, _, rfl⟩
noncomputable def codeK (l : List Int) (s : IS) : IS := if kindS l = 0 then failS 12 s else s
def CodePost (A B gs gr : Nat) (L : List UInt8) (most : Int) (w : World) (l : List Int) (s : IS) (e : Ending) (w' : World) : Prop :=
  ISt w' A B gs gr L most (codeK l s) ∧ Chg A w w' ∧ ((kindS l = 0 ∧ e = .returned (.pointer none)) ∨ (kindS l ≠ 0 ∧ ∃ gc, e = .returned (.pointer (some ⟨gc, 0, none⟩)) ∧ CodeOk w' gc l))
theorem failS_zero (s : IS) : failS 0 s = s := by
  obtain ⟨p, o, e⟩ := s
  unfold failS
  split
  · rename_i h; simp only at h; subst h; rfl
  · rfl
set_option maxRecDepth 100000 in
set_option maxHeartbeats 4000000 in
theorem iCode_any {A B gs gr : Nat} {L : List UInt8} {most : Int} {s : IS} (a : Option Addr) (n c : Nat) (l : List Int) (w : World) (h : ISt w A B gs gr L most s) (hl : l.length = n) (hn : n ≤ 60000) (hr : Rd w nE a l) :
  Calls Try.prog 91 #[.pointer (some ⟨gs, 0, none⟩), .slice a n c] w (CodePost A B gs gr L most w l s) := by
  have HN := Lib.hid (new_any a n c l w hl hn hr)
  have H := Lib.hid h
  clear h hl hr
  go_enter Try.func91, Try.ntmps91
  go_wp2_with fail
  refine HN.out.mono ?_
  rintro e w1 hp
  obtain ⟨hb1, ⟨hk, rfl⟩ | ⟨hk, gc, hgc, rfl, hc⟩⟩ := hp
  · have H1 := Lib.hid (H.out.below hb1)
    have K1 := Lib.hid (Chg.of_below hb1 H.out.base)
    have HK := Lib.hid hk
    clear hb1 hk
    go_wp2_with fail
    refine (iFail_any 12 w1 H1.out).mono ?_
    rintro e w2 ⟨rfl, h2, k2⟩
    have HF : Hid (CodePost A B gs gr L most w l s (.returned (.pointer none)) w2) := Lib.hid ⟨by unfold codeK; rw [if_pos HK.out]; exact h2, K1.out.trans k2, .inl ⟨HK.out, rfl⟩⟩
    clear h2 k2
    go_wp2_with fail
    go_ret
    exact HF.out
  · have H1 := Lib.hid (H.out.below hb1)
    have K1 := Lib.hid (Chg.of_below hb1 H.out.base)
    have HK := Lib.hid hk
    have HC := Lib.hid hc
    clear hb1 hk hc
    go_wp2_with fail
    refine (iFail_any 0 w1 H1.out).mono ?_
    rintro e w2 ⟨rfl, h2, k2⟩
    rw [failS_zero] at h2
    have HF : Hid (CodePost A B gs gr L most w l s (.returned (.pointer (some ⟨gc, 0, none⟩))) w2) := Lib.hid ⟨by unfold codeK; rw [if_neg HK.out]; exact h2, K1.out.trans k2, .inr ⟨HK.out, gc, rfl, HC.out.keepT k2.keep⟩⟩
    clear h2 k2
    go_wp2_with fail
    go_ret
    exact HF.out
end Go.Proofs.Ytgcdeadfkljeaaa
