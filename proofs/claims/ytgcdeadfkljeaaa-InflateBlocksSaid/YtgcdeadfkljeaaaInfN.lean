/- The document's State: fail, get, sign. -/
import Derived.Test.YtgcdeadfkljeaaaInfM
import Derived.Test.YtgcdeadfkljeaaaBitRR
import Derived.Test.YtgcdeadfkljeaaaPreM
namespace Go.Proofs.Ytgcdeadfkljeaaa
open Go.RowKit
set_option linter.unusedVariables false
set_option linter.unusedSimpArgs false

abbrev JTT : TypeId := 69
abbrev RRD : TypeId := 67
abbrev SJ : List TypeId := [JTT, RRD, U8T]
theorem RrOk.grown {w w' : World} {g : Nat} {l : List UInt8} {p : Nat} {row : Option Nat} (h : RrOk w g l p) (hg : w.grownBy w' row) (hrow : ∀ k, row = some k → g < k) : RrOk w' g l p := by
  obtain ⟨a, n, c, h1, h2, h3, h4, h5, h6⟩ := h.ex
  exact ⟨a, n, c, h1.grown hg (fun e => by have := hrow g e.symm; omega), h2, h3, h4, h4.2.2.grown h5 hg (fun k hk => Nat.le_of_lt (hrow k hk)), h6⟩
theorem RrOk.blk {w : World} {g : Nat} {l : List UInt8} {p : Nat} (h : RrOk w g l p) : ∃ cs, Blk w g RRD cs := by
  obtain ⟨a, n, c, h1, -⟩ := h.ex; exact ⟨_, h1⟩
theorem RrOk.rf {w : World} {g : Nat} {l : List UInt8} {p : Nat} (h : RrOk w g l p) : RfOk w g (ofL l) p := by
  obtain ⟨a, n, c, h1, h2, h3, h4, h5, h6⟩ := h.ex
  exact ⟨a, n, c, h1, h5, by rw [ofL_length]; exact h2, ⟨h4.2.1, h4.2.2, h3, h4.1⟩, h6⟩
theorem RrOk.of {w : World} {g : Nat} {l : List UInt8} {p : Nat} (h : RfOk w g (ofL l) p) : RrOk w g l p := by
  obtain ⟨a, n, c, h1, h2, h3, h4, h5⟩ := h
  exact ⟨a, n, c, h1, by rw [ofL_length] at h3; exact h3, h4.2.2.1, ⟨h4.2.2.2, h4.1, h4.2.1⟩, h2, h5⟩
/-- What the calls of a state do to the world. -/
structure Chj (A : Nat) (w w' : World) : Prop where
  bel : Below A w w'
  keep : KeepT SJ w w'
theorem Chj.refl (A : Nat) (w : World) : Chj A w w := ⟨Below.refl _ _, KeepT.refl _ _⟩
theorem Chj.trans {A : Nat} {w w' w'' : World} (h : Chj A w w') (k : Chj A w' w'') : Chj A w w'' := ⟨h.bel.trans k.bel, h.keep.trans k.keep⟩
theorem Chj.of_below {A : Nat} {w w' : World} (h : Below w.heap.size w w') (hA : A ≤ w.heap.size) : Chj A w w' := ⟨h.mono hA, KeepT.below h⟩
/-- A state: its reader, what came out, how much may, the error. -/
structure JSt (w : World) (A B gs gr : Nat) (L : List UInt8) (most : Int) (s : IS) : Prop where
  ex : ∃ (q : Option Addr) (n c : Nat), Blk w gs JTT #[.pointer (some ⟨gr, 0, none⟩), .slice q n c, .int .i64 most, .int .i64 s.e] ∧ Own w B U8T bE q n c s.out
  rd : RrOk w gr L s.p
  le : A ≤ gs ∧ A ≤ gr ∧ gs < B ∧ gr < B ∧ gs ≠ gr ∧ B ≤ w.heap.size
section
variable {w w' : World} {A B gs gr : Nat} {L : List UInt8} {most : Int} {s : IS}
theorem JSt.below (h : JSt w A B gs gr L most s) (hb : Below w.heap.size w w') : JSt w' A B gs gr L most s := by
  obtain ⟨q, n, c, h1, h2⟩ := h.ex
  exact ⟨⟨q, n, c, h1.below hb, h2.below hb⟩, h.rd.below hb, h.le.1, h.le.2.1, h.le.2.2.1, h.le.2.2.2.1, h.le.2.2.2.2.1, Nat.le_trans h.le.2.2.2.2.2 hb.size⟩
theorem JSt.moved (h : JSt w A B gs gr L most s) {p : Nat} (hr : RrOk w' gr L p) (hg : w.grownBy w' (some gr)) : JSt w' A B gs gr L most { s with p := p } ∧ Chj A w w' := by
  obtain ⟨q, n, c, h1, h2⟩ := h.ex
  obtain ⟨cs, hrb⟩ := h.rd.blk
  have hle := h.le
  refine ⟨⟨⟨q, n, c, h1.grown hg (fun e => by have := Option.some.inj e; omega), h2.grown hg (fun k hk e => by have := Option.some.inj e; have := own_far h2 h.le.2.2.2.1 k (by rw [hk]; rfl); omega)⟩, hr, h.le.1, h.le.2.1, h.le.2.2.1, h.le.2.2.2.1, h.le.2.2.2.2.1, Nat.le_trans h.le.2.2.2.2.2 hg.size⟩, ?_, KeepT.one hrb (by decide) hg⟩
  exact (Below.refl _ _).grown hg (by omega) (fun k hk => by have := Option.some.inj hk; omega)
theorem JSt.set (h : JSt w A B gs gr L most s) {i : Nat} {v : Value} : w.grownBy (w.setCell ⟨gs, i, none⟩ v) (some gs) ∧ Chj A w (w.setCell ⟨gs, i, none⟩ v) := by
  obtain ⟨q, n, c, h1, h2⟩ := h.ex
  have hg := grownBy_setCell w ⟨gs, i, none⟩ v
  have hle := h.le
  exact ⟨hg, (Below.refl _ _).grown hg (by omega) (fun k hk => by have := Option.some.inj hk; simp only at this; omega), KeepT.one h1 (by decide) hg⟩
theorem JSt.setE (h : JSt w A B gs gr L most s) (x : Int) : JSt (w.setCell ⟨gs, 3, none⟩ (.int .i64 x)) A B gs gr L most { s with e := x } := by
  obtain ⟨q, n, c, h1, h2⟩ := h.ex
  have hg := grownBy_setCell w ⟨gs, 3, none⟩ (.int .i64 x)
  have hle := h.le
  have hr := h.rd
  refine ⟨⟨q, n, c, h1.setCell 3 (.int .i64 x), h2.grown hg (fun k hk e => by have := Option.some.inj e; have := own_far h2 h.le.2.2.1 k (by rw [hk]; rfl); simp only at *; omega)⟩, ?_, h.le.1, h.le.2.1, h.le.2.2.1, h.le.2.2.2.1, h.le.2.2.2.2.1, Nat.le_trans h.le.2.2.2.2.2 hg.size⟩
  obtain ⟨a, m, d, g1, g2, g3, g4, g5, g6⟩ := h.rd.ex
  refine ⟨a, m, d, g1.grown hg (fun e => by have := Option.some.inj e; simp only at this; omega), g2, g3, g4, ?_, g6⟩
  refine g5.bkeep (bkeep_of_grown hg (fun off z he => ?_))
  rw [cell_of_row w gs off _ JTT (0, 0) h1] at he
  match off, he with
  | 0, he => simp at he
  | 1, he => simp at he
  | 2, he => simp at he
  | 3, he => simp at he
  | off + 4, he => simp at he
theorem JSt.base (h : JSt w A B gs gr L most s) : A ≤ w.heap.size := by have := h.le; omega
theorem JSt.cells (h : JSt w A B gs gr L most s) : ∃ (q : Option Addr) (n c : Nat), w.cell? ⟨gs, 0, none⟩ = some (.pointer (some ⟨gr, 0, none⟩)) ∧ w.cell? ⟨gs, 1, none⟩ = some (.slice q n c) ∧ w.cell? ⟨gs, 2, none⟩ = some (.int .i64 most) ∧ w.cell? ⟨gs, 3, none⟩ = some (.int .i64 s.e) ∧ w.frozen? ⟨gs, 3, none⟩ = false ∧ Own w B U8T bE q n c s.out := by
  obtain ⟨q, n, c, h1, h2⟩ := h.ex
  exact ⟨q, n, c, h1.cell (i := 0) rfl, h1.cell (i := 1) rfl, h1.cell (i := 2) rfl, h1.cell (i := 3) rfl, h1.frozen 3, h2⟩
end
def SjPost (A B gs gr : Nat) (L : List UInt8) (most : Int) (w : World) (v : Ending) (s : IS) (e : Ending) (w' : World) : Prop := e = v ∧ JSt w' A B gs gr L most s ∧ Chj A w w'
set_option maxRecDepth 100000 in
set_option maxHeartbeats 4000000 in
theorem jFail_g {A B gs gr : Nat} {L : List UInt8} {most : Int} {s : IS} (x : Int) (w : World) (h : JSt w A B gs gr L most s) :
  Calls Try.prog 34 #[.pointer (some ⟨gs, 0, none⟩), .int .i64 x] w fun e w' => SjPost A B gs gr L most w (.returned (.tuple #[])) (failS x s) e w' ∧ w.grownBy w' (some gs) := by
  obtain ⟨q, n, c, c0, c1, c2, c3, f3, -⟩ := h.cells
  by_cases he : s.e = 0
  · have hf : failS x s = { s with e := x } := by unfold failS; rw [if_pos he]
    have HF : Hid (JSt (w.setCell ⟨gs, 3, none⟩ (.int .i64 x)) A B gs gr L most (failS x s) ∧ Chj A w (w.setCell ⟨gs, 3, none⟩ (.int .i64 x)) ∧ (failS x s).e = x ∧ w.grownBy (w.setCell ⟨gs, 3, none⟩ (.int .i64 x)) (some gs)) := Lib.hid (by rw [hf]; exact ⟨h.setE x, h.set.2, rfl, h.set.1⟩)
    rw [he] at c3
    clear hf h he c0 c1 c2
    go_enter Try.func34, Try.ntmps34
    go_wp2_with fail
    go_end0
    exact ⟨⟨rfl, HF.out.1, HF.out.2.1⟩, HF.out.2.2.2⟩
  · have hf : failS x s = s := by unfold failS; rw [if_neg he]
    have HF : Hid (failS x s = s) := Lib.hid hf
    have H := Lib.hid h
    have heb : (s.e == 0) = false := by simpa using he
    clear hf h c0 c1 c2
    go_enter Try.func34, Try.ntmps34
    go_wp2_with fail
    go_end0
    rw [HF.out]
    exact ⟨⟨rfl, H.out, Chj.refl _ _⟩, World.grownBy.refl _ _⟩
theorem jFail_any {A B gs gr : Nat} {L : List UInt8} {most : Int} {s : IS} (x : Int) (w : World) (h : JSt w A B gs gr L most s) :
  Calls Try.prog 34 #[.pointer (some ⟨gs, 0, none⟩), .int .i64 x] w (SjPost A B gs gr L most w (.returned (.tuple #[])) (failS x s)) :=
  (jFail_g x w h).mono fun _ _ h => h.1
theorem JSt.nobyte {w : World} {A B gs gr : Nat} {L : List UInt8} {most : Int} {s : IS} (h : JSt w A B gs gr L most s) : ∀ off (z : UInt8), w.cell? ⟨gs, off, none⟩ ≠ some (bE z) := by
  obtain ⟨q, n, c, h1, -⟩ := h.ex
  intro off z he
  rw [cell_of_row w gs off _ JTT (0, 0) h1] at he
  match off, he with
  | 0, he => simp at he
  | 1, he => simp at he
  | 2, he => simp at he
  | 3, he => simp at he
  | off + 4, he => simp at he
set_option maxRecDepth 100000 in
set_option maxHeartbeats 4000000 in
theorem jGet_any {A B gs gr : Nat} {L : List UInt8} {most : Int} {s : IS} (m : Int) (w : World) (h : JSt w A B gs gr L most s) (hm : 0 ≤ m ∧ m ≤ 32) :
  Calls Try.prog 29 #[.pointer (some ⟨gs, 0, none⟩), .int .i64 m] w (SjPost A B gs gr L most w (.returned (.int .i64 (((bitsK L m s).1 : Nat) : Int))) (bitsK L m s).2) := by
  obtain ⟨q, n, c, c0, c1, c2, c3, f3, -⟩ := h.cells
  by_cases he : s.e = 0
  · have hb : bitsK L m s = (rdGetV L s.p m, { s with p := rdGetAt L s.p m, e := rdGetEr L s.p m }) := by unfold bitsK; rw [if_pos he]
    have hv : rdGetV L s.p m < 4294967296 := by
      unfold rdGetV
      split
      · refine Nat.lt_of_lt_of_le (numF_lt _) ?_
        have : (((ofL L).drop s.p).take m.toNat).length ≤ 32 := by rw [List.length_take]; omega
        exact Nat.le_trans (Nat.pow_le_pow_right (by decide) this) (by decide)
      · decide
    have HB : Hid (bitsK L m s = (rdGetV L s.p m, { s with p := rdGetAt L s.p m, e := rdGetEr L s.p m }) ∧ s.e = 0) := Lib.hid ⟨hb, he⟩
    have HG := Lib.hid (rrGet_any gr L s.p m w h.rd (by omega) (by omega))
    have H := Lib.hid h
    unfold RrGetPost at HG
    rw [he] at c3
    generalize rdGetV L s.p m = v at *
    generalize rdGetEr L s.p m = er at *
    generalize rdGetAt L s.p m = p' at *
    have gv : IntKind.i64.wrap (v : Int) = (v : Int) := IntWalk.i64_in _ (by omega)
    clear hb h he c1 c2 f3 hv
    go_enter Try.func29, Try.ntmps29
    go_wp2_with fail
    refine HG.out.mono ?_
    rintro e w1 ⟨rfl, hr1, hg1⟩
    have H1 := Lib.hid (H.out.moved hr1 hg1)
    clear hr1 hg1 c0 c3
    go_wp2_with fail
    refine (jFail_any er w1 H1.out.1).mono ?_
    rintro e w2 ⟨rfl, h2, k2⟩
    have HF : Hid (JSt w2 A B gs gr L most (bitsK L m s).2 ∧ Chj A w w2 ∧ (bitsK L m s).1 = v) := Lib.hid (by
      rw [HB.out.1]
      refine ⟨?_, H1.out.2.trans k2, rfl⟩
      have : failS er { s with p := p' } = { s with p := p', e := er } := by unfold failS; rw [if_pos HB.out.2]
      rw [this] at h2
      exact h2)
    clear h2 k2
    go_wp2_with fail
    go_ret
    exact ⟨by rw [HF.out.2.2] <;> rfl, HF.out.1, HF.out.2.1⟩
  · have HF : Hid (bitsK L m s = (0, s)) := Lib.hid (by unfold bitsK; rw [if_neg he])
    have H := Lib.hid h
    have heb : (s.e != 0) = true := by simpa using he
    clear h c0 c1 c2
    go_enter Try.func29, Try.ntmps29
    go_wp2_with fail
    go_ret
    rw [HF.out]
    exact ⟨rfl, H.out, Chj.refl _ _⟩
theorem rd_map {α β : Type} {w : World} {E : β → Value} {f : α → β} {a : Option Addr} {l : List α} (h : Rd w E a (l.map f)) : Rd w (fun x => E (f x)) a l := by
  rcases h with h | ⟨b, off, rfl, h⟩
  · exact .inl (List.map_eq_nil_iff.1 h)
  · exact .inr ⟨b, off, rfl, fun j x hj => h j (f x) (by rw [List.getElem?_map, hj]; rfl)⟩
theorem rws_le {l : List Int} (hk : kindS l ≠ 0) : ∀ x ∈ rwsL l, x.length ≤ 15 := by
  intro x hx
  obtain ⟨i, hi, rfl⟩ := List.mem_iff_getElem.1 hx
  rw [rwsL_get, rwv_len]
  by_cases h : i < l.length
  · have := kindS_valid hk (l.getD i 0) (by rw [List.getD_eq_getElem?_getD, List.getElem?_eq_getElem h]; exact List.getElem_mem _)
    omega
  · rw [List.getD_eq_getElem?_getD, List.getElem?_eq_none (by omega)]; decide
set_option maxRecDepth 100000 in
set_option maxHeartbeats 4000000 in
theorem jSign_any {A B gs gr : Nat} {L : List UInt8} {most : Int} {s : IS} (a : Option Addr) (n c : Nat) (l : List Int) (w : World) (h : JSt w A B gs gr L most s) (hl : s.e = 0 → l.length = n ∧ n ≤ 60000 ∧ kindS l ≠ 0 ∧ Rd w Value.string a ((rwsL l).map sB)) :
  Calls Try.prog 67 #[.pointer (some ⟨gs, 0, none⟩), .slice a n c] w (SjPost A B gs gr L most w (.returned (.int .i64 (signK L l s).1)) (signK L l s).2) := by
  obtain ⟨q, n0, c9, c0, c1, c2, c3, f3, -⟩ := h.cells
  by_cases he : s.e = 0
  · have HB : Hid (signK L l s = ((getS l ((ofL L).drop s.p)).1, { s with p := s.p + (getS l ((ofL L).drop s.p)).2.2, e := (getS l ((ofL L).drop s.p)).2.1 }) ∧ s.e = 0) := Lib.hid ⟨by unfold signK; rw [if_pos he], he⟩
    obtain ⟨hl1, hl2, hl3, hl4⟩ := hl he
    have HG := Lib.hid (rGet_any a n c gr (rwsL l) (ofL L) s.p w (by rw [rwsL_length]; exact hl1) hl2 (rd_map hl4) (rws_le hl3) h.rd.rf)
    have HRG := Lib.hid (ref_get hl3 ((ofL L).drop s.p))
    have H := Lib.hid h
    rw [he] at c3
    clear h he c1 c2 f3 hl hl1 hl2 hl3 hl4
    go_enter Try.func67, Try.ntmps67
    go_wp2_with fail
    refine HG.out.mono ?_
    rintro e w1 ⟨rfl, hr1, hg1⟩
    rw [HRG.out] at hr1 ⊢
    have H1 := Lib.hid (H.out.moved (RrOk.of hr1) hg1)
    clear HRG
    clear hr1 hg1 c0 c3 HG
    generalize getS l ((ofL L).drop s.p) = gt at *
    obtain ⟨v, er, k⟩ := gt
    simp only at *
    go_wp2_with fail
    refine (jFail_any er w1 H1.out.1).mono ?_
    rintro e w2 ⟨rfl, h2, k2⟩
    have HF : Hid (JSt w2 A B gs gr L most (signK L l s).2 ∧ Chj A w w2 ∧ (signK L l s).1 = v) := Lib.hid (by
      rw [HB.out.1]
      refine ⟨?_, H1.out.2.trans k2, rfl⟩
      have : failS er { s with p := s.p + k } = { s with p := s.p + k, e := er } := by unfold failS; rw [if_pos HB.out.2]
      rw [this] at h2
      exact h2)
    clear h2 k2
    go_wp2_with fail
    go_ret
    exact ⟨by rw [HF.out.2.2] <;> rfl, HF.out.1, HF.out.2.1⟩
  · have HF : Hid (signK L l s = (0, s)) := Lib.hid (by unfold signK; rw [if_neg he])
    have H := Lib.hid h
    have heb : (s.e != 0) = true := by simpa using he
    clear h c0 c1 c2 hl
    go_enter Try.func67, Try.ntmps67
    go_wp2_with fail
    go_ret
    rw [HF.out]
    exact ⟨rfl, H.out, Chj.refl _ _⟩
section
variable {w w' w1 : World} {A B gs gr : Nat} {L : List UInt8} {most : Int} {s : IS} {q q' : Option Addr} {n c n' c' : Nat} {out' : List UInt8}
/-- More came out. -/
theorem JSt.pushed (h : JSt w A B gs gr L most s) (hb : Blk w gs JTT #[.pointer (some ⟨gr, 0, none⟩), .slice q n c, .int .i64 most, .int .i64 s.e]) (ho : Own w B U8T bE q n c s.out)
    (h1 : Own w1 B U8T bE q' n' c' out') (hg : w.grownBy w1 (Value.slice q n c).ownBlock) :
    JSt (w1.setCell ⟨gs, 1, none⟩ (.slice q' n' c')) A B gs gr L most { s with out := out' } ∧ Chj A w (w1.setCell ⟨gs, 1, none⟩ (.slice q' n' c')) := by
  have hle := h.le
  have hb1 : Blk w1 gs JTT #[.pointer (some ⟨gr, 0, none⟩), .slice q n c, .int .i64 most, .int .i64 s.e] := hb.grown hg (fun e => by have := own_far ho h.le.2.2.1 gs e.symm; omega)
  have hr1 := h.rd.grown hg (own_far ho h.le.2.2.2.1)
  have hg2 := grownBy_setCell w1 ⟨gs, 1, none⟩ (.slice q' n' c')
  have hr2 : RrOk (w1.setCell ⟨gs, 1, none⟩ (.slice q' n' c')) gr L s.p := by
    obtain ⟨a, m, d, g1, g2, g3, g4, g5, g6⟩ := hr1.ex
    refine ⟨a, m, d, g1.grown hg2 (fun e => by have := Option.some.inj e; simp only at this; omega), g2, g3, g4, ?_, g6⟩
    refine g5.bkeep (bkeep_of_grown hg2 (fun off z he => ?_))
    rw [cell_of_row w1 gs off _ JTT (0, 0) hb1] at he
    match off, he with
    | 0, he => simp at he
    | 1, he => simp at he
    | 2, he => simp at he
    | 3, he => simp at he
    | off + 4, he => simp at he
  have hBl1 : Below A w w1 := (Below.refl _ _).grown hg h.base (fun k hk => by have := (ho.1.lt k hk).1; omega)
  refine ⟨⟨⟨q', n', c', hb1.setCell 1 (.slice q' n' c'), h1.grown hg2 (fun k hk e => by have := Option.some.inj e; have := own_far h1 h.le.2.2.1 k (by rw [hk]; rfl); simp only at *; omega)⟩, hr2, h.le.1, h.le.2.1, h.le.2.2.1, h.le.2.2.2.1, h.le.2.2.2.2.1, Nat.le_trans h.le.2.2.2.2.2 (Nat.le_trans hg.size hg2.size)⟩, ?_, ?_⟩
  · exact hBl1.grown hg2 (Nat.le_trans h.base hg.size) (fun k hk => by have := Option.some.inj hk; simp only at this; omega)
  · exact (KeepT.own ho (by decide) hg).trans (KeepT.one hb1 (by decide) hg2)
end
theorem Chj.young {A : Nat} {w0 w w' : World} {row : Option Nat} (h : Chj A w0 w) (hg : w.grownBy w' row) (hA : A ≤ w0.heap.size) (hr : ∀ k, row = some k → w0.heap.size ≤ k) : Chj A w0 w' := by
  refine ⟨h.bel.grown hg (Nat.le_trans hA h.bel.size) (fun k hk => Nat.le_trans hA (hr k hk)), fun q cs T fr h1 hq => ?_⟩
  have h2 := h.keep q cs T fr h1 hq
  have h3 := (Array.getElem?_eq_some_iff.1 hq).1
  exact (hg.block q (Array.getElem?_eq_some_iff.1 h2).1 (fun e => by have := hr q e.symm; omega)).trans h2
theorem JSt.keepInt {w w' : World} {A B gs gr B2 n c : Nat} {L : List UInt8} {most : Int} {s : IS} {p : Option Addr} {acc : List Int} (h : JSt w A B gs gr L most s) (ho : Own w B2 3 nE p n c acc) (hB : B ≤ B2) (hg : w.grownBy w' (Value.slice p n c).ownBlock) : JSt w' A B gs gr L most s := by
  have hk : KeepT [3] w w' := KeepT.own ho (by decide) hg
  obtain ⟨q, m, d, h1, h2⟩ := h.ex
  have hle := h.le
  exact ⟨⟨q, m, d, hk.blk h1 (by decide), hk.ownR h2 (by decide)⟩, h.rd.grown hg (own_far ho (by omega)), h.le.1, h.le.2.1, h.le.2.2.1, h.le.2.2.2.1, h.le.2.2.2.2.1, Nat.le_trans h.le.2.2.2.2.2 hg.size⟩
theorem JSt.other {w w' : World} {A B gs gr g : Nat} {L : List UInt8} {most : Int} {s : IS} {T : TypeId} {cs : Array Value} (h : JSt w A B gs gr L most s) (hb : Blk w g T cs) (h1 : JTT ≠ T) (h2 : U8T ≠ T) (hB : B ≤ g) (hg : w.grownBy w' (some g)) : JSt w' A B gs gr L most s := by
  have hk : KeepT [T] w w' := KeepT.one hb (by simp) hg
  obtain ⟨q, m, d, g1, g2⟩ := h.ex
  have hle := h.le
  exact ⟨⟨q, m, d, hk.blk g1 (by simpa using h1), hk.ownR g2 (by simpa using h2)⟩, h.rd.grown hg (fun k hk => by have := Option.some.inj hk; omega), h.le.1, h.le.2.1, h.le.2.2.1, h.le.2.2.2.1, h.le.2.2.2.2.1, Nat.le_trans h.le.2.2.2.2.2 hg.size⟩
end Go.Proofs.Ytgcdeadfkljeaaa
