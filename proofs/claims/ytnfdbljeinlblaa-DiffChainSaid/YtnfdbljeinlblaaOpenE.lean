/- An argument that is a slice of entries, opened. -/
import Derived.Test.YtnfdbljeinlblaaOpenS
import Derived.Test.YtnfdbljeinlblaaDifB
namespace Go.Proofs.Ytnfdbljeinlblaa
open Go.ChangeShapes Go.WideShapes Go.ChangeAt Go.RowKit Go.Deep
set_option linter.unusedVariables false
set_option linter.unusedSimpArgs false
section
variable {H : Type} {enc : TypeId × Value → H} {w : World} {d : DataW H} {ps : List MemPlace}
theorem openFieldsE {P : Program} {t : TypeId} {fs : Array Field} {cs : List Value} {fuel : Nat} {x : DataW H × List MemPlace} (ht : P.underlying t = some (.struct fs)) (h : DataW.trod enc P w 0 (fun _ => true) true fuel t cs = some x) :
    cs.length = P.cellsOf t ∧ ∀ (j : Nat) (f : Field), fs[j]? = some f → ∃ y k, DataW.trod enc P w 0 (fun _ => true) true k f.type ((cs.drop f.offset).take (P.cellsOf f.type)) = some y := by
  obtain ⟨xs, k', _, _, hl, hxl, hfld⟩ := DataW.trod_struct ht h
  refine ⟨hl, fun j f hj => ?_⟩
  have hjl : j < fs.size := (Array.getElem?_eq_some_iff.1 hj).1
  have hfj := hfld j f hj
  rw [List.getElem?_eq_getElem (by omega)] at hfj
  exact ⟨_, _, hfj⟩
/-- The cells of an entry. -/
def EntV (w : World) (cs : List Value) (e : Ent) : Prop :=
  ∃ p k c, cs = [.string e.na, .int .u16 e.da, .int .u16 e.cl, .slice p k c] ∧ e.dt.length = k ∧ Rd w bE p e.dt ∧ e.na.size ≤ maxLen ∧ e.dt.length ≤ maxLen
theorem openEnt {cs : List Value} {fuel : Nat} {x : DataW H × List MemPlace} (hf : DataW.trod enc Try.prog w 0 (fun _ => true) true fuel 79 cs = some x) : ∃ e : Ent, EntV w cs e := by
  have c2 : Try.prog.cellsOf 75 = 1 := by kernel_rfl
  have cm : Try.prog.cellsOf 77 = 2 := by kernel_rfl
  have cst : Try.prog.cellsOf 9 = 1 := by kernel_rfl
  have csl : Try.prog.cellsOf 32 = 1 := by kernel_rfl
  have cb : Try.prog.cellsOf 5 = 1 := by kernel_rfl
  have cr : Try.prog.cellsOf 79 = 4 := by kernel_rfl
  obtain ⟨hl, hfs⟩ := openFieldsE Try.underlying79 hf
  rw [cr] at hl
  obtain ⟨z0, z1, z2, z3, rfl⟩ := list_of4 hl
  obtain ⟨y0, k0, t0⟩ := hfs 0 _ rfl
  replace t0 : DataW.trod enc Try.prog w 0 (fun _ => true) true k0 9 (([z0, z1, z2, z3].drop 0).take (Try.prog.cellsOf 9)) = some y0 := t0
  rw [cst] at t0
  replace t0 : DataW.trod enc Try.prog w 0 (fun _ => true) true k0 9 [z0] = some y0 := t0
  obtain ⟨y1, k1, t1⟩ := hfs 1 _ rfl
  replace t1 : DataW.trod enc Try.prog w 0 (fun _ => true) true k1 77 (([z0, z1, z2, z3].drop 1).take (Try.prog.cellsOf 77)) = some y1 := t1
  rw [cm] at t1
  replace t1 : DataW.trod enc Try.prog w 0 (fun _ => true) true k1 77 [z1, z2] = some y1 := t1
  obtain ⟨y3, k3, t3⟩ := hfs 2 _ rfl
  replace t3 : DataW.trod enc Try.prog w 0 (fun _ => true) true k3 32 (([z0, z1, z2, z3].drop 3).take (Try.prog.cellsOf 32)) = some y3 := t3
  rw [csl] at t3
  replace t3 : DataW.trod enc Try.prog w 0 (fun _ => true) true k3 32 [z3] = some y3 := t3
  obtain ⟨-, hms⟩ := openFieldsE Try.underlying77 t1
  obtain ⟨ya, ka, ta⟩ := hms 0 _ rfl
  replace ta : DataW.trod enc Try.prog w 0 (fun _ => true) true ka 75 (([z1, z2].drop 0).take (Try.prog.cellsOf 75)) = some ya := ta
  rw [c2] at ta
  replace ta : DataW.trod enc Try.prog w 0 (fun _ => true) true ka 75 [z1] = some ya := ta
  obtain ⟨yb, kb, tb⟩ := hms 1 _ rfl
  replace tb : DataW.trod enc Try.prog w 0 (fun _ => true) true kb 75 (([z1, z2].drop 1).take (Try.prog.cellsOf 75)) = some yb := tb
  rw [c2] at tb
  replace tb : DataW.trod enc Try.prog w 0 (fun _ => true) true kb 75 [z2] = some yb := tb
  obtain ⟨xa, ea, ga⟩ := open_fint Try.underlying75 ta
  obtain ⟨xb, eb, gb⟩ := open_fint Try.underlying75 tb
  obtain ⟨x0, e0, -, g0⟩ := DataW.trod_string Try.underlying9 t0
  replace e0 : z0 = .string x0 := by simpa using e0
  have hv : ∃ a n c, z3 = .slice a n c := by
    rcases open_slice1 Try.underlying32 cb t3 with ⟨h1, _⟩ | ⟨x', l', c', _, _, _, _, _, h1, _⟩
    · simp at h1; exact ⟨_, _, _, h1⟩
    · simp at h1; exact ⟨_, _, _, h1⟩
  obtain ⟨a, n, c, rfl⟩ := hv
  obtain ⟨l, h1, h2, h3, h4⟩ := openBytesL (enc := enc) (w := w) (P := Try.prog) (d := y3.1) (ps := y3.2) Try.underlying32 Try.underlying5 cb (a := a) (n := n) (c := c) ⟨k3, by simpa [Value.cells] using t3⟩
  subst ea eb e0
  exact ⟨⟨x0, xa, xb, l⟩, a, n, c, rfl, h1, h4, g0, by show l.length ≤ maxLen; omega⟩
theorem openEnts {t : TypeId} {a : Option Addr} {n c : Nat} (ht : Try.prog.underlying t = some (.slice 79)) (h : DataW.Trod enc Try.prog w 0 (fun _ => true) true t (.slice a n c) d ps) :
    ∃ es : List Ent, (n ≤ c ∧ c ≤ maxLen) ∧ RdE w a n es ∧ ∀ e ∈ es, e.na.size ≤ maxLen ∧ e.dt.length ≤ maxLen := by
  have cr : Try.prog.cellsOf 79 = 4 := by kernel_rfl
  obtain ⟨fuel, hf⟩ := h
  rcases open_slice ht hf with ⟨hcs, _⟩ | ⟨x, len, cap, m, k, D, Pl, hcs, _, hl, hm, hmm, hx, hi⟩
  · simp [Value.cells] at hcs
    obtain ⟨rfl, rfl, rfl⟩ := hcs
    exact ⟨[], ⟨Nat.le_refl _, Nat.zero_le _⟩, ⟨rfl, fun _ _ => undef, .inl rfl, fun i hi => absurd hi (by simp)⟩, fun e he => by cases he⟩
  · simp [Value.cells] at hcs
    obtain ⟨rfl, rfl, rfl⟩ := hcs
    have hmc : m = c := by simpa using hmm
    subst hmc
    have hrow : ∀ i, i < n → ∃ cs' e, w.cells? 0 (x.add (i * 4)) 4 = some cs' ∧ EntV w cs' e := by
      intro i hin
      obtain ⟨cs', hc, htr⟩ := hi i (by omega)
      rw [cr] at hc
      obtain ⟨e, he⟩ := openEnt htr
      exact ⟨cs', e, hc, he⟩
    have hch : ∀ q, q ≤ n → ∃ es : List Ent, es.length = q ∧ ∀ i (h : i < es.length), ∃ cs', w.cells? 0 (x.add (i * 4)) 4 = some cs' ∧ EntV w cs' es[i] := by
      intro q
      induction q with
      | zero => intro _; exact ⟨[], rfl, fun i h => absurd h (by simp)⟩
      | succ q ih =>
        intro hq
        obtain ⟨es, h1, h2⟩ := ih (by omega)
        obtain ⟨cs', e, h3, h4⟩ := hrow q (by omega)
        refine ⟨es ++ [e], by simp [h1], fun i h => ?_⟩
        by_cases hlt : i < es.length
        · rw [List.getElem_append_left hlt]; exact h2 i hlt
        · have : i = q := by simp at h; omega
          subst this
          rw [List.getElem_append_right (by omega)]
          simp only [h1, Nat.sub_self, List.getElem_cons_zero]
          exact ⟨cs', h3, h4⟩
    obtain ⟨es, h1, h2⟩ := hch n (Nat.le_refl _)
    refine ⟨es, ⟨hl, hm⟩, ⟨h1, fun i j => ((w.cells? 0 (x.add (i * 4)) 4).getD []).getD j undef, ?_, ?_⟩, ?_⟩
    · by_cases hn : n = 0
      · exact .inl hn
      · obtain ⟨cs0, hc0, he0⟩ := h2 0 (by omega)
        obtain ⟨_, hl0, hat0⟩ := World.cells?_some hc0
        obtain ⟨b, off, spot⟩ := x
        have hc1 := hat0 0 (by omega)
        rw [List.getElem?_eq_getElem (by omega)] at hc1
        have hspot : spot = none := by simpa [Addr.add] using World.cell?_spot hc1
        subst hspot
        refine .inr ⟨b, off, rfl, fun i j hin hj => ?_⟩
        obtain ⟨cs', hc, _⟩ := h2 i (by omega)
        obtain ⟨_, hcl, hat⟩ := World.cells?_some hc
        have := hat j hj
        rw [Addr.add_lit, Addr.add_lit, List.getElem?_eq_getElem (by omega)] at this
        rw [Addr.add_lit] at hc
        rw [← Nat.add_assoc, this]
        simp [Addr.add_lit, hc, List.getD, show j < cs'.length by omega]
    · intro i hi'
      obtain ⟨cs', hc, p, k', c', he, h5, h6, _⟩ := h2 i hi'
      simp only [hc, Option.getD_some, he]
      exact ⟨rfl, rfl, rfl, p, k', c', rfl, h5, h6⟩
    · intro e he
      obtain ⟨i, hi', rfl⟩ := List.mem_iff_getElem.1 he
      obtain ⟨cs', hc, p, k', c', he, h5, h6, h7⟩ := h2 i hi'
      exact h7
end
end Go.Proofs.Ytnfdbljeinlblaa
