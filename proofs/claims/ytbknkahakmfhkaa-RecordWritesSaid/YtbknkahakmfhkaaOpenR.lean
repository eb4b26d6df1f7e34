/- An argument that is a record, opened. -/
import Derived.Test.YtbknkahakmfhkaaOpenS
import Derived.Test.YtbknkahakmfhkaaRecB
namespace Go.Proofs.Ytbknkahakmfhkaa
open Go.ChangeShapes Go.WideShapes Go.ChangeAt Go.RowKit Go.Deep
set_option linter.unusedVariables false
set_option linter.unusedSimpArgs false

theorem list_of8 {α : Type} {l : List α} (h : l.length = 8) : ∃ a b c d e f g i, l = [a, b, c, d, e, f, g, i] := by
  match l, h with
  | [a, b, c, d, e, f, g, i], _ => exact ⟨a, b, c, d, e, f, g, i, rfl⟩
section
variable {H : Type} {enc : TypeId × Value → H} {w : World} {d : DataW H} {ps : List MemPlace}
theorem openFields {P : Program} {t : TypeId} {fs : Array Field} {cs : List Value} {fuel : Nat} {x : DataW H × List MemPlace} (ht : P.underlying t = some (.struct fs)) (h : DataW.trod enc P w 0 (fun _ => true) true fuel t cs = some x) :
    cs.length = P.cellsOf t ∧ ∀ (j : Nat) (f : Field), fs[j]? = some f → ∃ y k, DataW.trod enc P w 0 (fun _ => true) true k f.type ((cs.drop f.offset).take (P.cellsOf f.type)) = some y := by
  obtain ⟨xs, k', _, _, hl, hxl, hfld⟩ := DataW.trod_struct ht h
  refine ⟨hl, fun j f hj => ?_⟩
  have hjl : j < fs.size := (Array.getElem?_eq_some_iff.1 hj).1
  have hfj := hfld j f hj
  rw [List.getElem?_eq_getElem (by omega)] at hfj
  exact ⟨_, _, hfj⟩
theorem openRec {cs : Array Value} (h : DataW.Trod enc Try.prog w 0 (fun _ => true) true TR (.agg cs) d ps) : ∃ r : Rec, cs = r.arr ∧ r.Ok := by
  have ci : Try.prog.cellsOf 3 = 1 := by kernel_rfl
  have c2 : Try.prog.cellsOf 22 = 1 := by kernel_rfl
  have c4 : Try.prog.cellsOf 25 = 1 := by kernel_rfl
  have cm : Try.prog.cellsOf 24 = 2 := by kernel_rfl
  have cst : Try.prog.cellsOf 9 = 1 := by kernel_rfl
  have cr : Try.prog.cellsOf TR = 8 := by kernel_rfl
  obtain ⟨fuel, hf⟩ := h
  have hc : (Value.agg cs).cells.toList = cs.toList := by simp [Value.cells]
  rw [hc] at hf
  obtain ⟨hl, hfs⟩ := openFields Try.underlying27 hf
  rw [cr] at hl
  obtain ⟨cl⟩ := cs
  obtain ⟨z0, z1, z2, z3, z4, z5, z6, z7, rfl⟩ := list_of8 (l := cl) hl
  obtain ⟨y0, k0, t0⟩ := hfs 0 _ rfl
  replace t0 : DataW.trod enc Try.prog w 0 (fun _ => true) true k0 3 (([z0, z1, z2, z3, z4, z5, z6, z7].drop 0).take (Try.prog.cellsOf 3)) = some y0 := t0
  rw [ci] at t0
  replace t0 : DataW.trod enc Try.prog w 0 (fun _ => true) true k0 3 [z0] = some y0 := t0
  obtain ⟨y1, k1, t1⟩ := hfs 1 _ rfl
  replace t1 : DataW.trod enc Try.prog w 0 (fun _ => true) true k1 24 (([z0, z1, z2, z3, z4, z5, z6, z7].drop 1).take (Try.prog.cellsOf 24)) = some y1 := t1
  rw [cm] at t1
  replace t1 : DataW.trod enc Try.prog w 0 (fun _ => true) true k1 24 [z1, z2] = some y1 := t1
  obtain ⟨y3, k3, t3⟩ := hfs 2 _ rfl
  replace t3 : DataW.trod enc Try.prog w 0 (fun _ => true) true k3 25 (([z0, z1, z2, z3, z4, z5, z6, z7].drop 3).take (Try.prog.cellsOf 25)) = some y3 := t3
  rw [c4] at t3
  replace t3 : DataW.trod enc Try.prog w 0 (fun _ => true) true k3 25 [z3] = some y3 := t3
  obtain ⟨y4, k4, t4⟩ := hfs 3 _ rfl
  replace t4 : DataW.trod enc Try.prog w 0 (fun _ => true) true k4 3 (([z0, z1, z2, z3, z4, z5, z6, z7].drop 4).take (Try.prog.cellsOf 3)) = some y4 := t4
  rw [ci] at t4
  replace t4 : DataW.trod enc Try.prog w 0 (fun _ => true) true k4 3 [z4] = some y4 := t4
  obtain ⟨y5, k5, t5⟩ := hfs 4 _ rfl
  replace t5 : DataW.trod enc Try.prog w 0 (fun _ => true) true k5 3 (([z0, z1, z2, z3, z4, z5, z6, z7].drop 5).take (Try.prog.cellsOf 3)) = some y5 := t5
  rw [ci] at t5
  replace t5 : DataW.trod enc Try.prog w 0 (fun _ => true) true k5 3 [z5] = some y5 := t5
  obtain ⟨y6, k6, t6⟩ := hfs 5 _ rfl
  replace t6 : DataW.trod enc Try.prog w 0 (fun _ => true) true k6 9 (([z0, z1, z2, z3, z4, z5, z6, z7].drop 6).take (Try.prog.cellsOf 9)) = some y6 := t6
  rw [cst] at t6
  replace t6 : DataW.trod enc Try.prog w 0 (fun _ => true) true k6 9 [z6] = some y6 := t6
  obtain ⟨y7, k7, t7⟩ := hfs 6 _ rfl
  replace t7 : DataW.trod enc Try.prog w 0 (fun _ => true) true k7 3 (([z0, z1, z2, z3, z4, z5, z6, z7].drop 7).take (Try.prog.cellsOf 3)) = some y7 := t7
  rw [ci] at t7
  replace t7 : DataW.trod enc Try.prog w 0 (fun _ => true) true k7 3 [z7] = some y7 := t7
  obtain ⟨-, hms⟩ := openFields Try.underlying24 t1
  obtain ⟨ya, ka, ta⟩ := hms 0 _ rfl
  replace ta : DataW.trod enc Try.prog w 0 (fun _ => true) true ka 22 (([z1, z2].drop 0).take (Try.prog.cellsOf 22)) = some ya := ta
  rw [c2] at ta
  replace ta : DataW.trod enc Try.prog w 0 (fun _ => true) true ka 22 [z1] = some ya := ta
  obtain ⟨yb, kb, tb⟩ := hms 1 _ rfl
  replace tb : DataW.trod enc Try.prog w 0 (fun _ => true) true kb 22 (([z1, z2].drop 1).take (Try.prog.cellsOf 22)) = some yb := tb
  rw [c2] at tb
  replace tb : DataW.trod enc Try.prog w 0 (fun _ => true) true kb 22 [z2] = some yb := tb
  obtain ⟨x0, e0, g0⟩ := open_fint Try.underlying3 t0
  obtain ⟨xa, ea, ga⟩ := open_fint Try.underlying22 ta
  obtain ⟨xb, eb, gb⟩ := open_fint Try.underlying22 tb
  obtain ⟨x3, e3, g3⟩ := open_fint Try.underlying25 t3
  obtain ⟨x4, e4, g4⟩ := open_fint Try.underlying3 t4
  obtain ⟨x5, e5, g5⟩ := open_fint Try.underlying3 t5
  obtain ⟨x7, e7, g7⟩ := open_fint Try.underlying3 t7
  obtain ⟨x6, e6, -, -⟩ := DataW.trod_string Try.underlying9 t6
  replace e6 : z6 = .string x6 := by simpa using e6
  subst e0 ea eb e3 e4 e5 e6 e7
  exact ⟨⟨x0, xa, xb, x3, x4, x5, x6, x7⟩, rfl, ⟨wf_u16R ga, wf_u16R gb, wf_u32R g3⟩⟩
end
end Go.Proofs.Ytbknkahakmfhkaa
