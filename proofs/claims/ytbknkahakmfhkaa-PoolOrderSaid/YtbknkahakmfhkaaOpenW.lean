/- Arguments that are slices of raw constants, or a constant's value, opened. -/
import Derived.Test.YtbknkahakmfhkaaOpenS
import Derived.Test.YtbknkahakmfhkaaPooA
namespace Go.Proofs.Ytbknkahakmfhkaa
open Go.ChangeShapes Go.WideShapes Go.ChangeAt Go.RowKit Go.Deep
set_option linter.unusedVariables false
set_option linter.unusedSimpArgs false

section
variable {H : Type} {enc : TypeId × Value → H} {w : World} {d : DataW H} {ps : List MemPlace}
def intOf7 : Value → Int
  | .int _ n => n
  | _ => 0
def strOf7 : Value → ByteArray
  | .string s => s
  | _ => ByteArray.empty
/-- What the lift tells of a slice of raw constants. -/
structure RawsIn (w : World) (a : Option Addr) (n c : Nat) (l : List RawK) : Prop where
  len : l.length = n
  nc : n ≤ c
  cm : c ≤ maxLen
  rd : RdW w a l
  txt : ∀ r ∈ l, r.text.size ≤ maxLen
  bits : ∀ r ∈ l, 0 ≤ r.bits ∧ r.bits < 18446744073709551616
theorem openRaws {t : TypeId} {a : Option Addr} {n c : Nat} (ht : Try.prog.underlying t = some (.slice RAW)) (h : DataW.Trod enc Try.prog w 0 (fun _ => true) true t (.slice a n c) d ps) : ∃ l : List RawK, RawsIn w a n c l := by
  obtain ⟨F, hnc, hcm, hr, hf⟩ := openRows ht Try.underlying111 (by kernel_rfl) (by kernel_rfl) (by decide) h
  have hrow : ∀ i, i < n → ∃ r : RawK, F i 0 = .int .i64 r.tag ∧ F i 1 = .string r.text ∧ F i 2 = .int .u64 r.bits ∧ F i 3 = .int .i64 r.a ∧ F i 4 = .int .i64 r.b ∧ r.text.size ≤ maxLen ∧ 0 ≤ r.bits ∧ r.bits < 18446744073709551616 := by
    intro i hi
    obtain ⟨y0, m0, t0⟩ := hf i 0 _ hi rfl
    obtain ⟨x0, e0, z0⟩ := open_fint Try.underlying3 t0
    obtain ⟨y1, m1, t1⟩ := hf i 1 _ hi rfl
    obtain ⟨x1, e1, -, z1⟩ := DataW.trod_string Try.underlying9 t1
    obtain ⟨y2, m2, t2⟩ := hf i 2 _ hi rfl
    obtain ⟨x2, e2, z2⟩ := open_fint Try.underlying68 t2
    obtain ⟨y3, m3, t3⟩ := hf i 3 _ hi rfl
    obtain ⟨x3, e3, z3⟩ := open_fint Try.underlying3 t3
    obtain ⟨y4, m4, t4⟩ := hf i 4 _ hi rfl
    obtain ⟨x4, e4, z4⟩ := open_fint Try.underlying3 t4
    exact ⟨⟨x0, x1, x2, x3, x4⟩, e0, by simpa using e1, e2, e3, e4, z1, wf_u64R z2⟩
  have hR : ∀ i, i < n → F i 0 = .int .i64 (intOf7 (F i 0)) ∧ F i 1 = .string (strOf7 (F i 1)) ∧ F i 2 = .int .u64 (intOf7 (F i 2)) ∧ F i 3 = .int .i64 (intOf7 (F i 3)) ∧ F i 4 = .int .i64 (intOf7 (F i 4)) ∧ (strOf7 (F i 1)).size ≤ maxLen ∧ 0 ≤ intOf7 (F i 2) ∧ intOf7 (F i 2) < 18446744073709551616 := by
    intro i hi
    obtain ⟨r, e0, e1, e2, e3, e4, h5, h6, h7⟩ := hrow i hi
    rw [e0, e1, e2, e3, e4]
    exact ⟨rfl, rfl, rfl, rfl, rfl, h5, h6, h7⟩
  refine ⟨(List.range n).map (fun i => ⟨intOf7 (F i 0), strOf7 (F i 1), intOf7 (F i 2), intOf7 (F i 3), intOf7 (F i 4)⟩), by simp, hnc, hcm, ?_, ?_, ?_⟩
  · rcases hr with rfl | ⟨b, off, rfl, hc⟩
    · exact .inl rfl
    · refine .inr ⟨b, off, rfl, fun i r hir => ?_⟩
      have hi : i < n := by have := (List.getElem?_eq_some_iff.1 hir).1; simpa using this
      have hr : (⟨intOf7 (F i 0), strOf7 (F i 1), intOf7 (F i 2), intOf7 (F i 3), intOf7 (F i 4)⟩ : RawK) = r := by
        rw [List.getElem?_map, List.getElem?_range hi] at hir
        simpa using hir
      obtain ⟨e0, e1, e2, e3, e4, -⟩ := hR i hi
      have g : ∀ j, j < 5 → w.cell? ⟨b, off + i * 5 + j, none⟩ = some (F i j) := fun j hj => by
        have := hc i j hi hj
        rwa [← Nat.add_assoc] at this
      subst hr
      exact ⟨by rw [← e0]; exact g 0 (by decide), by rw [← e1]; exact g 1 (by decide), by rw [← e2]; exact g 2 (by decide), by rw [← e3]; exact g 3 (by decide), by rw [← e4]; exact g 4 (by decide)⟩
  · intro r hr
    simp only [List.mem_map, List.mem_range] at hr
    obtain ⟨i, hi, rfl⟩ := hr
    exact (hR i hi).2.2.2.2.2.1
  · intro r hr
    simp only [List.mem_map, List.mem_range] at hr
    obtain ⟨i, hi, rfl⟩ := hr
    exact (hR i hi).2.2.2.2.2.2
theorem list_of6 {α : Type} {l : List α} (h : l.length = 6) : ∃ a b c d e f, l = [a, b, c, d, e, f] := by
  match l, h with
  | [a, b, c, d, e, f], _ => exact ⟨a, b, c, d, e, f, rfl⟩
/-- A constant's value. -/
structure ValK where
  tag : Int
  text : ByteArray
  bits : Int
  cls : ByteArray
  name : ByteArray
  desc : ByteArray
def ValK.arr (v : ValK) : Array Value := #[.int .i64 v.tag, .string v.text, .int .u64 v.bits, .string v.cls, .string v.name, .string v.desc]
structure ValK.Ok (v : ValK) : Prop where
  tag : -9223372036854775808 ≤ v.tag ∧ v.tag ≤ 9223372036854775807
  text : v.text.size ≤ maxLen
  bits : 0 ≤ v.bits ∧ v.bits < 18446744073709551616
  cls : v.cls.size ≤ maxLen
  name : v.name.size ≤ maxLen
  desc : v.desc.size ≤ maxLen
theorem openVal {cs : Array Value} (h : DataW.Trod enc Try.prog w 0 (fun _ => true) true 70 (.agg cs) d ps) : ∃ v : ValK, cs = v.arr ∧ v.Ok := by
  obtain ⟨hl, hf⟩ := openStruct Try.underlying70 (by kernel_rfl) (by kernel_rfl) h
  obtain ⟨cl⟩ := cs
  obtain ⟨z0, z1, z2, z3, z4, z5, rfl⟩ := list_of6 hl
  obtain ⟨y0, m0, t0⟩ := hf 0 _ rfl
  obtain ⟨x0, e0, g0⟩ := open_fint Try.underlying3 t0
  obtain ⟨y1, m1, t1⟩ := hf 1 _ rfl
  obtain ⟨x1, e1, -, g1⟩ := DataW.trod_string Try.underlying9 t1
  obtain ⟨y2, m2, t2⟩ := hf 2 _ rfl
  obtain ⟨x2, e2, g2⟩ := open_fint Try.underlying68 t2
  obtain ⟨y3, m3, t3⟩ := hf 3 _ rfl
  obtain ⟨x3, e3, -, g3⟩ := DataW.trod_string Try.underlying9 t3
  obtain ⟨y4, m4, t4⟩ := hf 4 _ rfl
  obtain ⟨x4, e4, -, g4⟩ := DataW.trod_string Try.underlying9 t4
  obtain ⟨y5, m5, t5⟩ := hf 5 _ rfl
  obtain ⟨x5, e5, -, g5⟩ := DataW.trod_string Try.underlying9 t5
  replace e0 : z0 = _ := e0
  replace e1 : z1 = .string x1 := by simpa using e1
  replace e2 : z2 = _ := e2
  replace e3 : z3 = .string x3 := by simpa using e3
  replace e4 : z4 = .string x4 := by simpa using e4
  replace e5 : z5 = .string x5 := by simpa using e5
  subst e0 e1 e2 e3 e4 e5
  exact ⟨⟨x0, x1, x2, x3, x4, x5⟩, rfl, ⟨wf_i64R g0, g1, wf_u64R g2, g3, g4, g5⟩⟩
end
end Go.Proofs.Ytbknkahakmfhkaa
