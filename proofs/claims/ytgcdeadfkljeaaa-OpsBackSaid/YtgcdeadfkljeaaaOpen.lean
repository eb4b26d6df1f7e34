/- Arguments of a law, opened: integers to their ranges, slices to Rd. -/
import Derived.Test.YtgcdeadfkljeaaaRows
import Derived.Test.YtgcdeadfkljeaaaLib
import Derived.ProofKit
import Derived.OpenShut
import Derived.ShutString
import Derived.ChangeOld
import Derived.Deep.Slices
import Derived.Deep.Fields
import Derived.ChangeArms
namespace Go.Proofs.Ytgcdeadfkljeaaa
open Go.ChangeShapes Go.WideShapes Go.ChangeAt Go.RowKit
set_option linter.unusedVariables false
set_option linter.unusedSimpArgs false

theorem ownKnobT : ownKnob Try.prog.godebug = none := by kernel_rfl
theorem laidOutT : laidOutB Try.prog = true := by kernel_rfl

theorem wf_u8R {a : Int} (h : (Lit.int .u8 a).wf = true) : 0 ≤ a ∧ a < 256 := by
  simp [Lit.wf, IntKind.min, IntKind.max, IntKind.signed, IntKind.bits] at h; omega
theorem wf_u16R {a : Int} (h : (Lit.int .u16 a).wf = true) : 0 ≤ a ∧ a < 65536 := by
  simp [Lit.wf, IntKind.min, IntKind.max, IntKind.signed, IntKind.bits] at h; omega
theorem wf_u32R {a : Int} (h : (Lit.int .u32 a).wf = true) : 0 ≤ a ∧ a < 4294967296 := by
  simp [Lit.wf, IntKind.min, IntKind.max, IntKind.signed, IntKind.bits] at h; omega
theorem wf_u64R {a : Int} (h : (Lit.int .u64 a).wf = true) : 0 ≤ a ∧ a < 18446744073709551616 := by
  simp [Lit.wf, IntKind.min, IntKind.max, IntKind.signed, IntKind.bits] at h; omega
theorem wf_i64R {a : Int} (h : (Lit.int .i64 a).wf = true) : -9223372036854775808 ≤ a ∧ a ≤ 9223372036854775807 := by
  simp [Lit.wf, IntKind.min, IntKind.max, IntKind.signed, IntKind.bits] at h; omega

section
variable {P : Program} {H : Type} {enc : TypeId × Value → H} {w : World} {t e : TypeId} {a : Option Addr} {n c : Nat} {d : DataW H} {ps : List MemPlace}

theorem openIntsL {k : IntKind} (ht : P.underlying t = some (.slice e)) (he : P.underlying e = some (.int k)) (hc : P.cellsOf e = 1)
    (h : DataW.Trod enc P w 0 (fun _ => true) true t (.slice a n c) d ps) :
    ∃ l : List Int, l.length = n ∧ n ≤ c ∧ c ≤ maxLen ∧ Rd w (fun x => Value.int k x) a l ∧ ∀ x ∈ l, (Lit.int k x).wf = true := by
  obtain ⟨fuel, hf⟩ := h
  rcases open_ints ht he hc hf with ⟨hcs, _⟩ | ⟨x, l, cp, zs, hcs, _, hl, hm, hz, _, hcell, hwz⟩
  · simp [Value.cells] at hcs
    obtain ⟨rfl, rfl, rfl⟩ := hcs
    exact ⟨[], rfl, Nat.le_refl _, Nat.zero_le _, .inl rfl, by simp⟩
  · simp [Value.cells] at hcs
    obtain ⟨rfl, rfl, rfl⟩ := hcs
    have hz : zs.length = c := by simpa using hz
    refine ⟨zs.take n, by simp; omega, hl, hm, ?_, fun y hy => hwz y (List.mem_of_mem_take hy)⟩
    by_cases hn : n = 0
    · subst hn; exact .inl (by simp)
    · obtain ⟨b, off, spot⟩ := x
      have h0 := hcell 0 (by omega)
      have hspot : spot = none := by simpa [Addr.add] using World.cell?_spot h0
      subst hspot
      refine .inr ⟨b, off, rfl, fun j y hj => ?_⟩
      have hjl : j < (zs.take n).length := (List.getElem?_eq_some_iff.1 hj).1
      rw [List.length_take] at hjl
      have := hcell j (by omega)
      rw [Addr.add_lit] at this
      rw [this]
      rw [List.getElem?_take, if_pos (by omega)] at hj
      simp [List.getD, hj]

theorem openBytesL (ht : P.underlying t = some (.slice e)) (he : P.underlying e = some (.int .u8)) (hc : P.cellsOf e = 1)
    (h : DataW.Trod enc P w 0 (fun _ => true) true t (.slice a n c) d ps) :
    ∃ l : List UInt8, l.length = n ∧ n ≤ c ∧ c ≤ maxLen ∧ Rd w (fun b : UInt8 => Value.int .u8 (b.toNat : Int)) a l := by
  obtain ⟨l, hl, hnc, hcm, hr, hw⟩ := openIntsL ht he hc h
  refine ⟨l.map fun x => UInt8.ofNat x.toNat, by simpa using hl, hnc, hcm, ?_⟩
  rcases hr with rfl | ⟨b, off, rfl, hr⟩
  · exact .inl rfl
  · refine .inr ⟨b, off, rfl, fun j y hj => ?_⟩
    rw [List.getElem?_map] at hj
    obtain ⟨x, hx, rfl⟩ := Option.map_eq_some_iff.1 hj
    rw [hr j x hx]
    have := wf_u8R (hw x (List.mem_of_getElem? hx))
    congr 2
    rw [UInt8.toNat_ofNat', Nat.mod_eq_of_lt (by omega)]; omega
end
end Go.Proofs.Ytgcdeadfkljeaaa
/- Arguments that are slices of structs, opened: each field's cell. -/
namespace Go.Proofs.Ytgcdeadfkljeaaa
open Go.ChangeShapes Go.WideShapes Go.ChangeAt Go.RowKit Go.Deep
set_option linter.unusedVariables false
set_option linter.unusedSimpArgs false

/-- n rows of m cells each: row i's cell j is F i j. -/
def RdN (w : World) (a : Option Addr) (n m : Nat) (F : Nat → Nat → Value) : Prop :=
  n = 0 ∨ ∃ b off, a = some ⟨b, off, none⟩ ∧ ∀ i j, i < n → j < m → w.cell? ⟨b, off + (i * m + j), none⟩ = some (F i j)
theorem RdN.below {w w' : World} {a : Option Addr} {n m : Nat} {F : Nat → Nat → Value} (h : RdN w a n m F) (hb : Below w.heap.size w w') : RdN w' a n m F := by
  rcases h with h | ⟨b, off, rfl, h⟩
  · exact .inl h
  · refine .inr ⟨b, off, rfl, fun i j hi hj => ?_⟩
    have hc := h i j hi hj
    exact (hb.cell (World.block_lt_of_cell? w _ hc)).trans hc
theorem RdN.at {w : World} {a : Option Addr} {n m : Nat} {F : Nat → Nat → Value} (h : RdN w a n m F) {i : Nat} (hi : i < n) : ∃ b off, a = some ⟨b, off, none⟩ ∧ ∀ j, j < m → w.cell? ⟨b, off + (i * m + j), none⟩ = some (F i j) := by
  rcases h with h | ⟨b, off, rfl, h⟩
  · omega
  · exact ⟨b, off, rfl, fun j hj => h i j hi hj⟩

section
variable {P : Program} {H : Type} {enc : TypeId × Value → H} {w : World} {t e : TypeId} {a : Option Addr} {n c : Nat} {d : DataW H} {ps : List MemPlace}
theorem openRows {fs : Array Field} (ht : P.underlying t = some (.slice e)) (he : P.underlying e = some (.struct fs)) (hone : oneCellFields P fs = true) (hC : P.cellsOf e = fs.size) (h0 : 0 < fs.size)
    (h : DataW.Trod enc P w 0 (fun _ => true) true t (.slice a n c) d ps) :
    ∃ F : Nat → Nat → Value, n ≤ c ∧ c ≤ maxLen ∧ RdN w a n fs.size F ∧ ∀ i j f, i < n → fs[j]? = some f → ∃ y k, DataW.trod enc P w 0 (fun _ => true) true k f.type [F i j] = some y := by
  obtain ⟨fuel, hf⟩ := h
  rcases open_slice ht hf with ⟨hcs, _⟩ | ⟨x, len, cap, m, k, D, Pl, hcs, _, hl, hm, hmm, hx, hi⟩
  · simp [Value.cells] at hcs
    obtain ⟨rfl, rfl, rfl⟩ := hcs
    exact ⟨fun _ _ => undef, Nat.le_refl _, Nat.zero_le _, .inl rfl, fun i j f hi => absurd hi (by omega)⟩
  · simp [Value.cells] at hcs
    obtain ⟨rfl, rfl, rfl⟩ := hcs
    have hmc : m = c := by simpa using hmm
    subst hmc
    have hrow : ∀ i, i < n → ∃ cs' : List Value, w.cells? 0 (x.add (i * fs.size)) fs.size = some cs' ∧ cs'.length = fs.size ∧ (∀ j, j < fs.size → w.cell? ((x.add (i * fs.size)).add j) = cs'[j]?) ∧
        ∀ j f, fs[j]? = some f → ∃ y k, DataW.trod enc P w 0 (fun _ => true) true k f.type [cs'.getD j undef] = some y := by
      intro i hin
      obtain ⟨cs', hc, htr⟩ := hi i (by omega)
      rw [hC] at hc
      obtain ⟨_, hcl, hat⟩ := World.cells?_some hc
      obtain ⟨xs, k', _, _, _, hxl, hfld⟩ := DataW.trod_struct he htr
      refine ⟨cs', hc, hcl, hat, fun j f hj => ?_⟩
      obtain ⟨ho, h1⟩ := hone_of hone j f hj
      have hjl : j < fs.size := (Array.getElem?_eq_some_iff.1 hj).1
      have hfj := hfld j f hj
      rw [ho, h1] at hfj
      have hcut : (cs'.drop j).take 1 = [cs'.getD j undef] := by
        have hjc : j < cs'.length := by omega
        have hg : cs'.getD j undef = cs'[j] := by simp [List.getD, hjc]
        rw [hg, List.drop_eq_getElem_cons hjc]
        rfl
      rw [hcut, List.getElem?_eq_getElem (by omega)] at hfj
      exact ⟨_, _, hfj⟩
    refine ⟨fun i j => ((w.cells? 0 (x.add (i * fs.size)) fs.size).getD []).getD j undef, hl, hm, ?_, ?_⟩
    · by_cases hn : n = 0
      · exact .inl hn
      · obtain ⟨cs0, hc0, hl0, hat0, _⟩ := hrow 0 (by omega)
        obtain ⟨b, off, spot⟩ := x
        have hc1 := hat0 0 h0
        rw [List.getElem?_eq_getElem (by omega)] at hc1
        have hspot : spot = none := by simpa [Addr.add] using World.cell?_spot hc1
        subst hspot
        refine .inr ⟨b, off, rfl, fun i j hin hj => ?_⟩
        obtain ⟨cs', hc, hcl, hat, _⟩ := hrow i hin
        have := hat j hj
        rw [Addr.add_lit, Addr.add_lit, List.getElem?_eq_getElem (by omega)] at this
        rw [Addr.add_lit] at hc
        rw [← Nat.add_assoc, this]
        simp [Addr.add_lit, hc, List.getD, show j < cs'.length by omega]
    · intro i j f hin hj
      obtain ⟨cs', hc, _, _, hfld⟩ := hrow i hin
      obtain ⟨y, k', hy⟩ := hfld j f hj
      refine ⟨y, k', ?_⟩
      simp only [hc, Option.getD_some]
      exact hy
theorem openStruct {fs : Array Field} {cs : Array Value} (ht : P.underlying t = some (.struct fs)) (hone : oneCellFields P fs = true) (hC : P.cellsOf t = fs.size)
    (h : DataW.Trod enc P w 0 (fun _ => true) true t (.agg cs) d ps) :
    cs.toList.length = fs.size ∧ ∀ j f, fs[j]? = some f → ∃ y k, DataW.trod enc P w 0 (fun _ => true) true k f.type [cs.toList.getD j undef] = some y := by
  obtain ⟨fuel, hf⟩ := h
  obtain ⟨xs, k', _, _, hl, hxl, hfld⟩ := DataW.trod_struct ht hf
  have hc : (Value.agg cs).cells.toList = cs.toList := by simp [Value.cells]
  rw [hc] at hl hfld
  refine ⟨hl.trans hC, ?_⟩
  intro j f hj
  obtain ⟨ho, h1⟩ := hone_of hone j f hj
  have hjl : j < fs.size := (Array.getElem?_eq_some_iff.1 hj).1
  have hfj := hfld j f hj
  rw [ho, h1, List.getElem?_eq_getElem (by omega)] at hfj
  have hjc : j < cs.toList.length := by omega
  have hg : cs.toList.getD j undef = cs.toList[j] := by simp only [List.getD, List.getElem?_eq_getElem hjc]; rfl
  have hcut : (cs.toList.drop j).take 1 = [cs.toList.getD j undef] := by
    rw [hg, List.drop_eq_getElem_cons hjc]; rfl
  rw [hcut] at hfj
  exact ⟨_, _, hfj⟩
theorem list_of4 {α : Type} {l : List α} (h : l.length = 4) : ∃ a b c d, l = [a, b, c, d] := by
  match l, h with
  | [a, b, c, d], _ => exact ⟨a, b, c, d, rfl⟩
theorem list_of3 {α : Type} {l : List α} (h : l.length = 3) : ∃ a b c, l = [a, b, c] := by
  match l, h with
  | [a, b, c], _ => exact ⟨a, b, c, rfl⟩
theorem list_of2 {α : Type} {l : List α} (h : l.length = 2) : ∃ a b, l = [a, b] := by
  match l, h with
  | [a, b], _ => exact ⟨a, b, rfl⟩
theorem open_fint {t : TypeId} {k : IntKind} {v : Value} {y : DataW H × List MemPlace} {f : Nat} (ht : P.underlying t = some (.int k)) (h : DataW.trod enc P w 0 (fun _ => true) true f t [v] = some y) : ∃ n : Int, v = .int k n ∧ (Lit.int k n).wf = true := by
  obtain ⟨n, h1, _, h3⟩ := DataW.trod_int ht h
  exact ⟨n, by simpa using h1, h3⟩
theorem open_fbool {t : TypeId} {v : Value} {y : DataW H × List MemPlace} {f : Nat} (ht : P.underlying t = some .bool) (h : DataW.trod enc P w 0 (fun _ => true) true f t [v] = some y) : ∃ b : Bool, v = .bool b := by
  obtain ⟨b, h1, _⟩ := DataW.trod_bool ht h
  exact ⟨b, by simpa using h1⟩
end
end Go.Proofs.Ytgcdeadfkljeaaa
