/- Arguments of a law, opened: integers to their ranges, slices to Rd. -/
import Derived.Test.YtgcdeadfkljeaaaRows
import Derived.Test.YtgcdeadfkljeaaaLib
import Derived.ProofKit
import Derived.OpenShut
import Derived.ShutString
import Derived.ChangeOld
namespace Go.Proofs.Ytgcdeadfkljeaaa
open Go.ChangeShapes Go.WideShapes Go.ChangeAt Go.RowKit
set_option linter.unusedVariables false
set_option linter.unusedSimpArgs false

theorem ownKnobT : ownKnob Try.prog.godebug = none := by kernel_rfl
theorem laidOutT : laidOutB Try.prog = true := by kernel_rfl

theorem wf_u8R {a : Int} (h : (Lit.int .u8 a).wf = true) : 0 ≤ a ∧ a < 256 := by
  simp [Lit.wf, IntKind.min, IntKind.max, IntKind.signed, IntKind.bits] at h; omega
theorem wf_u16R {a : Int} (h : (Lit.int .u16 a).wf = true) : 0 ≤ a ∧ a < 65536 := by
  simp [Lit.wf, IntKind.min, IntKind.max, IntKind.signed, IntKind.bits] at h; omega
theorem wf_u32R {a : Int} (h : (Lit.int .u32 a).wf = true) : 0 ≤ a ∧ a < 4294967296 := by
  simp [Lit.wf, IntKind.min, IntKind.max, IntKind.signed, IntKind.bits] at h; omega
theorem wf_u64R {a : Int} (h : (Lit.int .u64 a).wf = true) : 0 ≤ a ∧ a < 18446744073709551616 := by
  simp [Lit.wf, IntKind.min, IntKind.max, IntKind.signed, IntKind.bits] at h; omega
theorem wf_i64R {a : Int} (h : (Lit.int .i64 a).wf = true) : -9223372036854775808 ≤ a ∧ a ≤ 9223372036854775807 := by
  simp [Lit.wf, IntKind.min, IntKind.max, IntKind.signed, IntKind.bits] at h; omega

section
variable {P : Program} {H : Type} {enc : TypeId × Value → H} {w : World} {t e : TypeId} {a : Option Addr} {n c : Nat} {d : DataW H} {ps : List MemPlace}

theorem openIntsL {k : IntKind} (ht : P.underlying t = some (.slice e)) (he : P.underlying e = some (.int k)) (hc : P.cellsOf e = 1)
    (h : DataW.Trod enc P w 0 (fun _ => true) true t (.slice a n c) d ps) :
    ∃ l : List Int, l.length = n ∧ n ≤ c ∧ c ≤ maxLen ∧ Rd w (fun x => Value.int k x) a l ∧ ∀ x ∈ l, (Lit.int k x).wf = true := by
  obtain ⟨fuel, hf⟩ := h
  rcases open_ints ht he hc hf with ⟨hcs, _⟩ | ⟨x, l, cp, zs, hcs, _, hl, hm, hz, _, hcell, hwz⟩
  · simp [Value.cells] at hcs
    obtain ⟨rfl, rfl, rfl⟩ := hcs
    exact ⟨[], rfl, Nat.le_refl _, Nat.zero_le _, .inl rfl, by simp⟩
  · simp [Value.cells] at hcs
    obtain ⟨rfl, rfl, rfl⟩ := hcs
    have hz : zs.length = c := by simpa using hz
    refine ⟨zs.take n, by simp; omega, hl, hm, ?_, fun y hy => hwz y (List.mem_of_mem_take hy)⟩
    by_cases hn : n = 0
    · subst hn; exact .inl (by simp)
    · obtain ⟨b, off, spot⟩ := x
      have h0 := hcell 0 (by omega)
      have hspot : spot = none := by simpa [Addr.add] using World.cell?_spot h0
      subst hspot
      refine .inr ⟨b, off, rfl, fun j y hj => ?_⟩
      have hjl : j < (zs.take n).length := (List.getElem?_eq_some_iff.1 hj).1
      rw [List.length_take] at hjl
      have := hcell j (by omega)
      rw [Addr.add_lit] at this
      rw [this]
      rw [List.getElem?_take, if_pos (by omega)] at hj
      simp [List.getD, hj]

theorem openBytesL (ht : P.underlying t = some (.slice e)) (he : P.underlying e = some (.int .u8)) (hc : P.cellsOf e = 1)
    (h : DataW.Trod enc P w 0 (fun _ => true) true t (.slice a n c) d ps) :
    ∃ l : List UInt8, l.length = n ∧ n ≤ c ∧ c ≤ maxLen ∧ Rd w (fun b : UInt8 => Value.int .u8 (b.toNat : Int)) a l := by
  obtain ⟨l, hl, hnc, hcm, hr, hw⟩ := openIntsL ht he hc h
  refine ⟨l.map fun x => UInt8.ofNat x.toNat, by simpa using hl, hnc, hcm, ?_⟩
  rcases hr with rfl | ⟨b, off, rfl, hr⟩
  · exact .inl rfl
  · refine .inr ⟨b, off, rfl, fun j y hj => ?_⟩
    rw [List.getElem?_map] at hj
    obtain ⟨x, hx, rfl⟩ := Option.map_eq_some_iff.1 hj
    rw [hr j x hx]
    have := wf_u8R (hw x (List.mem_of_getElem? hx))
    congr 2
    rw [UInt8.toNat_ofNat', Nat.mod_eq_of_lt (by omega)]; omega
end
end Go.Proofs.Ytgcdeadfkljeaaa
