/- The walks of package crc's inner functions: Table, Add, Sum. -/
import Derived.Test.YtgcdeadfkljeaaaRows
import Derived.Test.YtgcdeadfkljeaaaLib
namespace Go.Proofs.Ytgcdeadfkljeaaa
open Go.RowKit
set_option linter.unusedVariables false
set_option linter.unusedSimpArgs false

def nextI (a : Int) : Int := if (bits .and .u32 a 1 == 1) = true then bits .xor .u32 (a / 2) 3988292384 else a / 2
theorem nextI_t {a : Int} (h : (bits .and .u32 a 1 == 1) = true) : bits .xor .u32 (a / 2) 3988292384 = nextI a := by unfold nextI; rw [if_pos h]
theorem nextI_f {a : Int} (h : (bits .and .u32 a 1 == 1) = false) : a / 2 = nextI a := by unfold nextI; rw [h]; simp
theorem nextI_range {a : Int} (h : 0 ≤ a ∧ a < 4294967296) : 0 ≤ nextI a ∧ nextI a < 4294967296 := by
  unfold nextI; split
  · exact bits_range_u32 _ _ _
  · omega

/-- n steps. -/
def nextN : Nat → Int → Int
  | 0, v => v
  | n+1, v => nextN n (nextI v)
def tabI (i : Int) : Int := nextN 8 i
def tabCs (k : Nat) : Array Value := ((List.range 256).map fun i => if i < k then Value.int .u32 (tabI i) else .int .u32 0).toArray
theorem tabCs_size (k : Nat) : (tabCs k).size = 256 := by simp [tabCs]
theorem tabCs_zero : Array.replicate 256 (Value.int .u32 0) = tabCs 0 := by
  apply Array.ext'
  simp only [tabCs, Nat.not_lt_zero, if_false, Array.toList_replicate]
  rw [List.map_const']; simp
theorem tabCs_set (k : Nat) (h : k < 256) : (tabCs k).setIfInBounds k (.int .u32 (tabI k)) = tabCs (k + 1) := by
  apply Array.ext'
  apply List.ext_getElem?
  intro i
  simp only [tabCs, Array.toList_setIfInBounds, List.getElem?_set, List.length_map, List.length_range, List.getElem?_map, List.getElem?_range]
  by_cases hi : k = i
  · subst hi; simp [h, List.getElem?_range]
  · by_cases h2 : i < 256
    · simp [hi, h2, List.getElem?_range]
      by_cases h3 : i < k
      · rw [if_pos h3, if_pos (by omega)]
      · rw [if_neg h3, if_neg (by omega)]
    · simp [hi, h2, List.getElem?_range]
theorem tabCs_get (k i : Nat) (h : i < 256) : (tabCs k)[i]? = some (if i < k then .int .u32 (tabI i) else .int .u32 0) := by
  simp [tabCs, List.getElem?_range, h]
theorem tabCs_at (i : Nat) (h : i < 256) : (tabCs 256)[i]? = some (.int .u32 (tabI i)) := by
  rw [tabCs_get 256 i h, if_pos h]
theorem tabCs_one (k : Nat) : ∀ u ∈ (tabCs k).toList, u.oneCell' = true := by
  intro u hu
  simp only [tabCs, List.mem_map] at hu
  obtain ⟨i, _, rfl⟩ := hu
  split <;> rfl

theorem nextN_succ (n : Nat) (v : Int) : nextN (n + 1) v = nextN n (nextI v) := rfl

def crcStep (v : Int) (c : UInt8) : Int := bits .xor .u32 (v / 256) (tabI (bits .xor .u8 (v % 256) (c.toNat : Int)))
def notI (v : Int) : Int := bits .xor .u32 4294967295 v
def crcRun (v : Int) (l : List UInt8) : Int := l.foldl crcStep v
def crcAddI (sum : Int) (l : List UInt8) : Int := notI (crcRun (notI sum) l)
def crcSumI (l : List UInt8) : Int := crcAddI 0 l
theorem notI_range (v : Int) : 0 ≤ notI v ∧ notI v < 4294967296 := bits_range_u32 _ _ _
theorem crcStep_range (v : Int) (c : UInt8) : 0 ≤ crcStep v c ∧ crcStep v c < 4294967296 := bits_range_u32 _ _ _
theorem crcRun_range (v : Int) (l : List UInt8) (h : 0 ≤ v ∧ v < 4294967296) : 0 ≤ crcRun v l ∧ crcRun v l < 4294967296 := by
  induction l generalizing v with
  | nil => exact h
  | cons c l ih => exact ih _ (crcStep_range v c)
theorem crcRun_take (v : Int) (l : List UInt8) (k : Nat) (h : k < l.length) : crcRun v (l.take (k + 1)) = crcStep (crcRun v (l.take k)) l[k] := by
  rw [List.take_succ_eq_append_getElem h]; simp only [crcRun, List.foldl_append, List.foldl_cons, List.foldl_nil]
theorem crcAddI_range (v : Int) (l : List UInt8) : 0 ≤ crcAddI v l ∧ crcAddI v l < 4294967296 := notI_range _
theorem crcSumI_range (l : List UInt8) : 0 ≤ crcSumI l ∧ crcSumI l < 4294967296 := notI_range _

abbrev byteV (b : UInt8) : Value := .int .u8 (b.toNat : Int)

end Go.Proofs.Ytgcdeadfkljeaaa
/- Numbers of 32 bits as bit vectors; one step of the sum. -/
namespace Go.Proofs.Ytgcdeadfkljeaaa
open Go.RowKit
set_option linter.unusedVariables false
set_option linter.unusedSimpArgs false

abbrev B32 := BitVec 32
def polyB : B32 := 3988292384#32
def nextB (x : B32) : B32 := if x.getLsbD 0 then (x >>> 1) ^^^ polyB else x >>> 1

theorem toI_range (x : B32) : 0 ≤ (x.toNat : Int) ∧ (x.toNat : Int) < 4294967296 := by have := x.isLt; omega
theorem ofI (a : Int) (h : 0 ≤ a ∧ a < 4294967296) : ∃ x : B32, a = (x.toNat : Int) := by
  refine ⟨BitVec.ofNat 32 a.toNat, ?_⟩
  rw [BitVec.toNat_ofNat, Nat.mod_eq_of_lt (by omega)]; omega
theorem xorI (x y : B32) : bits .xor .u32 (x.toNat : Int) (y.toNat : Int) = ((x ^^^ y).toNat : Int) := by
  rw [u32_xor_nat _ _ x.isLt y.isLt, BitVec.toNat_xor]
theorem andI (x y : B32) : bits .and .u32 (x.toNat : Int) (y.toNat : Int) = ((x &&& y).toNat : Int) := by
  rw [u32_and_nat _ _ x.isLt y.isLt, BitVec.toNat_and]
theorem and1I (x : B32) : bits .and .u32 (x.toNat : Int) 1 = ((x.toNat % 2 : Nat) : Int) := by
  have := u32_and_nat x.toNat 1 x.isLt (by omega)
  rw [Nat.and_one_is_mod] at this; exact this
theorem lsb0 (x : B32) : x.getLsbD 0 = (x.toNat % 2 == 1) := by
  rw [BitVec.getLsbD, Nat.testBit_zero]
  by_cases h : x.toNat % 2 = 1 <;> simp [h]
theorem half_toNat (x : B32) : ((x >>> 1).toNat : Int) = (x.toNat : Int) / 2 := by
  rw [BitVec.toNat_ushiftRight, Nat.shiftRight_eq_div_pow]; simp
theorem nextI_B (x : B32) : nextI (x.toNat : Int) = ((nextB x).toNat : Int) := by
  unfold nextI nextB
  rw [and1I, lsb0]
  by_cases h : x.toNat % 2 = 1
  · rw [h]
    simp only [show (((1 : Nat) : Int) == 1) = true from rfl, beq_self_eq_true, if_true]
    rw [← half_toNat, show (3988292384 : Int) = (polyB.toNat : Int) from by decide, xorI]
  · have h0 : x.toNat % 2 = 0 := by omega
    rw [h0]
    simp only [show (((0 : Nat) : Int) == 1) = false from rfl, show ((0 : Nat) == 1) = false from rfl]
    simp only [Bool.false_eq_true, if_false]
    exact (half_toNat x).symm
theorem nextB_xor (x y : B32) : nextB (x ^^^ y) = nextB x ^^^ nextB y := by
  unfold nextB
  rw [BitVec.getLsbD_xor, BitVec.ushiftRight_xor_distrib]
  cases x.getLsbD 0 <;> cases y.getLsbD 0 <;> simp
  · rw [BitVec.xor_assoc]
  · rw [BitVec.xor_assoc, BitVec.xor_assoc, BitVec.xor_comm polyB]
  · rw [BitVec.xor_assoc, BitVec.xor_comm polyB, BitVec.xor_assoc]; simp
theorem nextB_zero : nextB 0#32 = 0#32 := by decide
end Go.Proofs.Ytgcdeadfkljeaaa
