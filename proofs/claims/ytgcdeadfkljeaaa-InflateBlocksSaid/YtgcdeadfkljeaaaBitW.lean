/- The walks of bitio.Writer's methods. -/
import Derived.Test.YtgcdeadfkljeaaaNumF
import Derived.Test.YtgcdeadfkljeaaaAppA
import Derived.Test.YtgcdeadfkljeaaaCurO
import Derived.StillTailTactics
import Derived.Deep.QuietTactic
import Derived.BigQuiet
namespace Go.Proofs.Ytgcdeadfkljeaaa
open Go.RowKit
set_option linter.unusedVariables false
set_option linter.unusedSimpArgs false

section
variable {w w' : World} {B g : Nat} {l : List UInt8} {held k : Nat}
end
theorem own_bool_row {w : World} {B : Nat} {a : Option Addr} {n c : Nat} {l : List Bool} (ho : Own w B 4 Value.bool a n c l) : ∀ q, (Value.slice a n c).ownBlock = some q → ∃ cs fr, w.heap[q]? = some (.cells cs 4 fr) := by
  intro q e
  obtain ⟨⟨h1, h2⟩, h3⟩ := ho
  rcases h2 with ⟨h4, h5⟩ | ⟨g, cap, cur, hv, hge, hh, hrest⟩
  · rw [h4] at e; simp [Value.ownBlock] at e
  · rw [hv] at e; simp [Value.ownBlock] at e
    subst e
    exact ⟨_, _, hh⟩
/-- The new bits among those that are held. -/
theorem put_held (P : List Bool) (v n : Nat) (hP : P.length < 8) (hn : n ≤ 32) (hv : v < 4294967296) :
    numF (P ++ bitsL v n) = numF P + 2 ^ P.length * (v % 2 ^ n) := by rw [numF_append, numF_bitsL]

theorem put_val (held k m v : Nat) (hk : k < 8) (hm : m ≤ 32) (hv : v < 4294967296) (hh : held < 2 ^ k) :
    bits .or .u64 (held : Int) (IntKind.u64.wrap (bits .and .u64 (IntKind.u64.wrap (v : Int)) (IntKind.u64.wrap (IntKind.u64.wrap (2 ^ min (IntKind.u64.wrap (m : Int)).toNat 64) - 1)) * 2 ^ min (IntKind.u64.wrap (k : Int)).toNat 64)) = ((held + 2 ^ k * (v % 2 ^ m) : Nat) : Int) := by
  have e1 : IntKind.u64.wrap (m : Int) = (m : Int) := by rw [IntKind.wrap_u64]; omega
  have e2 : IntKind.u64.wrap (k : Int) = (k : Int) := by rw [IntKind.wrap_u64]; omega
  have e3 : IntKind.u64.wrap (v : Int) = (v : Int) := by rw [IntKind.wrap_u64]; omega
  have hp : (2 : Nat) ^ m ≤ 4294967296 := Nat.pow_le_pow_right (n := 2) (by omega) hm
  have hp0 : 0 < (2 : Nat) ^ m := Nat.pow_pos (by omega)
  have e4 : IntKind.u64.wrap (2 ^ min (m : Int).toNat 64) = ((2 ^ m : Nat) : Int) := by
    rw [Int.toNat_natCast, Nat.min_eq_left (by omega), show (2 : Int) ^ m = ((2 ^ m : Nat) : Int) from by push_cast; rfl, IntKind.wrap_u64]
    generalize (2 : Nat) ^ m = z at hp
    omega
  rw [e1, e2, e3, e4]
  have e5 : IntKind.u64.wrap (((2 ^ m : Nat) : Int) - 1) = ((2 ^ m - 1 : Nat) : Int) := by
    rw [IntKind.wrap_u64]
    generalize (2 : Nat) ^ m = z at hp hp0
    omega
  rw [e5, u64_and_nat v (2 ^ m - 1) (by omega) (by omega), Nat.and_two_pow_sub_one_eq_mod]
  have hmod : v % 2 ^ m < 4294967296 := Nat.lt_of_lt_of_le (Nat.mod_lt _ hp0) hp
  have hpk : (2 : Nat) ^ k ≤ 128 := Nat.pow_le_pow_right (n := 2) (by omega) (show k ≤ 7 by omega)
  have hmul : v % 2 ^ m * 2 ^ k < 18446744073709551616 := by
    have h1 : v % 2 ^ m * 2 ^ k ≤ v % 2 ^ m * 128 := Nat.mul_le_mul_left _ hpk
    omega
  have e6 : IntKind.u64.wrap (((v % 2 ^ m : Nat) : Int) * 2 ^ min (k : Int).toNat 64) = ((v % 2 ^ m * 2 ^ k : Nat) : Int) := by
    rw [Int.toNat_natCast, Nat.min_eq_left (by omega), show ((v % 2 ^ m : Nat) : Int) * 2 ^ k = ((v % 2 ^ m * 2 ^ k : Nat) : Int) from by push_cast; rfl, IntKind.wrap_u64]
    generalize v % 2 ^ m * 2 ^ k = z at hmul
    omega
  rw [e6, or64_add' _ _ _ hmul hh (by omega)]
  congr 1
  rw [Nat.mul_comm, Nat.add_comm]
/-- The writer's count, of the world. -/
def cntW (g : Nat) (w : World) : Nat := match w.cell? ⟨g, 2, none⟩ with | some v => (intOf v).toNat | none => 0
theorem cntW_eq {g : Nat} {w : World} {k : Nat} (h : w.cell? ⟨g, 2, none⟩ = some (.int .i64 (k : Int))) : cntW g w = k := by simp [cntW, h, intOf]

end Go.Proofs.Ytgcdeadfkljeaaa
