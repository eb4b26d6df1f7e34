/- The methods Take, Big, End of cursor.Cursor. -/
import Derived.Test.YtgcdeadfkljeaaaCurO
namespace Go.Proofs.Ytgcdeadfkljeaaa
open Go.RowKit
set_option linter.unusedVariables false
set_option linter.unusedSimpArgs false

set_option maxHeartbeats 1000000 in
theorem cAt_any (g : Nat) (l : List UInt8) (p : Nat) (er : Int) (w : World) (h : CurOk w g l p er) :
  Calls Try.prog 71 #[.pointer (some ⟨g, 0, none⟩)] w fun e w' => e = .returned (.int .i64 (p : Int)) ∧ w = w' := by
  obtain ⟨a, n, c, hb, -⟩ := h.ex
  have h2 := hb.cell (i := 1) rfl
  clear h hb
  go_enter Try.func71, Try.ntmps71
  go_wp2
  go_ret
  exact ⟨rfl, rfl⟩
def TakePost (w : World) (g : Nat) (l : List UInt8) (p : Nat) (er m : Int) (e : Ending) (w' : World) : Prop :=
  ∃ a' k c', e = .returned (.slice a' k c') ∧ Own w' w.heap.size 5 bE a' k c' (nextL l p er m true) ∧ CurOk w' g l (nextAt l.length p er m true) (nextEr l.length p er m true) ∧ w.grownBy w' (some g)
def bigI (v : Int) (x : UInt8) : Int := bits .or .u64 (v * 256 % 18446744073709551616) (x.toNat : Int)
def bigR (l : List UInt8) : Int := l.foldl bigI 0
theorem bigR_take (l : List UInt8) (k : Nat) (h : k < l.length) : bigR (l.take (k + 1)) = bigI (bigR (l.take k)) l[k] := by
  rw [List.take_succ_eq_append_getElem h]; simp only [bigR, List.foldl_append, List.foldl_cons, List.foldl_nil]
theorem bigR_range (l : List UInt8) : 0 ≤ bigR l ∧ bigR l < 18446744073709551616 := by
  rcases List.eq_nil_or_concat l with rfl | ⟨l', x, rfl⟩
  · simp [bigR]
  · simp only [bigR, List.concat_eq_append, List.foldl_append, List.foldl_cons, List.foldl_nil]
    exact bits_range_u64 _ _ _
set_option maxRecDepth 100000 in
set_option maxHeartbeats 2000000 in
theorem cBigGet_any (g : Nat) (l : List UInt8) (p : Nat) (er m : Int) (w : World) (h : CurOk w g l p er) (hm1 : -9223372036854775808 ≤ m) (hm2 : m ≤ 9223372036854775807) :
  Calls Try.prog 96 #[.pointer (some ⟨g, 0, none⟩), .int .i64 m] w (NumPost w g l p er m (bigR (nextL l p er m (sizedB m)))) := by
  have hle := nextL_le' l p er m
  go_enter Try.func96, Try.ntmps96
  go_wp2_with fail
  refine (sized_any m w hm1 hm2).mono ?_
  rintro e w' ⟨rfl, rfl⟩
  go_wp2_with fail
  refine (cNext_any g l p er m (sizedB m) w h hm1 hm2).mono ?_
  rintro e w1 ⟨a1, k, c1, rfl, hk, hr1, hne1, hc1, hg1⟩
  have HF : Hid (∀ v, v = bigR (nextL l p er m (sizedB m)) → NumPost w g l p er m (bigR (nextL l p er m (sizedB m))) (.returned (.int .u64 v)) w1) := fun v hv => ⟨by rw [hv], hc1, hg1⟩
  have hk8 : k ≤ 8 := by rw [← hk]; exact hle
  generalize hLe : nextL l p er m (sizedB m) = L at hk hr1
  have HLE := Lib.hid hLe
  clear hLe
  have HK := Lib.hid hk
  clear h hle hk hc1 hg1 hne1
  go_wp2
  go_loop [5, 14] (fun v i => ∃ j : Nat, j ≤ k ∧ i = .int .i64 j ∧ v = .int .u64 (bigR (L.take j))) (fun _ i => k - (intOf i).toNat)
  case atStart => exact ⟨0, by omega, rfl, rfl⟩
  case round =>
    obtain ⟨j, hj, rfl, rfl⟩ := hrel
    have hrg := bigR_range (L.take j)
    by_cases hlt : j < k
    · obtain ⟨b, off, rfl, -, hc⟩ := hr1.at (k := j) (by rw [HK.out]; exact hlt)
      have hcl : j < L.length := by rw [HK.out]; exact hlt
      have hst := bigR_take L j hcl
      have HST := Lib.hid hst
      clear hst
      have hx := L[j].toNat_lt
      generalize bigR (L.take j) = v at hrg HST ⊢
      generalize L[j] = x at hc HST hx
      have hx2 : (x.toNat : Int) < 256 := by omega
      have HR1 := Lib.hid hr1
      clear hr1
      go_wp2
      go_round
      case rel => exact ⟨j + 1, by omega, by go_num, by rw [HST.out]; rfl⟩
      case measure => simp [intOf]; omega
    · have hj' : j = k := by omega
      subst hj'
      have hfin : L.take j = L := List.take_of_length_le (by rw [HK.out]; exact Nat.le_refl _)
      have HFIN := Lib.hid hfin
      clear hfin
      go_wp2
      go_ret
      exact HF.out _ (by rw [HLE.out]; exact congrArg bigR HFIN.out)

def endEr (n p : Nat) (er : Int) : Int := if p < n then failE er 2 else er
def EndPost (w : World) (g : Nat) (l : List UInt8) (p : Nat) (er : Int) (e : Ending) (w' : World) : Prop :=
  e = .returned (.int .i64 (endEr l.length p er)) ∧ CurOk w' g l p (endEr l.length p er) ∧ w.grownBy w' (some g)
end Go.Proofs.Ytgcdeadfkljeaaa
