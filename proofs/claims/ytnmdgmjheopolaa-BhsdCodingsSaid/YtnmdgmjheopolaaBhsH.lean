/- One byte of a cursor; what is read of a coding: plain laws. -/
import Derived.Test.YtnmdgmjheopolaaBhsE
import Derived.Test.YtnmdgmjheopolaaCurOB
import Derived.Test.YtnmdgmjheopolaaRef02D
namespace Go.Proofs.Ytnmdgmjheopolaa
open Go.RowKit
set_option linter.unusedVariables false
set_option linter.unusedSimpArgs false

theorem next1_some (l : List UInt8) (p : Nat) (x : UInt8) (hx : l[p]? = some x) : nextL l p 0 1 (sizedB 1) = [x] ∧ nextAt l.length p 0 1 (sizedB 1) = p + 1 ∧ nextEr l.length p 0 1 (sizedB 1) = 0 := by
  have hp : p < l.length := (List.getElem?_eq_some_iff.1 hx).1
  have hs : sizedB 1 = true := by decide
  have hok : nextOk l.length p 0 1 (sizedB 1) = true := by unfold nextOk; rw [hs]; simp; omega
  refine ⟨?_, ?_, ?_⟩
  · unfold nextL; rw [hok]; simp only [if_true]
    rw [List.drop_eq_getElem_cons hp, show (1 : Int).toNat = 1 from rfl, List.take_succ_cons, List.take_zero]
    rw [List.getElem?_eq_getElem hp] at hx; simp at hx; rw [hx]
  · unfold nextAt; rw [hok]; rfl
  · unfold nextEr; rw [hs, if_neg (by omega), if_neg (by simp), if_neg (by omega)]
theorem next1_none (l : List UInt8) (p : Nat) (hx : l[p]? = none) : nextL l p 0 1 (sizedB 1) = [] ∧ nextAt l.length p 0 1 (sizedB 1) = p ∧ nextEr l.length p 0 1 (sizedB 1) = 6 := by
  have hp : l.length ≤ p := List.getElem?_eq_none_iff.1 hx
  have hs : sizedB 1 = true := by decide
  have hok : nextOk l.length p 0 1 (sizedB 1) = false := by unfold nextOk; simp; omega
  refine ⟨?_, ?_, ?_⟩
  · unfold nextL; rw [hok]; rfl
  · unfold nextAt; rw [hok]; rfl
  · unfold nextEr; rw [hs, if_neg (by omega), if_neg (by simp), if_pos (by omega)]
theorem bigR_one (x : UInt8) : bigR [x] = (x.toNat : Int) := by
  have hx := x.toNat_lt
  show bits .or .u64 (0 * 256 % 18446744073709551616) (x.toNat : Int) = _
  have := u64_or_nat 0 x.toNat (by omega) (by omega)
  simpa using this
theorem cBig1_any (g : Nat) (l : List UInt8) (p : Nat) (w : World) (h : CurOk w g l p 0) :
  Calls Try.prog 79 #[.pointer (some ⟨g, 0, none⟩), .int .i64 1] w fun e w' => ((∃ x : UInt8, l[p]? = some x ∧ e = .returned (.int .u64 (x.toNat : Int)) ∧ CurOk w' g l (p + 1) 0) ∨ (l[p]? = none ∧ e = .returned (.int .u64 0) ∧ CurOk w' g l p 6)) ∧ w.grownBy w' (some g) := by
  refine (cBigGet_any g l p 0 1 w h (by omega) (by omega)).mono ?_
  rintro e w' ⟨rfl, hc, hg⟩
  cases hx : l[p]? with
  | some x =>
    obtain ⟨e1, e2, e3⟩ := next1_some l p x hx
    rw [e2, e3] at hc
    exact ⟨.inl ⟨x, rfl, by rw [e1, bigR_one], hc⟩, hg⟩
  | none =>
    obtain ⟨e1, e2, e3⟩ := next1_none l p hx
    rw [e2, e3] at hc
    exact ⟨.inr ⟨rfl, by rw [e1]; rfl, hc⟩, hg⟩
theorem rBig1_any (g : Nat) (l : List UInt8) (p : Nat) (w : World) (h : RefOk w g l p 0) :
  Calls Try.prog 84 #[.pointer (some ⟨g, 0, none⟩), .int .i64 1] w fun e w' => ((∃ x : UInt8, l[p]? = some x ∧ e = .returned (.int .u64 (x.toNat : Int)) ∧ RefOk w' g l (p + 1) 0) ∨ (l[p]? = none ∧ e = .returned (.int .u64 0) ∧ RefOk w' g l p 6)) ∧ w.grownBy w' (some g) := by
  refine (rBigGet_any g l p 0 1 w h (by omega) (by omega)).mono ?_
  rintro e w' ⟨rfl, hc, hg⟩
  cases hx : l[p]? with
  | some x =>
    obtain ⟨e1, e2, e3⟩ := next1_some l p x hx
    rw [e2, e3] at hc
    exact ⟨.inl ⟨x, rfl, by rw [e1, bigR_one], hc⟩, hg⟩
  | none =>
    obtain ⟨e1, e2, e3⟩ := next1_none l p hx
    rw [e2, e3] at hc
    exact ⟨.inr ⟨rfl, by rw [e1]; rfl, hc⟩, hg⟩

/-- Where the bytes of a plain number end; the error; the number. -/
def getP (low : Nat) (l : List UInt8) : Nat → Nat → Nat
  | 0, p => p
  | k+1, p => match l[p]? with
    | none => p
    | some x => if x.toNat < low then p + 1 else getP low l k (p + 1)
def getE (low : Nat) (l : List UInt8) : Nat → Nat → Int
  | 0, p => 0
  | k+1, p => match l[p]? with
    | none => 6
    | some x => if x.toNat < low then 0 else getE low l k (p + 1)
def getU (low h : Nat) (l : List UInt8) : Nat → Nat → Nat → Nat → Nat
  | 0, p, u, wt => u
  | k+1, p, u, wt => match l[p]? with
    | none => u
    | some x => if x.toNat < low then u + x.toNat * wt else getU low h l k (p + 1) (u + x.toNat * wt) (wt * h)
theorem getP_le (low : Nat) (l : List UInt8) (k p : Nat) (hp : p ≤ l.length) : getP low l k p ≤ l.length := by
  induction k generalizing p with
  | zero => exact hp
  | succ k ih =>
    rw [getP]
    cases hx : l[p]? with
    | none => exact hp
    | some x =>
      have : p < l.length := (List.getElem?_eq_some_iff.1 hx).1
      simp only; split
      · omega
      · exact ih _ (by omega)
theorem getE_cases (low : Nat) (l : List UInt8) (k p : Nat) : getE low l k p = 0 ∨ getE low l k p = 6 := by
  induction k generalizing p with
  | zero => exact .inl rfl
  | succ k ih =>
    rw [getE]
    cases hx : l[p]? with
    | none => exact .inr rfl
    | some x => simp only; split; exact .inl rfl; exact ih _
theorem getU_le (h : Nat) (hh : 2 ≤ h ∧ h ≤ 256) (l : List UInt8) (k p u wt : Nat) : (getU (256 - h) h l (k + 1) p u wt : Int) ≤ u + wt * (reachN h k - 1) := by
  induction k generalizing p u wt with
  | zero =>
    rw [getU]
    cases hx : l[p]? with
    | none => simp [reachN]; omega
    | some x =>
      have hx2 := x.toNat_lt
      have h1 : x.toNat * wt ≤ 255 * wt := Nat.mul_le_mul_right _ (by omega)
      simp only [getU, reachN]
      split <;> (push_cast; omega)
  | succ k ih =>
    rw [getU]
    have hr := reachN_range h ⟨by omega, by omega⟩ k
    have hr2 := reachN_range h ⟨by omega, by omega⟩ (k + 1)
    cases hx : l[p]? with
    | none =>
      have : (0 : Int) ≤ wt * (reachN h (k + 1) - 1) := Int.mul_nonneg (by omega) (by omega)
      simp only; omega
    | some x =>
      have hx2 := x.toNat_lt
      have h1 : x.toNat * wt ≤ 255 * wt := Nat.mul_le_mul_right _ (by omega)
      simp only
      split
      · have h3 : (wt : Int) * 255 ≤ wt * (reachN h (k + 1) - 1) := Int.mul_le_mul_of_nonneg_left (by omega) (by omega)
        push_cast; omega
      · have h4 := ih (p + 1) (u + x.toNat * wt) (wt * h)
        have h5 : (wt : Int) * (reachN h (k + 1) - 1) = wt * 255 + (wt * h) * (reachN h k - 1) := by
          rw [reachN, Int.mul_assoc, ← Int.mul_add]
          congr 1
          rw [Int.mul_sub]; omega
        push_cast at h4 ⊢
        omega
theorem getU_reach (b h : Nat) (hb : 1 ≤ b ∧ b ≤ 5) (hh : 2 ≤ h ∧ h ≤ 256) (l : List UInt8) (p : Nat) : (getU (256 - h) h l b p 0 1 : Int) ≤ 1099511627776 ∧ ((getU (256 - h) h l b p 0 1 : Int) < reachC b h ↔ (getU (256 - h) h l b p 0 1 : Int) < 4294967296) := by
  obtain ⟨k, rfl⟩ : ∃ k, b = k + 1 := ⟨b - 1, by omega⟩
  have h1 := getU_le h hh l k p 0 1
  have h2 := reachN_le h ⟨by omega, by omega⟩ k (by omega)
  have h3 : reachC ((k + 1 : Nat) : Int) h = min (reachN h k) 4294967296 := by unfold reachC; congr 2; omega
  rw [h3]
  generalize (getU (256 - h) h l (k + 1) p 0 1 : Int) = y at *
  omega

def gotE (b h s d : Int) (l : List UInt8) (p : Nat) (er : Int) : Int := if er ≠ 0 then er else if ¬ RightC b h s d then 1 else if getE (256 - h.toNat) l b.toNat p ≠ 0 then 6 else if 4294967296 ≤ getU (256 - h.toNat) h.toNat l b.toNat p 0 1 then 5 else 0
def gotP (b h s d : Int) (l : List UInt8) (p : Nat) (er : Int) : Nat := if er ≠ 0 ∨ ¬ RightC b h s d then p else getP (256 - h.toNat) l b.toNat p
def gotV (b h s d : Int) (l : List UInt8) (p : Nat) (er : Int) : Int := if gotE b h s d l p er = 0 then numC s (getU (256 - h.toNat) h.toNat l b.toNat p 0 1) else 0
def GetPost (w : World) (g : Nat) (b h s d : Int) (l : List UInt8) (p : Nat) (er : Int) (e : Ending) (w' : World) : Prop :=
  e = .returned (.int .i64 (gotV b h s d l p er)) ∧ CurOk w' g l (gotP b h s d l p er) (gotE b h s d l p er) ∧ w.grownBy w' (some g)
def RGetPost (w : World) (g : Nat) (b h s d : Int) (l : List UInt8) (p : Nat) (er : Int) (e : Ending) (w' : World) : Prop :=
  e = .returned (.int .i64 (gotV b h s d l p er)) ∧ RefOk w' g l (gotP b h s d l p er) (gotE b h s d l p er) ∧ w.grownBy w' (some g)
end Go.Proofs.Ytnmdgmjheopolaa
