/- What is written of a row is read: plain laws. -/
import Derived.Test.YtnmdgmjheopolaaBhsP
namespace Go.Proofs.Ytnmdgmjheopolaa
open Go.RowKit
set_option linter.unusedVariables false
set_option linter.unusedSimpArgs false

theorem byteN (x : Nat) (h : x < 256) : (UInt8.ofNat (x % 256)).toNat = x := by
  rw [UInt8.toNat_ofNat']; omega
theorem drop_head {l : List UInt8} {p : Nat} {x : UInt8} {r : List UInt8} (h : l.drop p = x :: r) : l[p]? = some x ∧ l.drop (p + 1) = r := by
  have hp : p < l.length := by
    rcases Nat.lt_or_ge p l.length with h1 | h1
    · exact h1
    · rw [List.drop_eq_nil_of_le h1] at h; cases h
  rw [List.drop_eq_getElem_cons hp] at h
  injection h with h1 h2
  exact ⟨by rw [List.getElem?_eq_getElem hp, h1], h2⟩
theorem put_get (h : Nat) (hh : 2 ≤ h ∧ h ≤ 256) : ∀ (k u : Nat) (l rest : List UInt8) (p acc wt : Nat), (u : Int) < reachN h k → l.drop p = putN (256 - h) h k u ++ rest →
    getP (256 - h) l (k + 1) p = p + (putN (256 - h) h k u).length ∧ getE (256 - h) l (k + 1) p = 0 ∧ getU (256 - h) h l (k + 1) p acc wt = acc + u * wt := by
  intro k
  induction k with
  | zero =>
    intro u l rest p acc wt hu hd
    have hu2 : u < 256 := by simp [reachN] at hu; omega
    rw [putN] at hd ⊢
    obtain ⟨h1, h2⟩ := drop_head hd
    have hb := byteN u hu2
    rw [getP, getE, getU, h1]
    simp only [hb]
    by_cases hl : u < 256 - h
    · simp [hl]
    · simp [hl, getP, getE, getU]
  | succ k ih =>
    intro u l rest p acc wt hu hd
    rw [putN] at hd ⊢
    by_cases hl : u < 256 - h
    · rw [if_pos hl] at hd ⊢
      obtain ⟨h1, h2⟩ := drop_head hd
      have hb := byteN u (by omega)
      rw [getP, getE, getU, h1]
      simp only [hb]
      simp [hl]
    · rw [if_neg hl] at hd ⊢
      obtain ⟨h1, h2⟩ := drop_head hd
      have hr : (u - (256 - h)) % h < h := Nat.mod_lt _ (by omega)
      have hb := byteN (256 - h + (u - (256 - h)) % h) (by omega)
      have hdm := Nat.div_add_mod (u - (256 - h)) h
      have hlt : (((u - (256 - h)) / h : Nat) : Int) < reachN h k := by
        rw [reachN] at hu
        have hrk := reachN_range h ⟨by omega, by omega⟩ k
        obtain ⟨R, hR⟩ := Int.eq_ofNat_of_zero_le (show 0 ≤ reachN h k by omega)
        rw [hR] at hu ⊢
        have h3 : u - (256 - h) < h * R := by
          have : ((h : Int) * (R : Int)) = ((h * R : Nat) : Int) := by push_cast; rfl
          rw [this] at hu; omega
        have := Nat.div_lt_of_lt_mul h3
        omega
      obtain ⟨i1, i2, i3⟩ := ih ((u - (256 - h)) / h) l rest (p + 1) (acc + (256 - h + (u - (256 - h)) % h) * wt) (wt * h) hlt h2
      rw [getP, getE, getU, h1]
      simp only [hb]
      have hl2 : ¬ (256 - h + (u - (256 - h)) % h < 256 - h) := by omega
      rw [if_neg hl2, if_neg hl2, if_neg hl2]
      refine ⟨by rw [i1, List.length_cons]; omega, i2, ?_⟩
      rw [i3]
      generalize (u - (256 - h)) / h = Q at *
      generalize (u - (256 - h)) % h = Z at *
      have h5 : u = (256 - h) + (h * Q + Z) := by omega
      have h6 : u * wt = (256 - h + Z) * wt + Q * (wt * h) := by
        rw [h5]
        generalize 256 - h = Y
        rw [show Y + (h * Q + Z) = (Y + Z) + h * Q by omega, Nat.add_mul]
        congr 1
        rw [Nat.mul_comm h Q, Nat.mul_assoc, Nat.mul_comm h wt]
      omega
theorem num_plain (s w : Int) (hs : 0 ≤ s ∧ s ≤ 2) (hw : -8589934592 ≤ w ∧ w ≤ 8589934592) : numC s (plainC s w) = w := by
  have hn : ¬ (w < -8589934592 ∨ w > 8589934592) := by omega
  by_cases h0 : s = 0
  · unfold numC plainC; rw [if_neg hn, if_pos h0, if_pos h0]
  · unfold plainC; rw [if_neg hn, if_neg h0]
    unfold numC; rw [if_neg h0]
    by_cases h1 : s = 1
    · have hp : partC s = 1 := by unfold partC; rw [if_pos h1]
      rw [hp]
      split <;> split <;> omega
    · have hp : partC s = 3 := by unfold partC; rw [if_neg h1, if_pos (by omega)]
      rw [hp]
      split <;> split <;> omega
theorem round_back (s v last : Int) (h : BoundC s v) : roundC s (last + roundC s (v - last)) = v := by
  unfold BoundC at h
  unfold roundC
  by_cases h0 : s = 0
  · rw [if_pos h0] at h ⊢; rw [if_pos h0]; omega
  · rw [if_neg h0] at h ⊢; rw [if_neg h0]; omega
theorem row_read (b h s d : Int) (hR : RightC b h s d) : ∀ (l : List Int) (last : Int) (acc R : List UInt8), rowRun b h s d l last acc = some R →
    ∃ tail, R = acc ++ tail ∧ ∀ (D rest : List UInt8) (p : Nat), D.drop p = tail ++ rest → rdRun b h s d D l.length p last = (l, p + tail.length, 0) := by
  intro l
  induction l with
  | nil =>
    intro last acc R hr
    rw [rowRun] at hr
    refine ⟨[], by simpa using hr.symm, fun D rest p hd => rfl⟩
  | cons v r ih =>
    intro last acc R hr
    rw [rowRun] at hr
    by_cases hn : BoundC s v ∧ FitsC b h s d (plainC s (rowW s d last v))
    · rw [if_pos hn] at hr
      obtain ⟨t, ht, hrun⟩ := ih _ _ _ hr
      obtain ⟨hbd, hft⟩ := hn
      refine ⟨bytesC b h (plainC s (rowW s d last v)) ++ t, by rw [ht, List.append_assoc], fun D rest p hd => ?_⟩
      have hwb : BoundC s (rowW s d last v) := by
        unfold rowW; split
        · exact round_bound _ _
        · exact hbd
      have hs : 0 ≤ s ∧ s ≤ 2 := ⟨hR.2.2.2.2.1, hR.2.2.2.2.2.1⟩
      have hnum := num_plain s (rowW s d last v) hs (by have := hwb.small; omega)
      have hwg : gotW s d last (rowW s d last v) = v := by
        unfold gotW rowW
        by_cases h1 : d = 1
        · rw [if_pos h1, if_pos h1]; exact round_back s v last hbd
        · rw [if_neg h1, if_neg h1]
      generalize rowW s d last v = x at *
      obtain ⟨u, hu⟩ := Int.eq_ofNat_of_zero_le hft.2.1
      have hlt := hft.2.2
      rw [hu] at hlt hd hnum ⊢
      have hb1 : 1 ≤ b := hR.1
      have hh : 2 ≤ h ∧ h ≤ 256 := ⟨hR.2.2.1, hR.2.2.2.1⟩
      have hk : b.toNat = (b - 1).toNat + 1 := by omega
      have hreach : (u : Int) < reachN h.toNat (b - 1).toNat := by
        unfold reachC at hlt
        have e1 : h.toNat = h := by omega
        simp only [e1] at hlt ⊢
        omega
      have hu32 : u < 4294967296 := by unfold reachC at hlt; omega
      have hbytes : bytesC b h (u : Int) = putN (256 - h.toNat) h.toNat (b - 1).toNat u := rfl
      rw [hbytes, List.append_assoc] at hd
      obtain ⟨g1, g2, g3⟩ := put_get h.toNat (by omega) (b - 1).toNat u D (t ++ rest) p 0 1 hreach hd
      rw [← hk] at g1 g2 g3
      have hE : gotE b h s d D p 0 = 0 := by
        unfold gotE; rw [if_neg (by omega), if_neg (by simpa using hR), g2, if_neg (by omega), g3, if_neg (by omega)]
      have hP : gotP b h s d D p 0 = p + (bytesC b h (u : Int)).length := by
        unfold gotP; rw [if_neg (by simpa using hR), g1, hbytes]
      have hV : gotV b h s d D p 0 = x := by
        unfold gotV; rw [hE, if_pos rfl, g3]; simpa using hnum
      have hRd : rdE b h s d D p = 0 := by
        unfold rdE; rw [hV, hE, if_neg (by simp [hwb])]
      have hd2 : D.drop (p + (bytesC b h (u : Int)).length) = t ++ rest := by
        rw [← List.drop_drop, hd, ← hbytes, List.drop_left]
      rw [List.length_cons, rdRun, if_pos hRd, hV, hP, hwg, hrun D rest _ hd2, List.length_append]
      simp only [Nat.add_assoc]
    · rw [if_neg hn] at hr; cases hr
/-- A row that was written is read. -/
theorem row_back (b h s d : Int) (l : List Int) (hE : rowErr b h s d l = 0) : rdRes b h s d (rowRes b h s d l) (l.length : Int) 0 0 = (l, (rowRes b h s d l).length, 0) := by
  have hR : RightC b h s d := by
    unfold rowErr at hE
    by_cases hR : RightC b h s d
    · exact hR
    · rw [if_neg hR] at hE; omega
  have hres : rowRes b h s d l = (rowRun b h s d l 0 []).getD [] := by unfold rowRes; rw [if_pos hR]
  cases hr : rowRun b h s d l 0 [] with
  | none => unfold rowErr at hE; rw [if_pos hR, hr] at hE; simp at hE
  | some R =>
    obtain ⟨t, ht, hrun⟩ := row_read b h s d hR l 0 [] R hr
    have ht2 : R = t := by simpa using ht
    subst ht2
    have hres2 : rowRes b h s d l = R := by rw [hres, hr]; rfl
    rw [hres2, rdRes_run hR]
    have := hrun R [] 0 (by simp)
    rw [this]
    simp
/-- All numbers of 32 bits fit. -/
theorem row_full (s d : Int) (hs : s = 0 ∨ s = 1) (hd : d = 0 ∨ d = 1) : ∀ (l : List Int) (last : Int) (acc : List UInt8), (∀ x ∈ l, BoundC s x) → (rowRun 5 64 s d l last acc).isSome = true := by
  have hreach : reachC 5 64 = 4294967296 := by decide
  have hR : RightC 5 64 s d := by
    rcases hs with rfl | rfl <;> rcases hd with rfl | rfl <;> decide
  intro l
  induction l with
  | nil => intro last acc _; rfl
  | cons v r ih =>
    intro last acc hl
    have hv := hl v (by simp)
    rw [rowRun]
    have hwb : BoundC s (rowW s d last v) := by
      unfold rowW; split
      · exact round_bound _ _
      · exact hv
    rw [if_pos]
    · exact ih _ _ (fun x hx => hl x (by simp [hx]))
    · refine ⟨hv, hR, ?_⟩
      rw [hreach]
      unfold BoundC at hwb
      unfold plainC
      rcases hs with rfl | rfl
      · rw [if_pos rfl] at hwb
        rw [if_neg (by omega), if_pos rfl]; exact hwb
      · rw [if_neg (by omega)] at hwb
        rw [if_neg (by omega), if_neg (by omega), show partC 1 = 1 from rfl]
        split <;> omega
end Go.Proofs.Ytnmdgmjheopolaa
