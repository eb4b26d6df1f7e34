/- utf.next. -/
import Derived.Test.YtbknkahakmfhkaaUtfA
import Derived.Laws.BitsAllLaws
namespace Go.Proofs.Ytbknkahakmfhkaa
open Go.RowKit
set_option linter.unusedVariables false
set_option linter.unusedSimpArgs false

/-- A further byte. -/
def furU (l : List UInt8) (i : Nat) : Nat × Bool := match l[i]? with
  | none => (0, false)
  | some b => if b.toNat / 64 = 2 then (b.toNat % 64, true) else (0, false)
def unit2 (c : Nat) (x : Nat × Bool) : Nat × Nat := if x.2 = true ∧ (c % 32 * 64 + x.1 = 0 ∨ 128 ≤ c % 32 * 64 + x.1) then (c % 32 * 64 + x.1, 2) else (0, 0)
def unit3 (c : Nat) (x y : Nat × Bool) : Nat × Nat := if x.2 = true ∧ y.2 = true ∧ 2048 ≤ c % 16 * 4096 + x.1 * 64 + y.1 then (c % 16 * 4096 + x.1 * 64 + y.1, 3) else (0, 0)
/-- The first unit, and how many bytes it has. -/
def nextU (l : List UInt8) : Nat × Nat :=
  if (l.getD 0 0).toNat ≠ 0 ∧ (l.getD 0 0).toNat < 128 then ((l.getD 0 0).toNat, 1)
  else if (l.getD 0 0).toNat / 32 = 6 then unit2 (l.getD 0 0).toNat (furU l 1)
  else if (l.getD 0 0).toNat / 16 = 14 then unit3 (l.getD 0 0).toNat (furU l 1) (furU l 2)
  else (0, 0)
theorem furU_lt (l : List UInt8) (i : Nat) : (furU l i).1 < 64 := by
  unfold furU
  split
  · decide
  · split
    · show _ % 64 < 64; omega
    · decide
theorem str_size (l : List UInt8) : (strOf l).size = l.length := by simp [strOf, ByteArray.size]
theorem str_get {l : List UInt8} {i : Nat} (h : i < (strOf l).size) (h2 : i < l.length) : (strOf l)[i]'h = l[i] := by
  show (strOf l).data[i]'h = _
  simp [strOf]
theorem or16 (a b k : Nat) (hb : b < 2 ^ k) (h : a * 2 ^ k + b < 65536) : bits .or .u16 ((a * 2 ^ k : Nat) : Int) (b : Int) = ((a * 2 ^ k + b : Nat) : Int) := by
  rw [u16_or_nat _ _ (by omega) (by omega), Nat.mul_comm a, ← Nat.two_pow_add_eq_or_of_lt hb a, Nat.mul_comm]
theorem and8 (a k : Nat) (ha : a < 256) (m : Int) (hm : m = ((2 ^ k - 1 : Nat) : Int)) (hk : 2 ^ k - 1 < 256) : bits .and .u8 (a : Int) m = ((a % 2 ^ k : Nat) : Int) := by
  rw [hm, u8_and_nat _ _ ha hk, Nat.and_two_pow_sub_one_eq_mod]
set_option maxRecDepth 100000 in
set_option maxHeartbeats 4000000 in
theorem further_any (g i : Nat) (s : ByteArray) (l : List UInt8) (w : World) (hs : Hid (s = strOf l)) (hc : w.cell? ⟨g, 0, none⟩ = some (.string s)) (hl : l.length ≤ 1000000) (hi : i ≤ 2) :
  Calls Try.prog 134 #[.int .i64 (i : Int), .pointer (some ⟨g, 0, none⟩)] w fun e w' => e = .returned (.tuple #[.int .u16 (((furU l i).1 : Nat) : Int), .bool (furU l i).2]) ∧ w' = w := by
  have hsz : s.size = l.length := by rw [hs.out, str_size]
  by_cases hil : i < l.length
  · have hg : s[i]'(by omega) = l[i] := by
      have h2 : ∀ (q : ByteArray) (hq : i < q.size), q = strOf l → q[i]'hq = l[i] := by
        rintro q hq rfl; exact str_get _ hil
      exact h2 s (by omega) hs.out
    have hf : furU l i = if l[i].toNat / 64 = 2 then (l[i].toNat % 64, true) else (0, false) := by unfold furU; rw [List.getElem?_eq_getElem hil]
    have hb := l[i].toNat_lt
    generalize l[i] = b at *
    obtain ⟨v, hv⟩ : ∃ v, v = b.toNat := ⟨_, rfl⟩
    rw [← hv] at hf hb
    have HV := Lib.hid hv
    by_cases h2 : v / 64 = 2
    · have HF : Hid (furU l i = (v % 64, true)) := Lib.hid (by rw [hf, if_pos h2])
      have g1 : ((b.toNat : Int) / 64 != 2) = false := by rw [← hv]; simp; omega
      have g2 : bits .and .u8 (b.toNat : Int) 63 = ((v % 64 : Nat) : Int) := by rw [← hv]; exact and8 v 6 (by omega) 63 (by decide) (by decide)
      have g3 : IntKind.u16.wrap ((v % 64 : Nat) : Int) = ((v % 64 : Nat) : Int) := by rw [IntKind.wrap_u16]; omega
      have hilI : ¬ (l.length : Int) ≤ (i : Int) := by omega
      clear hf h2 hv
      go_enter Try.func134, Try.ntmps134
      generalize v % 64 = y at *
      go_wp2
      go_ret2
      exact ⟨by rw [HF.out]; rfl, rfl⟩
    · have HF : Hid (furU l i = (0, false)) := Lib.hid (by rw [hf, if_neg h2])
      have g1 : ((b.toNat : Int) / 64 != 2) = true := by rw [← hv]; simp; omega
      have hilI : ¬ (l.length : Int) ≤ (i : Int) := by omega
      clear hf h2 hv
      go_enter Try.func134, Try.ntmps134
      go_wp2
      go_ret2
      exact ⟨by rw [HF.out]; rfl, rfl⟩
  · have HF : Hid (furU l i = (0, false)) := Lib.hid (by unfold furU; rw [List.getElem?_eq_none (by omega)])
    have hilI : (l.length : Int) ≤ (i : Int) := by omega
    go_enter Try.func134, Try.ntmps134
    go_wp2
    go_ret2
    exact ⟨by rw [HF.out]; rfl, rfl⟩
set_option maxRecDepth 100000 in
set_option maxHeartbeats 8000000 in
theorem next_any (s : ByteArray) (l : List UInt8) (w : World) (hs : Hid (s = strOf l)) (hl : l.length ≤ 1000000) (h0 : 0 < l.length) :
  Calls Try.prog 132 #[.string s] w fun e w' => e = .returned (.tuple #[.int .u16 (((nextU l).1 : Nat) : Int), .int .i64 (((nextU l).2 : Nat) : Int)]) ∧ Below w.heap.size w w' := by
  have hsz : s.size = l.length := by rw [hs.out, str_size]
  have hg : s[0]'(by omega) = l[0] := by
    have h2 : ∀ (q : ByteArray) (hq : 0 < q.size), q = strOf l → q[0]'hq = l[0] := by
      rintro q hq rfl; exact str_get _ h0
    exact h2 s (by omega) hs.out
  have hgd : l.getD 0 0 = l[0] := by rw [List.getD_eq_getElem?_getD, List.getElem?_eq_getElem h0]; rfl
  have HB := Lib.hid (below_alloc w (.cells #[.string s] 9))
  have HC : Hid ((w.alloc (.cells #[.string s] 9)).cell? ⟨w.heap.size, 0, none⟩ = some (.string s)) := Lib.hid (cell_push rfl w _)
  have HN : Hid (nextU l = if l[0].toNat ≠ 0 ∧ l[0].toNat < 128 then (l[0].toNat, 1) else if l[0].toNat / 32 = 6 then unit2 l[0].toNat (furU l 1) else if l[0].toNat / 16 = 14 then unit3 l[0].toNat (furU l 1) (furU l 2) else (0, 0)) := Lib.hid (by unfold nextU; rw [hgd])
  have hb := l[0].toNat_lt
  clear hgd
  generalize l[0] = b at *
  obtain ⟨v, hv⟩ : ∃ v, v = b.toNat := ⟨_, rfl⟩
  rw [← hv] at HN hb
  have HV := Lib.hid hv
  by_cases h1 : v ≠ 0 ∧ v < 128
  · have HF : Hid (nextU l = (v, 1)) := Lib.hid (by rw [HN.out, if_pos h1])
    have g1 : ((b.toNat : Int) != 0) = true := by rw [← hv]; simp; omega
    have g2 : decide ((b.toNat : Int) < 128) = true := decide_eq_true (by rw [← hv]; omega)
    have g3 : IntKind.u16.wrap (b.toNat : Int) = (b.toNat : Int) := by rw [IntKind.wrap_u16]; omega
    clear h1 hv
    go_enter Try.func132, Try.ntmps132
    go_wp2
    go_ret2
    exact ⟨by rw [HF.out, HV.out]; rfl, HB.out⟩
  · have HN2 : Hid (nextU l = if v / 32 = 6 then unit2 v (furU l 1) else if v / 16 = 14 then unit3 v (furU l 1) (furU l 2) else (0, 0)) := Lib.hid (by rw [HN.out, if_neg h1])
    have hx1 := furU_lt l 1
    have hx2 := furU_lt l 2
    have F1 := Lib.hid (further_any w.heap.size 1 s l (w.alloc (.cells #[.string s] 9)) hs HC.out hl (by omega))
    have F2 := Lib.hid (further_any w.heap.size 2 s l (w.alloc (.cells #[.string s] 9)) hs HC.out hl (by omega))
    obtain ⟨x, hx⟩ : ∃ x, x = furU l 1 := ⟨_, rfl⟩
    obtain ⟨y, hy⟩ : ∃ y, y = furU l 2 := ⟨_, rfl⟩
    rw [← hx] at hx1 HN2 F1
    rw [← hy] at hx2 HN2 F2
    clear hx hy
    obtain ⟨x1, x2⟩ := x
    obtain ⟨y1, y2⟩ := y
    replace hx1 : x1 < 64 := hx1
    replace hx2 : y1 < 64 := hx2
    have g1 : v ≠ 0 → ((b.toNat : Int) != 0) = true := by rw [← hv]; intro h; simp; omega
    have hv0 : v = 0 ∨ (v ≠ 0 ∧ 128 ≤ v) := by omega
    by_cases h6 : v / 32 = 6
    · have HU : Hid (nextU l = unit2 v (x1, x2)) := Lib.hid (by rw [HN2.out, if_pos h6])
      have g1 : ((b.toNat : Int) != 0) = true := by rw [← hv]; simp; omega
      have g2 : decide ((b.toNat : Int) < 128) = false := decide_eq_false (by rw [← hv]; omega)
      have g3 : ((b.toNat : Int) / 32 == 6) = true := by rw [← hv]; simp; omega
      obtain ⟨m, hm, HM⟩ : ∃ m, m < 32 ∧ Hid (m = v % 32) := ⟨v % 32, by omega, Lib.hid rfl⟩
      have a1 : bits .and .u8 (b.toNat : Int) 31 = (m : Int) := by rw [← hv, HM.out]; exact and8 v 5 (by omega) 31 (by decide) (by decide)
      have a2 : IntKind.u16.wrap (m : Int) = (m : Int) := by rw [IntKind.wrap_u16]; omega
      obtain ⟨U, HU2, hor⟩ : ∃ U : Nat, Hid (U = m * 64 + x1) ∧ bits .or .u16 ((m : Int) * 64) (x1 : Int) = (U : Int) := ⟨m * 64 + x1, Lib.hid rfl, by have := or16 m x1 6 (by omega) (by omega); simpa using this⟩
      have hUr : U < 65536 := by have := HU2.out; omega
      have HUU : Hid (nextU l = if x2 = true ∧ (U = 0 ∨ 128 ≤ U) then (U, 2) else (0, 0)) := Lib.hid (by rw [HU.out]; unfold unit2; rw [← HM.out, ← HU2.out])
      clear h1 hv0 HN HN2 h6 hv HU
      go_enter Try.func132, Try.ntmps132
      go_wp2_with fail
      refine F1.out.mono ?_
      rintro e w5 ⟨rfl, rfl⟩
      cases x2 with
      | false =>
        have HF : Hid (nextU l = (0, 0)) := Lib.hid (by rw [HUU.out]; simp)
        go_wp2
        go_ret2
        exact ⟨by rw [HF.out]; rfl, HB.out⟩
      | true =>
        by_cases hU0 : U = 0
        · have HF : Hid (nextU l = (0, 2)) := Lib.hid (by rw [HUU.out]; simp [hU0])
          subst hU0
          go_wp2
          go_ret2
          exact ⟨by rw [HF.out]; rfl, HB.out⟩
        · have k0 : ((U : Int) == 0) = false := by simpa using hU0
          by_cases hU1 : 128 ≤ U
          · have HF : Hid (nextU l = (U, 2)) := Lib.hid (by rw [HUU.out]; simp [hU1])
            go_wp2
            go_ret2
            exact ⟨by rw [HF.out]; rfl, HB.out⟩
          · have HF : Hid (nextU l = (0, 0)) := Lib.hid (by rw [HUU.out, if_neg]; rintro ⟨_, h | h⟩ <;> omega)
            have k1 : ¬ (128 : Int) ≤ (U : Int) := by omega
            go_wp2
            go_ret2
            exact ⟨by rw [HF.out]; rfl, HB.out⟩
    · have g3 : ((b.toNat : Int) / 32 == 6) = false := by rw [← hv]; simp; omega
      by_cases h14 : v / 16 = 14
      · have HU : Hid (nextU l = unit3 v (x1, x2) (y1, y2)) := Lib.hid (by rw [HN2.out, if_neg h6, if_pos h14])
        have g1 : ((b.toNat : Int) != 0) = true := by rw [← hv]; simp; omega
        have g2 : decide ((b.toNat : Int) < 128) = false := decide_eq_false (by rw [← hv]; omega)
        have g4 : ((b.toNat : Int) / 16 == 14) = true := by rw [← hv]; simp; omega
        obtain ⟨m, hm, HM⟩ : ∃ m, m < 16 ∧ Hid (m = v % 16) := ⟨v % 16, by omega, Lib.hid rfl⟩
        have a1 : bits .and .u8 (b.toNat : Int) 15 = (m : Int) := by rw [← hv, HM.out]; exact and8 v 4 (by omega) 15 (by decide) (by decide)
        have a2 : IntKind.u16.wrap (m : Int) = (m : Int) := by rw [IntKind.wrap_u16]; omega
        obtain ⟨V, HV2, hor1⟩ : ∃ V : Nat, Hid (V = m * 64 + x1) ∧ bits .or .u16 ((m : Int) * 4096) ((x1 : Int) * 64) = (V : Int) * 64 := ⟨m * 64 + x1, Lib.hid rfl, by
          have := or16 m (x1 * 64) 12 (by omega) (by omega)
          rw [show ((x1 : Int) * 64) = ((x1 * 64 : Nat) : Int) by omega, show ((m : Int) * 4096) = ((m * 2 ^ 12 : Nat) : Int) by omega, this]
          omega⟩
        obtain ⟨U, HU2, hor⟩ : ∃ U : Nat, Hid (U = V * 64 + y1) ∧ bits .or .u16 ((V : Int) * 64) (y1 : Int) = (U : Int) := ⟨V * 64 + y1, Lib.hid rfl, by
          have := or16 V y1 6 (by omega) (by have := HV2.out; omega)
          simpa using this⟩
        have hVr : V < 1024 := by have := HV2.out; omega
        have hUr : U < 65536 := by have := HU2.out; omega
        have HUU : Hid (nextU l = if x2 = true ∧ y2 = true ∧ 2048 ≤ U then (U, 3) else (0, 0)) := Lib.hid (by
          rw [HU.out]; unfold unit3
          have : v % 16 * 4096 + x1 * 64 + y1 = U := by rw [HU2.out, HV2.out, HM.out]; omega
          rw [this])
        clear h1 hv0 HN HN2 h6 hv HU h14
        go_enter Try.func132, Try.ntmps132
        go_wp2_with fail
        refine F1.out.mono ?_
        rintro e w5 ⟨rfl, rfl⟩
        go_wp2_with fail
        refine F2.out.mono ?_
        rintro e w5 ⟨rfl, rfl⟩
        cases x2 with
        | false =>
          have HF : Hid (nextU l = (0, 0)) := Lib.hid (by rw [HUU.out]; simp)
          go_wp2
          go_ret2
          exact ⟨by rw [HF.out]; rfl, HB.out⟩
        | true =>
          cases y2 with
          | false =>
            have HF : Hid (nextU l = (0, 0)) := Lib.hid (by rw [HUU.out]; simp)
            go_wp2
            go_ret2
            exact ⟨by rw [HF.out]; rfl, HB.out⟩
          | true =>
            by_cases hU1 : 2048 ≤ U
            · have HF : Hid (nextU l = (U, 3)) := Lib.hid (by rw [HUU.out]; simp [hU1])
              go_wp2
              go_ret2
              exact ⟨by rw [HF.out]; rfl, HB.out⟩
            · have HF : Hid (nextU l = (0, 0)) := Lib.hid (by rw [HUU.out, if_neg]; rintro ⟨_, _, h⟩; omega)
              have k1 : ¬ (2048 : Int) ≤ (U : Int) := by omega
              go_wp2
              go_ret2
              exact ⟨by rw [HF.out]; rfl, HB.out⟩
      · have HF : Hid (nextU l = (0, 0)) := Lib.hid (by rw [HN2.out, if_neg h6, if_neg h14])
        have g4 : ((b.toNat : Int) / 16 == 14) = false := by rw [← hv]; simp; omega
        by_cases hz : v = 0
        · have g1 : ((b.toNat : Int) != 0) = false := by rw [← hv, hz]; rfl
          clear h1 hv0 HN HN2 h6 hv h14
          go_enter Try.func132, Try.ntmps132
          go_wp2
          go_ret2
          exact ⟨by rw [HF.out]; rfl, HB.out⟩
        · have g1 : ((b.toNat : Int) != 0) = true := by rw [← hv]; simp; omega
          have g2 : decide ((b.toNat : Int) < 128) = false := decide_eq_false (by rw [← hv]; omega)
          clear h1 hv0 HN HN2 h6 hv h14
          go_enter Try.func132, Try.ntmps132
          go_wp2
          go_ret2
          exact ⟨by rw [HF.out]; rfl, HB.out⟩
end Go.Proofs.Ytbknkahakmfhkaa
