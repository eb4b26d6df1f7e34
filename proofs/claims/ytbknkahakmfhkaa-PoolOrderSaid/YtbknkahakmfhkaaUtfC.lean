/- utf.Units, utf.Right. -/
import Derived.Test.YtbknkahakmfhkaaUtfB
namespace Go.Proofs.Ytbknkahakmfhkaa
open Go.RowKit
set_option linter.unusedVariables false
set_option linter.unusedSimpArgs false

/-- The units whose bytes a row is. -/
def unitsL : Nat → List UInt8 → Option (List Nat)
  | _, [] => some []
  | 0, _ :: _ => none
  | k + 1, b :: r => if (nextU (b :: r)).2 = 0 then none else (unitsL k ((b :: r).drop (nextU (b :: r)).2)).map ((nextU (b :: r)).1 :: ·)
def unitsOf (l : List UInt8) : Option (List Nat) := unitsL l.length l
theorem unitsL_fuel : ∀ (k j : Nat) (l : List UInt8), l.length ≤ k → l.length ≤ j → unitsL k l = unitsL j l
  | k, j, [], _, _ => by cases k <;> cases j <;> rfl
  | 0, _, b :: r, h, _ => by simp at h
  | k + 1, 0, b :: r, _, h => by simp at h
  | k + 1, j + 1, b :: r, h1, h2 => by
    unfold unitsL
    by_cases h0 : (nextU (b :: r)).2 = 0
    · rw [if_pos h0, if_pos h0]
    · rw [if_neg h0, if_neg h0, unitsL_fuel k j _ (by rw [List.length_drop]; simp at h1 ⊢; omega) (by rw [List.length_drop]; simp at h2 ⊢; omega)]
theorem unitsOf_nil : unitsOf [] = some [] := rfl
theorem unitsOf_step {l : List UInt8} (h : 0 < l.length) : unitsOf l = if (nextU l).2 = 0 then none else (unitsOf (l.drop (nextU l).2)).map ((nextU l).1 :: ·) := by
  cases l with
  | nil => simp at h
  | cons b r =>
    unfold unitsOf
    rw [List.length_cons]
    conv => lhs; unfold unitsL
    by_cases h0 : (nextU (b :: r)).2 = 0
    · rw [if_pos h0, if_pos h0]
    · rw [if_neg h0, if_neg h0]
      congr 1
      exact unitsL_fuel _ _ _ (by rw [List.length_drop]; simp; omega) (Nat.le_refl _)
theorem nextU_le (l : List UInt8) (h : 0 < l.length) : (nextU l).2 ≤ l.length ∧ (nextU l).1 < 65536 := by
  have hf : ∀ i, (furU l i).2 = true → i < l.length := by
    intro i hi
    unfold furU at hi
    split at hi
    · cases hi
    · rename_i b hb
      exact (List.getElem?_eq_some_iff.1 hb).1
  have h1 := furU_lt l 1
  have h2 := furU_lt l 2
  have hc := (l.getD 0 0).toNat_lt
  unfold nextU
  split
  · exact ⟨h, by omega⟩
  · split
    · unfold unit2
      split
      · rename_i h3
        have := hf 1 h3.1
        exact ⟨by omega, by show _ < 65536; omega⟩
      · exact ⟨Nat.zero_le _, by decide⟩
    · split
      · unfold unit3
        split
        · rename_i h3
          have := hf 2 h3.2.1
          exact ⟨by omega, by show _ < 65536; omega⟩
        · exact ⟨Nat.zero_le _, by decide⟩
      · exact ⟨Nat.zero_le _, by decide⟩
theorem unitsL_len : ∀ (k : Nat) (l : List UInt8) (us : List Nat), unitsL k l = some us → us.length ≤ l.length ∧ ∀ x ∈ us, x < 65536
  | k, [], us, h => by
    have : us = [] := by cases k <;> simp [unitsL] at h <;> exact h
    subst this
    exact ⟨Nat.le_refl _, fun x hx => by cases hx⟩
  | 0, b :: r, us, h => by simp [unitsL] at h
  | k + 1, b :: r, us, h => by
    unfold unitsL at h
    by_cases h0 : (nextU (b :: r)).2 = 0
    · rw [if_pos h0] at h; cases h
    · rw [if_neg h0] at h
      cases h2 : unitsL k ((b :: r).drop (nextU (b :: r)).2) with
      | none => rw [h2] at h; cases h
      | some vs =>
        rw [h2] at h
        simp only [Option.map_some, Option.some.injEq] at h
        subst h
        obtain ⟨h3, h4⟩ := unitsL_len k _ vs h2
        have h5 := nextU_le (b :: r) (by simp)
        rw [List.length_drop] at h3
        refine ⟨by rw [List.length_cons]; omega, fun x hx => ?_⟩
        rcases List.mem_cons.1 hx with rfl | hx
        · exact h5.2
        · exact h4 x hx
theorem unitsOf_len {l : List UInt8} {us : List Nat} (h : unitsOf l = some us) : us.length ≤ l.length ∧ ∀ x ∈ us, x < 65536 := unitsL_len _ _ _ h
theorem str_drop (l : List UInt8) (k n : Nat) (hn : n = l.length) : (strOf l).extract k n = strOf (l.drop k) := by
  apply ByteArray.ext
  subst hn
  simp [strOf]
  exact List.take_of_length_le (by simp)
def strLen (v : Value) : Nat := match v with | .string s => s.size | _ => 0
theorem hOne (k : List Nat) : ∀ y ∈ k, (hE y).oneCell' = true := fun _ _ => rfl
def UnitsPost (w : World) (l : List UInt8) (e : Ending) (w' : World) : Prop :=
  Below w.heap.size w w' ∧ ((unitsOf l = none ∧ e = .returned (.tuple #[.slice none 0 0, .bool false])) ∨
    (∃ us p c, unitsOf l = some us ∧ e = .returned (.tuple #[.slice p us.length c, .bool true]) ∧ Own w' w.heap.size 22 hE p us.length c us))
set_option maxRecDepth 100000 in
set_option maxHeartbeats 8000000 in
theorem units_any (s : ByteArray) (l : List UInt8) (w : World) (hs : Hid (s = strOf l)) (hl : l.length ≤ 1000000) :
  Calls Try.prog 130 #[.string s] w (UnitsPost w l) := by
  have HL := Lib.hid hl
  have HS := Lib.hid hs
  clear hl
  go_enter Try.func130, Try.ntmps130
  go_wp2
  go_loopw [0, 4] (fun x0 x4 wr => ∃ (s : ByteArray) (r : List UInt8) (k : Nat) (q : Option Addr) (d : Nat) (pre : List Nat), x0 = .string s ∧ x4 = .slice q k d ∧ Hid (s = strOf r) ∧ r.length ≤ 1000000 ∧ Hid (k + r.length ≤ 1000000) ∧ Hid (unitsOf l = (unitsOf r).map (pre ++ ·)) ∧ Own wr w.heap.size 22 hE q k d pre ∧ Below w.heap.size w wr) (fun x0 _ _ => strLen x0)
  case atStart => exact ⟨s, l, 0, none, 0, [], rfl, rfl, HS.out, HL.out, Lib.hid (by have := HL.out; omega), Lib.hid (by cases h : unitsOf l <;> simp), Own.nil, Below.refl _ _⟩
  case round =>
    clear hs HS
    obtain ⟨s, r, k, q, d, pre, rfl, rfl, hs, hr, hk, hst, hO, hB⟩ := hrel
    have hsz : s.size = r.length := by rw [hs.out, str_size]
    by_cases h0 : 0 < r.length
    · have HST := Lib.hid (unitsOf_step h0)
      have HLE := Lib.hid (nextU_le r h0)
      have HO := Lib.hid hO
      have HB := Lib.hid hB
      have HK := hk
      clear hO hB
      go_wp2_with fail
      refine (next_any s r wr hs hr h0).mono ?_
      rintro e w5 ⟨rfl, hB5⟩
      have HO5 := Lib.hid (HO.out.below hB5)
      have HB5 := Lib.hid (HB.out.trans (hB5.mono HB.out.size))
      clear hB5 HO HB
      obtain ⟨u, hu⟩ : ∃ u, u = (nextU r).1 := ⟨_, rfl⟩
      obtain ⟨m, hm⟩ : ∃ m, m = (nextU r).2 := ⟨_, rfl⟩
      rw [← hu, ← hm] at HST HLE ⊢
      clear hu hm
      by_cases hm0 : m = 0
      · have HF : Hid (unitsOf l = none) := Lib.hid (by rw [hst.out, HST.out, if_pos hm0]; rfl)
        subst hm0
        go_wp2
        go_ret2
        exact ⟨HB5.out, .inl ⟨HF.out, rfl⟩⟩
      · have g0 : ((m : Int) == 0) = false := by simpa using hm0
        have hmr : m ≤ r.length := HLE.out.1
        have HST2 : Hid (unitsOf l = (unitsOf (r.drop m)).map (pre ++ [u] ++ ·)) := Lib.hid (by
          rw [hst.out, HST.out, if_neg hm0]
          cases unitsOf (r.drop m) <;> simp)
        have HS2 : Hid (s.extract m r.length = strOf (r.drop m)) := Lib.hid (by rw [hs.out]; exact str_drop r m _ rfl)
        have HDL : Hid ((r.drop m).length = r.length - m) := Lib.hid (List.length_drop ..)
        have hk1 : k + 1 ≤ 1000001 := by have := HK.out; omega
        have hbs := HB5.out.size
        have hcell : Hid ((w5.alloc (.cells #[.int .u16 (u : Int)] 22)).cell? ⟨w5.heap.size, 0, none⟩ = some (hE u)) := Lib.hid (cell_push rfl w5 _)
        go_wp2_with (at_builtin; refine wpList_push (w0 := w5) slU16 rfl _ _ rfl rfl rfl HO5.out u _ rfl hcell.out rfl (by omega) (by unfold maxLen; omega) hbs ?_; intro p3 c3 w3 hown3 hg3)
        have HF := Lib.hid (And.intro hown3 (HO5.out.step HB5.out hg3 hbs))
        clear hown3 hg3 hcell
        go_roundw
        case rel => exact ⟨_, r.drop m, k + 1, p3, c3, pre ++ [u], rfl, rfl, HS2, by have := HDL.out; omega, Lib.hid (by have := HDL.out; have := HK.out; omega), HST2, HF.out⟩
        case measure => show (s.extract m r.length).size < s.size; rw [HS2.out, str_size, hsz, HDL.out]; omega
    · have hr0 : r = [] := List.eq_nil_of_length_eq_zero (by omega)
      subst hr0
      have HUS : Hid (unitsOf l = some pre) := Lib.hid (by rw [hst.out, unitsOf_nil]; simp)
      have hkl := hO.len
      have HF := Lib.hid (And.intro hO hB)
      have hs0 : s.size = 0 := hsz
      clear hO hB hsz
      go_wp2
      go_ret2
      refine ⟨HF.out.2, .inr ⟨pre, q, d, HUS.out, ?_, ?_⟩⟩
      · rw [hkl]; rfl
      · rw [hkl]; exact HF.out.1
def RightPost (w : World) (l : List UInt8) (e : Ending) (w' : World) : Prop := e = .returned (.bool (unitsOf l).isSome) ∧ Below w.heap.size w w'
set_option maxRecDepth 100000 in
set_option maxHeartbeats 8000000 in
theorem right_any (s : ByteArray) (l : List UInt8) (w : World) (hs : Hid (s = strOf l)) (hl : l.length ≤ 1000000) :
  Calls Try.prog 118 #[.string s] w (RightPost w l) := by
  go_enter Try.func118, Try.ntmps118
  go_wp2_with fail
  refine (units_any s l w hs hl).mono ?_
  rintro e w5 ⟨hB, h⟩
  have HB := Lib.hid hB
  clear hB
  rcases h with ⟨h, rfl⟩ | ⟨us, p, c, h, rfl, -⟩
  · have HF : Hid (RightPost w l (.returned (.bool false)) w5) := Lib.hid ⟨by rw [h]; rfl, HB.out⟩
    clear h
    go_wp2
    go_ret
    exact HF.out
  · have HF : Hid (RightPost w l (.returned (.bool true)) w5) := Lib.hid ⟨by rw [h]; rfl, HB.out⟩
    clear h
    go_wp2
    go_ret
    exact HF.out
end Go.Proofs.Ytbknkahakmfhkaa
