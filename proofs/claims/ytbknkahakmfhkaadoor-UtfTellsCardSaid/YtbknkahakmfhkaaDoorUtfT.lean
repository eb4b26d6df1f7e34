/- The law of telling's walk. -/
import Derived.Test.YtbknkahakmfhkaaDoorUtfM
namespace Go.Proofs.YtbknkahakmfhkaaDoor
open Go.RowKit
set_option linter.unusedVariables false
set_option linter.unusedSimpArgs false

/-- Units, in one shape. -/
theorem units_one {w w' : World} {l : List UInt8} {e : Ending} (h : UnitsPost w l e w') : ∃ p n c, e = .returned (.tuple #[.slice p n c, .bool (unitsOf l).isSome]) ∧ n = ((unitsOf l).getD []).length ∧ Rd w' hE p ((unitsOf l).getD []) ∧ Below w.heap.size w w' := by
  obtain ⟨hB, ⟨h, rfl⟩ | ⟨us, p, c, h, rfl, ho⟩⟩ := h
  · exact ⟨none, 0, 0, by rw [h]; rfl, by rw [h]; rfl, .inl (by rw [h]; rfl), hB⟩
  · exact ⟨p, us.length, c, by rw [h]; rfl, by rw [h]; rfl, by rw [h]; exact ho.rd, hB⟩
theorem decOf_le {l : List UInt8} : ((unitsOf l).getD []).length ≤ l.length := by
  cases h : unitsOf l with
  | none => exact Nat.zero_le _
  | some us => exact (unitsOf_len h).1
/-- What Decode answers, in one shape. -/
def decS (l : List UInt8) : ByteArray := match decOf l with | some s => s | none => ⟨#[]⟩
theorem dec_one {w w' : World} {l : List UInt8} {e : Ending} (h : DecPost w l e w') : e = .returned (.tuple #[.string (decS l), .bool (decOf l).isSome]) ∧ Below w.heap.size w w' := by
  obtain ⟨hB, rfl⟩ := h
  refine ⟨?_, hB⟩
  unfold decS
  cases decOf l <;> rfl
def encS (l : List UInt8) : List UInt8 := if Lib.validD l then bytU (unisOf l) else []
theorem enc_one {w w' : World} {l : List UInt8} {e : Ending} (h : EncPost w l e w') : e = .returned (.tuple #[.string (strOf (encS l)), .bool (Lib.validD l)]) ∧ Below w.heap.size w w' := by
  obtain ⟨hB, rfl⟩ := h
  refine ⟨?_, hB⟩
  unfold encS
  cases Lib.validD l <;> rfl
theorem encS_len (l : List UInt8) : (encS l).length ≤ 6 * l.length := by
  unfold encS
  split
  · have h1 := bytU_len (unisOf l)
    have h2 := (unisOf_lt l.length l (Nat.le_refl _)).2
    omega
  · exact Nat.zero_le _
set_option maxRecDepth 100000 in
set_option maxHeartbeats 16000000 in
theorem tells_any (s : ByteArray) (l : List UInt8) (w : World) (hs : Hid (s = strOf l)) (hT : Hid (Tabs w)) :
  Calls Tryd.prog 3 #[.string s] w (BoolPost true w) := by
  have HSZ : Hid (s.size = l.length) := Lib.hid (by rw [hs.out, str_size])
  go_enter Tryd.func3, Tryd.ntmps3
  go_wp2_with fail
  refine (fixed_any w hT).mono ?_
  rintro e w1 ⟨rfl, hB1⟩
  have HB1 := Lib.hid hB1
  clear hB1
  by_cases h1 : 600 < s.size
  · have g1 : (600 : Int) < (s.size : Int) := by omega
    go_wp2
    go_ret
    exact ⟨rfl, HB1.out⟩
  have g1 : ¬ (600 : Int) < (s.size : Int) := by omega
  have hl : l.length ≤ 600 := by have := HSZ.out; omega
  go_wp2_with fail
  refine (units_any s l w1 hs (by omega)).mono ?_
  rintro e w2 h
  obtain ⟨p, n, c, rfl, hn, hr, hB2⟩ := units_one h
  have HB2 := Lib.hid (HB1.out.trans (hB2.mono HB1.out.size))
  have HR := Lib.hid hr
  have HN := Lib.hid hn
  have hn1 : n ≤ 600 := by have := decOf_le (l := l); omega
  clear h hn hr hB2
  go_wp2_with fail
  refine (runits_any s l w2 hs (by omega)).mono ?_
  rintro e w3 h
  obtain ⟨q, m, d, rfl, hm, hr, hB3⟩ := units_one h
  have HB3 := Lib.hid (HB2.out.trans (hB3.mono HB2.out.size))
  have HR2 := Lib.hid hr
  have HR := Lib.hid (HR.out.below hB3)
  obtain rfl : m = n := by rw [hm, HN.out]
  clear h hm hr hB3
  obtain ⟨f, hf⟩ : ∃ f, f = (unitsOf l).isSome := ⟨_, rfl⟩
  have HF := Lib.hid hf
  rw [← hf]
  clear hf
  have gf : (f != f) = false := by cases f <;> rfl
  go_wp2_with fail
  refine (right_any s l w3 hs (by omega)).mono ?_
  rintro e w4 ⟨rfl, hB4⟩
  have HB4 := Lib.hid (HB3.out.trans (hB4.mono HB3.out.size))
  have HR := Lib.hid (HR.out.below hB4)
  have HR2 := Lib.hid (HR2.out.below hB4)
  rw [← HF.out]
  clear hB4
  go_wp2
  go_loopw [51] (fun x51 wr => ∃ (i : Nat), i ≤ m ∧ x51 = .int .i64 i ∧ Hid (Below w4.heap.size w4 wr)) (fun x51 _ => m - (intOf x51).toNat)
  case atStart => exact ⟨0, Nat.zero_le _, rfl, Lib.hid (Below.refl _ _)⟩
  case round =>
    obtain ⟨i, hi, rfl, hBw⟩ := hrel
    have HDN : Hid (∀ k, Below w4.heap.size w4 (wr.drewN k)) := Lib.hid (fun k => hBw.out.trans (below_drewN_iff.2 (Below.refl _ _)))
    have HB6 : Hid (Below w.heap.size w wr) := Lib.hid (HB4.out.trans (hBw.out.mono HB4.out.size))
    by_cases hin : i < m
    · have hil : i < ((unitsOf l).getD []).length := by rw [← HN.out]; exact hin
      obtain ⟨b, off, rfl, -, hc⟩ := (HR.out.below hBw.out).at hil
      replace hc : wr.cell? ⟨b, off + i, none⟩ = some (.int .u16 ((((unitsOf l).getD [])[i] : Nat) : Int)) := hc
      obtain ⟨b2, off2, rfl, -, hc2⟩ := (HR2.out.below hBw.out).at hil
      replace hc2 : wr.cell? ⟨b2, off2 + i, none⟩ = some (.int .u16 ((((unitsOf l).getD [])[i] : Nat) : Int)) := hc2
      generalize ((unitsOf l).getD [])[i] = u at *
      have g6 : (i : Int) < (m : Int) := by omega
      have g7 : ((u : Int) != (u : Int)) = false := by simp
      go_wp2
      go_quiet (fail)
      go_wp2
      go_roundw
      case rel => exact ⟨i + 1, by omega, by go_num, Lib.hid (HDN.out _)⟩
      case measure => simp [intOf] <;> omega
    · have hin' : i = m := by omega
      subst hin'
      have HT2 := Lib.hid (Tabs.below hT.out HB6.out)
      go_wp2_with fail
      refine (encode_any s l wr hs (by omega) HT2.out).mono ?_
      rintro e w5 h
      obtain ⟨rfl, hB5⟩ := enc_one h
      have HB7 := Lib.hid (HB6.out.trans (hB5.mono HB6.out.size))
      clear h hB5
      go_wp2_with fail
      refine (rencode_any s l w5 hs (by omega)).mono ?_
      rintro e w6 h
      obtain ⟨rfl, hB5⟩ := enc_one h
      have HB8 := Lib.hid (HB7.out.trans (hB5.mono HB7.out.size))
      clear h hB5
      obtain ⟨a, ha⟩ : ∃ a, a = strOf (encS l) := ⟨_, rfl⟩
      have HA := Lib.hid ha
      rw [← ha]
      clear ha
      obtain ⟨v, hv⟩ : ∃ v, v = Lib.validD l := ⟨_, rfl⟩
      have HV := Lib.hid hv
      rw [← hv]
      clear hv
      go_wp2_with fail
      refine (decode_any s l w6 hs (by omega)).mono ?_
      rintro e w7 h
      obtain ⟨rfl, hB5⟩ := dec_one h
      have HB9 := Lib.hid (HB8.out.trans (hB5.mono HB8.out.size))
      clear h hB5
      go_wp2_with fail
      refine (rdecode_any s l w7 hs (by omega)).mono ?_
      rintro e w8 h
      obtain ⟨rfl, hB5⟩ := dec_one h
      have HB10 := Lib.hid (HB9.out.trans (hB5.mono HB9.out.size))
      clear h hB5
      generalize decS l = dd
      generalize (decOf l).isSome = df
      have e1 : (a.toList == a.toList) = true := beq_self_eq_true _
      have e2 : (dd.toList == dd.toList) = true := beq_self_eq_true _
      have e3 : (v != v) = false := by cases v <;> rfl
      have e4 : (df != df) = false := by cases df <;> rfl
      have hel := encS_len l
      go_wp2_with fail
      refine (decode_any a (encS l) w8 HA (by omega)).mono ?_
      rintro e w9 h
      obtain ⟨rfl, hB5⟩ := dec_one h
      have HB11 := Lib.hid (HB10.out.trans (hB5.mono HB10.out.size))
      clear h hB5
      cases v with
      | false =>
        go_wp2
        go_ret
        exact ⟨rfl, HB11.out⟩
      | true =>
        have hd : decOf (encS l) = some s := by
          unfold encS
          rw [if_pos HV.out.symm, enc_dec HV.out.symm, hs.out]
        have e5 : (s.toList == s.toList) = true := beq_self_eq_true _
        rw [show decS (encS l) = s by unfold decS; rw [hd], hd]
        clear hd
        go_wp2
        go_ret
        exact ⟨rfl, HB11.out⟩
end Go.Proofs.YtbknkahakmfhkaaDoor
