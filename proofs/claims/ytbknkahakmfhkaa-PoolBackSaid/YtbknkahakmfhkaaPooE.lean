/- The document's right, Holds: they answer. -/
import Derived.Test.YtbknkahakmfhkaaPooD
namespace Go.Proofs.Ytbknkahakmfhkaa
open Go.RowKit
set_option linter.unusedVariables false
set_option linter.unusedSimpArgs false

def SomeB (w : World) (e : Ending) (w' : World) : Prop := Below w.heap.size w w' ∧ ∃ B : Bool, e = .returned (.bool B)
set_option maxRecDepth 100000 in
set_option maxHeartbeats 8000000 in
theorem right_leaf (a : Option Addr) (n c : Nat) (l : List RawK) (r : RawK) (w : World) (hl : l.length = n) (hn : n ≤ maxLen) (hr : RdW w a l) (ht : ¬ (r.tag = 9 ∨ r.tag = 10 ∨ r.tag = 11)) : Calls Try.prog 83 #[.slice a n c, .agg (rwE r).toArray] w (SomeB w) := by
  obtain ⟨t, s, bi, ra, rb⟩ := r
  simp only [rwE]
  have ht : ¬ (t = 9 ∨ t = 10 ∨ t = 11) := ht
  obtain ⟨w1, hw1⟩ : ∃ w1, w1 = w.alloc (.cells #[.int .i64 t, .string s, .int .u64 bi, .int .i64 ra, .int .i64 rb] RAW) := ⟨_, rfl⟩
  have hb1 : Below w.heap.size w w1 := by rw [hw1]; exact below_alloc w _
  have HT := Lib.hid (fun i u => tagged_any a n c l i u w1 hl hn (hr.below hb1))
  have HB := Lib.hid hb1
  rw [hw1] at HT HB
  clear hl hn hr hb1 hw1
  by_cases h78 : t = 7 ∨ t = 8
  · rcases h78 with rfl | rfl
    all_goals
      go_enter Try.func83, Try.ntmps83
      go_wp2_with fail
      refine (HT.out ra 1).mono ?_
      rintro e w' ⟨rfl, B, rfl, -⟩
      go_wp2
      go_ret
      exact ⟨HB.out, B, rfl⟩
  by_cases h12 : t = 12
  · subst h12
    go_enter Try.func83, Try.ntmps83
    go_wp2_with fail
    refine (HT.out ra 1).mono ?_
    rintro e w' ⟨rfl, B, rfl, -⟩
    cases B with
    | true =>
      go_wp2_with fail
      refine (HT.out rb 1).mono ?_
      rintro e w' ⟨rfl, B, rfl, -⟩
      cases B with
      | true =>
        go_wp2
        go_ret
        exact ⟨HB.out, true, rfl⟩
      | false =>
        go_wp2
        go_ret
        exact ⟨HB.out, false, rfl⟩
    | false =>
      go_wp2
      go_ret
      exact ⟨HB.out, false, rfl⟩
  have g7 : (t == 7) = false := by simp; omega
  have g8 : (t == 8) = false := by simp; omega
  have g9 : (t == 9) = false := by simp; omega
  have g10 : (t == 10) = false := by simp; omega
  have g11 : (t == 11) = false := by simp; omega
  have g12 : (t == 12) = false := by simp; omega
  have HFm := Lib.hid (form_any t (w.alloc (.cells #[.int .i64 t, .string s, .int .u64 bi, .int .i64 ra, .int .i64 rb] RAW)))
  clear ht h78 h12
  generalize formT t = f at HFm
  go_enter Try.func83, Try.ntmps83
  go_wp2_with fail
  refine HFm.out.mono ?_
  rintro e w' ⟨rfl, rfl⟩
  go_wp2
  go_ret
  exact ⟨HB.out, _, rfl⟩
set_option maxRecDepth 100000 in
set_option maxHeartbeats 8000000 in
theorem rright_any (a : Option Addr) (n c : Nat) (l : List RawK) (r : RawK) (w : World) (hl : l.length = n) (hn : n ≤ maxLen) (hr : RdW w a l) : Calls Try.prog 83 #[.slice a n c, .agg (rwE r).toArray] w (SomeB w) := by
  by_cases h9 : r.tag = 9 ∨ r.tag = 10 ∨ r.tag = 11
  · obtain ⟨t, s, bi, ra, rb⟩ := r
    simp only [rwE]
    have h9 : t = 9 ∨ t = 10 ∨ t = 11 := h9
    obtain ⟨w1, hw1⟩ : ∃ w1, w1 = w.alloc (.cells #[.int .i64 t, .string s, .int .u64 bi, .int .i64 ra, .int .i64 rb] RAW) := ⟨_, rfl⟩
    have hb1 : Below w.heap.size w w1 := by rw [hw1]; exact below_alloc w _
    have HT := Lib.hid (fun i u => tagged_any a n c l i u w1 hl hn (hr.below hb1))
    have HR := Lib.hid (fun (q : RawK) (w2 : World) (hq : q.tag = 7 ∨ q.tag = 12) (h2 : Below w1.heap.size w1 w2) => right_leaf a n c l q w2 hl hn ((hr.below hb1).below h2) (by omega))
    have HD := Lib.hid (And.intro hl (hr.below hb1))
    have HB := Lib.hid hb1
    unfold maxLen at hn
    rw [hw1] at HT HB HD HR
    clear hl hr hb1 hw1
    rcases h9 with rfl | rfl | rfl
    all_goals
      go_enter Try.func83, Try.ntmps83
      go_wp2_with fail
      refine (HT.out ra 7).mono ?_
      rintro e w' ⟨rfl, B, rfl, hB⟩
      cases B with
      | false =>
        clear hB
        go_wp2
        go_ret
        exact ⟨HB.out, false, rfl⟩
      | true =>
        obtain ⟨k, rfl, hk, q, hq, hqt⟩ := hB rfl
        have HQ := Lib.hid (And.intro hq hqt)
        clear hB hq hqt
        go_wp2_with fail
        refine (HT.out rb 12).mono ?_
        rintro e w' ⟨rfl, B, rfl, hB⟩
        cases B with
        | false =>
          clear hB
          go_wp2
          go_ret
          exact ⟨HB.out, false, rfl⟩
        | true =>
          obtain ⟨k2, rfl, hk2, q2, hq2, hqt2⟩ := hB rfl
          have HQ2 := Lib.hid (And.intro hq2 hqt2)
          clear hB hq2 hqt2
          obtain ⟨b, off, rfl, hc⟩ := HD.out.2.at (List.getElem?_eq_some_iff.1 HQ.out.1).1
          obtain ⟨b', off', hb', hc2⟩ := HD.out.2.at (List.getElem?_eq_some_iff.1 HQ2.out.1).1
          simp only [Option.some.injEq, Addr.mk.injEq, and_true] at hb'
          obtain ⟨rfl, rfl⟩ := hb'
          rw [(List.getElem?_eq_some_iff.1 HQ.out.1).2] at hc
          rw [(List.getElem?_eq_some_iff.1 HQ2.out.1).2] at hc2
          obtain ⟨c0, c1, c2, c3, c4⟩ := hc
          have HC2 := Lib.hid hc2
          clear hc2
          obtain ⟨t5, s5, bi5, ra5, rb5⟩ := q
          obtain ⟨t6, s6, bi6, ra6, rb6⟩ := q2
          have HRr := Lib.hid (HR.out ⟨t5, s5, bi5, ra5, rb5⟩ _ (.inl HQ.out.2) (Below.refl _ _))
          go_wp2_with fail
          refine HRr.out.mono ?_
          rintro e w3 ⟨hb3, B, rfl⟩
          have HX3 : Hid (w3.cell? ⟨w.heap.size, 4, none⟩ = some (.int .i64 (k2 : Int))) := Lib.hid (((Blk.new w RAW _).below hb3).cell rfl)
          have HB3 := Lib.hid (HB.out.trans (hb3.mono HB.out.size))
          have HC3 := Lib.hid (HC2.out.below hb3)
          have HR3 := Lib.hid (HR.out ⟨t6, s6, bi6, ra6, rb6⟩ w3 (.inr HQ2.out.2) hb3)
          clear c0 c1 c2 c3 c4 hb3
          cases B with
          | false =>
            go_wp2
            go_ret
            exact ⟨HB3.out, false, rfl⟩
          | true =>
            obtain ⟨d0, d1, d2, d3, d4⟩ := HC3.out
            have x3 := HX3.out
            go_wp2_with fail
            refine HR3.out.mono ?_
            rintro e w4 ⟨hb4, B, rfl⟩
            have HB4 := Lib.hid (HB3.out.trans (hb4.mono HB3.out.size))
            clear d0 d1 d2 d3 d4 x3 hb4
            cases B with
            | false =>
              go_wp2
              go_ret
              exact ⟨HB4.out, false, rfl⟩
            | true =>
              go_wp2
              go_ret
              exact ⟨HB4.out, true, rfl⟩
  · exact right_leaf a n c l r w hl hn hr h9
end Go.Proofs.Ytbknkahakmfhkaa
/- The document's Holds answers; the law's same. -/
namespace Go.Proofs.Ytbknkahakmfhkaa
open Go.RowKit
set_option linter.unusedVariables false
set_option linter.unusedSimpArgs false

set_option maxRecDepth 100000 in
set_option maxHeartbeats 8000000 in
theorem rholds_any (a : Option Addr) (n c : Nat) (l : List RawK) (w : World) (hl : l.length = n) (hn : n ≤ maxLen) (hr : RdW w a l) : Calls Try.prog 42 #[.slice a n c] w (SomeB w) := by
  have HH := Lib.hid (And.intro hl (And.intro hn hr))
  unfold maxLen at hn
  clear hl hr
  by_cases h0 : n = 0
  · subst h0
    go_enter Try.func42, Try.ntmps42
    go_wp2
    go_ret
    exact ⟨Below.refl _ _, false, rfl⟩
  have hn0 : 0 < n := by omega
  have g0 : ((n : Int) == 0) = false := by simp; omega
  obtain ⟨b, off, rfl, hc⟩ := HH.out.2.2.at (i := 0) (by rw [HH.out.1]; exact hn0)
  rw [Nat.zero_mul, Nat.add_zero] at hc
  obtain ⟨c0, c1, c2, c3, c4⟩ := hc
  generalize l[0]'(by rw [HH.out.1]; exact hn0) = r at c0 c1 c2 c3 c4
  obtain ⟨t, s, bi, ra, rb⟩ := r
  simp only at c0 c1 c2 c3 c4
  go_enter Try.func42, Try.ntmps42
  go_wp2
  any_goals (go_ret; exact ⟨Below.refl _ _, _, rfl⟩)
  clear c0 c1 c2 c3 c4
  go_loopw [16] (fun x16 wr => ∃ i : Nat, i ≤ n ∧ x16 = .int .i64 i ∧ Hid (Below w.heap.size w wr)) (fun x16 _ => n - (intOf x16).toNat)
  case atStart => exact ⟨0, Nat.zero_le _, rfl, Lib.hid (Below.refl _ _)⟩
  case round =>
    obtain ⟨i, hi, rfl, hB⟩ := hrel
    have HRr := Lib.hid (HH.out.2.2.below hB.out)
    by_cases hin : i < n
    · have hil : i < l.length := by rw [HH.out.1]; exact hin
      obtain ⟨b2, off2, hb2, hc⟩ := HRr.out.at hil
      simp only [Option.some.injEq, Addr.mk.injEq, and_true] at hb2
      obtain ⟨rfl, rfl⟩ := hb2
      obtain ⟨d0, d1, d2, d3, d4⟩ := hc
      have HRI := Lib.hid (fun (w2 : World) (h2 : Below wr.heap.size wr w2) => rright_any (some ⟨b, off, none⟩) n c l l[i] w2 HH.out.1 HH.out.2.1 (HRr.out.below h2))
      generalize l[i] = r at *
      obtain ⟨t1, s1, bi1, ra1, rb1⟩ := r
      simp only at d0 d1 d2 d3 d4
      by_cases hi0 : 0 < i
      · have hil1 : i - 1 < l.length := by omega
        obtain ⟨b3, off3, hb3, hc⟩ := HRr.out.at hil1
        simp only [Option.some.injEq, Addr.mk.injEq, and_true] at hb3
        obtain ⟨rfl, rfl⟩ := hb3
        have e0 := hc.c0
        generalize l[i - 1].tag = tp at e0
        have gi1 : (i : Int) - 1 = ((i - 1 : Nat) : Int) := by omega
        have gi0 : (0 : Int) < (i : Int) := by omega
        have HFm := Lib.hid (form_any tp wr)
        clear hc hil hil1
        by_cases h56 : formT tp = 56
        · rw [h56] at HFm
          clear h56
          go_wp2_with fail
          refine HFm.out.mono ?_
          rintro e w' ⟨rfl, rfl⟩
          go_wp2
          any_goals (go_ret; exact ⟨hB.out, _, rfl⟩)
          go_roundw
          case rel => exact ⟨i + 1, by omega, by go_num, hB⟩
          case measure => simp [intOf] <;> omega
        · have g5 : (formT tp == 56) = false := by simpa using h56
          generalize formT tp = f at HFm g5
          have HRn := Lib.hid (HRI.out wr (Below.refl _ _))
          clear h56
          go_wp2_with fail
          refine HFm.out.mono ?_
          rintro e w' ⟨rfl, rfl⟩
          go_wp2_with fail
          refine HRn.out.mono ?_
          rintro e w2 ⟨hb2, B, rfl⟩
          have HB2 := Lib.hid (hB.out.trans (hb2.mono hB.out.size))
          clear hb2 d0 d1 d2 d3 d4 e0
          cases B with
          | true =>
            go_wp2
            go_roundw
            case rel => exact ⟨i + 1, by omega, by go_num, HB2⟩
            case measure => simp [intOf] <;> omega
          | false =>
            go_wp2
            go_ret
            exact ⟨HB2.out, false, rfl⟩
      · have hz : i = 0 := by omega
        subst hz
        clear hil
        go_wp2
        go_roundw
        case rel => exact ⟨1, by omega, rfl, hB⟩
        case measure => simp [intOf] <;> omega
    · have hin' : i = n := by omega
      subst hin'
      have hil1 : i - 1 < l.length := by rw [HH.out.1]; omega
      obtain ⟨b3, off3, hb3, hc⟩ := HRr.out.at hil1
      simp only [Option.some.injEq, Addr.mk.injEq, and_true] at hb3
      obtain ⟨rfl, rfl⟩ := hb3
      have e0 := hc.c0
      generalize l[i - 1].tag = tp at e0
      have gi1 : (i : Int) - 1 = ((i - 1 : Nat) : Int) := by omega
      have HFm := Lib.hid (form_any tp wr)
      generalize formT tp = f at HFm
      clear hc hil1
      go_wp2_with fail
      refine HFm.out.mono ?_
      rintro e w' ⟨rfl, rfl⟩
      go_wp2
      go_ret
      exact ⟨hB.out, _, rfl⟩
end Go.Proofs.Ytbknkahakmfhkaa
