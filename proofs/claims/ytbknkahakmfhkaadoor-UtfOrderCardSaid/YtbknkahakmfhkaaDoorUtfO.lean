/- The order law's walk. -/
import Derived.Test.YtbknkahakmfhkaaDoorUtfM
namespace Go.Proofs.YtbknkahakmfhkaaDoor
open Go.RowKit
set_option linter.unusedVariables false
set_option linter.unusedSimpArgs false

set_option maxRecDepth 100000 in
set_option maxHeartbeats 16000000 in
theorem order_any (s t u : ByteArray) (a b c : List UInt8) (w : World) (hs : Hid (s = strOf a)) (ht : Hid (t = strOf b)) (hu : Hid (u = strOf c)) (hT : Hid (Tabs w)) :
  Calls Tryd.prog 5 #[.string s, .string t, .string u] w (BoolPost true w) := by
  have HA : Hid (s.size = a.length) := Lib.hid (by rw [hs.out, str_size])
  have HBl : Hid (t.size = b.length) := Lib.hid (by rw [ht.out, str_size])
  have HC : Hid (u.size = c.length) := Lib.hid (by rw [hu.out, str_size])
  have HEQ : Hid ((s.toList == t.toList) = (a == b)) := Lib.hid (by rw [hs.out, ht.out, strOf_toList, strOf_toList])
  go_enter Tryd.func5, Tryd.ntmps5
  go_wp2_with fail
  refine (fixed_any w hT).mono ?_
  rintro e w1 ⟨rfl, hB1⟩
  have HB1 := Lib.hid hB1
  clear hB1
  by_cases h1 : 200 < s.size
  · have g1 : (200 : Int) < (s.size : Int) := by omega
    go_wp2
    go_ret
    exact ⟨rfl, HB1.out⟩
  have g1 : ¬ (200 : Int) < (s.size : Int) := by omega
  by_cases h2 : 200 < t.size
  · have g2 : (200 : Int) < (t.size : Int) := by omega
    go_wp2
    go_ret
    exact ⟨rfl, HB1.out⟩
  have g2 : ¬ (200 : Int) < (t.size : Int) := by omega
  by_cases h3 : 200 < u.size
  · have g3 : (200 : Int) < (u.size : Int) := by omega
    go_wp2
    go_ret
    exact ⟨rfl, HB1.out⟩
  have g3 : ¬ (200 : Int) < (u.size : Int) := by omega
  have la : a.length ≤ 1000000 := by have := HA.out; omega
  have lb : b.length ≤ 1000000 := by have := HBl.out; omega
  have lc : c.length ≤ 1000000 := by have := HC.out; omega
  have HAA := Lib.hid (less_irr a)
  have HORD := Lib.hid (less_order a b c)
  go_wp2_with fail
  refine (less_any s t a b w1 hs ht la lb).mono ?_
  rintro e w2 ⟨rfl, hB2⟩
  have HB2 := Lib.hid (HB1.out.trans (hB2.mono HB1.out.size))
  clear hB2
  go_wp2_with fail
  refine (rless_any s t a b w2 hs ht la lb).mono ?_
  rintro e w3 ⟨rfl, hB3⟩
  have HB3 := Lib.hid (HB2.out.trans (hB3.mono HB2.out.size))
  clear hB3
  obtain ⟨p, hp⟩ : ∃ p, p = lessU a b := ⟨_, rfl⟩
  have HP := Lib.hid hp
  rw [← hp]
  clear hp
  have gp : (p != p) = false := by cases p <;> rfl
  go_wp2_with fail
  refine (less_any s s a a w3 hs hs la la).mono ?_
  rintro e w4 ⟨rfl, hB4⟩
  have HB4 := Lib.hid (HB3.out.trans (hB4.mono HB3.out.size))
  clear hB4
  rw [HAA.out]
  go_wp2_with fail
  refine (right_any s a w4 hs la).mono ?_
  rintro e w5 ⟨rfl, hB5⟩
  have HB5 := Lib.hid (HB4.out.trans (hB5.mono HB4.out.size))
  clear hB5
  by_cases ra : (unitsOf a).isSome = true
  case neg =>
    rw [Bool.not_eq_true] at ra
    rw [ra]
    clear ra
    go_wp2
    go_ret
    exact ⟨rfl, HB5.out⟩
  have HORD := Lib.hid (HORD.out ra)
  rw [ra]
  clear ra
  go_wp2_with fail
  refine (right_any t b w5 ht lb).mono ?_
  rintro e w6 ⟨rfl, hB6⟩
  have HB6 := Lib.hid (HB5.out.trans (hB6.mono HB5.out.size))
  clear hB6
  by_cases rb : (unitsOf b).isSome = true
  case neg =>
    rw [Bool.not_eq_true] at rb
    rw [rb]
    clear rb
    go_wp2
    go_ret
    exact ⟨rfl, HB6.out⟩
  have HORD := Lib.hid (HORD.out rb)
  rw [rb]
  clear rb
  go_wp2_with fail
  refine (right_any u c w6 hu lc).mono ?_
  rintro e w7 ⟨rfl, hB7⟩
  have HB7 := Lib.hid (HB6.out.trans (hB7.mono HB6.out.size))
  clear hB7
  by_cases rc : (unitsOf c).isSome = true
  case neg =>
    rw [Bool.not_eq_true] at rc
    rw [rc]
    clear rc
    go_wp2
    go_ret
    exact ⟨rfl, HB7.out⟩
  have HORD := Lib.hid (HORD.out rc)
  rw [rc]
  clear rc
  go_wp2_with fail
  refine (less_any s t a b w7 hs ht la lb).mono ?_
  rintro e w8 ⟨rfl, hB8⟩
  have HB8 := Lib.hid (HB7.out.trans (hB8.mono HB7.out.size))
  clear hB8
  rw [← HP.out] at HORD ⊢
  cases p with
  | true =>
    go_wp2
    go_ret
    exact ⟨rfl, HB8.out⟩
  | false =>
    rw [Bool.false_or, Bool.and_eq_true] at HORD
    go_wp2_with fail
    refine (less_any t s b a w8 ht hs lb la).mono ?_
    rintro e w9 ⟨rfl, hB9⟩
    have HB9 := Lib.hid (HB8.out.trans (hB9.mono HB8.out.size))
    clear hB9
    obtain ⟨q, hq⟩ : ∃ q, q = lessU b a := ⟨_, rfl⟩
    have HQ := Lib.hid hq
    rw [← hq] at HORD ⊢
    clear hq
    obtain ⟨d, hd⟩ : ∃ d, d = (a == b) := ⟨_, rfl⟩
    rw [← hd] at HORD HEQ
    clear hd
    have gd := HEQ.out
    have HORD1 := HORD.out.1
    have HORD2 := Lib.hid HORD.out.2
    clear HORD HEQ
    cases q with
    | false =>
      have hd : d = true := by revert HORD1; cases d <;> decide
      subst hd
      go_wp2_with fail
      refine (less_any t s b a _ ht hs lb la).mono ?_
      rintro e w10 ⟨rfl, hB10⟩
      have HB10 := Lib.hid (HB9.out.trans (hB10.mono HB9.out.size))
      clear hB10
      rw [← HQ.out]
      go_wp2
      go_ret
      exact ⟨rfl, HB10.out⟩
    | true =>
      have hd : d = false := by revert HORD1; cases d <;> decide
      subst hd
      go_wp2_with fail
      refine (less_any t s b a _ ht hs lb la).mono ?_
      rintro e w10 ⟨rfl, hB10⟩
      have HB10 := Lib.hid (HB9.out.trans (hB10.mono HB9.out.size))
      clear hB10
      rw [← HQ.out]
      go_wp2_with fail
      refine (less_any s u a c _ hs hu la lc).mono ?_
      rintro e w11 ⟨rfl, hB11⟩
      have HB11 := Lib.hid (HB10.out.trans (hB11.mono HB10.out.size))
      clear hB11
      obtain ⟨r, hr⟩ : ∃ r, r = lessU a c := ⟨_, rfl⟩
      rw [← hr] at HORD2 ⊢
      clear hr
      cases r with
      | false =>
        go_wp2
        go_ret
        exact ⟨rfl, HB11.out⟩
      | true =>
        have hz : lessU b c = true := HORD2.out
        go_wp2_with fail
        refine (less_any t u b c _ ht hu lb lc).mono ?_
        rintro e w12 ⟨rfl, hB12⟩
        have HB12 := Lib.hid (HB11.out.trans (hB12.mono HB11.out.size))
        clear hB12
        rw [hz]
        go_wp2
        go_ret
        exact ⟨rfl, HB12.out⟩
end Go.Proofs.YtbknkahakmfhkaaDoor
