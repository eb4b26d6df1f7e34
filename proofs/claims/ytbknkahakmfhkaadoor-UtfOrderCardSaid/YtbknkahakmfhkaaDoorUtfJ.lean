/- The order's walks. -/
import Derived.Test.YtbknkahakmfhkaaDoorUtfH
namespace Go.Proofs.YtbknkahakmfhkaaDoor
open Go.RowKit
set_option linter.unusedVariables false
set_option linter.unusedSimpArgs false

/-- The order of two unit rows. -/
def lexU : List Nat → List Nat → Int
  | [], [] => 0
  | [], _ :: _ => -1
  | _ :: _, [] => 1
  | a :: x, b :: y => if a < b then -1 else if b < a then 1 else lexU x y
def sgnU (a b : Nat) : Int := if a < b then -1 else if b < a then 1 else 0
theorem lexU_cons (a b : Nat) (x y : List Nat) : lexU (a :: x) (b :: y) = if sgnU a b = 0 then lexU x y else sgnU a b := by
  unfold sgnU
  show (if a < b then -1 else if b < a then 1 else lexU x y) = _
  split
  · rfl
  · split
    · rfl
    · rfl
theorem lexU_nil (y : List Nat) : lexU [] y = if 0 < y.length then -1 else 0 := by cases y <;> rfl
theorem lexU_end (x : List Nat) (h : 0 < x.length) : lexU x [] = 1 := by cases x with | nil => simp at h | cons a x => rfl
theorem nan_any (u : Nat) (w : World) : Calls Tryd.prog 26 #[.int .u16 (u : Int)] w fun e w' => e = .returned (.bool false) ∧ w' = w := by
  have g : ((u : Int) != (u : Int)) = false := by simp
  go_enter Tryd.func26, Tryd.ntmps26
  go_wp2
  go_ret
  exact ⟨rfl, rfl⟩
set_option maxRecDepth 100000 in
set_option maxHeartbeats 8000000 in
theorem cmpu_any (u v : Nat) (w : World) : Calls Tryd.prog 25 #[.int .u16 (u : Int), .int .u16 (v : Int)] w fun e w' => e = .returned (.int .i64 (sgnU u v)) ∧ w' = w := by
  rcases Nat.lt_trichotomy u v with h | h | h
  · have hs : sgnU u v = -1 := by unfold sgnU; rw [if_pos h]
    have g1 : (u : Int) < (v : Int) := by omega
    rw [hs]
    clear hs h
    go_enter Tryd.func25, Tryd.ntmps25
    go_wp2_with fail
    refine (nan_any u _).mono ?_
    rintro e w1 ⟨rfl, rfl⟩
    go_wp2_with fail
    refine (nan_any v _).mono ?_
    rintro e w1 ⟨rfl, rfl⟩
    go_wp2
    go_ret
    exact ⟨rfl, rfl⟩
  · subst h
    have hs : sgnU u u = 0 := by unfold sgnU; rw [if_neg (by omega), if_neg (by omega)]
    rw [hs]
    clear hs
    go_enter Tryd.func25, Tryd.ntmps25
    go_wp2_with fail
    refine (nan_any u _).mono ?_
    rintro e w1 ⟨rfl, rfl⟩
    go_wp2_with fail
    refine (nan_any u _).mono ?_
    rintro e w1 ⟨rfl, rfl⟩
    go_wp2
    go_ret
    exact ⟨rfl, rfl⟩
  · have hs : sgnU u v = 1 := by unfold sgnU; rw [if_neg (by omega), if_pos h]
    have g1 : (v : Int) < (u : Int) := by omega
    have g2 : ¬ (u : Int) < (v : Int) := by omega
    rw [hs]
    clear hs h
    go_enter Tryd.func25, Tryd.ntmps25
    go_wp2_with fail
    refine (nan_any u _).mono ?_
    rintro e w1 ⟨rfl, rfl⟩
    go_wp2_with fail
    refine (nan_any v _).mono ?_
    rintro e w1 ⟨rfl, rfl⟩
    go_wp2
    go_ret
    exact ⟨rfl, rfl⟩
set_option maxRecDepth 100000 in
set_option maxHeartbeats 8000000 in
theorem cmpsl_any (p q : Option Addr) (n m c d : Nat) (us vs : List Nat) (w : World) (hn : us.length = n) (hm : vs.length = m) (hn1 : n ≤ 1000000) (hm1 : m ≤ 1000000) (hr : Rd w hE p us) (hv : Rd w hE q vs) (hu : ∀ x ∈ us, x < 65536) (hvu : ∀ x ∈ vs, x < 65536) :
  Calls Tryd.prog 22 #[.slice p n c, .slice q m d] w fun e w' => e = .returned (.int .i64 (lexU us vs)) ∧ w' = w := by
  have HR := Lib.hid (And.intro hr (And.intro hv (And.intro hu hvu)))
  have HN := Lib.hid (And.intro hn hm)
  clear hr hv hu hvu hn hm
  go_enter Tryd.func22, Tryd.ntmps22
  go_wp2
  go_loopw [11] (fun x11 wr => ∃ (i : Nat), i ≤ n ∧ i ≤ m ∧ x11 = .int .i64 i ∧ wr = w ∧ Hid (lexU us vs = lexU (us.drop i) (vs.drop i))) (fun x11 _ => n - (intOf x11).toNat)
  case atStart => exact ⟨0, Nat.zero_le _, Nat.zero_le _, rfl, rfl, Lib.hid rfl⟩
  case round =>
    obtain ⟨i, hi, him, rfl, rfl, hst⟩ := hrel
    by_cases hin : i < n
    · have hil : i < us.length := by rw [HN.out.1]; exact hin
      obtain ⟨b, off, rfl, -, hc⟩ := HR.out.1.at hil
      replace hc : wr.cell? ⟨b, off + i, none⟩ = some (.int .u16 ((us[i] : Nat) : Int)) := hc
      have hux := HR.out.2.2.1 us[i] (List.getElem_mem hil)
      have HDR : Hid (us.drop i = us[i] :: us.drop (i + 1)) := Lib.hid (List.drop_eq_getElem_cons hil)
      generalize us[i] = u at *
      by_cases hmm : i < m
      · have hil2 : i < vs.length := by rw [HN.out.2]; exact hmm
        obtain ⟨b2, off2, rfl, -, hc2⟩ := HR.out.2.1.at hil2
        replace hc2 : wr.cell? ⟨b2, off2 + i, none⟩ = some (.int .u16 ((vs[i] : Nat) : Int)) := hc2
        have hvx := HR.out.2.2.2 vs[i] (List.getElem_mem hil2)
        have HDR2 : Hid (vs.drop i = vs[i] :: vs.drop (i + 1)) := Lib.hid (List.drop_eq_getElem_cons hil2)
        generalize vs[i] = v at *
        have HST : Hid (lexU us vs = if sgnU u v = 0 then lexU (us.drop (i + 1)) (vs.drop (i + 1)) else sgnU u v) := Lib.hid (by rw [hst.out, HDR.out, HDR2.out, lexU_cons])
        have g1 : ¬ (m : Int) ≤ (i : Int) := by omega
        go_wp2_with fail
        refine (cmpu_any u v _).mono ?_
        rintro e w1 ⟨rfl, rfl⟩
        generalize sgnU u v = sg at *
        by_cases h0 : sg = 0
        · have HF : Hid (lexU us vs = lexU (us.drop (i + 1)) (vs.drop (i + 1))) := Lib.hid (by rw [HST.out, if_pos h0])
          subst h0
          go_wp2
          go_roundw
          case rel => exact ⟨i + 1, by omega, by omega, by go_num, trivial, HF⟩
          case measure => simp [intOf] <;> omega
        · have g2 : (sg != 0) = true := by simpa using h0
          have HF : Hid (lexU us vs = sg) := Lib.hid (by rw [HST.out, if_neg h0])
          go_wp2
          go_ret
          exact ⟨by rw [HF.out] <;> rfl, rfl⟩
      · have g1 : (m : Int) ≤ (i : Int) := by omega
        have HF : Hid (lexU us vs = 1) := Lib.hid (by rw [hst.out, show vs.drop i = [] from List.drop_of_length_le (by rw [HN.out.2]; omega), lexU_end _ (by rw [List.length_drop, HN.out.1]; omega)])
        go_wp2
        go_ret
        exact ⟨by rw [HF.out] <;> rfl, rfl⟩
    · have hin' : i = n := by omega
      have HF : Hid (lexU us vs = if n < m then -1 else 0) := Lib.hid (by
        rw [hst.out, show us.drop i = [] from List.drop_of_length_le (by rw [HN.out.1]; omega), lexU_nil, List.length_drop, HN.out.2, hin']
        by_cases h : n < m
        · rw [if_pos h, if_pos (by omega)]
        · rw [if_neg h, if_neg (by omega)])
      subst hin'
      by_cases h : i < m
      · have g1 : (i : Int) < (m : Int) := by omega
        rw [if_pos h] at HF
        go_wp2
        go_ret
        exact ⟨by rw [HF.out] <;> rfl, rfl⟩
      · have g1 : ¬ (i : Int) < (m : Int) := by omega
        rw [if_neg h] at HF
        go_wp2
        go_ret
        exact ⟨by rw [HF.out] <;> rfl, rfl⟩
/-- What Less answers. -/
def lessU (l m : List UInt8) : Bool :=
  match unitsOf l, unitsOf m with
  | some x, some y => decide (lexU x y < 0)
  | _, _ => Op.bytesLess l m
theorem lessU_none1 {l m : List UInt8} (h : unitsOf l = none) : lessU l m = Op.bytesLess l m := by unfold lessU; rw [h]
theorem lessU_none2 {l m : List UInt8} (h : unitsOf m = none) : lessU l m = Op.bytesLess l m := by
  unfold lessU; rw [h]; cases unitsOf l <;> rfl
theorem lessU_some {l m : List UInt8} {x y : List Nat} (h : unitsOf l = some x) (h2 : unitsOf m = some y) : lessU l m = decide (lexU x y < 0) := by
  unfold lessU; rw [h, h2]
def LessPost (w : World) (l m : List UInt8) (e : Ending) (w' : World) : Prop := e = .returned (.bool (lessU l m)) ∧ Below w.heap.size w w'
set_option maxRecDepth 100000 in
set_option maxHeartbeats 8000000 in
theorem less_any (s t : ByteArray) (l m : List UInt8) (w : World) (hs : Hid (s = strOf l)) (ht : Hid (t = strOf m)) (hl : l.length ≤ 1000000) (hm : m.length ≤ 1000000) :
  Calls Tryd.prog 16 #[.string s, .string t] w (LessPost w l m) := by
  have HB : Hid (Op.bytesLess s.toList t.toList = Op.bytesLess l m) := Lib.hid (by rw [hs.out, ht.out, strOf_toList, strOf_toList])
  go_enter Tryd.func16, Tryd.ntmps16
  go_wp2_with fail
  refine (units_any s l w hs hl).mono ?_
  rintro e w1 ⟨hB1, h⟩
  have HB1 := Lib.hid hB1
  clear hB1
  rcases h with ⟨hu, rfl⟩ | ⟨us, p, cc, hu, rfl, ho⟩
  · have HF := Lib.hid (lessU_none1 (m := m) hu)
    clear hu
    go_wp2_with fail
    refine (units_any t m w1 ht hm).mono ?_
    rintro e w2 ⟨hB2, h⟩
    have HB2 := Lib.hid (HB1.out.trans (hB2.mono HB1.out.size))
    clear hB2
    rcases h with ⟨-, rfl⟩ | ⟨vs, q, dd, -, rfl, -⟩
    · go_wp2
      go_ret
      exact ⟨by rw [HF.out, ← HB.out] <;> rfl, HB2.out⟩
    · go_wp2
      go_ret
      exact ⟨by rw [HF.out, ← HB.out] <;> rfl, HB2.out⟩
  · have HU := Lib.hid hu
    have HO := Lib.hid (And.intro ho.rd (unitsOf_len hu))
    have hn1 : us.length ≤ 1000000 := by have := HO.out.2.1; omega
    clear hu ho
    go_wp2_with fail
    refine (units_any t m w1 ht hm).mono ?_
    rintro e w2 ⟨hB2, h⟩
    have HB2 := Lib.hid (HB1.out.trans (hB2.mono HB1.out.size))
    have HR1 := Lib.hid (HO.out.1.below hB2)
    clear hB2
    rcases h with ⟨hv, rfl⟩ | ⟨vs, q, dd, hv, rfl, ho2⟩
    · have HF := Lib.hid (lessU_none2 (l := l) hv)
      clear hv
      go_wp2
      go_ret
      exact ⟨by rw [HF.out, ← HB.out] <;> rfl, HB2.out⟩
    · have HF := Lib.hid (lessU_some HU.out hv)
      have HO2 := Lib.hid (And.intro ho2.rd (unitsOf_len hv))
      have hm1 : vs.length ≤ 1000000 := by have := HO2.out.2.1; omega
      clear hv ho2
      go_wp2_with fail
      refine (cmpsl_any p q us.length vs.length cc dd us vs w2 rfl rfl hn1 hm1 HR1.out HO2.out.1 HO.out.2.2 HO2.out.2.2).mono ?_
      rintro e w3 ⟨rfl, rfl⟩
      generalize lexU us vs = sg at *
      go_wp2
      go_ret
      exact ⟨by rw [HF.out] <;> rfl, HB2.out⟩
set_option maxRecDepth 100000 in
set_option maxHeartbeats 8000000 in
theorem rless_any (s t : ByteArray) (l m : List UInt8) (w : World) (hs : Hid (s = strOf l)) (ht : Hid (t = strOf m)) (hl : l.length ≤ 1000000) (hm : m.length ≤ 1000000) :
  Calls Tryd.prog 17 #[.string s, .string t] w (LessPost w l m) := by
  have HB : Hid (Op.bytesLess s.toList t.toList = Op.bytesLess l m) := Lib.hid (by rw [hs.out, ht.out, strOf_toList, strOf_toList])
  go_enter Tryd.func17, Tryd.ntmps17
  go_wp2_with fail
  refine (runits_any s l w hs hl).mono ?_
  rintro e w1 ⟨hB1, h⟩
  have HB1 := Lib.hid hB1
  clear hB1
  rcases h with ⟨hu, rfl⟩ | ⟨us, p, cc, hu, rfl, ho⟩
  · have HF := Lib.hid (lessU_none1 (m := m) hu)
    clear hu
    go_wp2_with fail
    refine (runits_any t m w1 ht hm).mono ?_
    rintro e w2 ⟨hB2, h⟩
    have HB2 := Lib.hid (HB1.out.trans (hB2.mono HB1.out.size))
    clear hB2
    rcases h with ⟨-, rfl⟩ | ⟨vs, q, dd, -, rfl, -⟩
    · go_wp2
      go_ret
      exact ⟨by rw [HF.out, ← HB.out] <;> rfl, HB2.out⟩
    · go_wp2
      go_ret
      exact ⟨by rw [HF.out, ← HB.out] <;> rfl, HB2.out⟩
  · have HU := Lib.hid hu
    have HO := Lib.hid (And.intro ho.rd (unitsOf_len hu))
    obtain ⟨n, hn⟩ : ∃ n, n = us.length := ⟨_, rfl⟩
    have HN := Lib.hid hn
    rw [← hn]
    have hn1 : n ≤ 1000000 := by rw [hn]; have := HO.out.2.1; omega
    clear hu ho hn
    go_wp2_with fail
    refine (runits_any t m w1 ht hm).mono ?_
    rintro e w2 ⟨hB2, h⟩
    have HB2 := Lib.hid (HB1.out.trans (hB2.mono HB1.out.size))
    have HR1 := Lib.hid (HO.out.1.below hB2)
    clear hB2
    rcases h with ⟨hv, rfl⟩ | ⟨vs, q, dd, hv, rfl, ho2⟩
    · have HF := Lib.hid (lessU_none2 (l := l) hv)
      clear hv
      go_wp2
      go_ret
      exact ⟨by rw [HF.out, ← HB.out] <;> rfl, HB2.out⟩
    · have HF := Lib.hid (lessU_some HU.out hv)
      have HO2 := Lib.hid (And.intro ho2.rd (unitsOf_len hv))
      obtain ⟨k, hk⟩ : ∃ k, k = vs.length := ⟨_, rfl⟩
      have HK := Lib.hid hk
      rw [← hk]
      have hk1 : k ≤ 1000000 := by rw [hk]; have := HO2.out.2.1; omega
      clear hv ho2 hk
      go_wp2
      go_loopw [31] (fun x31 wr => ∃ (i : Nat), i ≤ n ∧ i ≤ k ∧ x31 = .int .i64 i ∧ Hid (Below w2.heap.size w2 wr) ∧ Hid (lexU us vs = lexU (us.drop i) (vs.drop i))) (fun x31 _ => n - (intOf x31).toNat)
      case atStart => exact ⟨0, Nat.zero_le _, Nat.zero_le _, rfl, Lib.hid (Below.refl _ _), Lib.hid rfl⟩
      case round =>
        obtain ⟨i, hi, him, rfl, hBw, hst⟩ := hrel
        have HDN : Hid (∀ k, Below w2.heap.size w2 (wr.drewN k)) := Lib.hid (fun k => hBw.out.trans (below_drewN_iff.2 (Below.refl _ _)))
        have HDN2 : Hid (∀ k j, Below w.heap.size w ((wr.drewN k).drewN j)) := Lib.hid (fun k j => HB2.out.trans ((hBw.out.trans (below_drewN_iff.2 (below_drewN_iff.2 (Below.refl _ _)))).mono HB2.out.size))
        have HB3 : Hid (Below w.heap.size w wr) := Lib.hid (HB2.out.trans (hBw.out.mono HB2.out.size))
        by_cases hin : i < n
        · have hil : i < us.length := by rw [← HN.out]; exact hin
          obtain ⟨b, off, rfl, -, hc⟩ := (HR1.out.below hBw.out).at hil
          replace hc : wr.cell? ⟨b, off + i, none⟩ = some (.int .u16 ((us[i] : Nat) : Int)) := hc
          have HDR : Hid (us.drop i = us[i] :: us.drop (i + 1)) := Lib.hid (List.drop_eq_getElem_cons hil)
          generalize us[i] = u at *
          by_cases hmm : i < k
          · have hil2 : i < vs.length := by rw [← HK.out]; exact hmm
            obtain ⟨b2, off2, rfl, -, hc2⟩ := (HO2.out.1.below hBw.out).at hil2
            replace hc2 : wr.cell? ⟨b2, off2 + i, none⟩ = some (.int .u16 ((vs[i] : Nat) : Int)) := hc2
            have HDR2 : Hid (vs.drop i = vs[i] :: vs.drop (i + 1)) := Lib.hid (List.drop_eq_getElem_cons hil2)
            generalize vs[i] = v at *
            have HST : Hid (lexU us vs = if sgnU u v = 0 then lexU (us.drop (i + 1)) (vs.drop (i + 1)) else sgnU u v) := Lib.hid (by rw [hst.out, HDR.out, HDR2.out, lexU_cons])
            have g1 : ((i : Int) == (k : Int)) = false := by simp; omega
            have g6 : (i : Int) < (n : Int) := by omega
            have g7 : (i : Int) < (k : Int) := by omega
            by_cases h0 : u = v
            · have HG : Hid (lexU us vs = lexU (us.drop (i + 1)) (vs.drop (i + 1))) := Lib.hid (by rw [HST.out, if_pos (by unfold sgnU; rw [if_neg (by omega), if_neg (by omega)])])
              have g2 : ((u : Int) != (v : Int)) = false := by simp; omega
              clear h0
              go_wp2
              go_quiet (fail)
              go_wp2
              go_roundw
              case rel => exact ⟨i + 1, by omega, by omega, by go_num, Lib.hid (HDN.out _), HG⟩
              case measure => simp [intOf] <;> omega
            · have g2 : ((u : Int) != (v : Int)) = true := by simp; omega
              have HG : Hid (decide (lexU us vs < 0) = decide (u < v)) := Lib.hid (by
                rw [HST.out]
                rcases Nat.lt_or_gt_of_ne h0 with h | h
                · rw [show sgnU u v = -1 from if_pos h, if_neg (by decide), decide_eq_true h]; rfl
                · rw [show sgnU u v = 1 by unfold sgnU; rw [if_neg (by omega), if_pos h], if_neg (by decide), decide_eq_false (by omega : ¬ u < v)]; rfl)
              clear h0
              go_wp2
              go_quiet (fail)
              go_wp2
              go_quiet (fail)
              go_wp2
              go_ret
              exact ⟨by rw [HF.out, HG.out] <;> rfl, HDN2.out _ _⟩
          · have g1 : ((i : Int) == (k : Int)) = true := by simp; omega
            have HG : Hid (lexU us vs = 1) := Lib.hid (by rw [hst.out, show vs.drop i = [] from List.drop_of_length_le (by rw [← HK.out]; omega), lexU_end _ (by rw [List.length_drop, ← HN.out]; omega)])
            go_wp2
            go_ret
            exact ⟨by rw [HF.out, HG.out] <;> rfl, HB3.out⟩
        · have hin' : i = n := by omega
          have HG : Hid (decide (lexU us vs < 0) = decide (n < k)) := Lib.hid (by
            rw [hst.out, show us.drop i = [] from List.drop_of_length_le (by rw [← HN.out]; omega), lexU_nil, List.length_drop, ← HK.out, hin']
            by_cases h : n < k
            · rw [if_pos (by omega)]; simp; omega
            · rw [if_neg (by omega)]; simp; omega)
          subst hin'
          go_wp2
          go_ret
          exact ⟨by rw [HF.out, HG.out] <;> rfl, HB3.out⟩
end Go.Proofs.YtbknkahakmfhkaaDoor
