/- A word's bits, as they stand in a row. -/
import Derived.Test.YtgcdeadfkljeaaaPreD
import Derived.Test.YtgcdeadfkljeaaaInfT
import Derived.Test.YtgcdeadfkljeaaaInfM
import Derived.Deep.RegionHeld3
import Derived.Deep.DeepCutAuto
namespace Go.Proofs.Ytgcdeadfkljeaaa
open Go.RowKit
set_option linter.unusedVariables false
set_option linter.unusedSimpArgs false

/-- A text that is ranged over, on. -/
def setIB (w : World) (g : Nat) (s : ByteArray) (p : Nat) : World := { w with heap := w.heap.setIfInBounds g (.stringIter s p) }
theorem setIB_same {w : World} {g : Nat} {s : ByteArray} {p : Nat} (h : g < w.heap.size) : (setIB w g s p).heap[g]? = some (.stringIter s p) := by
  simp [setIB, h]
theorem grownBy_setIB (w : World) (g : Nat) (s : ByteArray) (p : Nat) : w.grownBy (setIB w g s p) (some g) :=
  ⟨rfl, rfl, rfl, by simp [setIB], fun k hk hne => by
    have : g ≠ k := fun e => hne (by rw [e])
    show (w.heap.setIfInBounds g _)[k]? = _
    rw [Array.getElem?_setIfInBounds, if_neg this]⟩
section
variable {P : Program} {w : World} {g pos : Nat} {s : ByteArray}
theorem run_next_ib (h : w.heap[g]? = some (.stringIter s pos)) (hp : pos < s.size) (ha : (s[pos]'hp).toNat < 128) (ty : TypeId) : (Instr.next (.pointer (some ⟨g, 0, none⟩)) true ty).run P w = .ok (.tuple #[.bool true, .int .i64 pos, .int .i32 (s[pos]'hp).toNat]) (setIB w g s (pos + 1)) := by
  simp only [Instr.next, getObj, setObj, Sem.run_bind, Sem.run, h, Result.andThen, hp, if_true, decode_ascii s pos hp ha]
  simp [goInt, Sem.run, h, setIB]
theorem run_next_ib_end (h : w.heap[g]? = some (.stringIter s pos)) (hp : ¬ pos < s.size) (ty : TypeId) : (Instr.next (.pointer (some ⟨g, 0, none⟩)) true ty).run P w = .ok (.tuple #[.bool false]) w := by
  simp [Instr.next, getObj, Sem.run, h, hp]
end
def itLeftB (n g : Nat) (w : World) : Nat := match w.heap[g]? with | some (.stringIter _ p) => n - p | _ => 0
theorem itLeftB_eq {n g p : Nat} {w : World} {s : ByteArray} (h : w.heap[g]? = some (.stringIter s p)) : itLeftB n g w = n - p := by unfold itLeftB; rw [h]
/-- A row of truths that a call gave: how many, and which. -/
def BitsPost (w : World) (l : List Bool) (e : Ending) (w' : World) : Prop := ∃ a c, e = .returned (.slice a l.length c) ∧ Rd w' Value.bool a l ∧ Below w.heap.size w w'
set_option maxRecDepth 100000 in
set_option maxHeartbeats 4000000 in
theorem written_any (s : ByteArray) (l : List Bool) (w : World) (hs : Hid (s = sB l)) (hl : l.length ≤ 1000000) :
  Calls Try.prog 70 #[.string s] w (BitsPost w l) := by
  have hsz : s.size = l.length := by rw [hs.out, sB_size]
  go_enter Try.func70, Try.ntmps70
  go_wp2
  obtain ⟨g, hg⟩ : ∃ g, g = w.heap.size := ⟨_, rfl⟩
  have HG : Hid (w.heap.size ≤ g ∧ g + 1 ≤ (w.iter s 0).heap.size) := Lib.hid ⟨by omega, by rw [hg]; simp [World.iter]⟩
  have HI : Hid ((w.iter s 0).heap[g]? = some (.stringIter s 0)) := Lib.hid (by rw [hg]; exact World.iter_heap w s 0)
  have HB2 : Hid (Below w.heap.size w (w.iter s 0)) := Lib.hid (below_alloc _ _)
  rw [← hg]
  clear hg
  go_loopw [3] (fun x3 wr => ∃ (i : Nat) (q : Option Addr) (d : Nat), i ≤ l.length ∧ x3 = .slice q i d ∧ Hid (wr.heap[g]? = some (.stringIter s i)) ∧ Own wr (g + 1) 4 Value.bool q i d (l.take i) ∧ Below w.heap.size w wr ∧ Hid (g + 1 ≤ wr.heap.size)) (fun _ wr => itLeftB l.length g wr)
  case atStart => exact ⟨0, none, 0, Nat.zero_le _, rfl, HI, Own.nil, HB2.out, Lib.hid HG.out.2⟩
  case round =>
    clear HI HB2
    obtain ⟨i, q, d, hi, rfl, hI, hO, hB, hge⟩ := hrel
    by_cases hil : i < l.length
    · have hgt : s[i]'(by omega) = chB l[i] := by
        have h2 : ∀ (q : ByteArray) (hq : i < q.size), q = sB l → q[i]'hq = chB l[i] := by
          rintro q hq rfl; exact sB_get _ _ _ hil
        exact h2 s (by omega) hs.out
      have hnx := fun ty => run_next_ib (P := Try.prog) hI.out (show i < s.size by omega) (by rw [hgt]; cases l[i] <;> decide) ty
      rw [hgt] at hnx
      have HT : Hid (l.take (i + 1) = l.take i ++ [l[i]]) := Lib.hid (List.take_succ_eq_append_getElem hil)
      have hgs := grownBy_setIB wr g s (i + 1)
      have hI2 : (setIB wr g s (i + 1)).heap[g]? = some (.stringIter s (i + 1)) := setIB_same (by have := hge.out; omega)
      have HM : Hid (itLeftB l.length g wr = l.length - i) := Lib.hid (itLeftB_eq hI.out)
      have hO2 : Own (setIB wr g s (i + 1)) (g + 1) 4 Value.bool q i d (l.take i) := hO.grown hgs (fun z hz e => by have := (hO.1.lt z (by rw [hz]; rfl)).1; simp only [Option.some.injEq] at e; omega)
      have hB2 : Below w.heap.size w (setIB wr g s (i + 1)) := hB.grown hgs hB.size (fun z hz => by simp only [Option.some.injEq] at hz; have := HG.out.1; omega)
      have hge2 : g + 1 ≤ (setIB wr g s (i + 1)).heap.size := Nat.le_trans hge.out hgs.size
      have HI2 := Lib.hid hI2
      clear hI hO hB hge hgs hI2
      have hnx2 := hnx
      clear hnx
      generalize setIB wr g s (i + 1) = w5 at *
      generalize hb : l[i] = b at *
      clear hgt hb
      have HW := Lib.hid (And.intro hB2 hge2)
      have hHG := HG.out.1
      cases b with
      | false =>
        replace hnx2 : ∀ ty, (Instr.next (.pointer (some ⟨g, 0, none⟩)) true ty).run Try.prog wr = .ok (.tuple #[.bool true, .int .i64 i, .int .i32 48]) w5 := hnx2
        clear hB2
        go_wp2_with (at_builtin; refine wpList_push slBool rfl _ _ rfl rfl rfl hO2 false ⟨w5.heap.size, 0, none⟩ rfl (cell_push rfl _ _) rfl (by omega) (by unfold maxLen; omega) hge2 ?_; intro a1 c1 w1 hown1 hg1; have HR1 : Hid (Below w.heap.size w w1 ∧ w1.heap[g]? = some (.stringIter s (i + 1)) ∧ g + 1 ≤ w1.heap.size) := Lib.hid ⟨HW.out.1.grown hg1 HW.out.1.size (fun z hz => by have := (hO2.1.lt z hz).1; omega), by rw [hg1.block g (by omega) (fun e => by have := (hO2.1.lt g e.symm).1; omega)]; exact HI2.out, Nat.le_trans HW.out.2 hg1.size⟩; clear hO2 hge2 hg1)
        go_roundw
        case rel => exact ⟨i + 1, a1, c1, by omega, rfl, Lib.hid HR1.out.2.1, by rw [HT.out]; exact hown1, HR1.out.1, Lib.hid HR1.out.2.2⟩
        case measure => rw [HM.out, itLeftB_eq HR1.out.2.1]; omega
      | true =>
        replace hnx2 : ∀ ty, (Instr.next (.pointer (some ⟨g, 0, none⟩)) true ty).run Try.prog wr = .ok (.tuple #[.bool true, .int .i64 i, .int .i32 49]) w5 := hnx2
        clear hB2
        go_wp2_with (at_builtin; refine wpList_push slBool rfl _ _ rfl rfl rfl hO2 true ⟨w5.heap.size, 0, none⟩ rfl (cell_push rfl _ _) rfl (by omega) (by unfold maxLen; omega) hge2 ?_; intro a1 c1 w1 hown1 hg1; have HR1 : Hid (Below w.heap.size w w1 ∧ w1.heap[g]? = some (.stringIter s (i + 1)) ∧ g + 1 ≤ w1.heap.size) := Lib.hid ⟨HW.out.1.grown hg1 HW.out.1.size (fun z hz => by have := (hO2.1.lt z hz).1; omega), by rw [hg1.block g (by omega) (fun e => by have := (hO2.1.lt g e.symm).1; omega)]; exact HI2.out, Nat.le_trans HW.out.2 hg1.size⟩; clear hO2 hge2 hg1)
        go_roundw
        case rel => exact ⟨i + 1, a1, c1, by omega, rfl, Lib.hid HR1.out.2.1, by rw [HT.out]; exact hown1, HR1.out.1, Lib.hid HR1.out.2.2⟩
        case measure => rw [HM.out, itLeftB_eq HR1.out.2.1]; omega
    · have hil' : i = l.length := by omega
      have HF : Hid (BitsPost w l (.returned (.slice q i d)) wr) := Lib.hid ⟨q, d, by rw [hil'], by rw [← List.take_of_length_le (Nat.le_of_eq hil'.symm)]; exact hO.rd, hB⟩
      have hnx := fun ty => run_next_ib_end (P := Try.prog) hI.out (show ¬ i < s.size by omega) ty
      clear hI hO hB hge hil'
      go_wp2
      go_ret
      exact HF.out
end Go.Proofs.Ytgcdeadfkljeaaa
/- A block's header, as it is written. -/
namespace Go.Proofs.Ytgcdeadfkljeaaa
open Go.RowKit
set_option linter.unusedVariables false
set_option linter.unusedSimpArgs false

theorem bitsI_any (v : Int) (n : Int) (w : World) (hv : 0 ≤ v ∧ v < 4294967296) (hn : n ≤ 1000000000) :
  Calls Try.prog 35 #[.int .u32 v, .int .i64 n] w fun e w' => ∃ a c L, e = .returned (.slice a n.toNat c) ∧ L.length = n.toNat ∧ Own w' w.heap.size 4 Value.bool a n.toNat c L ∧ Below w.heap.size w w' := by
  obtain ⟨k, rfl⟩ := Int.eq_ofNat_of_zero_le hv.1
  refine (bits_any k n w (by have := hv.2; omega) hn).mono ?_
  rintro e w' ⟨a, c, h1, h2, h3⟩
  exact ⟨a, c, _, h1, bitsL_length _ _, h2, h3⟩
/-- The lengths' own lengths, the first i. -/
def ownH (i : Nat) : List Int := (List.range 19).map fun j => if j < i then (if j < 13 then 4 else 5) else 0
theorem ownH_len (i : Nat) : (ownH i).length = 19 := by simp [ownH]
theorem ownH_set : ∀ i, i < 19 → ((ownH i).set i 5).set i 4 = (if i < 13 then ownH (i + 1) else ((ownH i).set i 5).set i 4) ∧ (¬ i < 13 → (ownH i).set i 5 = ownH (i + 1)) := by decide
def ownHL : List Int := [4, 4, 4, 4, 4, 4, 4, 4, 4, 4, 4, 4, 4, 5, 5, 5, 5, 5, 5]
theorem ownH_19 : ownH 19 = ownHL := by decide
theorem ownHL_kind : kindS ownHL ≠ 0 := by rw [kindS_eq]; decide +kernel
theorem rwv_le {l : List Int} (h : ∀ y ∈ l, 0 ≤ y ∧ y ≤ 15) (i : Nat) : (rwv l i).length ≤ 15 := by
  unfold rwv
  split
  · rw [wb_len]
    by_cases hi : i < l.length
    · have := h l[i] (List.getElem_mem hi)
      rw [List.getD_eq_getElem?_getD, List.getElem?_eq_getElem hi]
      simp only [Option.getD_some]
      omega
    · rw [List.getD_eq_getElem?_getD, List.getElem?_eq_none (by omega)]; simp
  · simp
abbrev BLT : TypeId := 4
theorem ord_nat : ∀ j, j < 19 → ∃ t : Nat, t < 19 ∧ orderL.getD j 0 = (t : Int) := by
  intro j hj
  have h : ∀ j, j < 19 → 0 ≤ orderL.getD j 0 ∧ orderL.getD j 0 < 19 := by decide
  obtain ⟨h1, h2⟩ := h j hj
  exact ⟨(orderL.getD j 0).toNat, by omega, by omega⟩
theorem ownHL_rng : ∀ y ∈ ownHL, 0 ≤ y ∧ y ≤ 15 := by decide
/-- What a call gives: a row of truths, and one more truth; where that holds, something does. -/
def HdrPost (w : World) (p : Prop) (e : Ending) (w' : World) : Prop := ∃ a k c ok L, e = .returned (.tuple #[.slice a k c, .bool ok]) ∧ L.length = k ∧ k ≤ 20000 ∧ Rd w' Value.bool a L ∧ Below w.heap.size w w' ∧ (ok = true → p)
set_option maxRecDepth 100000 in
set_option maxHeartbeats 16000000 in
theorem header_any (a : Option Addr) (n c : Nat) (l : List Int) (b : Option Addr) (m d : Nat) (k : List Int) (w : World) (hl : l.length = n) (hn : n ≤ 288) (hr : Rd w nE a l) (hk : k.length = m) (hm : m ≤ 32) (hrk : Rd w nE b k) :
  Calls Try.prog 36 #[.slice a n c, .slice b m d] w (HdrPost w (1 ≤ m)) := by
  have HL := Lib.hid (And.intro hl hk)
  have HR := Lib.hid (And.intro hr hrk)
  have HBAD : Hid (∀ w', Below w.heap.size w w' → HdrPost w (1 ≤ m) (.returned (.tuple #[.slice none 0 0, .bool false])) w') := Lib.hid (fun w' hb => ⟨none, 0, 0, false, [], rfl, rfl, by omega, .inl rfl, hb, by simp⟩)
  clear hl hr hk hrk
  go_enter Try.func36, Try.ntmps36
  by_cases h1 : n < 257
  · have c1 : decide ((n : Int) < 257) = true := decide_eq_true (by omega)
    go_wp2_with fail
    go_ret2
    exact HBAD.out _ (Below.refl _ _)
  have c1 : decide ((n : Int) < 257) = false := decide_eq_false (by omega)
  by_cases h2 : 286 < n
  · have c2 : decide ((286 : Int) < n) = true := decide_eq_true (by omega)
    go_wp2_with fail
    go_ret2
    exact HBAD.out _ (Below.refl _ _)
  have c2 : decide ((286 : Int) < n) = false := decide_eq_false (by omega)
  by_cases h3 : m < 1
  · have c3 : decide ((m : Int) < 1) = true := decide_eq_true (by omega)
    go_wp2_with fail
    go_ret2
    exact HBAD.out _ (Below.refl _ _)
  have c3 : decide ((m : Int) < 1) = false := decide_eq_false (by omega)
  by_cases h4 : 30 < m
  · have c4 : decide ((30 : Int) < m) = true := decide_eq_true (by omega)
    go_wp2_with fail
    go_ret2
    exact HBAD.out _ (Below.refl _ _)
  have c4 : decide ((30 : Int) < m) = false := decide_eq_false (by omega)
  go_wp2_with (at_make; refine wpList_mk (E := nE) (base := w.heap.size) slIntE rfl rfl _ _ rfl 19 rfl rfl rfl rfl (0 : Int) rfl (by omega) (by unfold maxLen; omega) (Nat.le_refl _) ?_; intro p1 w1 hown1 hg1)
  have HO1 : Hid (Own w1 w.heap.size 3 nE p1 19 19 (ownH 0) ∧ Below w.heap.size w w1) := Lib.hid ⟨hown1, below_of_grownBy hg1⟩
  clear hown1 hg1
  go_loopw [36] (fun x36 wr => ∃ (i : Nat), i ≤ 19 ∧ x36 = .int .i64 i ∧ Own wr w.heap.size 3 nE p1 19 19 (ownH i) ∧ Below w.heap.size w wr) (fun x36 _ => 19 - (intOf x36).toNat)
  case atStart => exact ⟨0, by omega, rfl, HO1.out.1, HO1.out.2⟩
  case round =>
    clear HO1
    obtain ⟨i, hi, rfl, hO, hB⟩ := hrel
    by_cases hi19 : i < 19
    · obtain ⟨q, y, rfl, hq1, hq2, hq3, k3, k4⟩ := hO.at hi19
      have hO2 := hO.set i hi19 5
      have hB2 := hB.setCell (p := ⟨q, i, none⟩) hq1 (nE 5)
      obtain ⟨q2, y2, e2, -, -, -, k5, k6⟩ := hO2.at hi19
      obtain rfl : q = q2 := by simpa using e2
      have hs := ownH_set i hi19
      by_cases h13 : i < 13
      · have c13 : decide ((i : Int) < 13) = true := decide_eq_true (by omega)
        have HO3 := Lib.hid (hO2.set i hi19 4)
        rw [hs.1, if_pos h13] at HO3
        have HB3 := Lib.hid (hB2.setCell (p := ⟨q, i, none⟩) hq1 (nE 4))
        clear hO hB hO2 hB2 e2 hs
        go_wp2
        go_roundw
        case rel => exact ⟨i + 1, by omega, by go_num, HO3.out, HB3.out⟩
        case measure => simp [intOf] <;> omega
      · have c13 : decide ((i : Int) < 13) = false := decide_eq_false (by omega)
        have HO3 := Lib.hid hO2
        rw [hs.2 h13] at HO3
        have HB3 := Lib.hid hB2
        clear hO hB hO2 hB2 e2 hs k5 k6
        go_wp2
        go_roundw
        case rel => exact ⟨i + 1, by omega, by go_num, HO3.out, HB3.out⟩
        case measure => simp [intOf] <;> omega
    · have hi' : i = 19 := by omega
      have HO2 := Lib.hid (And.intro hO hB)
      rw [hi', ownH_19] at HO2
      have HRO := Lib.hid HO2.out.1.rd
      have HQ := Lib.hid HO2.out.1
      have HB2 := Lib.hid HO2.out.2
      subst hi'
      clear hO hB HO2
      have HW := Lib.hid (rwords_any p1 19 19 ownHL wr rfl (by omega) HRO.out)
      go_wp2_with fail
      refine HW.out.mono ?_
      rintro e w2 ⟨hb2, ⟨hbad, -⟩ | ⟨-, p2, rfl, hown2⟩⟩
      · exact absurd hbad ownHL_kind
      have HB2' := Lib.hid (HB2.out.trans (hb2.mono HB2.out.size))
      have hs2 := HB2'.out.size
      have HO2 := Lib.hid (hown2.mono HB2.out.size)
      have HQ2 : Hid (Own w2 w.heap.size 3 nE p1 19 19 ownHL) := Lib.hid (HQ.out.below hb2)
      clear hb2 hown2 HW HRO HB2 HQ
      go_wp2_with fail
      refine (bitsI_any _ 5 _ (by omega) (by omega)).mono ?_
      rintro e w3 ⟨p3, d3, L3, rfl, hl3, hown3, hb3⟩
      have hb30 := below_trans0 HB2'.out hs2 hb3
      go_wp2_with fail
      refine (bitsI_any _ 5 _ (by omega) (by omega)).mono ?_
      rintro e w4 ⟨p4, d4, L4, rfl, hl4, hown4, hb4⟩
      have hown3b := (hown3.below hb4).mono hs2
      have hb40 := below_trans0 hb30 hb30.size hb4
      have hs4 := hb40.size
      have HK4 := Lib.hid (below_trans0 (Below.refl w2.heap.size w2) (Nat.le_refl _) (below_trans0 hb3 hb3.size hb4))
      have hown3c := hown3.below hb4
      have hs43 := HK4.out.size
      clear hb30 hb4 hb3 hown3
      go_wp2_with (at_builtin; refine wpList_cat slBool rfl _ _ rfl rfl hown3c rfl hl4 hown4.rd (bool_one _) (by omega) (by unfold maxLen; omega) hs43 ?_; intro p5 d5 w5 hown5 hg5 _ _; have hb5 := hown3c.step HK4.out hg5 hs43; clear hown3c hb40 hg5 hown4 hown3b HK4)
      refine (bitsI_any 15 4 _ (by omega) (by omega)).mono ?_
      rintro e w6 ⟨p6, d6, L6, rfl, hl6, hown6, hb6⟩
      have hown5b := hown5.below hb6
      have hb60 := below_trans0 hb5 hb5.size hb6
      have hs6 := hb60.size
      clear hown5 hb5 hb6
      go_wp2_with (at_builtin; refine wpList_cat slBool rfl _ _ rfl rfl hown5b rfl hl6 hown6.rd (bool_one _) (by omega) (by unfold maxLen; omega) hs6 ?_; intro p7 d7 w7 hown7 hg7 _ _; have hb7 := hown5b.step hb60 hg7 hs6; clear hown5b hb60 hg7 hown6)
      refine (rOrder_any _).mono ?_
      rintro e w8 ⟨kk, rfl, hord, hk8, hb8⟩
      have hb80 := below_trans0 hb7 hb7.size hb8
      have HW8 : Hid (Own w8 w.heap.size 3 nE p1 19 19 ownHL ∧ Own w8 w.heap.size 9 Value.string p2 19 19 ((rwsL ownHL).map sB) ∧ Blk w8 kk INT ordC ∧ Below w.heap.size w w8) := Lib.hid ⟨HQ2.out.below hb80, HO2.out.below hb80, hord, HB2'.out.trans (hb80.mono hs2)⟩
      have HOUT := Lib.hid ((hown7.below hb8).mono hs2)
      clear hown7 hb7 hb8 hb80 hord HQ2 HO2 hs6 hs4 hs43 hl3 hl4 hl6 HB2' hs2
      go_wp2
      go_loopw [10, 71] (fun x10 x71 wr => ∃ (j k : Nat) (q : Option Addr) (d : Nat) (L : List Bool), j ≤ 19 ∧ k ≤ 20 + 3 * j ∧ x10 = .slice q k d ∧ x71 = .int .i64 j ∧ Own wr w.heap.size BLT Value.bool q k d L ∧ Below w.heap.size w wr ∧ KeepT [BLT] w8 wr) (fun _ x71 _ => 19 - (intOf x71).toNat)
      case atStart => exact ⟨0, _, p7, d7, _, by omega, by simp, rfl, rfl, HOUT.out, HW8.out.2.2.2, KeepT.refl _ _⟩
      case round =>
        clear HOUT
        obtain ⟨j, k9, q, d, L, hj, hk9, rfl, rfl, hO, hB, hK⟩ := hrel
        have hsz := hB.size
        by_cases hj19 : j < 19
        · obtain ⟨t, ht, hot⟩ := ord_nat j hj19
          have hc1 : wr.cell? ⟨kk, j, none⟩ = some (.int .i64 (t : Int)) := by
            have := (arr_ordI (hK.blk HW8.out.2.2.1 (by decide))).cell hj19
            rwa [show listF orderL j = .int .i64 (t : Int) from by unfold listF; rw [hot]] at this
          obtain ⟨q1, y1, rfl, -, -, hy1, k3, k4⟩ := (hK.ownR HW8.out.1 (by decide)).at ht
          have hy2 := ownHL_rng y1 (List.mem_of_getElem? hy1)
          replace k3 : wr.cell? ⟨q1, t, none⟩ = some (.int .i64 y1) := k3
          clear hy1 hot k4
          go_wp2_with fail
          refine (bitsI_any _ 3 wr (by omega) (by omega)).mono ?_
          rintro e w9 ⟨p9, d9, L9, rfl, hl9, hown9, hb9⟩
          have hO9 := hO.below hb9
          have hB9 := below_trans0 hB hsz hb9
          have hK9 := hK.trans (KeepT.below hb9)
          have hs9 := hB9.size
          clear hO hB hK hb9 hc1 k3
          go_wp2_with (at_builtin; refine wpList_cat slBool rfl _ _ rfl rfl hO9 rfl hl9 hown9.rd (bool_one _) (by omega) (by unfold maxLen; omega) hs9 ?_; intro p10 d10 w10 hown10 hg10 _ _; have hb10 := hO9.step hB9 hg10 hs9; have hK10 := hK9.trans (KeepT.own hO9 (by decide) hg10); clear hO9 hB9 hK9 hg10 hown9)
          go_roundw
          case rel => exact ⟨j + 1, _, p10, d10, _, by omega, by omega, rfl, by go_num, hown10, hb10, hK10⟩
          case measure => simp [intOf] <;> omega
        · have hj' : j = 19 := by omega
          subst hj'
          have HWr := Lib.hid (And.intro (hK.ownR HW8.out.2.1 (by decide)) (And.intro hO hB))
          have hown0 := Own.empty (E := nE) wr INT (Nat.le_refl wr.heap.size)
          have hb6 := (Below.refl wr.heap.size wr).alloc (Nat.le_refl _) (.cells #[] INT)
          have hs6 := hb6.size
          have HQ0 := Lib.hid ((HR.out.1.below hB).below hb6)
          have HQ1 := Lib.hid (HR.out.2.below hB)
          clear hO hB hK
          go_wp2_with (first | (at_builtin; refine wpList_cat slIntE rfl _ _ rfl rfl hown0 rfl HL.out.1 HQ0.out (intOne _) (by omega) (by unfold maxLen; omega) hs6 ?_; intro a4 c4 w4 hown4 hg4 _ _; simp only [Nat.zero_add, List.nil_append] at hown4; have hb7 := hown0.step hb6 hg4 hs6; have hs7 := hb7.size; have HQ2 := Lib.hid (HQ1.out.below hb7); clear hown0 hb6 hg4) | (at_builtin; refine wpList_cat slIntE rfl _ _ rfl rfl hown4 rfl HL.out.2 HQ2.out (intOne _) (by omega) (by unfold maxLen; omega) hs7 ?_; intro a5 c5 w5 hown5 hg5 _ _; have hb8 := hown4.step hb7 hg5 hs7; clear hown4 hb7 hg5))
          have hs5 := Nat.le_trans HWr.out.2.2.size hb8.size
          have HW5 : Hid (Own w5 wr.heap.size INT nE a5 (n + m) c5 (l ++ k) ∧ Own w5 w.heap.size 9 Value.string p2 19 19 ((rwsL ownHL).map sB) ∧ Own w5 w.heap.size BLT Value.bool q k9 d L ∧ Below w.heap.size w w5) := Lib.hid ⟨hown5, HWr.out.1.below hb8, HWr.out.2.1.below hb8, HWr.out.2.2.trans (hb8.mono HWr.out.2.2.size)⟩
          have HLK : Hid ((l ++ k).length = n + m) := Lib.hid (by rw [List.length_append, HL.out.1, HL.out.2])
          clear hown5 hb8 HWr HQ0 HQ1 HQ2 hs7 hs6
          go_wp2
          go_loopw [10, 90] (fun x10 x90 wz => ∃ (i k0 : Nat) (q : Option Addr) (d : Nat) (L : List Bool), i ≤ n + m ∧ k0 ≤ 77 + 15 * i ∧ x10 = .slice q k0 d ∧ x90 = .int .i64 i ∧ Own wz w.heap.size BLT Value.bool q k0 d L ∧ Below w.heap.size w wz ∧ KeepT [BLT] w5 wz) (fun _ x90 _ => n + m - (intOf x90).toNat)
          case atStart => exact ⟨0, k9, q, d, L, by omega, by omega, rfl, rfl, HW5.out.2.2.1, HW5.out.2.2.2, KeepT.refl _ _⟩
          case round =>
            obtain ⟨i, k0, q', d', L', hi, hk0, rfl, rfl, hO, hB, hK⟩ := hrel
            have hsz := hB.size
            by_cases hin : i < n + m
            · obtain ⟨q1, y1, rfl, -, -, hy1, k3, k4⟩ := (hK.ownR HW5.out.1 (by decide)).at hin
              replace k3 : wr.cell? ⟨q1, i, none⟩ = some (.int .i64 y1) := k3
              have HO := Lib.hid (And.intro hO (And.intro hB hK))
              by_cases hy0 : y1 < 0
              · have g0 : decide (y1 < 0) = true := decide_eq_true hy0
                have HF := Lib.hid (HBAD.out wr hB)
                clear hO hB hK k4
                go_wp2
                go_ret2
                exact HF.out
              have g0 : decide (y1 < 0) = false := decide_eq_false hy0
              by_cases hy15 : 15 < y1
              · have g1 : decide (15 < y1) = true := decide_eq_true hy15
                have HF := Lib.hid (HBAD.out wr hB)
                clear hO hB hK k4
                go_wp2
                go_ret2
                exact HF.out
              have g1 : decide (15 < y1) = false := decide_eq_false hy15
              obtain ⟨t, rfl⟩ := Int.eq_ofNat_of_zero_le (show 0 ≤ y1 by omega)
              have ht : t < 19 := by omega
              obtain ⟨q2, s, rfl, -, -, hs2, k5, -⟩ := (hK.ownR HW5.out.2.1 (by decide)).at ht
              replace k5 : wr.cell? ⟨q2, t, none⟩ = some (.string s) := k5
              obtain ⟨lw, hlw, hse⟩ : ∃ lw : List Bool, lw.length ≤ 15 ∧ s = sB lw := by
                rw [List.getElem?_map] at hs2
                obtain ⟨lw, h1, h2⟩ := Option.map_eq_some_iff.1 hs2
                refine ⟨lw, ?_, h2.symm⟩
                obtain ⟨j, hj, rfl⟩ := List.mem_map.1 (List.mem_of_getElem? h1)
                exact rwv_le ownHL_rng j
              have HSE := Lib.hid hse
              clear hse hs2 k4 hy1
              go_wp2_with fail
              refine (written_any s lw wr HSE.out (by omega)).mono ?_
              rintro e w6 ⟨p6, d6, rfl, hrd6, hb6⟩
              have hO6 := hO.below hb6
              have hB6 := below_trans0 hB hsz hb6
              have hK6 := hK.trans (KeepT.below hb6)
              have hs6 := hB6.size
              clear hO hB hK hb6 k3 k5 HO
              go_wp2_with (at_builtin; refine wpList_cat slBool rfl _ _ rfl rfl hO6 rfl rfl hrd6 (bool_one _) (by omega) (by unfold maxLen; omega) hs6 ?_; intro p7 d7 w7 hown7 hg7 _ _; have hb7 := hO6.step hB6 hg7 hs6; have hK7 := hK6.trans (KeepT.own hO6 (by decide) hg7); clear hO6 hB6 hK6 hg7 hrd6)
              go_roundw
              case rel => exact ⟨i + 1, _, p7, d7, _, by omega, by omega, rfl, by go_num, hown7, hb7, hK7⟩
              case measure => simp [intOf] <;> omega
            · have hi' : i = n + m := by omega
              have HF : Hid (HdrPost w (1 ≤ m) (.returned (.tuple #[.slice q' k0 d', .bool true])) wr) := Lib.hid ⟨q', k0, d', true, L', rfl, hO.len, by omega, hO.rd, hB, fun _ => by omega⟩
              have gi : ((i : Int) < (n : Int) + (m : Int)) = False := by simp; omega
              clear hO hB hK hi'
              go_wp2
              go_ret2
              exact HF.out
end Go.Proofs.Ytgcdeadfkljeaaa
/- A block's signs, as they are written. -/
namespace Go.Proofs.Ytgcdeadfkljeaaa
open Go.RowKit
set_option linter.unusedVariables false
set_option linter.unusedSimpArgs false

/-- A slice that is read: where it lies, how long, what it holds. -/
structure SlV (α : Type) where
  p : Option Addr
  n : Nat
  c : Nat
  l : List α
abbrev SlV.v {α : Type} (s : SlV α) : Value := .slice s.p s.n s.c
structure SlOk {α : Type} (w : World) (E : α → Value) (s : SlV α) : Prop where
  len : s.l.length = s.n
  cap : s.n ≤ s.c ∧ s.c ≤ maxLen
  rd : Rd w E s.p s.l
theorem SlOk.below {α : Type} {w w' : World} {E : α → Value} {s : SlV α} (h : SlOk w E s) (hb : Below w.heap.size w w') : SlOk w' E s := ⟨h.len, h.cap, h.rd.below hb⟩
abbrev nU : Int → Value := fun x => .int .u32 x
/-- A block, as it is to be written. -/
structure PV where
  kd : Int
  ls : Bool
  row : SlV UInt8
  sg : SlV Int
  mo : SlV Int
  sp : Int
  le : SlV Int
  fa : SlV Int
abbrev PV.cs (p : PV) : Array Value := #[.int .u8 p.kd, .bool p.ls, p.row.v, p.sg.v, p.mo.v, .int .i64 p.sp, p.le.v, p.fa.v]
structure PvOk (w : World) (p : PV) : Prop where
  kd : 0 ≤ p.kd ∧ p.kd < 256
  sp : -9223372036854775808 ≤ p.sp ∧ p.sp ≤ 9223372036854775807
  row : SlOk w bE p.row
  sg : SlOk w nE p.sg
  sgr : ∀ x ∈ p.sg.l, -9223372036854775808 ≤ x ∧ x ≤ 9223372036854775807
  mo : SlOk w nU p.mo
  mor : ∀ x ∈ p.mo.l, 0 ≤ x ∧ x < 4294967296
  le : SlOk w nE p.le
  fa : SlOk w nE p.fa
theorem PvOk.below {w w' : World} {p : PV} (h : PvOk w p) (hb : Below w.heap.size w w') : PvOk w' p :=
  ⟨h.kd, h.sp, h.row.below hb, h.sg.below hb, h.sgr, h.mo.below hb, h.mor, h.le.below hb, h.fa.below hb⟩
abbrev PRT : TypeId := 33
def RowPost (w : World) (m : Nat) (e : Ending) (w' : World) : Prop := ∃ a k c L, e = .returned (.slice a k c) ∧ L.length = k ∧ k ≤ m ∧ Rd w' Value.bool a L ∧ Below w.heap.size w w'
theorem disK_bits (d : Nat) (h : d < 32) : 0 ≤ (disK (d : Int)).2.1 ∧ (disK (d : Int)).2.1 ≤ 13 := by
  have : ∀ d : Nat, d < 32 → 0 ≤ (disK (d : Int)).2.1 ∧ (disK (d : Int)).2.1 ≤ 13 := by decide
  exact this d h
theorem rws_at {l : List Int} (hk : kindS l ≠ 0) {t : Nat} {s : ByteArray} (h : ((rwsL l).map sB)[t]? = some s) : ∃ lw : List Bool, lw.length ≤ 15 ∧ s = sB lw := by
  rw [List.getElem?_map] at h
  obtain ⟨lw, h1, h2⟩ := Option.map_eq_some_iff.1 h
  refine ⟨lw, ?_, h2.symm⟩
  obtain ⟨j, hj, rfl⟩ := List.mem_map.1 (List.mem_of_getElem? h1)
  exact rwv_le (kindS_valid hk) j
set_option maxRecDepth 100000 in
set_option maxHeartbeats 16000000 in
theorem signs06_any (P : PV) (a : Option Addr) (n c : Nat) (l : List Int) (b : Option Addr) (m d : Nat) (k : List Int) (w : World) (hp : PvOk w P) (hsg : P.sg.n ≤ 40) (hmo : P.mo.n ≤ 80) (hl : l.length = n) (hn : n ≤ 288) (hr : Rd w nE a l) (hk : k.length = m) (hm : 1 ≤ m ∧ m ≤ 32) (hrk : Rd w nE b k) :
  Calls Try.prog 37 #[.agg P.cs, .slice a n c, .slice b m d] w (RowPost w 2100) := by
  have mixed : Try.prog.follows .mixedOrders = true := by kernel_rfl
  have HL := Lib.hid (And.intro hl hk)
  have HR := Lib.hid (And.intro hr hrk)
  have HP := Lib.hid hp
  obtain ⟨kd, ls, row, ⟨p0, n0, c0, l0⟩, ⟨p1, n1, c1, l1⟩, sp, le, fa⟩ := P
  simp only at hsg hmo
  have HNIL : Hid (∀ w', Below w.heap.size w w' → RowPost w 2100 (.returned (.slice none 0 0)) w') := Lib.hid (fun w' hb => ⟨none, 0, 0, [], rfl, rfl, by omega, .inl rfl, hb⟩)
  have HBX : Hid (Blk (w.alloc (.cells #[.int .u8 kd, .bool ls, row.v, .slice p0 n0 c0, .slice p1 n1 c1, .int .i64 sp, le.v, fa.v] PRT)) w.heap.size PRT #[.int .u8 kd, .bool ls, row.v, .slice p0 n0 c0, .slice p1 n1 c1, .int .i64 sp, le.v, fa.v] ∧ Below w.heap.size w (w.alloc (.cells #[.int .u8 kd, .bool ls, row.v, .slice p0 n0 c0, .slice p1 n1 c1, .int .i64 sp, le.v, fa.v] PRT))) := Lib.hid ⟨Blk.new _ _ _, below_alloc _ _⟩
  clear hl hr hk hrk hp
  go_enter Try.func37, Try.ntmps37
  go_wp2_with fail
  generalize w.alloc (.cells #[.int .u8 kd, .bool ls, row.v, .slice p0 n0 c0, .slice p1 n1 c1, .int .i64 sp, le.v, fa.v] PRT) = w1 at *
  obtain ⟨o, ho⟩ : ∃ o, o = w.heap.size := ⟨_, rfl⟩
  have HB1 : Hid (Blk w1 o PRT #[.int .u8 kd, .bool ls, row.v, .slice p0 n0 c0, .slice p1 n1 c1, .int .i64 sp, le.v, fa.v] ∧ Below w.heap.size w w1) := Lib.hid (by rw [ho]; exact HBX.out)
  rw [← ho]
  clear ho HBX
  refine (rwords_any a n c l w1 HL.out.1 (by omega) (HR.out.1.below HB1.out.2)).mono ?_
  rintro e w2 ⟨hb2, ⟨hk0, rfl⟩ | ⟨hk0, p2, rfl, hown2⟩⟩
  · have hb20 := below_trans0 HB1.out.2 HB1.out.2.size hb2
    go_wp2_with fail
    refine (rwords_any b m d k w2 HL.out.2 (by omega) (HR.out.2.below hb20)).mono ?_
    rintro e w3 ⟨hb3, ⟨hk1, rfl⟩ | ⟨hk1, p3, rfl, hown3⟩⟩
    · have HF := Lib.hid (HNIL.out w3 (below_trans0 hb20 hb20.size hb3))
      clear hb2 hb20 hb3 hk0 hk1
      go_wp2_with fail
      go_ret
      exact HF.out
    · have HF := Lib.hid (HNIL.out w3 (below_trans0 hb20 hb20.size hb3))
      clear hb2 hb20 hb3 hk0 hk1 hown3
      go_wp2_with fail
      go_ret
      exact HF.out
  have HK0 := Lib.hid hk0
  have hb20 := below_trans0 HB1.out.2 HB1.out.2.size hb2
  have HB2 : Hid (Blk w2 o PRT #[.int .u8 kd, .bool ls, row.v, .slice p0 n0 c0, .slice p1 n1 c1, .int .i64 sp, le.v, fa.v] ∧ Below w.heap.size w w2 ∧ Own w2 w1.heap.size 9 Value.string p2 n n ((rwsL l).map sB)) := Lib.hid ⟨HB1.out.1.below hb2, hb20, hown2⟩
  clear hk0 hb2 hb20 hown2 HB1
  go_wp2_with fail
  refine (rwords_any b m d k w2 HL.out.2 (by omega) (HR.out.2.below HB2.out.2.1)).mono ?_
  rintro e w3 ⟨hb3, ⟨hk1, rfl⟩ | ⟨hk1, p3, rfl, hown3⟩⟩
  · have HF := Lib.hid (HNIL.out w3 (below_trans0 HB2.out.2.1 HB2.out.2.1.size hb3))
    clear hb3 hk1
    go_wp2_with fail
    go_ret
    exact HF.out
  have HK1 := Lib.hid hk1
  have HB3 : Hid (Blk w3 o PRT #[.int .u8 kd, .bool ls, row.v, .slice p0 n0 c0, .slice p1 n1 c1, .int .i64 sp, le.v, fa.v] ∧ Below w.heap.size w w3 ∧ Own w3 w1.heap.size 9 Value.string p2 n n ((rwsL l).map sB) ∧ Own w3 w2.heap.size 9 Value.string p3 m m ((rwsL k).map sB)) := Lib.hid ⟨HB2.out.1.below hb3, below_trans0 HB2.out.2.1 HB2.out.2.1.size hb3, HB2.out.2.2.below hb3, hown3⟩
  clear hk1 hb3 hown3 HB2
  have hown0 := Own.empty (E := nE) w3 INT (Nat.le_refl w3.heap.size)
  have hb6 := (Below.refl w3.heap.size w3).alloc (Nat.le_refl _) (.cells #[] INT)
  have hs6 := hb6.size
  have hcA : (w3.alloc (.cells #[] INT)).cell? ⟨o, 3, none⟩ = some (.slice p0 n0 c0) := (HB3.out.1.below hb6).cell (i := 3) rfl
  have HQ0 := Lib.hid ((HP.out.sg.rd.below HB3.out.2.1).below hb6)
  go_wp2_with (first | (at_builtin; refine wpList_cat slIntE rfl _ _ rfl rfl hown0 rfl HP.out.sg.len HQ0.out (intOne _) (by omega) (by unfold maxLen; omega) hs6 ?_; intro a4 c4 w4 hown4 hg4 _ _; simp only [Nat.zero_add, List.nil_append] at hown4; have hb7 := hown0.step hb6 hg4 hs6; have hs7 := hb7.size; clear hown0 hb6 hg4 hcA) | (at_builtin; refine wpList_push slIntE rfl _ _ rfl rfl rfl hown4 (256 : Int) ⟨w4.heap.size, 0, none⟩ rfl (cell_push rfl _ _) rfl (by omega) (by unfold maxLen; omega) hs7 ?_; intro a5 c5 w5 hown5 hg5; have hb8 := hown4.step hb7 hg5 hs7; clear hown4 hb7 hg5))
  have HW5 : Hid (Own w5 w3.heap.size INT nE a5 (n0 + 1) c5 (l0 ++ [256]) ∧ Blk w5 o PRT #[.int .u8 kd, .bool ls, row.v, .slice p0 n0 c0, .slice p1 n1 c1, .int .i64 sp, le.v, fa.v] ∧ Below w.heap.size w w5 ∧ Own w5 w1.heap.size 9 Value.string p2 n n ((rwsL l).map sB) ∧ Own w5 w2.heap.size 9 Value.string p3 m m ((rwsL k).map sB)) := Lib.hid ⟨hown5, HB3.out.1.below hb8, HB3.out.2.1.trans (hb8.mono HB3.out.2.1.size), HB3.out.2.2.1.below hb8, HB3.out.2.2.2.below hb8⟩
  clear hown5 hb8 HB3 HQ0 hs7 hs6
  go_wp2
  go_loopw [11, 12, 47] (fun x11 x12 x47 wr => ∃ (i k0 : Nat) (at' : Nat) (q : Option Addr) (d0 : Nat) (L : List Bool), i ≤ n0 + 1 ∧ k0 ≤ 50 * i ∧ at' ≤ 2 * i ∧ x11 = .slice q k0 d0 ∧ x12 = .int .i64 at' ∧ x47 = .int .i64 i ∧ Own wr w.heap.size BLT Value.bool q k0 d0 L ∧ Below w.heap.size w wr ∧ KeepT [BLT] w5 wr) (fun _ _ x47 _ => n0 + 1 - (intOf x47).toNat)
  case atStart => exact ⟨0, 0, 0, none, 0, [], by omega, by omega, by omega, rfl, rfl, rfl, Own.nil, HW5.out.2.2.1, KeepT.refl _ _⟩
  case round =>
    obtain ⟨i, k0, at', q, d0, L, hi, hk0, hat, rfl, rfl, rfl, hO, hB, hK⟩ := hrel
    have hsz := hB.size
    by_cases hin : i < n0 + 1
    · obtain ⟨q1, y1, rfl, -, -, hy1, k3, k4⟩ := (hK.ownR HW5.out.1 (by decide)).at hin
      replace k3 : wr.cell? ⟨q1, i, none⟩ = some (.int .i64 y1) := k3
      have hyr : -9223372036854775808 ≤ y1 ∧ y1 ≤ 9223372036854775807 := by
        rcases List.mem_append.1 (List.mem_of_getElem? hy1) with h | h
        · exact HP.out.sgr y1 h
        · simp at h; omega
      have gi : ((i : Int) < (n0 : Int) + 1) = True := by simp; omega
      have HREL := Lib.hid (And.intro hO (And.intro hB hK))
      clear k4 hy1
      by_cases hy0 : y1 < 0
      · have g0 : decide (y1 < 0) = true := decide_eq_true hy0
        clear hO hB hK
        go_wp2
        go_roundw
        case rel => exact ⟨i + 1, k0, at', q, d0, L, by omega, by omega, by omega, rfl, rfl, by go_num, HREL.out.1, HREL.out.2.1, HREL.out.2.2⟩
        case measure => simp [intOf] <;> omega
      have g0 : decide (y1 < 0) = false := decide_eq_false hy0
      by_cases hyn : (n : Int) ≤ y1
      · have g1 : decide ((n : Int) ≤ y1) = true := decide_eq_true hyn
        clear hO hB hK
        go_wp2
        go_roundw
        case rel => exact ⟨i + 1, k0, at', q, d0, L, by omega, by omega, by omega, rfl, rfl, by go_num, HREL.out.1, HREL.out.2.1, HREL.out.2.2⟩
        case measure => simp [intOf] <;> omega
      have g1 : decide ((n : Int) ≤ y1) = false := decide_eq_false hyn
      obtain ⟨t, rfl⟩ := Int.eq_ofNat_of_zero_le (show 0 ≤ y1 by omega)
      have ht : t < n := by omega
      obtain ⟨q2, s, rfl, -, -, hs2, k5, -⟩ := (hK.ownR HW5.out.2.2.2.1 (by decide)).at ht
      replace k5 : wr.cell? ⟨q2, t, none⟩ = some (.string s) := k5
      obtain ⟨lw, hlw, hse⟩ := rws_at HK0.out hs2
      have HSE := Lib.hid hse
      clear hs2
      by_cases he : lw = []
      · subst he
        obtain rfl : s = ⟨#[]⟩ := hse
        clear hO hB hK
        go_wp2
        go_roundw
        case rel => exact ⟨i + 1, k0, at', q, d0, L, by omega, by omega, by omega, rfl, rfl, by go_num, HREL.out.1, HREL.out.2.1, HREL.out.2.2⟩
        case measure => simp [intOf] <;> omega
      have hne := toList_ne (s := s) (by rw [hse, sB_size]; exact List.length_pos_iff.2 he)
      clear hse
      go_wp2_with fail
      refine (written_any s lw wr HSE.out (by omega)).mono ?_
      rintro e w6 ⟨p6, d6, rfl, hrd6, hb6⟩
      have hO6 := hO.below hb6
      have hB6 := below_trans0 hB hsz hb6
      have hK6 := hK.trans (KeepT.below hb6)
      have hs6 := hB6.size
      clear hO hB hK hb6 k3 k5 HREL
      go_wp2_with (at_builtin; refine wpList_cat slBool rfl _ _ rfl rfl hO6 rfl rfl hrd6 (bool_one _) (by omega) (by unfold maxLen; omega) hs6 ?_; intro p7 d7 w7 hO7 hg7 _ _; have hB7 := hO6.step hB6 hg7 hs6; have hK7 := hK6.trans (KeepT.own hO6 (by decide) hg7); clear hO6 hB6 hK6 hg7 hrd6)
      refine (rlength_any (t : Int) _ hyr).mono ?_
      rintro e w' ⟨rfl, hw'⟩
      replace hw' := hw'.symm
      subst hw'
      have hlr := lenK_rng (t : Int)
      generalize lenK (t : Int) = LK at *
      obtain ⟨lv, lb, lo⟩ := LK
      simp only at hlr
      cases lo with
      | false =>
        clear hlr
        go_wp2
        go_roundw
        case rel => exact ⟨i + 1, _, at', p7, d7, _, by omega, by omega, by omega, rfl, rfl, by go_num, hO7, hB7, hK7⟩
        case measure => simp [intOf] <;> omega
      | true =>
        have hlr := hlr rfl
        have hs7 := hB7.size
        have hcM : w7.cell? ⟨o, 4, none⟩ = some (.slice p1 n1 c1) := (hK7.blk HW5.out.2.1 (by decide)).cell (i := 4) rfl
        have yword : ∀ (jj : Nat), jj < m → ∀ wx, KeepT [BLT] w5 wx → ∃ b3 s3 lw3, p3 = some ⟨b3, 0, none⟩ ∧ wx.cell? ⟨b3, jj, none⟩ = some (.string s3) ∧ lw3.length ≤ 15 ∧ Hid (s3 = sB lw3) := by
          intro jj hjj wx hkx
          obtain ⟨b3, s3, e3, -, -, hs3, hc3, -⟩ := (hkx.ownR HW5.out.2.2.2.2 (by decide)).at hjj
          obtain ⟨lw3, h1, h2⟩ := rws_at HK1.out hs3
          exact ⟨b3, s3, lw3, e3, hc3, h1, Lib.hid h2⟩
        have gml : ((m : Nat) : Int) % 4294967296 = (m : Int) := by omega
        by_cases hmo2 : at' + 1 < n1
        · have HM : Hid (SlOk w7 nU (SlV.mk p1 n1 c1 l1)) := Lib.hid (HP.out.mo.below hB7)
          obtain ⟨b1, off1, rfl, -, hv1⟩ := HM.out.rd.at (k := at') (by rw [HM.out.len]; show _ < n1; omega)
          obtain ⟨b1', off1', e1', -, hv2⟩ := HM.out.rd.at (k := at' + 1) (by rw [HM.out.len]; exact hmo2)
          obtain ⟨rfl, rfl⟩ : b1 = b1' ∧ off1 = off1' := by simpa using e1'
          have hv1r := HP.out.mor _ (List.getElem_mem (show at' < l1.length by have := HM.out.len; simp only at this; omega))
          have hv2r := HP.out.mor _ (List.getElem_mem (show at' + 1 < l1.length by have := HM.out.len; simp only at this; omega))
          simp only at hv1 hv2 hv1r hv2r
          generalize l1[at']'(by have := HM.out.len; simp only at this; omega) = v1 at *
          generalize l1[at' + 1]'(by have := HM.out.len; simp only at this; omega) = v2 at *
          replace hv1 : w7.cell? ⟨b1, off1 + at', none⟩ = some (.int .u32 v1) := hv1
          replace hv2 : w7.cell? ⟨b1, off1 + (at' + 1), none⟩ = some (.int .u32 v2) := hv2
          obtain ⟨jj, hjj⟩ := Int.eq_ofNat_of_zero_le (show 0 ≤ v2 % (m : Int) from Int.emod_nonneg _ (by omega))
          have hjl : jj < m := by have := Int.emod_lt_of_pos v2 (show (0 : Int) < m by omega); omega
          have yword := yword jj hjl
          clear e1'
          go_wp2
          go_quiet (fail)
          go_wp2_with fail
          refine (bitsI_any _ lb _ (by omega) (by omega)).mono ?_
          rintro e w8 ⟨p8, d8, L8, rfl, hl8, hown8, hb8⟩
          have hb8 := (below_drewN w7 w7.heap.size _).trans hb8
          have hO8 := hO7.below hb8
          have hB8 := below_trans0 hB7 hs7 hb8
          have hK8 := hK7.trans (KeepT.below hb8)
          have hs8 := hB8.size
          clear hO7 hB7 hK7 hb8 HM
          go_wp2_with (at_builtin; refine wpList_cat slBool rfl _ _ rfl rfl hO8 rfl hl8 hown8.rd (bool_one _) (by omega) (by unfold maxLen; omega) hs8 ?_; intro p9 d9 w9 hown9 hg9 _ _; have hb9 := hO8.step hB8 hg9 hs8; have hK9 := hK8.trans (KeepT.own hO8 (by decide) hg9); have HN := Lib.hid (yword w9 hK9); clear hO8 hB8 hK8 hg9 hown8; obtain ⟨b3, s3, lw3, e3, hc3, hlw3, hse3⟩ := HN.out; obtain rfl := e3; clear HN)
          refine (written_any s3 lw3 _ hse3 (by omega)).mono ?_
          rintro e w10 ⟨p10, d10, rfl, hrd10, hb10⟩
          have hO10 := hown9.below hb10
          have hB10 := below_trans0 hb9 hb9.size hb10
          have hK10 := hK9.trans (KeepT.below hb10)
          have hs10 := hB10.size
          clear hown9 hb9 hK9 hb10 hc3
          go_wp2_with (at_builtin; refine wpList_cat slBool rfl _ _ rfl rfl hO10 rfl rfl hrd10 (bool_one _) (by omega) (by unfold maxLen; omega) hs10 ?_; intro p11 d11 w11 hown11 hg11 _ _; have hb11 := hO10.step hB10 hg11 hs10; have hK11 := hK10.trans (KeepT.own hO10 (by decide) hg11); clear hO10 hB10 hK10 hg11 hrd10)
          refine (rdistance_any _ _ (by omega)).mono ?_
          rintro e w' ⟨rfl, hw'⟩
          replace hw' := hw'.symm
          subst hw'
          have HDK := disK_bits jj (by omega)
          generalize disK ((jj : Nat) : Int) = DK at *
          obtain ⟨dv, dbn, dok⟩ := DK
          simp only at HDK
          go_wp2_with fail
          refine (bitsI_any _ dbn _ (by omega) (by omega)).mono ?_
          rintro e w12 ⟨p12, d12, L12, rfl, hl12, hown12, hb12⟩
          have hO12 := hown11.below hb12
          have hB12 := below_trans0 hb11 hb11.size hb12
          have hK12 := hK11.trans (KeepT.below hb12)
          have hs12 := hB12.size
          clear hown11 hb11 hK11 hb12
          go_wp2_with (at_builtin; refine wpList_cat slBool rfl _ _ rfl rfl hO12 rfl hl12 hown12.rd (bool_one _) (by omega) (by unfold maxLen; omega) hs12 ?_; intro p13 d13 w13 hown13 hg13 _ _; have hb13 := hO12.step hB12 hg13 hs12; have hK13 := hK12.trans (KeepT.own hO12 (by decide) hg13); clear hO12 hB12 hK12 hg13 hown12)
          go_roundw
          case rel => exact ⟨i + 1, _, at' + 2, p13, d13, _, by omega, by omega, by omega, rfl, by go_num, by go_num, hown13, hb13, hK13⟩
          case measure => simp [intOf] <;> omega
        · have HM := Lib.hid trivial
          have yword := yword 0 (by omega)
          go_wp2_with fail
          refine (bitsI_any _ lb _ (by omega) (by omega)).mono ?_
          rintro e w8 ⟨p8, d8, L8, rfl, hl8, hown8, hb8⟩
          have hO8 := hO7.below hb8
          have hB8 := below_trans0 hB7 hs7 hb8
          have hK8 := hK7.trans (KeepT.below hb8)
          have hs8 := hB8.size
          clear hO7 hB7 hK7 hb8 HM
          go_wp2_with (at_builtin; refine wpList_cat slBool rfl _ _ rfl rfl hO8 rfl hl8 hown8.rd (bool_one _) (by omega) (by unfold maxLen; omega) hs8 ?_; intro p9 d9 w9 hown9 hg9 _ _; have hb9 := hO8.step hB8 hg9 hs8; have hK9 := hK8.trans (KeepT.own hO8 (by decide) hg9); have HN := Lib.hid (yword w9 hK9); clear hO8 hB8 hK8 hg9 hown8; obtain ⟨b3, s3, lw3, e3, hc3, hlw3, hse3⟩ := HN.out; obtain rfl := e3; clear HN)
          refine (written_any s3 lw3 _ hse3 (by omega)).mono ?_
          rintro e w10 ⟨p10, d10, rfl, hrd10, hb10⟩
          have hO10 := hown9.below hb10
          have hB10 := below_trans0 hb9 hb9.size hb10
          have hK10 := hK9.trans (KeepT.below hb10)
          have hs10 := hB10.size
          clear hown9 hb9 hK9 hb10 hc3
          go_wp2_with (at_builtin; refine wpList_cat slBool rfl _ _ rfl rfl hO10 rfl rfl hrd10 (bool_one _) (by omega) (by unfold maxLen; omega) hs10 ?_; intro p11 d11 w11 hown11 hg11 _ _; have hb11 := hO10.step hB10 hg11 hs10; have hK11 := hK10.trans (KeepT.own hO10 (by decide) hg11); clear hO10 hB10 hK10 hg11 hrd10)
          refine (rdistance_any _ _ (by omega)).mono ?_
          rintro e w' ⟨rfl, hw'⟩
          replace hw' := hw'.symm
          subst hw'
          have HDK := disK_bits 0 (by omega)
          generalize disK ((0 : Nat) : Int) = DK at *
          obtain ⟨dv, dbn, dok⟩ := DK
          simp only at HDK
          go_wp2_with fail
          refine (bitsI_any _ dbn _ (by omega) (by omega)).mono ?_
          rintro e w12 ⟨p12, d12, L12, rfl, hl12, hown12, hb12⟩
          have hO12 := hown11.below hb12
          have hB12 := below_trans0 hb11 hb11.size hb12
          have hK12 := hK11.trans (KeepT.below hb12)
          have hs12 := hB12.size
          clear hown11 hb11 hK11 hb12
          go_wp2_with (at_builtin; refine wpList_cat slBool rfl _ _ rfl rfl hO12 rfl hl12 hown12.rd (bool_one _) (by omega) (by unfold maxLen; omega) hs12 ?_; intro p13 d13 w13 hown13 hg13 _ _; have hb13 := hO12.step hB12 hg13 hs12; have hK13 := hK12.trans (KeepT.own hO12 (by decide) hg13); clear hO12 hB12 hK12 hg13 hown12)
          go_roundw
          case rel => exact ⟨i + 1, _, at', p13, d13, _, by omega, by omega, by omega, rfl, by go_num, by go_num, hown13, hb13, hK13⟩
          case measure => simp [intOf] <;> omega
    · have hi' : i = n0 + 1 := by omega
      have gi : ((i : Int) < (n0 : Int) + 1) = False := by simp; omega
      have HF : Hid (RowPost w 2100 (.returned (.slice q k0 d0)) wr) := Lib.hid ⟨q, k0, d0, L, rfl, hO.len, by omega, hO.rd, hB⟩
      clear hO hB hK hi'
      go_wp2
      go_ret
      exact HF.out
end Go.Proofs.Ytgcdeadfkljeaaa
/- A block's bits, as they are written. -/
namespace Go.Proofs.Ytgcdeadfkljeaaa
open Go.RowKit
set_option linter.unusedVariables false
set_option linter.unusedSimpArgs false

/-- append(s, x..), at a step of a region that draws its order. -/
theorem step_cat {P : Program} {ops : Array Oper} {o : Oper} {a : Act} {w : World} {K : Act → World → Prop} {Q : Exit → Act → World → Prop} {E' : Prop} {α : Type} {E : α → Value} {T e : TypeId} {z : Value} {bytes base : Nat}
    (hT : SlT P T e z 1 bytes) (hgd : o.guard = none) (s x : Operand) (ho : o.op = .call { callee := .builtin .append, args := #[s, x], argTypes := #[T, T] })
    {p : Option Addr} {n c : Nat} {l : List α} (hs : a.eval s = .slice p n c) (hown : Own w base e E p n c l)
    {q : Option Addr} {m d : Nat} {k : List α} (hx : a.eval x = .slice q m d) (hk : k.length = m) (hr : Rd w E q k) (h1 : ∀ y ∈ k, (E y).oneCell' = true)
    (hlen : (n + m) * bytes ≤ 140737488355328) (hlen2 : n + m ≤ maxLen) (hbase : base ≤ w.heap.size)
    (h : ∀ p' c' w', Own w' base e E p' (n + m) c' (l ++ k) → w.grownBy w' (Value.slice p n c).ownBlock → K (a.put o.dst (.slice p' (n + m) c')) w') :
    if Region.wanted o (yielded ops a.tmps) = true then Oper.wp P o a w K Q else E' := by
  rw [if_pos (by simp [Region.wanted, hgd])]
  exact wp_of_false (wp_of_list (ops := ops) hgd (wpList_cat hT hgd s x ho hs hown hx hk hr h1 hlen hlen2 hbase fun p' c' w' h2 h3 _ _ => ⟨rfl, h p' c' w' h2 h3⟩)) (fun _ _ h => h)
theorem size_prt : (Try.prog.info? PRT).map (·.size) = some 8 := by kernel_rfl
set_option maxRecDepth 100000 in
set_option maxHeartbeats 16000000 in
theorem bits06_any (P : PV) (hv : Nat) (w : World) (hp : PvOk w P) (hrow : P.row.n ≤ 100) (hsg : P.sg.n ≤ 40) (hmo : P.mo.n ≤ 80) (hle : P.le.n ≤ 286) (hfa : P.fa.n ≤ 30) (hh : hv ≤ 200000) :
  Calls Try.prog 12 #[.agg P.cs, .int .i64 (hv : Int)] w (RowPost w 30000) := by
  have mixed : Try.prog.follows .mixedOrders = true := by kernel_rfl
  have HP := Lib.hid hp
  obtain ⟨kd, ls, ⟨pr, nr, cr, lr⟩, ⟨ps, ns, cs, lsg⟩, ⟨pm, nm, cm, lm⟩, sp, ⟨pl, nl, cl, ll⟩, ⟨pf, nf, cf, lf⟩⟩ := P
  simp only at hrow hsg hmo hle hfa
  have hkd := hp.kd
  have hsp := hp.sp
  simp only at hkd hsp
  have HBX : Hid (Blk (w.alloc (.cells #[.int .u8 kd, .bool ls, .slice pr nr cr, .slice ps ns cs, .slice pm nm cm, .int .i64 sp, .slice pl nl cl, .slice pf nf cf] PRT)) w.heap.size PRT #[.int .u8 kd, .bool ls, .slice pr nr cr, .slice ps ns cs, .slice pm nm cm, .int .i64 sp, .slice pl nl cl, .slice pf nf cf] ∧ Below w.heap.size w (w.alloc (.cells #[.int .u8 kd, .bool ls, .slice pr nr cr, .slice ps ns cs, .slice pm nm cm, .int .i64 sp, .slice pl nl cl, .slice pf nf cf] PRT))) := Lib.hid ⟨Blk.new _ _ _, below_alloc _ _⟩
  clear hp
  go_enter Try.func12, Try.ntmps12
  have hc1 : (w.alloc (.cells #[.int .u8 kd, .bool ls, .slice pr nr cr, .slice ps ns cs, .slice pm nm cm, .int .i64 sp, .slice pl nl cl, .slice pf nf cf] PRT)).cell? ⟨w.heap.size, 1, none⟩ = some (.bool ls) := HBX.out.1.cell (i := 1) rfl
  go_upto_if 13 with fail
  clear hc1
  generalize w.alloc (.cells #[.int .u8 kd, .bool ls, .slice pr nr cr, .slice ps ns cs, .slice pm nm cm, .int .i64 sp, .slice pl nl cl, .slice pf nf cf] PRT) = w1 at *
  obtain ⟨o, ho⟩ : ∃ o, o = w.heap.size := ⟨_, rfl⟩
  have HB1 : Hid (Blk w1 o PRT #[.int .u8 kd, .bool ls, .slice pr nr cr, .slice ps ns cs, .slice pm nm cm, .int .i64 sp, .slice pl nl cl, .slice pf nf cf] ∧ Below w.heap.size w w1) := Lib.hid (by rw [ho]; exact HBX.out)
  rw [← ho]
  clear ho HBX
  go_cut [5] (fun x5 wx => ∃ u : Int, (u = 0 ∨ u = 1) ∧ x5 = .int .u32 u ∧ wx = w1)
  case first =>
    cases ls
    · go_wp2
      go_meet
      exact ⟨0, .inl rfl, rfl, rfl⟩
    · go_wp2
      go_meet
      exact ⟨1, .inr rfl, rfl, rfl⟩
  case rest =>
    obtain ⟨u, hu, rfl, hwc⟩ := hcut
    subst hwc
    have hc0 : wc.cell? ⟨o, 0, none⟩ = some (.int .u8 kd) := HB1.out.1.cell (i := 0) rfl
    have hs1 := HB1.out.2.size
    obtain ⟨kk, hkk⟩ : ∃ kk, kk = kd % 4 := ⟨_, rfl⟩
    have hkr : 0 ≤ kk ∧ kk < 4 := by omega
    have ht1 : Int.tmod kd 4 = kk := by rw [hkk]; exact Int.tmod_eq_emod_of_nonneg hkd.1
    have hw1 : IntKind.u32.wrap kk = kk := IntWalk.u32_in _ (by omega)
    replace hkk := hkk.symm
    have hu2 : 0 ≤ u ∧ u < 4294967296 := by omega
    go_wp2_with fail
    go_region_held3 (fun w' => w'.cell? ⟨o, 0, none⟩ = some (.int .u8 kd))
      (first | exact hc0 | exact hc4 | exact hc3 | exact hc2)
      (first | (go_at_call 35; refine (bitsI_any _ _ _ (by omega) (by omega)).mono ?_; rintro e wn ⟨pn, dn, Ln, rfl, hln, hownn, hbn⟩; first | (have hown2b := hown2.below hbn; have hb23 := below_trans0 hb2 hb2.size hbn; have hc3 : wn.cell? ⟨o, 0, none⟩ = some (.int .u8 kd) := (HB1.out.1.below hb23).cell (i := 0) rfl; have hl3 := hln; have hr3 := hownn.rd; clear hownn hown2 hbn) | (replace hbn := below_drewX hbn; have hc2 : wn.cell? ⟨o, 0, none⟩ = some (.int .u8 kd) := (HB1.out.1.below hbn).cell (i := 0) rfl; have hown2 := hownn; have hb2 := hbn; clear hownn hbn))
             | (refine step_cat slBool (by rfl) _ _ (by rfl) (by rfl) hown2b (by rfl) hl3 hr3 (bool_one _) (by omega) (by unfold maxLen; omega) hb23.size ?_; intro p4 d4 w4 hown4 hg4; have hb4 := hown2b.step hb23 hg4 hb23.size; have hc4 : w4.cell? ⟨o, 0, none⟩ = some (.int .u8 kd) := (HB1.out.1.below hb4).cell (i := 0) rfl)
             | fail)
    have e34 : Int.toNat 1 + Int.toNat 2 = 3 := rfl
    rw [e34] at hown4 ⊢
    clear e34
    obtain ⟨L4, hO4⟩ : ∃ L, Own w4 w.heap.size BLT Value.bool p4 3 d4 L := ⟨_, hown4.mono hs1⟩
    have HO4 : Hid (Own w4 w.heap.size BLT Value.bool p4 3 d4 L4 ∧ Below w.heap.size w w4 ∧ KeepT [BLT] wc w4) := Lib.hid ⟨hO4, HB1.out.2.trans (hb4.mono hs1), KeepT.below hb4⟩
    have HBK := Lib.hid HB1.out.1
    clear hO4 hown4 hb4 hc0 hc2 hc3 hown2b hr3 hl3 hb2 hb23 HB1 hg4 hs1
    by_cases hk0 : kk = 0
    · subst hk0
      go_wp2
      obtain ⟨tgt, ht3, ht10, htm⟩ : ∃ t : Nat, 3 ≤ t ∧ t ≤ 10 ∧ (hv + t) % 8 = 0 := ⟨3 + (8 - (hv + 3) % 8) % 8, by omega, by omega, by omega⟩
      go_loopw [6] (fun x6 wr => ∃ (k : Nat) (q : Option Addr) (d : Nat) (L : List Bool), 3 ≤ k ∧ k ≤ tgt ∧ x6 = .slice q k d ∧ Own wr w.heap.size BLT Value.bool q k d L ∧ Below w.heap.size w wr ∧ KeepT [BLT] wc wr) (fun x6 _ => tgt - lenOf7 x6)
      case atStart => exact ⟨3, p4, d4, L4, by omega, by omega, rfl, HO4.out.1, HO4.out.2.1, HO4.out.2.2⟩
      case round =>
        clear HO4
        obtain ⟨k, q, d, L, hk3, hkt, rfl, hO, hB, hK⟩ := hrel
        have hsz := hB.size
        by_cases hkk2 : k = tgt
        · have gz : ((hv : Int) + (k : Int)) % 8 = 0 := by omega
          have hcr : wr.cell? ⟨o, 2, none⟩ = some (.slice pr nr cr) := (hK.blk HBK.out (by decide)).cell (i := 2) rfl
          have hc5 : wr.cell? ⟨o, 5, none⟩ = some (.int .i64 sp) := (hK.blk HBK.out (by decide)).cell (i := 5) rfl
          have HX := Lib.hid (And.intro (HP.out.below hB) (And.intro hB (hK.blk HBK.out (by decide))))
          obtain ⟨s2, hs2⟩ : ∃ s2, Int.tmod sp 2 = s2 := ⟨_, rfl⟩
          have hs2r : -1 ≤ s2 ∧ s2 ≤ 1 := by
            have h1 := Int.tmod_lt_of_pos sp (show (0 : Int) < 2 by decide)
            have h2 := Int.lt_tmod_of_pos sp (show (0 : Int) < 2 by decide)
            omega
          obtain ⟨a1, ha1⟩ : ∃ a1 : Int, a1 = 65535 - (nr : Int) := ⟨_, rfl⟩
          obtain ⟨a2, ha2⟩ : ∃ a2 : Int, a2 = a1 + s2 := ⟨_, rfl⟩
          have ha1r : 65435 ≤ a1 ∧ a1 ≤ 65535 := by omega
          have ha2r : 0 ≤ a2 ∧ a2 < 4294967296 := by omega
          have hnr : 0 ≤ (nr : Int) ∧ (nr : Int) < 4294967296 := by omega
          have e1 : IntKind.u32.wrap (nr : Int) = (nr : Int) := IntWalk.u32_in _ (by omega)
          have e2 : IntKind.i64.wrap (65535 - (nr : Int)) = a1 := by rw [← ha1]; exact IntWalk.i64_in _ (by omega)
          have e3 : IntKind.i64.wrap (a1 + s2) = a2 := by rw [← ha2]; exact IntWalk.i64_in _ (by omega)
          have e4 : IntKind.u32.wrap a2 = a2 := IntWalk.u32_in _ (by omega)
          clear ha1 ha2 hK hkk2
          go_wp2_with fail
          clear hcr gz
          go_region_held3 (fun w' => w'.cell? ⟨o, 5, none⟩ = some (.int .i64 sp))
            (first | exact hc5 | exact hc9 | exact hc8 | exact hc7 | exact hc6)
            (first | (go_at_call 35; refine (bitsI_any _ _ _ (by first | exact hnr | exact ha2r) (by decide)).mono ?_; rintro e wn ⟨pn, dn, Ln, rfl, hln, hownn, hbn⟩; first | (have hO8 := hO7.below hbn; have hb8 := hb7.trans (hbn.mono hs7); have hk8 := hk7.trans (KeepT.below hbn); have hs8 := Nat.le_trans hs7 hbn.size; have hc8 : wn.cell? ⟨o, 5, none⟩ = some (.int .i64 sp) := (hk8.blk HX.out.2.2 (by decide)).cell (i := 5) rfl; have hl8 := hln; have hr8 := hownn.rd; clear hownn hbn) | (replace hbn := below_drewX hbn; have hO6 := hO.below hbn; have hb6 := hbn.mono hsz; have hk6 := KeepT.below (S := [BLT]) hbn; have hs6 := Nat.le_trans hsz hbn.size; have hc6 : wn.cell? ⟨o, 5, none⟩ = some (.int .i64 sp) := (hk6.blk HX.out.2.2 (by decide)).cell (i := 5) rfl; have hl6 := hln; have hr6 := hownn.rd; clear hownn hbn))
                   | (refine step_cat slBool (by rfl) _ _ (by rfl) (by rfl) hO8 (by rfl) hl8 hr8 (bool_one _) (by omega) (by unfold maxLen; omega) hs8 ?_; intro p9 d9 w9 hown9 hg9; have hb9 := hO8.step hb8 hg9 hs8; have hk9 := hk8.trans (KeepT.own hO8 (by decide) hg9); have hc9 : w9.cell? ⟨o, 5, none⟩ = some (.int .i64 sp) := (hk9.blk HX.out.2.2 (by decide)).cell (i := 5) rfl)
                   | (refine step_cat slBool (by rfl) _ _ (by rfl) (by rfl) hO6 (by rfl) hl6 hr6 (bool_one _) (by omega) (by unfold maxLen; omega) hs6 ?_; intro p7 d7 w7 hO7 hg7; have hb7 := hO6.step hb6 hg7 hs6; have hk7 := hk6.trans (KeepT.own hO6 (by decide) hg7); have hs7 : w.heap.size ≤ w7.heap.size := Nat.le_trans hs6 hg7.size; have hc7 : w7.cell? ⟨o, 5, none⟩ = some (.int .i64 sp) := (hk7.blk HX.out.2.2 (by decide)).cell (i := 5) rfl)
                   | fail)
          have hcr9 : w9.cell? ⟨o, 2, none⟩ = some (.slice pr nr cr) := (hk9.blk HX.out.2.2 (by decide)).cell (i := 2) rfl
          have hB9 := HX.out.2.1.trans hb9
          have hs9 := hB9.size
          clear hb9 hk9 hc5 hc6 hc7 hc8 hc9 hg7 hg9 hk6 hk7 hk8 hb6 hb7 hb8 hO6 hO7 hO8 hr6 hr8
          go_wp2_with fail
          refine (of_any pr nr cr lr w9 HP.out.row.len (by omega) (HP.out.row.rd.below hB9)).mono ?_
          rintro e w10 ⟨p10, d10, rfl, hown10, hb10⟩
          have hO10 := hown9.below hb10
          have hB10 := below_trans0 hB9 hs9 hb10
          have hs10 := hB10.size
          have hlo : (ofL lr).length = 8 * nr := by rw [ofL_length, HP.out.row.len]
          clear hcr9 hb10 hB9 hown9
          go_wp2_with (at_builtin; refine wpList_cat slBool rfl _ _ rfl rfl hO10 rfl hlo hown10.rd (bool_one _) (by omega) (by unfold maxLen; omega) hs10 ?_; intro p11 d11 w11 hown11 hg11 _ _; have hb11 := hO10.step hB10 hg11 hs10; clear hO10 hB10 hg11 hown10)
          go_ret
          exact ⟨_, _, _, _, rfl, hown11.len, by omega, hown11.rd, hb11⟩
        · have gz : (((hv : Int) + (k : Int)) % 8 != 0) = true := by simp; omega
          go_wp2_with (at_builtin; refine wpList_push slBool rfl _ _ rfl rfl rfl hO false ⟨wr.heap.size, 0, none⟩ rfl (cell_push rfl _ _) rfl (by omega) (by unfold maxLen; omega) hsz ?_; intro a1 c1 w5 hown1 hg1; have hB1 := hO.step hB hg1 hsz; have hK1 := hK.trans (KeepT.own hO (by decide) hg1); clear hO hB hK hg1)
          go_roundw
          case rel => exact ⟨k + 1, a1, c1, _, by omega, by omega, rfl, hown1, hB1, hK1⟩
          case measure => simp [lenOf7]; omega
    · have hkb : (kk == 0) = false := by simpa using hk0
      clear hk0
      go_wp2_with fail
      refine (rFixed_any w4).mono ?_
      rintro e w5 ⟨p5, d5, p6, d6, rfl, hr5, hr6, hb5⟩
      have hB5 := below_trans0 HO4.out.2.1 HO4.out.2.1.size hb5
      have hs5 := hB5.size
      have HX5 := Lib.hid (And.intro (HP.out.below hB5) (HBK.out))
      have HB5 := Lib.hid (And.intro (HO4.out.1.below hb5) (And.intro hB5 (HO4.out.2.2.trans (KeepT.below hb5))))
      have HR5 := Lib.hid (And.intro hr5 hr6)
      clear HO4 hb5 hB5 hr5 hr6
      have hc0 : w5.cell? ⟨o, 0, none⟩ = some (.int .u8 kd) := (HB5.out.2.2.blk HBK.out (by decide)).cell (i := 0) rfl
      by_cases hk2 : kk = 2
      · subst hk2
        have hc6 : w5.cell? ⟨o, 6, none⟩ = some (.slice pl nl cl) := (HB5.out.2.2.blk HBK.out (by decide)).cell (i := 6) rfl
        have hc7 : w5.cell? ⟨o, 7, none⟩ = some (.slice pf nf cf) := (HB5.out.2.2.blk HBK.out (by decide)).cell (i := 7) rfl
        go_wp2_with fail
        go_quiet (fail)
        go_wp2_with fail
        refine (header_any pl nl cl ll pf nf cf lf _ HX5.out.1.le.len (by omega) (HX5.out.1.le.rd.below (below_drewN w5 w5.heap.size _)) HX5.out.1.fa.len (by omega) (HX5.out.1.fa.rd.below (below_drewN w5 w5.heap.size _))).mono ?_
        rintro e w6 ⟨p7, k7, d7, ok, L7, rfl, hl7, hk7, hr7, hb7, hok⟩
        replace hb7 : Below w5.heap.size w5 w6 := (below_drewN w5 w5.heap.size _).trans hb7
        have hO7 := HB5.out.1.below hb7
        have hB7 := below_trans0 HB5.out.2.1 hs5 hb7
        have hK7 := HB5.out.2.2.trans (KeepT.below hb7)
        have hs7 := hB7.size
        clear hb7 hc0 hc6 hc7
        cases ok with
        | false =>
          go_wp2_with fail
          go_ret
          exact ⟨_, _, _, _, rfl, hO7.len, by omega, hO7.rd, hB7⟩
        | true =>
          have hm1 := hok rfl
          have hP7 := Lib.hid (HP.out.below hB7)
          go_wp2_with (first | (at_builtin; refine wpList_cat slBool rfl _ _ rfl rfl hO7 rfl hl7 hr7 (bool_one _) (by omega) (by unfold maxLen; omega) hs7 ?_; intro p8 d8 w8 hown8 hg8 _ _; have hb8 := hO7.step hB7 hg8 hs7; have hk8 := hK7.trans (KeepT.own hO7 (by decide) hg8); have HBK8 := Lib.hid (hk8.blk HBK.out (by decide)); clear hO7 hB7 hg8 hr7 hK7) | (refine wpList_load_row rfl _ _ rfl _ rfl _ _ _ _ HBK8.out Try.underlying33 rfl size_prt ?_))
          have hP8 := HP.out.below hb8
          refine (signs06_any ⟨kd, ls, ⟨pr, nr, cr, lr⟩, ⟨ps, ns, cs, lsg⟩, ⟨pm, nm, cm, lm⟩, sp, ⟨pl, nl, cl, ll⟩, ⟨pf, nf, cf, lf⟩⟩ pl nl cl ll pf nf cf lf w8 hP8 hsg hmo hP8.le.len (by omega) hP8.le.rd hP8.fa.len (by omega) hP8.fa.rd).mono ?_
          rintro e w9 ⟨p9, k9, d9, L9, rfl, hl9, hk9, hr9, hb9⟩
          have hO9 := hown8.below hb9
          have hB9 := below_trans0 hb8 hb8.size hb9
          have hs9 := hB9.size
          clear hb9 hown8 hb8 hk8
          go_wp2_with (at_builtin; refine wpList_cat slBool rfl _ _ rfl rfl hO9 rfl hl9 hr9 (bool_one _) (by omega) (by unfold maxLen; omega) hs9 ?_; intro p10 d10 w10 hown10 hg10 _ _; have hb10 := hO9.step hB9 hg10 hs9; clear hO9 hB9 hg10 hr9)
          go_ret
          exact ⟨_, _, _, _, rfl, hown10.len, by omega, hown10.rd, hb10⟩
      · have hkb2 : (kk == 2) = false := by simpa using hk2
        clear hk2
        go_wp2_with (first | (refine wpList_load_row rfl _ _ rfl _ rfl _ _ _ _ (HB5.out.2.2.blk HBK.out (by decide)) Try.underlying33 rfl size_prt ?_))
        refine (signs06_any ⟨kd, ls, ⟨pr, nr, cr, lr⟩, ⟨ps, ns, cs, lsg⟩, ⟨pm, nm, cm, lm⟩, sp, ⟨pl, nl, cl, ll⟩, ⟨pf, nf, cf, lf⟩⟩ p5 288 d5 fixA p6 32 d6 fixB w5 HX5.out.1 hsg hmo (by simp [fixA]) (by omega) HR5.out.1 (by simp [fixB]) (by omega) HR5.out.2).mono ?_
        rintro e w7 ⟨p7, k7, d7, L7, rfl, hl7, hk7, hr7, hb7⟩
        have hO7 := HB5.out.1.below hb7
        have hB7 := below_trans0 HB5.out.2.1 hs5 hb7
        have hs7 := hB7.size
        clear hb7
        go_wp2_with (at_builtin; refine wpList_cat slBool rfl _ _ rfl rfl hO7 rfl hl7 hr7 (bool_one _) (by omega) (by unfold maxLen; omega) hs7 ?_; intro p8 d8 w8 hown8 hg8 _ _; have hb8 := hO7.step hB7 hg8 hs7; clear hO7 hB7 hg8 hr7)
        go_ret
        exact ⟨_, _, _, _, rfl, hown8.len, by omega, hown8.rd, hb8⟩
end Go.Proofs.Ytgcdeadfkljeaaa
