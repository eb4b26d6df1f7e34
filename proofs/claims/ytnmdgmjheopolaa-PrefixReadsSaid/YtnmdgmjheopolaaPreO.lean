/- The fixed calls of the law on words. -/
import Derived.Test.YtnmdgmjheopolaaPreN
import Derived.Test.YtnmdgmjheopolaaBitW2
namespace Go.Proofs.Ytnmdgmjheopolaa
open Go.RowKit
set_option linter.unusedVariables false
set_option linter.unusedSimpArgs false

def kindD (l : List Int) : Int := if l.any (fun n => decide (n < 0) || decide (15 < n)) then 0 else if kC l = 0 then 1 else if kC l = 1 ∧ kO l = 1 then 2 else if kW l = 32768 then 3 else 0
theorem kindS_D (l : List Int) : kindS l = kindD l := by
  unfold kindS kindD
  by_cases h : ∃ n ∈ l, kBad n
  · rw [if_pos h, if_pos]
    rw [List.any_eq_true]
    obtain ⟨n, h1, h2⟩ := h
    refine ⟨n, h1, ?_⟩
    unfold kBad at h2
    rcases h2 with h2 | h2 <;> simp [h2]
  · have h3 : ¬ (l.any (fun n => decide (n < 0) || decide (15 < n)) = true) := by
      intro hc
      rw [List.any_eq_true] at hc
      obtain ⟨n, h1, h2⟩ := hc
      refine h ⟨n, h1, ?_⟩
      unfold kBad
      simpa using h2
    rw [if_neg h, if_neg h3]
theorem own_row {α : Type} {w : World} {B : Nat} {T : TypeId} {E : α → Value} {a : Option Addr} {n c : Nat} {l : List α} (h : Own w B T E a n c l) {i : Nat} (hi : i < l.length) : ∃ b off, a = some ⟨b, off, none⟩ ∧ ∀ j (hj : j < l.length), w.cell? ⟨b, off + j, none⟩ = some (E l[j]) := by
  rcases h.rd with h1 | ⟨b, off, h1, h2⟩
  · rw [h1] at hi; simp at hi
  · exact ⟨b, off, h1, fun j hj => h2 j _ (by rw [List.getElem?_eq_getElem hj])⟩
set_option maxHeartbeats 8000000 in
set_option maxRecDepth 100000 in
theorem fixed05_any (w : World) : Calls Try.prog 23 #[] w fun e w' => e = .returned (.bool true) ∧ Below w.heap.size w w' := by
  have hk3 : kindS [1, 2, 2] ≠ 0 := by rw [kindS_D]; decide +kernel
  have hws : wsL [1, 2, 2] = [0, 2, 3] := by decide +kernel
  have hget : getS [1, 2, 2] (ofL [1]) = (1, 0, 2) := by decide +kernel
  have hpok : putOk [1, 2, 2] 1 := ⟨by decide, by decide, by decide⟩
  have hput : putEr [1, 2, 2] 1 = 0 ∧ putBits [1, 2, 2] 1 [] = [true, false] := ⟨if_pos hpok, by unfold putBits; rw [if_pos hpok]; decide +kernel⟩
  have hpno : ¬ putOk [1, 2, 2] 3 := fun h => absurd h.2.1 (by decide)
  have hput3 : putEr [1, 2, 2] 3 = 5 ∧ putBits [1, 2, 2] 3 [true, false] = [true, false] := ⟨if_neg hpno, if_neg hpno⟩
  have HK := Lib.hid (And.intro hk3 (And.intro hws (And.intro hget (And.intro hput hput3))))
  clear hk3 hws hget hput hput3 hpok hpno
  go_enter Try.func23, Try.ntmps23
  go_wp2_with fail
  refine (words_any _ 3 3 [1, 2, 2] _ rfl (by decide) (rd_new w _ _ _ _ rfl)).mono ?_
  rintro e w1 ⟨hb, h⟩
  rcases h with ⟨h, _⟩ | ⟨_, p, rfl, hown⟩
  · exact absurd h HK.out.1
  rw [HK.out.2.1] at hown
  have HO := Lib.hid (hown.mono (Nat.zero_le _))
  have HB := Lib.hid ((below_alloc w (.cells #[Value.int .i64 1, Value.int .i64 2, Value.int .i64 2] 3)).trans (hb.mono (by simp)))
  clear hb hown
  go_wp2_with fail
  have hal := below_alloc w1 (.cells #[Value.int .i64 1, Value.int .i64 2, Value.int .i64 2] 3)
  refine (new_any _ 3 3 [1, 2, 2] _ rfl (by decide) (rd_new w1 _ _ _ _ rfl)).mono ?_
  rintro e w2 ⟨hb, h⟩
  rcases h with ⟨h, _⟩ | ⟨_, gc, hgc, rfl, hcode⟩
  · exact absurd h HK.out.1
  have hb2 := hal.trans (hb.mono (by simp))
  have HO2 := Lib.hid (HO.out.below hb2)
  have HB2 := Lib.hid (HB.out.trans (hb2.mono HB.out.size))
  have HC2 := Lib.hid hcode
  clear hb hal hb2 hcode HO HB hgc
  go_wp2_with fail
  refine (wNew_any w2).mono ?_
  rintro e w3 ⟨gw, rfl, hw3, hb3⟩
  have HC3 := Lib.hid (HC2.out.below hb3)
  have HO3 := Lib.hid (HO2.out.below hb3)
  have HB3 := Lib.hid (HB2.out.trans (hb3.mono HB2.out.size))
  have HS3 := Lib.hid (And.intro hb3.size HB2.out.size)
  have HW3 := Lib.hid hw3
  clear hb3 hw3 HO2 HB2 HC2
  go_wp2_with fail
  refine (cPut_any gc [1, 2, 2] w2.heap.size gw [] 1 w3 HC3.out HW3.out HS3.out.1 (by decide) (by decide)).mono ?_
  rintro e w4 ⟨rfl, hw4, hb4, hk4⟩
  rw [HK.out.2.2.2.1.1]
  rw [HK.out.2.2.2.1.2] at hw4
  have HC4 := Lib.hid (HC3.out.keep hk4)
  have HO4 := Lib.hid (own_boolKeep hk4 HO3.out (by decide) (by decide))
  have HB4 := Lib.hid (HB3.out.trans (hb4.mono HS3.out.2))
  have HS4 : Hid (w2.heap.size ≤ w4.heap.size) := Lib.hid (by have := hb4.size; have := HS3.out.1; omega)
  have HW4 := Lib.hid hw4
  clear hb4 hw4 hk4 HC3 HO3 HB3 HW3
  go_wp2_with fail
  have hal := below_alloc w4 (.cells #[Value.int .u8 1] 5)
  refine (rdNew_any _ 1 1 [1] _ rfl (by decide) (rd_new w4 _ _ _ _ rfl)).mono ?_
  rintro e w5 ⟨gr, rfl, hgr, hr5, hb5'⟩
  have hb5 := hal.trans (hb5'.mono (by simp))
  have HC5 := Lib.hid (HC4.out.below hb5)
  have HO5 := Lib.hid (HO4.out.below hb5)
  have HB5 := Lib.hid (HB4.out.trans (hb5.mono HB4.out.size))
  have HW5 := Lib.hid (WOk.below HW4.out hb5)
  have HS5 : Hid (w2.heap.size ≤ w5.heap.size ∧ w.heap.size ≤ gr) := Lib.hid ⟨by have := hb5.size; have := HS4.out; omega, by have := HB4.out.size; have : w4.heap.size ≤ gr := by { have := hgr; simp at this; omega }; omega⟩
  have HR5 := Lib.hid hr5
  clear hal hb5 hb5' hgr hr5 HC4 HO4 HB4 HW4 HS4
  go_wp2_with fail
  refine (cGet_any gc gr [1, 2, 2] [1] 0 w5 HC5.out HR5.out).mono ?_
  rintro e w6 ⟨hret, hrd6, hc6, hg6⟩
  rw [List.drop_zero, HK.out.2.2.1] at hret
  subst hret
  obtain ⟨a9, n9, c9, hb9, -⟩ := HR5.out.ex
  have HO6 := Lib.hid (own_byType HO5.out hb9 (by decide) hg6)
  have HC6 := Lib.hid hc6
  have HB6 := Lib.hid (HB5.out.grown hg6 HB5.out.size (fun k hk => by simp only [Option.some.injEq] at hk; have := HS5.out.2; omega))
  have HW6 : Hid (WBits w6 w2.heap.size gw [true, false]) := Lib.hid (by
    obtain ⟨a, n, c, h1, h2, h3, h4⟩ := HW5.out.ex
    refine ⟨a, n, c, h1.grown hg6 (fun e => ?_), own_byType h2 hb9 (by decide) hg6, h3, h4⟩
    simp only [Option.some.injEq] at e
    subst e
    unfold Blk at h1 hb9
    rw [h1] at hb9
    simp at hb9)
  have HS6 : Hid (w2.heap.size ≤ w6.heap.size) := Lib.hid (by have := hg6.size; have := HS5.out.1; omega)
  obtain ⟨b8, o8, rfl, h8⟩ := own_row HO6.out (i := 0) (by decide)
  have k0 : w6.cell? ⟨b8, o8 + 0, none⟩ = some (.int .u32 0) := h8 0 (by decide)
  have k1 : w6.cell? ⟨b8, o8 + 1, none⟩ = some (.int .u32 2) := h8 1 (by decide)
  have k2 : w6.cell? ⟨b8, o8 + 2, none⟩ = some (.int .u32 3) := h8 2 (by decide)
  rw [Nat.add_zero] at k0
  clear hb9 hrd6 hc6 hg6 h8 HO5 HC5 HB5 HW5 HR5 HO6
  go_wp2_with fail
  refine (wBytes_any w2.heap.size gw [true, false] w6 HW6.out (by decide)).mono ?_
  rintro e w7 ⟨a7, n7, c7, rfl, hown7, hb7⟩
  have hcv := conv_str (P := Try.prog) Try.underlying26 Try.underlying5 Try.underlying9 c7 hown7.len hown7.rd
  rw [show strOf (bytesL [true, false]) = (⟨#[1]⟩ : ByteArray) from by decide +kernel] at hcv
  have HC7 := Lib.hid (HC6.out.below hb7)
  have HW7 := Lib.hid (WOk.below HW6.out hb7)
  have HB7 := Lib.hid (HB6.out.trans (hb7.mono HB6.out.size))
  have HS7 : Hid (w2.heap.size ≤ w7.heap.size ∧ w.heap.size ≤ w2.heap.size) := Lib.hid ⟨by have := hb7.size; have := HS6.out; omega, HS3.out.2⟩
  clear hown7 hb7 HC6 HW6 HB6 HS6 k0 k1 k2
  go_wp2_with fail
  refine (signs_any gc [1, 2, 2] w7 HC7.out).mono ?_
  rintro e w8 ⟨rfl, rfl⟩
  rw [show (([1, 2, 2] : List Int).length : Int) = 3 from rfl]
  go_wp2_with fail
  refine (cPut_any gc [1, 2, 2] w2.heap.size gw [true, false] 3 w8 HC7.out HW7.out HS7.out.1 (by decide) (by decide)).mono ?_
  rintro e w9 ⟨rfl, -, hb9, -⟩
  rw [HK.out.2.2.2.2.1]
  have HB9 := Lib.hid (HB7.out.trans (hb9.mono HS7.out.2))
  clear hb9 hcv HB7
  go_wp2
  go_ret
  exact ⟨rfl, HB9.out⟩
end Go.Proofs.Ytnmdgmjheopolaa
