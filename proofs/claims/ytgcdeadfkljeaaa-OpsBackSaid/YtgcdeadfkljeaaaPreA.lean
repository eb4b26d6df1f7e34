/- lengths.Kind; the document's Weight and Kind. -/
import Derived.Test.YtgcdeadfkljeaaaRows
import Derived.Test.YtgcdeadfkljeaaaLib
namespace Go.Proofs.Ytgcdeadfkljeaaa
open Go.RowKit
set_option linter.unusedVariables false
set_option linter.unusedSimpArgs false

abbrev nE : Int → Value := fun x => .int .i64 x
def kBad (n : Int) : Prop := n < 0 ∨ 15 < n
def kW (l : List Int) : Int := (l.map fun n => if 0 < n then 32768 / 2 ^ n.toNat else 0).sum
def kP (l : List Int) : List Int := l.filter fun n => decide (0 < n)
def kC (l : List Int) : Nat := (kP l).length
def kM (l : List Int) : Int := (kP l).foldl max 0
def kO (l : List Int) : Nat := (l.filter fun n => decide (n = 1)).length
open Classical in
noncomputable def kindS (l : List Int) : Int := if ∃ n ∈ l, kBad n then 0 else if kC l = 0 then 1 else if kC l = 1 ∧ kO l = 1 then 2 else if kW l = 32768 then 3 else 0
section
variable {l : List Int} {i : Nat}
theorem kW_snoc (h : i < l.length) : kW (l.take (i + 1)) = kW (l.take i) + if 0 < l[i] then 32768 / 2 ^ (l[i]).toNat else 0 := by
  rw [List.take_succ_eq_append_getElem h]; unfold kW; rw [List.map_append, List.sum_append]; simp only [List.map_cons, List.map_nil, List.sum_cons, List.sum_nil, Int.add_zero]
theorem kP_snoc (h : i < l.length) : kP (l.take (i + 1)) = kP (l.take i) ++ if 0 < l[i] then [l[i]] else [] := by
  rw [List.take_succ_eq_append_getElem h]; unfold kP; rw [List.filter_append]; congr 1
  by_cases h0 : 0 < l[i] <;> simp [h0]
theorem kC_snoc (h : i < l.length) : kC (l.take (i + 1)) = kC (l.take i) + if 0 < l[i] then 1 else 0 := by
  unfold kC; rw [kP_snoc h, List.length_append]; split <;> rfl
theorem kM_snoc (h : i < l.length) : kM (l.take (i + 1)) = if 0 < l[i] then max (kM (l.take i)) l[i] else kM (l.take i) := by
  unfold kM; rw [kP_snoc h, List.foldl_append]; split <;> rfl
theorem kO_snoc (h : i < l.length) : kO (l.take (i + 1)) = kO (l.take i) + if l[i] = 1 then 1 else 0 := by
  rw [List.take_succ_eq_append_getElem h]; unfold kO; rw [List.filter_append, List.length_append]; congr 1
  by_cases h0 : l[i] = 1 <;> simp [h0]
end
theorem kC_le (l : List Int) : kC l ≤ l.length := List.length_filter_le ..
theorem kO_le (l : List Int) : kO l ≤ l.length := List.length_filter_le ..
theorem kO_kP (l : List Int) : kO l = ((kP l).filter fun n => decide (n = 1)).length := by
  unfold kO kP; rw [List.filter_filter]; congr 2
  funext n; by_cases h : n = 1 <;> simp [h]
theorem kM_one {l : List Int} (h : kC l = 1) : kM l = 1 ↔ kO l = 1 := by
  rw [kO_kP]
  unfold kC at h
  unfold kM
  obtain ⟨x, hx⟩ := List.length_eq_one_iff.1 h
  have hp : 0 < x := by
    have : x ∈ kP l := by rw [hx]; simp
    unfold kP at this; simpa using (List.mem_filter.1 this).2
  rw [hx]
  simp only [List.foldl_cons, List.foldl_nil]
  by_cases h1 : x = 1
  · subst h1; simp only [decide_true, List.filter_cons_of_pos, List.filter_nil, List.length_singleton, iff_true]; omega
  · have : max 0 x = x := by omega
    rw [this]; simp [h1]
theorem kW_term (x : Int) (h0 : 0 < x) (h1 : x ≤ 15) : 0 < (32768 : Int) / 2 ^ x.toNat ∧ (32768 : Int) / 2 ^ x.toNat ≤ 32768 := by
  obtain ⟨n, rfl⟩ := Int.eq_ofNat_of_zero_le (show 0 ≤ x by omega)
  have hn : n ≤ 15 := by omega
  simp only [Int.toNat_natCast]
  have : ∀ m : Fin 16, 0 < (32768 : Int) / 2 ^ m.val ∧ (32768 : Int) / 2 ^ m.val ≤ 32768 := by decide
  exact this ⟨n, by omega⟩
theorem kW_range {l : List Int} (h : ∀ n ∈ l, ¬ kBad n) : 0 ≤ kW l ∧ kW l ≤ 32768 * (l.length : Int) := by
  induction l with
  | nil => simp [kW]
  | cons x r ih =>
    have hx := h x (by simp)
    have := ih fun n hn => h n (List.mem_cons_of_mem _ hn)
    have e : kW (x :: r) = (if 0 < x then 32768 / 2 ^ x.toNat else 0) + kW r := by simp [kW]
    rw [e, List.length_cons]
    unfold kBad at hx
    split
    · have := kW_term x (by omega) (by omega); omega
    · omega
theorem kM_range {l : List Int} (h : ∀ n ∈ l, ¬ kBad n) : 0 ≤ kM l ∧ kM l ≤ 15 := by
  have : ∀ (p : List Int) (a : Int), (∀ n ∈ p, n ≤ 15) → 0 ≤ a → a ≤ 15 → 0 ≤ p.foldl max a ∧ p.foldl max a ≤ 15 := by
    intro p
    induction p with
    | nil => intro a _ h1 h2; exact ⟨h1, h2⟩
    | cons x r ih => intro a h0 h1 h2; rw [List.foldl_cons]; exact ih _ (fun n hn => h0 n (List.mem_cons_of_mem _ hn)) (by omega) (by have := h0 x (by simp); omega)
  refine this _ _ (fun n hn => ?_) (by omega) (by omega)
  have := h n (List.mem_filter.1 hn).1
  unfold kBad at this; omega
set_option maxRecDepth 100000 in
set_option maxHeartbeats 8000000 in
theorem kind_any (a : Option Addr) (n c : Nat) (l : List Int) (w : World) (hl : l.length = n) (hn : n ≤ 1000000) (hr : Rd w nE a l) :
  Calls Try.prog 105 #[.slice a n c] w fun e w' => e = .returned (.int .i64 (kindS l)) ∧ w' = w := by
  have HR := Lib.hid (And.intro hl hr)
  clear hl hr
  go_enter Try.func105, Try.ntmps105
  go_wp2
  go_loop [3, 4, 5, 10] (fun x3 x4 x5 x10 => ∃ i : Nat, i ≤ n ∧ x3 = .int .i64 (kW (l.take i)) ∧ x4 = .int .i64 ((kC (l.take i) : Nat) : Int) ∧ x5 = .int .i64 (kM (l.take i)) ∧ x10 = .int .i64 i ∧ ∀ y ∈ l.take i, ¬ kBad y) (fun _ _ _ x10 => n - (intOf x10).toNat)
  case atStart => exact ⟨0, Nat.zero_le _, rfl, rfl, rfl, rfl, fun y hy => by simp at hy⟩
  case round =>
    obtain ⟨i, hi, rfl, rfl, rfl, rfl, hg⟩ := hrel
    by_cases him : i < n
    · have hil : i < l.length := by rw [HR.out.1]; exact him
      obtain ⟨b, off, rfl, _, hc⟩ := HR.out.2.at hil
      replace hc : w.cell? ⟨b, off + i, none⟩ = some (.int .i64 l[i]) := hc
      have hwr := kW_range hg
      have hmr := kM_range hg
      have hcr := kC_le (l.take i)
      rw [List.length_take] at hwr hcr
      have HG : Hid (¬ kBad l[i] → ∀ y ∈ l.take (i + 1), ¬ kBad y) := Lib.hid (fun hb y hy => by
        rw [List.take_succ_eq_append_getElem hil] at hy
        rcases List.mem_append.1 hy with hy | hy
        · exact hg y hy
        · rw [List.mem_singleton.1 hy]; exact hb)
      have HS := Lib.hid (And.intro (kW_snoc hil) (And.intro (kC_snoc hil) (kM_snoc hil)))
      have HB : Hid (kBad l[i] → kindS l = 0) := Lib.hid (fun hb => by unfold kindS; rw [if_pos ⟨l[i], List.getElem_mem hil, hb⟩])
      clear hg
      generalize kW (l.take i) = W at *
      generalize kC (l.take i) = C at *
      generalize kM (l.take i) = M at *
      generalize l[i] = x at *
      by_cases h1 : x < 0
      · have HZ := Lib.hid (HB.out (.inl h1))
        go_wp2
        go_ret
        refine ⟨?_, rfl⟩
        show Ending.returned (.int .i64 0) = _
        rw [HZ.out]
      · by_cases h2 : 15 < x
        · have HZ := Lib.hid (HB.out (.inr h2))
          go_wp2
          go_ret
          refine ⟨?_, rfl⟩
          show Ending.returned (.int .i64 0) = _
          rw [HZ.out]
        · have HN := Lib.hid (HG.out (by unfold kBad; omega))
          clear HB HG
          by_cases h3 : 0 < x
          · obtain ⟨m, rfl⟩ := Int.eq_ofNat_of_zero_le (show 0 ≤ x by omega)
            have hk := kW_term m h3 (by omega)
            rw [Int.toNat_natCast] at hk
            go_wp2
            go_round
            case rel => exact ⟨i + 1, by omega, by rw [HS.out.1, if_pos h3, Int.toNat_natCast], by rw [HS.out.2.1, if_pos h3]; go_num, by rw [HS.out.2.2, if_pos h3, Int.max_def]; congr 1; split <;> split <;> omega, by go_num, HN.out⟩
            case measure => simp [intOf] <;> omega
          · have hx : x = 0 := by omega
            subst hx
            go_wp2
            go_round
            case rel => exact ⟨i + 1, by omega, by rw [HS.out.1, if_neg (by omega)]; go_num, by rw [HS.out.2.1, if_neg (by omega)]; go_num, by rw [HS.out.2.2, if_neg (by omega)], by go_num, HN.out⟩
            case measure => simp [intOf] <;> omega
    · have him' : i = n := by omega
      subst him'
      rw [List.take_of_length_le (by rw [HR.out.1]; exact Nat.le_refl _)] at hg ⊢
      have HG : Hid (¬ ∃ y ∈ l, kBad y) := Lib.hid (by rintro ⟨y, hy, hb⟩; exact hg y hy hb)
      have hwr := kW_range hg
      have hmr := kM_range hg
      have hcr := kC_le l
      have HM := Lib.hid (fun h => kM_one (l := l) h)
      have HK : Hid (kindS l = if kC l = 0 then 1 else if kC l = 1 ∧ kO l = 1 then 2 else if kW l = 32768 then 3 else 0) := Lib.hid (by unfold kindS; rw [if_neg HG.out])
      clear hg
      generalize kW l = W at *
      generalize kC l = C at *
      generalize kM l = M at *
      generalize kO l = O at *
      by_cases h0 : C = 0
      · have HZ : Hid (kindS l = 1) := Lib.hid (by rw [HK.out, if_pos h0])
        subst h0
        go_wp2
        go_ret
        refine ⟨?_, rfl⟩
        show Ending.returned (.int .i64 1) = _
        rw [HZ.out]
      · by_cases h1 : C = 1
        · subst h1
          by_cases h2 : M = 1
          · have HZ : Hid (kindS l = 2) := Lib.hid (by rw [HK.out, if_neg (by omega), if_pos ⟨rfl, (HM.out rfl).1 h2⟩])
            subst h2
            go_wp2
            go_ret
            refine ⟨?_, rfl⟩
            show Ending.returned (.int .i64 2) = _
            rw [HZ.out]
          · have h2' : ¬ O = 1 := fun h => h2 ((HM.out rfl).2 h)
            have g2 : (M == 1) = false := by simpa using h2
            by_cases h3 : W = 32768
            · have HZ : Hid (kindS l = 3) := Lib.hid (by rw [HK.out, if_neg (by omega), if_neg (by omega), if_pos h3])
              subst h3
              go_wp2
              go_ret
              refine ⟨?_, rfl⟩
              show Ending.returned (.int .i64 3) = _
              rw [HZ.out]
            · have HZ : Hid (kindS l = 0) := Lib.hid (by rw [HK.out, if_neg (by omega), if_neg (by omega), if_neg h3])
              have g3 : (W == 32768) = false := by simpa using h3
              go_wp2
              go_ret
              refine ⟨?_, rfl⟩
              show Ending.returned (.int .i64 0) = _
              rw [HZ.out]
        · have g0 : ((C : Int) == 0) = false := by simp; omega
          have g1 : ((C : Int) == 1) = false := by simp; omega
          by_cases h3 : W = 32768
          · have HZ : Hid (kindS l = 3) := Lib.hid (by rw [HK.out, if_neg (by omega), if_neg (by omega), if_pos h3])
            subst h3
            go_wp2
            go_ret
            refine ⟨?_, rfl⟩
            show Ending.returned (.int .i64 3) = _
            rw [HZ.out]
          · have HZ : Hid (kindS l = 0) := Lib.hid (by rw [HK.out, if_neg (by omega), if_neg (by omega), if_neg h3])
            have g3 : (W == 32768) = false := by simpa using h3
            go_wp2
            go_ret
            refine ⟨?_, rfl⟩
            show Ending.returned (.int .i64 0) = _
            rw [HZ.out]
def kN (l : List Int) : Nat := (l.filter fun n => decide (n ≠ 0)).length
theorem kN_snoc {l : List Int} {i : Nat} (h : i < l.length) : kN (l.take (i + 1)) = kN (l.take i) + if l[i] ≠ 0 then 1 else 0 := by
  rw [List.take_succ_eq_append_getElem h]; unfold kN; rw [List.filter_append, List.length_append]; congr 1
  by_cases h0 : l[i] = 0 <;> simp [h0]
theorem kN_le (l : List Int) : kN l ≤ l.length := List.length_filter_le ..
theorem kN_kC {l : List Int} (h : ∀ n ∈ l, ¬ kBad n) : kN l = kC l := by
  unfold kN kC kP
  congr 1
  refine List.filter_congr fun x hx => ?_
  have := h x hx
  unfold kBad at this
  by_cases h0 : x = 0
  · subst h0; simp
  · have : 0 < x := by omega
    simp [h0, this]
open Classical in
noncomputable def wtR (l : List Int) : Ending := if ∃ n ∈ l, kBad n then .returned (.tuple #[.int .i64 0, .bool false]) else .returned (.tuple #[.int .i64 (kW l), .bool true])
theorem pow_pow (m : Nat) (h : m ≤ 15) : (32768 : Int) / 2 ^ m = ((2 ^ (15 - m) : Nat) : Int) := by
  have : ∀ m : Fin 16, (32768 : Int) / 2 ^ m.val = ((2 ^ (15 - m.val) : Nat) : Int) := by decide
  exact this ⟨m, by omega⟩
theorem pow_le15 (j : Nat) (h : j ≤ 15) : 2 ^ j ≤ 32768 := Nat.le_trans (Nat.pow_le_pow_right (by omega) h) (by decide)
set_option maxRecDepth 100000 in
set_option maxHeartbeats 8000000 in
theorem weight_any (a : Option Addr) (n c : Nat) (l : List Int) (w : World) (hl : l.length = n) (hn : n ≤ 1000000) (hr : Rd w nE a l) :
  Calls Try.prog 103 #[.slice a n c] w fun e w' => e = wtR l ∧ w' = w := by
  have HR := Lib.hid (And.intro hl hr)
  clear hl hr
  go_enter Try.func103, Try.ntmps103
  go_wp2
  go_loop [4, 11] (fun x4 x11 => ∃ i : Nat, i ≤ n ∧ x4 = .int .i64 (kW (l.take i)) ∧ x11 = .int .i64 i ∧ ∀ y ∈ l.take i, ¬ kBad y) (fun _ x11 => n - (intOf x11).toNat)
  case atStart => exact ⟨0, Nat.zero_le _, rfl, rfl, fun y hy => by simp at hy⟩
  case round =>
    obtain ⟨i, hi, rfl, rfl, hg⟩ := hrel
    by_cases him : i < n
    · have hil : i < l.length := by rw [HR.out.1]; exact him
      obtain ⟨b, off, rfl, _, hc⟩ := HR.out.2.at hil
      replace hc : w.cell? ⟨b, off + i, none⟩ = some (.int .i64 l[i]) := hc
      have hwr := kW_range hg
      rw [List.length_take] at hwr
      have HG : Hid (¬ kBad l[i] → ∀ y ∈ l.take (i + 1), ¬ kBad y) := Lib.hid (fun hb y hy => by
        rw [List.take_succ_eq_append_getElem hil] at hy
        rcases List.mem_append.1 hy with hy | hy
        · exact hg y hy
        · rw [List.mem_singleton.1 hy]; exact hb)
      have HS := Lib.hid (kW_snoc hil)
      have HB : Hid (kBad l[i] → wtR l = .returned (.tuple #[.int .i64 0, .bool false])) := Lib.hid (fun hb => by unfold wtR; rw [if_pos ⟨l[i], List.getElem_mem hil, hb⟩])
      clear hg
      generalize kW (l.take i) = W at *
      generalize l[i] = x at *
      by_cases h1 : x < 0
      · have HZ := Lib.hid (HB.out (.inl h1))
        go_wp2
        go_ret2
        rw [HZ.out]; exact ⟨rfl, rfl⟩
      · by_cases h2 : 15 < x
        · have HZ := Lib.hid (HB.out (.inr h2))
          go_wp2
          go_ret2
          rw [HZ.out]; exact ⟨rfl, rfl⟩
        · have HN := Lib.hid (HG.out (by unfold kBad; omega))
          clear HB HG
          by_cases h3 : 0 < x
          · obtain ⟨m, rfl⟩ := Int.eq_ofNat_of_zero_le (show 0 ≤ x by omega)
            have g0 : ((m : Int) == 0) = false := by simp; omega
            have hm15 : m ≤ 15 := by omega
            clear h1 h2
            go_wp2
            go_loop [7, 8] (fun x7 x8 => ∃ j : Nat, m ≤ j ∧ j ≤ 15 ∧ x7 = .int .i64 ((2 ^ (j - m) : Nat) : Int) ∧ x8 = .int .i64 j) (fun _ x8 => 15 - (intOf x8).toNat)
            case atStart => exact ⟨m, Nat.le_refl _, by omega, by rw [Nat.sub_self]; rfl, rfl⟩
            case round =>
              obtain ⟨j, hj1, hj2, rfl, rfl⟩ := hrel
              have hp := pow_le15 (j - m) (by omega)
              have HP2 : Hid (j < 15 → 2 ^ (j + 1 - m) = 2 ^ (j - m) * 2) := Lib.hid (fun h => by rw [show j + 1 - m = (j - m) + 1 by omega, Nat.pow_succ])
              have HE : Hid (j = 15 → ((2 ^ (j - m) : Nat) : Int) = 32768 / 2 ^ m) := Lib.hid (fun h => by rw [h, pow_pow m (by omega)])
              generalize 2 ^ (j - m) = P at *
              by_cases hj : j < 15
              · go_wp2
                go_round
                case rel => exact ⟨j + 1, by omega, by omega, by rw [HP2.out hj]; go_num, by go_num⟩
                case measure => simp [intOf] <;> omega
              · have hj' : j = 15 := by omega
                have HE2 := Lib.hid (HE.out hj')
                subst hj'
                go_wp2
                go_round
                case rel => exact ⟨i + 1, by omega, by rw [HS.out, if_pos h3, Int.toNat_natCast, ← HE2.out], by go_num, HN.out⟩
                case measure => simp [intOf] <;> omega
          · have hx : x = 0 := by omega
            subst hx
            go_wp2
            go_round
            case rel => exact ⟨i + 1, by omega, by rw [HS.out, if_neg (by omega)]; go_num, by go_num, HN.out⟩
            case measure => simp [intOf] <;> omega
    · have him' : i = n := by omega
      subst him'
      rw [List.take_of_length_le (by rw [HR.out.1]; exact Nat.le_refl _)] at hg ⊢
      have HG : Hid (wtR l = .returned (.tuple #[.int .i64 (kW l), .bool true])) := Lib.hid (by unfold wtR; rw [if_neg (by rintro ⟨y, hy, hb⟩; exact hg y hy hb)])
      clear hg
      go_wp2
      go_ret2
      rw [HG.out]; exact ⟨rfl, rfl⟩
set_option maxRecDepth 100000 in
set_option maxHeartbeats 8000000 in
theorem rkind_any (a : Option Addr) (n c : Nat) (l : List Int) (w : World) (hl : l.length = n) (hn : n ≤ 1000000) (hr : Rd w nE a l) :
  Calls Try.prog 93 #[.slice a n c] w fun e w' => e = .returned (.int .i64 (kindS l)) ∧ w' = w := by
  have HR := Lib.hid (And.intro hl hr)
  clear hl hr
  go_enter Try.func93, Try.ntmps93
  go_wp2
  go_loop [3, 4, 11] (fun x3 x4 x11 => ∃ i : Nat, i ≤ n ∧ x3 = .int .i64 ((kN (l.take i) : Nat) : Int) ∧ x4 = .int .i64 ((kO (l.take i) : Nat) : Int) ∧ x11 = .int .i64 i) (fun _ _ x11 => n - (intOf x11).toNat)
  case atStart => exact ⟨0, Nat.zero_le _, rfl, rfl, rfl⟩
  case round =>
    obtain ⟨i, hi, rfl, rfl, rfl⟩ := hrel
    by_cases him : i < n
    · have hil : i < l.length := by rw [HR.out.1]; exact him
      obtain ⟨b, off, rfl, _, hc⟩ := HR.out.2.at hil
      replace hc : w.cell? ⟨b, off + i, none⟩ = some (.int .i64 l[i]) := hc
      have hnr := kN_le (l.take i)
      have hor := kO_le (l.take i)
      rw [List.length_take] at hnr hor
      have HS := Lib.hid (And.intro (kN_snoc hil) (kO_snoc hil))
      generalize kN (l.take i) = N at *
      generalize kO (l.take i) = O at *
      generalize l[i] = x at *
      by_cases h0 : x = 0
      · subst h0
        go_wp2
        go_round
        case rel => exact ⟨i + 1, by omega, by rw [HS.out.1, if_neg (by simp)]; go_num, by rw [HS.out.2, if_neg (by omega)]; go_num, by go_num⟩
        case measure => simp [intOf] <;> omega
      · have g0 : (x == 0) = false := by simpa using h0
        by_cases h1 : x = 1
        · subst h1
          go_wp2
          go_round
          case rel => exact ⟨i + 1, by omega, by rw [HS.out.1, if_pos h0]; go_num, by rw [HS.out.2, if_pos rfl]; go_num, by go_num⟩
          case measure => simp [intOf] <;> omega
        · have g1 : (x == 1) = false := by simpa using h1
          go_wp2
          go_round
          case rel => exact ⟨i + 1, by omega, by rw [HS.out.1, if_pos h0]; go_num, by rw [HS.out.2, if_neg h1]; go_num, by go_num⟩
          case measure => simp [intOf] <;> omega
    · have him' : i = n := by omega
      subst him'
      rw [List.take_of_length_le (by rw [HR.out.1]; exact Nat.le_refl _)]
      go_wp2_with fail
      refine (weight_any a i c l w HR.out.1 hn HR.out.2).mono ?_
      rintro e w1 ⟨rfl, rfl⟩
      by_cases hbad : ∃ y ∈ l, kBad y
      · rw [show wtR l = _ from if_pos hbad]
        have HZ : Hid (kindS l = 0) := Lib.hid (by unfold kindS; rw [if_pos hbad])
        clear hbad
        go_wp2
        go_ret
        refine ⟨?_, rfl⟩
        show Ending.returned (.int .i64 0) = _
        rw [HZ.out]
      · rw [show wtR l = _ from if_neg hbad]
        have hv : ∀ y ∈ l, ¬ kBad y := fun y hy hb => hbad ⟨y, hy, hb⟩
        have HK : Hid (kindS l = if kC l = 0 then 1 else if kC l = 1 ∧ kO l = 1 then 2 else if kW l = 32768 then 3 else 0) := Lib.hid (by unfold kindS; rw [if_neg hbad])
        rw [kN_kC hv]
        clear hbad hv
        generalize kW l = W at *
        generalize kC l = C at *
        generalize kO l = O at *
        by_cases h0 : C = 0
        · have HZ : Hid (kindS l = 1) := Lib.hid (by rw [HK.out, if_pos h0])
          subst h0
          go_wp2
          go_ret
          refine ⟨?_, rfl⟩
          show Ending.returned (.int .i64 1) = _
          rw [HZ.out]
        · by_cases h12 : C = 1 ∧ O = 1
          · have HZ : Hid (kindS l = 2) := Lib.hid (by rw [HK.out, if_neg h0, if_pos h12])
            obtain ⟨rfl, rfl⟩ := h12
            go_wp2
            go_ret
            refine ⟨?_, rfl⟩
            show Ending.returned (.int .i64 2) = _
            rw [HZ.out]
          · have HKW : Hid (kindS l = if W = 32768 then 3 else 0) := Lib.hid (by rw [HK.out, if_neg h0, if_neg h12])
            have g0 : ((C : Int) == 0) = false := by simp; omega
            by_cases h3 : W = 32768
            · have HZ : Hid (kindS l = 3) := Lib.hid (by rw [HKW.out, if_pos h3])
              subst h3
              by_cases h1 : C = 1
              · subst h1
                have g1 : ((O : Int) == 1) = false := by simp; omega
                go_wp2
                go_ret
                refine ⟨?_, rfl⟩
                show Ending.returned (.int .i64 3) = _
                rw [HZ.out]
              · have g1 : ((C : Int) == 1) = false := by simp; omega
                go_wp2
                go_ret
                refine ⟨?_, rfl⟩
                show Ending.returned (.int .i64 3) = _
                rw [HZ.out]
            · have HZ : Hid (kindS l = 0) := Lib.hid (by rw [HKW.out, if_neg h3])
              have g3 : (W == 32768) = false := by simpa using h3
              by_cases h1 : C = 1
              · subst h1
                have g1 : ((O : Int) == 1) = false := by simp; omega
                go_wp2
                go_ret
                refine ⟨?_, rfl⟩
                show Ending.returned (.int .i64 0) = _
                rw [HZ.out]
              · have g1 : ((C : Int) == 1) = false := by simp; omega
                go_wp2
                go_ret
                refine ⟨?_, rfl⟩
                show Ending.returned (.int .i64 0) = _
                rw [HZ.out]
end Go.Proofs.Ytgcdeadfkljeaaa
