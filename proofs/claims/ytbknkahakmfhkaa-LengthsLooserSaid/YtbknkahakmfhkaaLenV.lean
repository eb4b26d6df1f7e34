/- The law's right; lengths.Cost; the document's Least. -/
import Derived.Test.YtbknkahakmfhkaaLenU
import Derived.Test.YtbknkahakmfhkaaLenP
import Derived.BigQuiet
namespace Go.Proofs.Ytbknkahakmfhkaa
open Go.RowKit
set_option linter.unusedVariables false
set_option linter.unusedSimpArgs false

def RightP (l : List Int) (m : Int) (w : World) (e : Ending) (w' : World) : Prop :=
  w' = w ∧ (((¬ (1 ≤ m ∧ m ≤ 15) ∨ ∃ x ∈ l, cBad x) ∧ e = .returned (.tuple #[.int .i64 0, .int .i64 1])) ∨
   ((1 ≤ m ∧ m ≤ 15) ∧ (∀ x ∈ l, ¬ cBad x) ∧ (2 ^ m.toNat < (coinsK l).length ∨ 512 < l.length) ∧ e = .returned (.tuple #[.int .i64 ((coinsK l).length : Int), .int .i64 4])) ∨
   ((1 ≤ m ∧ m ≤ 15) ∧ (∀ x ∈ l, ¬ cBad x) ∧ (coinsK l).length ≤ 2 ^ m.toNat ∧ l.length ≤ 512 ∧ e = .returned (.tuple #[.int .i64 ((coinsK l).length : Int), .int .i64 0])))
set_option maxRecDepth 100000 in
set_option maxHeartbeats 8000000 in
theorem right_any (a : Option Addr) (n c : Nat) (l : List Int) (m : Int) (w : World) (hl : l.length = n) (hn : n ≤ 1000000) (hr : Rd w nI a l) :
  Calls Try.prog 37 #[.slice a n c, .int .i64 m] w (RightP l m w) := by
  have HN := Lib.hid (And.intro hl hr)
  clear hl hr
  by_cases hm1 : m < 1
  · have HF : Hid (RightP l m w (.returned (.tuple #[.int .i64 0, .int .i64 1])) w) := Lib.hid ⟨rfl, .inl ⟨.inl (by omega), rfl⟩⟩
    go_enter Try.func37, Try.ntmps37
    go_wp2
    go_ret2
    exact HF.out
  by_cases hm2 : 15 < m
  · have HF : Hid (RightP l m w (.returned (.tuple #[.int .i64 0, .int .i64 1])) w) := Lib.hid ⟨rfl, .inl ⟨.inl (by omega), rfl⟩⟩
    go_enter Try.func37, Try.ntmps37
    go_wp2
    go_ret2
    exact HF.out
  have hm : Hid (1 ≤ m ∧ m ≤ 15) := Lib.hid (by omega)
  go_enter Try.func37, Try.ntmps37
  go_wp2
  go_loop [6, 17] (fun x6 x17 => ∃ i k : Nat, i ≤ n ∧ k ≤ i ∧ x6 = .int .i64 k ∧ x17 = .int .i64 i ∧ Hid (k = (coinsK (l.take i)).length) ∧ Hid (∀ x ∈ l.take i, ¬ cBad x)) (fun _ x17 => n - (intOf x17).toNat)
  case atStart => exact ⟨0, 0, Nat.zero_le _, Nat.le_refl _, rfl, rfl, Lib.hid rfl, Lib.hid (by simp)⟩
  case round =>
    obtain ⟨i, k, hi, hk, rfl, rfl, hst, hgood⟩ := hrel
    by_cases hin : i < n
    · have hil : i < l.length := by rw [HN.out.1]; exact hin
      obtain ⟨b, off, rfl, -, hc⟩ := HN.out.2.at hil
      replace hc : w.cell? ⟨b, off + i, none⟩ = some (.int .i64 l[i]) := hc
      have HST := Lib.hid (coinsK_snoc hil)
      have HG : Hid (¬ cBad l[i] → ∀ x ∈ l.take (i + 1), ¬ cBad x) := Lib.hid (fun h x hx => by
        rw [List.take_succ_eq_append_getElem hil] at hx
        rcases List.mem_append.1 hx with hx | hx
        · exact hgood.out x hx
        · rw [List.mem_singleton.1 hx]; exact h)
      have HM := Lib.hid (List.getElem_mem hil)
      generalize l[i] = x at *
      by_cases hb : cBad x
      · have HF : Hid (RightP l m w (.returned (.tuple #[.int .i64 0, .int .i64 1])) w) := Lib.hid ⟨rfl, .inl ⟨.inr ⟨x, HM.out, hb⟩, rfl⟩⟩
        rcases hb with hb | hb
        · go_wp2
          go_ret2
          exact HF.out
        · have g1 : ¬ x < 0 := by omega
          go_wp2
          go_ret2
          exact HF.out
      · have HG2 := Lib.hid (HG.out hb)
        unfold cBad at hb
        have g1 : ¬ x < 0 := by omega
        have g2 : ¬ 16777216 < x := by omega
        clear hb
        by_cases hx : 0 < x
        · have HK : Hid ((k + 1) = (coinsK (l.take (i + 1))).length) := Lib.hid (by rw [HST.out, if_pos hx, List.length_append, ← hst.out]; rfl)
          go_wp2
          go_round
          case rel => exact ⟨i + 1, k + 1, by omega, by omega, by go_num, by go_num, HK, HG2⟩
          case measure => simp [intOf] <;> omega
        · have HK : Hid (k = (coinsK (l.take (i + 1))).length) := Lib.hid (by rw [HST.out, if_neg hx, List.append_nil, ← hst.out])
          go_wp2
          go_round
          case rel => exact ⟨i + 1, k, by omega, by omega, rfl, by go_num, HK, HG2⟩
          case measure => simp [intOf] <;> omega
    · have hin' : i = n := by omega
      have htk : l.take i = l := List.take_of_length_le (by rw [HN.out.1]; omega)
      rw [htk] at hst hgood
      obtain ⟨B, hB2⟩ : ∃ B : Nat, Hid (B = 2 ^ m.toNat) := ⟨_, Lib.hid rfl⟩
      have hp := pow2_int m hm.out
      have hBr : B ≤ 32768 := by rw [hB2.out]; exact hp.2
      have g3 : (2 : Int) ^ m.toNat = (B : Int) := by rw [hp.1, hB2.out]
      subst hin'
      clear hp htk
      by_cases hbig : B < k
      · have HF : Hid (RightP l m w (.returned (.tuple #[.int .i64 (k : Int), .int .i64 4])) w) := Lib.hid ⟨rfl, .inr (.inl ⟨hm.out, hgood.out, .inl (by rw [← hst.out, ← hB2.out]; exact hbig), by rw [← hst.out]⟩)⟩
        have g4 : (B : Int) < (k : Int) := by omega
        go_wp2
        go_ret2
        exact HF.out
      · have g4 : ¬ (B : Int) < (k : Int) := by omega
        by_cases hlong : 512 < i
        · have HF : Hid (RightP l m w (.returned (.tuple #[.int .i64 (k : Int), .int .i64 4])) w) := Lib.hid ⟨rfl, .inr (.inl ⟨hm.out, hgood.out, .inr (by rw [HN.out.1]; exact hlong), by rw [← hst.out]⟩)⟩
          have g5 : (512 : Int) < (i : Int) := by omega
          go_wp2
          go_ret2
          exact HF.out
        · have g5 : ¬ (512 : Int) < (i : Int) := by omega
          have HF : Hid (RightP l m w (.returned (.tuple #[.int .i64 (k : Int), .int .i64 0])) w) := Lib.hid ⟨rfl, .inr (.inr ⟨hm.out, hgood.out, by rw [← hst.out, ← hB2.out]; omega, by rw [HN.out.1]; omega, by rw [← hst.out]⟩)⟩
          go_wp2
          go_ret2
          exact HF.out
theorem dotL_snoc : ∀ (l : List Int) (B : List Nat) (i : Nat) (h : i < l.length) (hB : i < B.length), dotL (l.take (i + 1)) (B.take (i + 1)) = dotL (l.take i) (B.take i) + l[i] * (B[i] : Int)
  | [], _, _, h, _ => by simp at h
  | _ :: _, [], _, _, h => by simp at h
  | x :: l, b :: B, 0, _, _ => by
    show x * (b : Int) + dotL (l.take 0) (B.take 0) = 0 + x * (b : Int)
    rw [List.take_zero, dotL_nil]; omega
  | x :: l, b :: B, i + 1, h, hB => by
    have ih := dotL_snoc l B i (by simpa using h) (by simpa using hB)
    show x * (b : Int) + dotL (l.take (i + 1)) (B.take (i + 1)) = x * (b : Int) + dotL (l.take i) (B.take i) + _
    rw [ih, List.getElem_cons_succ, List.getElem_cons_succ]; omega
theorem dotL_cut {l : List Int} {B : List Nat} (h1 : ∀ x ∈ l, 0 ≤ x ∧ x ≤ 16777216) (h2 : ∀ d ∈ B, d ≤ 15) (i : Nat) : 0 ≤ dotL (l.take i) (B.take i) ∧ dotL (l.take i) (B.take i) ≤ (i : Int) * 251658240 := by
  have hb := dotL_bound (l.take i) (B.take i) (fun x hx => h1 x (List.mem_of_mem_take hx)) (fun x hx => h2 x (List.mem_of_mem_take hx))
  have h0 := dotL_nonneg (l.take i) (B.take i) (fun x hx => (h1 x (List.mem_of_mem_take hx)).1)
  refine ⟨h0, Int.le_trans hb ?_⟩
  rw [List.length_take]
  omega
theorem mul_range {x : Int} {d : Nat} (h : 0 ≤ x ∧ x ≤ 16777216) (hd : d ≤ 15) : 0 ≤ x * (d : Int) ∧ x * (d : Int) ≤ 251658240 :=
  ⟨Int.mul_nonneg h.1 (Int.natCast_nonneg d), Int.le_trans (Int.mul_le_mul h.2 (by omega) (by omega) (by omega)) (by decide : (16777216 : Int) * 15 ≤ 251658240)⟩
set_option maxRecDepth 100000 in
set_option maxHeartbeats 8000000 in
theorem cost_any (a b : Option Addr) (n c d : Nat) (l : List Int) (B : List Nat) (w : World) (hl : l.length = n) (hB : B.length = n) (hn : n ≤ 1000) (hr : Rd w nI a l) (hrB : Rd w zN b B) (h1 : ∀ x ∈ l, 0 ≤ x ∧ x ≤ 16777216) (h2 : ∀ d ∈ B, d ≤ 15) :
  Calls Try.prog 39 #[.slice a n c, .slice b n d] w fun e w' => e = .returned (.int .i64 (dotL l B)) ∧ ∃ m, w' = w.drewN m := by
  have HN := Lib.hid (And.intro hl (And.intro hB (And.intro hr hrB)))
  have HR := Lib.hid (And.intro h1 h2)
  clear hl hB hr hrB h1 h2
  go_enter Try.func39, Try.ntmps39
  go_wp2
  go_loopw [5, 12] (fun x5 x12 wr => ∃ i : Nat, i ≤ n ∧ x12 = .int .i64 i ∧ x5 = .int .i64 (dotL (l.take i) (B.take i)) ∧ Hid (∃ m, wr = w.drewN m)) (fun _ x12 _ => n - (intOf x12).toNat)
  case atStart => exact ⟨0, Nat.zero_le _, rfl, rfl, Lib.hid ⟨0, rfl⟩⟩
  case round =>
    obtain ⟨i, hi, rfl, rfl, hW⟩ := hrel
    by_cases hin : i < n
    · have hil : i < l.length := by rw [HN.out.1]; exact hin
      have hiB : i < B.length := by rw [HN.out.2.1]; exact hin
      obtain ⟨p, off, rfl, -, hc⟩ := HN.out.2.2.1.at hil
      obtain ⟨p2, off2, rfl, -, hc2⟩ := HN.out.2.2.2.at hiB
      replace hc : wr.cell? ⟨p, off + i, none⟩ = some (.int .i64 l[i]) := by obtain ⟨m, hm⟩ := hW.out; rw [hm]; exact hc
      replace hc2 : wr.cell? ⟨p2, off2 + i, none⟩ = some (.int .i64 ((B[i] : Nat) : Int)) := by obtain ⟨m, hm⟩ := hW.out; rw [hm]; exact hc2
      have HS := Lib.hid (dotL_snoc l B i hil hiB)
      have hrg := dotL_cut HR.out.1 HR.out.2 i
      have hmr := mul_range (HR.out.1 l[i] (List.getElem_mem hil)) (HR.out.2 B[i] (List.getElem_mem hiB))
      have hb15 := HR.out.2 B[i] (List.getElem_mem hiB)
      have hx15 := HR.out.1 l[i] (List.getElem_mem hil)
      generalize dotL (l.take i) (B.take i) = S at *
      generalize l[i] = x at *
      generalize B[i] = d9 at *
      obtain ⟨P, hP⟩ : ∃ P : Int, P = x * (d9 : Int) := ⟨_, rfl⟩
      have g1 : IntKind.i64.wrap (x * (d9 : Int)) = x * (d9 : Int) := by rw [IntKind.wrap_i64]; omega
      have g2 : IntKind.i64.wrap (S + x * (d9 : Int)) = S + x * (d9 : Int) := by rw [IntKind.wrap_i64]; omega
      clear hP
      go_wp2
      go_quiet (fail)
      go_wp2
      go_roundw
      case rel => exact ⟨i + 1, by omega, by go_num, by rw [HS.out], Lib.hid (by obtain ⟨m, hm⟩ := hW.out; exact ⟨m + _, by rw [hm, World.drewN_drewN]⟩)⟩
      case measure => simp [intOf] <;> omega
    · have hin' : i = n := by omega
      subst hin'
      have e1 : l.take i = l := List.take_of_length_le (by rw [HN.out.1]; exact Nat.le_refl _)
      have e2 : B.take i = B := List.take_of_length_le (by rw [HN.out.2.1]; exact Nat.le_refl _)
      rw [e1, e2]
      clear e1 e2
      go_wp2
      go_ret
      exact ⟨rfl, hW.out⟩
theorem tLoop_range {f : Int → Int} {w used R : Int} (hf : ∀ u, -1 ≤ f u ∧ f u ≤ R) (hR : 0 ≤ R) (hw : 0 ≤ w ∧ w ≤ 16777216) : ∀ k, k ≤ 14 → -1 ≤ (tLoop f w used k).1 ∧ (tLoop f w used k).1 ≤ R + 251658240
  | 0, _ => by show -1 ≤ (-1 : Int) ∧ (-1 : Int) ≤ _; omega
  | k + 1, h => by
    have ih := tLoop_range (used := used) hf hR hw k (by omega)
    have hm := mul_range hw (show k + 1 ≤ 15 by omega)
    show -1 ≤ (tStep f w used (tLoop f w used k) (k + 1)).1 ∧ _
    have e : tLoop f w used (k + 1) = tStep f w used (tLoop f w used k) (k + 1) := rfl
    rw [e]
    unfold tStep
    have h2 := hf (used + (tLoop f w used k).2)
    simp only
    split
    · split
      · omega
      · exact ih
    · exact ih
set_option maxRecDepth 100000 in
set_option maxHeartbeats 8000000 in
theorem try_any (a : Option Addr) (n c : Nat) (l : List Int) (M : Nat) (bst : Int) (hM : M ≤ 14) (hl : l.length = n) (hn : n ≤ 100) (h0 : ∀ x ∈ l, 0 ≤ x ∧ x ≤ 16777216) : ∀ (k i : Nat) (used : Int) (w : World), i + k = n → 0 ≤ used → used ≤ 32768 → Rd w nI a l →
  Calls Try.prog 79 #[.slice a n c, .int .i64 (M : Int), .int .i64 (i : Int), .int .i64 used, .int .i64 bst] w fun e w' => e = .returned (.int .i64 (tryK M (l.drop i) used)) ∧ w' = w
  | 0, i, used, w, hk, hu0, hu, hr => by
    have hd : l.drop i = [] := List.drop_of_length_le (by omega)
    rw [hd]
    have hin : i = n := by omega
    have HH := Lib.hid (And.intro hl (And.intro h0 hr))
    clear hl h0 hr hd hk
    subst hin
    by_cases he : used = 32768
    · have HE : Hid (tryK M [] used = 0) := Lib.hid (by rw [tryK, if_pos he])
      subst he
      rw [HE.out]
      go_enter Try.func79, Try.ntmps79
      go_wp2
      go_ret
      exact ⟨rfl, rfl⟩
    · have HE : Hid (tryK M [] used = -1) := Lib.hid (by rw [tryK, if_neg he])
      have g : (used == 32768) = false := by simpa using he
      rw [HE.out]
      go_enter Try.func79, Try.ntmps79
      go_wp2
      go_ret
      exact ⟨rfl, rfl⟩
  | k + 1, i, used, w, hk, hu0, hu, hr => by
    have hil : i < l.length := by omega
    have hin : i < n := by omega
    have hd : l.drop i = l[i] :: l.drop (i + 1) := List.drop_eq_getElem_cons hil
    rw [hd]
    have IH := Lib.hid (fun (u : Int) (w : World) (hu0 : 0 ≤ u) (hu : u ≤ 32768) (hr : Rd w nI a l) => try_any a n c l M bst hM hl hn h0 k (i + 1) u w (by omega) hu0 hu hr)
    obtain ⟨p, off, rfl, -, hc⟩ := hr.at hil
    replace hc : w.cell? ⟨p, off + i, none⟩ = some (.int .i64 l[i]) := hc
    have hx := h0 l[i] (List.getElem_mem hil)
    have HF : Hid (∀ u, -1 ≤ tryK M (l.drop (i + 1)) u ∧ tryK M (l.drop (i + 1)) u ≤ 100 * 251658240) := Lib.hid (fun u => by
      have h1 := try_range hM (ws := l.drop (i + 1)) (fun w hw => h0 w (List.mem_of_mem_drop hw)) u
      rw [List.length_drop] at h1
      omega)
    have HR := Lib.hid hr
    have gne : ((i : Int) == (n : Int)) = false := by simp; omega
    have HT : Hid (tryK M (l[i] :: l.drop (i + 1)) used = (tLoop (tryK M (l.drop (i + 1))) l[i] used M).1) := Lib.hid rfl
    rw [HT.out]
    clear hd hk hl h0 hr HT
    generalize tryK M (l.drop (i + 1)) = f at *
    generalize l[i] = x at *
    go_enter Try.func79, Try.ntmps79
    go_wp2
    go_loop [11, 12, 13] (fun x11 x12 x13 => ∃ j : Nat, j ≤ M ∧ x11 = .int .i64 (tLoop f x used j).1 ∧ x12 = .int .i64 (tLoop f x used j).2 ∧ x13 = .int .i64 ((j : Int) + 1)) (fun _ _ x13 => M + 1 - (intOf x13).toNat)
    case atStart => exact ⟨0, Nat.zero_le _, rfl, rfl, rfl⟩
    case round =>
      obtain ⟨j, hj, rfl, rfl, rfl⟩ := hrel
      by_cases hjM : j < M
      · have hrng := tLoop_range HF.out (by omega) hx j (by omega) (used := used)
        have hwt := tLoop_wt f x used j (by omega)
        have hp14 : 2 ^ (14 - j) ≤ 16384 := pow14 _ (by omega)
        have hW : 0 ≤ (tLoop f x used j).2 ∧ (tLoop f x used j).2 ≤ 16384 := by rw [hwt]; exact ⟨Int.natCast_nonneg _, Int.ofNat_le.2 hp14⟩
        have hmr := mul_range hx (show j + 1 ≤ 15 by omega)
        clear hwt hp14
        have HS1 : Hid ((tLoop f x used (j + 1)).1 = if used + (tLoop f x used j).2 ≤ 32768 then (if 0 ≤ f (used + (tLoop f x used j).2) ∧ ((tLoop f x used j).1 < 0 ∨ f (used + (tLoop f x used j).2) + x * ((j + 1 : Nat) : Int) < (tLoop f x used j).1) then f (used + (tLoop f x used j).2) + x * ((j + 1 : Nat) : Int) else (tLoop f x used j).1) else (tLoop f x used j).1) := Lib.hid rfl
        have HS2 : Hid ((tLoop f x used (j + 1)).2 = (tLoop f x used j).2 / 2) := Lib.hid rfl
        generalize (tLoop f x used j).1 = ls at *
        generalize (tLoop f x used j).2 = W at *
        by_cases hu2 : used + W ≤ 32768
        · have HI := Lib.hid (IH.out (used + W) w (by omega) hu2 HR.out)
          have hfr := HF.out (used + W)
          rw [if_pos hu2] at HS1
          generalize f (used + W) = rv at *
          obtain ⟨P, hP⟩ : ∃ P : Int, P = x * ((j : Int) + 1) := ⟨_, rfl⟩
          have hmr : 0 ≤ x * ((j : Int) + 1) ∧ x * ((j : Int) + 1) ≤ 251658240 := hmr
          have HS1 : Hid ((tLoop f x used (j + 1)).1 = if 0 ≤ rv ∧ (ls < 0 ∨ rv + x * ((j : Int) + 1) < ls) then rv + x * ((j : Int) + 1) else ls) := HS1
          rw [← hP] at hmr HS1
          have g1 : IntKind.i64.wrap (x * ((j : Int) + 1)) = x * ((j : Int) + 1) := by rw [IntKind.wrap_i64, ← hP]; omega
          have g2 : x * ((j : Int) + 1) = P := hP.symm
          clear hP
          by_cases hr0 : 0 ≤ rv
          · by_cases hl0 : ls < 0
            · rw [if_pos ⟨hr0, .inl hl0⟩] at HS1
              go_wp2_with fail
              refine HI.out.mono ?_
              rintro e w' ⟨rfl, rfl⟩
              go_wp2
              go_round
              case rel => exact ⟨j + 1, by omega, by rw [HS1.out], by rw [HS2.out], by go_num⟩
              case measure => simp [intOf] <;> omega
            · by_cases hlt : rv + P < ls
              · rw [if_pos ⟨hr0, .inr hlt⟩] at HS1
                go_wp2_with fail
                refine HI.out.mono ?_
                rintro e w' ⟨rfl, rfl⟩
                go_wp2
                go_round
                case rel => exact ⟨j + 1, by omega, by rw [HS1.out], by rw [HS2.out], by go_num⟩
                case measure => simp [intOf] <;> omega
              · rw [if_neg (fun h => h.2.elim hl0 hlt)] at HS1
                go_wp2_with fail
                refine HI.out.mono ?_
                rintro e w' ⟨rfl, rfl⟩
                go_wp2
                go_round
                case rel => exact ⟨j + 1, by omega, by rw [HS1.out], by rw [HS2.out], by go_num⟩
                case measure => simp [intOf] <;> omega
          · rw [if_neg (fun h => hr0 h.1)] at HS1
            go_wp2_with fail
            refine HI.out.mono ?_
            rintro e w' ⟨rfl, rfl⟩
            go_wp2
            go_round
            case rel => exact ⟨j + 1, by omega, by rw [HS1.out], by rw [HS2.out], by go_num⟩
            case measure => simp [intOf] <;> omega
        · rw [if_neg hu2] at HS1
          go_wp2
          go_round
          case rel => exact ⟨j + 1, by omega, by rw [HS1.out], by rw [HS2.out], by go_num⟩
          case measure => simp [intOf] <;> omega
      · have hjM' : j = M := by omega
        subst hjM'
        go_wp2
        go_ret
        exact ⟨rfl, rfl⟩
end Go.Proofs.Ytbknkahakmfhkaa
