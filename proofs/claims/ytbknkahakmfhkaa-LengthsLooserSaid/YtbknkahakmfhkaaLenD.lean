/- lengths.check. -/
import Derived.Test.YtbknkahakmfhkaaLenC
namespace Go.Proofs.Ytbknkahakmfhkaa
open Go.RowKit
set_option linter.unusedVariables false
set_option linter.unusedSimpArgs false

abbrev zN : Nat → Value := fun x => .int .i64 (x : Int)
abbrev nI : Int → Value := fun x => .int .i64 x
abbrev IN : TypeId := 3
theorem slPk : SlT Try.prog 100 PK (.agg #[.int .i64 0, .slice none 0 0]) 2 32 := ⟨Try.underlying100, by kernel_rfl, rfl⟩
/-- An owned row of packs, their signs owned too. -/
def Packs (w : World) (base : Nat) (q : Option Addr) (k d : Nat) (ps : List Pk) : Prop :=
  OwnR w base PK 2 q k d (ps.map pkE) ∧ ∀ p ∈ ps, Own w 0 IN zN p.ptr p.signs.length p.cap p.signs
theorem Packs.below {w w' : World} {base k d : Nat} {q : Option Addr} {ps : List Pk} (h : Packs w base q k d ps) (hb : Below w.heap.size w w') : Packs w' base q k d ps := ⟨h.1.below hb, fun p hp => (h.2 p hp).below hb⟩
theorem Packs.mono {w : World} {base b k d : Nat} {q : Option Addr} {ps : List Pk} (h : Packs w base q k d ps) (hb : b ≤ base) : Packs w b q k d ps := ⟨⟨ownsRow_mono h.1.1 hb, h.1.2⟩, h.2⟩
def keyP (p : Pk) : Int × List Nat := (p.often, p.signs)
/-- The signs that come, with how often. -/
def coinsF : Nat → List Int → List (Int × List Nat)
  | _, [] => []
  | i, x :: r => (if 0 < x then [(x, [i])] else []) ++ coinsF (i + 1) r
def coinsK (l : List Int) : List (Int × List Nat) := coinsF 0 l
theorem coinsF_snoc : ∀ (l : List Int) (i : Nat) (x : Int), coinsF i (l ++ [x]) = coinsF i l ++ if 0 < x then [(x, [i + l.length])] else []
  | [], i, x => by simp [coinsF]
  | y :: l, i, x => by
    rw [List.cons_append, coinsF, coinsF, coinsF_snoc l (i + 1) x, List.append_assoc, List.length_cons, show i + 1 + l.length = i + (l.length + 1) by omega]
theorem coinsK_snoc {l : List Int} {i : Nat} (h : i < l.length) : coinsK (l.take (i + 1)) = coinsK (l.take i) ++ if 0 < l[i] then [(l[i], [i])] else [] := by
  rw [List.take_succ_eq_append_getElem h]
  unfold coinsK
  rw [coinsF_snoc, List.length_take, show min i l.length = i by omega, Nat.zero_add]
def cBad (x : Int) : Prop := x < 0 ∨ 16777216 < x
/-- What check answers: 1 bad, 4 too many, 0 right. -/
def chkP (w : World) (l : List Int) (m : Int) (e : Ending) (w' : World) : Prop :=
  Below w.heap.size w w' ∧
  (((¬ (1 ≤ m ∧ m ≤ 15) ∨ ∃ x ∈ l, cBad x) ∧ e = .returned (.tuple #[.slice none 0 0, .int .i64 1])) ∨
   ((1 ≤ m ∧ m ≤ 15) ∧ (∀ x ∈ l, ¬ cBad x) ∧ (2 ^ m.toNat < (coinsK l).length ∨ 512 < l.length) ∧ e = .returned (.tuple #[.slice none 0 0, .int .i64 4])) ∨
   ((1 ≤ m ∧ m ≤ 15) ∧ (∀ x ∈ l, ¬ cBad x) ∧ (coinsK l).length ≤ 2 ^ m.toNat ∧ l.length ≤ 512 ∧ ∃ q k d ps, e = .returned (.tuple #[.slice q k d, .int .i64 0]) ∧ Packs w' w.heap.size q k d ps ∧ ps.map keyP = coinsK l))
theorem pow2_int (m : Int) (h : 1 ≤ m ∧ m ≤ 15) : (2 : Int) ^ m.toNat = ((2 ^ m.toNat : Nat) : Int) ∧ 2 ^ m.toNat ≤ 32768 := by
  refine ⟨by simp, ?_⟩
  calc 2 ^ m.toNat ≤ 2 ^ 15 := Nat.pow_le_pow_right (by omega) (by omega)
    _ = 32768 := by decide
theorem lit_own (w : World) (base i : Nat) (hb : base ≤ w.heap.size) : Own (w.alloc (.cells #[.int .i64 (i : Int)] IN)) base IN zN (some ⟨w.heap.size, 0, none⟩) 1 1 [i] :=
  ⟨⟨rfl, .inr ⟨w.heap.size, 1, #[.int .i64 (i : Int)], rfl, hb, Blk.new w IN _, Nat.le_refl _, by unfold maxLen; omega, rfl, rfl⟩⟩, rfl⟩
set_option maxRecDepth 100000 in
set_option maxHeartbeats 8000000 in
theorem check_any (a : Option Addr) (n c : Nat) (l : List Int) (m : Int) (w : World) (hl : l.length = n) (hn : n ≤ 1000000) (hr : Rd w nI a l) :
  Calls Try.prog 73 #[.slice a n c, .int .i64 m] w (chkP w l m) := by
  have HN := Lib.hid (And.intro hl hr)
  clear hl hr
  by_cases hm1 : m < 1
  · have HF : Hid (chkP w l m (.returned (.tuple #[.slice none 0 0, .int .i64 1])) w) := Lib.hid ⟨Below.refl _ _, .inl ⟨.inl (by omega), rfl⟩⟩
    go_enter Try.func73, Try.ntmps73
    go_wp2
    go_ret2
    exact HF.out
  by_cases hm2 : 15 < m
  · have HF : Hid (chkP w l m (.returned (.tuple #[.slice none 0 0, .int .i64 1])) w) := Lib.hid ⟨Below.refl _ _, .inl ⟨.inl (by omega), rfl⟩⟩
    go_enter Try.func73, Try.ntmps73
    go_wp2
    go_ret2
    exact HF.out
  have hm : Hid (1 ≤ m ∧ m ≤ 15) := Lib.hid (by omega)
  go_enter Try.func73, Try.ntmps73
  go_wp2
  go_loopw [6, 17] (fun x6 x17 wr => ∃ (i k : Nat) (q : Option Addr) (d : Nat) (ps : List Pk), i ≤ n ∧ k ≤ i ∧ x6 = .slice q k d ∧ x17 = .int .i64 i ∧ Hid (ps.map keyP = coinsK (l.take i)) ∧ Hid (∀ x ∈ l.take i, ¬ cBad x) ∧ Packs wr w.heap.size q k d ps ∧ Below w.heap.size w wr) (fun _ x17 _ => n - (intOf x17).toNat)
  case atStart => exact ⟨0, 0, none, 0, [], Nat.zero_le _, Nat.le_refl _, rfl, rfl, Lib.hid rfl, Lib.hid (by simp), ⟨OwnR.nil, fun p hp => by cases hp⟩, Below.refl _ _⟩
  case round =>
    obtain ⟨i, k, q, d, ps, hi, hk, rfl, rfl, hst, hgood, hP, hB⟩ := hrel
    by_cases hin : i < n
    · have hil : i < l.length := by rw [HN.out.1]; exact hin
      obtain ⟨b, off, rfl, -, hc⟩ := (HN.out.2.below hB).at hil
      replace hc : wr.cell? ⟨b, off + i, none⟩ = some (.int .i64 l[i]) := hc
      have HST := Lib.hid (coinsK_snoc hil)
      have HG : Hid (¬ cBad l[i] → ∀ x ∈ l.take (i + 1), ¬ cBad x) := Lib.hid (fun h x hx => by
        rw [List.take_succ_eq_append_getElem hil] at hx
        rcases List.mem_append.1 hx with hx | hx
        · exact hgood.out x hx
        · rw [List.mem_singleton.1 hx]; exact h)
      have HM := Lib.hid (List.getElem_mem hil)
      have HW := Lib.hid (And.intro hP hB)
      have hbs := hB.size
      clear hP hB
      generalize l[i] = x at *
      by_cases hb : cBad x
      · have HF : Hid (chkP w l m (.returned (.tuple #[.slice none 0 0, .int .i64 1])) wr) := Lib.hid ⟨HW.out.2, .inl ⟨.inr ⟨x, HM.out, hb⟩, rfl⟩⟩
        rcases hb with hb | hb
        · go_wp2
          go_ret2
          exact HF.out
        · have g1 : ¬ x < 0 := by omega
          go_wp2
          go_ret2
          exact HF.out
      · have HG2 := Lib.hid (HG.out hb)
        unfold cBad at hb
        have g1 : ¬ x < 0 := by omega
        have g2 : ¬ 16777216 < x := by omega
        clear hb
        by_cases hx : 0 < x
        · have HK : Hid (coinsK (l.take (i + 1)) = coinsK (l.take i) ++ [(x, [i])]) := Lib.hid (by rw [HST.out, if_pos hx])
          go_wp2_with (at_builtin; refine wpList_pushR slPk (by decide) rfl _ _ rfl (vs := [.int .i64 x, .slice (some ⟨wr.heap.size, 0, none⟩) 1 1]) rfl rfl (by simp [Value.oneCell']) rfl (HW.out.1.1.below (below_alloc wr (.cells #[.int .i64 (i : Int)] IN))) (by rw [heap_size_alloc]; rfl) (by omega) (by unfold maxLen; omega) (by simp; omega) ?_; intro p5 c5 w5 hown5 hg5)
          have HF : Hid (Packs w5 w.heap.size p5 (k + 1) c5 (ps ++ [⟨x, some ⟨wr.heap.size, 0, none⟩, 1, [i]⟩]) ∧ Below w.heap.size w w5) := Lib.hid (by
            have ho := HW.out.1.1.below (below_alloc wr (.cells #[.int .i64 (i : Int)] IN))
            refine ⟨⟨by rw [List.map_append]; exact hown5, fun p hp => ?_⟩, ho.step (HW.out.2.alloc hbs _) hg5 (by simp; omega)⟩
            rcases List.mem_append.1 hp with hp | hp
            · exact ho.own_kept ((HW.out.1.2 p hp).alloc _) (by decide) hg5
            · rw [List.mem_singleton.1 hp]
              exact ho.own_kept (lit_own wr 0 i (Nat.zero_le _)) (by decide) hg5)
          clear hown5 hg5
          go_roundw
          case rel => exact ⟨i + 1, k + 1, p5, c5, ps ++ [⟨x, some ⟨wr.heap.size, 0, none⟩, 1, [i]⟩], by omega, by omega, rfl, by go_num, Lib.hid (by rw [List.map_append, hst.out, HK.out]; rfl), HG2, HF.out⟩
          case measure => simp [intOf] <;> omega
        · have HK : Hid (coinsK (l.take (i + 1)) = coinsK (l.take i)) := Lib.hid (by rw [HST.out, if_neg hx, List.append_nil])
          go_wp2
          go_roundw
          case rel => exact ⟨i + 1, k, q, d, ps, by omega, by omega, rfl, by go_num, Lib.hid (by rw [hst.out, HK.out]), HG2, HW.out⟩
          case measure => simp [intOf] <;> omega
    · have hin' : i = n := by omega
      have htk : l.take i = l := List.take_of_length_le (by rw [HN.out.1]; omega)
      rw [htk] at hst hgood
      have hkl : Hid (k = (coinsK l).length) := Lib.hid (by rw [← hst.out, List.length_map]; have := hP.1.2.1; rw [List.length_map] at this; exact this.symm)
      have HW := Lib.hid (And.intro hP hB)
      obtain ⟨B, hB2⟩ : ∃ B : Nat, Hid (B = 2 ^ m.toNat) := ⟨_, Lib.hid rfl⟩
      have hp := pow2_int m hm.out
      have hBr : B ≤ 32768 := by rw [hB2.out]; exact hp.2
      have g3 : (2 : Int) ^ m.toNat = (B : Int) := by rw [hp.1, hB2.out]
      subst hin'
      clear hP hB hp htk
      by_cases hbig : B < k
      · have HF : Hid (chkP w l m (.returned (.tuple #[.slice none 0 0, .int .i64 4])) wr) := Lib.hid ⟨HW.out.2, .inr (.inl ⟨hm.out, hgood.out, .inl (by rw [← hkl.out, ← hB2.out]; exact hbig), rfl⟩)⟩
        have g4 : (B : Int) < (k : Int) := by omega
        go_wp2
        go_ret2
        exact HF.out
      · have g4 : ¬ (B : Int) < (k : Int) := by omega
        by_cases hlong : 512 < i
        · have HF : Hid (chkP w l m (.returned (.tuple #[.slice none 0 0, .int .i64 4])) wr) := Lib.hid ⟨HW.out.2, .inr (.inl ⟨hm.out, hgood.out, .inr (by rw [HN.out.1]; exact hlong), rfl⟩)⟩
          have g5 : (512 : Int) < (i : Int) := by omega
          go_wp2
          go_ret2
          exact HF.out
        · have g5 : ¬ (512 : Int) < (i : Int) := by omega
          have HF : Hid (chkP w l m (.returned (.tuple #[.slice q k d, .int .i64 0])) wr) := Lib.hid ⟨HW.out.2, .inr (.inr ⟨hm.out, hgood.out, by rw [← hkl.out, ← hB2.out]; omega, by rw [HN.out.1]; omega, q, k, d, ps, rfl, HW.out.1, hst.out⟩)⟩
          go_wp2
          go_ret2
          exact HF.out
end Go.Proofs.Ytbknkahakmfhkaa
