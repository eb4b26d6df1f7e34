/- A code by lengths. -/
import Derived.Test.YtgcdeadfkljeaaaPreB
import Derived.Test.YtgcdeadfkljeaaaBuf
namespace Go.Proofs.Ytgcdeadfkljeaaa
open Go.RowKit
set_option linter.unusedVariables false
set_option linter.unusedSimpArgs false

theorem slIntE : SlT Try.prog 30 3 (.int .i64 0) 1 8 := ⟨Try.underlying30, by kernel_rfl, rfl⟩
theorem intOne (k : List Int) : ∀ y ∈ k, (nE y).oneCell' = true := fun _ _ => rfl
set_option maxRecDepth 100000 in
set_option maxHeartbeats 1000000 in
theorem cloneI_any (a : Option Addr) (n c : Nat) (l : List Int) (w : World) (hl : l.length = n) (hn : n ≤ 1000000000) (hr : Rd w nE a l) :
  Calls Try.prog 100 #[.slice a n c] w fun e w' => ∃ a' c', e = .returned (.slice a' n c') ∧ Own w' w.heap.size 3 nE a' n c' l ∧ Below w.heap.size w w' := by
  have hnil := fun w => Lib.run_eql_slice_nil (P := Try.prog) w 30 3 a n c 0 0 Try.underlying30
  cases a with
  | none =>
    have h0 : l = [] := by rcases hr with h | ⟨b, off, h, _⟩; exact h; cases h
    subst h0
    have : n = 0 := by simpa using hl.symm
    subst this
    go_enter Try.func100, Try.ntmps100
    go_wp2
    go_ret
    exact ⟨none, 0, rfl, Own.nil, Below.refl _ _⟩
  | some ad =>
    have hown0 := own_empty0 (E := nE) w 3 (Nat.le_refl _)
    have hB0 := below_alloc w (.cells #[] 3)
    have hs0 := hB0.size
    have HQ := Lib.hid (hr.below hB0)
    have HL := Lib.hid hl
    clear hl hr
    go_enter Try.func100, Try.ntmps100
    go_wp2_with (at_builtin; refine wpList_cat slIntE rfl _ _ rfl rfl hown0 rfl HL.out HQ.out (intOne _) (by omega) (by unfold maxLen; omega) hs0 ?_; intro a4 c4 w4 hown4 hg4 _ _; simp only [Nat.zero_add, List.nil_append] at hown4; have hb7 := hown0.step hB0 hg4 hs0; clear hown0 hB0 hg4)
    go_ret
    exact ⟨_, _, rfl, hown4, hb7⟩
/-- The signs with words of k bits. -/
def sg (l : List Int) (k : Nat) : List Nat := (List.range l.length).filter fun i => decide (l.getD i 0 = (k : Int))
/-- The same of the first i signs. -/
def sgT (l : List Int) (k i : Nat) : List Nat := (List.range i).filter fun q => decide (l.getD q 0 = (k : Int))
def ordL (l : List Int) (m : Nat) : List Nat := (List.range m).flatMap fun j => sg l (j + 1)
theorem sgT_full (l : List Int) (k : Nat) : sgT l k l.length = sg l k := rfl
theorem sgT_snoc (l : List Int) (k : Nat) {i : Nat} (h : i < l.length) : sgT l k (i + 1) = sgT l k i ++ if l[i] = (k : Int) then [i] else [] := by
  unfold sgT
  rw [List.range_succ, List.filter_append]
  congr 1
  have hg : l.getD i 0 = l[i] := by rw [List.getD_eq_getElem?_getD, List.getElem?_eq_getElem h]; rfl
  by_cases h0 : l[i] = (k : Int)
  · rw [if_pos h0, List.filter_cons_of_pos (by rw [hg]; exact decide_eq_true h0)]; rfl
  · rw [if_neg h0, List.filter_cons_of_neg (by rw [hg]; simpa using h0)]; rfl
theorem ordL_succ (l : List Int) (m : Nat) : ordL l (m + 1) = ordL l m ++ sg l (m + 1) := by
  unfold ordL; rw [List.range_succ, List.flatMap_append]; simp
theorem sgT_len (l : List Int) (k : Nat) : ∀ i, i ≤ l.length → (sgT l k i).length = cz (l.take i) k
  | 0, _ => by simp [sgT, cz]
  | i + 1, h => by
    rw [sgT_snoc l k (show i < l.length by omega), List.length_append, sgT_len l k i (by omega), cz_snoc (show i < l.length by omega)]
    split <;> rfl
theorem sg_len (l : List Int) (k : Nat) : (sg l k).length = cz l k := by
  have := sgT_len l k l.length (Nat.le_refl _)
  rwa [sgT_full, List.take_of_length_le (Nat.le_refl _)] at this
abbrev oE : Nat → Value := fun x => .int .i64 (x : Int)
/-- A code's cells. -/
def codeF (va vb vq : Value) (f : Nat → Nat) : Nat → Value := fun k => if k = 0 then va else if k = 1 then vb else if k < 18 then .int .i64 ((f (k - 2) : Nat) : Int) else vq
/-- A code's counts when words of up to j bits are done, and of j + 1 the first i signs'. -/
def cntF (l : List Int) (j i : Nat) (k : Nat) : Nat := if k = 0 then 0 else if k ≤ j then cz l k else if k = j + 1 then cz (l.take i) k else 0
structure CodeOk (w : World) (g : Nat) (l : List Int) : Prop where
  ex : ∃ (a p q : Option Addr) (n c m d o : Nat), Arr w g 147 19 (codeF (.slice a n c) (.slice p n m) (.slice q o d) (cn l)) ∧ n ≤ 60000 ∧ o ≤ 900000 ∧ (∀ y ∈ l, 0 ≤ y ∧ y ≤ 15) ∧
    Own w 0 3 nE a n c l ∧ Own w 0 75 uE p n m (wsL l) ∧ Own w 0 3 oE q o d (ordL l 15)
theorem own_byType {α : Type} {E : α → Value} {w w' : World} {b2 B : Nat} {e e2 : TypeId} {p : Option Addr} {k d : Nat} {l : List α} {cs : Array Value} (h2 : Own w b2 e2 E p k d l) (hB : Blk w B e cs) (hne : e ≠ e2) (hg : w.grownBy w' (some B)) : Own w' b2 e2 E p k d l := by
  obtain ⟨⟨h3, h4⟩, h5⟩ := h2
  refine ⟨⟨h3, ?_⟩, h5⟩
  rcases h4 with h6 | ⟨g, cap, cur, hv, hgb, hh, r⟩
  · exact .inl h6
  · refine .inr ⟨g, cap, cur, hv, hgb, (hg.block g (Array.getElem?_eq_some_iff.1 hh).1 ?_).trans hh, r⟩
    intro he
    simp only [Option.some.injEq] at he
    subst he
    unfold Blk at hB
    rw [hh] at hB
    simp only [Option.some.injEq, Obj.cells.injEq] at hB
    exact hne hB.2.1.symm
theorem CodeOk.below {w w' : World} {g : Nat} {l : List Int} (h : CodeOk w g l) (hb : Below w.heap.size w w') : CodeOk w' g l := by
  obtain ⟨a, p, q, n, c, m, d, o, h1, h2, h3, h4, h5, h6, h7⟩ := h.ex
  exact ⟨a, p, q, n, c, m, d, o, h1.below hb, h2, h3, h4, h5.below hb, h6.below hb, h7.below hb⟩
/-- A block of another type is written. -/
theorem CodeOk.byType {w w' : World} {g B : Nat} {l : List Int} {e : TypeId} {cs : Array Value} (h : CodeOk w g l) (hB : Blk w B e cs) (h1 : e ≠ 147) (h2 : e ≠ 3) (h3 : e ≠ 75) (hg : w.grownBy w' (some B)) : CodeOk w' g l := by
  obtain ⟨a, p, q, n, c, m, d, o, k1, k2, k3, k4, k5, k6, k7⟩ := h.ex
  refine ⟨a, p, q, n, c, m, d, o, k1.grown hg (fun he => ?_), k2, k3, k4, own_byType k5 hB h2 hg, own_byType k6 hB h3 hg, own_byType k7 hB h2 hg⟩
  simp only [Option.some.injEq] at he
  subst he
  unfold Arr Blk at *
  rw [k1] at hB
  simp only [Option.some.injEq, Obj.cells.injEq] at hB
  exact h1 hB.2.1.symm
/-- A code that is being made. -/
structure CR (w0 : World) (B n g : Nat) (l : List Int) (a p : Option Addr) (c m : Nat) (wr : World) (f : Nat → Nat) (vq : Value) : Prop where
  below : Below w0.heap.size w0 wr
  arr : Arr wr g 147 19 (codeF (.slice a n c) (.slice p n m) vq f)
  oa : Own wr 0 3 nE a n c l
  op : Own wr 0 75 uE p n m (wsL l)
  la : ∀ z, a = some ⟨z, 0, none⟩ → z < B
  lp : ∀ z, p = some ⟨z, 0, none⟩ → z < B
  lg : g < B ∧ w0.heap.size ≤ g ∧ B ≤ wr.heap.size
section
variable {w0 : World} {B n g : Nat} {l : List Int} {a p : Option Addr} {c m : Nat} {wr w' : World} {f : Nat → Nat} {vq : Value}
theorem CR.set (h : CR w0 B n g l a p c m wr f vq) (i : Nat) (v : Value) (f' : Nat → Nat) (vq' : Value) (he : ∀ k, k < 19 → (if k = i then v else codeF (.slice a n c) (.slice p n m) vq f k) = codeF (.slice a n c) (.slice p n m) vq' f' k) : CR w0 B n g l a p c m (wr.setCell ⟨g, i, none⟩ v) f' vq' :=
  ⟨h.below.setCell h.lg.2.1 v, (h.arr.set i v).congr he, own_byType h.oa h.arr (by decide) (grownBy_setCell wr ⟨g, i, none⟩ v), own_byType h.op h.arr (by decide) (grownBy_setCell wr ⟨g, i, none⟩ v), h.la, h.lp, h.lg.1, h.lg.2.1, by simpa using h.lg.2.2⟩
theorem CR.push (h : CR w0 B n g l a p c m wr f vq) {q : Option Addr} {o d : Nat} {ord : List Nat} (ho : Own wr B 3 oE q o d ord) (hg : wr.grownBy w' (Value.slice q o d).ownBlock) : CR w0 B n g l a p c m w' f vq := by
  have hge : ∀ k, (Value.slice q o d).ownBlock = some k → B ≤ k := fun k hk => (ho.1.lt k hk).1
  refine ⟨h.below.grown hg h.below.size (fun k hk => by have := hge k hk; have := h.lg; omega), h.arr.grown hg (fun e => by have := hge g e.symm; have := h.lg; omega), h.oa.grown hg (fun z hz e => by have := hge z e.symm; have := h.la z hz; omega), h.op.grown hg (fun z hz e => by have := hge z e.symm; have := h.lp z hz; omega), h.la, h.lp, h.lg.1, h.lg.2.1, Nat.le_trans h.lg.2.2 hg.size⟩
theorem CR.drew (h : CR w0 B n g l a p c m wr f vq) : CR w0 B n g l a p c m wr.drew f vq := ⟨h.below.drew, h.arr, h.oa.drew, h.op.drew, h.la, h.lp, h.lg⟩
theorem CR.row (h : CR w0 B n g l a p c m wr f vq) {q : Option Addr} {o d : Nat} {ord : List Nat} (ho : Own wr B 3 oE q o d ord) (i : Nat) (v : Value) : Own (wr.setCell ⟨g, i, none⟩ v) B 3 oE q o d ord :=
  own_byType ho h.arr (by decide) (grownBy_setCell wr ⟨g, i, none⟩ v)
end
theorem cntF_next (l : List Int) (j k : Nat) : cntF l j l.length k = cntF l (j + 1) 0 k := by
  unfold cntF
  rw [List.take_of_length_le (Nat.le_refl _), List.take_zero]
  by_cases h0 : k = 0
  · simp [h0]
  · by_cases h1 : k ≤ j
    · rw [if_neg h0, if_pos h1, if_neg h0, if_pos (by omega)]
    · by_cases h2 : k = j + 1
      · rw [if_neg h0, if_neg h1, if_pos h2, if_neg h0, if_pos (by omega)]
      · rw [if_neg h0, if_neg h1, if_neg h2, if_neg h0, if_neg (by omega)]
        split
        · rfl
        · rfl
theorem cntF_zero (l : List Int) (k : Nat) : cntF l 0 0 k = 0 := by
  unfold cntF
  by_cases h0 : k = 0
  · simp [h0]
  · rw [if_neg h0, if_neg (by omega)]
    split
    · rfl
    · rfl
theorem cntF_full (l : List Int) {k : Nat} (h : k ≤ 15) : cntF l 15 0 k = cn l k := by
  unfold cntF cn
  by_cases h0 : k = 0
  · simp [h0]
  · rw [if_neg h0, if_pos h, if_neg h0]
theorem cntF_here (l : List Int) (j i : Nat) : cntF l j i (j + 1) = cz (l.take i) (j + 1) := by
  unfold cntF; rw [if_neg (by omega), if_neg (by omega), if_pos rfl]
theorem cntF_other (l : List Int) (j i i' k : Nat) (h : ¬ k = j + 1) : cntF l j i k = cntF l j i' k := by
  unfold cntF; simp only [if_neg h]
theorem ordL_len : ∀ (l : List Int) (j : Nat), (ordL l j).length ≤ l.length * j
  | l, 0 => by simp [ordL]
  | l, j + 1 => by
    rw [ordL_succ, List.length_append, sg_len, Nat.mul_add]
    have := ordL_len l j
    have := cz_le l (j + 1)
    omega
def NewPost (w : World) (l : List Int) (e : Ending) (w' : World) : Prop :=
  Below w.heap.size w w' ∧ ((kindS l = 0 ∧ e = .returned (.tuple #[.pointer none, .int .i64 12])) ∨
    (kindS l ≠ 0 ∧ ∃ g, w.heap.size ≤ g ∧ e = .returned (.tuple #[.pointer (some ⟨g, 0, none⟩), .int .i64 0]) ∧ CodeOk w' g l))
set_option maxRecDepth 100000 in
set_option maxHeartbeats 8000000 in
theorem new_any (a : Option Addr) (n c : Nat) (l : List Int) (w : World) (hl : l.length = n) (hn : n ≤ 60000) (hr : Rd w nE a l) :
  Calls Try.prog 88 #[.slice a n c] w (NewPost w l) := by
  have HR := Lib.hid (And.intro hl hr)
  clear hl hr
  go_enter Try.func88, Try.ntmps88
  go_wp2_with fail
  refine (words_any a n c l w HR.out.1 hn HR.out.2).mono ?_
  rintro e w1 ⟨hB1, h⟩
  rcases h with ⟨hk, rfl⟩ | ⟨hk, p, rfl, hw⟩
  · have HF : Hid (NewPost w l (.returned (.tuple #[.pointer none, .int .i64 12])) w1) := Lib.hid ⟨hB1, .inl ⟨hk, rfl⟩⟩
    clear hk hB1
    go_wp2
    go_ret2
    exact HF.out
  · have HK := Lib.hid hk
    have HW := Lib.hid (And.intro hB1 hw)
    have hv := Lib.hid (kindS_valid hk)
    clear hk hB1 hw
    go_wp2_with fail
    refine (cloneI_any a n c l w1 HR.out.1 (by omega) (HR.out.2.below HW.out.1)).mono ?_
    rintro e w2 ⟨a2, c2, rfl, hown2, hB2⟩
    have HB2 := Lib.hid (HW.out.1.trans (hB2.mono HW.out.1.size))
    have HW2 := Lib.hid (And.intro (hown2.mono (b' := 0) (Nat.zero_le _)) ((HW.out.2.below hB2).mono (b' := 0) (Nat.zero_le _)))
    clear hown2 hB2 HW
    go_wp2
    generalize hW : w2.alloc (.cells #[.slice a2 n c2, .slice p n n, .int .i64 0, .int .i64 0, .int .i64 0, .int .i64 0, .int .i64 0, .int .i64 0, .int .i64 0, .int .i64 0, .int .i64 0, .int .i64 0, .int .i64 0, .int .i64 0, .int .i64 0, .int .i64 0, .int .i64 0, .int .i64 0, .slice none 0 0] 147) = W
    have HC0 : Hid (CR w (w2.heap.size + 1) n w2.heap.size l a2 p c2 n W (cntF l 0 0) (.slice none 0 0)) := Lib.hid (by
      rw [← hW]
      refine ⟨HB2.out.alloc HB2.out.size _, ?_, HW2.out.1.alloc _, HW2.out.2.alloc _, ?_, ?_, by omega, HB2.out.size, by simp⟩
      · have := Blk.new w2 147 #[.slice a2 n c2, .slice p n n, .int .i64 0, .int .i64 0, .int .i64 0, .int .i64 0, .int .i64 0, .int .i64 0, .int .i64 0, .int .i64 0, .int .i64 0, .int .i64 0, .int .i64 0, .int .i64 0, .int .i64 0, .int .i64 0, .int .i64 0, .int .i64 0, .slice none 0 0]
        unfold Arr codeF
        simp only [cntF_zero]
        exact this
      · intro z hz
        rcases HW2.out.1.blk with ⟨h, _⟩ | ⟨z', h, _, h2⟩
        · rw [h] at hz; cases hz
        · rw [h] at hz; simp only [Option.some.injEq, Addr.mk.injEq, and_true] at hz; omega
      · intro z hz
        rcases HW2.out.2.blk with ⟨h, _⟩ | ⟨z', h, _, h2⟩
        · rw [h] at hz; cases hz
        · rw [h] at hz; simp only [Option.some.injEq, Addr.mk.injEq, and_true] at hz; omega)
    obtain ⟨g, hg⟩ : ∃ g, g = w2.heap.size := ⟨_, rfl⟩
    rw [← hg] at HC0 ⊢
    clear hW hg HB2 HW2
    go_loopw [7] (fun x7 wr => ∃ (j : Nat) (q : Option Addr) (o d : Nat), j ≤ 15 ∧ x7 = .int .i64 ((j : Int) + 1) ∧ CR w (g + 1) n g l a2 p c2 n wr (cntF l j 0) (.slice q o d) ∧ Own wr (g + 1) 3 oE q o d (ordL l j)) (fun x7 _ => 17 - (intOf x7).toNat)
    case atStart => exact ⟨0, none, 0, 0, by omega, rfl, HC0.out, Own.nil⟩
    case round =>
      clear HC0
      obtain ⟨j, q, o, d, hj, rfl, hC, hO⟩ := hrel
      by_cases hj15 : j < 15
      · have gj : decide ((j : Int) + 1 ≤ 15) = true := decide_eq_true (by omega)
        have HC := Lib.hid hC
        have HO := Lib.hid hO
        clear hC hO
        go_wp2
        go_loopw [29] (fun x29 wr => ∃ (i : Nat) (q : Option Addr) (o d : Nat), i ≤ n ∧ x29 = .int .i64 i ∧ CR w (g + 1) n g l a2 p c2 n wr (cntF l j i) (.slice q o d) ∧ Own wr (g + 1) 3 oE q o d (ordL l j ++ sgT l (j + 1) i)) (fun x29 _ => n - (intOf x29).toNat)
        case atStart => exact ⟨0, q, o, d, by omega, rfl, HC.out, by simpa [sgT] using HO.out⟩
        case round =>
          clear HC HO
          obtain ⟨i, q, o, d, hi, rfl, hC, hO⟩ := hrel
          by_cases him : i < n
          · have hil : i < l.length := by rw [HR.out.1]; exact him
            obtain ⟨b, off, rfl, _, hc⟩ := (HR.out.2.below hC.below).at hil
            replace hc : wr.cell? ⟨b, off + i, none⟩ = some (.int .i64 l[i]) := hc
            have hx := hv.out l[i] (List.getElem_mem hil)
            have HCZ := Lib.hid (cz_snoc hil (j + 1))
            have HSG := Lib.hid (sgT_snoc l (j + 1) hil)
            by_cases h1 : l[i] = (j : Int) + 1
            · rw [h1] at hc
              have HE : Hid (cz (l.take (i + 1)) (j + 1) = cz (l.take i) (j + 1) + 1) := Lib.hid (by rw [HCZ.out, if_pos (by rw [h1]; omega)])
              have HE2 : Hid (sgT l (j + 1) (i + 1) = sgT l (j + 1) i ++ [i]) := Lib.hid (by rw [HSG.out, if_pos (by rw [h1]; omega)])
              have k1 := hC.arr.cell (k := 2 + (j + 1)) (by omega)
              have k2 := hC.arr.frozen (2 + (j + 1))
              have k0 : codeF (.slice a2 n c2) (.slice p n n) (.slice q o d) (cntF l j i) (2 + (j + 1)) = .int .i64 ((cz (l.take i) (j + 1) : Nat) : Int) := by
                unfold codeF
                rw [if_neg (by omega), if_neg (by omega), if_pos (by omega), show 2 + (j + 1) - 2 = j + 1 by omega, cntF_here]
              rw [k0] at k1
              have hzc := cz_le (l.take i) (j + 1)
              rw [List.length_take] at hzc
              have HC := Lib.hid (hC.set (2 + (j + 1)) (.int .i64 ((cz (l.take (i + 1)) (j + 1) : Nat) : Int)) (cntF l j (i + 1)) (.slice q o d) (fun k hk => by
                by_cases hk2 : k = 2 + (j + 1)
                · subst hk2
                  rw [if_pos rfl]
                  unfold codeF
                  rw [if_neg (by omega), if_neg (by omega), if_pos (by omega), show 2 + (j + 1) - 2 = j + 1 by omega, cntF_here]
                · rw [if_neg hk2]
                  unfold codeF
                  by_cases hk3 : k - 2 = j + 1
                  · have : ¬ k < 18 := by omega
                    simp only [if_neg this]
                  · rw [cntF_other l j i (i + 1) (k - 2) hk3]))
              have HO := Lib.hid (hC.row hO (2 + (j + 1)) (.int .i64 ((cz (l.take (i + 1)) (j + 1) : Nat) : Int)))
              rw [HE.out] at HC HO
              clear hC hO k0 h1
              generalize cz (l.take i) (j + 1) = z at *
              have hs2 : ((j : Int) + 1).toNat = j + 1 := by omega
              have f2 : (j : Int) + 1 < 16 := by omega
              have f7 : 0 ≤ (j : Int) + 1 := by omega
              have f6 : ¬ (j : Int) + 1 < 0 := by omega
              have f8 : IntKind.i64.wrap ((z : Int) + 1) = (z : Int) + 1 := by rw [IntKind.wrap_i64]; omega
              go_wp2
              go_still_tail 10, (by kernel_rfl)
              show wpList _ _ _ _ _ wr.drew
              have hz1 : ((z + 1 : Nat) : Int) = (z : Int) + 1 := by omega
              rw [hz1] at HC HO
              clear hz1
              generalize hW5 : wr.setCell ⟨g, 2 + (j + 1), none⟩ (.int .i64 ((z : Int) + 1)) = W5 at HC HO
              have HW5 := Lib.hid hW5
              have hcell : Hid ((W5.drew.alloc (.cells #[.int .i64 (i : Int)] 3)).cell? ⟨wr.heap.size, 0, none⟩ = some (oE i)) := Lib.hid (by
                have hs5 : wr.heap.size = W5.drew.heap.size := by rw [← hW5]; simp
                rw [hs5]; exact cell_push rfl W5.drew _)
              have HC5 := Lib.hid HC.out.drew
              have HO5 := Lib.hid HO.out.drew
              have kq : (wr.setCell ⟨g, 2 + (j + 1), none⟩ (.int .i64 ((z : Int) + 1))).drew.cell? ⟨g, 18, none⟩ = some (.slice q o d) := by rw [hW5]; exact HC5.out.arr.cell (k := 18) (by omega)
              have hsz5 := HC5.out.lg.2.2
              have hlen5 : o ≤ 900000 + i := by
                have h1 := HO5.out.len
                rw [List.length_append, sgT_len l (j + 1) i (by omega)] at h1
                have h2 := ordL_len l j
                have h3 : l.length * j ≤ l.length * 14 := Nat.mul_le_mul_left _ (by omega)
                have h4 := cz_le (l.take i) (j + 1)
                rw [List.length_take] at h4
                have := HR.out.1
                omega
              clear f8 f6 f7 f2 hs2 hc hW5 HC HO
              go_wp2_with (at_builtin; rw [HW5.out]; refine wpList_push (w0 := W5.drew) slIntE rfl _ _ rfl rfl rfl HO5.out i _ rfl hcell.out rfl (by omega) (by unfold maxLen; omega) hsz5 ?_; intro p3 c3 w3 hown3 hg3; have HC3 := Lib.hid (HC5.out.push HO5.out hg3); have k7 := HC3.out.arr.cell (k := 18) (by omega); have k8 := HC3.out.arr.frozen 18; clear hg3)
              have HC4 := Lib.hid (HC3.out.set 18 (.slice p3 (o + 1) c3) (cntF l j (i + 1)) (.slice p3 (o + 1) c3) (fun k hk => by
                by_cases hk2 : k = 18
                · subst hk2; rfl
                · rw [if_neg hk2]; unfold codeF
                  by_cases h3 : k < 18
                  · simp only [if_pos h3]
                  · omega))
              have HO4 := Lib.hid (HC3.out.row hown3 18 (.slice p3 (o + 1) c3))
              rw [List.append_assoc, ← HE2.out] at HO4
              clear hown3 HC3 k7 k8
              go_roundw
              case rel => exact ⟨i + 1, p3, o + 1, c3, by omega, by go_num, HC4.out, HO4.out⟩
              case measure => simp [intOf] <;> omega
            · have HCe : Hid (CR w (g + 1) n g l a2 p c2 n wr (cntF l j (i + 1)) (.slice q o d)) := Lib.hid (by
                have hf : cntF l j i = cntF l j (i + 1) := by
                  funext k
                  by_cases hk : k = j + 1
                  · subst hk; rw [cntF_here, cntF_here, HCZ.out, if_neg (by omega)]; rfl
                  · exact cntF_other l j i (i + 1) k hk
                rw [← hf]; exact hC)
              have HOe : Hid (Own wr (g + 1) 3 oE q o d (ordL l j ++ sgT l (j + 1) (i + 1))) := Lib.hid (by
                rw [HSG.out, if_neg (by omega), List.append_nil]; exact hO)
              have g1 : (l[i] == (j : Int) + 1) = false := beq_eq_false_iff_ne.2 h1
              clear hC hO h1
              go_wp2
              go_roundw
              case rel => exact ⟨i + 1, q, o, d, by omega, by go_num, HCe.out, HOe.out⟩
              case measure => simp [intOf] <;> omega
          · have him' : i = n := by omega
            have HCe : Hid (CR w (g + 1) n g l a2 p c2 n wr (cntF l (j + 1) 0) (.slice q o d)) := Lib.hid (by
              have hf : cntF l j i = cntF l (j + 1) 0 := by
                funext k; rw [him', ← HR.out.1]; exact cntF_next l j k
              rw [← hf]; exact hC)
            have HOe : Hid (Own wr (g + 1) 3 oE q o d (ordL l (j + 1))) := Lib.hid (by
              rw [ordL_succ, ← sgT_full, HR.out.1, ← him']; exact hO)
            subst him'
            clear hC hO
            go_wp2
            go_roundw
            case rel => exact ⟨j + 1, q, o, d, by omega, by go_num, HCe.out, HOe.out⟩
            case measure => simp [intOf] <;> omega
      · have hj' : j = 15 := by omega
        subst hj'
        have hlen : o ≤ 900000 := by
          have h1 := hO.len
          have h2 := ordL_len l 15
          have := HR.out.1
          omega
        have HF : Hid (NewPost w l (.returned (.tuple #[.pointer (some ⟨g, 0, none⟩), .int .i64 0])) wr) := Lib.hid ⟨hC.below, .inr ⟨HK.out, g, hC.lg.2.1, rfl, ⟨a2, p, q, n, c2, n, d, o, hC.arr.congr (fun k hk => by
          unfold codeF
          by_cases h18 : k < 18
          · have : cntF l 15 0 (k - 2) = cn l (k - 2) := cntF_full l (by omega)
            rw [this]
          · simp only [if_neg h18]), hn, hlen, hv.out, hC.oa, hC.op, hO.mono (Nat.zero_le _)⟩⟩⟩
        clear hC hO
        go_wp2
        go_ret2
        exact HF.out
end Go.Proofs.Ytgcdeadfkljeaaa
