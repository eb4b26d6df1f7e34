/- inflate.state: run, lengths. -/
import Derived.Test.YtgcdeadfkljeaaaInfA
namespace Go.Proofs.Ytgcdeadfkljeaaa
open Go.RowKit
set_option linter.unusedVariables false
set_option linter.unusedSimpArgs false

theorem Chg.young {A : Nat} {w0 w w' : World} {row : Option Nat} (h : Chg A w0 w) (hg : w.grownBy w' row) (hA : A ≤ w0.heap.size) (hr : ∀ k, row = some k → w0.heap.size ≤ k) : Chg A w0 w' := by
  refine ⟨h.bel.grown hg (Nat.le_trans hA h.bel.size) (fun k hk => Nat.le_trans hA (hr k hk)), fun q cs T fr h1 hq => ?_⟩
  have h2 := h.keep q cs T fr h1 hq
  have h3 := (Array.getElem?_eq_some_iff.1 hq).1
  exact (hg.block q (Array.getElem?_eq_some_iff.1 h2).1 (fun e => by have := hr q e.symm; omega)).trans h2
section
variable {P : Program} {ops : Array Oper} {Q : Exit → Act → World → Prop} {a : Act} {w : World} {o : Oper} {rest : List Oper} {base : Nat} {α : Type} {E : α → Value} {T e : TypeId} {z : Value} {bytes : Nat}
/-- make([]T, 0, n). -/
theorem wpList_mk0 (hT : SlT P T e z 1 bytes) (hgd : o.guard = none) (x x' : Operand) (ho : o.op = .makeSlice T x x')
    {k k' : IntKind} {i' : Int} (n : Nat) (hx : a.eval x = .int k 0) (hx' : a.eval x' = .int k' i') (hi' : i' = (n : Int))
    (hlen : bytes * n ≤ 281474976710656) (hlen2 : n ≤ maxLen) (hbase : base ≤ w.heap.size)
    (h : ∀ p' w', Own w' base e E p' 0 n ([] : List α) → w.grownBy w' none → wpList P ops Q rest (a.put o.dst (.slice p' 0 n)) w') :
    wpList P ops Q (o :: rest) a w := by
  obtain ⟨ti, hti, hz0, hz2, hz3⟩ := info_parts hT.info
  subst hz3
  refine wpList_make_own (P := P) w hgd x x' T ho base e ti z 1 hT.under hti hz0 hz2 k k' i' n hx hx' hi' hlen hlen2 hbase ?_
  intro w' hr hg
  exact h _ w' ⟨hr, rfl⟩ hg
end
theorem ISt.keepInt {w w' : World} {A B gs gr B2 n c : Nat} {L : List UInt8} {most : Int} {s : IS} {p : Option Addr} {acc : List Int} (h : ISt w A B gs gr L most s) (ho : Own w B2 3 nE p n c acc) (hB : B ≤ B2) (hg : w.grownBy w' (Value.slice p n c).ownBlock) : ISt w' A B gs gr L most s := by
  have hk : KeepT [3] w w' := KeepT.own ho (by decide) hg
  obtain ⟨q, m, d, h1, h2⟩ := h.ex
  have hle := h.le
  exact ⟨⟨q, m, d, hk.blk h1 (by decide), hk.ownR h2 (by decide)⟩, h.rd.grown hg (own_far ho (by omega)), h.le.1, h.le.2.1, h.le.2.2.1, h.le.2.2.2.1, h.le.2.2.2.2.1, Nat.le_trans h.le.2.2.2.2.2 hg.size⟩
def runK (L : List UInt8) (x : Int) (acc : List Int) (s : IS) : (Int × Nat) × IS :=
  if x = 16 then (if acc = [] then ((0, 0), failS 2 (bitsK L 2 s).2) else ((acc.getLastD 0, 3 + (bitsK L 2 s).1), (bitsK L 2 s).2))
  else if x = 17 then ((0, 3 + (bitsK L 3 s).1), (bitsK L 3 s).2)
  else if x = 18 then ((0, 11 + (bitsK L 7 s).1), (bitsK L 7 s).2)
  else ((x, 1), s)
theorem bitsK_lt (L : List UInt8) (m : Nat) (hm : m ≤ 32) (s : IS) : (bitsK L m s).1 < 2 ^ m := by
  unfold bitsK
  split
  · show rdGetV L s.p m < _
    unfold rdGetV
    split
    · refine Nat.lt_of_lt_of_le (numF_lt _) (Nat.pow_le_pow_right (by decide) ?_)
      rw [List.length_take, Int.toNat_natCast]; omega
    · exact Nat.two_pow_pos _
  · exact Nat.two_pow_pos _
theorem last_at {l : List Int} (h : l ≠ []) : l[l.length - 1]? = some (l.getLastD 0) := by
  rw [← List.getLast?_eq_getElem?]
  cases l with
  | nil => exact absurd rfl h
  | cons x l => rw [List.getLast?_eq_some_getLast h, List.getLastD_eq_getLast?, List.getLast?_eq_some_getLast h]; rfl
def RunPost (A B gs gr : Nat) (L : List UInt8) (most : Int) (w : World) (r : (Int × Nat) × IS) (e : Ending) (w' : World) : Prop := e = .returned (.tuple #[.int .i64 r.1.1, .int .i64 ((r.1.2 : Nat) : Int)]) ∧ ISt w' A B gs gr L most r.2 ∧ Chg A w w'
set_option maxRecDepth 100000 in
set_option maxHeartbeats 4000000 in
theorem iRun_any {A B gs gr : Nat} {L : List UInt8} {most : Int} {s : IS} (x : Int) (a : Option Addr) (n c : Nat) (acc : List Int) (w : World) (h : ISt w A B gs gr L most s) (hl : acc.length = n) (hn : n ≤ 60000) (hr : Rd w nE a acc) (hB : ∀ b off, a = some ⟨b, off, none⟩ → acc ≠ [] → ∀ w', Chg A w w' → Rd w' nE a acc) :
  Calls Try.prog 102 #[.pointer (some ⟨gs, 0, none⟩), .int .i64 x, .slice a n c] w (RunPost A B gs gr L most w (runK L x acc s)) := by
  have H := Lib.hid h
  by_cases h16 : x = 16
  · subst h16
    have HV := Lib.hid (bitsK_lt L 2 (by decide) s)
    have HR : Hid (runK L 16 acc s = if acc = [] then ((0, 0), failS 2 (bitsK L 2 s).2) else ((acc.getLastD 0, 3 + (bitsK L 2 s).1), (bitsK L 2 s).2)) := Lib.hid (by unfold runK; rw [if_pos rfl])
    have HC := Lib.hid (iBits_any 2 w h (by decide))
    have HA : Hid (acc.length = n ∧ (∀ b off, a = some ⟨b, off, none⟩ → acc ≠ [] → ∀ w', Chg A w w' → Rd w' nE a acc) ∧ Rd w nE a acc) := Lib.hid ⟨hl, hB, hr⟩
    clear h hl hr hB
    generalize bitsK L 2 s = bs at *
    obtain ⟨v, s1⟩ := bs
    simp only at HC HV HR
    unfold StPost at HC
    have gv : IntKind.i64.wrap (3 + (v : Int)) = 3 + (v : Int) := IntWalk.i64_in _ (by have := HV.out; omega)
    go_enter Try.func102, Try.ntmps102
    go_wp2_with fail
    refine HC.out.mono ?_
    rintro e w1 ⟨rfl, h1, k1⟩
    have H1 := Lib.hid (And.intro h1 k1)
    clear h1 k1 HC
    by_cases h0 : acc = []
    · have hn0 : n = 0 := by rw [← HA.out.1, h0]; rfl
      subst hn0
      have HR2 : Hid (runK L 16 acc s = ((0, 0), failS 2 s1)) := Lib.hid (by rw [HR.out, if_pos h0])
      clear HA h0
      go_wp2_with fail
      refine (iFail_any 2 w1 H1.out.1).mono ?_
      rintro e w2 ⟨rfl, h2, k2⟩
      have HF := Lib.hid (And.intro h2 (H1.out.2.trans k2))
      clear h2 k2
      go_wp2_with fail
      go_ret2
      rw [HR2.out]
      exact ⟨rfl, HF.out.1, HF.out.2⟩
    · have HR2 : Hid (runK L 16 acc s = ((acc.getLastD 0, 3 + v), s1)) := Lib.hid (by rw [HR.out, if_neg h0])
      have hpos : 0 < n := by rw [← HA.out.1]; exact List.length_pos_iff.2 h0
      have hlt := last_at h0
      rw [HA.out.1] at hlt
      obtain ⟨b, off, rfl, -, -⟩ := HA.out.2.2.at (show 0 < acc.length by rw [HA.out.1]; exact hpos)
      have hr1 := HA.out.2.1 b off rfl h0 w1 H1.out.2
      have hcell : w1.cell? ⟨b, off + (n - 1), none⟩ = some (.int .i64 (acc.getLastD 0)) := by
        rcases hr1 with h | ⟨b', off', hb', hc'⟩
        · exact absurd h h0
        · simp only [Option.some.injEq, Addr.mk.injEq, and_true] at hb'
          obtain ⟨rfl, rfl⟩ := hb'
          exact hc' (n - 1) _ hlt
      have gk : (n : Int) - 1 = ((n - 1 : Nat) : Int) := by omega
      have gz : ((n : Int) == 0) = false := by simp; omega
      generalize acc.getLastD 0 = la at *
      clear hr1 hlt h0
      go_wp2_with fail
      go_ret2
      rw [HR2.out]
      exact ⟨by simp, H1.out.1, H1.out.2⟩
  · have g16 : (x == 16) = false := by simpa using h16
    clear hl hr hB
    by_cases h17 : x = 17
    · subst h17
      have HV := Lib.hid (bitsK_lt L 3 (by decide) s)
      have HR : Hid (runK L 17 acc s = ((0, 3 + (bitsK L 3 s).1), (bitsK L 3 s).2)) := Lib.hid rfl
      have HC := Lib.hid (iBits_any 3 w h (by decide))
      clear h
      generalize bitsK L 3 s = bs at *
      obtain ⟨v, s1⟩ := bs
      simp only at HC HV HR
      unfold StPost at HC
      have gv : IntKind.i64.wrap (3 + (v : Int)) = 3 + (v : Int) := IntWalk.i64_in _ (by have := HV.out; omega)
      go_enter Try.func102, Try.ntmps102
      go_wp2_with fail
      refine HC.out.mono ?_
      rintro e w1 ⟨rfl, h1, k1⟩
      have H1 := Lib.hid (And.intro h1 k1)
      clear h1 k1 HC
      go_wp2_with fail
      go_ret2
      rw [HR.out]
      exact ⟨by simp, H1.out.1, H1.out.2⟩
    · have g17 : (x == 17) = false := by simpa using h17
      by_cases h18 : x = 18
      · subst h18
        have HV := Lib.hid (bitsK_lt L 7 (by decide) s)
        have HR : Hid (runK L 18 acc s = ((0, 11 + (bitsK L 7 s).1), (bitsK L 7 s).2)) := Lib.hid rfl
        have HC := Lib.hid (iBits_any 7 w h (by decide))
        clear h
        generalize bitsK L 7 s = bs at *
        obtain ⟨v, s1⟩ := bs
        simp only at HC HV HR
        unfold StPost at HC
        have gv : IntKind.i64.wrap (11 + (v : Int)) = 11 + (v : Int) := IntWalk.i64_in _ (by have := HV.out; omega)
        go_enter Try.func102, Try.ntmps102
        go_wp2_with fail
        refine HC.out.mono ?_
        rintro e w1 ⟨rfl, h1, k1⟩
        have H1 := Lib.hid (And.intro h1 k1)
        clear h1 k1 HC
        go_wp2_with fail
        go_ret2
        rw [HR.out]
        exact ⟨by simp, H1.out.1, H1.out.2⟩
      · have g18 : (x == 18) = false := by simpa using h18
        have HR : Hid (runK L x acc s = ((x, 1), s)) := Lib.hid (by unfold runK; rw [if_neg h16, if_neg h17, if_neg h18])
        clear h h16 h17 h18
        go_enter Try.func102, Try.ntmps102
        go_wp2_with fail
        go_ret2
        rw [HR.out]
        exact ⟨rfl, H.out, Chg.refl _ _⟩
/-- What a step of lengths leaves. -/
def lenStep (L : List UInt8) (l : List Int) (n : Nat) (acc : List Int) (s : IS) : (Int × Nat) × IS :=
  let x := signK L l s
  let r := runK L x.1 acc x.2
  (r.1, if ((r.1.2 : Nat) : Int) > (n : Int) - (acc.length : Int) then failS 2 r.2 else r.2)
def lensK (L : List UInt8) (l : List Int) (n : Nat) : Nat → List Int → IS → List Int × IS
  | 0, acc, s => (acc, s)
  | k+1, acc, s => if acc.length < n then (if (lenStep L l n acc s).2.e ≠ 0 then ([], (lenStep L l n acc s).2) else lensK L l n k (acc ++ List.replicate (lenStep L l n acc s).1.2 (lenStep L l n acc s).1.1) (lenStep L l n acc s).2) else (acc, s)
theorem failS_ne {x : Int} (hx : x ≠ 0) (s : IS) : (failS x s).e ≠ 0 := by
  unfold failS; split
  · exact hx
  · assumption
theorem runK_pos {L : List UInt8} {x : Int} {acc : List Int} {s : IS} (h : (runK L x acc s).2.e = 0) : 0 < (runK L x acc s).1.2 := by
  unfold runK at h ⊢
  split
  · rename_i h1
    rw [if_pos h1] at h
    split
    · rename_i h2
      rw [if_pos h2] at h
      exact absurd h (failS_ne (by decide) _)
    · show 0 < 3 + _
      omega
  · split
    · show 0 < 3 + _
      omega
    · split
      · show 0 < 11 + _
        omega
      · show 0 < 1
        omega
theorem lenStep_ok {L : List UInt8} {l : List Int} {n : Nat} {acc : List Int} {s : IS} (h : (lenStep L l n acc s).2.e = 0) : 0 < (lenStep L l n acc s).1.2 ∧ acc.length + (lenStep L l n acc s).1.2 ≤ n := by
  unfold lenStep at h ⊢
  simp only at h ⊢
  split at h
  · exact absurd h (failS_ne (by decide) _)
  · exact ⟨runK_pos h, by omega⟩
theorem runK_le {L : List UInt8} {x : Int} {acc : List Int} {s : IS} : (runK L x acc s).1.2 ≤ 200 := by
  have h2 : (bitsK L 2 s).1 < 2 ^ 2 := bitsK_lt L 2 (by decide) s
  have h3 : (bitsK L 3 s).1 < 2 ^ 3 := bitsK_lt L 3 (by decide) s
  have h7 : (bitsK L 7 s).1 < 2 ^ 7 := bitsK_lt L 7 (by decide) s
  unfold runK
  repeat' split
  all_goals (simp only; omega)
def lenOf7 : Value → Nat
  | .slice _ n _ => n
  | _ => 0
def LensPost (A B gs gr : Nat) (L : List UInt8) (most : Int) (w : World) (r : List Int × IS) (e : Ending) (w' : World) : Prop := ∃ p m c, e = .returned (.slice p m c) ∧ Own w' w.heap.size 3 nE p m c r.1 ∧ ISt w' A B gs gr L most r.2 ∧ Chg A w w'
set_option maxRecDepth 100000 in
set_option maxHeartbeats 8000000 in
theorem iLens_any {A B gs gr : Nat} {L : List UInt8} {most : Int} {s : IS} (gc : Nat) (l : List Int) (n : Nat) (w : World) (h : ISt w A B gs gr L most s) (hc : CodeOk w gc l) (hn : n ≤ 1000) :
  Calls Try.prog 92 #[.pointer (some ⟨gs, 0, none⟩), .pointer (some ⟨gc, 0, none⟩), .int .i64 (n : Int)] w (LensPost A B gs gr L most w (lensK L l n (n + 1) [] s)) := by
  have H := Lib.hid (And.intro h hc)
  obtain ⟨tot, htot⟩ : ∃ t, t = lensK L l n (n + 1) [] s := ⟨_, rfl⟩
  rw [← htot]
  have HT := Lib.hid htot
  clear htot h hc
  go_enter Try.func92, Try.ntmps92
  go_wp2_with (refine wpList_mk0 (base := w.heap.size) (α := Int) (E := nE) slIntE rfl _ _ rfl n rfl rfl rfl (by omega) (by unfold maxLen; omega) (Nat.le_refl _) ?_; intro p1 w1 hown1 hg1)
  have HW1 : Hid (ISt w1 A B gs gr L most s ∧ Chg A w w1 ∧ Own w1 w.heap.size 3 nE p1 0 n [] ∧ w.heap.size ≤ w1.heap.size) := Lib.hid (by
    have hb := below_of_grownBy hg1
    exact ⟨H.out.1.below hb, Chg.of_below hb H.out.1.base, hown1, hg1.size⟩)
  clear hown1 hg1
  go_loopw [7] (fun x7 wr => ∃ (acc : List Int) (p : Option Addr) (c k : Nat) (s' : IS), x7 = .slice p acc.length c ∧ acc.length ≤ n ∧ Hid (ISt wr A B gs gr L most s' ∧ Chg A w wr ∧ Own wr w.heap.size 3 nE p acc.length c acc ∧ w.heap.size ≤ wr.heap.size) ∧ Hid (tot = lensK L l n k acc s') ∧ Hid (n - acc.length < k)) (fun x7 _ => n - lenOf7 x7)
  case atStart => exact ⟨[], p1, n, n + 1, s, rfl, by simp, HW1, HT, Lib.hid (by simp)⟩
  case round =>
    clear HW1 HT
    obtain ⟨acc, p, c, k, s', rfl, hlen, hW, hK, hF⟩ := hrel
    by_cases hin : acc.length < n
    · obtain ⟨k', rfl⟩ : ∃ k', k = k' + 1 := ⟨k - 1, by have := hF.out; omega⟩
      have HLK : Hid (tot = if (lenStep L l n acc s').2.e ≠ 0 then ([], (lenStep L l n acc s').2) else lensK L l n k' (acc ++ List.replicate (lenStep L l n acc s').1.2 (lenStep L l n acc s').1.1) (lenStep L l n acc s').2) := Lib.hid (by
        rw [hK.out]
        show (if acc.length < n then _ else _) = _
        rw [if_pos hin])
      have HOK : Hid ((lenStep L l n acc s').2.e = 0 → 0 < (lenStep L l n acc s').1.2 ∧ acc.length + (lenStep L l n acc s').1.2 ≤ n) := Lib.hid lenStep_ok
      have HST : Hid (lenStep L l n acc s' = ((runK L (signK L l s').1 acc (signK L l s').2).1, if (((runK L (signK L l s').1 acc (signK L l s').2).1.2 : Nat) : Int) > (n : Int) - (acc.length : Int) then failS 2 (runK L (signK L l s').1 acc (signK L l s').2).2 else (runK L (signK L l s').1 acc (signK L l s').2).2)) := Lib.hid rfl
      generalize lenStep L l n acc s' = st at *
      have HS := Lib.hid (iSign_any gc l wr hW.out.1 (H.out.2.keepT hW.out.2.1.keep))
      unfold StPost at HS
      generalize signK L l s' = sg at *
      obtain ⟨x, s1⟩ := sg
      simp only at HS HST
      go_wp2_with fail
      refine HS.out.mono ?_
      rintro e w2 ⟨rfl, h2, k2⟩
      have HW2 : Hid (ISt w2 A B gs gr L most s1 ∧ Chg A w w2 ∧ Own w2 w.heap.size 3 nE p acc.length c acc ∧ w.heap.size ≤ w2.heap.size) := Lib.hid ⟨h2, hW.out.2.1.trans k2, k2.keep.ownR hW.out.2.2.1 (by decide), Nat.le_trans hW.out.2.2.2 k2.bel.size⟩
      clear h2 k2 HS hW
      go_wp2_with fail
      have HLE := Lib.hid (runK_le (L := L) (x := x) (acc := acc) (s := s1))
      have HR := Lib.hid (iRun_any x p acc.length c acc w2 HW2.out.1 rfl (by omega) HW2.out.2.2.1.rd (fun _ _ _ _ w' hk => (hk.keep.ownR HW2.out.2.2.1 (by decide)).rd))
      unfold RunPost at HR
      generalize runK L x acc s1 = rr at *
      obtain ⟨⟨what, times⟩, s2⟩ := rr
      simp only at HR HST HLE
      refine HR.out.mono ?_
      rintro e w3 ⟨rfl, h3, k3⟩
      have HW3 : Hid (ISt w3 A B gs gr L most s2 ∧ Chg A w w3 ∧ Own w3 w.heap.size 3 nE p acc.length c acc ∧ w.heap.size ≤ w3.heap.size) := Lib.hid ⟨h3, HW2.out.2.1.trans k3, k3.keep.ownR HW2.out.2.2.1 (by decide), Nat.le_trans HW2.out.2.2.2 k3.bel.size⟩
      clear h3 k3 HR HW2
      have gsub : IntKind.i64.wrap ((n : Int) - (acc.length : Int)) = (n : Int) - (acc.length : Int) := IntWalk.i64_in _ (by omega)
      by_cases hgt : ((times : Nat) : Int) > (n : Int) - (acc.length : Int)
      · rw [if_pos hgt] at HST
        go_wp2_with fail
        refine (iFail_any 2 w3 HW3.out.1).mono ?_
        rintro e w4 ⟨rfl, h4, k4⟩
        have HW4 : Hid (ISt w4 A B gs gr L most (failS 2 s2) ∧ Chg A w w4) := Lib.hid ⟨h4, HW3.out.2.1.trans k4⟩
        clear h4 k4 HW3
        have HNE := Lib.hid (failS_ne (x := 2) (by decide) s2)
        generalize failS 2 s2 = s3 at *
        obtain ⟨q4, n4, c4, -, -, -, e4, -, -⟩ := HW4.out.1.cells
        have heb : (s3.e != 0) = true := by simpa using HNE.out
        have HT2 : Hid (tot = ([], s3)) := Lib.hid (by rw [HLK.out, HST.out, if_pos HNE.out])
        clear HLK HST HOK
        go_wp2_with fail
        go_ret
        rw [HT2.out]
        exact ⟨none, 0, 0, rfl, Own.nil, HW4.out.1, HW4.out.2⟩
      · rw [if_neg hgt] at HST
        obtain ⟨q4, n4, c4, -, -, -, e4, -, -⟩ := HW3.out.1.cells
        by_cases he : s2.e = 0
        · have hpos := HOK.out (by rw [HST.out]; exact he)
          rw [HST.out] at hpos
          simp only at hpos
          have HT2 : Hid (tot = lensK L l n k' (acc ++ List.replicate times what) s2) := Lib.hid (by rw [HLK.out, HST.out, if_neg (by simpa using he)])
          rw [he] at e4
          clear HLK HST HOK hgt
          go_wp2_with fail
          clear e4
          go_loopw [7, 41] (fun x7 x41 wr => ∃ (j : Nat) (p : Option Addr) (c : Nat), x7 = .slice p (acc.length + j) c ∧ x41 = .int .i64 (j : Int) ∧ j ≤ times ∧ Hid (ISt wr A B gs gr L most s2 ∧ Chg A w wr ∧ Own wr w.heap.size 3 nE p (acc.length + j) c (acc ++ List.replicate j what) ∧ w.heap.size ≤ wr.heap.size)) (fun _ x41 _ => times - (intOf x41).toNat)
          case atStart => exact ⟨0, p, c, by simp, rfl, Nat.zero_le _, Lib.hid (by simpa using HW3.out)⟩
          case round =>
            clear HW3
            obtain ⟨j, p, c, rfl, rfl, hj, hW⟩ := hrel
            by_cases hjn : j < times
            · have HWR := hW
              go_wp2_with (at_builtin; refine wpList_push (w0 := wr) slIntE rfl _ _ rfl rfl rfl HWR.out.2.2.1 what _ rfl (cell_push rfl _ _) rfl (by omega) (by unfold maxLen; omega) HWR.out.2.2.2 ?_; intro p3 c3 w3 hown3 hg3)
              have HW3 : Hid (ISt w3 A B gs gr L most s2 ∧ Chg A w w3 ∧ Own w3 w.heap.size 3 nE p3 (acc.length + (j + 1)) c3 (acc ++ List.replicate (j + 1) what) ∧ w.heap.size ≤ w3.heap.size) := Lib.hid ⟨hW.out.1.keepInt hW.out.2.2.1 H.out.1.le.2.2.2.2.2 hg3, hW.out.2.1.young hg3 H.out.1.base (fun k hk => (hW.out.2.2.1.1.lt k hk).1), by rw [List.replicate_succ', ← List.append_assoc]; exact hown3, Nat.le_trans hW.out.2.2.2 hg3.size⟩
              clear hown3 hg3
              go_roundw
              case rel => exact ⟨j + 1, p3, c3, by simp [Nat.add_assoc], by go_num, by omega, HW3⟩
              case measure => simp [intOf] <;> omega
            · have hjt : j = times := by omega
              subst hjt
              go_wp2_with fail
              go_roundw
              case rel => exact ⟨acc ++ List.replicate j what, p, c, k', s2, by simp, by simp; omega, Lib.hid (by rw [List.length_append, List.length_replicate]; exact hW.out), HT2, Lib.hid (by have := hF.out; simp; omega)⟩
              case measure => simp [lenOf7] <;> omega
        · have heb : (s2.e != 0) = true := by simpa using he
          have HT2 : Hid (tot = ([], s2)) := Lib.hid (by rw [HLK.out, HST.out, if_pos he])
          clear HLK HST HOK
          go_wp2_with fail
          go_ret
          rw [HT2.out]
          exact ⟨none, 0, 0, rfl, Own.nil, HW3.out.1, HW3.out.2.1⟩
    · have HT2 : Hid (tot = (acc, s')) := Lib.hid (by
        obtain ⟨k', rfl⟩ : ∃ k', k = k' + 1 := ⟨k - 1, by have := hF.out; omega⟩
        rw [hK.out]
        show (if acc.length < n then _ else _) = _
        rw [if_neg hin])
      go_wp2_with fail
      go_ret
      rw [HT2.out]
      exact ⟨_, _, _, rfl, hW.out.2.2.1, hW.out.1, hW.out.2.1⟩
end Go.Proofs.Ytgcdeadfkljeaaa
