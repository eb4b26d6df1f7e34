/- The document's reading of a pool. -/
import Derived.Test.YtbknkahakmfhkaaPooO
namespace Go.Proofs.Ytbknkahakmfhkaa
open Go.RowKit
set_option linter.unusedVariables false
set_option linter.unusedSimpArgs false

theorem rBig_n (g : Nat) (L : List UInt8) (p : Nat) (er m : Int) (w : World) (h : RefOk w g L p er) (hm : sizedB m = true) :
  Calls Try.prog 85 #[.pointer (some ⟨g, 0, none⟩), .int .i64 m] w fun e w' => e = .returned (.int .u64 (bigR (nextL L p er m true))) ∧ RefOk w' g L (nextAt L.length p er m true) (nextEr L.length p er m true) ∧ w.grownBy w' (some g) := by
  have h0 := sizedB_cases m hm
  refine (rBigGet_any g L p er m w h (by omega) (by omega)).mono ?_
  rintro e w' ⟨h1, h2, h3⟩
  rw [hm] at h1 h2
  exact ⟨h1, h2, h3⟩
theorem RefOk.lt9 {w : World} {g : Nat} {l : List UInt8} {p : Nat} {er : Int} (h : RefOk w g l p er) : g < w.heap.size := by
  obtain ⟨a, n, c, h1, h2⟩ := h.ex
  exact h1.lt
theorem RefOk.cellE {w : World} {g : Nat} {l : List UInt8} {p : Nat} {er : Int} (h : RefOk w g l p er) : w.cell? ⟨g, 2, none⟩ = some (.int .i64 er) ∧ w.frozen? ⟨g, 2, none⟩ = false := by
  obtain ⟨a, n, c, hb, _⟩ := h.ex
  exact ⟨hb.cell (i := 2) rfl, hb.frozen 2⟩
theorem own_zero (w : World) : OwnR (w.alloc (.cells #[.int .i64 0, .string ⟨#[]⟩, .int .u64 0, .int .i64 0, .int .i64 0] RAW)) w.heap.size RAW 5 (some ⟨w.heap.size, 0, none⟩) 1 1 [rwE zeroK] := by
  refine ⟨⟨by decide, .inr ⟨w.heap.size, 1, _, rfl, Nat.le_refl _, Blk.new _ _ _, Nat.le_refl _, by unfold maxLen; omega, rfl, rfl⟩⟩, rfl, ?_⟩
  intro r hr
  rw [List.mem_singleton] at hr
  subst hr; rfl
-- LEM
/-- What a round of the document's Read keeps: the row, the cursor, the new record. -/
structure RSt (w w1 : World) (g : Nat) (L : List UInt8) (p : Option Addr) (c : Nat) (acc : List RawK) (bb q : Nat) (er : Int) (cs : Array Value) (v : World) : Prop where
  own : OwnR v w1.heap.size RAW 5 p acc.length c (acc.map rwE)
  ref : RefOk v g L q er
  gr : w.grownBy v (some g)
  blk : Blk v bb RAW cs
  bbs : w1.heap.size ≤ bb
  far : ∀ k, (Value.slice p acc.length c).ownBlock = some k → k < bb
  lt : g < w1.heap.size
  le : w.heap.size ≤ w1.heap.size
  base : w1.heap.size ≤ v.heap.size
section
variable {w w1 v v' : World} {g : Nat} {L : List UInt8} {p : Option Addr} {c : Nat} {acc : List RawK} {bb q q' : Nat} {er er' : Int} {cs : Array Value}
theorem RSt.call (h : RSt w w1 g L p c acc bb q er cs v) (hc : RefOk v' g L q' er') (hg : v.grownBy v' (some g)) : RSt w w1 g L p c acc bb q' er' cs v' := by
  refine ⟨h.own.grown hg (fun k hk he => ?_), hc, grownBy_trans h.gr hg, h.blk.grown hg (fun he => ?_), h.bbs, h.far, h.lt, h.le, Nat.le_trans h.base hg.size⟩
  · have h1 := (h.own.row k hk).1
    have h2 := Option.some.inj he
    have := h.lt; omega
  · have h2 := Option.some.inj he
    have := h.lt; have := h.bbs; omega
theorem RSt.setE (h : RSt w w1 g L p c acc bb q er cs v) (x : Int) : RSt w w1 g L p c acc bb q x cs (v.setCell ⟨g, 2, none⟩ (.int .i64 x)) :=
  h.call (h.ref.setE x) (grownBy_setCell _ _ _)
theorem RSt.below (h : RSt w w1 g L p c acc bb q er cs v) (hb : Below v.heap.size v v') : RSt w w1 g L p c acc bb q er cs v' :=
  ⟨h.own.below hb, h.ref.below hb, grownBy_trans h.gr (grownBy_of_below _ hb), h.blk.below hb, h.bbs, h.far, h.lt, h.le, Nat.le_trans h.base hb.size⟩
theorem RSt.put (h : RSt w w1 g L p c acc bb q er cs v) (i : Nat) (x : Value) : RSt w w1 g L p c acc bb q er (cs.setIfInBounds i x) (v.setCell ⟨bb, i, none⟩ x) := by
  have hg := grownBy_setCell v ⟨bb, i, none⟩ x
  refine ⟨h.own.grown hg (fun k hk he => ?_), h.ref.grown hg (fun k hk => ?_), grown_young h.gr hg (fun k hk => ?_), h.blk.setCell i x, h.bbs, h.far, h.lt, h.le, Nat.le_trans h.base hg.size⟩
  · have h1 := h.far k hk
    have h2 := Option.some.inj he
    simp only at h2; omega
  · have h2 := Option.some.inj hk
    have := h.lt; have := h.bbs; simp only at h2; omega
  · have h2 := Option.some.inj hk
    have := h.le; have := h.bbs; simp only at h2; omega
theorem RSt.start {t : Int} {wr w2 : World} {at' : Nat} (h : OwnR wr w1.heap.size RAW 5 p acc.length c (acc.map rwE) ∧ RefOk wr g L at' 0 ∧ w.grownBy wr (some g) ∧ w1.heap.size ≤ wr.heap.size) (hc : RefOk w2 g L q er) (hg : wr.grownBy w2 (some g)) (hlt : g < w1.heap.size) (hle : w.heap.size ≤ w1.heap.size) :
    RSt w w1 g L p c acc w2.heap.size q er #[.int .i64 t, .string ⟨#[]⟩, .int .u64 0, .int .i64 0, .int .i64 0] (w2.alloc (.cells #[.int .i64 t, .string ⟨#[]⟩, .int .u64 0, .int .i64 0, .int .i64 0] RAW)) := by
  have hb := below_alloc w2 (.cells #[.int .i64 t, .string ⟨#[]⟩, .int .u64 0, .int .i64 0, .int .i64 0] RAW)
  have ho : OwnR w2 w1.heap.size RAW 5 p acc.length c (acc.map rwE) := h.1.grown hg (fun k hk he => by
    have h1 := (h.1.row k hk).1
    have h2 := Option.some.inj he
    omega)
  exact ⟨ho.below hb, hc.below hb, grownBy_trans (grownBy_trans h.2.2.1 hg) (grownBy_of_below _ hb), Blk.new _ _ _, Nat.le_trans h.2.2.2 hg.size, fun k hk => (ho.row k hk).2.1, hlt, hle, Nat.le_trans (Nat.le_trans h.2.2.2 hg.size) hb.size⟩
theorem RSt.pushed {r : RawK} {p8 : Option Addr} {c8 : Nat} {w8 : World} (h : RSt w w1 g L p c acc bb q er cs v) (ho : OwnR w8 w1.heap.size RAW 5 p8 (acc.length + 1) c8 (acc.map rwE ++ [rwE r])) (hg : v.grownBy w8 (Value.slice p acc.length c).ownBlock) :
    OwnR w8 w1.heap.size RAW 5 p8 (acc.length + 1) c8 ((acc ++ [r]).map rwE) ∧ RefOk w8 g L q er ∧ Blk w8 bb RAW cs ∧ w.grownBy w8 (some g) ∧ True ∧ w1.heap.size ≤ w8.heap.size := by
  refine ⟨by rw [List.map_append]; exact ho, h.ref.grown hg (fun k hk => ?_), h.blk.grown hg (fun he => ?_), grown_young h.gr hg (fun k hk => ?_), trivial, Nat.le_trans h.base hg.size⟩
  · have := (h.own.row k hk).1; have := h.lt; omega
  · have := h.far bb he.symm; omega
  · have := (h.own.row k hk).1; have := h.le; omega
theorem RSt.pushed2 {n p10 c10 : _} {p8 : Option Addr} {c8 : Nat} {w8 w10 : World} (h : OwnR w8 w1.heap.size RAW 5 p8 n c8 (acc.map rwE) ∧ RefOk w8 g L q er ∧ Blk w8 bb RAW cs ∧ w.grownBy w8 (some g) ∧ True ∧ w1.heap.size ≤ w8.heap.size)
    (ho : OwnR w10 w1.heap.size RAW 5 p10 (n + 1) c10 (acc.map rwE ++ [rwE zeroK])) (hg : w8.grownBy w10 (Value.slice p8 n c8).ownBlock) (hlt : g < w1.heap.size) (hle : w.heap.size ≤ w1.heap.size) :
    OwnR w10 w1.heap.size RAW 5 p10 (n + 1) c10 ((acc ++ [zeroK]).map rwE) ∧ RefOk w10 g L q er ∧ w.grownBy w10 (some g) ∧ w1.heap.size ≤ w10.heap.size := by
  refine ⟨by rw [List.map_append]; exact ho, h.2.1.grown hg (fun k hk => ?_), grown_young h.2.2.2.1 hg (fun k hk => ?_), Nat.le_trans h.2.2.2.2.2 hg.size⟩
  · have := (h.1.row k hk).1; omega
  · have := (h.1.row k hk).1; omega
end
theorem kindT_le (t : Int) : kindT t ≤ 4 := by
  unfold kindT
  repeat' split
  all_goals decide
theorem form_of {t : Int} {k : Nat} (hk : kindT t = k) : formT t = if k = 0 then 0 else if k = 1 then 116 else if k = 3 then 97 else if k = 4 then 98 else formT t := by
  subst hk
  unfold kindT formT
  repeat' split
  all_goals first | rfl | omega
theorem form_of2 {t : Int} {b : Bool} (hk : kindT t = 2) (hw : wideT t = b) : formT t = if b then 56 else 52 := by
  subst hw
  have h : t = 3 ∨ t = 4 ∨ t = 5 ∨ t = 6 := by
    unfold kindT at hk
    repeat' split at hk
    all_goals first | omega | assumption
  rcases h with rfl | rfl | rfl | rfl <;> rfl
-- NOLEM
def RReadPost (w : World) (g : Nat) (L : List UInt8) (s : List RawK × Nat × Int) (e : Ending) (w' : World) : Prop :=
  ∃ a n c, e = .returned (.slice a n c) ∧ s.1.length = n ∧ RdW w' a s.1 ∧ RefOk w' g L s.2.1 s.2.2 ∧ w.grownBy w' (some g)
set_option maxRecDepth 100000 in
set_option maxHeartbeats 16000000 in
theorem rread_any (g : Nat) (L : List UInt8) (w : World) (h : RefOk w g L 0 0) :
  Calls Try.prog 45 #[.pointer (some ⟨g, 0, none⟩)] w (RReadPost w g L (readK L)) := by
  have HB1 := Lib.hid (rBig_n g L 0 0 2 w h rfl)
  have HT := Lib.hid (num2 L 0 0)
  have HRK : Hid (readK L = if nextEr L.length 0 0 2 true ≠ 0 then ([], nextAt L.length 0 0 2 true, nextEr L.length 0 0 2 true) else if (bigR (nextL L 0 0 2 true)).toNat = 0 then ([], nextAt L.length 0 0 2 true, 2) else loopK L (bigR (nextL L 0 0 2 true)).toNat ((bigR (nextL L 0 0 2 true)).toNat + 1) [zeroK] (nextAt L.length 0 0 2 true)) := Lib.hid rfl
  have HE0 : Hid (nextEr L.length 0 0 2 true ≠ 0 → bigR (nextL L 0 0 2 true) = 0) := Lib.hid (fun he => by
    have : nextL L 0 0 2 true = [] := by
      unfold nextL
      rw [if_neg]
      intro hok
      apply he
      unfold nextOk at hok
      have := of_decide_eq_true hok
      unfold nextEr
      rw [if_neg (by omega), if_neg (by simp), if_neg (by omega)]
    rw [this]; rfl)
  generalize bigR (nextL L 0 0 2 true) = t at *
  generalize nextAt L.length 0 0 2 true = p1 at *
  generalize nextEr L.length 0 0 2 true = e1 at *
  obtain ⟨n, rfl⟩ : ∃ n : Nat, t = n := ⟨t.toNat, by have := HT.out; omega⟩
  rw [Int.toNat_natCast] at HRK
  have gt : IntKind.i64.wrap (n : Int) = (n : Int) := wrap_i64_small (by have := HT.out; omega)
  have mixed : Try.prog.follows .mixedOrders = true := by kernel_rfl
  clear h
  go_enter Try.func45, Try.ntmps45
  go_wp2_with fail
  refine HB1.out.mono ?_
  rintro e w1 ⟨rfl, hc1, hg1⟩
  have HC1 := Lib.hid (And.intro hc1 hg1)
  clear hc1 hg1 HB1
  have kE := HC1.out.1.cellE.1
  have kF := HC1.out.1.cellE.2
  by_cases hn0 : n = 0
  · subst hn0
    -- ZERO
    have HRK3 : Hid (readK L = ([], p1, failE e1 2)) := Lib.hid (by
      rw [HRK.out]
      by_cases he : e1 = 0
      · rw [if_neg (by simpa using he), if_pos rfl, he]; rfl
      · rw [if_pos he]; unfold failE; rw [if_neg he])
    clear HRK HE0
    by_cases he : e1 = 0
    · subst he
      have hf : failE 0 2 = 2 := rfl
      rw [hf] at HRK3
      clear hf
      have HZ : Hid (RefOk (w1.setCell ⟨g, 2, none⟩ (.int .i64 2)) g L p1 2 ∧ w.grownBy (w1.setCell ⟨g, 2, none⟩ (.int .i64 2)) (some g)) := Lib.hid ⟨HC1.out.1.setE 2, grownBy_trans HC1.out.2 (grownBy_setCell _ _ _)⟩
      have HL : Hid (RefOk ((w1.setCell ⟨g, 2, none⟩ (.int .i64 2)).alloc (.cells #[.int .i64 0, .string ⟨#[]⟩, .int .u64 0, .int .i64 0, .int .i64 0] RAW)) g L p1 2 ∧ w.grownBy ((w1.setCell ⟨g, 2, none⟩ (.int .i64 2)).alloc (.cells #[.int .i64 0, .string ⟨#[]⟩, .int .u64 0, .int .i64 0, .int .i64 0] RAW)) (some g)) := Lib.hid (by
        have hb := below_alloc (w1.setCell ⟨g, 2, none⟩ (.int .i64 2)) (.cells #[.int .i64 0, .string ⟨#[]⟩, .int .u64 0, .int .i64 0, .int .i64 0] RAW)
        exact ⟨HZ.out.1.below hb, grownBy_trans HZ.out.2 (grownBy_of_below _ hb)⟩)
      go_wp2_with fail
      go_loopw [4] (fun x4 wr => ∃ (p : Option Addr) (c : Nat), x4 = .slice p 1 c ∧ Hid (RefOk wr g L p1 2 ∧ w.grownBy wr (some g))) (fun _ _ => 0)
      case atStart => exact ⟨_, 1, rfl, HL⟩
      case round =>
        clear HL HZ kE kF
        obtain ⟨p, c, rfl, hW⟩ := hrel
        have kE := hW.out.1.cellE.1
        have kF := hW.out.1.cellE.2
        go_wp2_with fail
        go_ret
        rw [HRK3.out]
        exact ⟨none, 0, 0, rfl, rfl, .inl rfl, hW.out.1, hW.out.2⟩
    · have heb : (e1 == 0) = false := by simpa using he
      have hen : (e1 != 0) = true := by simpa using he
      have hf : failE e1 2 = e1 := by unfold failE; rw [if_neg he]
      rw [hf] at HRK3
      clear hf
      have HZ := HC1
      have HL : Hid (RefOk ((w1).alloc (.cells #[.int .i64 0, .string ⟨#[]⟩, .int .u64 0, .int .i64 0, .int .i64 0] RAW)) g L p1 e1 ∧ w.grownBy ((w1).alloc (.cells #[.int .i64 0, .string ⟨#[]⟩, .int .u64 0, .int .i64 0, .int .i64 0] RAW)) (some g)) := Lib.hid (by
        have hb := below_alloc (w1) (.cells #[.int .i64 0, .string ⟨#[]⟩, .int .u64 0, .int .i64 0, .int .i64 0] RAW)
        exact ⟨HZ.out.1.below hb, grownBy_trans HZ.out.2 (grownBy_of_below _ hb)⟩)
      go_wp2_with fail
      go_loopw [4] (fun x4 wr => ∃ (p : Option Addr) (c : Nat), x4 = .slice p 1 c ∧ Hid (RefOk wr g L p1 e1 ∧ w.grownBy wr (some g))) (fun _ _ => 0)
      case atStart => exact ⟨_, 1, rfl, HL⟩
      case round =>
        clear HL HZ kE kF
        obtain ⟨p, c, rfl, hW⟩ := hrel
        have kE := hW.out.1.cellE.1
        have kF := hW.out.1.cellE.2
        go_wp2_with fail
        go_ret
        rw [HRK3.out]
        exact ⟨none, 0, 0, rfl, rfl, .inl rfl, hW.out.1, hW.out.2⟩
    -- NOZERO
  · have g0 : ((n : Int) == 0) = false := by simp; omega
    have HEZ : Hid (e1 = 0) := Lib.hid (Decidable.byContradiction fun he => hn0 (by have := HE0.out he; omega))
    have HRK2 : Hid (readK L = loopK L n (n + 1) [zeroK] p1) := Lib.hid (by rw [HRK.out, if_neg (by rw [HEZ.out]; simp), if_neg hn0])
    rw [HEZ.out] at kE
    clear HRK HE0
    have HL2 : Hid (OwnR (w1.alloc (.cells #[.int .i64 0, .string ⟨#[]⟩, .int .u64 0, .int .i64 0, .int .i64 0] RAW)) w1.heap.size RAW 5 (some ⟨w1.heap.size, 0, none⟩) 1 1 [rwE zeroK] ∧ RefOk (w1.alloc (.cells #[.int .i64 0, .string ⟨#[]⟩, .int .u64 0, .int .i64 0, .int .i64 0] RAW)) g L p1 0 ∧ w.grownBy (w1.alloc (.cells #[.int .i64 0, .string ⟨#[]⟩, .int .u64 0, .int .i64 0, .int .i64 0] RAW)) (some g) ∧ w1.heap.size ≤ (w1.alloc (.cells #[.int .i64 0, .string ⟨#[]⟩, .int .u64 0, .int .i64 0, .int .i64 0] RAW)).heap.size) := Lib.hid (by
      have hb := below_alloc w1 (.cells #[.int .i64 0, .string ⟨#[]⟩, .int .u64 0, .int .i64 0, .int .i64 0] RAW)
      have hc := HC1.out.1.below hb
      rw [HEZ.out] at hc
      exact ⟨own_zero w1, hc, grownBy_trans HC1.out.2 (grownBy_of_below _ hb), hb.size⟩)
    go_wp2_with fail
    go_loopw [4] (fun x4 wr => ∃ (acc : List RawK) (p : Option Addr) (c at' k : Nat) (er : Int), x4 = .slice p acc.length c ∧ acc.length ≤ n + 1 ∧ Hid (OwnR wr w1.heap.size RAW 5 p acc.length c (acc.map rwE) ∧ RefOk wr g L at' er ∧ w.grownBy wr (some g) ∧ w1.heap.size ≤ wr.heap.size) ∧ Hid (er = 0 → readK L = loopK L n k acc at' ∧ n - acc.length < k) ∧ Hid (er ≠ 0 → readK L = ([], at', er))) (fun x4 _ => n + 2 - lenOf9 x4)
    case atStart => exact ⟨[zeroK], some ⟨w1.heap.size, 0, none⟩, 1, p1, n + 1, 0, rfl, by simp, HL2, Lib.hid (fun _ => ⟨HRK2.out, by simp; omega⟩), Lib.hid (fun h => absurd rfl h)⟩
    case round =>
      clear HL2 HRK2 kE kF
      obtain ⟨acc, p, c, at', k, er, rfl, hlen, hW, hK, hF⟩ := hrel
      have kE := hW.out.2.1.cellE.1
      have kF := hW.out.2.1.cellE.2
      by_cases her : er = 0
      · subst her
        by_cases hin : acc.length < n
        · have HB2 := Lib.hid (rBig_n g L at' 0 1 wr hW.out.2.1 rfl)
          have HT1 := Lib.hid (num1 L at' 0)
          have HST : Hid (stepK L at' = stepT L (bigR (nextL L at' 0 1 true)) (nextAt L.length at' 0 1 true) (nextEr L.length at' 0 1 true)) := Lib.hid rfl
          generalize bigR (nextL L at' 0 1 true) = t at *
          generalize nextAt L.length at' 0 1 true = p1 at *
          generalize nextEr L.length at' 0 1 true = e1 at *
          have gt : IntKind.i64.wrap t = t := wrap_i64_small (by have := HT1.out; omega)
          -- KINDS
          go_wp2_with fail
          refine HB2.out.mono ?_
          rintro e w2 ⟨rfl, hc2, hg2⟩
          have HS2 := Lib.hid (RSt.start (t := t) hW.out hc2 hg2 HC1.out.1.lt9 HC1.out.2.size)
          have HLK : Hid (readK L = if (stepT L t p1 e1).2.2 = 0 then loopK L n (k - 1) (acc ++ addK (stepT L t p1 e1).1) (stepT L t p1 e1).2.1 else ([], (stepT L t p1 e1).2.1, (stepT L t p1 e1).2.2)) := Lib.hid (by
            obtain ⟨h1, h2⟩ := hK.out trivial
            obtain ⟨k', rfl⟩ : ∃ k', k = k' + 1 := ⟨k - 1, by omega⟩
            rw [h1, loopK_in hin, HST.out]; rfl)
          have HKK : Hid (n - acc.length < k) := Lib.hid (hK.out trivial).2
          clear hc2 hg2 HB2 hW hK hF kE kF HST
          go_wp2_with fail
          obtain ⟨bb, hbb⟩ : ∃ bb, bb = w2.heap.size := ⟨_, rfl⟩
          obtain ⟨w3, hw3⟩ : ∃ w3, w3 = w2.alloc (.cells #[.int .i64 t, .string ⟨#[]⟩, .int .u64 0, .int .i64 0, .int .i64 0] RAW) := ⟨_, rfl⟩
          rw [← hbb, ← hw3] at HS2
          rw [← hbb, ← hw3]
          clear hbb hw3
          refine (form_any t w3).mono ?_
          rintro e wf ⟨rfl, hwf⟩; replace hwf := hwf.symm; subst hwf
          have hle := kindT_le t
          have hc : kindT t = 0 ∨ kindT t = 1 ∨ kindT t = 2 ∨ kindT t = 3 ∨ kindT t = 4 := by omega
          rcases hc with hk | hk | hk | hk | hk
          · have gf : formT t = 0 := form_of hk
            have hwd : wideT t = false := wide_not hk (by decide)
            rw [gf]
            have HLK2 : Hid (readK L = if failE e1 9 = 0 then loopK L n (k - 1) (acc ++ addK ⟨t, ⟨#[]⟩, 0, 0, 0⟩) p1 else ([], p1, failE e1 9)) := Lib.hid (by
              have hst : stepT L t p1 e1 = (⟨t, ByteArray.empty, 0, 0, 0⟩, p1, failE e1 9) := by unfold stepT; simp only [hk]
              rw [HLK.out, hst]; rfl)
            clear HLK
            have kE := HS2.out.ref.cellE.1
            have kF := HS2.out.ref.cellE.2
            by_cases he : e1 = 0
            · subst he
              have hf : failE 0 9 = 9 := rfl
              rw [hf] at HLK2
              have HS5 := Lib.hid (HS2.out.setE 9)
              go_wp2_with (first | (refine wpList_load_row rfl _ _ rfl _ rfl _ _ _ _ HS5.out.blk Try.underlying111 rfl rfl ?_) | (at_builtin; (refine wpList_pushR slRaw (by decide) rfl _ _ rfl (w0 := w3.setCell ⟨g, 2, none⟩ (.int .i64 9)) (vs := [.int .i64 t, .string ⟨#[]⟩, .int .u64 0, .int .i64 0, .int .i64 0]) rfl rfl (raw_ones t 0 0 ⟨#[]⟩ 0) rfl HS5.out.own (by first | rfl | (rw [World.size_setCell]; rfl)) (by have := HT.out; omega) (by unfold maxLen; have := HT.out; omega) HS5.out.base ?_); intro p8 c8 w8 hown8 hg8; have HO8 := Lib.hid (RSt.pushed (r := ⟨t, ⟨#[]⟩, 0, 0, 0⟩) HS5.out hown8 hg8); have kb0 : w8.cell? ⟨bb, 0, none⟩ = some (.int .i64 t) := HO8.out.2.2.1.cell (i := 0) rfl; clear hown8 hg8))
              refine (form_any t w8).mono ?_
              rintro e wf ⟨rfl, hwf⟩; replace hwf := hwf.symm; subst hwf
              rw [gf]
              have HAK : Hid (addK ⟨t, ⟨#[]⟩, 0, 0, 0⟩ = [⟨t, ⟨#[]⟩, 0, 0, 0⟩]) := Lib.hid (by unfold addK; rw [if_neg (by simp [hwd])])
              go_wp2_with fail
              go_roundw
              case rel => exact ⟨acc ++ [⟨t, ⟨#[]⟩, 0, 0, 0⟩], p8, c8, p1, k - 1, 9, by simp, by simp; omega, Lib.hid (by rw [List.length_append]; exact ⟨HO8.out.1, HO8.out.2.1, HO8.out.2.2.2.1, HO8.out.2.2.2.2.2⟩), Lib.hid (fun h => ⟨by rw [HLK2.out, HAK.out]; first | rw [if_pos h] | rfl, by have := HKK.out; simp; omega⟩), Lib.hid (fun h => by first | exact absurd rfl h | rw [HLK2.out, if_neg h])⟩
              case measure => simp [lenOf9] <;> omega
            · have heb : (e1 == 0) = false := by simpa using he
              have hf : failE e1 9 = e1 := by unfold failE; rw [if_neg he]
              rw [hf] at HLK2
              go_wp2_with (first | (refine wpList_load_row rfl _ _ rfl _ rfl _ _ _ _ HS2.out.blk Try.underlying111 rfl rfl ?_) | (at_builtin; (refine wpList_pushR slRaw (by decide) rfl _ _ rfl (w0 := w3) (vs := [.int .i64 t, .string ⟨#[]⟩, .int .u64 0, .int .i64 0, .int .i64 0]) rfl rfl (raw_ones t 0 0 ⟨#[]⟩ 0) rfl HS2.out.own (by first | rfl | (rw [World.size_setCell]; rfl)) (by have := HT.out; omega) (by unfold maxLen; have := HT.out; omega) HS2.out.base ?_); intro p8 c8 w8 hown8 hg8; have HO8 := Lib.hid (RSt.pushed (r := ⟨t, ⟨#[]⟩, 0, 0, 0⟩) HS2.out hown8 hg8); have kb0 : w8.cell? ⟨bb, 0, none⟩ = some (.int .i64 t) := HO8.out.2.2.1.cell (i := 0) rfl; clear hown8 hg8))
              refine (form_any t w8).mono ?_
              rintro e wf ⟨rfl, hwf⟩; replace hwf := hwf.symm; subst hwf
              rw [gf]
              have HAK : Hid (addK ⟨t, ⟨#[]⟩, 0, 0, 0⟩ = [⟨t, ⟨#[]⟩, 0, 0, 0⟩]) := Lib.hid (by unfold addK; rw [if_neg (by simp [hwd])])
              go_wp2_with fail
              go_roundw
              case rel => exact ⟨acc ++ [⟨t, ⟨#[]⟩, 0, 0, 0⟩], p8, c8, p1, k - 1, e1, by simp, by simp; omega, Lib.hid (by rw [List.length_append]; exact ⟨HO8.out.1, HO8.out.2.1, HO8.out.2.2.2.1, HO8.out.2.2.2.2.2⟩), Lib.hid (fun h => ⟨by rw [HLK2.out, HAK.out]; first | rw [if_pos h] | rfl, by have := HKK.out; simp; omega⟩), Lib.hid (fun h => by first | exact absurd rfl h | rw [HLK2.out, if_neg h])⟩
              case measure => simp [lenOf9] <;> omega
          · have ht1 := kind_one hk
            subst ht1
            have gf : formT 1 = 116 := rfl
            have hwd : wideT 1 = false := by decide
            rw [gf]
            have HLK2 : Hid (readK L = (fun (st : ByteArray) (sl : List UInt8) (p3 : Nat) (e3 : Int) => if (if (unitsOf sl).isSome then e3 else failE e3 2) = 0 then loopK L n (k - 1) (acc ++ addK ⟨1, st, 0, 0, 0⟩) p3 else ([], p3, if (unitsOf sl).isSome then e3 else failE e3 2)) (strOf (nextL L (nextAt L.length p1 e1 2 true) (nextEr L.length p1 e1 2 true) (bigR (nextL L p1 e1 2 true)) true)) (nextL L (nextAt L.length p1 e1 2 true) (nextEr L.length p1 e1 2 true) (bigR (nextL L p1 e1 2 true)) true) (nextAt L.length (nextAt L.length p1 e1 2 true) (nextEr L.length p1 e1 2 true) (bigR (nextL L p1 e1 2 true)) true) (nextEr L.length (nextAt L.length p1 e1 2 true) (nextEr L.length p1 e1 2 true) (bigR (nextL L p1 e1 2 true)) true)) := HLK
            clear HLK
            go_wp2_with fail
            refine (rBig_n g L p1 e1 2 w3 HS2.out.ref rfl).mono ?_
            rintro e w4 ⟨rfl, hc4, hg4⟩
            have HS40 := Lib.hid (HS2.out.call hc4 hg4)
            clear hc4 hg4 HS2
            have hnum := num2 L p1 e1
            generalize nextAt L.length p1 e1 2 true = p2 at *
            generalize nextEr L.length p1 e1 2 true = e2 at *
            generalize bigR (nextL L p1 e1 2 true) = m at *
            have gm : IntKind.i64.wrap m = m := wrap_i64_small hnum
            have Hm := Lib.hid hnum
            clear hnum
            have HT4 := Lib.hid (rTake_any g L p2 e2 m w4 HS40.out.ref (by have := Hm.out; omega) (by have := Hm.out; omega))
            have HLE := Lib.hid (nextL_le2 L p2 e2 m)
            unfold RTakePost at HT4
            generalize nextAt L.length p2 e2 m true = p3 at *
            generalize nextEr L.length p2 e2 m true = e3 at *
            generalize nextL L p2 e2 m true = sl at *
            go_wp2_with fail
            refine HT4.out.mono ?_
            rintro e w5 ⟨a4, k4, c4, rfl, hl4, hr4, hc5, hg5⟩
            have hcv := conv_str (P := Try.prog) Try.underlying29 Try.underlying5 Try.underlying9 c4 hl4 hr4
            have HS50 := Lib.hid (HS40.out.call hc5 hg5)
            obtain ⟨st, hst⟩ : ∃ st, st = strOf sl := ⟨_, rfl⟩
            rw [← hst] at hcv
            have HS := Lib.hid hst
            have HLK3 : Hid (readK L = if (if (unitsOf sl).isSome then e3 else failE e3 2) = 0 then loopK L n (k - 1) (acc ++ addK ⟨1, st, 0, 0, 0⟩) p3 else ([], p3, if (unitsOf sl).isSome then e3 else failE e3 2)) := Lib.hid (by rw [HS.out]; exact HLK2.out)
            have HS5 := Lib.hid (HS50.out.put 1 (.string st))
            have kb1 : (w5.setCell ⟨bb, 1, none⟩ (.string st)).cell? ⟨bb, 1, none⟩ = some (.string st) := HS5.out.blk.cell (i := 1) rfl
            have kf1 := HS50.out.blk.frozen 1
            have kc1 : w5.cell? ⟨bb, 1, none⟩ = some (.string ⟨#[]⟩) := HS50.out.blk.cell (i := 1) rfl
            clear hl4 hr4 hc5 hg5 hst HT4 HS40 HLK2
            go_wp2_with fail
            clear hcv
            refine (runits_any st sl _ HS (by have := HLE.out; have := Hm.out; omega)).mono ?_
            rintro e w6 hU
            obtain ⟨u1, u2, u3, rfl, hb6⟩ : ∃ u1 u2 u3, e = .returned (.tuple #[.slice u1 u2 u3, .bool (unitsOf sl).isSome]) ∧ Below (w5.setCell ⟨bb, 1, none⟩ (.string st)).heap.size (w5.setCell ⟨bb, 1, none⟩ (.string st)) w6 := by
              rcases hU.2 with ⟨h1, h2⟩ | ⟨us, p9, c9, h1, h2, _⟩
              · exact ⟨_, _, _, by rw [h2, h1]; rfl, hU.1⟩
              · exact ⟨_, _, _, by rw [h2, h1]; rfl, hU.1⟩
            have HS6 := Lib.hid (HS5.out.below hb6)
            clear hU hb6 HS5 HS50 kb1
            have kE := HS6.out.ref.cellE.1
            have kF := HS6.out.ref.cellE.2
            cases hu : (unitsOf sl).isSome with
            | true =>
              rw [hu, if_pos rfl] at HLK3
              have HLK2 := HLK3
              by_cases he : e3 = 0
              · subst he
                go_wp2_with (first | (refine wpList_load_row rfl _ _ rfl _ rfl _ _ _ _ HS6.out.blk Try.underlying111 rfl rfl ?_) | (at_builtin; (refine wpList_pushR slRaw (by decide) rfl _ _ rfl (w0 := w6) (vs := [.int .i64 1, .string st, .int .u64 0, .int .i64 0, .int .i64 0]) rfl rfl (raw_ones 1 0 0 st 0) rfl HS6.out.own (by first | rfl | (rw [World.size_setCell]; rfl)) (by have := HT.out; omega) (by unfold maxLen; have := HT.out; omega) HS6.out.base ?_); intro p8 c8 w8 hown8 hg8; have HO8 := Lib.hid (RSt.pushed (r := ⟨1, st, 0, 0, 0⟩) HS6.out hown8 hg8); have kb0 : w8.cell? ⟨bb, 0, none⟩ = some (.int .i64 1) := HO8.out.2.2.1.cell (i := 0) rfl; clear hown8 hg8))
                refine (form_any 1 w8).mono ?_
                rintro e wf ⟨rfl, hwf⟩; replace hwf := hwf.symm; subst hwf
                rw [gf]
                have HAK : Hid (addK ⟨1, st, 0, 0, 0⟩ = [⟨1, st, 0, 0, 0⟩]) := Lib.hid (by unfold addK; rw [if_neg (by simp [hwd])])
                go_wp2_with fail
                go_roundw
                case rel => exact ⟨acc ++ [⟨1, st, 0, 0, 0⟩], p8, c8, p3, k - 1, 0, by simp, by simp; omega, Lib.hid (by rw [List.length_append]; exact ⟨HO8.out.1, HO8.out.2.1, HO8.out.2.2.2.1, HO8.out.2.2.2.2.2⟩), Lib.hid (fun h => ⟨by rw [HLK2.out, HAK.out]; first | rw [if_pos h] | rfl, by have := HKK.out; simp; omega⟩), Lib.hid (fun h => by first | exact absurd rfl h | rw [HLK2.out, if_neg h])⟩
                case measure => simp [lenOf9] <;> omega
              · have heb : (e3 == 0) = false := by simpa using he
                go_wp2_with (first | (refine wpList_load_row rfl _ _ rfl _ rfl _ _ _ _ HS6.out.blk Try.underlying111 rfl rfl ?_) | (at_builtin; (refine wpList_pushR slRaw (by decide) rfl _ _ rfl (w0 := w6) (vs := [.int .i64 1, .string st, .int .u64 0, .int .i64 0, .int .i64 0]) rfl rfl (raw_ones 1 0 0 st 0) rfl HS6.out.own (by first | rfl | (rw [World.size_setCell]; rfl)) (by have := HT.out; omega) (by unfold maxLen; have := HT.out; omega) HS6.out.base ?_); intro p8 c8 w8 hown8 hg8; have HO8 := Lib.hid (RSt.pushed (r := ⟨1, st, 0, 0, 0⟩) HS6.out hown8 hg8); have kb0 : w8.cell? ⟨bb, 0, none⟩ = some (.int .i64 1) := HO8.out.2.2.1.cell (i := 0) rfl; clear hown8 hg8))
                refine (form_any 1 w8).mono ?_
                rintro e wf ⟨rfl, hwf⟩; replace hwf := hwf.symm; subst hwf
                rw [gf]
                have HAK : Hid (addK ⟨1, st, 0, 0, 0⟩ = [⟨1, st, 0, 0, 0⟩]) := Lib.hid (by unfold addK; rw [if_neg (by simp [hwd])])
                go_wp2_with fail
                go_roundw
                case rel => exact ⟨acc ++ [⟨1, st, 0, 0, 0⟩], p8, c8, p3, k - 1, e3, by simp, by simp; omega, Lib.hid (by rw [List.length_append]; exact ⟨HO8.out.1, HO8.out.2.1, HO8.out.2.2.2.1, HO8.out.2.2.2.2.2⟩), Lib.hid (fun h => ⟨by rw [HLK2.out, HAK.out]; first | rw [if_pos h] | rfl, by have := HKK.out; simp; omega⟩), Lib.hid (fun h => by first | exact absurd rfl h | rw [HLK2.out, if_neg h])⟩
                case measure => simp [lenOf9] <;> omega
            | false =>
              replace HLK3 : Hid (readK L = if failE e3 2 = 0 then loopK L n (k - 1) (acc ++ addK ⟨1, st, 0, 0, 0⟩) p3 else ([], p3, failE e3 2)) := Lib.hid (by have h := HLK3.out; rw [hu] at h; exact h)
              by_cases he : e3 = 0
              · subst he
                have hf : failE 0 2 = 2 := rfl
                rw [hf] at HLK3
                have HLK2 := HLK3
                have HS7 := Lib.hid (HS6.out.setE 2)
                go_wp2_with (first | (refine wpList_load_row rfl _ _ rfl _ rfl _ _ _ _ HS7.out.blk Try.underlying111 rfl rfl ?_) | (at_builtin; (refine wpList_pushR slRaw (by decide) rfl _ _ rfl (w0 := w6.setCell ⟨g, 2, none⟩ (.int .i64 2)) (vs := [.int .i64 1, .string st, .int .u64 0, .int .i64 0, .int .i64 0]) rfl rfl (raw_ones 1 0 0 st 0) rfl HS7.out.own (by first | rfl | (rw [World.size_setCell]; rfl)) (by have := HT.out; omega) (by unfold maxLen; have := HT.out; omega) HS7.out.base ?_); intro p8 c8 w8 hown8 hg8; have HO8 := Lib.hid (RSt.pushed (r := ⟨1, st, 0, 0, 0⟩) HS7.out hown8 hg8); have kb0 : w8.cell? ⟨bb, 0, none⟩ = some (.int .i64 1) := HO8.out.2.2.1.cell (i := 0) rfl; clear hown8 hg8))
                refine (form_any 1 w8).mono ?_
                rintro e wf ⟨rfl, hwf⟩; replace hwf := hwf.symm; subst hwf
                rw [gf]
                have HAK : Hid (addK ⟨1, st, 0, 0, 0⟩ = [⟨1, st, 0, 0, 0⟩]) := Lib.hid (by unfold addK; rw [if_neg (by simp [hwd])])
                go_wp2_with fail
                go_roundw
                case rel => exact ⟨acc ++ [⟨1, st, 0, 0, 0⟩], p8, c8, p3, k - 1, 2, by simp, by simp; omega, Lib.hid (by rw [List.length_append]; exact ⟨HO8.out.1, HO8.out.2.1, HO8.out.2.2.2.1, HO8.out.2.2.2.2.2⟩), Lib.hid (fun h => ⟨by rw [HLK2.out, HAK.out]; first | rw [if_pos h] | rfl, by have := HKK.out; simp; omega⟩), Lib.hid (fun h => by first | exact absurd rfl h | rw [HLK2.out, if_neg h])⟩
                case measure => simp [lenOf9] <;> omega
              · have heb : (e3 == 0) = false := by simpa using he
                have hf : failE e3 2 = e3 := by unfold failE; rw [if_neg he]
                rw [hf] at HLK3
                have HLK2 := HLK3
                go_wp2_with (first | (refine wpList_load_row rfl _ _ rfl _ rfl _ _ _ _ HS6.out.blk Try.underlying111 rfl rfl ?_) | (at_builtin; (refine wpList_pushR slRaw (by decide) rfl _ _ rfl (w0 := w6) (vs := [.int .i64 1, .string st, .int .u64 0, .int .i64 0, .int .i64 0]) rfl rfl (raw_ones 1 0 0 st 0) rfl HS6.out.own (by first | rfl | (rw [World.size_setCell]; rfl)) (by have := HT.out; omega) (by unfold maxLen; have := HT.out; omega) HS6.out.base ?_); intro p8 c8 w8 hown8 hg8; have HO8 := Lib.hid (RSt.pushed (r := ⟨1, st, 0, 0, 0⟩) HS6.out hown8 hg8); have kb0 : w8.cell? ⟨bb, 0, none⟩ = some (.int .i64 1) := HO8.out.2.2.1.cell (i := 0) rfl; clear hown8 hg8))
                refine (form_any 1 w8).mono ?_
                rintro e wf ⟨rfl, hwf⟩; replace hwf := hwf.symm; subst hwf
                rw [gf]
                have HAK : Hid (addK ⟨1, st, 0, 0, 0⟩ = [⟨1, st, 0, 0, 0⟩]) := Lib.hid (by unfold addK; rw [if_neg (by simp [hwd])])
                go_wp2_with fail
                go_roundw
                case rel => exact ⟨acc ++ [⟨1, st, 0, 0, 0⟩], p8, c8, p3, k - 1, e3, by simp, by simp; omega, Lib.hid (by rw [List.length_append]; exact ⟨HO8.out.1, HO8.out.2.1, HO8.out.2.2.2.1, HO8.out.2.2.2.2.2⟩), Lib.hid (fun h => ⟨by rw [HLK2.out, HAK.out]; first | rw [if_pos h] | rfl, by have := HKK.out; simp; omega⟩), Lib.hid (fun h => by first | exact absurd rfl h | rw [HLK2.out, if_neg h])⟩
                case measure => simp [lenOf9] <;> omega
          · by_cases hwd : wideT t = true
            · have gf : formT t = 56 := form_of2 hk hwd
              rw [gf]
              have hsz : sizeT t = 8 := by unfold sizeT; rw [hwd]; rfl
              have HLK2 : Hid (readK L = if nextEr L.length p1 e1 8 true = 0 then loopK L n (k - 1) (acc ++ addK ⟨t, ⟨#[]⟩, bigR (nextL L p1 e1 8 true), 0, 0⟩) (nextAt L.length p1 e1 8 true) else ([], nextAt L.length p1 e1 8 true, nextEr L.length p1 e1 8 true)) := Lib.hid (by
                have hst : stepT L t p1 e1 = (⟨t, ByteArray.empty, bigR (nextL L p1 e1 (sizeT t) true), 0, 0⟩, nextAt L.length p1 e1 (sizeT t) true, nextEr L.length p1 e1 (sizeT t) true) := by unfold stepT; simp only [hk]
                rw [HLK.out, hst, hsz]; rfl)
              clear HLK hsz
              go_wp2_with fail
              refine (rBig_n g L p1 e1 8 w3 HS2.out.ref rfl).mono ?_
              rintro e w4 ⟨rfl, hc4, hg4⟩
              have HS40 := Lib.hid (HS2.out.call hc4 hg4)
              clear hc4 hg4 HS2
              generalize nextAt L.length p1 e1 8 true = p2 at *
              generalize nextEr L.length p1 e1 8 true = e2 at *
              generalize bigR (nextL L p1 e1 8 true) = m at *
              have kf2 := HS40.out.blk.frozen 2
              have kc2 : w4.cell? ⟨bb, 2, none⟩ = some (.int .u64 0) := HS40.out.blk.cell (i := 2) rfl
              have HS4 := Lib.hid (HS40.out.put 2 (.int .u64 m))
              go_wp2_with (first | (refine wpList_load_row rfl _ _ rfl _ rfl _ _ _ _ HS4.out.blk Try.underlying111 rfl rfl ?_) | (at_builtin; (refine wpList_pushR slRaw (by decide) rfl _ _ rfl (w0 := w4.setCell ⟨bb, 2, none⟩ (.int .u64 m)) (vs := [.int .i64 t, .string ⟨#[]⟩, .int .u64 m, .int .i64 0, .int .i64 0]) rfl rfl (raw_ones t 0 0 ⟨#[]⟩ m) rfl HS4.out.own (by first | rfl | (rw [World.size_setCell]; rfl)) (by have := HT.out; omega) (by unfold maxLen; have := HT.out; omega) HS4.out.base ?_); intro p8 c8 w8 hown8 hg8; have HO8 := Lib.hid (RSt.pushed (r := ⟨t, ⟨#[]⟩, m, 0, 0⟩) HS4.out hown8 hg8); have kb0 : w8.cell? ⟨bb, 0, none⟩ = some (.int .i64 t) := HO8.out.2.2.1.cell (i := 0) rfl; clear hown8 hg8))
              refine (form_any t w8).mono ?_
              rintro e wf ⟨rfl, hwf⟩; replace hwf := hwf.symm; subst hwf
              rw [gf]
              have HAK : Hid (addK ⟨t, ⟨#[]⟩, m, 0, 0⟩ = [⟨t, ⟨#[]⟩, m, 0, 0⟩, zeroK]) := Lib.hid (by unfold addK; rw [if_pos hwd])
              go_wp2_with (at_builtin; refine wpList_pushR slRaw (by decide) rfl _ _ rfl (w0 := w8) (vs := [.int .i64 0, .string ⟨#[]⟩, .int .u64 0, .int .i64 0, .int .i64 0]) rfl rfl (raw_ones 0 0 0 ⟨#[]⟩ 0) rfl HO8.out.1 rfl (by have := HT.out; omega) (by unfold maxLen; have := HT.out; omega) HO8.out.2.2.2.2.2 ?_; intro p10 c10 w10 hown10 hg10)
              have HO10 := Lib.hid (RSt.pushed2 HO8.out hown10 hg10 HC1.out.1.lt9 HC1.out.2.size)
              clear hown10 hg10
              go_roundw
              case rel => exact ⟨acc ++ [⟨t, ⟨#[]⟩, m, 0, 0⟩] ++ [zeroK], p10, c10, p2, k - 1, e2, by simp, by simp; omega, Lib.hid (by rw [List.length_append, List.length_append]; exact HO10.out), Lib.hid (fun h => ⟨by rw [HLK2.out, if_pos h, HAK.out, List.append_assoc]; rfl, by have := HKK.out; simp; omega⟩), Lib.hid (fun h => by first | exact absurd rfl h | rw [HLK2.out, if_neg h])⟩
              case measure => simp [lenOf9] <;> omega
            · have hwd := Bool.eq_false_iff.2 hwd
              have gf : formT t = 52 := form_of2 hk hwd
              rw [gf]
              have hsz : sizeT t = 4 := by unfold sizeT; rw [hwd]; rfl
              have HLK2 : Hid (readK L = if nextEr L.length p1 e1 4 true = 0 then loopK L n (k - 1) (acc ++ addK ⟨t, ⟨#[]⟩, bigR (nextL L p1 e1 4 true), 0, 0⟩) (nextAt L.length p1 e1 4 true) else ([], nextAt L.length p1 e1 4 true, nextEr L.length p1 e1 4 true)) := Lib.hid (by
                have hst : stepT L t p1 e1 = (⟨t, ByteArray.empty, bigR (nextL L p1 e1 (sizeT t) true), 0, 0⟩, nextAt L.length p1 e1 (sizeT t) true, nextEr L.length p1 e1 (sizeT t) true) := by unfold stepT; simp only [hk]
                rw [HLK.out, hst, hsz]; rfl)
              clear HLK hsz
              go_wp2_with fail
              refine (rBig_n g L p1 e1 4 w3 HS2.out.ref rfl).mono ?_
              rintro e w4 ⟨rfl, hc4, hg4⟩
              have HS40 := Lib.hid (HS2.out.call hc4 hg4)
              clear hc4 hg4 HS2
              generalize nextAt L.length p1 e1 4 true = p2 at *
              generalize nextEr L.length p1 e1 4 true = e2 at *
              generalize bigR (nextL L p1 e1 4 true) = m at *
              have kf2 := HS40.out.blk.frozen 2
              have kc2 : w4.cell? ⟨bb, 2, none⟩ = some (.int .u64 0) := HS40.out.blk.cell (i := 2) rfl
              have HS4 := Lib.hid (HS40.out.put 2 (.int .u64 m))
              go_wp2_with (first | (refine wpList_load_row rfl _ _ rfl _ rfl _ _ _ _ HS4.out.blk Try.underlying111 rfl rfl ?_) | (at_builtin; (refine wpList_pushR slRaw (by decide) rfl _ _ rfl (w0 := w4.setCell ⟨bb, 2, none⟩ (.int .u64 m)) (vs := [.int .i64 t, .string ⟨#[]⟩, .int .u64 m, .int .i64 0, .int .i64 0]) rfl rfl (raw_ones t 0 0 ⟨#[]⟩ m) rfl HS4.out.own (by first | rfl | (rw [World.size_setCell]; rfl)) (by have := HT.out; omega) (by unfold maxLen; have := HT.out; omega) HS4.out.base ?_); intro p8 c8 w8 hown8 hg8; have HO8 := Lib.hid (RSt.pushed (r := ⟨t, ⟨#[]⟩, m, 0, 0⟩) HS4.out hown8 hg8); have kb0 : w8.cell? ⟨bb, 0, none⟩ = some (.int .i64 t) := HO8.out.2.2.1.cell (i := 0) rfl; clear hown8 hg8))
              refine (form_any t w8).mono ?_
              rintro e wf ⟨rfl, hwf⟩; replace hwf := hwf.symm; subst hwf
              rw [gf]
              have HAK : Hid (addK ⟨t, ⟨#[]⟩, m, 0, 0⟩ = [⟨t, ⟨#[]⟩, m, 0, 0⟩]) := Lib.hid (by unfold addK; rw [if_neg (by simp [hwd])])
              go_wp2_with fail
              go_roundw
              case rel => exact ⟨acc ++ [⟨t, ⟨#[]⟩, m, 0, 0⟩], p8, c8, p2, k - 1, e2, by simp, by simp; omega, Lib.hid (by rw [List.length_append]; exact ⟨HO8.out.1, HO8.out.2.1, HO8.out.2.2.2.1, HO8.out.2.2.2.2.2⟩), Lib.hid (fun h => ⟨by rw [HLK2.out, HAK.out]; first | rw [if_pos h] | rfl, by have := HKK.out; simp; omega⟩), Lib.hid (fun h => by first | exact absurd rfl h | rw [HLK2.out, if_neg h])⟩
              case measure => simp [lenOf9] <;> omega
          · have gf : formT t = 97 := form_of hk
            have hwd : wideT t = false := wide_not hk (by decide)
            rw [gf]
            have HLK2 : Hid (readK L = if nextEr L.length p1 e1 2 true = 0 then loopK L n (k - 1) (acc ++ addK ⟨t, ⟨#[]⟩, 0, bigR (nextL L p1 e1 2 true), 0⟩) (nextAt L.length p1 e1 2 true) else ([], nextAt L.length p1 e1 2 true, nextEr L.length p1 e1 2 true)) := Lib.hid (by
              have hst : stepT L t p1 e1 = (⟨t, ByteArray.empty, 0, bigR (nextL L p1 e1 2 true), 0⟩, nextAt L.length p1 e1 2 true, nextEr L.length p1 e1 2 true) := by unfold stepT; simp only [hk]
              rw [HLK.out, hst]; rfl)
            clear HLK
            go_wp2_with fail
            refine (rBig_n g L p1 e1 2 w3 HS2.out.ref rfl).mono ?_
            rintro e w4 ⟨rfl, hc4, hg4⟩
            have HS40 := Lib.hid (HS2.out.call hc4 hg4)
            clear hc4 hg4 HS2
            have hnum := num2 L p1 e1
            generalize nextAt L.length p1 e1 2 true = p2 at *
            generalize nextEr L.length p1 e1 2 true = e2 at *
            generalize bigR (nextL L p1 e1 2 true) = m at *
            have gm : IntKind.i64.wrap m = m := wrap_i64_small hnum
            have Hm := Lib.hid hnum
            clear hnum
            have kf3 := HS40.out.blk.frozen 3
            have kc3 : w4.cell? ⟨bb, 3, none⟩ = some (.int .i64 0) := HS40.out.blk.cell (i := 3) rfl
            have HS4 := Lib.hid (HS40.out.put 3 (.int .i64 m))
            go_wp2_with (first | (refine wpList_load_row rfl _ _ rfl _ rfl _ _ _ _ HS4.out.blk Try.underlying111 rfl rfl ?_) | (at_builtin; (refine wpList_pushR slRaw (by decide) rfl _ _ rfl (w0 := w4.setCell ⟨bb, 3, none⟩ (.int .i64 m)) (vs := [.int .i64 t, .string ⟨#[]⟩, .int .u64 0, .int .i64 m, .int .i64 0]) rfl rfl (raw_ones t m 0 ⟨#[]⟩ 0) rfl HS4.out.own (by first | rfl | (rw [World.size_setCell]; rfl)) (by have := HT.out; omega) (by unfold maxLen; have := HT.out; omega) HS4.out.base ?_); intro p8 c8 w8 hown8 hg8; have HO8 := Lib.hid (RSt.pushed (r := ⟨t, ⟨#[]⟩, 0, m, 0⟩) HS4.out hown8 hg8); have kb0 : w8.cell? ⟨bb, 0, none⟩ = some (.int .i64 t) := HO8.out.2.2.1.cell (i := 0) rfl; clear hown8 hg8))
            refine (form_any t w8).mono ?_
            rintro e wf ⟨rfl, hwf⟩; replace hwf := hwf.symm; subst hwf
            rw [gf]
            have HAK : Hid (addK ⟨t, ⟨#[]⟩, 0, m, 0⟩ = [⟨t, ⟨#[]⟩, 0, m, 0⟩]) := Lib.hid (by unfold addK; rw [if_neg (by simp [hwd])])
            go_wp2_with fail
            go_roundw
            case rel => exact ⟨acc ++ [⟨t, ⟨#[]⟩, 0, m, 0⟩], p8, c8, p2, k - 1, e2, by simp, by simp; omega, Lib.hid (by rw [List.length_append]; exact ⟨HO8.out.1, HO8.out.2.1, HO8.out.2.2.2.1, HO8.out.2.2.2.2.2⟩), Lib.hid (fun h => ⟨by rw [HLK2.out, HAK.out]; first | rw [if_pos h] | rfl, by have := HKK.out; simp; omega⟩), Lib.hid (fun h => by first | exact absurd rfl h | rw [HLK2.out, if_neg h])⟩
            case measure => simp [lenOf9] <;> omega
          · have gf : formT t = 98 := form_of hk
            have hwd : wideT t = false := wide_not hk (by decide)
            rw [gf]
            have HLK2 : Hid (readK L = (fun (x : Int) (q : Nat) (f : Int) => if nextEr L.length q f 2 true = 0 then loopK L n (k - 1) (acc ++ addK ⟨t, ⟨#[]⟩, 0, x, bigR (nextL L q f 2 true)⟩) (nextAt L.length q f 2 true) else ([], nextAt L.length q f 2 true, nextEr L.length q f 2 true)) (bigR (nextL L p1 e1 2 true)) (nextAt L.length p1 e1 2 true) (nextEr L.length p1 e1 2 true)) := Lib.hid (by
              have hst : stepT L t p1 e1 = (⟨t, ByteArray.empty, 0, bigR (nextL L p1 e1 2 true), bigR (nextL L (nextAt L.length p1 e1 2 true) (nextEr L.length p1 e1 2 true) 2 true)⟩, nextAt L.length (nextAt L.length p1 e1 2 true) (nextEr L.length p1 e1 2 true) 2 true, nextEr L.length (nextAt L.length p1 e1 2 true) (nextEr L.length p1 e1 2 true) 2 true) := by unfold stepT; simp only [hk]
              rw [HLK.out, hst]; rfl)
            clear HLK
            go_wp2_with fail
            refine (rBig_n g L p1 e1 2 w3 HS2.out.ref rfl).mono ?_
            rintro e w4 ⟨rfl, hc4, hg4⟩
            have HS40 := Lib.hid (HS2.out.call hc4 hg4)
            clear hc4 hg4 HS2
            have hnum := num2 L p1 e1
            generalize nextAt L.length p1 e1 2 true = p2 at *
            generalize nextEr L.length p1 e1 2 true = e2 at *
            generalize bigR (nextL L p1 e1 2 true) = m at *
            have gm : IntKind.i64.wrap m = m := wrap_i64_small hnum
            have Hm := Lib.hid hnum
            clear hnum
            have kf3 := HS40.out.blk.frozen 3
            have kc3 : w4.cell? ⟨bb, 3, none⟩ = some (.int .i64 0) := HS40.out.blk.cell (i := 3) rfl
            have HS4 := Lib.hid (HS40.out.put 3 (.int .i64 m))
            go_wp2_with fail
            refine (rBig_n g L p2 e2 2 _ HS4.out.ref rfl).mono ?_
            rintro e w5 ⟨rfl, hc5, hg5⟩
            have HS50 := Lib.hid (HS4.out.call hc5 hg5)
            clear hc5 hg5 HS4
            have hnum := num2 L p2 e2
            generalize nextAt L.length p2 e2 2 true = p3 at *
            generalize nextEr L.length p2 e2 2 true = e3 at *
            generalize bigR (nextL L p2 e2 2 true) = m2 at *
            have gm2 : IntKind.i64.wrap m2 = m2 := wrap_i64_small hnum
            have Hm2 := Lib.hid hnum
            clear hnum
            have kf4 := HS50.out.blk.frozen 4
            have kc4 : w5.cell? ⟨bb, 4, none⟩ = some (.int .i64 0) := HS50.out.blk.cell (i := 4) rfl
            have HS5 := Lib.hid (HS50.out.put 4 (.int .i64 m2))
            go_wp2_with (first | (refine wpList_load_row rfl _ _ rfl _ rfl _ _ _ _ HS5.out.blk Try.underlying111 rfl rfl ?_) | (at_builtin; (refine wpList_pushR slRaw (by decide) rfl _ _ rfl (w0 := w5.setCell ⟨bb, 4, none⟩ (.int .i64 m2)) (vs := [.int .i64 t, .string ⟨#[]⟩, .int .u64 0, .int .i64 m, .int .i64 m2]) rfl rfl (raw_ones t m m2 ⟨#[]⟩ 0) rfl HS5.out.own (by first | rfl | (rw [World.size_setCell]; rfl)) (by have := HT.out; omega) (by unfold maxLen; have := HT.out; omega) HS5.out.base ?_); intro p8 c8 w8 hown8 hg8; have HO8 := Lib.hid (RSt.pushed (r := ⟨t, ⟨#[]⟩, 0, m, m2⟩) HS5.out hown8 hg8); have kb0 : w8.cell? ⟨bb, 0, none⟩ = some (.int .i64 t) := HO8.out.2.2.1.cell (i := 0) rfl; clear hown8 hg8))
            refine (form_any t w8).mono ?_
            rintro e wf ⟨rfl, hwf⟩; replace hwf := hwf.symm; subst hwf
            rw [gf]
            have HAK : Hid (addK ⟨t, ⟨#[]⟩, 0, m, m2⟩ = [⟨t, ⟨#[]⟩, 0, m, m2⟩]) := Lib.hid (by unfold addK; rw [if_neg (by simp [hwd])])
            go_wp2_with fail
            go_roundw
            case rel => exact ⟨acc ++ [⟨t, ⟨#[]⟩, 0, m, m2⟩], p8, c8, p3, k - 1, e3, by simp, by simp; omega, Lib.hid (by rw [List.length_append]; exact ⟨HO8.out.1, HO8.out.2.1, HO8.out.2.2.2.1, HO8.out.2.2.2.2.2⟩), Lib.hid (fun h => ⟨by rw [HLK2.out, HAK.out]; first | rw [if_pos h] | rfl, by have := HKK.out; simp; omega⟩), Lib.hid (fun h => by first | exact absurd rfl h | rw [HLK2.out, if_neg h])⟩
            case measure => simp [lenOf9] <;> omega
          -- NOKINDS
        · by_cases hgt : n < acc.length
          · have hRK3 : Hid (readK L = ([], at', 2)) := Lib.hid (by
              obtain ⟨h1, h2⟩ := hK.out rfl
              obtain ⟨k', rfl⟩ : ∃ k', k = k' + 1 := ⟨k - 1, by omega⟩
              rw [h1]; unfold loopK; rw [if_neg hin, if_pos hgt])
            go_wp2_with fail
            go_ret
            rw [hRK3.out]
            exact ⟨none, 0, 0, rfl, rfl, .inl rfl, hW.out.2.1.setE 2, grownBy_trans hW.out.2.2.1 (grownBy_setCell _ _ _)⟩
          · have hRK3 : Hid (readK L = (acc, at', 0)) := Lib.hid (by
              obtain ⟨h1, h2⟩ := hK.out rfl
              obtain ⟨k', rfl⟩ : ∃ k', k = k' + 1 := ⟨k - 1, by omega⟩
              rw [h1]; unfold loopK; rw [if_neg hin, if_neg hgt])
            go_wp2_with fail
            go_ret
            rw [hRK3.out]
            exact ⟨_, _, _, rfl, rfl, rdW_own hW.out.1, hW.out.2.1, hW.out.2.2.1⟩
      · have herb : (er == 0) = false := by simpa using her
        have hern : (er != 0) = true := by simpa using her
        by_cases hin : acc.length < n
        · go_wp2_with fail
          go_ret
          rw [hF.out her]
          exact ⟨none, 0, 0, rfl, rfl, .inl rfl, hW.out.2.1, hW.out.2.2.1⟩
        · go_wp2_with fail
          go_ret
          rw [hF.out her]
          exact ⟨none, 0, 0, rfl, rfl, .inl rfl, hW.out.2.1, hW.out.2.2.1⟩
end Go.Proofs.Ytbknkahakmfhkaa
