/- pool.Read. -/
import Derived.Test.YtbknkahakmfhkaaPooN
namespace Go.Proofs.Ytbknkahakmfhkaa
open Go.RowKit
set_option linter.unusedVariables false
set_option linter.unusedSimpArgs false

def lenOf9 : Value → Nat
  | .slice _ n _ => n
  | _ => 0
theorem rdW_own {w : World} {B : Nat} {p : Option Addr} {n c : Nat} {l : List RawK} (h : OwnR w B RAW 5 p n c (l.map rwE)) : RdW w p l := by
  have hn : l.length = n := by have := h.2.1; rwa [List.length_map] at this
  rcases h.rd with h0 | ⟨b, off, rfl, hc⟩
  · exact .inl (List.eq_nil_of_length_eq_zero (by omega))
  · refine .inr ⟨b, off, rfl, fun i r hr => ?_⟩
    have hi : i < n := by rw [← hn]; exact (List.getElem?_eq_some_iff.1 hr).1
    have hg : (l.map rwE).getD i [] = rwE r := by rw [List.getD_eq_getElem?_getD, List.getElem?_map, hr]; rfl
    have hz : ∀ j, j < 5 → w.cell? ⟨b, off + (i * 5 + j), none⟩ = some ((rwE r).getD j undef) := fun j hj => by rw [← hg]; exact hc i j hi hj
    exact ⟨by simpa [rwE] using hz 0 (by decide), by simpa [rwE, Nat.add_assoc] using hz 1 (by decide), by simpa [rwE, Nat.add_assoc] using hz 2 (by decide), by simpa [rwE, Nat.add_assoc] using hz 3 (by decide), by simpa [rwE, Nat.add_assoc] using hz 4 (by decide)⟩
theorem loopK_in {L : List UInt8} {n k at' : Nat} {acc : List RawK} (h : acc.length < n) : loopK L n (k + 1) acc at' = if (stepK L at').2.2 = 0 then loopK L n k (acc ++ addK (stepK L at').1) (stepK L at').2.1 else ([], (stepK L at').2.1, (stepK L at').2.2) := by
  show (if acc.length < n then _ else _) = _
  rw [if_pos h]
theorem cur_young {w w' : World} {g : Nat} {l : List UInt8} {p : Nat} {er : Int} {row : Option Nat} (h : CurOk w g l p er) (hg : w.grownBy w' row) (hy : ∀ j, row = some j → g < j) : CurOk w' g l p er := by
  obtain ⟨a, n, c, h1, h2, h3, h4, h5, h6, h7⟩ := h.ex
  refine ⟨a, n, c, h1.grown hg (fun e => ?_), h2, h3, h4, h5.grown hg (fun b off hb e => ?_), h6, h7⟩
  · have := hy g e.symm; omega
  · have := hy b e.symm; have := h6 b off hb; omega
theorem grown_young {a b c : World} {row row2 : Option Nat} (h : a.grownBy b row) (k : b.grownBy c row2) (hr : ∀ j, row2 = some j → a.heap.size ≤ j) : a.grownBy c row :=
  ⟨k.os.trans h.os, k.tape.trans h.tape, k.output.trans h.output, Nat.le_trans h.size k.size, fun i hi hne => (k.block i (Nat.lt_of_lt_of_le hi h.size) (fun e => by have := hr i e.symm; omega)).trans (h.block i hi hne)⟩
theorem pushed_kept {w w1 w7 w8 : World} {g : Nat} {L : List UInt8} {p1 p3 : Nat} {e1 : Int} {p p8 : Option Addr} {c c8 n : Nat} {acc : List RawK} {r : RawK}
    (hO : OwnR w7 w1.heap.size RAW 5 p n c (acc.map rwE)) (hC : CurOk w7 g L p3 0 ∧ w.grownBy w7 (some g) ∧ w1.heap.size ≤ w7.heap.size) (h1 : CurOk w1 g L p1 e1 ∧ w.grownBy w1 (some g)) (hs : w.heap.size ≤ w1.heap.size)
    (ho : OwnR w8 w1.heap.size RAW 5 p8 (n + 1) c8 (acc.map rwE ++ [rwE r])) (hg : w7.grownBy w8 (Value.slice p n c).ownBlock) :
    OwnR w8 w1.heap.size RAW 5 p8 (n + 1) c8 ((acc ++ [r]).map rwE) ∧ CurOk w8 g L p3 0 ∧ w.grownBy w8 (some g) ∧ w1.heap.size ≤ w8.heap.size := by
  refine ⟨by rw [List.map_append]; exact ho, cur_young hC.1 hg fun j hj => ?_, grown_young hC.2.1 hg fun j hj => ?_, Nat.le_trans hC.2.2 hg.size⟩
  · have := (hO.row j hj).1; have := h1.1.lt9; omega
  · have := (hO.row j hj).1; omega
theorem pushed_below {w w1 w8 w9 : World} {g : Nat} {L : List UInt8} {p3 : Nat} {p8 : Option Addr} {c8 n : Nat} {acc : List RawK}
    (h : OwnR w8 w1.heap.size RAW 5 p8 n c8 (acc.map rwE) ∧ CurOk w8 g L p3 0 ∧ w.grownBy w8 (some g) ∧ w1.heap.size ≤ w8.heap.size) (hb : Below w8.heap.size w8 w9) :
    OwnR w9 w1.heap.size RAW 5 p8 n c8 (acc.map rwE) ∧ CurOk w9 g L p3 0 ∧ w.grownBy w9 (some g) ∧ w1.heap.size ≤ w9.heap.size :=
  ⟨h.1.below hb, h.2.1.below hb, grownBy_trans h.2.2.1 (grownBy_of_below _ hb), Nat.le_trans h.2.2.2 hb.size⟩
theorem wide_not {t : Int} {k : Nat} (hk : kindT t = k) (hne : k ≠ 2) : wideT t = false := by
  cases hw : wideT t with
  | false => rfl
  | true =>
    exfalso; apply hne; rw [← hk]
    unfold wideT at hw
    rcases Bool.or_eq_true _ _ ▸ hw with h | h <;> (have := eq_of_beq h; subst this; decide)
def PReadPost (w : World) (g : Nat) (L : List UInt8) (s : List RawK × Nat × Int) (e : Ending) (w' : World) : Prop :=
  ∃ a n c, e = .returned (.slice a n c) ∧ s.1.length = n ∧ RdW w' a s.1 ∧ CurOk w' g L s.2.1 s.2.2 ∧ w.grownBy w' (some g)
set_option maxRecDepth 100000 in
set_option maxHeartbeats 8000000 in
theorem pread_any (g : Nat) (L : List UInt8) (w : World) (h : CurOk w g L 0 0) :
  Calls Try.prog 47 #[.pointer (some ⟨g, 0, none⟩)] w (PReadPost w g L (readK L)) := by
  have HB1 := Lib.hid (cBig_n g L 0 0 2 w h rfl)
  have HT := Lib.hid (num2 L 0 0)
  have HRK : Hid (readK L = if nextEr L.length 0 0 2 true ≠ 0 then ([], nextAt L.length 0 0 2 true, nextEr L.length 0 0 2 true) else if (bigR (nextL L 0 0 2 true)).toNat = 0 then ([], nextAt L.length 0 0 2 true, 2) else loopK L (bigR (nextL L 0 0 2 true)).toNat ((bigR (nextL L 0 0 2 true)).toNat + 1) [zeroK] (nextAt L.length 0 0 2 true)) := Lib.hid rfl
  have HE0 : Hid (nextEr L.length 0 0 2 true ≠ 0 → bigR (nextL L 0 0 2 true) = 0) := Lib.hid (fun he => by
    have : nextL L 0 0 2 true = [] := by
      unfold nextL
      rw [if_neg]
      intro hok
      apply he
      unfold nextOk at hok
      have := of_decide_eq_true hok
      unfold nextEr
      rw [if_neg (by omega), if_neg (by simp), if_neg (by omega)]
    rw [this]; rfl)
  generalize bigR (nextL L 0 0 2 true) = t at *
  generalize nextAt L.length 0 0 2 true = p1 at *
  generalize nextEr L.length 0 0 2 true = e1 at *
  obtain ⟨n, rfl⟩ : ∃ n : Nat, t = n := ⟨t.toNat, by have := HT.out; omega⟩
  rw [Int.toNat_natCast] at HRK
  have gt : IntKind.i64.wrap (n : Int) = (n : Int) := wrap_i64_small (by have := HT.out; omega)
  have mixed : Try.prog.follows .mixedOrders = true := by kernel_rfl
  clear h
  go_enter Try.func47, Try.ntmps47
  go_wp2_with fail
  refine HB1.out.mono ?_
  rintro e w1 ⟨rfl, hc1, hg1⟩
  have HC1 := Lib.hid (And.intro hc1 hg1)
  clear hc1 hg1 HB1
  by_cases hn0 : n = 0
  · subst hn0
    have hne : failE e1 2 ≠ 0 := failE_ne e1 2 (by decide)
    have hneb : (failE e1 2 != 0) = true := by simpa using hne
    have HRK3 : Hid (readK L = ([], p1, failE e1 2)) := Lib.hid (by
      rw [HRK.out]
      by_cases he : e1 = 0
      · rw [if_neg (by simpa using he), if_pos rfl, he]; rfl
      · rw [if_pos he]; unfold failE; rw [if_neg he])
    clear HRK HE0 hne
    go_wp2_with fail
    refine (cFail_any g L p1 e1 2 w1 HC1.out.1).mono ?_
    rintro e w2 ⟨rfl, hc2, hg2⟩
    have HC2 := Lib.hid (And.intro hc2 (grownBy_trans HC1.out.2 hg2))
    clear hc2 hg2 HC1
    generalize failE e1 2 = ef at *
    go_wp2_with (refine wpList_mk1 (base := w2.heap.size) rfl _ _ rfl 2 _ rfl rfl rfl (by decide) (by decide) (Nat.le_refl _) ?_; intro p2 w3 hown3 hb3)
    have HC3 : Hid (CurOk w3 g L p1 ef ∧ w.grownBy w3 (some g)) := Lib.hid ⟨HC2.out.1.below hb3, grownBy_trans HC2.out.2 (grownBy_of_below _ hb3)⟩
    clear hown3 hb3 HC2
    go_loopw [4] (fun x4 wr => ∃ (p : Option Addr) (c : Nat), x4 = .slice p 1 c ∧ Hid (CurOk wr g L p1 ef ∧ w.grownBy wr (some g))) (fun _ _ => 0)
    case atStart => exact ⟨p2, 2, rfl, HC3⟩
    case round =>
      clear HC3
      obtain ⟨p, c, rfl, hW⟩ := hrel
      go_wp2_with fail
      refine (cFail_any g L p1 ef 2 wr hW.out.1).mono ?_
      rintro e w6 ⟨rfl, hc6, hg6⟩
      have hff : failE ef 2 = ef := by
        unfold failE; rw [if_neg]
        intro h; rw [h] at hneb; simp at hneb
      rw [hff] at hc6
      have HC6 := Lib.hid (And.intro hc6 (grownBy_trans hW.out.2 hg6))
      clear hc6 hg6 hff
      go_wp2_with fail
      refine (cErr_any g L p1 ef w6 HC6.out.1).mono ?_
      rintro e wf ⟨rfl, hwf⟩; subst hwf
      go_wp2_with fail
      go_ret
      rw [HRK3.out]
      exact ⟨none, 0, 0, rfl, rfl, .inl rfl, HC6.out.1, HC6.out.2⟩
  · have g0 : ((n : Int) == 0) = false := by simp; omega
    have gs : IntKind.i64.wrap ((n : Int) + 2) = (n : Int) + 2 := IntWalk.i64_in _ (by have := HT.out; omega)
    have HEZ : Hid (e1 = 0) := Lib.hid (Decidable.byContradiction fun he => hn0 (by have := HE0.out he; omega))
    have HRK2 : Hid (readK L = loopK L n (n + 1) [zeroK] p1) := Lib.hid (by rw [HRK.out, if_neg (by rw [HEZ.out]; simp), if_neg hn0])
    clear HRK HE0
    go_wp2_with (refine wpList_mk1 (base := w1.heap.size) rfl _ _ rfl (n + 2) _ rfl rfl (by omega) (by omega) (by have := HT.out; omega) (Nat.le_refl _) ?_; intro p2 w2 hown2 hb2)
    have HL2 : Hid (OwnR w2 w1.heap.size RAW 5 p2 1 (n + 2) [rwE zeroK] ∧ CurOk w2 g L p1 0 ∧ w.grownBy w2 (some g) ∧ w1.heap.size ≤ w2.heap.size) := Lib.hid ⟨hown2, by have := HC1.out.1.below hb2; rwa [HEZ.out] at this, grownBy_trans HC1.out.2 (grownBy_of_below _ hb2), hb2.size⟩
    clear hown2 hb2
    go_loopw [4] (fun x4 wr => ∃ (acc : List RawK) (p : Option Addr) (c at' k : Nat), x4 = .slice p acc.length c ∧ acc.length ≤ n + 1 ∧ Hid (OwnR wr w1.heap.size RAW 5 p acc.length c (acc.map rwE) ∧ CurOk wr g L at' 0 ∧ w.grownBy wr (some g) ∧ w1.heap.size ≤ wr.heap.size) ∧ Hid (readK L = loopK L n k acc at') ∧ Hid (n - acc.length < k)) (fun x4 _ => n + 2 - lenOf9 x4)
    case atStart => exact ⟨[zeroK], p2, n + 2, p1, n + 1, rfl, by simp, HL2, HRK2, Lib.hid (by simp; omega)⟩
    case round =>
      clear HL2 HRK2
      obtain ⟨acc, p, c, at', k, rfl, hlen, hW, hK, hF⟩ := hrel
      by_cases hin : acc.length < n
      · obtain ⟨k', rfl⟩ : ∃ k', k = k' + 1 := ⟨k - 1, by have := hF.out; omega⟩
        have HO := Lib.hid (one_any g L at' wr hW.out.2.1)
        have HLK : Hid (readK L = if (stepK L at').2.2 = 0 then loopK L n k' (acc ++ addK (stepK L at').1) (stepK L at').2.1 else ([], (stepK L at').2.1, (stepK L at').2.2)) := Lib.hid (by rw [hK.out, loopK_in hin])
        have HNO := Lib.hid (stepK_norm L at')
        generalize stepK L at' = st at *
        obtain ⟨r, p3, e3⟩ := st
        unfold OnePost at HO
        simp only at HLK HNO HO
        by_cases he : e3 = 0
        · subst he
          rw [if_pos rfl] at HO
          have HLK2 : Hid (readK L = loopK L n k' (acc ++ addK r) p3) := Lib.hid (by rw [HLK.out, if_pos rfl])
          have HN := Lib.hid (HNO.out rfl)
          have HRAW := Lib.hid (fun w9 : World => raw_of r w9 HN.out.1 HN.out.2)
          clear HLK HNO
          have hle : kindT r.tag ≤ 4 := by unfold kindT; repeat' split
                                           all_goals decide
          have hc : kindT r.tag = 3 ∨ kindT r.tag = 1 ∨ kindT r.tag = 2 ∨ kindT r.tag = 4 := by have := HN.out.1; omega
          -- KINDS
          rcases hc with hk | hk | hk | hk
          · obtain ⟨t, st, bi, ra, rb⟩ := r
            simp only at hk
            have hof : ofV ⟨t, st, bi, ra, rb⟩ = .iface LNK (.agg #[.int .i64 t, .int .i64 ra]) := by unfold ofV; simp only [hk]
            rw [hof] at HO HRAW
            clear hof
            simp only [rwE] at HRAW
            simp only at *
            go_wp2_with fail
            refine HO.out.mono ?_
            rintro e w6 ⟨rfl, hc6, hg6⟩
            have HC6 := Lib.hid (And.intro hc6 (grownBy_trans hW.out.2.2.1 hg6))
            have hg6' := hg6
            clear hc6 hg6
            go_wp2_with fail
            refine (HRAW.out w6).mono ?_
            rintro e w7 ⟨rfl, hb7⟩
            have hO6 : OwnR w6 w1.heap.size RAW 5 p acc.length c (acc.map rwE) := hW.out.1.grown hg6' (fun k hk he => by
              have h1 := (hW.out.1.row k hk).1
              have h2 := HC1.out.1.lt9
              have h3 := Option.some.inj he
              omega)
            have HO7 := Lib.hid (hO6.below hb7)
            have HC7 : Hid (CurOk w7 g L p3 0 ∧ w.grownBy w7 (some g) ∧ w1.heap.size ≤ w7.heap.size) := Lib.hid ⟨HC6.out.1.below hb7, grownBy_trans HC6.out.2 (grownBy_of_below _ hb7), by have h1 := hg6'.size; have h2 := hb7.size; have := hW.out.2.2.2; omega⟩
            clear hO6 hg6' hb7 HC6
            go_wp2_with (at_builtin; refine wpList_pushR slRaw (by decide) rfl _ _ rfl (w0 := w7) (vs := [.int .i64 t, .string st, .int .u64 bi, .int .i64 ra, .int .i64 rb]) rfl rfl (raw_ones t ra rb st bi) rfl HO7.out rfl (by have := HT.out; omega) (by unfold maxLen; have := HT.out; omega) HC7.out.2.2 ?_; intro p8 c8 w8 hown8 hg8)
            have HO8 := Lib.hid (pushed_kept (r := ⟨t, st, bi, ra, rb⟩) HO7.out HC7.out HC1.out (by have := hW.out; exact HC1.out.2.size) hown8 hg8)
            clear hown8 hg8 HO7 HC7
            refine (tagL_any t ra w8).mono ?_
            rintro e w9 ⟨rfl, hb9⟩
            have HO9 := Lib.hid (pushed_below HO8.out hb9)
            clear hb9 HO8
            go_wp2_with fail
            refine (wide_any t w9).mono ?_
            rintro e wf ⟨rfl, hwf⟩; subst hwf
            have hwd : wideT t = false := wide_not hk (by decide)
            rw [hwd]
            have HAK : Hid (addK ⟨t, st, bi, ra, rb⟩ = [⟨t, st, bi, ra, rb⟩]) := Lib.hid (by unfold addK; rw [if_neg (by simp [hwd])])
            go_wp2_with fail
            go_roundw
            case rel => exact ⟨acc ++ [⟨t, st, bi, ra, rb⟩], p8, c8, p3, k', by simp, by simp; omega, Lib.hid (by rw [List.length_append]; exact HO9.out), Lib.hid (by rw [HLK2.out, HAK.out]), Lib.hid (by have := hF.out; simp; omega)⟩
            case measure => simp [lenOf9] <;> omega
          · obtain ⟨t, st, bi, ra, rb⟩ := r
            simp only at hk
            have ht1 := kind_one hk
            subst ht1
            have hof : ofV ⟨1, st, bi, ra, rb⟩ = .iface TXT (.string st) := by unfold ofV; simp only [hk]
            rw [hof] at HO HRAW
            clear hof
            simp only [rwE] at HRAW
            simp only at *
            go_wp2_with fail
            refine HO.out.mono ?_
            rintro e w6 ⟨rfl, hc6, hg6⟩
            have HC6 := Lib.hid (And.intro hc6 (grownBy_trans hW.out.2.2.1 hg6))
            have hg6' := hg6
            clear hc6 hg6
            go_wp2_with fail
            refine (HRAW.out w6).mono ?_
            rintro e w7 ⟨rfl, hb7⟩
            have hO6 : OwnR w6 w1.heap.size RAW 5 p acc.length c (acc.map rwE) := hW.out.1.grown hg6' (fun k hk he => by
              have h1 := (hW.out.1.row k hk).1
              have h2 := HC1.out.1.lt9
              have h3 := Option.some.inj he
              omega)
            have HO7 := Lib.hid (hO6.below hb7)
            have HC7 : Hid (CurOk w7 g L p3 0 ∧ w.grownBy w7 (some g) ∧ w1.heap.size ≤ w7.heap.size) := Lib.hid ⟨HC6.out.1.below hb7, grownBy_trans HC6.out.2 (grownBy_of_below _ hb7), by have h1 := hg6'.size; have h2 := hb7.size; have := hW.out.2.2.2; omega⟩
            clear hO6 hg6' hb7 HC6
            go_wp2_with (at_builtin; refine wpList_pushR slRaw (by decide) rfl _ _ rfl (w0 := w7) (vs := [.int .i64 1, .string st, .int .u64 bi, .int .i64 ra, .int .i64 rb]) rfl rfl (raw_ones 1 ra rb st bi) rfl HO7.out rfl (by have := HT.out; omega) (by unfold maxLen; have := HT.out; omega) HC7.out.2.2 ?_; intro p8 c8 w8 hown8 hg8)
            have HO8 := Lib.hid (pushed_kept (r := ⟨1, st, bi, ra, rb⟩) HO7.out HC7.out HC1.out (by have := hW.out; exact HC1.out.2.size) hown8 hg8)
            clear hown8 hg8 HO7 HC7
            refine (tagT_any st w8).mono ?_
            rintro e w9 ⟨rfl, hb9⟩
            have HO9 := Lib.hid (pushed_below HO8.out hb9)
            clear hb9 HO8
            go_wp2_with fail
            refine (wide_any 1 w9).mono ?_
            rintro e wf ⟨rfl, hwf⟩; subst hwf
            have hwd : wideT 1 = false := by decide
            rw [hwd]
            have HAK : Hid (addK ⟨1, st, bi, ra, rb⟩ = [⟨1, st, bi, ra, rb⟩]) := Lib.hid (by unfold addK; rw [if_neg (by simp [hwd])])
            go_wp2_with fail
            go_roundw
            case rel => exact ⟨acc ++ [⟨1, st, bi, ra, rb⟩], p8, c8, p3, k', by simp, by simp; omega, Lib.hid (by rw [List.length_append]; exact HO9.out), Lib.hid (by rw [HLK2.out, HAK.out]), Lib.hid (by have := hF.out; simp; omega)⟩
            case measure => simp [lenOf9] <;> omega
          · obtain ⟨t, st, bi, ra, rb⟩ := r
            simp only at hk
            have hof : ofV ⟨t, st, bi, ra, rb⟩ = .iface BTS (.agg #[.int .i64 t, .int .u64 bi]) := by unfold ofV; simp only [hk]
            rw [hof] at HO HRAW
            clear hof
            simp only [rwE] at HRAW
            simp only at *
            go_wp2_with fail
            refine HO.out.mono ?_
            rintro e w6 ⟨rfl, hc6, hg6⟩
            have HC6 := Lib.hid (And.intro hc6 (grownBy_trans hW.out.2.2.1 hg6))
            have hg6' := hg6
            clear hc6 hg6
            go_wp2_with fail
            refine (HRAW.out w6).mono ?_
            rintro e w7 ⟨rfl, hb7⟩
            have hO6 : OwnR w6 w1.heap.size RAW 5 p acc.length c (acc.map rwE) := hW.out.1.grown hg6' (fun k hk he => by
              have h1 := (hW.out.1.row k hk).1
              have h2 := HC1.out.1.lt9
              have h3 := Option.some.inj he
              omega)
            have HO7 := Lib.hid (hO6.below hb7)
            have HC7 : Hid (CurOk w7 g L p3 0 ∧ w.grownBy w7 (some g) ∧ w1.heap.size ≤ w7.heap.size) := Lib.hid ⟨HC6.out.1.below hb7, grownBy_trans HC6.out.2 (grownBy_of_below _ hb7), by have h1 := hg6'.size; have h2 := hb7.size; have := hW.out.2.2.2; omega⟩
            clear hO6 hg6' hb7 HC6
            go_wp2_with (at_builtin; refine wpList_pushR slRaw (by decide) rfl _ _ rfl (w0 := w7) (vs := [.int .i64 t, .string st, .int .u64 bi, .int .i64 ra, .int .i64 rb]) rfl rfl (raw_ones t ra rb st bi) rfl HO7.out rfl (by have := HT.out; omega) (by unfold maxLen; have := HT.out; omega) HC7.out.2.2 ?_; intro p8 c8 w8 hown8 hg8)
            have HO8 := Lib.hid (pushed_kept (r := ⟨t, st, bi, ra, rb⟩) HO7.out HC7.out HC1.out (by have := hW.out; exact HC1.out.2.size) hown8 hg8)
            clear hown8 hg8 HO7 HC7
            refine (tagB_any t bi w8).mono ?_
            rintro e w9 ⟨rfl, hb9⟩
            have HO9 := Lib.hid (pushed_below HO8.out hb9)
            clear hb9 HO8
            go_wp2_with fail
            refine (wide_any t w9).mono ?_
            rintro e wf ⟨rfl, hwf⟩; subst hwf
            by_cases hwd : wideT t = true
            · rw [hwd]
              have HAK : Hid (addK ⟨t, st, bi, ra, rb⟩ = [⟨t, st, bi, ra, rb⟩, zeroK]) := Lib.hid (by unfold addK; rw [if_pos hwd])
              go_wp2_with (at_builtin; refine wpList_pushR slRaw (by decide) rfl _ _ rfl (w0 := wf) (vs := [.int .i64 0, .string ⟨#[]⟩, .int .u64 0, .int .i64 0, .int .i64 0]) rfl rfl (raw_ones 0 0 0 ⟨#[]⟩ 0) rfl HO9.out.1 rfl (by have := HT.out; omega) (by unfold maxLen; have := HT.out; omega) HO9.out.2.2.2 ?_; intro p10 c10 w10 hown10 hg10)
              have HO10 := Lib.hid (pushed_kept (r := zeroK) HO9.out.1 HO9.out.2 HC1.out HC1.out.2.size hown10 hg10)
              clear hown10 hg10 HO9
              go_roundw
              case rel => exact ⟨acc ++ [⟨t, st, bi, ra, rb⟩] ++ [zeroK], p10, c10, p3, k', by simp, by simp; omega, Lib.hid (by rw [List.length_append, List.length_append]; exact HO10.out), Lib.hid (by rw [HLK2.out, HAK.out, List.append_assoc]; rfl), Lib.hid (by have := hF.out; simp; omega)⟩
              case measure => simp [lenOf9] <;> omega
            · have hwd := Bool.eq_false_iff.2 hwd
              rw [hwd]
              have HAK : Hid (addK ⟨t, st, bi, ra, rb⟩ = [⟨t, st, bi, ra, rb⟩]) := Lib.hid (by unfold addK; rw [if_neg (by simp [hwd])])
              go_wp2_with fail
              go_roundw
              case rel => exact ⟨acc ++ [⟨t, st, bi, ra, rb⟩], p8, c8, p3, k', by simp, by simp; omega, Lib.hid (by rw [List.length_append]; exact HO9.out), Lib.hid (by rw [HLK2.out, HAK.out]), Lib.hid (by have := hF.out; simp; omega)⟩
              case measure => simp [lenOf9] <;> omega
          · obtain ⟨t, st, bi, ra, rb⟩ := r
            simp only at hk
            have hof : ofV ⟨t, st, bi, ra, rb⟩ = .iface PAR (.agg #[.int .i64 t, .int .i64 ra, .int .i64 rb]) := by unfold ofV; simp only [hk]
            rw [hof] at HO HRAW
            clear hof
            simp only [rwE] at HRAW
            simp only at *
            go_wp2_with fail
            refine HO.out.mono ?_
            rintro e w6 ⟨rfl, hc6, hg6⟩
            have HC6 := Lib.hid (And.intro hc6 (grownBy_trans hW.out.2.2.1 hg6))
            have hg6' := hg6
            clear hc6 hg6
            go_wp2_with fail
            refine (HRAW.out w6).mono ?_
            rintro e w7 ⟨rfl, hb7⟩
            have hO6 : OwnR w6 w1.heap.size RAW 5 p acc.length c (acc.map rwE) := hW.out.1.grown hg6' (fun k hk he => by
              have h1 := (hW.out.1.row k hk).1
              have h2 := HC1.out.1.lt9
              have h3 := Option.some.inj he
              omega)
            have HO7 := Lib.hid (hO6.below hb7)
            have HC7 : Hid (CurOk w7 g L p3 0 ∧ w.grownBy w7 (some g) ∧ w1.heap.size ≤ w7.heap.size) := Lib.hid ⟨HC6.out.1.below hb7, grownBy_trans HC6.out.2 (grownBy_of_below _ hb7), by have h1 := hg6'.size; have h2 := hb7.size; have := hW.out.2.2.2; omega⟩
            clear hO6 hg6' hb7 HC6
            go_wp2_with (at_builtin; refine wpList_pushR slRaw (by decide) rfl _ _ rfl (w0 := w7) (vs := [.int .i64 t, .string st, .int .u64 bi, .int .i64 ra, .int .i64 rb]) rfl rfl (raw_ones t ra rb st bi) rfl HO7.out rfl (by have := HT.out; omega) (by unfold maxLen; have := HT.out; omega) HC7.out.2.2 ?_; intro p8 c8 w8 hown8 hg8)
            have HO8 := Lib.hid (pushed_kept (r := ⟨t, st, bi, ra, rb⟩) HO7.out HC7.out HC1.out (by have := hW.out; exact HC1.out.2.size) hown8 hg8)
            clear hown8 hg8 HO7 HC7
            refine (tagP_any t ra rb w8).mono ?_
            rintro e w9 ⟨rfl, hb9⟩
            have HO9 := Lib.hid (pushed_below HO8.out hb9)
            clear hb9 HO8
            go_wp2_with fail
            refine (wide_any t w9).mono ?_
            rintro e wf ⟨rfl, hwf⟩; subst hwf
            have hwd : wideT t = false := wide_not hk (by decide)
            rw [hwd]
            have HAK : Hid (addK ⟨t, st, bi, ra, rb⟩ = [⟨t, st, bi, ra, rb⟩]) := Lib.hid (by unfold addK; rw [if_neg (by simp [hwd])])
            go_wp2_with fail
            go_roundw
            case rel => exact ⟨acc ++ [⟨t, st, bi, ra, rb⟩], p8, c8, p3, k', by simp, by simp; omega, Lib.hid (by rw [List.length_append]; exact HO9.out), Lib.hid (by rw [HLK2.out, HAK.out]), Lib.hid (by have := hF.out; simp; omega)⟩
            case measure => simp [lenOf9] <;> omega
          -- NOKINDS
        · rw [if_neg he] at HO
          have hRK3 : Hid (readK L = ([], p3, e3)) := Lib.hid (by rw [HLK.out, if_neg he])
          go_wp2_with fail
          refine HO.out.mono ?_
          rintro e w6 ⟨rfl, hc6, hg6⟩
          have HC6 := Lib.hid (And.intro hc6 (grownBy_trans hW.out.2.2.1 hg6))
          clear hc6 hg6
          go_wp2_with fail
          go_ret
          rw [hRK3.out]
          exact ⟨none, 0, 0, rfl, rfl, .inl rfl, HC6.out.1, HC6.out.2⟩
      · obtain ⟨k', rfl⟩ : ∃ k', k = k' + 1 := ⟨k - 1, by have := hF.out; omega⟩
        by_cases hgt : n < acc.length
        · have hRK3 : Hid (readK L = ([], at', 2)) := Lib.hid (by rw [hK.out]; unfold loopK; rw [if_neg hin, if_pos hgt])
          go_wp2_with fail
          refine (cFail_any g L at' 0 2 wr hW.out.2.1).mono ?_
          rintro e w6 ⟨rfl, hc6, hg6⟩
          have HC6 := Lib.hid (And.intro hc6 (grownBy_trans hW.out.2.2.1 hg6))
          clear hc6 hg6
          go_wp2_with fail
          refine (cErr_any g L at' (failE 0 2) w6 HC6.out.1).mono ?_
          rintro e wf ⟨rfl, hwf⟩; subst hwf
          have hne : (failE 0 2 != 0) = true := by decide
          go_wp2_with fail
          go_ret
          rw [hRK3.out]
          exact ⟨none, 0, 0, rfl, rfl, .inl rfl, HC6.out.1, HC6.out.2⟩
        · have hRK3 : Hid (readK L = (acc, at', 0)) := Lib.hid (by rw [hK.out]; unfold loopK; rw [if_neg hin, if_neg hgt])
          go_wp2_with fail
          refine (cErr_any g L at' 0 wr hW.out.2.1).mono ?_
          rintro e wf ⟨rfl, hwf⟩; subst hwf
          go_wp2_with fail
          go_ret
          rw [hRK3.out]
          exact ⟨_, _, _, rfl, rfl, rdW_own hW.out.1, hW.out.2.1, hW.out.2.2.1⟩
end Go.Proofs.Ytbknkahakmfhkaa
