/- packsaddleref07.Find: trying all distances; it finds what the chains find. -/
import Derived.Test.YtnfdbljeinlblaaMatE
import Derived.Test.YtnfdbljeinlblaaMatF
namespace Go.Proofs.Ytnfdbljeinlblaa
open Go.RowKit
set_option linter.unusedVariables false
set_option linter.unusedSimpArgs false

/-- The best after d distances. -/
def refB (l : List UInt8) (p : Nat) : Nat → Nat × Nat
  | 0 => (0, 0)
  | d+1 => if 3 ≤ sameN l (p - (d + 1)) p ∧ (refB l p d).1 < sameN l (p - (d + 1)) p then (sameN l (p - (d + 1)) p, d + 1) else refB l p d
theorem findGo_stop (l : List UInt8) (p t f : Nat) (b : Nat × Nat) (h : ¬ (0 < f ∧ p + 1 ≤ 32768 + f)) : findGo l p t f b = b := by
  cases t with
  | zero => rfl
  | succ t => rw [findGo, if_neg h]
theorem three_key (l : List UInt8) (q p : Nat) (hq : q ≤ p) (h : 3 ≤ sameN l q p) : l.getD p 0 = l.getD q 0 ∧ l.getD (p + 1) 0 = l.getD (q + 1) 0 ∧ l.getD (p + 2) 0 = l.getD (q + 2) 0 := by
  have h0 := (sameF_spec l 258 q p 0 hq (by unfold sameN at h; omega)).2
  have h1 := (sameF_spec l 258 q p 1 hq (by unfold sameN at h; omega)).2
  have h2 := (sameF_spec l 258 q p 2 hq (by unfold sameN at h; omega)).2
  exact ⟨h0, h1, h2⟩
theorem findGo_ref (l : List UInt8) (p : Nat) (hp : p + 3 ≤ l.length) : ∀ (m t : Nat), m ≤ p → m ≤ t → p ≤ 32768 + m →
    findGo l p t (lastOf l m (l.getD p 0) (l.getD (p + 1) 0) (l.getD (p + 2) 0)) (refB l p (p - m)) = refB l p (min p 32768) := by
  intro m
  induction m with
  | zero =>
    intro t _ _ h
    rw [show lastOf l 0 (l.getD p 0) (l.getD (p + 1) 0) (l.getD (p + 2) 0) = 0 from rfl, findGo_stop _ _ _ _ _ (by omega), Nat.sub_zero, show min p 32768 = p by omega]
  | succ m ih =>
    intro t hm ht h
    have hd : p - m = (p - (m + 1)) + 1 := by omega
    have hpm : p - (p - (m + 1) + 1) = m := by omega
    by_cases hkey : l.getD p 0 = l.getD m 0 ∧ l.getD (p + 1) 0 = l.getD (m + 1) 0 ∧ l.getD (p + 2) 0 = l.getD (m + 2) 0
    · obtain ⟨t', rfl⟩ : ∃ t', t = t' + 1 := ⟨t - 1, by omega⟩
      rw [lastOf, if_pos hkey]
      by_cases hg : p ≤ 32768 + m
      · have h3 := sameN_three l m p (by omega) hp hkey.1 hkey.2.1 hkey.2.2
        rw [findGo, if_pos ⟨by omega, by omega⟩, Nat.add_sub_cancel]
        have hprev : prevV l m = lastOf l m (l.getD p 0) (l.getD (p + 1) 0) (l.getD (p + 2) 0) := by unfold prevV; rw [hkey.1, hkey.2.1, hkey.2.2]
        have hb : (if (refB l p (p - (m + 1))).1 < sameN l m p then (sameN l m p, p + 1 - (m + 1)) else refB l p (p - (m + 1))) = refB l p (p - m) := by
          rw [hd, refB, hpm]
          by_cases hlt : (refB l p (p - (m + 1))).1 < sameN l m p
          · rw [if_pos hlt, if_pos ⟨h3, hlt⟩]; congr 1; omega
          · rw [if_neg hlt, if_neg (fun e => hlt e.2)]
        rw [hprev, hb]
        exact ih t' (by omega) (by omega) hg
      · rw [findGo_stop _ _ _ _ _ (by omega), show min p 32768 = p - (m + 1) by omega]
    · rw [lastOf, if_neg hkey]
      by_cases hg : p ≤ 32768 + m
      · have hb : refB l p (p - (m + 1)) = refB l p (p - m) := by
          rw [hd, refB, hpm, if_neg]
          rintro ⟨h3, -⟩
          exact hkey (three_key l m p (by omega) h3)
        rw [hb]
        exact ih t (by omega) (by omega) hg
      · have hle := lastOf_le l (l.getD p 0) (l.getD (p + 1) 0) (l.getD (p + 2) 0) m
        rw [findGo_stop _ _ _ _ _ (by omega), show min p 32768 = p - (m + 1) by omega]
theorem refB_short (l : List UInt8) (p : Nat) (hp : l.length < p + 3) : ∀ d, refB l p d = (0, 0) := by
  intro d
  induction d with
  | zero => rfl
  | succ d ih =>
    rw [refB, ih, if_neg]
    rintro ⟨h3, -⟩
    have := (sameF_spec l 258 (p - (d + 1)) p 2 (by omega) (by unfold sameN at h3; omega)).1
    omega
theorem longN_ref (l : List UInt8) (p : Nat) (hp : p < l.length) : longN l p l.length = refB l p (min p 32768) := by
  unfold longN
  by_cases h : p + 3 ≤ l.length
  · rw [if_pos h]
    have := findGo_ref l p h p l.length (Nat.le_refl _) (by omega) (by omega)
    rw [Nat.sub_self] at this
    exact this
  · rw [if_neg h, refB_short l p (by omega)]
def bestT (x : UInt8) (b : Nat × Nat) : Tok := if 0 < b.1 then (0, (b.1 : Int), (b.2 : Int)) else ((x.toNat : Int), 0, 0)
theorem bestT_one (x : UInt8) (b : Nat × Nat) : (bestT x b).2.1 = (b.1 : Int) := by
  unfold bestT
  split
  · rfl
  · simp only; omega
theorem findT_ref {l : List UInt8} {p : Nat} (hp : p < l.length) : findT l (p : Int) = bestT (l.getD p 0) (refB l p (min p 32768)) := by
  unfold findT bestT
  rw [if_neg (by omega), Int.toNat_natCast, longN_ref l p hp]
set_option maxRecDepth 100000 in
set_option maxHeartbeats 16000000 in
theorem rFind_any (a : Option Addr) (n c : Nat) (l : List UInt8) (p : Int) (w : World) (hl : l.length = n) (hn : n ≤ 1000000000) (hr : Rd w bE a l) :
  Calls Try.prog 37 #[.slice a n c, .int .i64 p] w fun e w' => e = .returned (.agg (tokA (findT l p))) ∧ Below w.heap.size w w' := by
  have HL := Lib.hid hl
  have HR := Lib.hid hr
  clear hl hr
  have hal := below_alloc w (.cells #[.int .u8 0, .int .i64 0, .int .i64 0] TT)
  have HB1 := Lib.hid hal
  have hK1 : Blk _ _ TT (tokA (0, 0, 0)) := Blk.new w TT #[.int .u8 0, .int .i64 0, .int .i64 0]
  have HK1 := Lib.hid hK1
  clear hal hK1
  go_enter Try.func37, Try.ntmps37
  by_cases hbad : p < 0 ∨ (n : Int) ≤ p
  · have HRES : Hid (findT l p = (0, 0, 0)) := Lib.hid (by unfold findT; rw [if_pos (by rw [HL.out]; exact hbad)])
    by_cases h0 : p < 0
    · clear hbad
      go_wp2_with (first | (refine wpList_storeBlk rfl _ _ rfl rfl rfl HK1.out rfl size_tok (tokA_one (0, 0, 0)) ?_; intro d0 dg))
      refine bodyPost_ret (results_cell_row (p := 4) rfl _ _ w.heap.size _ (tokA (0, 0, 0)) _ _ rfl d0 Try.underlying48 rfl size_tok) rfl ⟨by rw [HRES.out], HB1.out.grown dg HB1.out.size (fun j hj => by simp at hj; omega)⟩
    · have h1 : (n : Int) ≤ p := by omega
      clear hbad
      go_wp2_with (first | (refine wpList_storeBlk rfl _ _ rfl rfl rfl HK1.out rfl size_tok (tokA_one (0, 0, 0)) ?_; intro d0 dg))
      refine bodyPost_ret (results_cell_row (p := 4) rfl _ _ w.heap.size _ (tokA (0, 0, 0)) _ _ rfl d0 Try.underlying48 rfl size_tok) rfl ⟨by rw [HRES.out], HB1.out.grown dg HB1.out.size (fun j hj => by simp at hj; omega)⟩
  · obtain ⟨k, rfl⟩ := Int.eq_ofNat_of_zero_le (show 0 ≤ p by omega)
    have hkn : k < n := by omega
    have hki : (k : Int) < n := by omega
    have hkl : k < l.length := by rw [HL.out]; exact hkn
    have hres := findT_ref hkl
    obtain ⟨b, off, rfl, hbl, hc⟩ := (HR.out.below HB1.out).at hkl
    have hx : l.getD k 0 = l[k] := by simp [hkn, HL.out]
    rw [hx] at hres
    generalize l[k] = x at hc hres
    unfold bE at hc
    have HRES := Lib.hid hres
    clear hbad hres hx
    have hA2 : Blk ((w.alloc (.cells #[.int .u8 0, .int .i64 0, .int .i64 0] TT)).alloc (.cells #[.int .u8 (x.toNat : Int), .int .i64 0, .int .i64 0] TT)) w.heap.size TT (tokA (0, 0, 0)) := HK1.out.alloc _
    have hA3 : Blk ((w.alloc (.cells #[.int .u8 0, .int .i64 0, .int .i64 0] TT)).alloc (.cells #[.int .u8 (x.toNat : Int), .int .i64 0, .int .i64 0] TT)) (w.heap.size + 1) TT (tokA (bestT x (refB l k 0))) := by
      have := Blk.new (w.alloc (.cells #[.int .u8 0, .int .i64 0, .int .i64 0] TT)) TT #[.int .u8 (x.toNat : Int), .int .i64 0, .int .i64 0]
      rw [show (w.alloc (.cells #[.int .u8 0, .int .i64 0, .int .i64 0] TT)).heap.size = w.heap.size + 1 by simp] at this
      exact this
    have hA4 := HB1.out.alloc HB1.out.size (.cells #[.int .u8 (x.toNat : Int), .int .i64 0, .int .i64 0] TT)
    have HA := Lib.hid (And.intro hA2 hA3)
    have HA4 := Lib.hid hA4
    have hk0 : ¬ (k : Int) < 0 := by omega
    have hnk : ¬ n ≤ k := by omega
    clear hA2 hA3 hA4 HK1 HB1
    obtain ⟨r, hr⟩ : ∃ r, r = w.heap.size := ⟨_, rfl⟩
    obtain ⟨o, ho⟩ : ∃ o, o = w.heap.size + 1 := ⟨_, rfl⟩
    have hro : r ≠ o := by omega
    have HOW : Hid (w.heap.size ≤ r ∧ w.heap.size ≤ o ∧ r ≠ o) := Lib.hid (by omega)
    go_wp2_with fail
    clear hc
    rw [← ho, ← hr] at HA ⊢
    clear ho hro hbl
    generalize hw2 : (w.alloc (.cells #[.int .u8 0, .int .i64 0, .int .i64 0] TT)).alloc (.cells #[.int .u8 (x.toNat : Int), .int .i64 0, .int .i64 0] TT) = w2 at HA HA4 ⊢
    clear hw2 hr
    go_loopw [6] (fun x6 wr => ∃ (e : Nat), 1 ≤ e ∧ e ≤ k + 1 ∧ e ≤ 32769 ∧ x6 = .int .i64 e ∧ Blk wr r TT (tokA (0, 0, 0)) ∧ Blk wr o TT (tokA (bestT x (refB l k (e - 1)))) ∧ Below w.heap.size w wr) (fun x6 _ => k + 1 - (intOf x6).toNat)
    case atStart => exact ⟨1, by omega, by omega, by omega, rfl, HA.out.1, HA.out.2, HA4.out⟩
    case round =>
      clear HA HA4
      obtain ⟨e, he1, hek, he2, rfl, hbr, hbo, hB⟩ := hrel
      by_cases hin : e ≤ k ∧ e ≤ 32768
      · have hek' : (e : Int) ≤ k := by omega
        have he2' : (e : Int) ≤ 32768 := by omega
        have HBR := Lib.hid hbr
        have HBO := Lib.hid hbo
        have HB := Lib.hid hB
        clear hbr hbo hB
        have hbb : ∃ b0, refB l k (e - 1) = b0 := ⟨_, rfl⟩
        obtain ⟨⟨b1, b2⟩, hbb⟩ := hbb
        rw [hbb] at HBO
        have HBB := Lib.hid hbb
        clear hbb
        go_wp2
        go_loopw [7] (fun x7 wq => ∃ j : Nat, j ≤ 258 ∧ k + j ≤ n ∧ x7 = .int .i64 j ∧ sameF l (258 - j) (k - e + j) (k + j) + j = sameN l (k - e) k ∧ Blk wq r TT (tokA (0, 0, 0)) ∧ Blk wq o TT (tokA (bestT x (b1, b2))) ∧ Below w.heap.size w wq) (fun x7 _ => 258 - (intOf x7).toNat)
        case atStart => exact ⟨0, by omega, by omega, rfl, rfl, HBR.out, HBO.out, HB.out⟩
        case round =>
          clear HBR HBO HB
          obtain ⟨j, hj, hkj, rfl, hrun, hbr, hbo, hB⟩ := hrel
          by_cases hlt : k + j < n
          · have hd2 : decide ((k : Int) + j < n) = true := decide_eq_true (by omega)
            have hlt' : (k : Int) + j < n := by omega
            by_cases h258 : j < 258
            · have hd1 : decide ((j : Int) < 258) = true := decide_eq_true (by omega)
              obtain ⟨f, hf⟩ : ∃ f, 258 - j = f + 1 := ⟨257 - j, by omega⟩
              have hpl : k - e + j < l.length := by rw [HL.out]; omega
              have hql : k + j < l.length := by rw [HL.out]; omega
              obtain ⟨b', off', hab', hx, hcx⟩ := (HR.out.below hB).at hpl
              obtain ⟨b'', off'', hab, hy, hcy⟩ := (HR.out.below hB).at hql
              simp only [Option.some.injEq, Addr.mk.injEq, and_true] at hab hab'
              obtain ⟨rfl, rfl⟩ := hab
              obtain ⟨rfl, rfl⟩ := hab'
              have hxe : l[k - e + j]? = some l[k - e + j] := List.getElem?_eq_getElem hpl
              have hye : l[k + j]? = some l[k + j] := List.getElem?_eq_getElem hql
              rw [show off + (k - e + j) = off + (k + j - e) by omega] at hcx
              generalize l[k - e + j] = u at *
              generalize l[k + j] = v at *
              unfold bE at hcx hcy
              have hb1 : (e : Int) ≤ (k : Int) + j := by omega
              have hb2 : (k : Int) + j - e < n := by omega
              have HBR := Lib.hid hbr
              have HBO := Lib.hid hbo
              have HD : Hid (∀ kd, Blk (wr.drewN kd) r TT (tokA (0, 0, 0)) ∧ Blk (wr.drewN kd) o TT (tokA (bestT x (b1, b2))) ∧ Below w.heap.size w (wr.drewN kd)) := Lib.hid (fun kd => ⟨hbr, hbo, hB.trans ⟨rfl, rfl, rfl, Nat.le_refl _, fun _ _ => rfl⟩⟩)
              have HB := Lib.hid hB
              clear hbr hbo hB hx hy
              by_cases hxy : u = v
              · subst hxy
                have hnext := hrun
                rw [hf, sameF_yes l f (k - e + j) (k + j) hxe hye] at hnext
                have HN := Lib.hid (show sameF l (258 - (j + 1)) (k - e + (j + 1)) (k + (j + 1)) + (j + 1) = sameN l (k - e) k by rw [← hnext, show 258 - (j + 1) = f by omega, Nat.add_assoc (k - e), Nat.add_assoc k]; omega)
                have heq : ((u.toNat : Int) == (u.toNat : Int)) = true := by simp
                clear hrun hnext hxe hye hf
                go_wp2
                go_quiet (fail)
                go_wp2
                go_roundw
                case rel => exact ⟨j + 1, by omega, by omega, by go_num, HN.out, (HD.out _).1, (HD.out _).2.1, (HD.out _).2.2⟩
                case measure => simp [intOf]; omega
              · have hnext := hrun
                rw [hf, sameF_no l f (k - e + j) (k + j) hxe hye hxy] at hnext
                have hk0 : sameN l (k - e) k = j := by omega
                have hne : ((v.toNat : Int) == (u.toNat : Int)) = false := beq_eq_false_iff_ne.2 (fun e => hxy (UInt8.toNat_inj.1 (by omega)))
                have HK := Lib.hid hk0
                clear hrun hnext hxe hye hf hk0 hxy
                go_wp2
                go_quiet (fail)
                generalize hwd : wr.drewN nq = wd
                have HF := Lib.hid (hwd ▸ HD.out nq)
                clear hwd HD HBR HBO HB hcx hcy hne hd1 hd2 hlt' hb1 hb2
                have k1 : wd.cell? ⟨o, 1, none⟩ = some (.int .i64 (b1 : Int)) := by have := HF.out.2.1.cell (i := 1) (v := .int .i64 (bestT x (b1, b2)).2.1) rfl; rw [bestT_one] at this; exact this
                by_cases hj3 : 3 ≤ j
                · by_cases hbj : b1 < j
                  · have hnew : bestT x (refB l k e) = (0, (j : Int), (e : Int)) := by
                      rw [show e = (e - 1) + 1 by omega, refB, Nat.sub_add_cancel he1, HK.out, HBB.out, if_pos ⟨hj3, hbj⟩]
                      unfold bestT
                      rw [if_pos (show 0 < j by omega)]
                    have HN := Lib.hid hnew
                    clear hnew
                    go_wp2_with (first | (refine wpList_storeBlk rfl _ _ rfl rfl rfl HF.out.2.1 rfl size_tok (tok3_one _ _) ?_; intro d0 dg))
                    go_roundw
                    case rel => exact ⟨e + 1, by omega, by omega, by omega, by go_num, HF.out.1.grown dg (by have := HOW.out.2.2; simpa using this), by rw [Nat.add_sub_cancel, HN.out]; exact d0, HF.out.2.2.grown dg HF.out.2.2.size (fun j hj => by simp at hj; have := HOW.out; omega)⟩
                    case measure => simp [intOf]; omega
                  · have hnew : refB l k e = refB l k (e - 1) := by
                      rw [show e = (e - 1) + 1 by omega, refB, Nat.sub_add_cancel he1, HK.out, HBB.out, if_neg (fun h => hbj h.2)]
                    have HN := Lib.hid hnew
                    clear hnew
                    go_wp2
                    go_roundw
                    case rel => exact ⟨e + 1, by omega, by omega, by omega, by go_num, HF.out.1, by rw [Nat.add_sub_cancel, HN.out, HBB.out]; exact HF.out.2.1, HF.out.2.2⟩
                    case measure => simp [intOf]; omega
                · have hnew : refB l k e = refB l k (e - 1) := by
                    rw [show e = (e - 1) + 1 by omega, refB, Nat.sub_add_cancel he1, HK.out, HBB.out, if_neg (fun h => hj3 h.1)]
                  have HN := Lib.hid hnew
                  clear hnew
                  go_wp2
                  go_roundw
                  case rel => exact ⟨e + 1, by omega, by omega, by omega, by go_num, HF.out.1, by rw [Nat.add_sub_cancel, HN.out, HBB.out]; exact HF.out.2.1, HF.out.2.2⟩
                  case measure => simp [intOf]; omega
            · have hd1 : decide ((j : Int) < 258) = false := decide_eq_false (by omega)
              have hj258 : j = 258 := by omega
              have HK : Hid (sameN l (k - e) k = j) := Lib.hid (by rw [← hrun, hj258]; simp [sameF])
              have HBR := Lib.hid hbr
              have HBO := Lib.hid hbo
              have HB := Lib.hid hB
              have HD : Hid (∀ kd, Blk (wr.drewN kd) r TT (tokA (0, 0, 0)) ∧ Blk (wr.drewN kd) o TT (tokA (bestT x (b1, b2))) ∧ Below w.heap.size w (wr.drewN kd)) := Lib.hid (fun kd => ⟨hbr, hbo, hB.trans ⟨rfl, rfl, rfl, Nat.le_refl _, fun _ _ => rfl⟩⟩)
              clear hbr hbo hB hrun hj258
              go_wp2
              go_quiet (fail)
              generalize hwd : wr.drewN nq = wd
              have HF := Lib.hid (hwd ▸ HD.out nq)
              clear hwd HD HBR HBO HB hd1 hd2 hlt'
              have k1 : wd.cell? ⟨o, 1, none⟩ = some (.int .i64 (b1 : Int)) := by have := HF.out.2.1.cell (i := 1) (v := .int .i64 (bestT x (b1, b2)).2.1) rfl; rw [bestT_one] at this; exact this
              by_cases hj3 : 3 ≤ j
              · by_cases hbj : b1 < j
                · have hnew : bestT x (refB l k e) = (0, (j : Int), (e : Int)) := by
                    rw [show e = (e - 1) + 1 by omega, refB, Nat.sub_add_cancel he1, HK.out, HBB.out, if_pos ⟨hj3, hbj⟩]
                    unfold bestT
                    rw [if_pos (show 0 < j by omega)]
                  have HN := Lib.hid hnew
                  clear hnew
                  go_wp2_with (first | (refine wpList_storeBlk rfl _ _ rfl rfl rfl HF.out.2.1 rfl size_tok (tok3_one _ _) ?_; intro d0 dg))
                  go_roundw
                  case rel => exact ⟨e + 1, by omega, by omega, by omega, by go_num, HF.out.1.grown dg (by have := HOW.out.2.2; simpa using this), by rw [Nat.add_sub_cancel, HN.out]; exact d0, HF.out.2.2.grown dg HF.out.2.2.size (fun j hj => by simp at hj; have := HOW.out; omega)⟩
                  case measure => simp [intOf]; omega
                · have hnew : refB l k e = refB l k (e - 1) := by
                    rw [show e = (e - 1) + 1 by omega, refB, Nat.sub_add_cancel he1, HK.out, HBB.out, if_neg (fun h => hbj h.2)]
                  have HN := Lib.hid hnew
                  clear hnew
                  go_wp2
                  go_roundw
                  case rel => exact ⟨e + 1, by omega, by omega, by omega, by go_num, HF.out.1, by rw [Nat.add_sub_cancel, HN.out, HBB.out]; exact HF.out.2.1, HF.out.2.2⟩
                  case measure => simp [intOf]; omega
              · have hnew : refB l k e = refB l k (e - 1) := by
                  rw [show e = (e - 1) + 1 by omega, refB, Nat.sub_add_cancel he1, HK.out, HBB.out, if_neg (fun h => hj3 h.1)]
                have HN := Lib.hid hnew
                clear hnew
                go_wp2
          · have hd2 : decide ((k : Int) + j < n) = false := decide_eq_false (by omega)
            have HK : Hid (sameN l (k - e) k = j) := Lib.hid (by rw [← hrun, sameF_end _ _ _ _ (by rw [HL.out]; omega)]; omega)
            have HBR := Lib.hid hbr
            have HBO := Lib.hid hbo
            have HB := Lib.hid hB
            have HD : Hid (∀ kd, Blk (wr.drewN kd) r TT (tokA (0, 0, 0)) ∧ Blk (wr.drewN kd) o TT (tokA (bestT x (b1, b2))) ∧ Below w.heap.size w (wr.drewN kd)) := Lib.hid (fun kd => ⟨hbr, hbo, hB.trans ⟨rfl, rfl, rfl, Nat.le_refl _, fun _ _ => rfl⟩⟩)
            clear hbr hbo hB hrun
            go_wp2
            go_quiet (fail)
            generalize hwd : wr.drewN nq = wd
            have HF := Lib.hid (hwd ▸ HD.out nq)
            clear hwd HD HBR HBO HB hd2
            have k1 : wd.cell? ⟨o, 1, none⟩ = some (.int .i64 (b1 : Int)) := by have := HF.out.2.1.cell (i := 1) (v := .int .i64 (bestT x (b1, b2)).2.1) rfl; rw [bestT_one] at this; exact this
            by_cases hj3 : 3 ≤ j
            · by_cases hbj : b1 < j
              · have hnew : bestT x (refB l k e) = (0, (j : Int), (e : Int)) := by
                  rw [show e = (e - 1) + 1 by omega, refB, Nat.sub_add_cancel he1, HK.out, HBB.out, if_pos ⟨hj3, hbj⟩]
                  unfold bestT
                  rw [if_pos (show 0 < j by omega)]
                have HN := Lib.hid hnew
                clear hnew
                go_wp2_with (first | (refine wpList_storeBlk rfl _ _ rfl rfl rfl HF.out.2.1 rfl size_tok (tok3_one _ _) ?_; intro d0 dg))
                go_roundw
                case rel => exact ⟨e + 1, by omega, by omega, by omega, by go_num, HF.out.1.grown dg (by have := HOW.out.2.2; simpa using this), by rw [Nat.add_sub_cancel, HN.out]; exact d0, HF.out.2.2.grown dg HF.out.2.2.size (fun j hj => by simp at hj; have := HOW.out; omega)⟩
                case measure => simp [intOf]; omega
              · have hnew : refB l k e = refB l k (e - 1) := by
                  rw [show e = (e - 1) + 1 by omega, refB, Nat.sub_add_cancel he1, HK.out, HBB.out, if_neg (fun h => hbj h.2)]
                have HN := Lib.hid hnew
                clear hnew
                go_wp2
                go_roundw
                case rel => exact ⟨e + 1, by omega, by omega, by omega, by go_num, HF.out.1, by rw [Nat.add_sub_cancel, HN.out, HBB.out]; exact HF.out.2.1, HF.out.2.2⟩
                case measure => simp [intOf]; omega
            · have hnew : refB l k e = refB l k (e - 1) := by
                rw [show e = (e - 1) + 1 by omega, refB, Nat.sub_add_cancel he1, HK.out, HBB.out, if_neg (fun h => hj3 h.1)]
              have HN := Lib.hid hnew
              clear hnew
              go_wp2
              go_roundw
              case rel => exact ⟨e + 1, by omega, by omega, by omega, by go_num, HF.out.1, by rw [Nat.add_sub_cancel, HN.out, HBB.out]; exact HF.out.2.1, HF.out.2.2⟩
              case measure => simp [intOf]; omega
      · have hmin : e - 1 = min k 32768 := by omega
        rw [hmin, ← HRES.out] at hbo
        have HBR := Lib.hid hbr
        have HBO := Lib.hid hbo
        have HB := Lib.hid hB
        clear hbr hbo hB hmin
        generalize hft : findT l (k : Int) = t at HBO
        have HFT := Lib.hid hft
        clear hft
        by_cases hke : e ≤ k
        · have he3 : ¬ (e : Int) ≤ 32768 := by omega
          have hke' : (e : Int) ≤ k := by omega
          clear hin
          go_wp2_with (first | (refine wpList_load_row rfl _ _ rfl _ rfl _ _ _ _ HBO.out Try.underlying48 rfl size_tok ?_) | (refine wpList_storeBlk rfl _ _ rfl rfl rfl HBR.out rfl size_tok (tokA_one _) ?_; intro d0 dg))
          refine bodyPost_ret (results_cell_row (p := 4) rfl _ _ r _ _ _ _ rfl d0 Try.underlying48 rfl size_tok) rfl ⟨by rw [HFT.out], HB.out.grown dg HB.out.size (fun j hj => by simp at hj; have := HOW.out; omega)⟩
        · have hke' : ¬ (e : Int) ≤ k := by omega
          clear hin
          go_wp2_with (first | (refine wpList_load_row rfl _ _ rfl _ rfl _ _ _ _ HBO.out Try.underlying48 rfl size_tok ?_) | (refine wpList_storeBlk rfl _ _ rfl rfl rfl HBR.out rfl size_tok (tokA_one _) ?_; intro d0 dg))
          refine bodyPost_ret (results_cell_row (p := 4) rfl _ _ r _ _ _ _ rfl d0 Try.underlying48 rfl size_tok) rfl ⟨by rw [HFT.out], HB.out.grown dg HB.out.size (fun j hj => by simp at hj; have := HOW.out; omega)⟩
end Go.Proofs.Ytnfdbljeinlblaa
