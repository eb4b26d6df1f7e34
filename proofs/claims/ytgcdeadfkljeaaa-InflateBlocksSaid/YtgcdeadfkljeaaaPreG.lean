/- A code: Get. -/
import Derived.Test.YtgcdeadfkljeaaaPreF
import Derived.Test.YtgcdeadfkljeaaaBitR
import Derived.Laws.BitsAllLaws
namespace Go.Proofs.Ytgcdeadfkljeaaa
open Go.RowKit
set_option linter.unusedVariables false
set_option linter.unusedSimpArgs false

/-- What is read of bits B, from the n-th one on, when the bits so far make this word: the sign, the error, how many bits. -/
def decG (l : List Int) (B : List Bool) : Nat → Nat → Nat → Int × Int × Nat
  | 0, _, _ => (0, 12, 0)
  | k + 1, n, word => match B[n]? with
    | none => (0, 6, 0)
    | some b => if 2 * word + b.toNat < baseW l (n + 1) + cn l (n + 1) then ((((sg l (n + 1)).getD (2 * word + b.toNat - baseW l (n + 1)) 0 : Nat) : Int), 0, n + 1) else decG l B k (n + 1) (2 * word + b.toNat)
def getS (l : List Int) (B : List Bool) : Int × Int × Nat := decG l B (lgF l 15) 0 0
theorem ordL_at (l : List Int) {m : Nat} : ∀ {k : Nat}, m + 1 ≤ k → ∀ r, r < (sg l (m + 1)).length → (ordL l k)[(ordL l m).length + r]? = (sg l (m + 1))[r]?
  | 0, h, _, _ => by omega
  | k + 1, h, r, hr => by
    rw [ordL_succ]
    by_cases hk : m = k
    · subst hk
      rw [List.getElem?_append_right (by omega), Nat.add_sub_cancel_left]
    · have hlt : (ordL l m).length + r < (ordL l k).length := by
        have h2 : (ordL l (m + 1)).length ≤ (ordL l k).length := by
          have : ∀ j, m + 1 ≤ j → (ordL l (m + 1)).length ≤ (ordL l j).length := by
            intro j hj
            induction j with
            | zero => omega
            | succ j ih =>
              by_cases hjm : m = j
              · subst hjm; exact Nat.le_refl _
              · rw [ordL_succ l j, List.length_append]; have := ih (by omega); omega
          exact this k (by omega)
        rw [ordL_succ l m, List.length_append] at h2
        omega
      rw [List.getElem?_append_left hlt]
      exact ordL_at l (show m + 1 ≤ k by omega) r hr
theorem ordL_len_succ (l : List Int) (m : Nat) : (ordL l (m + 1)).length = (ordL l m).length + cn l (m + 1) := by
  rw [ordL_succ, List.length_append, sg_len, cn_pos l (by omega)]
theorem or_low64G (x r k : Nat) (h : x * 2 ^ k + r < 9223372036854775808) (hr : r < 2 ^ k) : bits .or .i64 ((x * 2 ^ k : Nat) : Int) (r : Int) = ((x * 2 ^ k + r : Nat) : Int) := by
  show IntKind.i64.wrap ((BitVec.ofInt 64 ((x * 2 ^ k : Nat) : Int) ||| BitVec.ofInt 64 (r : Int)).toNat : Int) = _
  rw [BitVec.toNat_or, ofInt_u64 _ (by generalize x * 2 ^ k = y at *; omega), ofInt_u64 r (by generalize x * 2 ^ k = y at *; omega), Nat.mul_comm, ← Nat.two_pow_add_eq_or_of_lt hr x, Nat.mul_comm]
  generalize x * 2 ^ k + r = y at *
  rw [IntKind.wrap_i64]; omega
theorem or_bit (x r : Nat) (h : x ≤ 1000000) (hr : r < 2) : bits .or .i64 ((x : Int) * 2) (r : Int) = ((2 * x + r : Nat) : Int) := by
  have := or_low64G x r 1 (by omega) (by omega)
  rw [show ((x : Int) * 2) = ((x * 2 ^ 1 : Nat) : Int) by omega, this]
  congr 1; omega
theorem rd1_some {L : List UInt8} {q : Nat} {b : Bool} (h : (ofL L)[q]? = some b) : rdGetEr L q 1 = 0 ∧ rdGetV L q 1 = b.toNat ∧ rdGetAt L q 1 = q + 1 := by
  have hq : q < 8 * L.length := by rw [← ofL_length]; exact (List.getElem?_eq_some_iff.1 h).1
  have e : rdGetEr L q 1 = 0 := by unfold rdGetEr; rw [if_neg (by omega), if_neg (by omega)]
  refine ⟨e, ?_, ?_⟩
  · unfold rdGetV; rw [if_pos e]
    have hl : q < (ofL L).length := by rw [ofL_length]; exact hq
    have hb : (ofL L)[q] = b := by rw [List.getElem?_eq_getElem hl] at h; simpa using h
    rw [List.drop_eq_getElem_cons hl, hb]
    cases b <;> rfl
  · unfold rdGetAt; rw [if_pos e]; rfl
theorem rd1_none {L : List UInt8} {q : Nat} (h : (ofL L)[q]? = none) (hq : q ≤ 8 * L.length) : rdGetEr L q 1 = 6 ∧ rdGetV L q 1 = 0 ∧ rdGetAt L q 1 = q := by
  have hq2 : 8 * L.length ≤ q := by rw [← ofL_length]; exact List.getElem?_eq_none_iff.1 h
  have e : rdGetEr L q 1 = 6 := by unfold rdGetEr; rw [if_neg (by omega), if_pos (by omega)]
  refine ⟨e, ?_, ?_⟩
  · unfold rdGetV; rw [if_neg (by rw [e]; decide)]
  · unfold rdGetAt; rw [if_neg (by rw [e]; decide)]
/-- The reader as it was. -/
theorem rd_back {w : World} {gr : Nat} {L : List UInt8} {q p : Nat} {a : Option Addr} {n c : Nat} (h : RdOk w gr L q) (hr : Rd w bE a L) (hl : L.length = n ∧ n ≤ c ∧ (c ≤ 9223372036854775807 ∧ n ≤ 1000000 ∧ Bnd L a gr)) (hp : p ≤ 8 * n) :
    RdOk ((w.setCell ⟨gr, 0, none⟩ (.slice a n c)).setCell ⟨gr, 1, none⟩ (.int .i64 (p : Int))) gr L p ∧ w.grownBy ((w.setCell ⟨gr, 0, none⟩ (.slice a n c)).setCell ⟨gr, 1, none⟩ (.int .i64 (p : Int))) (some gr) := by
  have hg := grownBy_trans (grownBy_setCell w ⟨gr, 0, none⟩ (.slice a n c)) (grownBy_setCell (w.setCell ⟨gr, 0, none⟩ (.slice a n c)) ⟨gr, 1, none⟩ (.int .i64 (p : Int)))
  obtain ⟨a', n', c', hb, _⟩ := h.ex
  refine ⟨⟨a, n, c, (hb.setCell 0 (.slice a n c)).setCell 1 (.int .i64 (p : Int)), hl.1, hl.2.1, hl.2.2, hr.keep (keep_of_grown hg h.nobyte), hp⟩, hg⟩
structure GetPost (w : World) (gc gr : Nat) (l : List Int) (L : List UInt8) (p : Nat) (e : Ending) (w' : World) : Prop where
  ret : e = .returned (.tuple #[.int .i64 (getS l ((ofL L).drop p)).1, .int .i64 (getS l ((ofL L).drop p)).2.1])
  rd : RdOk w' gr L (p + (getS l ((ofL L).drop p)).2.2)
  code : CodeOk w' gc l
  grown : w.grownBy w' (some gr)
set_option maxRecDepth 100000 in
theorem cGet_nil (v : Option Addr) (w : World) : Calls Try.prog 101 #[.pointer none, .pointer v] w fun e w' => e = .returned (.tuple #[.int .i64 0, .int .i64 1]) ∧ w' = w := by
  go_enter Try.func101, Try.ntmps101
  go_wp2
  go_ret2
  exact ⟨rfl, rfl⟩
set_option maxRecDepth 100000 in
set_option maxHeartbeats 8000000 in
theorem cGet_any (gc gr : Nat) (l : List Int) (L : List UInt8) (p : Nat) (w : World) (h : CodeOk w gc l) (hR : RdOk w gr L p) :
  Calls Try.prog 101 #[.pointer (some ⟨gc, 0, none⟩), .pointer (some ⟨gr, 0, none⟩)] w (GetPost w gc gr l L p) := by
  obtain ⟨a, n, c, hb, hl, hnc, hc, hr, hp⟩ := hR.ex
  have c0 := hb.cell (i := 0) rfl
  have c1 := hb.cell (i := 1) rfl
  have HH := Lib.hid (And.intro h hR)
  have HB := Lib.hid hb
  have HL := Lib.hid (And.intro hl (And.intro hnc (And.intro hc (And.intro hr hp))))
  clear h hR hb hl hnc hc hr hp
  go_enter Try.func101, Try.ntmps101
  go_wp2_with fail
  generalize hW : w.alloc (.cells #[.slice a n c, .int .i64 (p : Int)] 102) = W
  have hbW : Below w.heap.size w W := by rw [← hW]; exact below_alloc _ _
  obtain ⟨gp, hgp⟩ : ∃ gp, gp = w.heap.size := ⟨_, rfl⟩
  have HP : Hid (Blk W gp 102 #[.slice a n c, .int .i64 (p : Int)]) := Lib.hid (by rw [← hW, hgp]; exact Blk.new _ _ _)
  have HNE : Hid (gp ≠ gr) := Lib.hid (by have := HB.out.lt; omega)
  have HS : Hid (RdOk W gr L p ∧ CodeOk W gc l ∧ w.grownBy W (some gr) ∧ Rd W bE a L) := Lib.hid ⟨HH.out.2.below hbW, HH.out.1.below hbW, grownBy_of_below _ hbW, HL.out.2.2.2.1.below hbW⟩
  have HLG := Lib.hid (lgF_le l 15)
  rw [← hgp]
  clear hW hbW hgp HB HH c0 c1
  go_loopw [7, 8, 9, 10] (fun x7 x8 x9 x10 wr => ∃ (m word F A : Nat), m ≤ lgF l 15 ∧ x7 = .int .i64 (word : Int) ∧ x8 = .int .i64 (F : Int) ∧ x9 = .int .i64 (A : Int) ∧ x10 = .int .i64 ((m : Int) + 1) ∧
    Hid ((word < 2 ^ m ∧ F ≤ word ∧ F = baseW l m + cn l m ∧ A = (ordL l m).length) ∧ True ∧ getS l ((ofL L).drop p) = decG l ((ofL L).drop p) (lgF l 15 - m) m word ∧ p + m ≤ 8 * L.length) ∧ RdOk wr gr L (p + m) ∧ CodeOk wr gc l ∧ w.grownBy wr (some gr) ∧ Rd wr bE a L ∧ Blk wr gp 102 #[.slice a n c, .int .i64 (p : Int)]) (fun _ _ _ x10 _ => 17 - (intOf x10).toNat)
  case atStart => exact ⟨0, 0, 0, 0, Nat.zero_le _, rfl, rfl, rfl, rfl, Lib.hid ⟨⟨by decide, Nat.le_refl _, by simp [baseW, cn], by simp [ordL]⟩, trivial, rfl, by have := HL.out; omega⟩, HS.out.1, HS.out.2.1, HS.out.2.2.1, HS.out.2.2.2, HP.out⟩
  case round =>
    clear HS HP
    obtain ⟨m, word, F, A, hm, rfl, rfl, rfl, rfl, hst, hrd, hcode, hgr, hra, hbp⟩ := hrel
    have hlg : m ≤ 15 := Nat.le_trans hm HLG.out
    go_wp2_with fail
    refine (longest_any gc l wr hcode).mono ?_
    rintro e w1 ⟨rfl, hw1⟩
    rw [hw1]
    clear hw1
    by_cases hml : m < lgF l 15
    · have hml2 : (m : Int) + 1 ≤ ((lgF l 15 : Nat) : Int) := by omega
      have gml : decide ((m : Int) + 1 ≤ ((lgF l 15 : Nat) : Int)) = true := decide_eq_true hml2
      have HG := Lib.hid (And.intro hcode (And.intro hgr (And.intro hra hbp)))
      have HRD := Lib.hid hrd
      have hm15 : m < 15 := by have := HLG.out; omega
      have HML := Lib.hid hml
      clear hcode hgr hra hbp hrd hm hml
      generalize hlge : lgF l 15 = lg at *
      have HLGE := Lib.hid hlge
      clear hlge
      go_wp2_with fail
      refine (rdGet_any gr L (p + m) 1 wr HRD.out (by omega) (by omega)).mono ?_
      rintro e w2 ⟨rfl, hr2, hg2⟩
      obtain ⟨a9, n9, c9, hb9, -⟩ := HRD.out.ex
      have HG2 : Hid (CodeOk w2 gc l ∧ w.grownBy w2 (some gr) ∧ Rd w2 bE a L ∧ Blk w2 gp 102 #[.slice a n c, .int .i64 (p : Int)]) := Lib.hid
        ⟨HG.out.1.byType hb9 (by decide) (by decide) (by decide) hg2, grownBy_trans HG.out.2.1 hg2, HG.out.2.2.1.keep (keep_of_grown hg2 HRD.out.nobyte), HG.out.2.2.2.grown hg2 (fun e => HNE.out (by simpa using e))⟩
      clear hb9 hg2
      cases hbit : (ofL L)[p + m]? with
      | none =>
        obtain ⟨e1, e2, e3⟩ := rd1_none hbit hst.out.2.2.2
        rw [e1, e2]
        rw [e3] at hr2
        have HE : Hid (getS l ((ofL L).drop p) = (0, 6, 0)) := Lib.hid (by
          rw [hst.out.2.2.1, show lg - m = (lg - m - 1) + 1 by have := HML.out; omega]
          unfold decG
          rw [List.getElem?_drop, hbit])
        obtain ⟨a8, n8, c8, hb8, -⟩ := hr2.ex
        have k0 := hb8.cell (i := 0) rfl
        have k1 := hb8.cell (i := 1) rfl
        have f0 := hb8.frozen 0
        have f1 := hb8.frozen 1
        have j0 := HG2.out.2.2.2.cell (i := 0) rfl
        have j1 := HG2.out.2.2.2.cell (i := 1) rfl
        have HR2 := Lib.hid (And.intro hr2 hb8)
        clear hr2 hb8 hbit e1 e2 e3 HG HRD
        go_wp2
        go_ret2
        have hback := rd_back HR2.out.1 HG2.out.2.2.1 ⟨HL.out.1, HL.out.2.1, HL.out.2.2.1⟩ HL.out.2.2.2.2
        exact ⟨by rw [HE.out]; rfl, by rw [HE.out]; exact hback.1, HG2.out.1.byType HR2.out.2 (by decide) (by decide) (by decide) hback.2, grownBy_trans HG2.out.2.1 hback.2⟩
      | some bit =>
        obtain ⟨e1, e2, e3⟩ := rd1_some hbit
        rw [e1, e2]
        rw [e3] at hr2
        have HD : Hid (getS l ((ofL L).drop p) = if 2 * word + bit.toNat < baseW l (m + 1) + cn l (m + 1) then ((((sg l (m + 1)).getD (2 * word + bit.toNat - baseW l (m + 1)) 0 : Nat) : Int), 0, m + 1) else decG l ((ofL L).drop p) (lg - (m + 1)) (m + 1) (2 * word + bit.toNat)) := Lib.hid (by
          rw [hst.out.2.2.1, show lg - m = (lg - (m + 1)) + 1 by have := HML.out; omega]
          conv => lhs; unfold decG
          rw [List.getElem?_drop, hbit])
        have HBS : Hid (baseW l (m + 1) = 2 * F) := Lib.hid (by rw [hst.out.1.2.2.1]; rfl)
        have HPL : Hid (p + m + 1 ≤ 8 * L.length) := Lib.hid hr2.len.2
        have hw15 : word < 32768 := by
          have h1 := hst.out.1.1
          have h2 : 2 ^ m ≤ 2 ^ 15 := Nat.pow_le_pow_right (by omega) (by omega)
          omega
        have hFw : F ≤ word := hst.out.1.2.1
        obtain ⟨a7, p7, q7, n7, c7, m7, d7, o7, h71, h72, h73, h74, h75, h76, h77⟩ := HG2.out.1.ex
        have k1 := code_cnt h71 (k := m + 1) (by omega)
        have k2 := code_q h71
        have hA : A ≤ 900000 := by
          have h1 := hst.out.1.2.2.2
          have h2 := ordL_len l m
          have h3 := h75.len
          have h4 : l.length * m ≤ l.length * 15 := Nat.mul_le_mul_left _ (by omega)
          omega
        have hcl : cn l (m + 1) ≤ 60000 := by have := cn_le l (m + 1); have := h75.len; omega
        have HQ := Lib.hid h77
        have HR2 := Lib.hid hr2
        obtain ⟨t, ht, HT⟩ : ∃ t, t < 2 ∧ Hid (t = bit.toNat) := ⟨bit.toNat, by cases bit <;> decide, Lib.hid rfl⟩
        rw [← HT.out] at HD
        rw [← HT.out]
        obtain ⟨W2, HW2, hor⟩ : ∃ W2 : Nat, Hid (W2 = 2 * word + t) ∧ bits .or .i64 ((word : Int) * 2) (t : Int) = (W2 : Int) := ⟨2 * word + t, Lib.hid rfl, or_bit word t (by omega) ht⟩
        have hW2 : 2 * F ≤ W2 ∧ W2 < 65536 := by have := HW2.out; omega
        rw [← HW2.out, HBS.out] at HD
        obtain ⟨cc, hcc⟩ : ∃ cc, cc = cn l (m + 1) := ⟨_, rfl⟩
        rw [← hcc] at k1 hcl HD
        have HCC := Lib.hid hcc
        have hmi : ((m : Int) + 1).toNat = m + 1 := by omega
        clear h71 h72 h74 h75 h76 h77 hr2 hbit e1 e2 e3 HG HRD hcc
        by_cases hlt : W2 < 2 * F + cc
        · have HE : Hid (getS l ((ofL L).drop p) = ((((sg l (m + 1)).getD (W2 - 2 * F) 0 : Nat) : Int), 0, m + 1)) := Lib.hid (by rw [HD.out, if_pos hlt])
          have hlti : (W2 : Int) - (F : Int) * 2 < (cc : Int) := by omega
          have hgl : W2 - 2 * F < (sg l (m + 1)).length := by rw [sg_len, ← cn_pos l (by omega), ← HCC.out]; omega
          have hoi := ordL_at l (m := m) (k := 15) (by omega) (W2 - 2 * F) hgl
          rw [← hst.out.1.2.2.2] at hoi
          have hos : A + (W2 - 2 * F) < (ordL l 15).length := by
            rw [List.getElem?_eq_getElem hgl] at hoi
            exact (List.getElem?_eq_some_iff.1 hoi).1
          obtain ⟨b9, o9, rfl, -, hc9⟩ := HQ.out.rd.at hos
          have hv : (ordL l 15)[A + (W2 - 2 * F)] = (sg l (m + 1)).getD (W2 - 2 * F) 0 := by
            rw [List.getElem?_eq_getElem hos] at hoi
            rw [List.getD_eq_getElem?_getD, ← hoi]; rfl
          rw [hv] at hc9
          have hol : A + (W2 - 2 * F) < o7 := by rw [← HQ.out.len]; exact hos
          obtain ⟨I, hI⟩ : ∃ I : Nat, I = A + (W2 - 2 * F) := ⟨_, rfl⟩
          rw [← hI] at hc9 hol
          have hIi : (A : Int) + (W2 : Int) - (F : Int) * 2 = (I : Int) := by omega
          obtain ⟨v9, hv9⟩ : ∃ v9, v9 = (sg l (m + 1)).getD (W2 - 2 * F) 0 := ⟨_, rfl⟩
          rw [← hv9] at hc9 HE
          replace hc9 : w2.cell? ⟨b9, o9 + I, none⟩ = some (.int .i64 (v9 : Int)) := hc9
          clear hgl hoi hos hv hv9 HD hlt hI
          go_wp2
          go_ret2
          exact ⟨by rw [HE.out]; rfl, by rw [HE.out]; exact HR2.out, HG2.out.1, HG2.out.2.1⟩
        · have hlti : ¬ (W2 : Int) - (F : Int) * 2 < (cc : Int) := by omega
          have HE : Hid (getS l ((ofL L).drop p) = decG l ((ofL L).drop p) (lg - (m + 1)) (m + 1) W2) := Lib.hid (by rw [HD.out, if_neg hlt])
          have HN : Hid ((W2 < 2 ^ (m + 1) ∧ 2 * F + cc ≤ W2 ∧ 2 * F + cc = baseW l (m + 1) + cn l (m + 1) ∧ A + cc = (ordL l (m + 1)).length) ∧ True) := Lib.hid ⟨⟨by rw [Nat.pow_succ]; have := hst.out.1.1; have := HW2.out; omega, by omega, by rw [HBS.out, HCC.out], by rw [ordL_len_succ, ← hst.out.1.2.2.2, HCC.out]⟩, trivial⟩
          clear HD hlt k2
          go_wp2
          go_roundw
          case rel => exact ⟨m + 1, W2, 2 * F + cc, A + cc, by rw [HLGE.out]; have := HML.out; omega, rfl, by go_num, by go_num, by go_num, Lib.hid ⟨HN.out.1, trivial, by rw [HLGE.out]; exact HE.out, HPL.out⟩, HR2.out, HG2.out⟩
          case measure => simp [intOf] <;> omega
    · have hml' : m = lgF l 15 := by omega
      have hml2 : ¬ (m : Int) + 1 ≤ ((lgF l 15 : Nat) : Int) := by omega
      have HE : Hid (getS l ((ofL L).drop p) = (0, 12, 0)) := Lib.hid (by
        rw [hst.out.2.2.1, show lgF l 15 - m = 0 by omega]
        rfl)
      generalize lgF l 15 = lg at *
      obtain ⟨a8, n8, c8, hb8, -⟩ := hrd.ex
      have k0 := hb8.cell (i := 0) rfl
      have k1 := hb8.cell (i := 1) rfl
      have f0 := hb8.frozen 0
      have f1 := hb8.frozen 1
      have j0 := hbp.cell (i := 0) rfl
      have j1 := hbp.cell (i := 1) rfl
      have HR2 := Lib.hid (And.intro hrd hb8)
      have HG2 := Lib.hid (And.intro hcode (And.intro hgr hra))
      clear hrd hb8 hcode hgr hra hbp hml'
      go_wp2
      go_ret2
      have hback := rd_back HR2.out.1 HG2.out.2.2 ⟨HL.out.1, HL.out.2.1, HL.out.2.2.1⟩ HL.out.2.2.2.2
      exact ⟨by rw [HE.out]; rfl, by rw [HE.out]; exact hback.1, HG2.out.1.byType HR2.out.2 (by decide) (by decide) (by decide) hback.2, grownBy_trans HG2.out.2.1 hback.2⟩
end Go.Proofs.Ytgcdeadfkljeaaa
