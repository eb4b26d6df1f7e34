/- match.Find. -/
import Derived.Test.YtnfdbljeinlblaaMatD
namespace Go.Proofs.Ytnfdbljeinlblaa
open Go.RowKit
set_option linter.unusedVariables false
set_option linter.unusedSimpArgs false

abbrev Tok := Int × Int × Int
def tokA (q : Tok) : Array Value := #[.int .u8 q.1, .int .i64 q.2.1, .int .i64 q.2.2]
theorem tokA_one (q : Tok) : ∀ u ∈ (tokA q).toList, u.oneCell' = true := by intro u hu; simp [tokA] at hu; rcases hu with rfl | rfl | rfl <;> rfl
/-- The longest copy for a place, or its byte. -/
def findT (l : List UInt8) (p : Int) : Tok :=
  if p < 0 ∨ (l.length : Int) ≤ p then (0, 0, 0) else
  if 0 < (longN l p.toNat l.length).1 then (0, ((longN l p.toNat l.length).1 : Int), ((longN l p.toNat l.length).2 : Int)) else (((l.getD p.toNat 0).toNat : Int), 0, 0)
set_option maxRecDepth 100000 in
set_option maxHeartbeats 16000000 in
theorem mFind_any (a : Option Addr) (n c : Nat) (l : List UInt8) (p : Int) (w : World) (hl : l.length = n) (hn : n ≤ 1000000000) (hnc : n ≤ c) (hr : Rd w bE a l) :
  Calls Try.prog 36 #[.slice a n c, .int .i64 p] w fun e w' => e = .returned (.agg (tokA (findT l p))) ∧ Below w.heap.size w w' := by
  have HL := Lib.hid hl
  have HR := Lib.hid hr
  clear hl hr
  have hal := below_alloc w (.cells #[.int .u8 0, .int .i64 0, .int .i64 0] TT)
  have HB1 := Lib.hid hal
  have hK1 : Blk _ _ TT (tokA (0, 0, 0)) := Blk.new w TT #[.int .u8 0, .int .i64 0, .int .i64 0]
  have HK1 := Lib.hid hK1
  clear hal hK1
  go_enter Try.func36, Try.ntmps36
  by_cases hbad : p < 0 ∨ (n : Int) ≤ p
  · have HRES : Hid (findT l p = (0, 0, 0)) := Lib.hid (by unfold findT; rw [if_pos (by rw [HL.out]; exact hbad)])
    by_cases h0 : p < 0
    · clear hbad
      go_wp2_with (first | (refine wpList_storeBlk rfl _ _ rfl rfl rfl HK1.out rfl size_tok (tokA_one (0, 0, 0)) ?_; intro d0 dg))
      refine bodyPost_ret (results_cell_row (p := 4) rfl _ _ w.heap.size _ (tokA (0, 0, 0)) _ _ rfl d0 Try.underlying48 rfl size_tok) rfl ⟨by rw [HRES.out], HB1.out.grown dg HB1.out.size (fun j hj => by simp at hj; omega)⟩
    · have h1 : (n : Int) ≤ p := by omega
      clear hbad
      go_wp2_with (first | (refine wpList_storeBlk rfl _ _ rfl rfl rfl HK1.out rfl size_tok (tokA_one (0, 0, 0)) ?_; intro d0 dg))
      refine bodyPost_ret (results_cell_row (p := 4) rfl _ _ w.heap.size _ (tokA (0, 0, 0)) _ _ rfl d0 Try.underlying48 rfl size_tok) rfl ⟨by rw [HRES.out], HB1.out.grown dg HB1.out.size (fun j hj => by simp at hj; omega)⟩
  · obtain ⟨k, rfl⟩ := Int.eq_ofNat_of_zero_le (show 0 ≤ p by omega)
    have hkn : k < n := by omega
    have hki : (k : Int) < n := by omega
    have hres : findT l (k : Int) = if 0 < (longN l k n).1 then (0, ((longN l k n).1 : Int), ((longN l k n).2 : Int)) else (((l.getD k 0).toNat : Int), 0, 0) := by
      unfold findT
      rw [if_neg (by rw [HL.out]; omega), Int.toNat_natCast, HL.out]
    have HRES := Lib.hid hres
    clear hbad hres
    go_wp2_with fail
    obtain ⟨o, ho⟩ : ∃ o, o = w.heap.size := ⟨_, rfl⟩
    have how : w.heap.size ≤ o := by omega
    rw [← ho] at HK1 ⊢
    clear ho
    generalize w.alloc (.cells #[.int .u8 0, .int .i64 0, .int .i64 0] TT) = w1 at HB1 HK1 ⊢
    refine (mStart_any a n c l w1 hn).mono ?_
    rintro e w2 ⟨g, rfl, hC2, hB2⟩
    have HC2 := Lib.hid hC2
    have HB2 := Lib.hid hB2
    clear hC2 hB2
    go_wp2_with fail
    refine (mLongest_any w1 a n c l g 0 k n w2 HL.out hn hnc (HR.out.below HB1.out) HC2.out HB2.out (by omega) (by omega) hn).mono ?_
    rintro e w3 ⟨rfl, -, hB3, -⟩
    have hB4 := below_trans0 HB1.out HB1.out.size hB3
    have hK3 := HK1.out.below hB3
    clear HC2 HB2
    generalize longN l k n = q at HRES ⊢
    obtain ⟨ql, qd⟩ := q
    simp only [tokV] at HRES ⊢
    have hK5 := Blk.new w3 TT #[.int .u8 0, .int .i64 (ql : Int), .int .i64 (qd : Int)]
    have hK6 := hK3.alloc (.cells #[.int .u8 0, .int .i64 (ql : Int), .int .i64 (qd : Int)] TT)
    have hB6 := hB4.alloc hB4.size (.cells #[.int .u8 0, .int .i64 (ql : Int), .int .i64 (qd : Int)] TT)
    have hr6 := HR.out.below hB4
    have HK5 := Lib.hid hK5
    have HK6 := Lib.hid hK6
    have HB6 := Lib.hid hB6
    have HR6 := Lib.hid hr6
    clear hB3 hB4 hK3 hK5 hK6 hB6 hr6 HK1 HB1
    by_cases h0 : 0 < ql
    · have HRES2 : Hid (findT l (k : Int) = (0, (ql : Int), (qd : Int))) := Lib.hid (by rw [HRES.out, if_pos h0])
      clear HRES
      go_wp2_with (first | (refine wpList_load_row rfl _ _ rfl _ rfl _ _ _ _ HK5.out Try.underlying48 rfl size_tok ?_) | (refine wpList_storeBlk rfl _ _ rfl rfl rfl HK6.out rfl size_tok (tok3_one _ _) ?_; intro d0 dg))
      refine bodyPost_ret (results_cell_row (p := 4) rfl _ _ o _ _ _ _ rfl d0 Try.underlying48 rfl size_tok) rfl ⟨by rw [HRES2.out]; rfl, HB6.out.grown dg HB6.out.size (fun j hj => by simp at hj; omega)⟩
    · have HRES2 : Hid (findT l (k : Int) = (((l.getD k 0).toNat : Int), 0, 0)) := Lib.hid (by rw [HRES.out, if_neg h0])
      obtain ⟨b, off, rfl, hbl, hc⟩ := HR6.out.at (k := k) (by rw [HL.out]; exact hkn)
      have hx : l.getD k 0 = l[k]'(by rw [HL.out]; exact hkn) := by simp [HL.out, hkn]
      rw [hx] at HRES2
      generalize l[k]'(by rw [HL.out]; exact hkn) = x at hc HRES2
      unfold bE at hc
      clear HRES hx
      go_wp2_with (first | (refine wpList_storeBlk rfl _ _ rfl rfl rfl HK6.out rfl size_tok (tokA_one ((x.toNat : Int), 0, 0)) ?_; intro d0 dg))
      refine bodyPost_ret (results_cell_row (p := 4) rfl _ _ o _ _ _ _ rfl d0 Try.underlying48 rfl size_tok) rfl ⟨by rw [HRES2.out]; rfl, HB6.out.grown dg HB6.out.size (fun j hj => by simp at hj; omega)⟩
end Go.Proofs.Ytnfdbljeinlblaa
