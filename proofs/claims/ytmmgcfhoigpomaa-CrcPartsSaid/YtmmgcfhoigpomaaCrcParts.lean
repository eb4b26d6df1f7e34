/- The walk of CrcParts. -/
import Derived.Test.YtmmgcfhoigpomaaCrcAdds
namespace Go.Proofs.Ytmmgcfhoigpomaa
open Go.RowKit
set_option linter.unusedVariables false
set_option linter.unusedSimpArgs false

set_option maxRecDepth 100000 in
set_option maxHeartbeats 2000000 in
theorem crcAddN_any (sum : Int) (a : Option Addr) (n c : Nat) (l : List UInt8) (w : World) (hl : l.length = n) (hn : n ≤ maxLen) (hr : Rd w byteV a l) (hs : 0 ≤ sum ∧ sum < 4294967296) :
  Calls Try.prog 37 #[.pointer none, .int .u32 sum, .slice a n c] w fun e w' => e = .returned (.int .u32 (crcAddI sum l)) ∧ Below w.heap.size w w' := by
  unfold maxLen at hn
  go_enter Try.func37, Try.ntmps37
  have HL := Lib.hid hl
  clear hl
  go_wp2_with fail
  refine (table_any _).mono ?_
  rintro e w1 ⟨rfl, hb1⟩
  have hs1 := hb1.size
  go_wp2_with (first | (refine wpList_alloc rfl rfl zero_tab ?_; simp only [Value.cells, tabCs_zero]) | (refine wpList_storeBlk rfl _ _ rfl rfl rfl (Blk.new w1 _ _) (by rw [tabCs_size, tabCs_size]) (by rw [tabCs_size]; exact size_tab) (tabCs_one _) ?_; intro d0 dg))
  have hb2 : Below w1.heap.size w1 ((w1.alloc (.cells (tabCs 0) 60)).setRow w1.heap.size (tabCs 256)) := (below_alloc w1 _).grown dg (by simp) (by simp)
  generalize ((w1.alloc (.cells (tabCs 0) 60)).setRow w1.heap.size (tabCs 256)) = w2 at d0 hb2 ⊢
  clear dg
  have hB := below_trans0 hb1 hs1 hb2
  have hr2 := hr.below hB
  have HB := Lib.hid hB
  clear hb1 hb2 hB hr
  generalize w1.heap.size = g at d0 ⊢
  go_loop [8, 18] (fun v i => ∃ k : Nat, k ≤ n ∧ i = .int .i64 k ∧ v = .int .u32 (crcRun (notI sum) (l.take k))) (fun _ i => n - (intOf i).toNat)
  case atStart => exact ⟨0, by omega, rfl, by simp [crcRun, notI]⟩
  case round =>
    obtain ⟨k, hk, rfl, rfl⟩ := hrel
    have hrg := crcRun_range (notI sum) (l.take k) (notI_range sum)
    by_cases hlt : k < n
    · obtain ⟨b, off, rfl, -, hc⟩ := hr2.at (k := k) (by rw [HL.out]; exact hlt)
      have hcl : k < l.length := by rw [HL.out]; exact hlt
      have hst := crcRun_take (notI sum) l k hcl
      have HST := Lib.hid hst
      clear hst
      generalize crcRun (notI sum) (l.take k) = v at hrg HST ⊢
      generalize l[k] = x at hc HST
      have hx : (x.toNat : Int) < 256 := by have := x.toNat_lt; omega
      have hix := bits_range_u8 .xor (v % 256) (x.toNat : Int)
      have hcell := d0.cell (i := (bits .xor .u8 (v % 256) (x.toNat : Int)).toNat) (tabCs_at _ (by omega))
      rw [Int.toNat_of_nonneg hix.1] at hcell
      clear d0 hr2
      go_wp2
      go_round
      case rel => exact ⟨k + 1, by omega, by go_num, by rw [HST.out]; rfl⟩
      case measure => simp [intOf]; omega
    · have hk' : k = n := by omega
      subst hk'
      go_wp2
      go_ret
      exact ⟨ret_int (by unfold crcAddI; rw [List.take_of_length_le (by rw [HL.out]; exact Nat.le_refl _)]; rfl), HB.out⟩

abbrev u16V (x : Int) : Value := .int .u16 x
theorem Rd.at0 {α : Type} {w : World} {E : α → Value} {a : Option Addr} {l : List α} (h : Rd w E a l) {k : Nat} (hk : k < l.length) : ∃ b off x, a = some ⟨b, off, none⟩ ∧ l[k]? = some x ∧ w.cell? ⟨b, off + k, none⟩ = some (E x) := by
  obtain ⟨b, off, h1, _, h3⟩ := h.at hk
  exact ⟨b, off, l[k], h1, by simp [hk], h3⟩

set_option maxHeartbeats 8000000 in
set_option maxRecDepth 100000 in
theorem walkCrcParts (a0 : Option Addr) (n0 c0 : Nat) (l0 : List UInt8) (a1 : Option Addr) (n1 c1 : Nat) (l1 : List Int) (w : World)
    (hl0 : l0.length = n0) (hm0 : n0 ≤ c0 ∧ c0 ≤ maxLen) (hr0 : Rd w byteV a0 l0) (hl1 : l1.length = n1) (hm1 : n1 ≤ c1 ∧ c1 ≤ maxLen) (hr1 : Rd w u16V a1 l1) (hx1 : ∀ x ∈ l1, 0 ≤ x ∧ x < 65536) :
    Calls Try.prog 8 #[.slice a0 n0 c0, .slice a1 n1 c1] w fun e w' => e = .returned (.bool true) ∧ Below w.heap.size w w' := by
  unfold maxLen at hm0 hm1
  go_enter Try.func8, Try.ntmps8
  go_wp2_with fail
  refine (fixed03_any _).mono ?_
  rintro e w1 ⟨rfl, hb1⟩
  have hs1 := hb1.size
  by_cases h5000 : n0 > 5000
  · clear hr0 hr1
    go_wp2
    go_ret
    exact ⟨rfl, hb1⟩
  · by_cases h50 : n1 > 50
    · clear hr0 hr1
      go_wp2
      go_ret
      exact ⟨rfl, hb1⟩
    · go_wp2_with fail
      refine (table_any _).mono ?_
      rintro e w2 ⟨rfl, hb⟩
      have hb2 := below_trans0 hb1 hs1 hb
      have hs2 := hb2.size
      clear hb hb1
      go_wp2_with (first | (refine wpList_alloc rfl rfl zero_tab ?_; simp only [Value.cells, tabCs_zero]) | (refine wpList_storeBlk rfl _ _ rfl rfl rfl (Blk.new w2 _ _) (by rw [tabCs_size, tabCs_size]) (by rw [tabCs_size]; exact size_tab) (tabCs_one _) ?_; intro d0 dg))
      have hb3 : Below w2.heap.size w2 ((w2.alloc (.cells (tabCs 0) 60)).setRow w2.heap.size (tabCs 256)) := (below_alloc w2 _).grown dg (by simp) (by simp)
      generalize ((w2.alloc (.cells (tabCs 0) 60)).setRow w2.heap.size (tabCs 256)) = w3 at d0 hb3 ⊢
      clear dg
      have hB := below_trans0 hb2 hs2 hb3
      clear hb2 hb3 hs1 hs2
      generalize w2.heap.size = g at d0 ⊢
      have HR0 := Lib.hid hr0
      have HR1 := Lib.hid hr1
      have HL0 := Lib.hid hl0
      have HL1 := Lib.hid hl1
      have HX1 := Lib.hid hx1
      clear hr0 hr1 hl0 hl1 hx1
      go_loopw [6, 7, 8, 25] (fun v u p i wr => ∃ (k q : Nat), k ≤ n1 ∧ q ≤ n0 ∧ i = .int .i64 k ∧ p = .int .i64 q ∧ v = .int .u32 (crcAddI 0 (l0.take q)) ∧ u = .int .u32 (crcAddI 0 (l0.take q)) ∧ Blk wr g 60 (tabCs 256) ∧ Below w.heap.size w wr) (fun _ _ _ i _ => n1 - (intOf i).toNat)
      case atStart => exact ⟨0, 0, by omega, by omega, rfl, rfl, by simp [crcAddI, crcRun]; decide +kernel, by simp [crcAddI, crcRun]; decide +kernel, d0, hB⟩
      case round =>
        obtain ⟨k, q, hk, hq, rfl, rfl, rfl, rfl, d1, hB1⟩ := hrel
        clear d0 hB
        have hrg := crcAddI_range 0 (l0.take q)
        by_cases hlt : k < n1
        · obtain ⟨b, off, x, ea, hxk, hcell⟩ := (HR1.out.below hB1).at0 (k := k) (by rw [HL1.out]; exact hlt)
          have hxr := HX1.out x (List.mem_of_getElem? hxk)
          obtain ⟨y, rfl⟩ := Int.eq_ofNat_of_zero_le hxr.1
          subst ea
          by_cases hy : (y : Int) ≤ (n0 : Int) - (q : Int)
          · obtain ⟨r, hr⟩ : ∃ r : Nat, r = y := ⟨y, rfl⟩
            have hE : crcAddI (crcAddI 0 (l0.take q)) ((l0.drop q).take r) = crcAddI 0 (l0.take (q + r)) := by rw [crcAddI_append, List.take_add]
            have hrd : Rd w byteV (slP a0 c0 q) ((l0.drop q).take r) := (HR0.out.slP q c0 (by rw [HL0.out]; omega)).take r
            have hdl : ((l0.drop q).take r).length = r := by rw [List.length_take, List.length_drop, HL0.out]; omega
            have hsl := fun w => run_slice_lh1 slByte a0 n0 c0 q (q + r) (by omega) (by omega) ((q : Int) + (y : Int)) (by omega) w
            rw [Nat.add_sub_cancel_left] at hsl
            have HRD := Lib.hid hrd
            have HE := Lib.hid hE
            have HDL := Lib.hid hdl
            have hrn : r ≤ n0 := by omega
            have HRR := Lib.hid hr
            clear hrd hE hdl hr
            generalize crcAddI 0 (l0.take q) = s at hrg HE ⊢
            generalize slP a0 c0 q = P at hsl HRD
            go_wp2_with fail
            refine (crcAdd_any g 60 s P r (c0 - q) ((l0.drop q).take r) wr HDL.out (by unfold maxLen; omega) (HRD.out.below hB1) d1 hrg).mono ?_
            rw [HE.out]
            rintro e w' ⟨rfl, rfl⟩
            go_wp2_with fail
            refine (crcAddN_any s P r (c0 - q) ((l0.drop q).take r) wr HDL.out (by unfold maxLen; omega) (HRD.out.below hB1) hrg).mono ?_
            rw [HE.out]
            rintro e w5 ⟨rfl, hb5⟩
            have d5 := d1.below hb5
            have hB5 := below_trans0 hB1 hB1.size hb5
            clear d1 hB1 hb5 hsl
            go_wp2
            go_roundw
            case rel => exact ⟨k + 1, q + r, by omega, by have := HRR.out; omega, by go_num, by have := HRR.out; congr 1; omega, rfl, rfl, d5, hB5⟩
            case measure => simp [intOf]; omega
          · obtain ⟨r, hr⟩ : ∃ r : Nat, r = n0 - q := ⟨n0 - q, rfl⟩
            have hE : crcAddI (crcAddI 0 (l0.take q)) ((l0.drop q).take r) = crcAddI 0 (l0.take (q + r)) := by rw [crcAddI_append, List.take_add]
            have hrd : Rd w byteV (slP a0 c0 q) ((l0.drop q).take r) := (HR0.out.slP q c0 (by rw [HL0.out]; omega)).take r
            have hdl : ((l0.drop q).take r).length = r := by rw [List.length_take, List.length_drop, HL0.out]; omega
            have hsl := fun w => run_slice_lh1 slByte a0 n0 c0 q (q + r) (by omega) (by omega) ((q : Int) + ((n0 : Int) - (q : Int))) (by omega) w
            rw [Nat.add_sub_cancel_left] at hsl
            have HRD := Lib.hid hrd
            have HE := Lib.hid hE
            have HDL := Lib.hid hdl
            have hrn : r ≤ n0 := by omega
            have HRR := Lib.hid hr
            clear hrd hE hdl hr
            generalize crcAddI 0 (l0.take q) = s at hrg HE ⊢
            generalize slP a0 c0 q = P at hsl HRD
            go_wp2_with fail
            refine (crcAdd_any g 60 s P r (c0 - q) ((l0.drop q).take r) wr HDL.out (by unfold maxLen; omega) (HRD.out.below hB1) d1 hrg).mono ?_
            rw [HE.out]
            rintro e w' ⟨rfl, rfl⟩
            go_wp2_with fail
            refine (crcAddN_any s P r (c0 - q) ((l0.drop q).take r) wr HDL.out (by unfold maxLen; omega) (HRD.out.below hB1) hrg).mono ?_
            rw [HE.out]
            rintro e w5 ⟨rfl, hb5⟩
            have d5 := d1.below hb5
            have hB5 := below_trans0 hB1 hB1.size hb5
            clear d1 hB1 hb5 hsl
            go_wp2
            go_roundw
            case rel => exact ⟨k + 1, q + r, by omega, by have := HRR.out; omega, by go_num, by have := HRR.out; congr 1; omega, rfl, rfl, d5, hB5⟩
            case measure => simp [intOf]; omega
        · have hk' : n1 = k := by omega
          subst hk'
          have hE : crcAddI (crcAddI 0 (l0.take q)) (l0.drop q) = crcSumI l0 := by rw [crcAddI_append, List.take_append_drop]; rfl
          have hrd : Rd w byteV (slP a0 c0 q) (l0.drop q) := HR0.out.slP q c0 (by rw [HL0.out]; omega)
          have hdl : (l0.drop q).length = n0 - q := by rw [List.length_drop, HL0.out]
          have hsl := fun w => run_slice_l1 slByte a0 n0 c0 q hq w
          have HRD := Lib.hid hrd
          have HE := Lib.hid hE
          have HDL := Lib.hid hdl
          clear hrd hE hdl
          generalize crcAddI 0 (l0.take q) = s at hrg HE ⊢
          generalize slP a0 c0 q = P at hsl HRD
          go_wp2_with fail
          refine (crcAdd_any g 60 s P (n0 - q) (c0 - q) (l0.drop q) wr HDL.out (by unfold maxLen; omega) (HRD.out.below hB1) d1 hrg).mono ?_
          rw [HE.out]
          rintro e w' ⟨rfl, rfl⟩
          go_wp2_with fail
          refine (crcSum_any a0 n0 c0 l0 wr HL0.out (by unfold maxLen; omega) (HR0.out.below hB1)).mono ?_
          rintro e w5 ⟨rfl, hb5⟩
          have hB5 := below_trans0 hB1 hB1.size hb5
          clear hB1 hb5
          go_wp2_with fail
          refine (crcAddN_any s P (n0 - q) (c0 - q) (l0.drop q) w5 HDL.out (by unfold maxLen; omega) (HRD.out.below hB5) hrg).mono ?_
          rw [HE.out]
          rintro e w6 ⟨rfl, hb6⟩
          have hB6 := below_trans0 hB5 hB5.size hb6
          clear hB5 hb6
          go_wp2_with fail
          refine (crcSum_any a0 n0 c0 l0 w6 HL0.out (by unfold maxLen; omega) (HR0.out.below hB6)).mono ?_
          rintro e w7 ⟨rfl, hb7⟩
          have hB7 := below_trans0 hB6 hB6.size hb7
          clear hB6 hb7 hsl
          have HB := Lib.hid hB7
          clear hB7
          go_wp2
          go_ret
          exact ⟨rfl, HB.out⟩
end Go.Proofs.Ytmmgcfhoigpomaa

