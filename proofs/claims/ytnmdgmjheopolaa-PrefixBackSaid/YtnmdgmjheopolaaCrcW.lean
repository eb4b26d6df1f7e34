/- The walks of package crc's inner functions: Table, Add, Sum. -/
import Derived.Test.YtnmdgmjheopolaaRows
import Derived.Test.YtnmdgmjheopolaaMem
namespace Go.Proofs.Ytnmdgmjheopolaa
open Go.RowKit
set_option linter.unusedVariables false
set_option linter.unusedSimpArgs false

def nextI (a : Int) : Int := if (bits .and .u32 a 1 == 1) = true then bits .xor .u32 (a / 2) 3988292384 else a / 2
theorem nextI_t {a : Int} (h : (bits .and .u32 a 1 == 1) = true) : bits .xor .u32 (a / 2) 3988292384 = nextI a := by unfold nextI; rw [if_pos h]
theorem nextI_f {a : Int} (h : (bits .and .u32 a 1 == 1) = false) : a / 2 = nextI a := by unfold nextI; rw [h]; simp
theorem nextI_range {a : Int} (h : 0 ≤ a ∧ a < 4294967296) : 0 ≤ nextI a ∧ nextI a < 4294967296 := by
  unfold nextI; split
  · exact bits_range_u32 _ _ _
  · omega

/-- n steps. -/
def nextN : Nat → Int → Int
  | 0, v => v
  | n+1, v => nextN n (nextI v)
def tabI (i : Int) : Int := nextN 8 i
def tabCs (k : Nat) : Array Value := ((List.range 256).map fun i => if i < k then Value.int .u32 (tabI i) else .int .u32 0).toArray
theorem tabCs_size (k : Nat) : (tabCs k).size = 256 := by simp [tabCs]
theorem tabCs_zero : Array.replicate 256 (Value.int .u32 0) = tabCs 0 := by
  apply Array.ext'
  simp only [tabCs, Nat.not_lt_zero, if_false, Array.toList_replicate]
  rw [List.map_const']; simp
theorem tabCs_set (k : Nat) (h : k < 256) : (tabCs k).setIfInBounds k (.int .u32 (tabI k)) = tabCs (k + 1) := by
  apply Array.ext'
  apply List.ext_getElem?
  intro i
  simp only [tabCs, Array.toList_setIfInBounds, List.getElem?_set, List.length_map, List.length_range, List.getElem?_map, List.getElem?_range]
  by_cases hi : k = i
  · subst hi; simp [h, List.getElem?_range]
  · by_cases h2 : i < 256
    · simp [hi, h2, List.getElem?_range]
      by_cases h3 : i < k
      · rw [if_pos h3, if_pos (by omega)]
      · rw [if_neg h3, if_neg (by omega)]
    · simp [hi, h2, List.getElem?_range]
theorem tabCs_get (k i : Nat) (h : i < 256) : (tabCs k)[i]? = some (if i < k then .int .u32 (tabI i) else .int .u32 0) := by
  simp [tabCs, List.getElem?_range, h]
theorem tabCs_at (i : Nat) (h : i < 256) : (tabCs 256)[i]? = some (.int .u32 (tabI i)) := by
  rw [tabCs_get 256 i h, if_pos h]
theorem tabCs_one (k : Nat) : ∀ u ∈ (tabCs k).toList, u.oneCell' = true := by
  intro u hu
  simp only [tabCs, List.mem_map] at hu
  obtain ⟨i, _, rfl⟩ := hu
  split <;> rfl

theorem zero_tab : (Try.prog.info? 127).bind (·.zero) = some (.agg (Array.replicate 256 (.int .u32 0))) := by kernel_rfl
theorem size_tab : (Try.prog.info? 127).map (·.size) = some 256 := by kernel_rfl
theorem nextN_succ (n : Nat) (v : Int) : nextN (n + 1) v = nextN n (nextI v) := rfl

set_option maxRecDepth 100000 in
set_option maxHeartbeats 1000000 in
theorem table_any (w : World) :
  Calls Try.prog 106 #[] w fun e w' => e = .returned (.agg (tabCs 256)) ∧ Below w.heap.size w w' := by
  go_enter Try.func106, Try.ntmps106
  go_wp2_with (first | (refine wpList_alloc rfl rfl zero_tab ?_; simp only [Value.cells, tabCs_zero]))
  have b0 : Blk ((w.alloc (.cells (tabCs 0) 127)).alloc (.cells (tabCs 0) 127)) w.heap.size 127 (tabCs 0) := (Blk.new w _ _).alloc _
  have b1 : Blk ((w.alloc (.cells (tabCs 0) 127)).alloc (.cells (tabCs 0) 127)) (w.heap.size + 1) 127 (tabCs 0) := by
    have := Blk.new (w.alloc (.cells (tabCs 0) 127)) 127 (tabCs 0); simpa using this
  have hB : Below w.heap.size w ((w.alloc (.cells (tabCs 0) 127)).alloc (.cells (tabCs 0) 127)) := ((Below.refl _ _).alloc (Nat.le_refl _) _).alloc (by simp) _
  generalize ((w.alloc (.cells (tabCs 0) 127)).alloc (.cells (tabCs 0) 127)) = W at b0 b1 hB ⊢
  go_loopw [4] (fun i wr => ∃ k : Nat, k ≤ 256 ∧ i = .int .i64 k ∧ Blk wr w.heap.size 127 (tabCs 0) ∧ Blk wr (w.heap.size + 1) 127 (tabCs k) ∧ Below w.heap.size w wr) (fun i _ => 256 - (intOf i).toNat)
  case atStart => exact ⟨0, by omega, rfl, b0, b1, hB⟩
  case round =>
    obtain ⟨k, hk, rfl, c0, c1, hBr⟩ := hrel
    clear b0 b1 hB
    by_cases hlt : k < 256
    · go_wp2
      go_loop [3, 9] (fun v j => ∃ (m : Nat) (x : Int), m ≤ 8 ∧ j = .int .i64 m ∧ v = .int .u32 x ∧ 0 ≤ x ∧ x < 4294967296 ∧ nextN (8 - m) x = tabI k) (fun _ j => 8 - (intOf j).toNat)
      case atStart => exact ⟨0, k, by omega, rfl, rfl, by omega, by omega, rfl⟩
      case round =>
        obtain ⟨m, x, hm, rfl, rfl, hx0, hx1, hrest⟩ := hrel
        have HR := Lib.hid hrest
        clear hrest
        have hn := nextI_range ⟨hx0, hx1⟩
        by_cases hm8 : m < 8
        · go_wp2
          · go_round
            case rel => exact ⟨m + 1, nextI x, by omega, by go_num, by rw [nextI_t (by assumption)], hn.1, hn.2, by rw [← HR.out, show 8 - m = (8 - (m + 1)) + 1 from by omega]; rfl⟩
            case measure => simp [intOf]; omega
          · go_round
            case rel => exact ⟨m + 1, nextI x, by omega, by go_num, by rw [nextI_f (by assumption)], hn.1, hn.2, by rw [← HR.out, show 8 - m = (8 - (m + 1)) + 1 from by omega]; rfl⟩
            case measure => simp [intOf]; omega
        · have hm' : m = 8 := by omega
          subst hm'
          have hx : x = tabI k := HR.out
          have HX := Lib.hid hx
          clear hx
          have hc := c1.cell (i := k) (v := .int .u32 0) (by rw [tabCs_get _ _ hlt, if_neg (by omega)])
          have hf := c1.frozen k
          go_wp2
          go_roundw
          case rel => exact ⟨k + 1, by omega, by go_num, c0.setCell_ne (by simp) _, by rw [HX.out, ← tabCs_set k hlt]; exact c1.setCell _ _, hBr.setCell (by simp) _⟩
          case measure => simp [intOf]; omega
    · have hk' : k = 256 := by omega
      subst hk'
      go_wp2_with (first | (refine wpList_load_row rfl _ _ rfl _ rfl _ _ _ _ c1 Try.underlying127 rfl (by rw [tabCs_size]; exact size_tab) ?_) | (refine wpList_storeBlk rfl _ _ rfl rfl rfl c0 (by rw [tabCs_size, tabCs_size]) (by rw [tabCs_size]; exact size_tab) (tabCs_one _) ?_; intro d0 dg))
      have hB2 : Below w.heap.size w (wr.setRow w.heap.size (tabCs 256)) := hBr.grown (grownBy_setRow _ _ _) hBr.size (by simp)
      refine bodyPost_ret (results_cell_row rfl _ _ w.heap.size _ (tabCs 256) _ _ rfl d0 Try.underlying127 rfl (by rw [tabCs_size]; exact size_tab)) rfl ⟨rfl, hB2⟩

def crcStep (v : Int) (c : UInt8) : Int := bits .xor .u32 (v / 256) (tabI (bits .xor .u8 (v % 256) (c.toNat : Int)))
def notI (v : Int) : Int := bits .xor .u32 4294967295 v
def crcRun (v : Int) (l : List UInt8) : Int := l.foldl crcStep v
def crcAddI (sum : Int) (l : List UInt8) : Int := notI (crcRun (notI sum) l)
def crcSumI (l : List UInt8) : Int := crcAddI 0 l
theorem notI_range (v : Int) : 0 ≤ notI v ∧ notI v < 4294967296 := bits_range_u32 _ _ _
theorem crcStep_range (v : Int) (c : UInt8) : 0 ≤ crcStep v c ∧ crcStep v c < 4294967296 := bits_range_u32 _ _ _
theorem crcRun_range (v : Int) (l : List UInt8) (h : 0 ≤ v ∧ v < 4294967296) : 0 ≤ crcRun v l ∧ crcRun v l < 4294967296 := by
  induction l generalizing v with
  | nil => exact h
  | cons c l ih => exact ih _ (crcStep_range v c)
theorem crcRun_take (v : Int) (l : List UInt8) (k : Nat) (h : k < l.length) : crcRun v (l.take (k + 1)) = crcStep (crcRun v (l.take k)) l[k] := by
  rw [List.take_succ_eq_append_getElem h]; simp only [crcRun, List.foldl_append, List.foldl_cons, List.foldl_nil]
theorem crcAddI_range (v : Int) (l : List UInt8) : 0 ≤ crcAddI v l ∧ crcAddI v l < 4294967296 := notI_range _
theorem crcSumI_range (l : List UInt8) : 0 ≤ crcSumI l ∧ crcSumI l < 4294967296 := notI_range _

abbrev byteV (b : UInt8) : Value := .int .u8 (b.toNat : Int)

set_option maxRecDepth 100000 in
set_option maxHeartbeats 1000000 in
theorem crcAdd_any (g : Nat) (T : TypeId) (sum : Int) (a : Option Addr) (n c : Nat) (l : List UInt8) (w : World) (hl : l.length = n) (hn : n ≤ maxLen) (hr : Rd w byteV a l) (hb : Blk w g T (tabCs 256)) (hs : 0 ≤ sum ∧ sum < 4294967296) :
  Calls Try.prog 107 #[.pointer (some ⟨g, 0, none⟩), .int .u32 sum, .slice a n c] w fun e w' => e = .returned (.int .u32 (crcAddI sum l)) ∧ w = w' := by
  unfold maxLen at hn
  go_enter Try.func107, Try.ntmps107
  have HL := Lib.hid hl
  clear hl
  go_wp2
  go_loop [8, 18] (fun v i => ∃ k : Nat, k ≤ n ∧ i = .int .i64 k ∧ v = .int .u32 (crcRun (notI sum) (l.take k))) (fun _ i => n - (intOf i).toNat)
  case atStart => exact ⟨0, by omega, rfl, by simp [crcRun, notI]⟩
  case round =>
    obtain ⟨k, hk, rfl, rfl⟩ := hrel
    have hrg := crcRun_range (notI sum) (l.take k) (notI_range sum)
    by_cases hlt : k < n
    · obtain ⟨b, off, rfl, -, hc⟩ := hr.at (k := k) (by rw [HL.out]; exact hlt)
      have hcl : k < l.length := by rw [HL.out]; exact hlt
      have hst := crcRun_take (notI sum) l k hcl
      have HST := Lib.hid hst
      clear hst
      generalize crcRun (notI sum) (l.take k) = v at hrg HST ⊢
      generalize l[k] = x at hc HST
      have hx : (x.toNat : Int) < 256 := by have := x.toNat_lt; omega
      have hix := bits_range_u8 .xor (v % 256) (x.toNat : Int)
      have hcell := hb.cell (i := (bits .xor .u8 (v % 256) (x.toNat : Int)).toNat) (tabCs_at _ (by omega))
      rw [Int.toNat_of_nonneg hix.1] at hcell
      clear hb hr
      go_wp2
      go_round
      case rel => exact ⟨k + 1, by omega, by go_num, by rw [HST.out]; rfl⟩
      case measure => simp [intOf]; omega
    · have hk' : k = n := by omega
      subst hk'
      go_wp2
      go_ret
      exact ⟨ret_int (by unfold crcAddI; rw [List.take_of_length_le (by rw [HL.out]; exact Nat.le_refl _)]; rfl), rfl⟩

set_option maxRecDepth 100000 in
set_option maxHeartbeats 1000000 in
theorem crcSum_any (a : Option Addr) (n c : Nat) (l : List UInt8) (w : World) (hl : l.length = n) (hn : n ≤ maxLen) (hr : Rd w byteV a l) :
  Calls Try.prog 98 #[.slice a n c] w fun e w' => e = .returned (.int .u32 (crcSumI l)) ∧ Below w.heap.size w w' := by
  go_enter Try.func98, Try.ntmps98
  have HL := Lib.hid hl
  clear hl
  go_wp2_with fail
  refine (table_any _).mono ?_
  rintro e w1 ⟨rfl, hb1⟩
  have hr1 := hr.below hb1
  have HR := Lib.hid hr1
  clear hr hr1
  go_wp2_with (first | (refine wpList_alloc rfl rfl zero_tab ?_; simp only [Value.cells, tabCs_zero]) | (refine wpList_storeBlk rfl _ _ rfl rfl rfl (Blk.new w1 _ _) (by rw [tabCs_size, tabCs_size]) (by rw [tabCs_size]; exact size_tab) (tabCs_one _) ?_; intro d0 dg))
  have hb2 : Below w1.heap.size w1 ((w1.alloc (.cells (tabCs 0) 127)).setRow w1.heap.size (tabCs 256)) := (below_alloc w1 _).grown dg (by simp) (by simp)
  generalize ((w1.alloc (.cells (tabCs 0) 127)).setRow w1.heap.size (tabCs 256)) = w2 at d0 hb2 ⊢
  clear dg
  go_wp2_with fail
  refine (crcAdd_any _ _ _ _ _ _ l _ HL.out hn (HR.out.below hb2) d0 ⟨by omega, by omega⟩).mono ?_
  rintro e w' ⟨rfl, rfl⟩
  go_wp2
  go_ret
  exact ⟨rfl, below_trans0 hb1 hb1.size hb2⟩
end Go.Proofs.Ytnmdgmjheopolaa
