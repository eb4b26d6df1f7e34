/- The walk of BitioBack. -/
import Derived.Test.YtmmgcfhoigpomaaFix01
import Derived.Test.YtmmgcfhoigpomaaOpenS
namespace Go.Proofs.Ytmmgcfhoigpomaa
open Go.RowKit
set_option linter.unusedVariables false
set_option linter.unusedSimpArgs false

/-- The bits of bytes of bits: the bits, and noughts behind. -/
theorem ofL_bytesL (all : List Bool) (i : Nat) : (ofL (bytesL all)).getD i false = all.getD i false := by
  rw [ofL_bits]
  by_cases hi : i / 8 < (all.length + 7) / 8
  · have hb : (bytesL all).getD (i / 8) 0 = UInt8.ofNat (numL ((all.drop (8 * (i / 8))).take 8) % 256) := by
      simp [bytesL, bytesK, List.getD, hi]
    rw [hb, byte_toNat, show (256 : Nat) = 2 ^ 8 from rfl, Nat.testBit_mod_two_pow, decide_eq_true (show i % 8 < 8 by omega), Bool.true_and, numL_bit _ _ (by omega)]
    simp only [List.getD, List.getElem?_take, List.getElem?_drop]
    rw [if_pos (by omega), show 8 * (i / 8) + i % 8 = i by omega]
  · have h1 : (bytesL all).getD (i / 8) 0 = 0 := by simp [bytesL, bytesK, List.getD, hi]
    rw [h1]
    simp [List.getD, List.getElem?_eq_none (show all.length ≤ i by omega)]
theorem bytesL_length (all : List Bool) : (bytesL all).length = (all.length + 7) / 8 := by simp [bytesL, bytesK]
theorem ofL_cut (all : List Bool) (p n : Nat) (h : p + n ≤ all.length) : ((ofL (bytesL all)).drop p).take n = (all.drop p).take n := by
  apply bits_ext
  · rw [List.length_take, List.length_take, List.length_drop, List.length_drop, ofL_length, bytesL_length]; omega
  · intro i
    have := ofL_bytesL all (p + i)
    simp only [List.getD, List.getElem?_take, List.getElem?_drop] at this ⊢
    split
    · exact this
    · rfl

/-! The puts of a list. -/
def pV (F : Nat → Nat → Value) (i : Nat) : Nat := match F i 0 with | .int _ x => x.toNat | _ => 0
def pN (F : Nat → Nat → Value) (i : Nat) : Int := match F i 1 with | .int _ x => x | _ => 0
def putBits (v : Nat) (n : Int) : List Bool := if n < 0 ∨ n > 32 then [] else bitsL v n.toNat
def allBits (F : Nat → Nat → Value) : Nat → List Bool
  | 0 => []
  | k+1 => allBits F k ++ putBits (pV F k) (pN F k)
theorem putBits_len (v : Nat) (n : Int) : (putBits v n).length ≤ 32 := by
  unfold putBits; split
  · simp
  · rw [bitsL_length]; omega
theorem allBits_len (F : Nat → Nat → Value) (k : Nat) : (allBits F k).length ≤ 32 * k := by
  induction k with
  | zero => simp [allBits]
  | succ k ih => rw [allBits, List.length_append]; have := putBits_len (pV F k) (pN F k); omega
theorem allBits_pre (F : Nat → Nat → Value) (k n : Nat) (h : k ≤ n) : ∃ r, allBits F n = allBits F k ++ r := by
  induction n with
  | zero => exact ⟨[], by rw [show k = 0 by omega]; rfl⟩
  | succ n ih =>
    by_cases hk : k = n + 1
    · exact ⟨[], by rw [hk, List.append_nil]⟩
    · obtain ⟨r, hr⟩ := ih (by omega)
      exact ⟨r ++ putBits (pV F n) (pN F n), by rw [allBits, hr, List.append_assoc]⟩
theorem put_step (F : Nat → Nat → Value) (k : Nat) : (if pN F k < 0 ∨ pN F k > 32 then allBits F k else allBits F k ++ bitsL (pV F k) (pN F k).toNat) = allBits F (k + 1) := by
  rw [allBits, putBits]; split
  · rw [List.append_nil]
  · rfl
/-- What Get reads of what was put. -/
theorem back_get (F : Nat → Nat → Value) (k n : Nat) (hk : k < n) (h1 : 0 ≤ pN F k) (h2 : pN F k ≤ 32) :
    rdGetEr (bytesL (allBits F n)) (allBits F k).length (pN F k) = 0 ∧ rdGetV (bytesL (allBits F n)) (allBits F k).length (pN F k) = pV F k % 2 ^ (pN F k).toNat ∧ rdGetAt (bytesL (allBits F n)) (allBits F k).length (pN F k) = (allBits F (k + 1)).length := by
  obtain ⟨r, hr⟩ := allBits_pre F (k + 1) n hk
  have hput : putBits (pV F k) (pN F k) = bitsL (pV F k) (pN F k).toNat := by unfold putBits; rw [if_neg (by omega)]
  have hl1 : (allBits F (k + 1)).length = (allBits F k).length + (pN F k).toNat := by rw [allBits, List.length_append, hput, bitsL_length]
  have hl2 : (allBits F n).length = (allBits F (k + 1)).length + r.length := by rw [hr, List.length_append]
  have he : rdGetEr (bytesL (allBits F n)) (allBits F k).length (pN F k) = 0 := by
    unfold rdGetEr; rw [if_neg (by omega), if_neg (by rw [bytesL_length]; omega)]
  refine ⟨he, ?_, ?_⟩
  · unfold rdGetV
    rw [if_pos he, ofL_cut _ _ _ (by omega), hr, allBits, hput, List.append_assoc, List.drop_append_of_le_length (Nat.le_refl _), List.drop_length, List.nil_append]
    rw [List.take_append_of_le_length (by rw [bitsL_length]; exact Nat.le_refl _), List.take_of_length_le (by rw [bitsL_length]; exact Nat.le_refl _), numF_bitsL]
  · unfold rdGetAt; rw [if_pos he, hl1]
theorem mask_val (v m : Nat) (hm : m ≤ 32) (hv : v < 4294967296) : bits .and .u64 (v : Int) (IntKind.u64.wrap (IntKind.u64.wrap (2 ^ m) - 1)) = ((v % 2 ^ m : Nat) : Int) := by
  have hp2 : (2 : Nat) ^ m ≤ 4294967296 := Nat.pow_le_pow_right (n := 2) (by omega) hm
  have hp0 : 0 < (2 : Nat) ^ m := Nat.pow_pos (by omega)
  have e4 : IntKind.u64.wrap (2 ^ m) = ((2 ^ m : Nat) : Int) := by
    rw [show (2 : Int) ^ m = ((2 ^ m : Nat) : Int) from by push_cast; rfl, IntKind.wrap_u64]
    generalize (2 : Nat) ^ m = z at hp2
    omega
  have e5 : IntKind.u64.wrap (((2 ^ m : Nat) : Int) - 1) = ((2 ^ m - 1 : Nat) : Int) := by
    rw [IntKind.wrap_u64]
    generalize (2 : Nat) ^ m = z at hp2 hp0
    omega
  rw [e4, e5, u64_and_nat _ _ (by omega) (by omega), Nat.and_two_pow_sub_one_eq_mod]

set_option maxHeartbeats 8000000 in
set_option maxRecDepth 100000 in
theorem walkBitioBack (a0 : Option Addr) (n0 c0 : Nat) (F0 : Nat → Nat → Value) (w : World)
    (hm0 : n0 ≤ maxLen) (hr0 : RdN w a0 n0 3 F0)
    (hf0 : ∀ i, i < n0 → ∃ (x0 x1 : Int) (x2 : Bool), F0 i 0 = .int .u32 x0 ∧ F0 i 1 = .int .i64 x1 ∧ F0 i 2 = .bool x2 ∧ (0 ≤ x0 ∧ x0 < 4294967296) ∧ (-9223372036854775808 ≤ x1 ∧ x1 ≤ 9223372036854775807)) :
    Calls Try.prog 6 #[.slice a0 n0 c0] w fun e w' => e = .returned (.bool true) ∧ Below w.heap.size w w' := by
  unfold maxLen at hm0
  have hF : ∀ i, i < n0 → F0 i 0 = .int .u32 ((pV F0 i : Nat) : Int) ∧ F0 i 1 = .int .i64 (pN F0 i) ∧ (∃ b, F0 i 2 = .bool b) ∧ pV F0 i < 4294967296 ∧ (-9223372036854775808 ≤ pN F0 i ∧ pN F0 i ≤ 9223372036854775807) := by
    intro i hi
    obtain ⟨x0, x1, x2, e0, e1, e2, r0, r1⟩ := hf0 i hi
    have p0 : pV F0 i = x0.toNat := by unfold pV; rw [e0]
    have p1 : pN F0 i = x1 := by unfold pN; rw [e1]
    rw [p0, p1]
    exact ⟨by rw [e0, Int.toNat_of_nonneg r0.1], e1, ⟨x2, e2⟩, by omega, r1⟩
  clear hf0
  go_enter Try.func6, Try.ntmps6
  go_wp2_with fail
  refine (fixed01_any _).mono ?_
  rintro e w1 ⟨rfl, hb1⟩
  have hs1 := hb1.size
  by_cases h200 : n0 > 200
  · clear hr0 hF
    go_wp2
    go_ret
    exact ⟨rfl, hb1⟩
  · have HR0 := Lib.hid (hr0.below hb1)
    have HF0 := Lib.hid hF
    have HB1 := Lib.hid hb1
    clear hr0 hF hb1
    go_wp2_with fail
    refine (wNew_any w1).mono ?_
    rintro e w2 ⟨g, rfl, hw2, hb2⟩
    go_wp2
    go_loopw [25] (fun i wr => ∃ k : Nat, k ≤ n0 ∧ i = .int .i64 k ∧ WBits wr w1.heap.size g (allBits F0 k) ∧ Below w1.heap.size w1 wr) (fun i _ => n0 - (intOf i).toNat)
    case atStart => exact ⟨0, by omega, rfl, hw2, hb2⟩
    case round =>
      obtain ⟨k, hk, rfl, hw, hB⟩ := hrel
      clear hw2 hb2
      have hal := allBits_len F0 k
      by_cases hlt : k < n0
      · obtain ⟨b, off, rfl, hcells⟩ := (HR0.out.below hB).at hlt
        obtain ⟨e0, e1, ⟨al, e2⟩, hv, hn⟩ := HF0.out k hlt
        have hc0 := hcells 0 (by decide)
        have hc1 := hcells 1 (by decide)
        have hc2 := hcells 2 (by decide)
        rw [e0, Nat.add_zero] at hc0
        rw [e1, ← Nat.add_assoc] at hc1
        rw [e2, ← Nat.add_assoc] at hc2
        have hst := put_step F0 k
        have HST := Lib.hid hst
        clear hcells e0 e1 e2 hst
        generalize pV F0 k = v at hv hc0 HST
        generalize pN F0 k = n at hn hc1 HST
        have hw1 := hw.below (below_alloc wr (.cells #[.int .u32 (v : Int), .int .i64 n, .bool al] 50))
        have hB1 := hB.alloc hB.size (.cells #[.int .u32 (v : Int), .int .i64 n, .bool al] 50)
        clear hw hB
        go_wp2_with fail
        refine (wPut_any w1.heap.size g (allBits F0 k) v n _ hw1 hB1.size (by omega) hv hn.1 hn.2).mono ?_
        rw [HST.out]
        rintro e w5 ⟨rfl, hw5, hb5⟩
        have hB5 := hB1.trans hb5
        clear hw1 hB1 hb5 hc0 hc1 hc2
        go_wp2
        go_roundw
        case rel => exact ⟨k + 1, by omega, by go_num, hw5, hB5⟩
        case measure => simp [intOf]; omega
      · have hk' : n0 = k := by omega
        subst hk'
        go_wp2_with fail
        refine (wBytes_any w1.heap.size g _ wr hw (by omega)).mono ?_
        rintro e w3 ⟨a3, n3, c3, rfl, hown3, hb3⟩
        have hB3 := below_trans0 hB hB.size hb3
        have hn3 := hown3.len
        have hbl := bytesL_length (allBits F0 n0)
        have hr3 := hown3.rd
        clear hw hB hb3 hown3
        go_wp2_with fail
        refine (rdNew_any a3 n3 c3 _ w3 hn3 (by omega) hr3).mono ?_
        rintro e w4 ⟨h, rfl, hh, hr4, hb4⟩
        have hB4 := below_trans0 hB3 hB3.size hb4
        have hh1 : w1.heap.size ≤ h := Nat.le_trans hB3.size hh
        have HBL := Lib.hid hbl
        clear hB3 hb4 hr3 hh hn3 hbl
        go_wp2
        go_loopw [41] (fun i wr => ∃ k : Nat, k ≤ n0 ∧ i = .int .i64 k ∧ RdOk wr h (bytesL (allBits F0 n0)) (allBits F0 k).length ∧ Below w1.heap.size w1 wr) (fun i _ => n0 - (intOf i).toNat)
        case atStart => exact ⟨0, by omega, rfl, hr4, hB4⟩
        case round =>
          obtain ⟨k, hk, rfl, hrd, hB⟩ := hrel
          clear hr4 hB4
          by_cases hlt : k < n0
          · obtain ⟨b, off, rfl, hcells⟩ := (HR0.out.below hB).at hlt
            obtain ⟨e0, e1, ⟨al, e2⟩, hv, hn⟩ := HF0.out k hlt
            have hc0 := hcells 0 (by decide)
            have hc1 := hcells 1 (by decide)
            have hc2 := hcells 2 (by decide)
            rw [e0, Nat.add_zero] at hc0
            rw [e1, ← Nat.add_assoc] at hc1
            rw [e2, ← Nat.add_assoc] at hc2
            have hget := back_get F0 k n0 hlt
            have hskip : ¬ (0 ≤ pN F0 k ∧ pN F0 k ≤ 32) → (allBits F0 (k + 1)).length = (allBits F0 k).length := fun h => by
              rw [allBits, List.length_append, putBits, if_pos (by omega)]; rfl
            have HGET := Lib.hid hget
            have HSK := Lib.hid hskip
            clear hcells e0 e1 e2 hget hskip
            generalize pV F0 k = v at hv hc0 HGET
            generalize pN F0 k = n at hn hc1 HGET HSK
            have hrd1 := hrd.below (below_alloc wr (.cells #[.int .u32 (v : Int), .int .i64 n, .bool al] 50))
            have hB1 := hB.alloc hB.size (.cells #[.int .u32 (v : Int), .int .i64 n, .bool al] 50)
            have hbk := Blk.new wr 50 #[.int .u32 (v : Int), .int .i64 n, .bool al]
            have hqh : wr.heap.size ≠ h := by obtain ⟨_, _, _, hbb, _⟩ := hrd.ex; have := hbb.lt; omega
            clear hrd hB
            by_cases hlo : n < 0
            · have hsk := HSK.out (by omega)
              rw [← hsk] at hrd1
              clear hbk
              go_wp2
              go_roundw
              case rel => exact ⟨k + 1, by omega, by go_num, hrd1, hB1⟩
              case measure => simp [intOf]; omega
            · by_cases hhi : n > 32
              · have hsk := HSK.out (by omega)
                rw [← hsk] at hrd1
                clear hbk
                go_wp2
                go_roundw
                case rel => exact ⟨k + 1, by omega, by go_num, hrd1, hB1⟩
                case measure => simp [intOf]; omega
              · obtain ⟨g1, g2, g3⟩ := HGET.out (by omega) (by omega)
                go_wp2_with fail
                refine (rdGet_any h _ _ n _ hrd1 hn.1 hn.2).mono ?_
                unfold RdGetPost
                rw [g1, g2, g3]
                rintro e w5 ⟨rfl, hr5, hg5⟩
                have hB5 := below_grown hB1 hB1.size hg5 hh1
                have hbk5 := hbk.grown hg5 (by simpa using hqh)
                have d0 := hbk5.cell (i := 0) rfl
                have d1 := hbk5.cell (i := 1) rfl
                obtain ⟨m, rfl⟩ := Int.eq_ofNat_of_zero_le (show 0 ≤ n by omega)
                rw [Int.toNat_natCast]
                have hmask := mask_val v m (by omega) hv
                have hle : v % 2 ^ m ≤ v := Nat.mod_le _ _
                generalize v % 2 ^ m = y at hmask hle ⊢
                have hne : (((y : Nat) : Int) != bits .and .u64 (v : Int) (IntKind.u64.wrap (IntKind.u64.wrap (2 ^ m) - 1))) = false := by rw [hmask]; simp
                clear hrd1 hB1 hbk hbk5 hc0 hc1 hc2 g1 g2 g3 hg5
                go_wp2
                go_roundw
                case rel => exact ⟨k + 1, by omega, by go_num, hr5, hB5⟩
                case measure => simp [intOf]; omega
          · have hk' : n0 = k := by omega
            subst hk'
            have hLl := HBL.out
            have hB6 := below_trans0 HB1.out hs1 hB
            have HB := Lib.hid hB6
            have hleft : 8 * ((bytesL (allBits F0 n0)).length : Int) - ((allBits F0 n0).length : Int) < 8 := by omega
            have h0 := rdLeft_any h _ _ wr hrd
            generalize 8 * ((bytesL (allBits F0 n0)).length : Int) - ((allBits F0 n0).length : Int) = lf at hleft h0
            have H0 := Lib.hid h0
            clear hrd hB hB6 h0 hLl
            go_wp2_with fail
            refine (wPut_nil 1 1 wr).mono ?_
            rintro e w' ⟨rfl, rfl⟩
            go_wp2_with fail
            refine (wAlign_nil wr).mono ?_
            rintro e w' ⟨rfl, rfl⟩
            go_wp2_with fail
            refine (rdGet_nil wr).mono ?_
            rintro e w' ⟨rfl, rfl⟩
            go_wp2_with fail
            refine (rdTake_nil wr).mono ?_
            rintro e w' ⟨rfl, rfl⟩
            go_wp2_with fail
            refine (rdAlign_nil wr).mono ?_
            rintro e w' ⟨rfl, rfl⟩
            go_wp2_with fail
            refine H0.out.mono ?_
            rintro e w' ⟨rfl, kd, rfl⟩
            have hB7 := HB.out.trans (below_drewN wr _ kd)
            have HB7 := Lib.hid hB7
            generalize wr.drewN kd = w9 at HB7 ⊢
            clear HB hB7 H0
            go_wp2_with fail
            refine (wLen_nil w9).mono ?_
            rintro e w' ⟨rfl, rfl⟩
            go_wp2_with fail
            refine (wBytes_nil w9).mono ?_
            rintro e w' ⟨rfl, rfl⟩
            go_wp2_with fail
            refine (rdLeft_nil w9).mono ?_
            rintro e w' ⟨rfl, rfl⟩
            go_wp2
            go_ret
            exact ⟨rfl, HB7.out⟩
end Go.Proofs.Ytmmgcfhoigpomaa
