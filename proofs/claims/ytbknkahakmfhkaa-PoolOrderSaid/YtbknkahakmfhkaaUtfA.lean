/- utf.put, utf.Bytes; the document's Bytes. -/
import Derived.Test.YtbknkahakmfhkaaSlB
import Derived.Test.YtbknkahakmfhkaaStr
import Derived.Test.YtbknkahakmfhkaaOwn2
namespace Go.Proofs.Ytbknkahakmfhkaa
open Go.RowKit
set_option linter.unusedVariables false
set_option linter.unusedSimpArgs false

abbrev hE : Nat → Value := fun x => .int .u16 (x : Int)
theorem slU16 : SlT Try.prog 118 22 (.int .u16 0) 1 2 := ⟨Try.underlying118, by kernel_rfl, rfl⟩
/-- A unit's bytes. -/
def encN (u : Nat) : List Nat := if 1 ≤ u ∧ u < 128 then [u] else if u < 2048 then [192 + u / 64, 128 + u % 64] else [224 + u / 4096, 128 + u / 64 % 64, 128 + u % 64]
def encU (u : Nat) : List UInt8 := (encN u).map UInt8.ofNat
theorem encN_lt {u : Nat} (hu : u < 65536) : ∀ x ∈ encN u, x < 256 := by
  unfold encN
  intro x hx
  split at hx
  · simp at hx; omega
  · split at hx
    · simp at hx; omega
    · simp at hx; omega
theorem encU_cells {u : Nat} (hu : u < 65536) : (encU u).map bE = (encN u).map fun x : Nat => Value.int .u8 (x : Int) := by
  unfold encU
  rw [List.map_map]
  refine List.map_congr_left fun x hx => ?_
  have := encN_lt hu x hx
  show Value.int .u8 (((UInt8.ofNat x).toNat : Nat) : Int) = _
  rw [UInt8.toNat_ofNat', Nat.mod_eq_of_lt (by omega)]
theorem encU_len (u : Nat) : (encU u).length = (encN u).length := by simp [encU]
theorem encN_1 {u : Nat} (h : 1 ≤ u ∧ u < 128) : encN u = [u] := by unfold encN; rw [if_pos h]
theorem encN_2 {u : Nat} (h1 : ¬ (1 ≤ u ∧ u < 128)) (h2 : u < 2048) : encN u = [192 + u / 64, 128 + u % 64] := by unfold encN; rw [if_neg h1, if_pos h2]
theorem encN_3 {u : Nat} (h2 : ¬ u < 2048) : encN u = [224 + u / 4096, 128 + u / 64 % 64, 128 + u % 64] := by unfold encN; rw [if_neg (by omega), if_neg h2]
theorem enc_rd {u : Nat} (hu : u < 65536) (w : World) (cs : Array Value) (fr : Nat × Nat) (h : cs.toList = (encN u).map fun x : Nat => Value.int .u8 (x : Int)) : Rd (w.alloc (.cells cs 5 fr)) bE (some ⟨w.heap.size, 0, none⟩) (encU u) :=
  rd_new w cs _ fr (encU u) (by rw [h, encU_cells hu])
/-- Units' bytes. -/
def bytU (us : List Nat) : List UInt8 := us.flatMap encU
theorem bytU_snoc {us : List Nat} {i : Nat} (h : i < us.length) : bytU (us.take (i + 1)) = bytU (us.take i) ++ encU us[i] := by
  rw [List.take_succ_eq_append_getElem h]; unfold bytU; rw [List.flatMap_append]; simp
theorem encU_le (u : Nat) : (encU u).length ≤ 3 := by
  rw [encU_len]; unfold encN; split
  · simp
  · split <;> simp
theorem bytU_len (us : List Nat) : (bytU us).length ≤ 3 * us.length := by
  induction us with
  | nil => simp [bytU]
  | cons u r ih =>
    have : bytU (u :: r) = encU u ++ bytU r := rfl
    rw [this, List.length_append, List.length_cons]
    have := encU_le u
    omega
set_option maxRecDepth 100000 in
set_option maxHeartbeats 4000000 in
theorem rbytes_any (a : Option Addr) (n c : Nat) (us : List Nat) (w : World) (hl : us.length = n) (hn : n ≤ 1000000) (hr : Rd w hE a us) (hu : ∀ x ∈ us, x < 65536) :
  Calls Try.prog 114 #[.slice a n c] w fun e w' => e = .returned (.string (strOf (bytU us))) ∧ Below w.heap.size w w' := by
  have HR := Lib.hid (And.intro hl (And.intro hr hu))
  clear hl hr hu
  go_enter Try.func114, Try.ntmps114
  go_wp2
  go_loopw [3, 9] (fun x3 x9 wr => ∃ (i k : Nat) (q : Option Addr) (d : Nat), i ≤ n ∧ x3 = .slice q k d ∧ x9 = .int .i64 i ∧ Own wr w.heap.size 5 bE q k d (bytU (us.take i)) ∧ Below w.heap.size w wr) (fun _ x9 _ => n - (intOf x9).toNat)
  case atStart => exact ⟨0, 0, none, 0, Nat.zero_le _, rfl, rfl, Own.nil, Below.refl _ _⟩
  case round =>
    obtain ⟨i, k, q, d, hi, rfl, rfl, hO, hB⟩ := hrel
    by_cases hin : i < n
    · have hil : i < us.length := by rw [HR.out.1]; exact hin
      obtain ⟨b, off, rfl, -, hc⟩ := (HR.out.2.1.below hB).at hil
      replace hc : wr.cell? ⟨b, off + i, none⟩ = some (.int .u16 ((us[i] : Nat) : Int)) := hc
      have hux := HR.out.2.2 us[i] (List.getElem_mem hil)
      have HS := Lib.hid (bytU_snoc hil)
      have hk : k ≤ 3000000 := by
        have h1 := hO.len
        have h2 := bytU_len (us.take i)
        rw [List.length_take] at h2
        omega
      have hbs := hB.size
      have HO := Lib.hid hO
      have HB := Lib.hid hB
      clear hO hB
      generalize us[i] = u at *
      by_cases h1 : 1 ≤ u ∧ u < 128
      · have HE : Hid (Rd (wr.alloc (.cells #[.int .u8 (u : Int)] 5)) bE (some ⟨wr.heap.size, 0, none⟩) (encU u)) := Lib.hid (enc_rd hux wr _ _ (by rw [encN_1 h1]; simp))
        have HL : Hid ((encU u).length = 1) := Lib.hid (by rw [encU_len, encN_1 h1]; rfl)
        have g2 : decide ((1 : Int) ≤ u) = true := decide_eq_true (by omega)
        have g3 : decide ((u : Int) < 128) = true := decide_eq_true (by omega)
        go_wp2_with (at_builtin; refine wpList_cat slByte rfl _ _ rfl rfl (HO.out.alloc (.cells #[.int .u8 (u : Int)] 5)) rfl HL.out HE.out (byteOne _) (by omega) (by unfold maxLen; omega) (by simp; omega) ?_; intro a4 c4 w4 hown4 hg4 _ _)
        have HF := Lib.hid (And.intro hown4 ((HO.out.alloc (.cells #[.int .u8 (u : Int)] 5)).step (HB.out.alloc hbs _) hg4 (by simp; omega)))
        rw [← HS.out] at HF
        clear hown4 hg4
        go_roundw
        case rel => exact ⟨i + 1, k + 1, a4, c4, by omega, rfl, by go_num, HF.out⟩
        case measure => simp [intOf] <;> omega
      · by_cases h2 : u < 2048
        · by_cases h0 : u = 0
          · subst h0
            have HE : Hid (Rd (wr.alloc (.cells #[.int .u8 192, .int .u8 128] 5)) bE (some ⟨wr.heap.size, 0, none⟩) (encU 0)) := Lib.hid (enc_rd hux wr _ _ (by rw [encN_2 h1 h2]; simp))
            have HL : Hid ((encU 0).length = 2) := Lib.hid (by rw [encU_len, encN_2 h1 h2]; rfl)
            go_wp2_with (at_builtin; refine wpList_cat slByte rfl _ _ rfl rfl (HO.out.alloc (.cells #[.int .u8 192, .int .u8 128] 5)) rfl HL.out HE.out (byteOne _) (by omega) (by unfold maxLen; omega) (by simp; omega) ?_; intro a4 c4 w4 hown4 hg4 _ _)
            have HF := Lib.hid (And.intro hown4 ((HO.out.alloc (.cells #[.int .u8 192, .int .u8 128] 5)).step (HB.out.alloc hbs _) hg4 (by simp; omega)))
            rw [← HS.out] at HF
            clear hown4 hg4
            go_roundw
            case rel => exact ⟨i + 1, k + 2, a4, c4, by omega, rfl, by go_num, HF.out⟩
            case measure => simp [intOf] <;> omega
          · have g2 : decide ((1 : Int) ≤ u) = true := decide_eq_true (by omega)
            have g3 : decide ((u : Int) < 128) = false := decide_eq_false (by omega)
            have HE : Hid (Rd (wr.alloc (.cells #[.int .u8 (192 + (u : Int) / 64), .int .u8 (128 + (u : Int) % 64)] 5)) bE (some ⟨wr.heap.size, 0, none⟩) (encU u)) := Lib.hid (enc_rd hux wr _ _ (by rw [encN_2 h1 h2]; simp))
            have HL : Hid ((encU u).length = 2) := Lib.hid (by rw [encU_len, encN_2 h1 h2]; rfl)
            go_wp2_with (at_builtin; refine wpList_cat slByte rfl _ _ rfl rfl (HO.out.alloc (.cells #[.int .u8 (192 + (u : Int) / 64), .int .u8 (128 + (u : Int) % 64)] 5)) rfl HL.out HE.out (byteOne _) (by omega) (by unfold maxLen; omega) (by simp; omega) ?_; intro a4 c4 w4 hown4 hg4 _ _)
            have HF := Lib.hid (And.intro hown4 ((HO.out.alloc (.cells #[.int .u8 (192 + (u : Int) / 64), .int .u8 (128 + (u : Int) % 64)] 5)).step (HB.out.alloc hbs _) hg4 (by simp; omega)))
            rw [← HS.out] at HF
            clear hown4 hg4
            go_roundw
            case rel => exact ⟨i + 1, k + 2, a4, c4, by omega, rfl, by go_num, HF.out⟩
            case measure => simp [intOf] <;> omega
        · have g2 : decide ((1 : Int) ≤ u) = true := decide_eq_true (by omega)
          have g3 : decide ((u : Int) < 128) = false := decide_eq_false (by omega)
          have HE : Hid (Rd (wr.alloc (.cells #[.int .u8 (224 + (u : Int) / 4096), .int .u8 (128 + (u : Int) / 64 % 64), .int .u8 (128 + (u : Int) % 64)] 5)) bE (some ⟨wr.heap.size, 0, none⟩) (encU u)) := Lib.hid (enc_rd hux wr _ _ (by rw [encN_3 h2]; simp))
          have HL : Hid ((encU u).length = 3) := Lib.hid (by rw [encU_len, encN_3 h2]; rfl)
          go_wp2_with (at_builtin; refine wpList_cat slByte rfl _ _ rfl rfl (HO.out.alloc (.cells #[.int .u8 (224 + (u : Int) / 4096), .int .u8 (128 + (u : Int) / 64 % 64), .int .u8 (128 + (u : Int) % 64)] 5)) rfl HL.out HE.out (byteOne _) (by omega) (by unfold maxLen; omega) (by simp; omega) ?_; intro a4 c4 w4 hown4 hg4 _ _)
          have HF := Lib.hid (And.intro hown4 ((HO.out.alloc (.cells #[.int .u8 (224 + (u : Int) / 4096), .int .u8 (128 + (u : Int) / 64 % 64), .int .u8 (128 + (u : Int) % 64)] 5)).step (HB.out.alloc hbs _) hg4 (by simp; omega)))
          rw [← HS.out] at HF
          clear hown4 hg4
          go_roundw
          case rel => exact ⟨i + 1, k + 3, a4, c4, by omega, rfl, by go_num, HF.out⟩
          case measure => simp [intOf] <;> omega
    · have hin' : i = n := by omega
      have htk : us.take i = us := List.take_of_length_le (by rw [HR.out.1]; omega)
      rw [htk] at hO
      subst hin'
      have hcv := conv_str (P := Try.prog) Try.underlying29 Try.underlying5 Try.underlying9 d hO.len hO.rd
      have HB := Lib.hid hB
      clear hO hB htk
      go_wp2
      go_ret
      exact ⟨rfl, HB.out⟩
end Go.Proofs.Ytbknkahakmfhkaa
