/- segment.Write. -/
import Derived.Test.YtnmdgmjheopolaaSegB
import Derived.Lib.SlBytesConst
import Derived.Test.YtnmdgmjheopolaaCurPB
import Derived.Test.YtnmdgmjheopolaaCrcB
namespace Go.Proofs.Ytnmdgmjheopolaa
open Go.RowKit
set_option linter.unusedVariables false
set_option linter.unusedSimpArgs false

def segHead (n : Nat) : List UInt8 := [80, 75, 83, 76] ++ putB 1 2 ++ putB n 2
def segLens (ls : List (List UInt8)) : List UInt8 := (ls.map fun l => putB l.length 4).flatten
def segB (ls : List (List UInt8)) : List UInt8 := segHead ls.length ++ segLens ls ++ ls.flatten
theorem putB2_len (v : Nat) : (putB v 2).length = 2 := by simp [putB, sizedB, littleL]
theorem putB4_len (v : Nat) : (putB v 4).length = 4 := by simp [putB, sizedB, littleL]
theorem segHead_len (n : Nat) : (segHead n).length = 8 := by simp [segHead, putB2_len]
theorem segLens_snoc (ls : List (List UInt8)) (k : Nat) (hk : k < ls.length) : segLens (ls.take (k + 1)) = segLens (ls.take k) ++ putB ls[k].length 4 := by
  unfold segLens; rw [List.take_succ_eq_append_getElem hk, List.map_append, List.flatten_append]; simp
theorem segLens_len (ls : List (List UInt8)) : (segLens ls).length = 4 * ls.length := by
  induction ls with
  | nil => rfl
  | cons l r ih =>
    have : segLens (l :: r) = putB l.length 4 ++ segLens r := rfl
    rw [this, List.length_append, putB4_len, ih, List.length_cons]; omega
theorem flat_snoc (ls : List (List UInt8)) (k : Nat) (hk : k < ls.length) : (ls.take (k + 1)).flatten = (ls.take k).flatten ++ ls[k] := by
  rw [List.take_succ_eq_append_getElem hk, List.flatten_append]; simp
def segWE (ls : List (List UInt8)) : Int := if 255 < ls.length then 4 else 0
def segWL (ls : List (List UInt8)) : List UInt8 := if 255 < ls.length then [] else sealL (segB ls)
def SegWPost (w : World) (ls : List (List UInt8)) (e : Ending) (w' : World) : Prop :=
  ∃ a' n' c', e = .returned (.tuple #[.slice a' n' c', .int .i64 (segWE ls)]) ∧ (segWL ls).length = n' ∧ n' ≤ 3000 ∧ n' ≤ c' ∧ c' ≤ maxLen ∧ Rd w' bE a' (segWL ls) ∧ Below w.heap.size w w'
theorem segWL_len (ls : List (List UInt8)) (h : sumL ls ≤ 1000) : (segWL ls).length ≤ 3000 := by
  unfold segWL; split
  · simp
  · rw [sealL_len]; unfold segB
    rw [List.length_append, List.length_append, segHead_len, segLens_len, sumL_flat]; omega

set_option maxRecDepth 100000 in
set_option maxHeartbeats 8000000 in
theorem bWrite33_any (a : Option Addr) (n c : Nat) (ls : List (List UInt8)) (w : World) (hn : n ≤ 300) (hs : sumL ls ≤ 1000) (hp : Parts w a n ls) :
  Calls Try.prog 40 #[.slice a n c] w (SegWPost w ls) := by
  have hl := hp.len
  by_cases h255 : 255 < n
  · have e1 : segWE ls = 4 := by unfold segWE; rw [if_pos (by omega)]
    have e2 : segWL ls = [] := by unfold segWL; rw [if_pos (by omega)]
    have HF : Hid (SegWPost w ls (.returned (.tuple #[.slice none 0 0, .int .i64 4])) w) := Lib.hid ⟨none, 0, 0, by rw [e1], by rw [e2]; rfl, by omega, by omega, by unfold maxLen; omega, by rw [e2]; exact Rd.nil, Below.refl _ _⟩
    clear hp hl e1 e2 hs
    go_enter Try.func40, Try.ntmps40
    go_wp2
    go_ret2
    exact HF.out
  · have e1 : segWE ls = 0 := by unfold segWE; rw [if_neg (by omega)]
    have e2 : segWL ls = sealL (segHead n ++ segLens ls ++ ls.flatten) := by unfold segWL segB; rw [if_neg (by omega), hl]
    have hlen := segWL_len ls hs
    have HE1 := Lib.hid e1
    have HE2 := Lib.hid e2
    have HL := Lib.hid hl
    have HP := Lib.hid hp
    have HLEN := Lib.hid hlen
    have HS := Lib.hid hs
    clear e1 e2 hl hp hlen hs
    go_enter Try.func40, Try.ntmps40
    have kc := fun (w : World) (C : Array Value) (n c : Nat) => Lib.run_convert_bytes_const (P := Try.prog) w 26 5 C n c Try.underlying26 Try.underlying5
    go_wp2_with fail
    clear kc
    refine (cBig_any _ 4 4 [80, 75, 83, 76] 1 2 _ rfl (by decide) (by decide) (by decide) (by decide) (rd_new w _ _ _ _ rfl)).mono ?_
    rintro e w1 ⟨a1, n1, c1, rfl, hbuf1, hb1⟩
    have hB1 := (below_trans0 (below_alloc w _) (by simp) hb1)
    have hl1 := hbuf1.len
    have hr1 := hbuf1.rd
    have hn1 : n1 = 6 := by rw [← hl1, List.length_append, putB2_len]; rfl
    clear hbuf1 hb1
    subst hn1
    go_wp2_with fail
    refine (cBig_any a1 6 c1 _ n 2 w1 hl1 (by decide) (by omega) (by decide) (by decide) hr1).mono ?_
    rintro e w2 ⟨a2, n2, c2, rfl, hbuf1, hb2⟩
    have hl2 := hbuf1.len
    have hn2 : n2 = 8 := by rw [← hl2, List.length_append, List.length_append, putB2_len, putB2_len]; rfl
    subst hn2
    have hB2 := hB1.trans (hb2.mono hB1.size)
    have hbuf2 : Buf w2 w.heap.size 5 bE a2 8 c2 (segHead n ++ segLens (ls.take 0)) := by
      have h5 := Buf.mono (hbuf1) hB1.size
      simpa [segHead, segLens] using h5
    clear hl1 hr1 hl2 hb2 hB1 hbuf1
    go_wp2
    go_loopw [4, 5, 27] (fun xb xs xi wr => ∃ (k n' c' : Nat) (a' : Option Addr), k ≤ n ∧ xi = .int .i64 k ∧ xb = .slice a' n' c' ∧ xs = .int .i64 (12 + 4 * (n : Int) + ((sumL (ls.take k) : Nat) : Int)) ∧ n' = 8 + 4 * k ∧ Buf wr w.heap.size 5 bE a' n' c' (segHead n ++ segLens (ls.take k)) ∧ Below w.heap.size w wr) (fun _ _ xi _ => n - (intOf xi).toNat)
    case atStart => exact ⟨0, 8, c2, a2, by omega, rfl, rfl, by simp [sumL]; omega, by omega, hbuf2, hB2⟩
    case round =>
      clear hbuf2 hB2
      obtain ⟨k, n', c', a', hk, rfl, rfl, rfl, rfl, hbuf, hB⟩ := hrel
      by_cases hlt : k < n
      · have hkl : k < ls.length := by rw [HL.out]; exact hlt
        obtain ⟨b, off, ai, ni, ci, rfl, hc, hlen, -⟩ := (HP.out.later hB).at hkl
        have hat := sumL_at ls k hkl
        have hsn := sumL_snoc ls k hkl
        have hse := sumL_le ls (k + 1)
        have hls := segLens_snoc ls k hkl
        have hS := HS.out
        rw [hlen] at hat hsn hls
        have HSN := Lib.hid hsn
        have HLS := Lib.hid hls
        have hsk : sumL (ls.take k) + ni ≤ 1000 := by omega
        have hbl := hbuf.len
        have hbr := hbuf.rd
        clear hlen hsn hls hbuf hat hse hS
        generalize sumL (ls.take k) = s at *
        go_wp2_with fail
        refine (cBig_any a' (8 + 4 * k) c' _ ni 4 wr hbl (by omega) (by omega) (by decide) (by decide) hbr).mono ?_
        rintro e w3 ⟨a3, n3, c3, rfl, hbuf1, hb3⟩
        have hl3 := hbuf1.len
        have hn3 : n3 = 8 + 4 * (k + 1) := by rw [← hl3, List.length_append, hbl, putB4_len]; omega
        have hB3 := hB.trans (hb3.mono hB.size)
        have hbuf3 : Buf w3 w.heap.size 5 bE a3 n3 c3 (segHead n ++ segLens (ls.take (k + 1))) := by
          have h5 := Buf.mono (hbuf1) hB.size
          rw [HLS.out, ← List.append_assoc]; exact h5
        have HN3 := Lib.hid hn3
        clear hbl hbr hb3 hB hl3 hbuf1 hn3
        go_wp2
        go_roundw
        case rel => exact ⟨k + 1, n3, c3, a3, by omega, by go_num, rfl, by rw [HSN.out]; go_num, HN3.out, hbuf3, hB3⟩
        case measure => simp [intOf]; omega
      · have hkn : k = n := by omega
        subst hkn
        have htk : ls.take k = ls := List.take_of_length_le (by rw [HL.out]; omega)
        rw [htk] at hbuf
        have hS := HS.out
        rw [htk]
        clear htk
        go_wp2
        go_loopw [4, 48] (fun xb xi wr' => ∃ (j n' c' : Nat) (a' : Option Addr), j ≤ k ∧ xi = .int .i64 j ∧ xb = .slice a' n' c' ∧ n' = 8 + 4 * k + sumL (ls.take j) ∧ Buf wr' w.heap.size 5 bE a' n' c' (segHead k ++ segLens ls ++ (ls.take j).flatten) ∧ Below w.heap.size w wr') (fun _ xi _ => k - (intOf xi).toNat)
        case atStart => exact ⟨0, 8 + 4 * k, c', a', by omega, rfl, rfl, by simp [sumL], by simpa using hbuf, hB⟩
        case round =>
          clear hbuf hB
          obtain ⟨j, n', c2', a2', hj, rfl, rfl, rfl, hbuf, hB⟩ := hrel
          by_cases hlt : j < k
          · have hjl : j < ls.length := by rw [HL.out]; exact hlt
            obtain ⟨b, off, ai, ni, ci, rfl, hc, hlen, hri⟩ := (HP.out.later hB).at hjl
            have hat := sumL_at ls j hjl
            have hsn := sumL_snoc ls j hjl
            have hse := sumL_le ls (j + 1)
            have hfl := flat_snoc ls j hjl
            have hS := HS.out
            rw [hlen] at hat hsn
            have HSN := Lib.hid hsn
            have HFL := Lib.hid hfl
            have hsk : sumL (ls.take j) + ni ≤ 1000 := by omega
            have hsz := hB.size
            clear hsn hfl hat hse hS
            have HBUF := Lib.hid hbuf
            have HLEN2 := Lib.hid hlen
            clear hbuf hlen
            generalize ls[j] = u at *
            generalize sumL (ls.take j) = s at *
            go_wp2_with (at_builtin; refine wpList_catB slByte rfl rfl _ _ rfl rfl HBUF.out hB rfl HLEN2.out hri (byteOne _) (by omega) (by unfold maxLen; omega) hsz ?_; intro a4 c4 w4 hbuf4 hB4; clear hB hri hsz hc)
            go_roundw
            case rel => exact ⟨j + 1, _, c4, a4, by omega, by go_num, rfl, by rw [HSN.out]; omega, by rw [HFL.out, ← List.append_assoc]; exact hbuf4, hB4⟩
            case measure => simp [intOf]; omega
          · have hjk : j = k := by omega
            subst hjk
            have htk : ls.take j = ls := List.take_of_length_le (by rw [HL.out]; omega)
            rw [htk] at hbuf ⊢
            have hS := HS.out
            have hbl := hbuf.len
            have hbr := hbuf.rd
            clear htk hbuf
            generalize sumL ls = s at *
            go_wp2_with fail
            refine (crcSeal_any a2' _ c2' _ _ hbl (by omega) hbr).mono ?_
            rintro e w5 ⟨a5, n5, c5, rfl, hbuf5, hb5⟩
            rw [← HE2.out] at hbuf5
            have HF : Hid (SegWPost w ls (.returned (.tuple #[.slice a5 n5 c5, .int .i64 0])) w5) := Lib.hid ⟨a5, n5, c5, by rw [HE1.out], hbuf5.len, by rw [← hbuf5.len]; exact HLEN.out, hbuf5.le_cap, hbuf5.cap_max, hbuf5.rd, hB.trans (hb5.mono hB.size)⟩
            clear hbl hbr hbuf5 hb5 hB
            go_wp2
            go_ret2
            exact HF.out
end Go.Proofs.Ytnmdgmjheopolaa
