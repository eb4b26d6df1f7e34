/- packsaddlelaw07.fixed. -/
import Derived.Test.YtnfdbljeinlblaaMatI
import Derived.Test.YtnfdbljeinlblaaMatG
import Derived.Test.YtnfdbljeinlblaaMatE
import Derived.Test.YtnfdbljeinlblaaStr
import Derived.Lib.SlBytesConst
namespace Go.Proofs.Ytnfdbljeinlblaa
open Go.RowKit
set_option linter.unusedVariables false
set_option linter.unusedSimpArgs false

theorem rdT_blk {w : World} {g : Nat} {cs : Array Value} {ts : List Tok} (h : Blk w g TT cs) (hc : cs.toList = tokL ts) : RdT w (some ⟨g, 0, none⟩) ts.length ts := by
  refine ⟨rfl, fun i j => (tokL ts).getD (i * 3 + j) undef, ?_, ?_⟩
  · refine .inr ⟨g, 0, rfl, fun i j hi hj => ?_⟩
    rw [Nat.zero_add]
    have hlt : i * 3 + j < (tokL ts).length := by rw [tokL_len]; omega
    rw [cell_of_row w g _ cs _ (0, 0) h]
    show cs[i * 3 + j]? = some ((tokL ts).getD (i * 3 + j) undef)
    rw [← Array.getElem?_toList, hc, List.getD_eq_getElem?_getD, List.getElem?_eq_getElem hlt]; rfl
  · intro i hi
    have := tokL_at ts i hi
    exact ⟨by simp only [Nat.add_zero, List.getD_eq_getElem?_getD, this.1]; rfl, by simp only [List.getD_eq_getElem?_getD, this.2.1]; rfl, by simp only [List.getD_eq_getElem?_getD, this.2.2]; rfl⟩
theorem tok_two {ts : List Tok} (h : TokOk [97, 98] ts 2) : 2 ≤ ts.length := by
  have h1 := h.2 []
  rw [List.append_nil] at h1
  match ts, h1 with
  | [], h1 => simp [expT] at h1
  | [(x, y, z)], h1 =>
    exfalso
    simp only [expT, List.length_nil] at h1
    split at h1
    · simp at h1
    · rename_i hr
      split at h1
      · simp at h1
      · split at h1
        · simp at h1
        · have hg := rightT_range (q := (x, y, z)) (by simpa using hr)
          simp only at hg
          rename_i h2 h3
          have hy : y = 0 := by simp only [Int.natCast_zero] at h2; omega
          rw [if_pos hy] at h1
          have := congrArg (fun p => p.2.length) h1
          simp at this
  | _ :: _ :: _, _ => simp
set_option maxHeartbeats 8000000 in
set_option maxRecDepth 100000 in
theorem fixed07_any (w : World) : Calls Try.prog 31 #[] w fun e w' => e = .returned (.bool true) ∧ Below w.heap.size w w' := by
  have e1 : expR 10 [(97, 0, 0), (0, 5, 1)] = (0, [97, 97, 97, 97, 97, 97]) := by decide +kernel
  have e2 : expR 10 [(0, 5, 1)] = (13, []) := by decide +kernel
  have e3 : findT [97, 98, 99, 97, 98, 99] 3 = (0, 3, 3) := by decide +kernel
  have E1 := Lib.hid e1
  have E2 := Lib.hid e2
  have E3 := Lib.hid e3
  clear e1 e2 e3
  go_enter Try.func31, Try.ntmps31
  go_wp2_with fail
  refine (mExpand_any _ 2 2 [(97, 0, 0), (0, 5, 1)] 10 _ (by decide) (rdT_blk (Blk.new w _ _) rfl) (by decide)).mono ?_
  unfold XPost
  rw [E1.out]
  rintro e w1 ⟨a1, n1, c1, rfl, hn1, -, hr1, hb⟩
  have hn1' : n1 = 6 := hn1.symm
  subst hn1'
  have hb1 := below_trans0 (below_alloc w (.cells #[.int .u8 97, .int .i64 0, .int .i64 0, .int .u8 0, .int .i64 5, .int .i64 1] TT)) (by simp) hb
  clear hb hn1
  go_wp2_with fail
  refine (mExpand_any _ 1 1 [(0, 5, 1)] 10 _ (by decide) (rdT_blk (Blk.new w1 _ _) rfl) (by decide)).mono ?_
  unfold XPost
  rw [E2.out]
  rintro e w2 ⟨a2, n2, c2, rfl, -, -, -, hb⟩
  have hb2 := below_trans0 (below_alloc w1 (.cells #[.int .u8 0, .int .i64 5, .int .i64 1] TT)) (by simp) hb
  have hr2 := hr1.below hb2
  have hB2 := below_trans0 hb1 hb1.size hb2
  clear hr1 hb1 hb2 hb
  have hcv := conv_str (P := Try.prog) Try.underlying32 Try.underlying5 Try.underlying9 c1 (n := 6) rfl hr2
  rw [show strOf [97, 97, 97, 97, 97, 97] = (⟨#[97, 97, 97, 97, 97, 97]⟩ : ByteArray) from rfl] at hcv
  clear hr2
  have kc := fun (w : World) (C : Array Value) (n c : Nat) => Lib.run_convert_bytes_const (P := Try.prog) w 32 5 C n c Try.underlying32 Try.underlying5
  go_wp2_with fail
  clear hcv
  refine (mFind_any _ 6 6 [97, 98, 99, 97, 98, 99] 3 _ rfl (by decide) (by decide) (rd_new w2 _ _ _ _ rfl)).mono ?_
  rw [E3.out]
  rintro e w3 ⟨rfl, hb⟩
  have hb3 := below_trans0 (below_alloc w2 (.cells #[.int .u8 97, .int .u8 98, .int .u8 99, .int .u8 97, .int .u8 98, .int .u8 99] 5 (6, 7))) (by simp) hb
  have hB3 := below_trans0 hB2 hB2.size hb3
  clear hb hb3 hB2
  simp only [tokA]
  go_wp2_with fail
  refine (mTokens_any _ 2 2 [97, 98] _ rfl (by decide) (by decide) (rd_new w3 _ _ _ _ rfl)).mono ?_
  rintro e w4 ⟨pt, nt, ct, ts, rfl, hnt, hrt, htk, hb⟩
  have hnt2 : nt = 2 := by have := tok_two htk; have := hrt.1; omega
  subst hnt2
  have hb4 := below_trans0 (below_alloc w3 (.cells #[.int .u8 97, .int .u8 98] 5 (2, 3))) (by simp) hb
  have hB4 := below_trans0 hB3 hB3.size hb4
  clear hb hb4 hB3 hrt htk
  go_wp2
  go_ret
  exact ⟨rfl, hB4⟩
end Go.Proofs.Ytnfdbljeinlblaa
