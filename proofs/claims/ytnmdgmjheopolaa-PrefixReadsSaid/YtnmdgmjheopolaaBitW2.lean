/- bitio.Writer: Len, Bytes. -/
import Derived.Test.YtnmdgmjheopolaaBitW
namespace Go.Proofs.Ytnmdgmjheopolaa
open Go.RowKit
set_option linter.unusedVariables false
set_option linter.unusedSimpArgs false

theorem WBits.below {w w' : World} {B g : Nat} {all : List Bool} (h : WBits w B g all) (hb : Below w.heap.size w w') : WBits w' B g all := WOk.below h hb
theorem WBits.drewN {w : World} {B g : Nat} {all : List Bool} (h : WBits w B g all) (k : Nat) : WBits (w.drewN k) B g all := WOk.drewN h k

set_option maxRecDepth 100000 in
set_option maxHeartbeats 1000000 in
theorem wLen_any (B g : Nat) (all : List Bool) (w : World) (h : WBits w B g all) (hlen : all.length ≤ 1000000) :
  Calls Try.prog 36 #[.pointer (some ⟨g, 0, none⟩)] w fun e w' => e = .returned (.int .i64 (all.length : Int)) ∧ ∃ k, w' = w.drewN k := by
  obtain ⟨a, n, c, hb, hown, -⟩ := h.ex
  have hn : n = all.length / 8 := by rw [← hown.len, bytesK_length]
  have c0 := hb.cell (i := 0) rfl
  have c2 := hb.cell (i := 2) rfl
  obtain ⟨k, hk⟩ : ∃ k, all.length % 8 = k := ⟨_, rfl⟩
  have he : 8 * (n : Int) + (k : Int) = (all.length : Int) := by omega
  have hn2 : n ≤ 1000000 ∧ k < 8 := by omega
  rw [hk] at c2 c0
  have HE := Lib.hid he
  clear h hb hown hn hk he
  go_enter Try.func36, Try.ntmps36
  go_wp2
  go_quiet (fail)
  go_wp2
  go_ret
  exact ⟨ret_int HE.out, _, rfl⟩

set_option maxRecDepth 100000 in
set_option maxHeartbeats 1000000 in
theorem wBytes_any (B g : Nat) (all : List Bool) (w : World) (h : WBits w B g all) (hlen : all.length ≤ 1000000) :
  Calls Try.prog 37 #[.pointer (some ⟨g, 0, none⟩)] w fun e w' => ∃ a n c, e = .returned (.slice a n c) ∧ Own w' w.heap.size 5 bE a n c (bytesL all) ∧ Below w.heap.size w w' := by
  obtain ⟨a, n, c, hb, hown, -⟩ := h.ex
  have hn : n = all.length / 8 := by rw [← hown.len, bytesK_length]
  have hbyte := byte_numF all (all.length / 8)
  have c0 := hb.cell (i := 0) rfl
  have hsucc := bytesK_succ all (all.length / 8)
  rw [hbyte] at hsucc
  have hheld : numF (all.drop (8 * (all.length / 8))) < 2 ^ 8 := by
    have h1 := numF_lt (all.drop (8 * (all.length / 8)))
    have h2 : (all.drop (8 * (all.length / 8))).length ≤ 8 := by rw [List.length_drop]; omega
    exact Nat.lt_of_lt_of_le h1 (Nat.pow_le_pow_right (by omega) h2)
  obtain ⟨held, hh⟩ : ∃ x, numF (all.drop (8 * (all.length / 8))) = x := ⟨_, rfl⟩
  rw [hh] at c0 hb hsucc hheld
  obtain ⟨k, hk⟩ : ∃ k, all.length % 8 = k := ⟨_, rfl⟩
  rw [hk] at c0 hb
  have hfull : k = 0 → bytesL all = bytesK all (all.length / 8) := fun h0 => by unfold bytesL; congr 1; omega
  have hmore : k ≠ 0 → bytesL all = bytesK all (all.length / 8 + 1) := fun h0 => by unfold bytesL; congr 1; omega
  have hr := hown.rd
  have hlen2 := hown.len
  have hn2 : n ≤ 1000000 ∧ k < 8 := by omega
  have HN := Lib.hid hn
  clear h hown hh hk hbyte hn
  go_enter Try.func37, Try.ntmps37
  go_wp2_with fail
  refine (clone_any a n c _ w hlen2 (by omega) hr).mono ?_
  rintro e w1 ⟨a1, c1, rfl, hown1, hb1⟩
  have hs1 := hb1.size
  have hbk := hb.below hb1
  have d1 := hbk.cell (i := 1) rfl
  have d2 := hbk.cell (i := 2) rfl
  clear hb hbk hr c0
  by_cases h0 : k = 0
  · have hf := hfull h0
    subst h0
    have HF := Lib.hid hf
    clear hf hfull hmore hsucc
    go_wp2
    go_ret
    exact ⟨_, _, _, rfl, by rw [HF.out]; exact hown1, hb1⟩
  · have hf := hmore h0
    have h0' : (k : Int) > 0 := by omega
    obtain ⟨y, hy⟩ : ∃ y, UInt8.ofNat (held % 256) = y := ⟨_, rfl⟩
    rw [hsucc, hy] at hf
    have hyv : Value.int .u8 (held : Int) = bE y := by rw [← hy]; simp only [bE, byte_toNat]; rw [Nat.mod_eq_of_lt hheld]
    have HF := Lib.hid hf
    have HY := Lib.hid hyv
    clear hf hfull hmore hsucc hy hyv
    go_wp2_with (at_builtin; refine wpList_push slByte rfl _ _ rfl rfl rfl hown1 y ⟨w1.heap.size, 0, none⟩ rfl (cell_push HY.out _ _) rfl (by omega) (by unfold maxLen; omega) hs1 ?_; intro a2 c2 w2 hown2 hg2; have hB2 := hown1.step hb1 hg2 hs1; clear hg2)
    go_ret
    exact ⟨_, _, _, rfl, by rw [HF.out]; exact hown2, hB2⟩

/-! A nil writer. -/
set_option maxHeartbeats 1000000 in
theorem wPut_nil (v n : Int) (w : World) : Calls Try.prog 71 #[.pointer none, .int .u32 v, .int .i64 n] w fun e w' => e = .returned (.tuple #[]) ∧ w = w' := by
  go_enter Try.func71, Try.ntmps71
  go_wp2
  refine bodyPost_ret (results_none rfl _ _ _) rfl ?_
  exact ⟨rfl, rfl⟩
set_option maxHeartbeats 1000000 in
theorem wLen_nil (w : World) : Calls Try.prog 36 #[.pointer none] w fun e w' => e = .returned (.int .i64 0) ∧ w = w' := by
  go_enter Try.func36, Try.ntmps36
  go_wp2
  go_ret
  exact ⟨rfl, rfl⟩
set_option maxHeartbeats 1000000 in
theorem wBytes_nil (w : World) : Calls Try.prog 37 #[.pointer none] w fun e w' => e = .returned (.slice none 0 0) ∧ w = w' := by
  go_enter Try.func37, Try.ntmps37
  go_wp2
  go_ret
  exact ⟨rfl, rfl⟩
end Go.Proofs.Ytnmdgmjheopolaa
