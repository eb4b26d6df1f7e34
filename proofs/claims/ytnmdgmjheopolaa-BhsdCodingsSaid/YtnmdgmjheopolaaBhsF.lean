/- The bytes of a plain number: bhsd.put, packsaddleref24.Bytes, bhsd.Put. -/
import Derived.Test.YtnmdgmjheopolaaBhsE
namespace Go.Proofs.Ytnmdgmjheopolaa
open Go.RowKit
set_option linter.unusedVariables false
set_option linter.unusedSimpArgs false

theorem Own.ne_blk {α : Type} {w : World} {base : Nat} {e T : TypeId} {E : α → Value} {a : Option Addr} {n c g : Nat} {l : List α} {cs : Array Value} (h : Own w base e E a n c l) (hb : Blk w g T cs) (hT : T ≠ e) : some g ≠ (Value.slice a n c).ownBlock := by
  obtain ⟨⟨h1, h2⟩, h3⟩ := h
  rcases h2 with ⟨h4, h5⟩ | ⟨g', cap, cur, hv, hg, hh, r⟩
  · rw [h4]; simp [Value.ownBlock]
  · rw [hv]
    intro he
    simp [Value.ownBlock] at he
    subst he
    unfold Blk at hb
    rw [hb] at hh
    simp at hh
    exact hT hh.2

def putN (low h : Nat) : Nat → Nat → List UInt8
  | 0, u => [UInt8.ofNat (u % 256)]
  | k+1, u => if u < low then [UInt8.ofNat (u % 256)] else UInt8.ofNat ((low + (u - low) % h) % 256) :: putN low h k ((u - low) / h)
theorem putN_small (low h k u : Nat) (hu : u < low) : putN low h k u = [UInt8.ofNat (u % 256)] := by
  cases k with
  | zero => rfl
  | succ k => rw [putN, if_pos hu]
theorem putN_len (low h k u : Nat) : (putN low h k u).length ≤ k + 1 := by
  induction k generalizing u with
  | zero => simp [putN]
  | succ k ih =>
    rw [putN]; split
    · simp
    · have := ih ((u - low) / h); simp; omega
/-- The bytes of the plain number u. -/
def bytesC (b h u : Int) : List UInt8 := putN (256 - h.toNat) h.toNat (b - 1).toNat u.toNat
theorem byteI (u : Nat) : Value.int .u8 ((u : Int) % 256) = bE (UInt8.ofNat (u % 256)) := by
  simp only [bE, byte_toNat]; rfl

theorem byteS (u : Nat) (h : u < 256) : Value.int .u8 (u : Int) = bE (UInt8.ofNat (u % 256)) := by
  rw [← byteI, show (u : Int) % 256 = u by omega]

set_option maxRecDepth 100000 in
set_option maxHeartbeats 4000000 in
theorem bput_any (a : Option Addr) (n c : Nat) (l : List UInt8) (b h s d u : Int) (w : World) (B : Nat) (hB0 : B ≤ w.heap.size) (hown : Own w B 5 bE a n c l) (hn : n ≤ 1000000000) (hb : 1 ≤ b ∧ b ≤ 5) (hh : 2 ≤ h ∧ h ≤ 256) (hu : 0 ≤ u ∧ u ≤ 4294967296) :
  Calls Try.prog 60 #[.slice a n c, .agg #[.int .i64 b, .int .i64 h, .int .i64 s, .int .i64 d], .int .i64 u] w fun e w' => ∃ a' n' c', e = .returned (.slice a' n' c') ∧ n' ≤ n + 5 ∧ Own w' B 5 bE a' n' c' (l ++ bytesC b h u) ∧ Below B w w' := by
  obtain ⟨hn', rfl⟩ := Int.eq_ofNat_of_zero_le (show 0 ≤ h by omega)
  obtain ⟨u0, rfl⟩ := Int.eq_ofNat_of_zero_le hu.1
  obtain ⟨b0, rfl⟩ : ∃ k : Nat, b = (k : Int) + 1 := ⟨(b - 1).toNat, by omega⟩
  have hfin : bytesC ((b0 : Int) + 1) hn' u0 = putN (256 - hn') hn' b0 u0 := by unfold bytesC; congr 1; omega
  have HFIN := Lib.hid hfin
  clear hfin
  have hblk0 := Blk.new w 23 #[.int .i64 ((b0 : Int) + 1), .int .i64 (hn' : Int), .int .i64 s, .int .i64 d]
  have hown0 := hown.alloc (.cells #[.int .i64 ((b0 : Int) + 1), .int .i64 (hn' : Int), .int .i64 s, .int .i64 d] 23)
  have hBw : Below B w (w.alloc (.cells #[.int .i64 ((b0 : Int) + 1), .int .i64 (hn' : Int), .int .i64 s, .int .i64 d] 23)) := (below_alloc w _).mono hB0
  go_enter Try.func60, Try.ntmps60
  go_wp2
  go_loopw [0, 2, 14] (fun x0 x2 i wr => ∃ (j u' : Nat) (a' : Option Addr) (c' : Nat) (D : List UInt8), j ≤ b0 ∧ i = .int .i64 j ∧ x2 = .int .i64 u' ∧ u' ≤ 4294967296 ∧ x0 = .slice a' (n + j) c' ∧ Own wr B 5 bE a' (n + j) c' (l ++ D) ∧ D ++ putN (256 - hn') hn' (b0 - j) u' = putN (256 - hn') hn' b0 u0 ∧ Blk wr w.heap.size 23 #[.int .i64 ((b0 : Int) + 1), .int .i64 (hn' : Int), .int .i64 s, .int .i64 d] ∧ Below B w wr) (fun _ _ i _ => b0 - (intOf i).toNat)
  case atStart => exact ⟨0, u0, a, c, [], by omega, rfl, rfl, by omega, rfl, by simpa using hown0, rfl, hblk0, hBw⟩
  case round =>
    clear hblk0 hown0 hBw hown
    obtain ⟨j, u', a', c', D, hj, rfl, rfl, hu', rfl, hownr, hrel, hblk, hBr⟩ := hrel
    obtain ⟨hc0, hc1, -, -⟩ := hblk.four
    have hsz : B ≤ wr.heap.size := Nat.le_trans hB0 hBr.size
    have HREL := Lib.hid hrel
    clear hrel
    by_cases hlt : j < b0
    · by_cases hlow : u' < 256 - hn'
      · have hs1 := Lib.hid (putN_small (256 - hn') hn' (b0 - j) u' hlow)
        have HC := Lib.hid (byteS u' (by omega))
        go_wp2_with (at_builtin; refine wpList_push slByte rfl _ _ rfl rfl rfl hownr (UInt8.ofNat (u' % 256)) ⟨wr.heap.size, 0, none⟩ rfl (cell_push HC.out _ _) rfl (by omega) (by unfold maxLen; omega) hsz ?_; intro a2 c2 w2 hown2 hg2; have hB2 := hownr.step hBr hg2 hsz; clear hownr hBr hg2)
        go_ret
        refine ⟨_, _, _, rfl, by omega, ?_, hB2⟩
        rw [HFIN.out, ← HREL.out, hs1.out, ← List.append_assoc]; exact hown2
      · have hstep : putN (256 - hn') hn' (b0 - j) u' = UInt8.ofNat ((256 - hn' + (u' - (256 - hn')) % hn') % 256) :: putN (256 - hn') hn' (b0 - (j + 1)) ((u' - (256 - hn')) / hn') := by
          obtain ⟨k, hk⟩ : ∃ k, b0 - j = k + 1 := ⟨b0 - j - 1, by omega⟩
          rw [hk, putN, if_neg hlow]; congr 2; omega
        have HST := Lib.hid hstep
        have hq : ((u' : Int) - (256 - (hn' : Int))) / (hn' : Int) = (((u' - (256 - hn')) / hn' : Nat) : Int) := by
          rw [show (u' : Int) - (256 - (hn' : Int)) = ((u' - (256 - hn') : Nat) : Int) by omega]; rfl
        have hr : ((u' : Int) - (256 - (hn' : Int))) % (hn' : Int) = (((u' - (256 - hn')) % hn' : Nat) : Int) := by
          rw [show (u' : Int) - (256 - (hn' : Int)) = ((u' - (256 - hn') : Nat) : Int) by omega]; rfl
        have hle : (u' - (256 - hn')) / hn' ≤ u' := Nat.le_trans (Nat.div_le_self _ _) (by omega)
        have hmod : (u' - (256 - hn')) % hn' < hn' := Nat.mod_lt _ (by omega)
        have hne := hownr.ne_blk hblk (by decide)
        have hnum : 0 ≤ (u' : Int) - (256 - (hn' : Int)) := by omega
        have hnpos : (0 : Int) < hn' := by omega
        have HC := Lib.hid (byteS (256 - hn' + (u' - (256 - hn')) % hn') (by omega))
        have hcb : (256 - (hn' : Int)) + ((u' : Int) - (256 - (hn' : Int))) % (hn' : Int) = ((256 - hn' + (u' - (256 - hn')) % hn' : Nat) : Int) := by rw [hr]; omega
        have HCB := Lib.hid hcb
        have HQ := Lib.hid hq
        clear hcb hq hr
        have hr0 : 0 ≤ ((u' : Int) - (256 - (hn' : Int))) % (hn' : Int) := Int.emod_nonneg _ (by omega)
        have hr1 : ((u' : Int) - (256 - (hn' : Int))) % (hn' : Int) < (hn' : Int) := Int.emod_lt_of_pos _ hnpos
        have hq0 : 0 ≤ ((u' : Int) - (256 - (hn' : Int))) / (hn' : Int) := Int.ediv_nonneg hnum (by omega)
        have hq1 : ((u' : Int) - (256 - (hn' : Int))) / (hn' : Int) ≤ (u' : Int) := by rw [HQ.out]; omega
        have hne0 : ¬ (hn' : Int) = 0 := by omega
        go_wp2_with (at_builtin; refine wpList_push slByte rfl _ _ rfl rfl rfl hownr (UInt8.ofNat ((256 - hn' + (u' - (256 - hn')) % hn') % 256)) ⟨wr.heap.size, 0, none⟩ rfl (cell_push ((congrArg (Value.int .u8) HCB.out).trans HC.out) _ _) rfl (by omega) (by unfold maxLen; omega) hsz ?_; intro a2 c2 w2 hown2 hg2; have hB2 := hownr.step hBr hg2 hsz; have hblk2 := hblk.grown hg2 hne; obtain ⟨hd0, hd1, -, -⟩ := hblk2.four; clear hownr hBr hg2 hblk hc0 hc1)
        refine ⟨⟨j + 1, (u' - (256 - hn')) / hn', a2, c2, D ++ [UInt8.ofNat ((256 - hn' + (u' - (256 - hn')) % hn') % 256)], by omega, by go_num, by rw [HQ.out], by omega, rfl, by rw [← List.append_assoc]; exact hown2, ?_, hblk2, hB2⟩, by simp [intOf]; omega⟩
        rw [← HREL.out, HST.out, List.append_assoc]; rfl
    · have hj' : j = b0 := by omega
      subst hj'
      have HC := Lib.hid (byteI u')
      go_wp2_with (at_builtin; refine wpList_push slByte rfl _ _ rfl rfl rfl hownr (UInt8.ofNat (u' % 256)) ⟨wr.heap.size, 0, none⟩ rfl (cell_push HC.out _ _) rfl (by omega) (by unfold maxLen; omega) hsz ?_; intro a2 c2 w2 hown2 hg2; have hB2 := hownr.step hBr hg2 hsz; clear hownr hBr hg2)
      go_ret
      refine ⟨_, _, _, rfl, by omega, ?_, hB2⟩
      rw [HFIN.out, ← HREL.out, Nat.sub_self, ← List.append_assoc]; exact hown2
set_option maxRecDepth 100000 in
set_option maxHeartbeats 4000000 in
theorem rBytes_any (b h s d u : Int) (w : World) (hb : 1 ≤ b ∧ b ≤ 5) (hh : 2 ≤ h ∧ h ≤ 256) (hu : 0 ≤ u ∧ u ≤ 4294967296) :
  Calls Try.prog 22 #[.agg #[.int .i64 b, .int .i64 h, .int .i64 s, .int .i64 d], .int .i64 u] w fun e w' => ∃ a' n' c', e = .returned (.slice a' n' c') ∧ n' ≤ 5 ∧ Own w' w.heap.size 5 bE a' n' c' (bytesC b h u) ∧ Below w.heap.size w w' := by
  obtain ⟨hn', rfl⟩ := Int.eq_ofNat_of_zero_le (show 0 ≤ h by omega)
  obtain ⟨u0, rfl⟩ := Int.eq_ofNat_of_zero_le hu.1
  obtain ⟨b0, rfl⟩ : ∃ k : Nat, b = (k : Int) + 1 := ⟨(b - 1).toNat, by omega⟩
  have hfin : bytesC ((b0 : Int) + 1) hn' u0 = putN (256 - hn') hn' b0 u0 := by unfold bytesC; congr 1; omega
  have HFIN := Lib.hid hfin
  clear hfin
  have hblk0 := Blk.new w 23 #[.int .i64 ((b0 : Int) + 1), .int .i64 (hn' : Int), .int .i64 s, .int .i64 d]
  have hBw := below_alloc w (.cells #[.int .i64 ((b0 : Int) + 1), .int .i64 (hn' : Int), .int .i64 s, .int .i64 d] 23)
  go_enter Try.func22, Try.ntmps22
  go_wp2
  go_loopw [1, 5, 6] (fun x1 x5 i wr => ∃ (j u' : Nat) (a' : Option Addr) (c' : Nat) (D : List UInt8), j ≤ b0 ∧ i = .int .i64 ((j : Int) + 1) ∧ x1 = .int .i64 u' ∧ u' ≤ 4294967296 ∧ x5 = .slice a' j c' ∧ Own wr w.heap.size 5 bE a' j c' D ∧ D ++ putN (256 - hn') hn' (b0 - j) u' = putN (256 - hn') hn' b0 u0 ∧ Blk wr w.heap.size 23 #[.int .i64 ((b0 : Int) + 1), .int .i64 (hn' : Int), .int .i64 s, .int .i64 d] ∧ Below w.heap.size w wr) (fun _ _ i _ => b0 + 1 - (intOf i).toNat)
  case atStart => exact ⟨0, u0, none, 0, [], by omega, rfl, rfl, by omega, rfl, Own.nil, rfl, hblk0, hBw⟩
  case round =>
    clear hblk0 hBw
    obtain ⟨j, u', a', c', D, hj, rfl, rfl, hu', rfl, hownr, hrel, hblk, hBr⟩ := hrel
    obtain ⟨hc0, hc1, -, -⟩ := hblk.four
    have hsz : w.heap.size ≤ wr.heap.size := hBr.size
    have HREL := Lib.hid hrel
    clear hrel
    by_cases hlow : u' < 256 - hn'
    · have hs1 := Lib.hid (putN_small (256 - hn') hn' (b0 - j) u' hlow)
      have HC := Lib.hid (byteS u' (by omega))
      go_wp2_with (at_builtin; refine wpList_push slByte rfl _ _ rfl rfl rfl hownr (UInt8.ofNat (u' % 256)) ⟨wr.heap.size, 0, none⟩ rfl (cell_push HC.out _ _) rfl (by omega) (by unfold maxLen; omega) hsz ?_; intro a2 c2 w2 hown2 hg2; have hB2 := hownr.step hBr hg2 hsz; clear hownr hBr hg2)
      go_ret
      refine ⟨_, _, _, rfl, by omega, ?_, hB2⟩
      rw [HFIN.out, ← HREL.out, hs1.out]; exact hown2
    · by_cases hlt : j < b0
      · have hstep : putN (256 - hn') hn' (b0 - j) u' = UInt8.ofNat ((256 - hn' + (u' - (256 - hn')) % hn') % 256) :: putN (256 - hn') hn' (b0 - (j + 1)) ((u' - (256 - hn')) / hn') := by
          obtain ⟨k, hk⟩ : ∃ k, b0 - j = k + 1 := ⟨b0 - j - 1, by omega⟩
          rw [hk, putN, if_neg hlow]; congr 2; omega
        have HST := Lib.hid hstep
        have hq : ((u' : Int) - (256 - (hn' : Int))) / (hn' : Int) = (((u' - (256 - hn')) / hn' : Nat) : Int) := by
          rw [show (u' : Int) - (256 - (hn' : Int)) = ((u' - (256 - hn') : Nat) : Int) by omega]; rfl
        have hr : ((u' : Int) - (256 - (hn' : Int))) % (hn' : Int) = (((u' - (256 - hn')) % hn' : Nat) : Int) := by
          rw [show (u' : Int) - (256 - (hn' : Int)) = ((u' - (256 - hn') : Nat) : Int) by omega]; rfl
        have hle : (u' - (256 - hn')) / hn' ≤ u' := Nat.le_trans (Nat.div_le_self _ _) (by omega)
        have hmod : (u' - (256 - hn')) % hn' < hn' := Nat.mod_lt _ (by omega)
        have hne := hownr.ne_blk hblk (by decide)
        have hnum : 0 ≤ (u' : Int) - (256 - (hn' : Int)) := by omega
        have hnpos : (0 : Int) < hn' := by omega
        have HC := Lib.hid (byteS (256 - hn' + (u' - (256 - hn')) % hn') (by omega))
        have hcb : (256 - (hn' : Int)) + ((u' : Int) - (256 - (hn' : Int))) % (hn' : Int) = ((256 - hn' + (u' - (256 - hn')) % hn' : Nat) : Int) := by rw [hr]; omega
        have HCB := Lib.hid hcb
        have HQ := Lib.hid hq
        clear hcb hq hr
        have hr0 : 0 ≤ ((u' : Int) - (256 - (hn' : Int))) % (hn' : Int) := Int.emod_nonneg _ (by omega)
        have hr1 : ((u' : Int) - (256 - (hn' : Int))) % (hn' : Int) < (hn' : Int) := Int.emod_lt_of_pos _ hnpos
        have hq0 : 0 ≤ ((u' : Int) - (256 - (hn' : Int))) / (hn' : Int) := Int.ediv_nonneg hnum (by omega)
        have hq1 : ((u' : Int) - (256 - (hn' : Int))) / (hn' : Int) ≤ (u' : Int) := by rw [HQ.out]; omega
        have hne0 : ¬ (hn' : Int) = 0 := by omega
        have hji : ((j : Int) + 1 == (b0 : Int) + 1) = false := beq_eq_false_iff_ne.2 (by omega)
        go_wp2_with (at_builtin; refine wpList_push slByte rfl _ _ rfl rfl rfl hownr (UInt8.ofNat ((256 - hn' + (u' - (256 - hn')) % hn') % 256)) ⟨wr.heap.size, 0, none⟩ rfl (cell_push ((congrArg (Value.int .u8) HCB.out).trans HC.out) _ _) rfl (by omega) (by unfold maxLen; omega) hsz ?_; intro a2 c2 w2 hown2 hg2; have hB2 := hownr.step hBr hg2 hsz; have hblk2 := hblk.grown hg2 hne; obtain ⟨hd0, hd1, -, -⟩ := hblk2.four; clear hownr hBr hg2 hblk hc0 hc1)
        refine ⟨⟨j + 1, (u' - (256 - hn')) / hn', a2, c2, D ++ [UInt8.ofNat ((256 - hn' + (u' - (256 - hn')) % hn') % 256)], by omega, by go_num, by rw [HQ.out], by omega, rfl, hown2, ?_, hblk2, hB2⟩, by simp [intOf]; omega⟩
        rw [← HREL.out, HST.out, List.append_assoc]; rfl
      · have hj' : j = b0 := by omega
        subst hj'
        have HC := Lib.hid (byteI u')
        have hji : ((j : Int) + 1 == (j : Int) + 1) = true := by simp
        go_wp2_with (at_builtin; refine wpList_push slByte rfl _ _ rfl rfl rfl hownr (UInt8.ofNat (u' % 256)) ⟨wr.heap.size, 0, none⟩ rfl (cell_push HC.out _ _) rfl (by omega) (by unfold maxLen; omega) hsz ?_; intro a2 c2 w2 hown2 hg2; have hB2 := hownr.step hBr hg2 hsz; clear hownr hBr hg2)
        go_ret
        refine ⟨_, _, _, rfl, by omega, ?_, hB2⟩
        rw [HFIN.out, ← HREL.out, Nat.sub_self]; exact hown2
end Go.Proofs.Ytnmdgmjheopolaa
