/- The walk of BitioWrites. -/
import Derived.Test.YtmmgcfhoigpomaaBitBack
import Derived.Test.YtmmgcfhoigpomaaBitW3
import Derived.Test.YtmmgcfhoigpomaaGrow2
namespace Go.Proofs.Ytmmgcfhoigpomaa
open Go.RowKit
set_option linter.unusedVariables false
set_option linter.unusedSimpArgs false

theorem below_drew0 {w : World} : Below w.heap.size w w.drew := (Below.refl _ _).drew
theorem blk_grownBool {w w' : World} {q : Nat} {T : TypeId} {cs : Array Value} {B : Nat} {a : Option Addr} {n c : Nat} {l : List Bool} (hT : T ≠ 4) (hb : Blk w q T cs) (ho : Own w B 4 Value.bool a n c l) (hg : w.grownBy w' (Value.slice a n c).ownBlock) : Blk w' q T cs := by
  refine hb.grown hg ?_
  intro e
  obtain ⟨cs', fr, hq⟩ := own_bool_row ho q e.symm
  have := hq.symm.trans hb
  simp at this
  exact hT this.2.1.symm

set_option maxHeartbeats 16000000 in
set_option maxRecDepth 100000 in
theorem walkBitioWrites (a0 : Option Addr) (n0 c0 : Nat) (F0 : Nat → Nat → Value) (w : World)
    (hm0 : n0 ≤ maxLen) (hr0 : RdN w a0 n0 3 F0)
    (hf0 : ∀ i, i < n0 → ∃ (x0 x1 : Int) (x2 : Bool), F0 i 0 = .int .u32 x0 ∧ F0 i 1 = .int .i64 x1 ∧ F0 i 2 = .bool x2 ∧ (0 ≤ x0 ∧ x0 < 4294967296) ∧ (-9223372036854775808 ≤ x1 ∧ x1 ≤ 9223372036854775807)) :
    Calls Try.prog 5 #[.slice a0 n0 c0] w fun e w' => e = .returned (.bool true) ∧ Below w.heap.size w w' := by
  unfold maxLen at hm0
  have hF : ∀ i, i < n0 → F0 i 0 = .int .u32 ((pV F0 i : Nat) : Int) ∧ F0 i 1 = .int .i64 (pN F0 i) ∧ (∃ b, F0 i 2 = .bool b) ∧ pV F0 i < 4294967296 ∧ (-9223372036854775808 ≤ pN F0 i ∧ pN F0 i ≤ 9223372036854775807) := by
    intro i hi
    obtain ⟨x0, x1, x2, e0, e1, e2, r0, r1⟩ := hf0 i hi
    have p0 : pV F0 i = x0.toNat := by unfold pV; rw [e0]
    have p1 : pN F0 i = x1 := by unfold pN; rw [e1]
    rw [p0, p1]
    exact ⟨by rw [e0, Int.toNat_of_nonneg r0.1], e1, ⟨x2, e2⟩, by omega, r1⟩
  clear hf0
  go_enter Try.func5, Try.ntmps5
  go_wp2_with fail
  refine (fixed01_any _).mono ?_
  rintro e w1 ⟨rfl, hb1⟩
  have hs1 := hb1.size
  by_cases h200 : n0 > 200
  · clear hr0 hF
    go_wp2
    go_ret
    exact ⟨rfl, hb1⟩
  · have HR0 := Lib.hid (hr0.below hb1)
    have HF0 := Lib.hid hF
    have HB1 := Lib.hid hb1
    clear hr0 hF hb1
    go_wp2_with fail
    refine (wNew_any w1).mono ?_
    rintro e w2 ⟨g, rfl, hw2, hb2⟩
    go_wp2
    go_loopw [4, 15] (fun av i wr => ∃ (k : Nat) (a4 : Option Addr) (na c4 : Nat) (A : List Bool), (k ≤ n0 ∧ na ≤ 40 * k) ∧ i = .int .i64 k ∧ av = .slice a4 na c4 ∧ Own wr w1.heap.size 4 Value.bool a4 na c4 A ∧ WBits wr w1.heap.size g A ∧ Below w1.heap.size w1 wr) (fun _ i _ => n0 - (intOf i).toNat)
    case atStart => exact ⟨0, none, 0, 0, [], ⟨by omega, by omega⟩, rfl, rfl, Own.nil, hw2, hb2⟩
    case round =>
      obtain ⟨k, a4, na, c4, A, ⟨hk, hna⟩, rfl, rfl, hown, hw, hB⟩ := hrel
      clear hw2 hb2
      by_cases hlt : k < n0
      · skip
        obtain ⟨b, off, rfl, hcells⟩ := (HR0.out.below hB).at hlt
        obtain ⟨e0, e1, ⟨al, e2⟩, hv, hn⟩ := HF0.out k hlt
        have hc0 := hcells 0 (by decide)
        have hc1 := hcells 1 (by decide)
        have hc2 := hcells 2 (by decide)
        rw [e0, Nat.add_zero] at hc0
        rw [e1, ← Nat.add_assoc] at hc1
        rw [e2, ← Nat.add_assoc] at hc2
        clear hcells e0 e1 e2
        generalize pV F0 k = v at hv hc0
        generalize pN F0 k = n at hn hc1
        have hal := below_alloc wr (.cells #[.int .u32 (v : Int), .int .i64 n, .bool al] 50)
        have hw1 := hw.below hal
        have hown1 := hown.below hal
        have hB1 := hB.alloc hB.size (.cells #[.int .u32 (v : Int), .int .i64 n, .bool al] 50)
        have hbk1 := Blk.new wr 50 #[.int .u32 (v : Int), .int .i64 n, .bool al]
        clear hw hown hB hal
        cases al with
        | false =>
          go_wp2_with fail
          generalize wr.alloc (.cells #[.int .u32 (v : Int), .int .i64 n, .bool false] 50) = wx at hw1 hown1 hB1 hbk1 ⊢
          generalize wr.heap.size = q at hbk1 ⊢
          have hw := hw1
          have hown := hown1
          have hB := hB1
          have hbk := hbk1
          clear hw1 hown1 hB1 hbk1 hc0 hc1 hc2
          obtain ⟨Ap, hAp⟩ : ∃ Ap, A = Ap := ⟨_, rfl⟩
          subst hAp
          have hnl := hown.len
          have d0 := hbk.cell (i := 0) rfl
          have d1 := hbk.cell (i := 1) rfl
          refine (wPutK_any w1.heap.size g A v n _ hw hB.size (by omega) hv hn.1 hn.2).mono ?_
          rintro e w6 ⟨rfl, hw6, hb6, hk6⟩
          have hown6 := hk6.bools hown
          have hB6 := hB.trans hb6
          have hbk6 := hk6.blk hbk (by decide) (by decide)
          have d0 := hbk6.cell (i := 0) rfl
          have d1 := hbk6.cell (i := 1) rfl
          clear hown hB hw hb6 hk6 hbk hbk6
          by_cases hlo : n < 0
          · rw [if_pos (.inl hlo)] at hw6
            go_wp2_with fail
            refine (wLen_any w1.heap.size g A w6 hw6 (by rw [hnl]; omega)).mono ?_
            rw [hnl]
            rintro e w' ⟨rfl, kd, rfl⟩
            have hw9 := hw6.drewN kd
            have hown9 := hown6.below (below_drewN w6 w6.heap.size kd)
            have hB9 := hB6.trans (below_drewN w6 _ kd)
            generalize w6.drewN kd = w9 at hw9 hown9 hB9 ⊢
            clear hw6 hown6 hB6
            go_wp2
            go_roundw
            case rel => exact ⟨k + 1, a4, na, c4, A, ⟨by omega, by omega⟩, by go_num, rfl, hown9, hw9, hB9⟩
            case measure => simp [intOf]; omega
          · by_cases hhi : n > 32
            · rw [if_pos (.inr hhi)] at hw6
              go_wp2_with fail
              refine (wLen_any w1.heap.size g A w6 hw6 (by rw [hnl]; omega)).mono ?_
              rw [hnl]
              rintro e w' ⟨rfl, kd, rfl⟩
              have hw9 := hw6.drewN kd
              have hown9 := hown6.below (below_drewN w6 w6.heap.size kd)
              have hB9 := hB6.trans (below_drewN w6 _ kd)
              generalize w6.drewN kd = w9 at hw9 hown9 hB9 ⊢
              clear hw6 hown6 hB6
              go_wp2
              go_roundw
              case rel => exact ⟨k + 1, a4, na, c4, A, ⟨by omega, by omega⟩, by go_num, rfl, hown9, hw9, hB9⟩
              case measure => simp [intOf]; omega
            · rw [if_neg (by omega)] at hw6
              obtain ⟨m, rfl⟩ := Int.eq_ofNat_of_zero_le (show 0 ≤ n by omega)
              rw [Int.toNat_natCast] at hw6
              go_wp2_with fail
              refine (bits_any v m w6 hv (by omega)).mono ?_
              rintro e w7 ⟨a13, c13, rfl, hown13, hb7⟩
              rw [Int.toNat_natCast] at hown13 ⊢
              have hown7 := hown6.below hb7
              have hw7 := hw6.below hb7
              have hB7 := below_trans0 hB6 hB6.size hb7
              have hs7 := hB7.size
              have hbl := bitsL_length v m
              have hrd13 := hown13.rd
              clear hown6 hw6 hB6 hb7 hown13
              go_wp2_with (at_builtin; refine wpList_cat slBool rfl _ _ rfl rfl hown7 rfl hbl hrd13 (bool_one _) (by omega) (by unfold maxLen; omega) hs7 ?_; intro a8 c8 w8 hown6 hg8 _ _; have hw6 := WOk.grownBool hw7 hg8 (own_bool_row hown7); have hB6 := hown7.step hB7 hg8 hs7; clear hown7 hw7 hB7 hg8 hrd13)
              replace hw6 : WBits w8 w1.heap.size g (A ++ bitsL v m) := hw6
              refine (wLen_any w1.heap.size g (A ++ bitsL v m) w8 hw6 (by rw [List.length_append, hbl, hnl]; omega)).mono ?_
              rw [List.length_append, hbl, hnl]
              rintro e w' ⟨rfl, kd, rfl⟩
              have hw9 := hw6.drewN kd
              have hown9 := hown6.below (below_drewN w8 w8.heap.size kd)
              have hB9 := hB6.trans (below_drewN w8 _ kd)
              generalize w8.drewN kd = w9 at hw9 hown9 hB9 ⊢
              clear hw6 hown6 hB6
              go_wp2
              go_roundw
              case rel => exact ⟨k + 1, a8, na + m, c8, A ++ bitsL v m, ⟨by omega, by omega⟩, by go_num, rfl, hown9, hw9, hB9⟩
              case measure => simp [intOf]; omega
        | true =>
          go_wp2_with fail
          have hnl := hown1.len
          refine (wAlign_any w1.heap.size g A _ hw1 hB1.size (by omega)).mono ?_
          rintro e w5 ⟨rfl, hw5, hb5, hk5⟩
          have hown5 := hk5.bools hown1
          have hB5 := hB1.trans hb5
          have hbk5 := hk5.blk hbk1 (by decide) (by decide)
          generalize wr.heap.size = q at hbk5 ⊢
          have hAl := alignBits_len A
          clear hw1 hown1 hB1 hbk1 hc0 hc1 hc2 hb5 hk5
          go_wp2
          go_loopw [4] (fun av wr => ∃ (j : Nat) (a' : Option Addr) (c' : Nat), j ≤ (8 - na % 8) % 8 ∧ av = .slice a' (na + j) c' ∧ Own wr w1.heap.size 4 Value.bool a' (na + j) c' (A ++ List.replicate j false) ∧ WBits wr w1.heap.size g (alignBits A) ∧ Below w1.heap.size w1 wr ∧ Blk wr q 50 #[.int .u32 (v : Int), .int .i64 n, .bool true]) (fun av _ => match av with | .slice _ x _ => na + 8 - x | _ => 0)
          case atStart => exact ⟨0, a4, c4, Nat.zero_le _, rfl, by simpa using hown5, hw5, hB5, hbk5⟩
          case round =>
            obtain ⟨j, a', c', hj, rfl, hown, hw, hB, hbk⟩ := hrel
            clear hown5 hw5 hB5 hbk5
            have hs := hB.size
            by_cases hend : j = (8 - na % 8) % 8
            · have h8 : (na + j) % 8 = 0 := by omega
              have h8i : ((na : Int) + (j : Int)) % 8 = 0 := by omega
              have hAp : A ++ List.replicate j false = alignBits A := by unfold alignBits; rw [hnl, ← hend]
              rw [hAp] at hown
              generalize alignBits A = Ap at hown hw
              obtain ⟨nb, hnb⟩ : ∃ nb, na + j = nb := ⟨_, rfl⟩
              have hnb40 : nb ≤ 40 * k + 7 := by omega
              rw [hnb] at hown
              have hnbi : (na : Int) + (j : Int) = (nb : Int) := by omega
              rw [hnb]
              rw [hnbi] at h8i
              clear hAp h8 hj hend hnb hnbi hAl
              have hnl := hown.len
              have d0 := hbk.cell (i := 0) rfl
              have d1 := hbk.cell (i := 1) rfl
              go_wp2_with fail
              refine (wPutK_any w1.heap.size g Ap v n _ hw hB.size (by omega) hv hn.1 hn.2).mono ?_
              rintro e w6 ⟨rfl, hw6, hb6, hk6⟩
              have hown6 := hk6.bools hown
              have hB6 := hB.trans hb6
              have hbk6 := hk6.blk hbk (by decide) (by decide)
              have d0 := hbk6.cell (i := 0) rfl
              have d1 := hbk6.cell (i := 1) rfl
              clear hown hB hw hb6 hk6 hbk hbk6
              by_cases hlo : n < 0
              · rw [if_pos (.inl hlo)] at hw6
                go_wp2_with fail
                refine (wLen_any w1.heap.size g Ap w6 hw6 (by rw [hnl]; omega)).mono ?_
                rw [hnl]
                rintro e w' ⟨rfl, kd, rfl⟩
                have hw9 := hw6.drewN kd
                have hown9 := hown6.below (below_drewN w6 w6.heap.size kd)
                have hB9 := hB6.trans (below_drewN w6 _ kd)
                generalize w6.drewN kd = w9 at hw9 hown9 hB9 ⊢
                clear hw6 hown6 hB6
                go_wp2
                go_roundw
                case rel => exact ⟨k + 1, a', nb, c', Ap, ⟨by omega, by omega⟩, by go_num, rfl, hown9, hw9, hB9⟩
                case measure => simp [intOf]; omega
              · by_cases hhi : n > 32
                · rw [if_pos (.inr hhi)] at hw6
                  go_wp2_with fail
                  refine (wLen_any w1.heap.size g Ap w6 hw6 (by rw [hnl]; omega)).mono ?_
                  rw [hnl]
                  rintro e w' ⟨rfl, kd, rfl⟩
                  have hw9 := hw6.drewN kd
                  have hown9 := hown6.below (below_drewN w6 w6.heap.size kd)
                  have hB9 := hB6.trans (below_drewN w6 _ kd)
                  generalize w6.drewN kd = w9 at hw9 hown9 hB9 ⊢
                  clear hw6 hown6 hB6
                  go_wp2
                  go_roundw
                  case rel => exact ⟨k + 1, a', nb, c', Ap, ⟨by omega, by omega⟩, by go_num, rfl, hown9, hw9, hB9⟩
                  case measure => simp [intOf]; omega
                · rw [if_neg (by omega)] at hw6
                  obtain ⟨m, rfl⟩ := Int.eq_ofNat_of_zero_le (show 0 ≤ n by omega)
                  rw [Int.toNat_natCast] at hw6
                  go_wp2_with fail
                  refine (bits_any v m w6 hv (by omega)).mono ?_
                  rintro e w7 ⟨a13, c13, rfl, hown13, hb7⟩
                  rw [Int.toNat_natCast] at hown13 ⊢
                  have hown7 := hown6.below hb7
                  have hw7 := hw6.below hb7
                  have hB7 := below_trans0 hB6 hB6.size hb7
                  have hs7 := hB7.size
                  have hbl := bitsL_length v m
                  have hrd13 := hown13.rd
                  clear hown6 hw6 hB6 hb7 hown13
                  go_wp2_with (at_builtin; refine wpList_cat slBool rfl _ _ rfl rfl hown7 rfl hbl hrd13 (bool_one _) (by omega) (by unfold maxLen; omega) hs7 ?_; intro a8 c8 w8 hown6 hg8 _ _; have hw6 := WOk.grownBool hw7 hg8 (own_bool_row hown7); have hB6 := hown7.step hB7 hg8 hs7; clear hown7 hw7 hB7 hg8 hrd13)
                  replace hw6 : WBits w8 w1.heap.size g (Ap ++ bitsL v m) := hw6
                  refine (wLen_any w1.heap.size g (Ap ++ bitsL v m) w8 hw6 (by rw [List.length_append, hbl, hnl]; omega)).mono ?_
                  rw [List.length_append, hbl, hnl]
                  rintro e w' ⟨rfl, kd, rfl⟩
                  have hw9 := hw6.drewN kd
                  have hown9 := hown6.below (below_drewN w8 w8.heap.size kd)
                  have hB9 := hB6.trans (below_drewN w8 _ kd)
                  generalize w8.drewN kd = w9 at hw9 hown9 hB9 ⊢
                  clear hw6 hown6 hB6
                  go_wp2
                  go_roundw
                  case rel => exact ⟨k + 1, a8, nb + m, c8, Ap ++ bitsL v m, ⟨by omega, by omega⟩, by go_num, rfl, hown9, hw9, hB9⟩
                  case measure => simp [intOf]; omega
            · have h8 : ((na : Int) + (j : Int)) % 8 ≠ 0 := by omega
              have h8b : (((na : Int) + (j : Int)) % 8 != 0) = true := bne_iff_ne.2 h8
              have hst : A ++ List.replicate j false ++ [false] = A ++ List.replicate (j + 1) false := by rw [List.append_assoc, ← List.replicate_succ']
              have HST := Lib.hid hst
              have hj9 : j < 8 := by omega
              clear hst
              go_wp2_with (at_builtin; refine wpList_push slBool rfl _ _ rfl rfl rfl hown false ⟨wr.heap.size, 0, none⟩ rfl (cell_push rfl _ _) rfl (by omega) (by unfold maxLen; omega) hs ?_; intro a2 c2 w8 hown2 hg2; have hw2 := WOk.grownBool hw hg2 (own_bool_row hown); have hB2 := hown.step hB hg2 hs; have hbk2 := blk_grownBool (by decide) hbk hown hg2; clear hown hw hB hbk hg2)
              go_roundw
              case rel => exact ⟨j + 1, a2, c2, by omega, by congr 1, by rw [← HST.out]; exact hown2, hw2, hB2, hbk2⟩
              case measure => show na + 8 - (na + j + 1) < na + 8 - (na + j); omega
      · have hk' : n0 = k := by omega
        subst hk'
        have HW := Lib.hid hw
        have HRD := Lib.hid hown.rd
        have HNL := Lib.hid hown.len
        have HCAP : Hid (na ≤ c4 ∧ c4 ≤ maxLen) := Lib.hid ⟨hown.le_cap, hown.cap_max⟩
        have hB6 := below_trans0 HB1.out hs1 hB
        clear hw hown
        go_wp2_with fail
        refine wp_region_grow (by kernel_rfl) (by kernel_rfl) (by rfl) ?_
        apply gw_val
        · intro a' w' hk
          refine ⟨wanted_none rfl, ?_⟩
          simp [Oper.looksAt, Op.operands, Call.operands, KnownAt, List.lookup, consD] at hk
          simp [execOp, Act.eval, hk, go_sem]
          all_goals rfl
        refine gw_call _ #[.pointer (some ⟨g, 0, none⟩)] (BytesG (bytesL A)) (mono_bytes _) (fun a' w' hk => ?_) (fun w' hb => (wBytes_any w1.heap.size g A w' (HW.out.below (below_drew0.trans hb)) (by have := HNL.out; omega)).mono ?_) ?_
        · refine ⟨wanted_none rfl, ?_⟩
          simp [Oper.looksAt, Op.operands, Call.operands, KnownAt, List.lookup, consD] at hk
          simp [execOp, Act.eval, hk, go_sem]
          all_goals rfl
        · rintro e w'' ⟨p, q, r, rfl, hbuf, hB⟩
          exact ⟨_, rfl, ⟨p, q, r, rfl, hbuf.len, hbuf.rd⟩, hB⟩
        refine gw_str Try.underlying22 Try.underlying5 Try.underlying9 58 (bytesL A) rfl (fun a' w' hb hk => ?_) ?_
        · exact ⟨wanted_none rfl, by simpa [KnownAt, List.lookup, consD] using hk 58 (by decide)⟩
        apply gw_val
        · intro a' w' hk
          refine ⟨wanted_none rfl, ?_⟩
          simp [Oper.looksAt, Op.operands, Call.operands, KnownAt, List.lookup, consD] at hk
          simp [execOp, Act.eval, hk, go_sem]
          all_goals rfl
        refine gw_call _ #[.slice a4 na c4] (BytesG (bytesL A)) (mono_bytes _) (fun a' w' hk => ?_) (fun w' hb => (rBytes_any a4 na c4 A w' HNL.out (by omega) HCAP.out.1 HCAP.out.2 (HRD.out.below (below_drew0.trans hb))).mono ?_) ?_
        · refine ⟨wanted_none rfl, ?_⟩
          simp [Oper.looksAt, Op.operands, Call.operands, KnownAt, List.lookup, consD] at hk
          simp [execOp, Act.eval, hk, go_sem]
          all_goals rfl
        · rintro e w'' ⟨p, q, r, rfl, hbuf, hB⟩
          exact ⟨_, rfl, ⟨p, q, r, rfl, hbuf.len, hbuf.rd⟩, hB⟩
        refine gw_str Try.underlying22 Try.underlying5 Try.underlying9 61 (bytesL A) rfl (fun a' w' hb hk => ?_) ?_
        · exact ⟨wanted_none rfl, by simpa [KnownAt, List.lookup, consD] using hk 61 (by decide)⟩
        apply gw_val
        · intro a' w' hk
          refine ⟨wanted_none rfl, ?_⟩
          simp [Oper.looksAt, Op.operands, Call.operands, KnownAt, List.lookup, consD] at hk
          simp [execOp, Act.eval, hk, go_sem]
          all_goals rfl
        apply gw_val
        · intro a' w' hk
          refine ⟨wanted_none rfl, ?_⟩
          simp [Oper.looksAt, Op.operands, Call.operands, KnownAt, List.lookup, consD] at hk
          simp [execOp, Act.eval, hk, go_sem]
          all_goals rfl
        intro vs w' hb hall
        simp only [AllS, consD] at hall
        simp only [consD, putAllS, Act.put]
        obtain ⟨h6, -⟩ := hall
        rw [h6]
        simp only [List.setIfInBounds_toArray, List.set_cons_succ, List.set_cons_zero]
        go_wp2
        go_ret
        exact ⟨rfl, below_trans0 hB6.drew hB6.drew.size hb⟩
end Go.Proofs.Ytmmgcfhoigpomaa
