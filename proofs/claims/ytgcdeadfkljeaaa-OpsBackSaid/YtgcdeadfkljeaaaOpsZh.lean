/- Proved: OpsBack, as far as its walk (the law is lifted elsewhere). No condition. -/
import Derived.Test.YtgcdeadfkljeaaaOpsZg
namespace Go.Proofs.Ytgcdeadfkljeaaa
open Go.RowKit
set_option linter.unusedVariables false
set_option linter.unusedSimpArgs false

theorem readK_err {L : List UInt8} (h : (readK L).2 ≠ 0) : (readK L).1 = [] := by
  unfold readK at h ⊢
  by_cases h1 : L.length = 0
  · rw [if_pos h1]
  rw [if_neg h1] at h ⊢
  by_cases h2 : 65536 ≤ L.length
  · rw [if_pos h2]
  rw [if_neg h2] at h ⊢
  by_cases h3 : (stepsK L L.length ⟨0, 0⟩).2.e ≠ 0
  · rw [if_pos h3]
  rw [if_neg h3] at h ⊢
  by_cases h4 : (stepsK L L.length ⟨0, 0⟩).1.all (okP ((stepsK L L.length ⟨0, 0⟩).1.map StepK.at')) = true
  · rw [if_pos h4] at h; exact absurd rfl h
  · rw [if_neg h4]
theorem readK_ok {L : List UInt8} (h : (readK L).2 = 0) : L.length < 65536 ∧ ChG L 0 (readK L).1 L.length ∧ (readK L).1.all (okP ((readK L).1.map StepK.at')) = true := by
  unfold readK at h ⊢
  by_cases h1 : L.length = 0
  · rw [if_pos h1] at h; cases h
  rw [if_neg h1] at h ⊢
  by_cases h2 : 65536 ≤ L.length
  · rw [if_pos h2] at h; cases h
  rw [if_neg h2] at h ⊢
  by_cases h3 : (stepsK L L.length ⟨0, 0⟩).2.e ≠ 0
  · rw [if_pos h3] at h; exact absurd h h3
  rw [if_neg h3] at h ⊢
  by_cases h4 : (stepsK L L.length ⟨0, 0⟩).1.all (okP ((stepsK L L.length ⟨0, 0⟩).1.map StepK.at')) = true
  · rw [if_pos h4]
    exact ⟨by omega, (steps_good (by omega) _ _ (Decidable.not_not.1 h3) (by omega) (Nat.zero_le _)).1, h4⟩
  · rw [if_neg h4] at h; cases h
theorem putK_ok {L : List UInt8} {st : StepK} {p q : Nat} {K : List UInt8} (hg : StG K p st q) (hp : L.length = p) (h1 : goesK (formI st.op) = true → 0 ≤ st.goal ∧ st.goal ≤ 65536) (h2 : ∀ t ∈ st.tgts, 0 ≤ t ∧ t ≤ 65536) : putK L st = (L ++ stB st p, 0) := by
  unfold putK stB
  rw [if_neg hg.op.2.2, if_neg (by rw [hg.right]; decide), if_neg (by rw [hp, hg.fits h1 h2]; decide), hp]
theorem chg_len {L : List UInt8} : ∀ {l : List StepK} {p q : Nat}, ChG L p l q → l.length + p ≤ q
  | [], p, q, h => by have h : p = q := h; simp; omega
  | st :: r, p, q, ⟨p1, h1, h2⟩ => by have := h1.lt.1; have := chg_len h2; rw [List.length_cons]; omega
theorem stg_ok {K : List UInt8} {p q : Nat} {st : StepK} {w : World} {ka : Option Addr} {kn kc : Nat} {ta : Option Addr} {tn tc : Nat} (h : StG K p st q) (hK : K.length ≤ 65536) (hk : st.keys.length = kn ∧ st.tgts.length = tn) (h1 : Rd w nE ka st.keys) (h2 : Rd w nE ta st.tgts) : StvOk w st ka kn kc ta tn tc := by
  have a1 := h.kt
  have a2 := h.vr
  have a3 := h.nr
  have a4 := h.pr
  have a5 := h.gr
  have a6 := h.op
  exact ⟨hk.1, hk.2, by omega, h1, h2, by omega, by omega, by omega, by omega, by omega, fun x hx => by have := h.kr x hx; omega, fun x hx => by have := h.tr x hx; omega⟩
set_option maxRecDepth 100000 in
set_option maxHeartbeats 8000000 in
theorem walkOpsBack (a : Option Addr) (n c : Nat) (L : List UInt8) (w : World) (hl : L.length = n) (hm : n ≤ maxLen) (hr : Rd w bE a L) : Calls Try.prog 7 #[.slice a n c] w fun e w' => e = .returned (.bool true) ∧ Below w.heap.size w w' := by
  have mixed : Try.prog.follows .mixedOrders = true := by kernel_rfl
  have HR := Lib.hid (And.intro hl hr)
  have hm2 : n ≤ 9223372036854775807 := hm
  clear hl hr hm
  go_enter Try.func7, Try.ntmps7
  go_wp2_with fail
  refine (fixed18_any w).mono ?_
  rintro e w1 ⟨rfl, hB1⟩
  have HB1 := Lib.hid hB1
  clear hB1
  by_cases h500 : 500 < n
  · have g5 : (500 : Int) < (n : Int) := by omega
    go_wp2
    go_ret
    exact ⟨rfl, HB1.out⟩
  have g5 : ((500 : Int) < (n : Int)) = False := by simp; omega
  go_wp2_with fail
  refine (read_any a n c L w1 HR.out.1 (by omega) (HR.out.2.below HB1.out)).mono ?_
  rintro e w2 ⟨a2, n2, c2, qs, rfl, hR2, hq2, hB2⟩
  have H2 := Lib.hid (And.intro hR2 (And.intro hq2 (HB1.out.trans (hB2.mono HB1.out.size))))
  have hn2 := hR2.1
  clear hR2 hB2 HB1
  by_cases he : (readK L).2 = 0
  · have HOK := Lib.hid (readK_ok he)
    have HE := Lib.hid he
    have hln : qs.length = (readK L).1.length := by rw [← hq2, List.length_map]
    have hL5 : L.length ≤ 500 := by have := HR.out.1; omega
    have hn5 : n2 ≤ 500 := by have := chg_len HOK.out.2.1; omega
    rw [he]
    clear he hq2 g5
    go_wp2_with fail
    go_loopw [5, 29] (fun x5 x29 wr => ∃ (i : Nat) (p5 : Option Addr) (n5 d5 : Nat) (out : List UInt8) (pos : Nat), i ≤ n2 ∧ x5 = .slice p5 n5 d5 ∧ x29 = .int .i64 (i : Int) ∧ (n5 ≤ 1000 ∧ pos ≤ L.length) ∧ Hid (out.length = n5 ∧ Rd wr bE p5 out) ∧ Hid (ChG L pos ((readK L).1.drop i) L.length ∧ (out = L.take pos ∨ out.length < pos)) ∧ Hid (Below w2.heap.size w2 wr)) (fun _ x29 _ => n2 - (intOf x29).toNat)
    case atStart => exact ⟨0, none, 0, 0, [], 0, Nat.zero_le _, rfl, rfl, by omega, Lib.hid ⟨rfl, Rd.nil⟩, Lib.hid ⟨HOK.out.2.1, .inl (by simp)⟩, Lib.hid (Below.refl _ _)⟩
    case round =>
      obtain ⟨i, p5, n5, d5, out, pos, hi, rfl, rfl, hb5, hO, hC, hW⟩ := hrel
      by_cases hik : i < n2
      · have hil : i < qs.length := by omega
        have hir : i < (readK L).1.length := by omega
        obtain ⟨b, off, rfl, hc, hkt, hrk, hrt⟩ := (H2.out.1.below hW.out).at hil
        have hst : (readK L).1[i]'hir = qs[i].st := by
          have h := congrArg (fun l => l[i]?) H2.out.2.1
          simp only [List.getElem?_map, List.getElem?_eq_getElem hil, List.getElem?_eq_getElem hir, Option.map_some, Option.some.injEq] at h
          exact h.symm
        have HGO := Lib.hid (all_goal HOK.out.2.1 HOK.out.1 HOK.out.2.2 _ (List.getElem_mem hir))
        have hch := hC.out.1
        rw [List.drop_eq_getElem_cons hir] at hch
        obtain ⟨p1, hsg, hch2⟩ := hch
        rw [hst] at hsg HGO
        have HCH := Lib.hid (And.intro hsg hch2)
        clear hst hsg hch2
        generalize qs[i] = q at *
        obtain ⟨st, ka, kn, kc, ta, tn, tc⟩ := q
        simp only at hkt hrk hrt
        have c0 : wr.cell? ⟨b, off + i * 8, none⟩ = some (.int .i64 st.at') := hc 0 (by omega)
        have c1 : wr.cell? ⟨b, off + i * 8 + 1, none⟩ = some (.int .i64 st.op) := hc 1 (by omega)
        have c2 : wr.cell? ⟨b, off + i * 8 + 2, none⟩ = some (.int .i64 st.var) := hc 2 (by omega)
        have c3 : wr.cell? ⟨b, off + i * 8 + 3, none⟩ = some (.int .i64 st.num) := hc 3 (by omega)
        have c4 : wr.cell? ⟨b, off + i * 8 + 4, none⟩ = some (.int .i64 st.pool) := hc 4 (by omega)
        have c5 : wr.cell? ⟨b, off + i * 8 + 5, none⟩ = some (.int .i64 st.goal) := hc 5 (by omega)
        have c6 : wr.cell? ⟨b, off + i * 8 + 6, none⟩ = some (.slice ka kn kc) := hc 6 (by omega)
        have c7 : wr.cell? ⟨b, off + i * 8 + 7, none⟩ = some (.slice ta tn tc) := hc 7 (by omega)
        have HKT := Lib.hid (And.intro hkt (And.intro hrk hrt))
        have hit : (i : Int) < (n2 : Int) := by omega
        clear hc hkt hrk hrt hil hir
        go_upto_region 12 with fail
        obtain ⟨A, hA⟩ : ∃ A, A = wr.heap.size := ⟨_, rfl⟩
        obtain ⟨wA, hwA⟩ : ∃ x, x = wr.alloc (.cells (stC st (.slice ka kn kc) (.slice ta tn tc)) STO) := ⟨_, rfl⟩
        have HBA : Hid (Below wr.heap.size wr wA ∧ Blk wA A STO (stC st (.slice ka kn kc) (.slice ta tn tc))) := Lib.hid ⟨by rw [hwA]; exact below_alloc _ _, by rw [hwA, hA]; exact Blk.new _ _ _⟩
        have k0 : wA.cell? ⟨A, 0, none⟩ = some (.int .i64 (pos : Int)) := by rw [← HCH.out.1.at']; exact HBA.out.2.cell (i := 0) rfl
        unfold stC at hwA
        rw [← hwA, ← hA]
        clear hwA hA c0 c1 c2 c3 c4 c5 c6 c7
        by_cases hnp : n5 < pos
        · have gne : ((n5 : Int) != (pos : Int)) = true := by simp; omega
          have glt : decide (n5 < pos) = true := decide_eq_true hnp
          have HF := Lib.hid (H2.out.2.2.trans ((hW.out.trans (HBA.out.1.mono hW.out.size)).mono H2.out.2.2.size))
          clear hnp
          go_wp2
          go_ret
          exact ⟨rfl, HF.out⟩
        · have hout : out = L.take pos := by
            rcases hC.out.2 with h | h
            · exact h
            · rw [hO.out.1] at h; omega
          have hnpos : n5 = pos := by have h := hO.out.1; rw [hout, List.length_take] at h; omega
          have HPK : Hid (putK out st = (out ++ stB st pos, 0)) := Lib.hid (putK_ok HCH.out.1 (by rw [hO.out.1, hnpos]) HGO.out.1 HGO.out.2)
          have HOUT := Lib.hid hout
          subst hnpos
          have gne : ((n5 : Int) != (n5 : Int)) = false := by simp
          have HST := Lib.hid (stg_ok (w := wA) (kc := kc) (tc := tc) HCH.out.1 (by omega) HKT.out.1 (HKT.out.2.1.below HBA.out.1) (HKT.out.2.2.below HBA.out.1))
          have HRO := Lib.hid (hO.out.2.below HBA.out.1)
          clear hout hnp
          go_wp2_with (refine wpList_load_row rfl _ _ rfl _ rfl _ _ _ _ HBA.out.2 Try.underlying48 rfl size_sto8 ?_)
          refine (put_any p5 n5 d5 out wA HST.out ⟨hO.out.1, by omega⟩ HRO.out).mono ?_
          rintro e w6 ⟨p6, n6, d6, rfl, hl6, hr6, hB6⟩
          rw [HPK.out] at hl6 hr6 ⊢
          have HBY := Lib.hid HCH.out.1.bytes
          have hlt1 := HCH.out.1.lt
          have hn6 : n6 ≤ 1000 ∧ p1 ≤ L.length := by
            have h1 : (out ++ stB st n5).length = n6 := hl6
            rw [List.length_append, hO.out.1] at h1
            rcases HBY.out with h | h <;> omega
          have HNX : Hid (out ++ stB st n5 = L.take p1 ∨ (out ++ stB st n5).length < p1) := Lib.hid (by
            rcases HBY.out with h | ⟨h, h2⟩
            · right; rw [List.length_append, hO.out.1]; omega
            · left; rw [HOUT.out, ← h.take, h2])
          have HW6 := Lib.hid (hW.out.trans ((HBA.out.1.trans (hB6.mono HBA.out.1.size)).mono hW.out.size))
          have H6 := Lib.hid (And.intro hl6 hr6)
          clear hl6 hr6 hB6 k0
          go_wp2_with fail
          go_roundw
          case rel => exact ⟨i + 1, p6, n6, d6, out ++ stB st n5, p1, by omega, rfl, by go_num, hn6, H6, Lib.hid ⟨HCH.out.2, HNX.out⟩, HW6⟩
          case measure => simp [intOf] <;> omega
      · have hC2 : Hid (pos = L.length) := Lib.hid (by
          have h := hC.out.1
          rw [List.drop_of_length_le (by omega)] at h
          exact h)
        have hit : ((i : Int) < (n2 : Int)) = False := by simp; omega
        have HBW := Lib.hid (H2.out.2.2.trans (hW.out.mono H2.out.2.2.size))
        go_wp2_with fail
        refine (read_any p5 n5 d5 out wr hO.out.1 (by omega) hO.out.2).mono ?_
        rintro e w7 ⟨a7, n7, c7, qs7, rfl, hR7, hq7, hB7⟩
        have H7 := Lib.hid (And.intro hR7 (And.intro hq7 hB7))
        have HLN := Lib.hid HR.out.1
        clear hR7 hq7 hB7
        by_cases hlt : n5 < n
        · have glt : decide (n5 < n) = true := decide_eq_true hlt
          have HF := Lib.hid (HBW.out.trans (H7.out.2.2.mono HBW.out.size))
          clear hlt
          go_wp2
          go_ret
          exact ⟨rfl, HF.out⟩
        · have hout : out = L := by
            have h1 := hO.out.1
            have h2 := HLN.out
            have h3 := hC2.out
            rcases hC.out.2 with h | h
            · rw [h, h3, List.take_length]
            · omega
          have glt : decide (n5 < n) = false := decide_eq_false hlt
          have HE7 : Hid ((readK out).2 = 0) := Lib.hid (by rw [hout]; exact HE.out)
          have HQ7 : Hid (qs7.map Mst.st = qs.map Mst.st) := Lib.hid (by rw [H7.out.2.1, hout, H2.out.2.1])
          rw [HE7.out]
          clear hlt hout
          go_wp2_with fail
          refine (same_any a2 n2 c2 qs a7 n7 c7 qs7 w7 ((H2.out.1.below hW.out).below H7.out.2.2) H7.out.1 HQ7.out.symm (by omega) (fun q hq => ?_)).mono ?_
          · have hm : q.st ∈ (readK L).1 := by rw [← H2.out.2.1]; exact List.mem_map_of_mem hq
            obtain ⟨x, y, hg⟩ := HOK.out.2.1.mem _ hm
            have := hg.kt
            omega
          rintro e w8 ⟨rfl, hB8⟩
          have HF := Lib.hid (HBW.out.trans ((H7.out.2.2.trans (hB8.mono H7.out.2.2.size)).mono HBW.out.size))
          clear hB8
          go_wp2
          go_ret
          exact ⟨rfl, HF.out⟩
  · have hz : n2 = 0 := by rw [← hn2]; have h := readK_err he; rw [h] at hq2; simpa using hq2
    have ge : ((readK L).2 != 0) = true := by rw [bne, beq_eq_false_iff_ne.2 he]; rfl
    subst hz
    clear he hq2
    go_wp2
    go_ret
    exact ⟨rfl, H2.out.2.2⟩
end Go.Proofs.Ytgcdeadfkljeaaa
