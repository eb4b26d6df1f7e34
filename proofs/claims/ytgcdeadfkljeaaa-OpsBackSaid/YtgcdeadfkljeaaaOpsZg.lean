/- The document's Same of two rows of instructions that are the same. -/
import Derived.Test.YtgcdeadfkljeaaaOpsZf
import Derived.Deep.CutRange
namespace Go.Proofs.Ytgcdeadfkljeaaa
open Go.RowKit
set_option linter.unusedVariables false
set_option linter.unusedSimpArgs false

/-- Two instructions lie in variables. -/
def TwV (w0 : World) (A B : Nat) (c1 c2 : Array Value) (w : World) : Prop := Blk w A STO c1 ∧ Blk w B STO c2 ∧ Below w0.heap.size w0 w
theorem cell_al {w : World} {a : Addr} {v : Value} (h : w.cell? a = some v) (o : Obj) : (w.alloc o).cell? a = some v := by rw [(below_alloc w o).cell (World.block_lt_of_cell? w _ h)]; exact h
set_option maxRecDepth 100000 in
set_option maxHeartbeats 8000000 in
theorem same_any (a : Option Addr) (n c : Nat) (qa : List Mst) (b : Option Addr) (m d : Nat) (qb : List Mst) (w : World) (ha : RdS w a n qa) (hb : RdS w b m qb) (he : qa.map Mst.st = qb.map Mst.st) (hn : n ≤ 1000000) (hkk : ∀ q ∈ qa, q.st.keys.length = q.st.tgts.length ∧ q.st.keys.length ≤ 1000000) :
  Calls Try.prog 23 #[.slice a n c, .slice b m d] w fun e w' => e = .returned (.bool true) ∧ Below w.heap.size w w' := by
  have mixed : Try.prog.follows .mixedOrders = true := by kernel_rfl
  have hnm : n = m := by have h := congrArg List.length he; rw [List.length_map, List.length_map] at h; rw [← ha.1, ← hb.1, h]
  subst hnm
  have HA := Lib.hid ha
  have HB := Lib.hid hb
  have HE := Lib.hid he
  have HK := Lib.hid hkk
  clear ha hb he hkk
  go_enter Try.func23, Try.ntmps23
  go_wp2_with fail
  go_loopw [16] (fun x16 wr => ∃ i : Nat, i ≤ n ∧ x16 = .int .i64 (i : Int) ∧ Hid (Below w.heap.size w wr)) (fun x16 _ => n - (intOf x16).toNat)
  case atStart => exact ⟨0, Nat.zero_le _, rfl, Lib.hid (Below.refl _ _)⟩
  case round =>
    obtain ⟨i, hi, rfl, hW⟩ := hrel
    by_cases hin : i < n
    · have hia : i < qa.length := by rw [HA.out.1]; exact hin
      have hib : i < qb.length := by rw [HB.out.1]; exact hin
      obtain ⟨b1, o1, rfl, hc1, hk1, hrk1, hrt1⟩ := (HA.out.below hW.out).at hia
      obtain ⟨b2, o2, rfl, hc2, hk2, hrk2, hrt2⟩ := (HB.out.below hW.out).at hib
      have hst : qa[i].st = qb[i].st := by
        have h := congrArg (fun l => l[i]?) HE.out
        simpa [hia, hib] using h
      have hkl := HK.out _ (List.getElem_mem hia)
      generalize qa[i] = q1 at *
      generalize qb[i] = q2 at *
      obtain ⟨st, ka, kn, kc, ta, tn, tc⟩ := q1
      obtain ⟨st2, ka2, kn2, kc2, ta2, tn2, tc2⟩ := q2
      simp only at hst hk1 hk2 hrk1 hrk2 hrt1 hrt2 hkl
      subst hst
      have c10 : wr.cell? ⟨b1, o1 + i * 8, none⟩ = some (.int .i64 st.at') := hc1 0 (by omega)
      have c11 : wr.cell? ⟨b1, o1 + i * 8 + 1, none⟩ = some (.int .i64 st.op) := hc1 1 (by omega)
      have c12 : wr.cell? ⟨b1, o1 + i * 8 + 2, none⟩ = some (.int .i64 st.var) := hc1 2 (by omega)
      have c13 : wr.cell? ⟨b1, o1 + i * 8 + 3, none⟩ = some (.int .i64 st.num) := hc1 3 (by omega)
      have c14 : wr.cell? ⟨b1, o1 + i * 8 + 4, none⟩ = some (.int .i64 st.pool) := hc1 4 (by omega)
      have c15 : wr.cell? ⟨b1, o1 + i * 8 + 5, none⟩ = some (.int .i64 st.goal) := hc1 5 (by omega)
      have c16 : wr.cell? ⟨b1, o1 + i * 8 + 6, none⟩ = some (.slice ka kn kc) := hc1 6 (by omega)
      have c17 : wr.cell? ⟨b1, o1 + i * 8 + 7, none⟩ = some (.slice ta tn tc) := hc1 7 (by omega)
      have c20 : wr.cell? ⟨b2, o2 + i * 8, none⟩ = some (.int .i64 st.at') := hc2 0 (by omega)
      have c21 : wr.cell? ⟨b2, o2 + i * 8 + 1, none⟩ = some (.int .i64 st.op) := hc2 1 (by omega)
      have c22 : wr.cell? ⟨b2, o2 + i * 8 + 2, none⟩ = some (.int .i64 st.var) := hc2 2 (by omega)
      have c23 : wr.cell? ⟨b2, o2 + i * 8 + 3, none⟩ = some (.int .i64 st.num) := hc2 3 (by omega)
      have c24 : wr.cell? ⟨b2, o2 + i * 8 + 4, none⟩ = some (.int .i64 st.pool) := hc2 4 (by omega)
      have c25 : wr.cell? ⟨b2, o2 + i * 8 + 5, none⟩ = some (.int .i64 st.goal) := hc2 5 (by omega)
      have c26 : wr.cell? ⟨b2, o2 + i * 8 + 6, none⟩ = some (.slice ka2 kn2 kc2) := hc2 6 (by omega)
      have c27 : wr.cell? ⟨b2, o2 + i * 8 + 7, none⟩ = some (.slice ta2 tn2 tc2) := hc2 7 (by omega)
      have hkn : kn = kn2 ∧ tn = tn2 ∧ kn = tn ∧ kn ≤ 1000000 := by omega
      obtain ⟨rfl, rfl, rfl, hkb⟩ := hkn
      have HRW := Lib.hid (And.intro hrk1 (And.intro hrk2 (And.intro hrt1 hrt2)))
      have HKN := Lib.hid (And.intro hk1.1 hk1.2)
      have hit : (i : Int) < (n : Int) := by omega
      clear hc1 hc2 hk1 hk2 hrk1 hrk2 hrt1 hrt2 hkl hia hib
      go_upto_region 6 with fail
      have d10 : ∀ o : Obj, (wr.alloc o).cell? ⟨b1, o1 + i * 8, none⟩ = some (.int .i64 st.at') := fun o => cell_al c10 o
      have e10 : ∀ o o' : Obj, ((wr.alloc o).alloc o').cell? ⟨b1, o1 + i * 8, none⟩ = some (.int .i64 st.at') := fun o o' => cell_al (d10 o) o'
      have d11 : ∀ o : Obj, (wr.alloc o).cell? ⟨b1, o1 + i * 8 + 1, none⟩ = some (.int .i64 st.op) := fun o => cell_al c11 o
      have e11 : ∀ o o' : Obj, ((wr.alloc o).alloc o').cell? ⟨b1, o1 + i * 8 + 1, none⟩ = some (.int .i64 st.op) := fun o o' => cell_al (d11 o) o'
      have d12 : ∀ o : Obj, (wr.alloc o).cell? ⟨b1, o1 + i * 8 + 2, none⟩ = some (.int .i64 st.var) := fun o => cell_al c12 o
      have e12 : ∀ o o' : Obj, ((wr.alloc o).alloc o').cell? ⟨b1, o1 + i * 8 + 2, none⟩ = some (.int .i64 st.var) := fun o o' => cell_al (d12 o) o'
      have d13 : ∀ o : Obj, (wr.alloc o).cell? ⟨b1, o1 + i * 8 + 3, none⟩ = some (.int .i64 st.num) := fun o => cell_al c13 o
      have e13 : ∀ o o' : Obj, ((wr.alloc o).alloc o').cell? ⟨b1, o1 + i * 8 + 3, none⟩ = some (.int .i64 st.num) := fun o o' => cell_al (d13 o) o'
      have d14 : ∀ o : Obj, (wr.alloc o).cell? ⟨b1, o1 + i * 8 + 4, none⟩ = some (.int .i64 st.pool) := fun o => cell_al c14 o
      have e14 : ∀ o o' : Obj, ((wr.alloc o).alloc o').cell? ⟨b1, o1 + i * 8 + 4, none⟩ = some (.int .i64 st.pool) := fun o o' => cell_al (d14 o) o'
      have d15 : ∀ o : Obj, (wr.alloc o).cell? ⟨b1, o1 + i * 8 + 5, none⟩ = some (.int .i64 st.goal) := fun o => cell_al c15 o
      have e15 : ∀ o o' : Obj, ((wr.alloc o).alloc o').cell? ⟨b1, o1 + i * 8 + 5, none⟩ = some (.int .i64 st.goal) := fun o o' => cell_al (d15 o) o'
      have d16 : ∀ o : Obj, (wr.alloc o).cell? ⟨b1, o1 + i * 8 + 6, none⟩ = some (.slice ka kn kc) := fun o => cell_al c16 o
      have e16 : ∀ o o' : Obj, ((wr.alloc o).alloc o').cell? ⟨b1, o1 + i * 8 + 6, none⟩ = some (.slice ka kn kc) := fun o o' => cell_al (d16 o) o'
      have d17 : ∀ o : Obj, (wr.alloc o).cell? ⟨b1, o1 + i * 8 + 7, none⟩ = some (.slice ta kn tc) := fun o => cell_al c17 o
      have e17 : ∀ o o' : Obj, ((wr.alloc o).alloc o').cell? ⟨b1, o1 + i * 8 + 7, none⟩ = some (.slice ta kn tc) := fun o o' => cell_al (d17 o) o'
      have d20 : ∀ o : Obj, (wr.alloc o).cell? ⟨b2, o2 + i * 8, none⟩ = some (.int .i64 st.at') := fun o => cell_al c20 o
      have e20 : ∀ o o' : Obj, ((wr.alloc o).alloc o').cell? ⟨b2, o2 + i * 8, none⟩ = some (.int .i64 st.at') := fun o o' => cell_al (d20 o) o'
      have d21 : ∀ o : Obj, (wr.alloc o).cell? ⟨b2, o2 + i * 8 + 1, none⟩ = some (.int .i64 st.op) := fun o => cell_al c21 o
      have e21 : ∀ o o' : Obj, ((wr.alloc o).alloc o').cell? ⟨b2, o2 + i * 8 + 1, none⟩ = some (.int .i64 st.op) := fun o o' => cell_al (d21 o) o'
      have d22 : ∀ o : Obj, (wr.alloc o).cell? ⟨b2, o2 + i * 8 + 2, none⟩ = some (.int .i64 st.var) := fun o => cell_al c22 o
      have e22 : ∀ o o' : Obj, ((wr.alloc o).alloc o').cell? ⟨b2, o2 + i * 8 + 2, none⟩ = some (.int .i64 st.var) := fun o o' => cell_al (d22 o) o'
      have d23 : ∀ o : Obj, (wr.alloc o).cell? ⟨b2, o2 + i * 8 + 3, none⟩ = some (.int .i64 st.num) := fun o => cell_al c23 o
      have e23 : ∀ o o' : Obj, ((wr.alloc o).alloc o').cell? ⟨b2, o2 + i * 8 + 3, none⟩ = some (.int .i64 st.num) := fun o o' => cell_al (d23 o) o'
      have d24 : ∀ o : Obj, (wr.alloc o).cell? ⟨b2, o2 + i * 8 + 4, none⟩ = some (.int .i64 st.pool) := fun o => cell_al c24 o
      have e24 : ∀ o o' : Obj, ((wr.alloc o).alloc o').cell? ⟨b2, o2 + i * 8 + 4, none⟩ = some (.int .i64 st.pool) := fun o o' => cell_al (d24 o) o'
      have d25 : ∀ o : Obj, (wr.alloc o).cell? ⟨b2, o2 + i * 8 + 5, none⟩ = some (.int .i64 st.goal) := fun o => cell_al c25 o
      have e25 : ∀ o o' : Obj, ((wr.alloc o).alloc o').cell? ⟨b2, o2 + i * 8 + 5, none⟩ = some (.int .i64 st.goal) := fun o o' => cell_al (d25 o) o'
      have d26 : ∀ o : Obj, (wr.alloc o).cell? ⟨b2, o2 + i * 8 + 6, none⟩ = some (.slice ka2 kn kc2) := fun o => cell_al c26 o
      have e26 : ∀ o o' : Obj, ((wr.alloc o).alloc o').cell? ⟨b2, o2 + i * 8 + 6, none⟩ = some (.slice ka2 kn kc2) := fun o o' => cell_al (d26 o) o'
      have d27 : ∀ o : Obj, (wr.alloc o).cell? ⟨b2, o2 + i * 8 + 7, none⟩ = some (.slice ta2 kn tc2) := fun o => cell_al c27 o
      have e27 : ∀ o o' : Obj, ((wr.alloc o).alloc o').cell? ⟨b2, o2 + i * 8 + 7, none⟩ = some (.slice ta2 kn tc2) := fun o o' => cell_al (d27 o) o'
      go_cut [5, 6, 7, 16] from 16 to 116 (fun x5 x6 x7 x16 wx => x5 = .int .i64 (i : Int) ∧ x16 = .int .i64 (i : Int) ∧ ∃ A B, x6 = .pointer (some ⟨A, 0, none⟩) ∧ x7 = .pointer (some ⟨B, 0, none⟩) ∧ Hid (TwV wr A B (stC st (.slice ka kn kc) (.slice ta kn tc)) (stC st (.slice ka2 kn kc2) (.slice ta2 kn tc2)) wx))
      case first =>
        go_region
        · (try go_wp2)
          go_meet
          refine ⟨rfl, rfl, wr.heap.size, wr.heap.size + 1, rfl, rfl, Lib.hid ⟨Blk.drew ((blk_at (by simp)).alloc _), Blk.drew (blk_at (by simp)), ?_⟩⟩
          repeat (first | exact Below.refl _ _ | refine Below.drew ?_ | refine Below.alloc ?_ (by simp <;> omega) _)
        · (try go_wp2)
          go_meet
          refine ⟨rfl, rfl, wr.heap.size + 1, wr.heap.size, rfl, rfl, Lib.hid ⟨Blk.drew (blk_at (by simp)), Blk.drew ((blk_at (by simp)).alloc _), ?_⟩⟩
          repeat (first | exact Below.refl _ _ | refine Below.drew ?_ | refine Below.alloc ?_ (by simp <;> omega) _)
      case rest =>
        obtain ⟨rfl, rfl, A, B, rfl, rfl, hT⟩ := hcut
        have a0 : wc.cell? ⟨A, 0, none⟩ = some (.int .i64 st.at') := hT.out.1.cell (i := 0) rfl
        have a1 : wc.cell? ⟨A, 1, none⟩ = some (.int .i64 st.op) := hT.out.1.cell (i := 1) rfl
        have a2 : wc.cell? ⟨A, 2, none⟩ = some (.int .i64 st.var) := hT.out.1.cell (i := 2) rfl
        have a3 : wc.cell? ⟨A, 3, none⟩ = some (.int .i64 st.num) := hT.out.1.cell (i := 3) rfl
        have a4 : wc.cell? ⟨A, 4, none⟩ = some (.int .i64 st.pool) := hT.out.1.cell (i := 4) rfl
        have a5 : wc.cell? ⟨A, 5, none⟩ = some (.int .i64 st.goal) := hT.out.1.cell (i := 5) rfl
        have a6 : wc.cell? ⟨A, 6, none⟩ = some (.slice ka kn kc) := hT.out.1.cell (i := 6) rfl
        have a7 : wc.cell? ⟨A, 7, none⟩ = some (.slice ta kn tc) := hT.out.1.cell (i := 7) rfl
        have b0 : wc.cell? ⟨B, 0, none⟩ = some (.int .i64 st.at') := hT.out.2.1.cell (i := 0) rfl
        have b1 : wc.cell? ⟨B, 1, none⟩ = some (.int .i64 st.op) := hT.out.2.1.cell (i := 1) rfl
        have b2 : wc.cell? ⟨B, 2, none⟩ = some (.int .i64 st.var) := hT.out.2.1.cell (i := 2) rfl
        have b3 : wc.cell? ⟨B, 3, none⟩ = some (.int .i64 st.num) := hT.out.2.1.cell (i := 3) rfl
        have b4 : wc.cell? ⟨B, 4, none⟩ = some (.int .i64 st.pool) := hT.out.2.1.cell (i := 4) rfl
        have b5 : wc.cell? ⟨B, 5, none⟩ = some (.int .i64 st.goal) := hT.out.2.1.cell (i := 5) rfl
        have b6 : wc.cell? ⟨B, 6, none⟩ = some (.slice ka2 kn kc2) := hT.out.2.1.cell (i := 6) rfl
        have b7 : wc.cell? ⟨B, 7, none⟩ = some (.slice ta2 kn tc2) := hT.out.2.1.cell (i := 7) rfl
        clear c10 c11 c12 c13 c14 c15 c16 c17 c20 c21 c22 c23 c24 c25 c26 c27
        clear d10 d11 d12 d13 d14 d15 d16 d17 d20 d21 d22 d23 d24 d25 d26 d27
        clear e10 e11 e12 e13 e14 e15 e16 e17 e20 e21 e22 e23 e24 e25 e26 e27
        go_wp2_with fail
        clear a0 a1 a2 a3 a4 a5 a6 a7 b0 b1 b2 b3 b4 b5 b6 b7
        obtain ⟨wa, hwa⟩ : ∃ x, x = wr := ⟨_, rfl⟩
        subst hwa
        go_loopw [88] (fun x88 wr => ∃ j : Nat, j ≤ kn ∧ x88 = .int .i64 (j : Int) ∧ Hid (TwV wa A B (stC st (.slice ka kn kc) (.slice ta kn tc)) (stC st (.slice ka2 kn kc2) (.slice ta2 kn tc2)) wr)) (fun x88 _ => kn - (intOf x88).toNat)
        case atStart => exact ⟨0, Nat.zero_le _, rfl, hT⟩
        case round =>
          clear hT
          obtain ⟨j, hj, rfl, hT⟩ := hrel
          by_cases hjn : j < kn
          · have hjk : j < st.keys.length := by rw [HKN.out.1]; exact hjn
            have hjt : j < st.tgts.length := by rw [HKN.out.2]; exact hjn
            obtain ⟨x1, y1, rfl, -, g1⟩ := (HRW.out.1.below hT.out.2.2).at hjk
            obtain ⟨x2, y2, rfl, -, g2⟩ := (HRW.out.2.1.below hT.out.2.2).at hjk
            obtain ⟨x3, y3, rfl, -, g3⟩ := (HRW.out.2.2.1.below hT.out.2.2).at hjt
            obtain ⟨x4, y4, rfl, -, g4⟩ := (HRW.out.2.2.2.below hT.out.2.2).at hjt
            have a6 : wr.cell? ⟨A, 6, none⟩ = some (.slice (some ⟨x1, y1, none⟩) kn kc) := hT.out.1.cell (i := 6) rfl
            have a7 : wr.cell? ⟨A, 7, none⟩ = some (.slice (some ⟨x3, y3, none⟩) kn tc) := hT.out.1.cell (i := 7) rfl
            have b6 : wr.cell? ⟨B, 6, none⟩ = some (.slice (some ⟨x2, y2, none⟩) kn kc2) := hT.out.2.1.cell (i := 6) rfl
            have b7 : wr.cell? ⟨B, 7, none⟩ = some (.slice (some ⟨x4, y4, none⟩) kn tc2) := hT.out.2.1.cell (i := 7) rfl
            generalize st.keys[j]'hjk = u at *
            generalize st.tgts[j]'hjt = v at *
            have hjb : (j : Int) < (kn : Int) := by omega
            have hT2 : ∀ q, Hid (TwV wa A B (stC st (.slice (some ⟨x1, y1, none⟩) kn kc) (.slice (some ⟨x3, y3, none⟩) kn tc)) (stC st (.slice (some ⟨x2, y2, none⟩) kn kc2) (.slice (some ⟨x4, y4, none⟩) kn tc2)) (wr.drewN q)) := fun q => Lib.hid ⟨hT.out.1, hT.out.2.1, hT.out.2.2.trans (below_drewN wr _ q)⟩
            clear hjk hjt
            go_wp2
            go_quiet (fail)
            go_wp2
            go_roundw
            case rel => exact ⟨j + 1, by omega, by go_num, hT2 _⟩
            case measure => simp [intOf] <;> omega
          · have hjb : ((j : Int) < (kn : Int)) = False := by simp; omega
            have HW2 := Lib.hid (hW.out.trans (hT.out.2.2.mono hW.out.size))
            go_wp2_with fail
            go_roundw
            case rel => exact ⟨i + 1, by omega, by go_num, HW2⟩
            case measure => simp [intOf] <;> omega
    · have hjb : ((i : Int) < (n : Int)) = False := by simp; omega
      go_wp2
      go_ret
      exact ⟨rfl, hW.out⟩
end Go.Proofs.Ytgcdeadfkljeaaa
