/- packsaddlelaw08.fixed. -/
import Derived.Test.YtmmgcfhoigpomaaTwoApp2
namespace Go.Proofs.Ytmmgcfhoigpomaa
open Go.RowKit
set_option linter.unusedVariables false
set_option linter.unusedSimpArgs false

theorem rdP_one {w : World} {g : Nat} {s m : Int} (h : Blk w g 74 #[.int .i64 s, .int .i64 m]) : RdP w (some ⟨g, 0, none⟩) 1 [(s, m)] := by
  refine ⟨rfl, fun _ j => if j = 0 then .int .i64 s else .int .i64 m, .inr ⟨g, 0, rfl, fun i j hi hj => ?_⟩, fun i hi => ?_⟩
  · have hi0 : i = 0 := by omega
    subst hi0
    rw [show 0 + (0 * 2 + j) = j by omega]
    have : j = 0 ∨ j = 1 := by omega
    rcases this with rfl | rfl
    · exact h.cell rfl
    · exact h.cell rfl
  · have hi0 : i = 0 := by simp at hi; omega
    subst hi0
    exact ⟨rfl, rfl⟩
theorem rd_new4 (w : World) (cs : Array Value) (l : List Int) (h : cs.toList = l.map iR) : Rd (w.alloc (.cells cs 3)) iR (some ⟨w.heap.size, 0, none⟩) l := rd_new w cs 3 (0, 0) l h
set_option maxHeartbeats 8000000 in
set_option maxRecDepth 100000 in
theorem fixed08_any (w : World) : Calls Try.prog 44 #[] w fun e w' => e = .returned (.bool true) ∧ Below w.heap.size w w' := by
  have e1 : expGo [(17, 1)] [] = (0, [0, 0, 0, 0]) := by decide +kernel
  have e2 : expGo [(16, 0)] [] = (2, []) := by decide +kernel
  have e3 : ofErr [0, 0, 0, 0] = 0 ∧ (ofRes [0, 0, 0, 0]).length = 1 := by decide +kernel
  have e4 : ((bitsOf 18 : Nat) : Int) = 7 := by decide +kernel
  have e5 : rightB 3 1 = false := by decide +kernel
  have E1 := Lib.hid e1
  have E2 := Lib.hid e2
  have E3 := Lib.hid e3
  have E4 := Lib.hid e4
  have E5 := Lib.hid e5
  clear e1 e2 e3 e4 e5
  go_enter Try.func44, Try.ntmps44
  go_wp2_with fail
  refine (runExpand_any _ 1 1 [(17, 1)] _ (by decide) (rdP_one (Blk.new w _ _)) (by decide)).mono ?_
  unfold ExpPost
  rw [E1.out]
  rintro e w1 ⟨a1, n1, c1, rfl, hn1, -, hr1, hb⟩
  have hn1' : n1 = 4 := hn1.symm
  subst hn1'
  have hb1 := below_trans0 (below_alloc w (.cells #[Value.int IntKind.i64 17, Value.int IntKind.i64 1] 74)) (by simp) hb
  clear hb hn1
  go_wp2_with fail
  refine (runExpand_any _ 1 1 [(16, 0)] _ (by decide) (rdP_one (Blk.new w1 _ _)) (by decide)).mono ?_
  unfold ExpPost
  rw [E2.out]
  rintro e w2 ⟨a2, n2, c2, rfl, -, -, -, hb⟩
  have hb2 := below_trans0 (below_alloc w1 (.cells #[Value.int IntKind.i64 16, Value.int IntKind.i64 0] 74)) (by simp) hb
  have hr2 := hr1.below hb2
  have hB2 := below_trans0 hb1 hb1.size hb2
  clear hr1 hb1 hb2 hb
  go_wp2_with fail
  refine (runOf_any _ 4 4 [0, 0, 0, 0] _ rfl (by decide) (by decide) (by decide) (rd_new4 w2 _ _ rfl)).mono ?_
  unfold OfPost
  rw [E3.out.1]
  rintro e w3 ⟨a3, n3, c3, rfl, hn3, -, hr3, hb⟩
  have hn3' : n3 = 1 := by rw [← hr3.1, E3.out.2]
  have hb3 := below_trans0 (below_alloc w2 (.cells #[Value.int IntKind.i64 0, Value.int IntKind.i64 0, Value.int IntKind.i64 0, Value.int IntKind.i64 0] 3)) (by simp) hb
  have hr := hr2.below hb3
  have hB3 := below_trans0 hB2 hB2.size hb3
  subst hn3'
  clear hr3 hn3 hb hb3 hr2 hB2
  obtain ⟨b, off, rfl, -, hc⟩ := hr.at (k := 0) (by decide)
  replace hc : w3.cell? ⟨b, off, none⟩ = some (.int .i64 0) := hc
  clear hr
  go_wp2_with fail
  refine (runBits_any 18 w3).mono ?_
  rw [E4.out]
  rintro e w' ⟨rfl, rfl⟩
  clear hc
  go_wp2_with fail
  refine (runRight_any 3 1 w3 (by decide) (by decide)).mono ?_
  rw [E5.out]
  rintro e w4 ⟨rfl, hb⟩
  have hB4 := hB3.trans (hb.mono hB3.size)
  clear hb hB3
  go_wp2
  go_ret
  exact ⟨rfl, hB4⟩
end Go.Proofs.Ytmmgcfhoigpomaa
