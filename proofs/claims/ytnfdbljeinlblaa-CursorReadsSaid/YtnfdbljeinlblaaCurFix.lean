/- packsaddlelaw02.fixed, walked on constants. -/
import Derived.Test.YtnfdbljeinlblaaCurOB
import Derived.Test.YtnfdbljeinlblaaCurPB
import Derived.Test.YtnfdbljeinlblaaRef02PB
import Derived.Test.YtnfdbljeinlblaaStr
namespace Go.Proofs.Ytnfdbljeinlblaa
open Go.ChangeShapes Go.WideShapes Go.ChangeAt Go.RowKit
set_option linter.unusedVariables false
set_option linter.unusedSimpArgs false

/-- With an error nothing is read, and nothing changes. -/
theorem cNext_er (g : Nat) (l : List UInt8) (p : Nat) (er m : Int) (sz : Bool) (w : World) (h : CurOk w g l p er) (he : er ≠ 0) :
  Calls Try.prog 74 #[.pointer (some ⟨g, 0, none⟩), .int .i64 m, .bool sz] w fun e w' => e = .returned (.slice none 0 0) ∧ w' = w := by
  go_enter Try.func74, Try.ntmps74
  go_wp2_with fail
  refine (cErr_any g l p er w h).mono ?_
  rintro e w' ⟨rfl, rfl⟩
  go_wp2
  go_ret
  exact ⟨rfl, rfl⟩
theorem cBigGet_er (g : Nat) (l : List UInt8) (p : Nat) (er m : Int) (w : World) (h : CurOk w g l p er) (he : er ≠ 0) (hm1 : -9223372036854775808 ≤ m) (hm2 : m ≤ 9223372036854775807) :
  Calls Try.prog 45 #[.pointer (some ⟨g, 0, none⟩), .int .i64 m] w fun e w' => e = .returned (.int .u64 0) ∧ w' = w := by
  go_enter Try.func45, Try.ntmps45
  go_wp2_with fail
  refine (sized_any m w hm1 hm2).mono ?_
  rintro e w' ⟨rfl, rfl⟩
  go_wp2_with fail
  refine (cNext_er g l p er m (sizedB m) w h he).mono ?_
  rintro e w' ⟨rfl, rfl⟩
  go_wp2
  go_loop [5, 14] (fun v i => i = .int .i64 0 ∧ v = .int .u64 0) (fun _ i => 0)
  case atStart => exact ⟨rfl, rfl⟩
  case round =>
    obtain ⟨rfl, rfl⟩ := hrel
    go_wp2
    go_ret
    exact ⟨rfl, rfl⟩
theorem below_of_grown {B g : Nat} {w0 w1 w2 : World} (h : Below B w0 w1) (hB : B ≤ w1.heap.size) (k : w1.grownBy w2 (some g)) (hg : B ≤ g) : Below B w0 w2 :=
  ⟨k.os.trans h.os, k.tape.trans h.tape, k.output.trans h.output, Nat.le_trans h.size k.size, fun j hj => (k.block j (by omega) (by simp; omega)).trans (h.block j hj)⟩
set_option maxHeartbeats 4000000 in
set_option maxRecDepth 100000 in
theorem fixed02_any (w : World) : Calls Try.prog 39 #[] w fun e w' => e = .returned (.bool true) ∧ Below w.heap.size w w' := by
  go_enter Try.func39, Try.ntmps39
  go_wp2_with fail
  refine (cNew_any _ 5 5 [1, 2, 1, 2, 9] _ rfl (by decide) (rd_new w _ _ _ _ rfl)).mono ?_
  rintro e w1 ⟨g, rfl, hg, hc, hb⟩
  have hb1 := below_trans0 (below_alloc w (.cells #[Value.int IntKind.u8 1, Value.int IntKind.u8 2, Value.int IntKind.u8 1, Value.int IntKind.u8 2, Value.int IntKind.u8 9] 5)) (by simp) hb
  have hgw : w.heap.size ≤ g := by simp at hg; omega
  clear hb hg
  have HB := Lib.hid hb1
  clear hb1
  go_wp2_with fail
  refine (cBigGet_any g _ 0 0 2 w1 hc (by decide) (by decide)).mono ?_
  rintro e w2 ⟨rfl, hc2, hg2⟩
  have hb2 := below_of_grown HB.out HB.out.size hg2 hgw
  rw [show bigR (nextL [1, 2, 1, 2, 9] 0 0 2 (sizedB 2)) = 258 from by decide]
  replace hc2 : CurOk w2 g [1, 2, 1, 2, 9] 2 0 := hc2
  clear HB hc hg2
  have HB := Lib.hid hb2
  clear hb2
  go_wp2_with fail
  refine (cLitGet_any g _ 2 0 2 w2 hc2 (by decide) (by decide)).mono ?_
  rintro e w3 ⟨rfl, hc3, hg3⟩
  have hb3 := below_of_grown HB.out HB.out.size hg3 hgw
  rw [show litR (nextL [1, 2, 1, 2, 9] 2 0 2 (sizedB 2)) (nextL [1, 2, 1, 2, 9] 2 0 2 (sizedB 2)).length = 513 from by decide]
  replace hc3 : CurOk w3 g [1, 2, 1, 2, 9] 4 0 := hc3
  clear HB hc2 hg3
  have HB := Lib.hid hb3
  clear hb3
  go_wp2_with fail
  refine (cEnd_any g _ 4 0 w3 hc3).mono ?_
  rintro e w4 ⟨rfl, hc4, hg4⟩
  have hb4 := below_of_grown HB.out HB.out.size hg4 hgw
  replace hc4 : CurOk w4 g [1, 2, 1, 2, 9] 4 2 := hc4
  rw [show endEr ([1, 2, 1, 2, 9] : List UInt8).length 4 0 = 2 from by decide]
  clear HB hc3 hg4
  have HB := Lib.hid hb4
  clear hb4
  go_wp2_with fail
  refine (cBig_any none 0 0 [] 258 2 w4 rfl (by decide) (by decide) (by decide) (by decide) Rd.nil).mono ?_
  rintro e w5 ⟨a5, n5, c5, rfl, hbuf, hB5⟩
  have hc5 := hc4.below hB5
  have hb5 := below_trans0 HB.out HB.out.size hB5
  have hcv := conv_str (P := Try.prog) Try.underlying32 Try.underlying5 Try.underlying9 c5 hbuf.len hbuf.rd
  rw [show strOf ([] ++ putB 258 2) = (⟨#[1, 2]⟩ : ByteArray) from rfl] at hcv
  clear HB hc4 hbuf hB5
  have HB := Lib.hid hb5
  clear hb5
  go_wp2_with fail
  refine (cLittle_any _ 1 1 [7] 258 2 _ rfl (by decide) (by decide) (by decide) (by decide) (rd_new w5 _ _ _ _ rfl)).mono ?_
  rintro e w6 ⟨a6, n6, c6, rfl, hbuf, hB6⟩
  have hB6' := below_trans0 (below_alloc w5 (.cells #[Value.int IntKind.u8 7] 5)) (by simp) hB6
  have hc6 := hc5.below hB6'
  have hb6 := below_trans0 HB.out HB.out.size hB6'
  have hcv := conv_str (P := Try.prog) Try.underlying32 Try.underlying5 Try.underlying9 c6 hbuf.len hbuf.rd
  rw [show strOf ([7] ++ putL 258 2) = (⟨#[7, 2, 1]⟩ : ByteArray) from rfl] at hcv
  clear HB hc5 hbuf hB6 hB6'
  have HB := Lib.hid hb6
  clear hb6
  go_wp2_with fail
  refine (cBigGet_er g _ 4 2 1 w6 hc6 (by decide) (by decide) (by decide)).mono ?_
  rintro e w' ⟨rfl, rfl⟩
  go_wp2_with fail
  refine (cLeft_any g _ 4 2 w' hc6).mono ?_
  rintro e w'' ⟨rfl, kd, rfl⟩
  rw [show (([1, 2, 1, 2, 9] : List UInt8).length : Int) - (4 : Nat) = 1 from rfl]
  go_wp2
  go_ret
  exact ⟨rfl, HB.out.trans (below_drewN _ _ kd)⟩
end Go.Proofs.Ytnfdbljeinlblaa
