/- Package pool on the fixed pool: at, textAt, value, Value, Holds. -/
import Derived.Test.YtbknkahakmfhkaaPooP
namespace Go.Proofs.Ytbknkahakmfhkaa
open Go.RowKit
set_option linter.unusedVariables false
set_option linter.unusedSimpArgs false

def strA : ByteArray := ⟨#[97]⟩
def fixL : List RawK := [zeroK, ⟨1, ⟨#[97]⟩, 0, 0, 0⟩, ⟨7, ⟨#[]⟩, 0, 1, 0⟩, ⟨5, ⟨#[]⟩, 7, 0, 0⟩, zeroK]
def fixC : Array Value := #[.int .i64 0, .string ⟨#[]⟩, .int .u64 0, .int .i64 0, .int .i64 0, .int .i64 1, .string ⟨#[97]⟩, .int .u64 0, .int .i64 0, .int .i64 0, .int .i64 7, .string ⟨#[]⟩, .int .u64 0, .int .i64 1, .int .i64 0, .int .i64 5, .string ⟨#[]⟩, .int .u64 7, .int .i64 0, .int .i64 0, .int .i64 0, .string ⟨#[]⟩, .int .u64 0, .int .i64 0, .int .i64 0]
set_option maxRecDepth 100000 in
set_option maxHeartbeats 8000000 in
theorem fat_1 (b : Nat) (w : World) (hb : Blk w b RAW fixC) : Calls Try.prog 108 #[.slice (some ⟨b, 0, none⟩) 5 5, .int .i64 1] w fun e w' => e = .returned (.iface TXT (.string ⟨#[97]⟩)) ∧ Below w.heap.size w w' := by
  have c0 : w.cell? ⟨b, 0, none⟩ = some (.int .i64 0) := hb.cell (i := 0) rfl
  have c5 : w.cell? ⟨b, 5, none⟩ = some (.int .i64 1) := hb.cell (i := 5) rfl
  have c6 : w.cell? ⟨b, 6, none⟩ = some (.string ⟨#[97]⟩) := hb.cell (i := 6) rfl
  have c7 : w.cell? ⟨b, 7, none⟩ = some (.int .u64 0) := hb.cell (i := 7) rfl
  have c8 : w.cell? ⟨b, 8, none⟩ = some (.int .i64 0) := hb.cell (i := 8) rfl
  have c9 : w.cell? ⟨b, 9, none⟩ = some (.int .i64 0) := hb.cell (i := 9) rfl
  clear hb
  go_enter Try.func108, Try.ntmps108
  go_wp2_with fail
  refine (wide_any 0 w).mono ?_
  rintro e wf ⟨rfl, rfl⟩
  have hwd : wideT 0 = false := by decide
  rw [hwd]
  go_wp2_with fail
  refine (of_any ⟨1, ⟨#[97]⟩, 0, 0, 0⟩ wf).mono ?_
  rintro e w2 ⟨rfl, hb2⟩
  have HB := Lib.hid hb2
  clear hb2
  go_wp2_with fail
  go_ret
  exact ⟨rfl, HB.out⟩
set_option maxRecDepth 100000 in
set_option maxHeartbeats 8000000 in
theorem fat_2 (b : Nat) (w : World) (hb : Blk w b RAW fixC) : Calls Try.prog 108 #[.slice (some ⟨b, 0, none⟩) 5 5, .int .i64 2] w fun e w' => e = .returned (.iface LNK (.agg #[.int .i64 7, .int .i64 1])) ∧ Below w.heap.size w w' := by
  have c0 : w.cell? ⟨b, 5, none⟩ = some (.int .i64 1) := hb.cell (i := 5) rfl
  have c5 : w.cell? ⟨b, 10, none⟩ = some (.int .i64 7) := hb.cell (i := 10) rfl
  have c6 : w.cell? ⟨b, 11, none⟩ = some (.string ⟨#[]⟩) := hb.cell (i := 11) rfl
  have c7 : w.cell? ⟨b, 12, none⟩ = some (.int .u64 0) := hb.cell (i := 12) rfl
  have c8 : w.cell? ⟨b, 13, none⟩ = some (.int .i64 1) := hb.cell (i := 13) rfl
  have c9 : w.cell? ⟨b, 14, none⟩ = some (.int .i64 0) := hb.cell (i := 14) rfl
  clear hb
  go_enter Try.func108, Try.ntmps108
  go_wp2_with fail
  refine (wide_any 1 w).mono ?_
  rintro e wf ⟨rfl, rfl⟩
  have hwd : wideT 1 = false := by decide
  rw [hwd]
  go_wp2_with fail
  refine (of_any ⟨7, ⟨#[]⟩, 0, 1, 0⟩ wf).mono ?_
  rintro e w2 ⟨rfl, hb2⟩
  have HB := Lib.hid hb2
  clear hb2
  go_wp2_with fail
  go_ret
  exact ⟨rfl, HB.out⟩
set_option maxRecDepth 100000 in
set_option maxHeartbeats 8000000 in
theorem ftext_1 (b : Nat) (w : World) (hb : Blk w b RAW fixC) : Calls Try.prog 126 #[.slice (some ⟨b, 0, none⟩) 5 5, .int .i64 1] w fun e w' => e = .returned (.tuple #[.string ⟨#[97]⟩, .bool true]) ∧ Below w.heap.size w w' := by
  have HA := Lib.hid (fat_1 b w hb)
  clear hb
  go_enter Try.func126, Try.ntmps126
  go_wp2_with fail
  refine HA.out.mono ?_
  rintro e w2 ⟨rfl, hb2⟩
  have HB := Lib.hid hb2
  clear hb2
  go_wp2_with fail
  go_ret2
  exact ⟨rfl, HB.out⟩
abbrev VAL : TypeId := 70
theorem size_val : (Try.prog.info? VAL).map (·.size) = some 6 := by kernel_rfl
theorem results_cellrow2 {P : Program} {fn : Func} {p u : Tmp} {ty : TypeId} (h : fn.results = #[.cell p ty, .tmp u]) (tmps : Array Value) (w : World) (g : Nat) (t : TypeId) (cs : Array Value) (fr : Nat × Nat) (d : TypeDesc)
    (hp : tmps.getD p undef = .pointer (some ⟨g, 0, none⟩)) (hg : w.heap[g]? = some (.cells cs t fr))
    (hu : P.underlying ty = some d) (hd : (match d with | .struct _ | .array _ _ => true | _ => false) = true) (hi : (P.info? ty).map (·.size) = some cs.size) :
    (results fn tmps).run P w = .ok (.tuple #[.agg cs, tmps.getD u undef]) w := by
  have hp' : tmps[p]?.getD undef = .pointer (some ⟨g, 0, none⟩) := by simpa using hp
  simp [results, h, hp', asAddr, run_loadVar_row w g t ty cs fr d hg hu hd hi]
theorem val_ones (t v : Int) (a b c d : ByteArray) : ∀ u ∈ (#[.int .i64 t, .string a, .int .u64 v, .string b, .string c, .string d] : Array Value).toList, u.oneCell' = true := by
  intro u hu
  simp only [List.mem_cons, List.not_mem_nil, or_false] at hu
  rcases hu with rfl | rfl | rfl | rfl | rfl | rfl <;> rfl
def ValP (v : Array Value) (o : Bool) (w : World) (e : Ending) (w' : World) : Prop := e = .returned (.tuple #[.agg v, .bool o]) ∧ Below w.heap.size w w'
/-- An older row of the call's is stored anew. -/
theorem below_row {w w0 w2 w3 : World} {cs : Array Value} (h1 : Below w.heap.size w w2) (h2 : w2.grownBy w3 (some w.heap.size)) : Below w.heap.size w w3 :=
  ⟨h2.os.trans h1.os, h2.tape.trans h1.tape, h2.output.trans h1.output, Nat.le_trans h1.size h2.size, fun j hj => (h2.block j (Nat.lt_of_lt_of_le hj h1.size) (by simp; omega)).trans (h1.block j hj)⟩
set_option maxRecDepth 100000 in
set_option maxHeartbeats 8000000 in
theorem fval_text (b : Nat) (w : World) (hb : Blk w b RAW fixC) : Calls Try.prog 110 #[.slice (some ⟨b, 0, none⟩) 5 5, .iface TXT (.string ⟨#[97]⟩)] w (ValP #[.int .i64 1, .string ⟨#[97]⟩, .int .u64 0, .string ⟨#[]⟩, .string ⟨#[]⟩, .string ⟨#[]⟩] true w) := by
  have hz : Blk (w.alloc (.cells #[.int .i64 0, .string ⟨#[]⟩, .int .u64 0, .string ⟨#[]⟩, .string ⟨#[]⟩, .string ⟨#[]⟩] VAL)) w.heap.size VAL #[.int .i64 0, .string ⟨#[]⟩, .int .u64 0, .string ⟨#[]⟩, .string ⟨#[]⟩, .string ⟨#[]⟩] := Blk.new _ _ _
  have HZ := Lib.hid hz
  have HB0 := Lib.hid (below_alloc w (.cells #[.int .i64 0, .string ⟨#[]⟩, .int .u64 0, .string ⟨#[]⟩, .string ⟨#[]⟩, .string ⟨#[]⟩] VAL))
  have HBF := Lib.hid (hb.below HB0.out)
  clear hz hb
  go_enter Try.func110, Try.ntmps110
  go_wp2_with fail
  refine (tagT_any _ _).mono ?_
  rintro e w2 ⟨rfl, hb2⟩
  have HB2 := Lib.hid (HB0.out.trans (hb2.mono (by simp)))
  have HZ2 := Lib.hid (HZ.out.below hb2)
  have HBF2 := Lib.hid (HBF.out.below hb2)
  have hs := hb2.size
  simp only [heap_size_alloc] at hs
  clear hb2 HBF HZ HB0
  have HZ3 : Hid (Blk (w2.alloc (.cells #[.int .i64 1, .string ⟨#[97]⟩, .int .u64 0, .string ⟨#[]⟩, .string ⟨#[]⟩, .string ⟨#[]⟩] VAL)) w.heap.size VAL #[.int .i64 0, .string ⟨#[]⟩, .int .u64 0, .string ⟨#[]⟩, .string ⟨#[]⟩, .string ⟨#[]⟩]) := Lib.hid (HZ2.out.below (below_alloc _ _))
  have HB3 : Hid (Below w.heap.size w (w2.alloc (.cells #[.int .i64 1, .string ⟨#[97]⟩, .int .u64 0, .string ⟨#[]⟩, .string ⟨#[]⟩, .string ⟨#[]⟩] VAL))) := Lib.hid (HB2.out.alloc HB2.out.size _)
  go_wp2_with (first | (refine wpList_storeBlk rfl _ _ rfl rfl rfl HZ3.out rfl size_val (val_ones _ _ _ _ _ _) ?_; intro d0 dg))
  refine bodyPost_ret (results_cellrow2 (p := 4) (u := 5) rfl _ _ w.heap.size _ _ _ _ rfl d0 Try.underlying70 rfl size_val) rfl ?_
  exact ⟨rfl, below_row (w0 := w) (cs := #[]) HB3.out dg⟩
set_option maxRecDepth 100000 in
set_option maxHeartbeats 8000000 in
theorem fval_bits (b : Nat) (w : World) (hb : Blk w b RAW fixC) : Calls Try.prog 110 #[.slice (some ⟨b, 0, none⟩) 5 5, .iface BTS (.agg #[.int .i64 5, .int .u64 7])] w (ValP #[.int .i64 5, .string ⟨#[]⟩, .int .u64 7, .string ⟨#[]⟩, .string ⟨#[]⟩, .string ⟨#[]⟩] true w) := by
  have hz : Blk (w.alloc (.cells #[.int .i64 0, .string ⟨#[]⟩, .int .u64 0, .string ⟨#[]⟩, .string ⟨#[]⟩, .string ⟨#[]⟩] VAL)) w.heap.size VAL #[.int .i64 0, .string ⟨#[]⟩, .int .u64 0, .string ⟨#[]⟩, .string ⟨#[]⟩, .string ⟨#[]⟩] := Blk.new _ _ _
  have HZ := Lib.hid hz
  have HB0 := Lib.hid (below_alloc w (.cells #[.int .i64 0, .string ⟨#[]⟩, .int .u64 0, .string ⟨#[]⟩, .string ⟨#[]⟩, .string ⟨#[]⟩] VAL))
  have HBF := Lib.hid (hb.below HB0.out)
  clear hz hb
  go_enter Try.func110, Try.ntmps110
  go_wp2_with fail
  refine (tagB_any _ _ _).mono ?_
  rintro e w2 ⟨rfl, hb2⟩
  have HB2 := Lib.hid (HB0.out.trans (hb2.mono (by simp)))
  have HZ2 := Lib.hid (HZ.out.below hb2)
  have HBF2 := Lib.hid (HBF.out.below hb2)
  have hs := hb2.size
  simp only [heap_size_alloc] at hs
  clear hb2 HBF HZ HB0
  have HZ3 : Hid (Blk ((w2.alloc (.cells #[.int .i64 5, .string ⟨#[]⟩, .int .u64 7, .string ⟨#[]⟩, .string ⟨#[]⟩, .string ⟨#[]⟩] VAL)).alloc (.cells #[.int .i64 5, .int .u64 7] BTS)) w.heap.size VAL #[.int .i64 0, .string ⟨#[]⟩, .int .u64 0, .string ⟨#[]⟩, .string ⟨#[]⟩, .string ⟨#[]⟩]) := Lib.hid ((HZ2.out.below (below_alloc _ _)).below (below_alloc _ _))
  have HB3 : Hid (Below w.heap.size w ((w2.alloc (.cells #[.int .i64 5, .string ⟨#[]⟩, .int .u64 7, .string ⟨#[]⟩, .string ⟨#[]⟩, .string ⟨#[]⟩] VAL)).alloc (.cells #[.int .i64 5, .int .u64 7] BTS))) := Lib.hid ((HB2.out.alloc HB2.out.size _).alloc (Nat.le_trans HB2.out.size (below_alloc _ _).size) _)
  go_wp2_with (first | (refine wpList_storeBlk rfl _ _ rfl rfl rfl HZ3.out rfl size_val (val_ones _ _ _ _ _ _) ?_; intro d0 dg))
  refine bodyPost_ret (results_cellrow2 (p := 4) (u := 5) rfl _ _ w.heap.size _ _ _ _ rfl d0 Try.underlying70 rfl size_val) rfl ?_
  exact ⟨rfl, below_row (w0 := w) (cs := #[]) HB3.out dg⟩
set_option maxRecDepth 100000 in
set_option maxHeartbeats 8000000 in
theorem fval_link (b : Nat) (w : World) (hb : Blk w b RAW fixC) : Calls Try.prog 110 #[.slice (some ⟨b, 0, none⟩) 5 5, .iface LNK (.agg #[.int .i64 7, .int .i64 1])] w (ValP #[.int .i64 7, .string ⟨#[97]⟩, .int .u64 0, .string ⟨#[]⟩, .string ⟨#[]⟩, .string ⟨#[]⟩] true w) := by
  have hz : Blk (w.alloc (.cells #[.int .i64 0, .string ⟨#[]⟩, .int .u64 0, .string ⟨#[]⟩, .string ⟨#[]⟩, .string ⟨#[]⟩] VAL)) w.heap.size VAL #[.int .i64 0, .string ⟨#[]⟩, .int .u64 0, .string ⟨#[]⟩, .string ⟨#[]⟩, .string ⟨#[]⟩] := Blk.new _ _ _
  have HZ := Lib.hid hz
  have HB0 := Lib.hid (below_alloc w (.cells #[.int .i64 0, .string ⟨#[]⟩, .int .u64 0, .string ⟨#[]⟩, .string ⟨#[]⟩, .string ⟨#[]⟩] VAL))
  have HBF := Lib.hid (hb.below HB0.out)
  clear hz hb
  go_enter Try.func110, Try.ntmps110
  go_wp2_with fail
  refine (tagL_any _ _ _).mono ?_
  rintro e w2 ⟨rfl, hb2⟩
  have HB2 := Lib.hid (HB0.out.trans (hb2.mono (by simp)))
  have HZ2 := Lib.hid (HZ.out.below hb2)
  have HBF2 := Lib.hid (HBF.out.below hb2)
  have hs := hb2.size
  simp only [heap_size_alloc] at hs
  clear hb2 HBF HZ HB0
  go_wp2_with fail
  obtain ⟨w4, hw4⟩ : ∃ w4, w4 = (w2.alloc (.cells #[.int .i64 7, .string ⟨#[]⟩, .int .u64 0, .string ⟨#[]⟩, .string ⟨#[]⟩, .string ⟨#[]⟩] VAL)).alloc (.cells #[.int .i64 7, .int .i64 1] LNK) := ⟨_, rfl⟩
  obtain ⟨o6, ho6⟩ : ∃ o, o = w2.heap.size := ⟨_, rfl⟩
  have HB4 : Hid (Below w.heap.size w w4) := Lib.hid (by rw [hw4]; exact (HB2.out.alloc HB2.out.size _).alloc (Nat.le_trans HB2.out.size (below_alloc _ _).size) _)
  have HZ4 : Hid (Blk w4 w.heap.size VAL #[.int .i64 0, .string ⟨#[]⟩, .int .u64 0, .string ⟨#[]⟩, .string ⟨#[]⟩, .string ⟨#[]⟩]) := Lib.hid (by rw [hw4]; exact (HZ2.out.below (below_alloc _ _)).below (below_alloc _ _))
  have HBF4 : Hid (Blk w4 b RAW fixC) := Lib.hid (by rw [hw4]; exact (HBF2.out.below (below_alloc _ _)).below (below_alloc _ _))
  have H64 : Hid (Blk w4 o6 VAL #[.int .i64 7, .string ⟨#[]⟩, .int .u64 0, .string ⟨#[]⟩, .string ⟨#[]⟩, .string ⟨#[]⟩]) := Lib.hid (by rw [hw4, ho6]; exact (Blk.new _ _ _).below (below_alloc _ _))
  have HO : Hid (w.heap.size < o6) := Lib.hid (by omega)
  rw [← hw4, ← ho6]
  clear hw4 ho6 hs HB2 HZ2 HBF2
  refine (ftext_1 b w4 HBF4.out).mono ?_
  rintro e w5 ⟨rfl, hb5⟩
  have HB5 := Lib.hid (HB4.out.trans (hb5.mono HB4.out.size))
  have HZ5 := Lib.hid (HZ4.out.below hb5)
  have H65 := Lib.hid (H64.out.below hb5)
  clear hb5 HB4 HZ4 H64 HBF4
  have q1 : w5.cell? ⟨o6, 1, none⟩ = some (.string ⟨#[]⟩) := H65.out.cell (i := 1) rfl
  have f1 := H65.out.frozen 1
  have H66 : Hid (Blk (w5.setCell ⟨o6, 1, none⟩ (.string ⟨#[97]⟩)) o6 VAL #[.int .i64 7, .string ⟨#[97]⟩, .int .u64 0, .string ⟨#[]⟩, .string ⟨#[]⟩, .string ⟨#[]⟩]) := Lib.hid (H65.out.setCell 1 (.string ⟨#[97]⟩))
  have HZ6 := Lib.hid (HZ5.out.setCell_ne (a := ⟨o6, 1, none⟩) (by have := HO.out; simp; omega) (.string ⟨#[97]⟩))
  have HB6 : Hid (Below w.heap.size w (w5.setCell ⟨o6, 1, none⟩ (.string ⟨#[97]⟩))) := Lib.hid (HB5.out.grown (grownBy_setCell _ _ _) HB5.out.size (fun k hk => by have := HO.out; have := Option.some.inj hk; simp only at this; omega))
  go_wp2_with (first | (refine wpList_load_row rfl _ _ rfl _ rfl _ _ _ _ H66.out Try.underlying70 rfl size_val ?_) | (refine wpList_storeBlk rfl _ _ rfl rfl rfl HZ6.out rfl size_val (val_ones _ _ _ _ _ _) ?_; intro d0 dg))
  refine bodyPost_ret (results_cellrow2 (p := 4) (u := 5) rfl _ _ w.heap.size _ _ _ _ rfl d0 Try.underlying70 rfl size_val) rfl ?_
  exact ⟨rfl, below_row (w0 := w) (cs := #[]) HB6.out dg⟩
end Go.Proofs.Ytbknkahakmfhkaa
/- Package pool on the fixed pool: Value, Holds. -/
namespace Go.Proofs.Ytbknkahakmfhkaa
open Go.RowKit
set_option linter.unusedVariables false
set_option linter.unusedSimpArgs false

abbrev ITY : TypeId := 3
set_option maxRecDepth 100000 in
set_option maxHeartbeats 8000000 in
theorem findex (g : Nat) (w : World) (hb : Blk w g ITY #[.int .i64 8]) : Calls Try.prog 125 #[.slice (some ⟨g, 0, none⟩) 1 1, .int .i64 7] w fun e w' => e = .returned (.int .i64 (-1)) ∧ w' = w := by
  have c0 : w.cell? ⟨g, 0, none⟩ = some (.int .i64 8) := hb.cell (i := 0) rfl
  clear hb
  go_enter Try.func125, Try.ntmps125
  go_wp2_with fail
  go_loopw [8] (fun x8 wr => wr = w ∧ (x8 = .int .i64 0 ∨ x8 = .int .i64 1)) (fun x8 _ => 1 - (intOf x8).toNat)
  case atStart => exact ⟨rfl, .inl rfl⟩
  case round =>
    obtain ⟨rfl, rfl | rfl⟩ := hrel
    · go_wp2_with fail
      go_roundw
      case rel => first | exact ⟨rfl, .inr rfl⟩ | simp
      case measure => simp [intOf]
    · go_wp2_with fail
      go_ret
      exact ⟨rfl, rfl⟩
set_option maxRecDepth 100000 in
set_option maxHeartbeats 8000000 in
theorem fcontains (g : Nat) (w : World) (hb : Blk w g ITY #[.int .i64 8]) : Calls Try.prog 109 #[.slice (some ⟨g, 0, none⟩) 1 1, .int .i64 7] w fun e w' => e = .returned (.bool false) ∧ w' = w := by
  have HI := Lib.hid (findex g w hb)
  clear hb
  go_enter Try.func109, Try.ntmps109
  go_wp2_with fail
  refine HI.out.mono ?_
  rintro e wf ⟨rfl, rfl⟩
  go_wp2_with fail
  go_ret
  exact ⟨rfl, rfl⟩
def VaP (v : Array Value) (o : Int) (w : World) (e : Ending) (w' : World) : Prop := e = .returned (.tuple #[.agg v, .int .i64 o]) ∧ Below w.heap.size w w'
set_option maxRecDepth 100000 in
set_option maxHeartbeats 8000000 in
theorem fValue4 (b : Nat) (w : World) (hb : Blk w b RAW fixC) : Calls Try.prog 80 #[.slice (some ⟨b, 0, none⟩) 5 5, .int .i64 4, .slice none 0 0] w (VaP #[.int .i64 0, .string ⟨#[]⟩, .int .u64 0, .string ⟨#[]⟩, .string ⟨#[]⟩, .string ⟨#[]⟩] 5 w) := by
  have hz : Blk (w.alloc (.cells #[.int .i64 0, .string ⟨#[]⟩, .int .u64 0, .string ⟨#[]⟩, .string ⟨#[]⟩, .string ⟨#[]⟩] VAL)) w.heap.size VAL #[.int .i64 0, .string ⟨#[]⟩, .int .u64 0, .string ⟨#[]⟩, .string ⟨#[]⟩, .string ⟨#[]⟩] := Blk.new _ _ _
  have HZ := Lib.hid hz
  have HB0 := Lib.hid (below_alloc w (.cells #[.int .i64 0, .string ⟨#[]⟩, .int .u64 0, .string ⟨#[]⟩, .string ⟨#[]⟩, .string ⟨#[]⟩] VAL))
  have hb1 := hb.below HB0.out
  have c20 : (w.alloc (.cells #[.int .i64 0, .string ⟨#[]⟩, .int .u64 0, .string ⟨#[]⟩, .string ⟨#[]⟩, .string ⟨#[]⟩] VAL)).cell? ⟨b, 20, none⟩ = some (.int .i64 0) := hb1.cell (i := 20) rfl
  have HBF := Lib.hid hb1
  clear hz hb hb1
  go_enter Try.func80, Try.ntmps80
  go_wp2_with (first | (refine wpList_storeBlk rfl _ _ rfl rfl rfl HZ.out rfl size_val (val_ones _ _ _ _ _ _) ?_; intro d0 dg))
  refine bodyPost_ret (results_cellrow2 (p := 6) (u := 7) rfl _ _ w.heap.size _ _ _ _ rfl d0 Try.underlying70 rfl size_val) rfl ?_
  exact ⟨rfl, below_row (w0 := w) (cs := #[]) HB0.out dg⟩
set_option maxRecDepth 100000 in
set_option maxHeartbeats 8000000 in
theorem fValue2 (b : Nat) (w : World) (hb : Blk w b RAW fixC) : Calls Try.prog 80 #[.slice (some ⟨b, 0, none⟩) 5 5, .int .i64 2, .slice none 0 0] w (VaP #[.int .i64 7, .string ⟨#[97]⟩, .int .u64 0, .string ⟨#[]⟩, .string ⟨#[]⟩, .string ⟨#[]⟩] 0 w) := by
  have hz : Blk (w.alloc (.cells #[.int .i64 0, .string ⟨#[]⟩, .int .u64 0, .string ⟨#[]⟩, .string ⟨#[]⟩, .string ⟨#[]⟩] VAL)) w.heap.size VAL #[.int .i64 0, .string ⟨#[]⟩, .int .u64 0, .string ⟨#[]⟩, .string ⟨#[]⟩, .string ⟨#[]⟩] := Blk.new _ _ _
  have HZ := Lib.hid hz
  have HB0 := Lib.hid (below_alloc w (.cells #[.int .i64 0, .string ⟨#[]⟩, .int .u64 0, .string ⟨#[]⟩, .string ⟨#[]⟩, .string ⟨#[]⟩] VAL))
  have hb1 := hb.below HB0.out
  have c10 : (w.alloc (.cells #[.int .i64 0, .string ⟨#[]⟩, .int .u64 0, .string ⟨#[]⟩, .string ⟨#[]⟩, .string ⟨#[]⟩] VAL)).cell? ⟨b, 10, none⟩ = some (.int .i64 7) := hb1.cell (i := 10) rfl
  have c5 : (w.alloc (.cells #[.int .i64 0, .string ⟨#[]⟩, .int .u64 0, .string ⟨#[]⟩, .string ⟨#[]⟩, .string ⟨#[]⟩] VAL)).cell? ⟨b, 5, none⟩ = some (.int .i64 1) := hb1.cell (i := 5) rfl
  have HBF := Lib.hid hb1
  clear hz hb hb1
  go_enter Try.func80, Try.ntmps80
  go_wp2_with fail
  generalize w.alloc (.cells #[.int .i64 0, .string ⟨#[]⟩, .int .u64 0, .string ⟨#[]⟩, .string ⟨#[]⟩, .string ⟨#[]⟩] VAL) = w1 at *
  refine (wide_any 1 w1).mono ?_
  rintro e wf ⟨rfl, rfl⟩
  have hwd : wideT 1 = false := by decide
  rw [hwd]
  go_wp2_with fail
  refine (fat_2 b wf HBF.out).mono ?_
  rintro e w2 ⟨rfl, hb2⟩
  have HB2 := Lib.hid (HB0.out.trans (hb2.mono HB0.out.size))
  have HZ2 := Lib.hid (HZ.out.below hb2)
  have HBF2 := Lib.hid (HBF.out.below hb2)
  have HS2 : Hid (w.heap.size < w2.heap.size) := Lib.hid (by have := HZ2.out.lt; exact this)
  clear hb2 HBF HZ HB0 c10 c5
  go_wp2_with fail
  refine (fval_link b w2 HBF2.out).mono ?_
  rintro e w3 ⟨rfl, hb3⟩
  have HB3 := Lib.hid (HB2.out.trans (hb3.mono HB2.out.size))
  have HZ3 : Hid (Blk (w3.alloc (.cells #[.int .i64 7, .string ⟨#[97]⟩, .int .u64 0, .string ⟨#[]⟩, .string ⟨#[]⟩, .string ⟨#[]⟩] VAL)) w.heap.size VAL #[.int .i64 0, .string ⟨#[]⟩, .int .u64 0, .string ⟨#[]⟩, .string ⟨#[]⟩, .string ⟨#[]⟩]) := Lib.hid ((HZ2.out.below hb3).below (below_alloc _ _))
  have HB4 : Hid (Below w.heap.size w (w3.alloc (.cells #[.int .i64 7, .string ⟨#[97]⟩, .int .u64 0, .string ⟨#[]⟩, .string ⟨#[]⟩, .string ⟨#[]⟩] VAL))) := Lib.hid (HB3.out.alloc HB3.out.size _)
  clear hb3 HB2 HZ2 HBF2
  go_wp2_with (first | (refine wpList_storeBlk rfl _ _ rfl rfl rfl HZ3.out rfl size_val (val_ones _ _ _ _ _ _) ?_; intro d0 dg))
  refine bodyPost_ret (results_cellrow2 (p := 6) (u := 7) rfl _ _ w.heap.size _ _ _ _ rfl d0 Try.underlying70 rfl size_val) rfl ?_
  exact ⟨rfl, below_row (w0 := w) (cs := #[]) HB4.out dg⟩
set_option maxRecDepth 100000 in
set_option maxHeartbeats 8000000 in
theorem fValue2s (b : Nat) (g : Nat) (w : World) (hb : Blk w b RAW fixC) (hg : Blk w g ITY #[.int .i64 8]) : Calls Try.prog 80 #[.slice (some ⟨b, 0, none⟩) 5 5, .int .i64 2, .slice (some ⟨g, 0, none⟩) 1 1] w (VaP #[.int .i64 0, .string ⟨#[]⟩, .int .u64 0, .string ⟨#[]⟩, .string ⟨#[]⟩, .string ⟨#[]⟩] 9 w) := by
  have hz : Blk (w.alloc (.cells #[.int .i64 0, .string ⟨#[]⟩, .int .u64 0, .string ⟨#[]⟩, .string ⟨#[]⟩, .string ⟨#[]⟩] VAL)) w.heap.size VAL #[.int .i64 0, .string ⟨#[]⟩, .int .u64 0, .string ⟨#[]⟩, .string ⟨#[]⟩, .string ⟨#[]⟩] := Blk.new _ _ _
  have HZ := Lib.hid hz
  have HB0 := Lib.hid (below_alloc w (.cells #[.int .i64 0, .string ⟨#[]⟩, .int .u64 0, .string ⟨#[]⟩, .string ⟨#[]⟩, .string ⟨#[]⟩] VAL))
  have hb1 := hb.below HB0.out
  have c10 : (w.alloc (.cells #[.int .i64 0, .string ⟨#[]⟩, .int .u64 0, .string ⟨#[]⟩, .string ⟨#[]⟩, .string ⟨#[]⟩] VAL)).cell? ⟨b, 10, none⟩ = some (.int .i64 7) := hb1.cell (i := 10) rfl
  have c5 : (w.alloc (.cells #[.int .i64 0, .string ⟨#[]⟩, .int .u64 0, .string ⟨#[]⟩, .string ⟨#[]⟩, .string ⟨#[]⟩] VAL)).cell? ⟨b, 5, none⟩ = some (.int .i64 1) := hb1.cell (i := 5) rfl
  have HBF := Lib.hid hb1
  have HG := Lib.hid (hg.below HB0.out)
  clear hz hb hb1 hg
  go_enter Try.func80, Try.ntmps80
  go_wp2_with fail
  generalize w.alloc (.cells #[.int .i64 0, .string ⟨#[]⟩, .int .u64 0, .string ⟨#[]⟩, .string ⟨#[]⟩, .string ⟨#[]⟩] VAL) = w1 at *
  refine (wide_any 1 w1).mono ?_
  rintro e wf ⟨rfl, rfl⟩
  have hwd : wideT 1 = false := by decide
  rw [hwd]
  go_wp2_with fail
  refine (fat_2 b wf HBF.out).mono ?_
  rintro e w2 ⟨rfl, hb2⟩
  have HB2 := Lib.hid (HB0.out.trans (hb2.mono HB0.out.size))
  have HZ2 := Lib.hid (HZ.out.below hb2)
  have HBF2 := Lib.hid (HBF.out.below hb2)
  have HG2 := Lib.hid (HG.out.below hb2)
  clear hb2 HBF HZ HB0 c10 c5 HG HBF2
  go_wp2_with fail
  refine (tagL_any _ _ _).mono ?_
  rintro e w3 ⟨rfl, hb3⟩
  have HB3 := Lib.hid (HB2.out.trans (hb3.mono HB2.out.size))
  have HZ3 := Lib.hid (HZ2.out.below hb3)
  have HG3 := Lib.hid (HG2.out.below hb3)
  clear hb3 HB2 HZ2 HG2
  go_wp2_with fail
  refine (fcontains g w3 HG3.out).mono ?_
  rintro e wf ⟨rfl, rfl⟩
  go_wp2_with (first | (refine wpList_storeBlk rfl _ _ rfl rfl rfl HZ3.out rfl size_val (val_ones _ _ _ _ _ _) ?_; intro d0 dg))
  refine bodyPost_ret (results_cellrow2 (p := 6) (u := 7) rfl _ _ w.heap.size _ _ _ _ rfl d0 Try.underlying70 rfl size_val) rfl ?_
  exact ⟨rfl, below_row (w0 := w) (cs := #[]) HB3.out dg⟩
end Go.Proofs.Ytbknkahakmfhkaa
/- Package pool on the fixed pool: Holds. -/
namespace Go.Proofs.Ytbknkahakmfhkaa
open Go.RowKit
set_option linter.unusedVariables false
set_option linter.unusedSimpArgs false

def HoP (o : Bool) (w : World) (e : Ending) (w' : World) : Prop := e = .returned (.bool o) ∧ Below w.heap.size w w'
set_option maxRecDepth 100000 in
set_option maxHeartbeats 8000000 in
theorem fHolds4 (b : Nat) (w : World) (hb : Blk w b RAW fixC) : Calls Try.prog 81 #[.slice (some ⟨b, 0, none⟩) 4 5] w (HoP false w) := by
  have c0 : w.cell? ⟨b, 0, none⟩ = some (.int .i64 0) := hb.cell (i := 0) rfl
  have c1 : w.cell? ⟨b, 1, none⟩ = some (.string ⟨#[]⟩) := hb.cell (i := 1) rfl
  have c2 : w.cell? ⟨b, 2, none⟩ = some (.int .u64 0) := hb.cell (i := 2) rfl
  have c3 : w.cell? ⟨b, 3, none⟩ = some (.int .i64 0) := hb.cell (i := 3) rfl
  have c4 : w.cell? ⟨b, 4, none⟩ = some (.int .i64 0) := hb.cell (i := 4) rfl
  have c15 : w.cell? ⟨b, 15, none⟩ = some (.int .i64 5) := hb.cell (i := 15) rfl
  clear hb
  go_enter Try.func81, Try.ntmps81
  go_wp2_with fail
  refine (wide_any 5 w).mono ?_
  rintro e wf ⟨rfl, rfl⟩
  have hwd : wideT 5 = true := by decide
  rw [hwd]
  go_wp2_with fail
  go_ret
  exact ⟨rfl, Below.refl _ _⟩
set_option maxRecDepth 100000 in
set_option maxHeartbeats 16000000 in
theorem fHolds5 (b : Nat) (w : World) (hb : Blk w b RAW fixC) : Calls Try.prog 81 #[.slice (some ⟨b, 0, none⟩) 5 5] w (HoP true w) := by
  have c0 : w.cell? ⟨b, 0, none⟩ = some (.int .i64 0) := hb.cell (i := 0) rfl
  have c1 : w.cell? ⟨b, 1, none⟩ = some (.string ⟨#[]⟩) := hb.cell (i := 1) rfl
  have c2 : w.cell? ⟨b, 2, none⟩ = some (.int .u64 0) := hb.cell (i := 2) rfl
  have c3 : w.cell? ⟨b, 3, none⟩ = some (.int .i64 0) := hb.cell (i := 3) rfl
  have c4 : w.cell? ⟨b, 4, none⟩ = some (.int .i64 0) := hb.cell (i := 4) rfl
  have c20 : w.cell? ⟨b, 20, none⟩ = some (.int .i64 0) := hb.cell (i := 20) rfl
  have HB := Lib.hid hb
  clear hb
  go_enter Try.func81, Try.ntmps81
  go_wp2_with fail
  refine (wide_any 0 w).mono ?_
  rintro e wf ⟨rfl, rfl⟩
  have hwd : wideT 0 = false := by decide
  rw [hwd]
  clear c0 c1 c2 c3 c4 c20
  go_wp2_with fail
  go_loopw [31] (fun x31 wr => ∃ i : Nat, x31 = .int .i64 (i : Int) ∧ i ≤ 4 ∧ Hid (Below wf.heap.size wf wr ∧ Blk wr b RAW fixC)) (fun x31 _ => 4 - (intOf x31).toNat)
  case atStart => exact ⟨0, rfl, by omega, Lib.hid ⟨Below.refl _ _, HB.out⟩⟩
  case round =>
    clear HB
    obtain ⟨i, rfl, hi, hW⟩ := hrel
    have hc : i = 0 ∨ i = 1 ∨ i = 2 ∨ i = 3 ∨ i = 4 := by omega
    rcases hc with rfl | rfl | rfl | rfl | rfl
    · have HB1 : Hid (Below wf.heap.size wf (wr.alloc (.cells #[.int .i64 1, .string ⟨#[97]⟩, .int .u64 0, .int .i64 0, .int .i64 0] RAW)) ∧ Blk (wr.alloc (.cells #[.int .i64 1, .string ⟨#[97]⟩, .int .u64 0, .int .i64 0, .int .i64 0] RAW)) b RAW fixC) := Lib.hid ⟨hW.out.1.alloc hW.out.1.size _, hW.out.2.below (below_alloc _ _)⟩
      have c5 : wr.cell? ⟨b, 5, none⟩ = some (.int .i64 1) := hW.out.2.cell (i := 5) rfl
      have c6 : wr.cell? ⟨b, 6, none⟩ = some (.string ⟨#[97]⟩) := hW.out.2.cell (i := 6) rfl
      have c7 : wr.cell? ⟨b, 7, none⟩ = some (.int .u64 0) := hW.out.2.cell (i := 7) rfl
      have c8 : wr.cell? ⟨b, 8, none⟩ = some (.int .i64 0) := hW.out.2.cell (i := 8) rfl
      have c9 : wr.cell? ⟨b, 9, none⟩ = some (.int .i64 0) := hW.out.2.cell (i := 9) rfl
      clear hW
      go_wp2_with fail
      refine (of_any ⟨1, ⟨#[97]⟩, 0, 0, 0⟩ _).mono ?_
      rintro e w2 ⟨rfl, hb2⟩
      have hof : ofV ⟨1, ⟨#[97]⟩, 0, 0, 0⟩ = .iface TXT (.string ⟨#[97]⟩) := rfl
      rw [hof]
      clear hof
      have HB2 : Hid (Below wf.heap.size wf w2 ∧ Blk w2 b RAW fixC) := Lib.hid ⟨HB1.out.1.trans (hb2.mono HB1.out.1.size), HB1.out.2.below hb2⟩
      clear hb2 HB1
      go_wp2_with fail
      refine (fval_text b w2 HB2.out.2).mono ?_
      rintro e w3 ⟨rfl, hb3⟩
      have HB3 : Hid (Below wf.heap.size wf (w3.alloc (.cells #[.int .i64 1, .string ⟨#[97]⟩, .int .u64 0, .string ⟨#[]⟩, .string ⟨#[]⟩, .string ⟨#[]⟩] VAL)) ∧ Blk (w3.alloc (.cells #[.int .i64 1, .string ⟨#[97]⟩, .int .u64 0, .string ⟨#[]⟩, .string ⟨#[]⟩, .string ⟨#[]⟩] VAL)) b RAW fixC) := Lib.hid ⟨(HB2.out.1.trans (hb3.mono HB2.out.1.size)).alloc (HB2.out.1.trans (hb3.mono HB2.out.1.size)).size _, (HB2.out.2.below hb3).below (below_alloc _ _)⟩
      clear hb3 HB2
      go_wp2_with fail
      go_roundw
      case rel => exact ⟨1, rfl, by omega, HB3⟩
      case measure => simp [intOf]
    · have HB1 : Hid (Below wf.heap.size wf (wr.alloc (.cells #[.int .i64 7, .string ⟨#[]⟩, .int .u64 0, .int .i64 1, .int .i64 0] RAW)) ∧ Blk (wr.alloc (.cells #[.int .i64 7, .string ⟨#[]⟩, .int .u64 0, .int .i64 1, .int .i64 0] RAW)) b RAW fixC) := Lib.hid ⟨hW.out.1.alloc hW.out.1.size _, hW.out.2.below (below_alloc _ _)⟩
      have c10 : wr.cell? ⟨b, 10, none⟩ = some (.int .i64 7) := hW.out.2.cell (i := 10) rfl
      have c11 : wr.cell? ⟨b, 11, none⟩ = some (.string ⟨#[]⟩) := hW.out.2.cell (i := 11) rfl
      have c12 : wr.cell? ⟨b, 12, none⟩ = some (.int .u64 0) := hW.out.2.cell (i := 12) rfl
      have c13 : wr.cell? ⟨b, 13, none⟩ = some (.int .i64 1) := hW.out.2.cell (i := 13) rfl
      have c14 : wr.cell? ⟨b, 14, none⟩ = some (.int .i64 0) := hW.out.2.cell (i := 14) rfl
      have d0 : (wr.alloc (.cells #[.int .i64 7, .string ⟨#[]⟩, .int .u64 0, .int .i64 1, .int .i64 0] RAW)).cell? ⟨b, 5, none⟩ = some (.int .i64 1) := HB1.out.2.cell (i := 5) rfl
      clear hW
      go_wp2_with fail
      refine (wide_any 1 _).mono ?_
      rintro e w1 ⟨rfl, hw1⟩; replace hw1 := hw1.symm; subst hw1
      have hwd : wideT 1 = false := by decide
      rw [hwd]
      go_wp2_with fail
      refine (of_any ⟨7, ⟨#[]⟩, 0, 1, 0⟩ _).mono ?_
      rintro e w2 ⟨rfl, hb2⟩
      have hof : ofV ⟨7, ⟨#[]⟩, 0, 1, 0⟩ = .iface LNK (.agg #[.int .i64 7, .int .i64 1]) := rfl
      rw [hof]
      clear hof
      have HB2 : Hid (Below wf.heap.size wf w2 ∧ Blk w2 b RAW fixC) := Lib.hid ⟨HB1.out.1.trans (hb2.mono HB1.out.1.size), HB1.out.2.below hb2⟩
      clear hb2 HB1
      go_wp2_with fail
      refine (fval_link b w2 HB2.out.2).mono ?_
      rintro e w3 ⟨rfl, hb3⟩
      have HB3 : Hid (Below wf.heap.size wf (w3.alloc (.cells #[.int .i64 7, .string ⟨#[97]⟩, .int .u64 0, .string ⟨#[]⟩, .string ⟨#[]⟩, .string ⟨#[]⟩] VAL)) ∧ Blk (w3.alloc (.cells #[.int .i64 7, .string ⟨#[97]⟩, .int .u64 0, .string ⟨#[]⟩, .string ⟨#[]⟩, .string ⟨#[]⟩] VAL)) b RAW fixC) := Lib.hid ⟨(HB2.out.1.trans (hb3.mono HB2.out.1.size)).alloc (HB2.out.1.trans (hb3.mono HB2.out.1.size)).size _, (HB2.out.2.below hb3).below (below_alloc _ _)⟩
      clear hb3 HB2
      go_wp2_with fail
      go_roundw
      case rel => exact ⟨2, rfl, by omega, HB3⟩
      case measure => simp [intOf]
    · have HB1 : Hid (Below wf.heap.size wf (wr.alloc (.cells #[.int .i64 5, .string ⟨#[]⟩, .int .u64 7, .int .i64 0, .int .i64 0] RAW)) ∧ Blk (wr.alloc (.cells #[.int .i64 5, .string ⟨#[]⟩, .int .u64 7, .int .i64 0, .int .i64 0] RAW)) b RAW fixC) := Lib.hid ⟨hW.out.1.alloc hW.out.1.size _, hW.out.2.below (below_alloc _ _)⟩
      have c15 : wr.cell? ⟨b, 15, none⟩ = some (.int .i64 5) := hW.out.2.cell (i := 15) rfl
      have c16 : wr.cell? ⟨b, 16, none⟩ = some (.string ⟨#[]⟩) := hW.out.2.cell (i := 16) rfl
      have c17 : wr.cell? ⟨b, 17, none⟩ = some (.int .u64 7) := hW.out.2.cell (i := 17) rfl
      have c18 : wr.cell? ⟨b, 18, none⟩ = some (.int .i64 0) := hW.out.2.cell (i := 18) rfl
      have c19 : wr.cell? ⟨b, 19, none⟩ = some (.int .i64 0) := hW.out.2.cell (i := 19) rfl
      have d0 : (wr.alloc (.cells #[.int .i64 5, .string ⟨#[]⟩, .int .u64 7, .int .i64 0, .int .i64 0] RAW)).cell? ⟨b, 10, none⟩ = some (.int .i64 7) := HB1.out.2.cell (i := 10) rfl
      clear hW
      go_wp2_with fail
      refine (wide_any 7 _).mono ?_
      rintro e w1 ⟨rfl, hw1⟩; replace hw1 := hw1.symm; subst hw1
      have hwd : wideT 7 = false := by decide
      rw [hwd]
      go_wp2_with fail
      refine (of_any ⟨5, ⟨#[]⟩, 7, 0, 0⟩ _).mono ?_
      rintro e w2 ⟨rfl, hb2⟩
      have hof : ofV ⟨5, ⟨#[]⟩, 7, 0, 0⟩ = .iface BTS (.agg #[.int .i64 5, .int .u64 7]) := rfl
      rw [hof]
      clear hof
      have HB2 : Hid (Below wf.heap.size wf w2 ∧ Blk w2 b RAW fixC) := Lib.hid ⟨HB1.out.1.trans (hb2.mono HB1.out.1.size), HB1.out.2.below hb2⟩
      clear hb2 HB1
      go_wp2_with fail
      refine (fval_bits b w2 HB2.out.2).mono ?_
      rintro e w3 ⟨rfl, hb3⟩
      have HB3 : Hid (Below wf.heap.size wf (w3.alloc (.cells #[.int .i64 5, .string ⟨#[]⟩, .int .u64 7, .string ⟨#[]⟩, .string ⟨#[]⟩, .string ⟨#[]⟩] VAL)) ∧ Blk (w3.alloc (.cells #[.int .i64 5, .string ⟨#[]⟩, .int .u64 7, .string ⟨#[]⟩, .string ⟨#[]⟩, .string ⟨#[]⟩] VAL)) b RAW fixC) := Lib.hid ⟨(HB2.out.1.trans (hb3.mono HB2.out.1.size)).alloc (HB2.out.1.trans (hb3.mono HB2.out.1.size)).size _, (HB2.out.2.below hb3).below (below_alloc _ _)⟩
      clear hb3 HB2
      go_wp2_with fail
      go_roundw
      case rel => exact ⟨3, rfl, by omega, HB3⟩
      case measure => simp [intOf]
    · have HB1 : Hid (Below wf.heap.size wf (wr.alloc (.cells #[.int .i64 0, .string ⟨#[]⟩, .int .u64 0, .int .i64 0, .int .i64 0] RAW)) ∧ Blk (wr.alloc (.cells #[.int .i64 0, .string ⟨#[]⟩, .int .u64 0, .int .i64 0, .int .i64 0] RAW)) b RAW fixC) := Lib.hid ⟨hW.out.1.alloc hW.out.1.size _, hW.out.2.below (below_alloc _ _)⟩
      have c20 : wr.cell? ⟨b, 20, none⟩ = some (.int .i64 0) := hW.out.2.cell (i := 20) rfl
      have c21 : wr.cell? ⟨b, 21, none⟩ = some (.string ⟨#[]⟩) := hW.out.2.cell (i := 21) rfl
      have c22 : wr.cell? ⟨b, 22, none⟩ = some (.int .u64 0) := hW.out.2.cell (i := 22) rfl
      have c23 : wr.cell? ⟨b, 23, none⟩ = some (.int .i64 0) := hW.out.2.cell (i := 23) rfl
      have c24 : wr.cell? ⟨b, 24, none⟩ = some (.int .i64 0) := hW.out.2.cell (i := 24) rfl
      have d0 : (wr.alloc (.cells #[.int .i64 0, .string ⟨#[]⟩, .int .u64 0, .int .i64 0, .int .i64 0] RAW)).cell? ⟨b, 15, none⟩ = some (.int .i64 5) := HB1.out.2.cell (i := 15) rfl
      clear hW
      go_wp2_with fail
      refine (wide_any 5 _).mono ?_
      rintro e w1 ⟨rfl, hw1⟩; replace hw1 := hw1.symm; subst hw1
      have hwd : wideT 5 = true := by decide
      rw [hwd]
      go_wp2_with fail
      go_roundw
      case rel => exact ⟨4, rfl, by omega, HB1⟩
      case measure => simp [intOf]
    · go_wp2_with fail
      go_ret
      exact ⟨rfl, hW.out.1⟩
end Go.Proofs.Ytbknkahakmfhkaa
/- What a pool that is read of its bytes leaves: nothing. -/
namespace Go.Proofs.Ytbknkahakmfhkaa
open Go.RowKit
set_option linter.unusedVariables false
set_option linter.unusedSimpArgs false

theorem putB_len9 (v : Nat) (m : Int) (h : sizedB m = true) : (putB v m).length = m.toNat := by unfold putB; rw [if_pos h]; simp [littleL_length]
theorem next_ok9 {L : List UInt8} {p : Nat} {er m : Int} (h : nextEr L.length p er m true = 0) : er = 0 ∧ nextAt L.length p er m true = p + m.toNat ∧ (nextL L p er m true).length = m.toNat := by
  have hok : er = 0 ∧ 0 ≤ m ∧ m ≤ (L.length : Int) - p := by
    unfold nextEr at h
    by_cases h1 : er = 0
    · rw [if_neg (by simpa using h1)] at h
      by_cases h2 : m < 0
      · rw [if_pos (.inl h2)] at h; cases h
      · rw [if_neg (by simp; omega)] at h
        by_cases h3 : m > (L.length : Int) - p
        · rw [if_pos h3] at h; cases h
        · exact ⟨h1, by omega, by omega⟩
    · rw [if_pos h1] at h; exact absurd h h1
  have hk : nextOk L.length p er m true = true := by unfold nextOk; exact decide_eq_true ⟨hok.1, hok.2.1, rfl, hok.2.2⟩
  refine ⟨hok.1, by unfold nextAt; rw [if_pos hk], ?_⟩
  unfold nextL; rw [if_pos hk, List.length_take, List.length_drop]; omega
theorem failE_zero {e x : Int} (hx : x ≠ 0) : failE e x ≠ 0 := failE_ne e x hx
/-- A constant that was read has the bytes that the cursor moved. -/
theorem stepK_len {L : List UInt8} {p : Nat} (h : (stepK L p).2.2 = 0) : (stepK L p).2.1 = p + (entB (stepK L p).1).length := by
  revert h
  unfold stepK
  generalize ht : bigR (nextL L p 0 1 true) = t
  generalize hp1 : nextAt L.length p 0 1 true = p1
  generalize he1 : nextEr L.length p 0 1 true = e1
  have h1 : e1 = 0 → p1 = p + 1 := fun he => by
    rw [he] at he1
    have := (next_ok9 he1).2.1
    rw [← hp1, this]; rfl
  have hle := kindT_le t
  have hc : kindT t = 0 ∨ kindT t = 1 ∨ kindT t = 2 ∨ kindT t = 3 ∨ kindT t = 4 := by omega
  rcases hc with hk | hk | hk | hk | hk
  · intro h
    have : stepT L t p1 e1 = (⟨t, ByteArray.empty, 0, 0, 0⟩, p1, failE e1 9) := by unfold stepT; simp only [hk]
    rw [this] at h
    exact absurd h (failE_zero (by decide))
  · have hst : stepT L t p1 e1 = (⟨t, strOf (nextL L (nextAt L.length p1 e1 2 true) (nextEr L.length p1 e1 2 true) (bigR (nextL L p1 e1 2 true)) true), 0, 0, 0⟩, nextAt L.length (nextAt L.length p1 e1 2 true) (nextEr L.length p1 e1 2 true) (bigR (nextL L p1 e1 2 true)) true, if (unitsOf (nextL L (nextAt L.length p1 e1 2 true) (nextEr L.length p1 e1 2 true) (bigR (nextL L p1 e1 2 true)) true)).isSome then nextEr L.length (nextAt L.length p1 e1 2 true) (nextEr L.length p1 e1 2 true) (bigR (nextL L p1 e1 2 true)) true else failE (nextEr L.length (nextAt L.length p1 e1 2 true) (nextEr L.length p1 e1 2 true) (bigR (nextL L p1 e1 2 true)) true) 2) := by unfold stepT; simp only [hk]
    rw [hst]
    intro h
    simp only at h ⊢
    split at h
    · obtain ⟨h2, h3, h4⟩ := next_ok9 h
      obtain ⟨h5, h6, h7⟩ := next_ok9 h2
      have h8 := h1 h5
      rw [h3]
      unfold entB
      simp only [hk, List.length_append, nameL_len, str_size, List.length_singleton]
      rw [h4, putB_len9 _ _ rfl, h6]
      omega
    · exact absurd h (failE_zero (by decide))
  · have hst : stepT L t p1 e1 = (⟨t, ByteArray.empty, bigR (nextL L p1 e1 (sizeT t) true), 0, 0⟩, nextAt L.length p1 e1 (sizeT t) true, nextEr L.length p1 e1 (sizeT t) true) := by unfold stepT; simp only [hk]
    rw [hst]
    intro h
    simp only at h ⊢
    obtain ⟨h2, h3, h4⟩ := next_ok9 h
    rw [h3, h1 h2]
    unfold entB
    simp only [hk, List.length_append, List.length_singleton]
    rw [putB_len9 _ _ (sized_sizeT t)]
    omega
  · have hst : stepT L t p1 e1 = (⟨t, ByteArray.empty, 0, bigR (nextL L p1 e1 2 true), 0⟩, nextAt L.length p1 e1 2 true, nextEr L.length p1 e1 2 true) := by unfold stepT; simp only [hk]
    rw [hst]
    intro h
    simp only at h ⊢
    obtain ⟨h2, h3, h4⟩ := next_ok9 h
    rw [h3, h1 h2]
    unfold entB
    simp only [hk, List.length_append, List.length_singleton]
    rw [putB_len9 _ _ rfl]
    omega
  · have hst : stepT L t p1 e1 = (⟨t, ByteArray.empty, 0, bigR (nextL L p1 e1 2 true), bigR (nextL L (nextAt L.length p1 e1 2 true) (nextEr L.length p1 e1 2 true) 2 true)⟩, nextAt L.length (nextAt L.length p1 e1 2 true) (nextEr L.length p1 e1 2 true) 2 true, nextEr L.length (nextAt L.length p1 e1 2 true) (nextEr L.length p1 e1 2 true) 2 true) := by unfold stepT; simp only [hk]
    rw [hst]
    intro h
    simp only at h ⊢
    obtain ⟨h2, h3, h4⟩ := next_ok9 h
    obtain ⟨h5, h6, h7⟩ := next_ok9 h2
    rw [h3, h6, h1 h5]
    unfold entB
    simp only [hk, List.length_append, List.length_singleton]
    rw [putB_len9 _ _ rfl, putB_len9 _ _ rfl]
    omega
theorem addK_len (r : RawK) : ((addK r).flatMap entB).length = (entB r).length := by
  unfold addK
  split
  · simp only [List.flatMap_cons, List.flatMap_nil, List.append_nil, List.length_append]
    show (entB r).length + (entB zeroK).length = _
    rfl
  · simp
theorem loopK_len {L : List UInt8} {n : Nat} : ∀ (k : Nat) (acc : List RawK) (p : Nat), (loopK L n k acc p).2.2 = 0 → ∃ suf, (loopK L n k acc p).1 = acc ++ suf ∧ (loopK L n k acc p).2.1 = p + (suf.flatMap entB).length
  | 0, acc, p, h => absurd h (by show ¬ ((2 : Int) = 0); decide)
  | k+1, acc, p, h => by
    unfold loopK at h ⊢
    by_cases h1 : acc.length < n
    · rw [if_pos h1] at h ⊢
      by_cases h2 : (stepK L p).2.2 = 0
      · rw [if_pos h2] at h ⊢
        obtain ⟨suf, h3, h4⟩ := loopK_len k _ _ h
        refine ⟨addK (stepK L p).1 ++ suf, by rw [h3, List.append_assoc], ?_⟩
        rw [h4, stepK_len h2, List.flatMap_append, List.length_append, addK_len]
        omega
      · rw [if_neg h2] at h
        exact absurd h h2
    · rw [if_neg h1] at h ⊢
      by_cases h2 : n < acc.length
      · rw [if_pos h2] at h
        exact absurd h (by show ¬ ((2 : Int) = 0); decide)
      · rw [if_neg h2]
        exact ⟨[], by simp, by simp⟩
theorem loopK_err {L : List UInt8} {n : Nat} : ∀ (k : Nat) (acc : List RawK) (p : Nat), n - acc.length < k → (loopK L n k acc p).2.2 ≠ 0 → (loopK L n k acc p).1 = []
  | 0, acc, p, hf, h => by omega
  | k+1, acc, p, hf, h => by
    unfold loopK at h ⊢
    by_cases h1 : acc.length < n
    · rw [if_pos h1] at h ⊢
      by_cases h2 : (stepK L p).2.2 = 0
      · rw [if_pos h2] at h ⊢
        have := addK_pos (stepK L p).1
        exact loopK_err k _ _ (by rw [List.length_append]; omega) h
      · rw [if_neg h2]
    · rw [if_neg h1] at h ⊢
      by_cases h2 : n < acc.length
      · rw [if_pos h2]
      · rw [if_neg h2] at h
        exact absurd rfl h
/-- A pool that is read as it was leaves nothing behind, and no error. -/
theorem readK_end {l : List RawK} (hl : l ≠ []) (h : (readK (poolB l)).1 = l) : (readK (poolB l)).2.1 = (poolB l).length ∧ (readK (poolB l)).2.2 = 0 := by
  revert h
  unfold readK
  simp only
  split
  · intro h; exact absurd h.symm hl
  · rename_i he
    have he := Decidable.not_not.1 he
    obtain ⟨-, h2, -⟩ := next_ok9 he
    split
    · intro h; exact absurd h.symm hl
    · rename_i hn
      intro h
      by_cases hz : (loopK (poolB l) (bigR (nextL (poolB l) 0 0 2 true)).toNat ((bigR (nextL (poolB l) 0 0 2 true)).toNat + 1) [zeroK] (nextAt (poolB l).length 0 0 2 true)).2.2 = 0
      · refine ⟨?_, hz⟩
        obtain ⟨suf, h3, h4⟩ := loopK_len _ _ _ hz
        rw [h4, h2]
        rw [h] at h3
        unfold poolB accB
        rw [List.take_length, List.length_append, putB_len9 _ _ rfl]
        have : l.drop 1 = suf := by
          have h3' : l = zeroK :: suf := h3
          rw [h3']; rfl
        rw [this]; omega
      · rw [loopK_err _ _ _ (by simp only [List.length_singleton]; omega) hz] at h
        exact absurd h.symm hl
theorem fix_read : readK (poolB fixL) = (fixL, (poolB fixL).length, 0) := by kernel_rfl
theorem fix_zero : poolB [zeroK] = [0, 1] := by decide +kernel
end Go.Proofs.Ytbknkahakmfhkaa
/- The fixed calls of law 16. -/
namespace Go.Proofs.Ytbknkahakmfhkaa
open Go.RowKit
set_option linter.unusedVariables false
set_option linter.unusedSimpArgs false

theorem fix_rd {w : World} {b : Nat} (hb : Blk w b RAW fixC) : RdW w (some ⟨b, 0, none⟩) fixL := by
  refine .inr ⟨b, 0, rfl, fun i r hr => ?_⟩
  rcases i with _ | _ | _ | _ | _ | i
  · obtain rfl : zeroK = r := by simpa [fixL] using hr
    exact ⟨hb.cell (i := 0) rfl, hb.cell (i := 1) rfl, hb.cell (i := 2) rfl, hb.cell (i := 3) rfl, hb.cell (i := 4) rfl⟩
  · obtain rfl : (⟨1, ⟨#[97]⟩, 0, 0, 0⟩ : RawK) = r := by simpa [fixL] using hr
    exact ⟨hb.cell (i := 5) rfl, hb.cell (i := 6) rfl, hb.cell (i := 7) rfl, hb.cell (i := 8) rfl, hb.cell (i := 9) rfl⟩
  · obtain rfl : (⟨7, ⟨#[]⟩, 0, 1, 0⟩ : RawK) = r := by simpa [fixL] using hr
    exact ⟨hb.cell (i := 10) rfl, hb.cell (i := 11) rfl, hb.cell (i := 12) rfl, hb.cell (i := 13) rfl, hb.cell (i := 14) rfl⟩
  · obtain rfl : (⟨5, ⟨#[]⟩, 7, 0, 0⟩ : RawK) = r := by simpa [fixL] using hr
    exact ⟨hb.cell (i := 15) rfl, hb.cell (i := 16) rfl, hb.cell (i := 17) rfl, hb.cell (i := 18) rfl, hb.cell (i := 19) rfl⟩
  · obtain rfl : zeroK = r := by simpa [fixL] using hr
    exact ⟨hb.cell (i := 20) rfl, hb.cell (i := 21) rfl, hb.cell (i := 22) rfl, hb.cell (i := 23) rfl, hb.cell (i := 24) rfl⟩
  · simp [fixL] at hr
theorem zero_rd (w : World) : RdW (w.alloc (.cells #[.int .i64 0, .string ⟨#[]⟩, .int .u64 0, .int .i64 0, .int .i64 0] RAW)) (some ⟨w.heap.size, 0, none⟩) [zeroK] := by
  have hb := Blk.new w RAW #[.int .i64 0, .string ⟨#[]⟩, .int .u64 0, .int .i64 0, .int .i64 0]
  refine .inr ⟨w.heap.size, 0, rfl, fun i r hr => ?_⟩
  rcases i with _ | i
  · obtain rfl : zeroK = r := by simpa using hr
    exact ⟨hb.cell (i := 0) rfl, hb.cell (i := 1) rfl, hb.cell (i := 2) rfl, hb.cell (i := 3) rfl, hb.cell (i := 4) rfl⟩
  · simp at hr
theorem fix_few : ∀ r ∈ fixL, r.text.size ≤ 200 := by
  intro r hr
  simp only [fixL, List.mem_cons, List.not_mem_nil, or_false] at hr
  rcases hr with rfl | rfl | rfl | rfl | rfl <;> decide
theorem fix_bits : ∀ r ∈ fixL, 0 ≤ r.bits ∧ r.bits < 18446744073709551616 := by
  intro r hr
  simp only [fixL, List.mem_cons, List.not_mem_nil, or_false] at hr
  rcases hr with rfl | rfl | rfl | rfl | rfl <;> decide
set_option maxRecDepth 100000 in
set_option maxHeartbeats 16000000 in
theorem fixed16_any (w : World) : Calls Try.prog 40 #[] w (HoP true w) := by
  have HF : Hid (Blk (w.alloc (.cells fixC RAW)) w.heap.size RAW fixC ∧ Below w.heap.size w (w.alloc (.cells fixC RAW))) := Lib.hid ⟨Blk.new _ _ _, below_alloc _ _⟩
  go_enter Try.func40, Try.ntmps40
  go_wp2_with fail
  have hfc : (#[.int .i64 0, .string ⟨#[]⟩, .int .u64 0, .int .i64 0, .int .i64 0, .int .i64 1, .string ⟨#[97]⟩, .int .u64 0, .int .i64 0, .int .i64 0, .int .i64 7, .string ⟨#[]⟩, .int .u64 0, .int .i64 1, .int .i64 0, .int .i64 5, .string ⟨#[]⟩, .int .u64 7, .int .i64 0, .int .i64 0, .int .i64 0, .string ⟨#[]⟩, .int .u64 0, .int .i64 0, .int .i64 0] : Array Value) = fixC := rfl
  rw [hfc]
  clear hfc
  obtain ⟨b, hb⟩ : ∃ b, b = w.heap.size := ⟨_, rfl⟩
  obtain ⟨w1, hw1⟩ : ∃ w1, w1 = w.alloc (.cells fixC RAW) := ⟨_, rfl⟩
  rw [← hb, ← hw1]
  rw [← hw1] at HF
  have HF1 : Hid (Blk w1 b RAW fixC ∧ Below w.heap.size w w1) := Lib.hid (by rw [hb]; exact HF.out)
  clear hw1 hb HF
  refine (fValue2 b w1 HF1.out.1).mono ?_
  rintro e w2 ⟨rfl, hb2⟩
  obtain ⟨o2, ho2⟩ : ∃ o, o = w2.heap.size := ⟨_, rfl⟩
  obtain ⟨w3, hw3⟩ : ∃ w3, w3 = w2.alloc (.cells #[.int .i64 7, .string ⟨#[97]⟩, .int .u64 0, .string ⟨#[]⟩, .string ⟨#[]⟩, .string ⟨#[]⟩] VAL) := ⟨_, rfl⟩
  have HF3 : Hid (Blk w3 b RAW fixC ∧ Below w.heap.size w w3 ∧ Blk w3 o2 VAL #[.int .i64 7, .string ⟨#[97]⟩, .int .u64 0, .string ⟨#[]⟩, .string ⟨#[]⟩, .string ⟨#[]⟩]) := Lib.hid (by
    rw [hw3, ho2]
    have h1 := HF1.out.2.trans (hb2.mono HF1.out.2.size)
    exact ⟨(HF1.out.1.below hb2).below (below_alloc _ _), h1.alloc h1.size _, Blk.new _ _ _⟩)
  clear hb2 HF1
  go_wp2_with fail
  rw [← hw3, ← ho2]
  clear hw3 ho2
  refine (fValue4 b w3 HF3.out.1).mono ?_
  rintro e w4 ⟨rfl, hb4⟩
  obtain ⟨w5, hw5⟩ : ∃ w5, w5 = w4.alloc (.cells #[.int .i64 0, .string ⟨#[]⟩, .int .u64 0, .string ⟨#[]⟩, .string ⟨#[]⟩, .string ⟨#[]⟩] VAL) := ⟨_, rfl⟩
  obtain ⟨g8, hg8⟩ : ∃ g, g = w5.heap.size := ⟨_, rfl⟩
  obtain ⟨w6, hw6⟩ : ∃ w6, w6 = w5.alloc (.cells #[.int .i64 8] ITY) := ⟨_, rfl⟩
  have HF6 : Hid (Blk w6 b RAW fixC ∧ Below w.heap.size w w6 ∧ Blk w6 o2 VAL #[.int .i64 7, .string ⟨#[97]⟩, .int .u64 0, .string ⟨#[]⟩, .string ⟨#[]⟩, .string ⟨#[]⟩] ∧ Blk w6 g8 ITY #[.int .i64 8]) := Lib.hid (by
    rw [hw6, hg8, hw5]
    have h1 := HF3.out.2.1.trans (hb4.mono HF3.out.2.1.size)
    have h2 := h1.alloc h1.size (.cells #[.int .i64 0, .string ⟨#[]⟩, .int .u64 0, .string ⟨#[]⟩, .string ⟨#[]⟩, .string ⟨#[]⟩] VAL)
    exact ⟨((HF3.out.1.below hb4).below (below_alloc _ _)).below (below_alloc _ _), h2.alloc h2.size _, ((HF3.out.2.2.below hb4).below (below_alloc _ _)).below (below_alloc _ _), Blk.new _ _ _⟩)
  have hgs : g8 = w4.heap.size + 1 := by rw [hg8, hw5]; simp
  clear hb4 HF3
  go_wp2_with fail
  obtain ⟨o9, ho9⟩ : ∃ o, o = w4.heap.size := ⟨_, rfl⟩
  rw [← hw5, ← hw6, ← hgs, ← ho9]
  clear hw5 hw6 hgs hg8 ho9
  refine (fValue2s b g8 w6 HF6.out.1 HF6.out.2.2.2).mono ?_
  rintro e w7 ⟨rfl, hb7⟩
  obtain ⟨w8, hw8⟩ : ∃ w8, w8 = w7.alloc (.cells #[.int .i64 0, .string ⟨#[]⟩, .int .u64 0, .string ⟨#[]⟩, .string ⟨#[]⟩, .string ⟨#[]⟩] VAL) := ⟨_, rfl⟩
  have HF8 : Hid (Blk w8 b RAW fixC ∧ Below w.heap.size w w8 ∧ Blk w8 o2 VAL #[.int .i64 7, .string ⟨#[97]⟩, .int .u64 0, .string ⟨#[]⟩, .string ⟨#[]⟩, .string ⟨#[]⟩]) := Lib.hid (by
    rw [hw8]
    have h1 := HF6.out.2.1.trans (hb7.mono HF6.out.2.1.size)
    exact ⟨(HF6.out.1.below hb7).below (below_alloc _ _), h1.alloc h1.size _, (HF6.out.2.2.1.below hb7).below (below_alloc _ _)⟩)
  clear hb7 HF6
  go_wp2_with fail
  rw [← hw8]
  clear hw8
  generalize w7.heap.size = o10
  refine (pbytes_any (some ⟨b, 0, none⟩) 5 5 fixL w8 rfl (by decide) (fix_rd HF8.out.1) fix_few fix_bits).mono ?_
  rintro e w9 ⟨p9, k9, d9, rfl, hbuf9, hb9⟩
  have HF9 : Hid (Blk w9 b RAW fixC ∧ Below w.heap.size w w9 ∧ Blk w9 o2 VAL #[.int .i64 7, .string ⟨#[97]⟩, .int .u64 0, .string ⟨#[]⟩, .string ⟨#[]⟩, .string ⟨#[]⟩]) := Lib.hid ⟨HF8.out.1.below hb9, HF8.out.2.1.trans (hb9.mono HF8.out.2.1.size), HF8.out.2.2.below hb9⟩
  have HBUF9 := Lib.hid hbuf9
  clear hb9 HF8 hbuf9
  go_wp2_with fail
  refine (cNew_any p9 k9 d9 (poolB fixL) w9 HBUF9.out.len (by rw [← HBUF9.out.len]; decide +kernel) HBUF9.out.rd).mono ?_
  rintro e w10 ⟨g, rfl, hgs, hc10, hb10⟩
  have HF10 : Hid (Blk w10 b RAW fixC ∧ Below w.heap.size w w10 ∧ Blk w10 o2 VAL #[.int .i64 7, .string ⟨#[97]⟩, .int .u64 0, .string ⟨#[]⟩, .string ⟨#[]⟩, .string ⟨#[]⟩] ∧ b < g ∧ o2 < g ∧ w.heap.size ≤ g) := Lib.hid ⟨HF9.out.1.below hb10, HF9.out.2.1.trans (hb10.mono HF9.out.2.1.size), HF9.out.2.2.below hb10, Nat.lt_of_lt_of_le HF9.out.1.lt hgs, Nat.lt_of_lt_of_le HF9.out.2.2.lt hgs, Nat.le_trans HF9.out.2.1.size hgs⟩
  have HC10 := Lib.hid hc10
  clear hgs hc10 hb10 HF9 HBUF9
  go_wp2_with fail
  refine (pread_any g (poolB fixL) w10 HC10.out).mono ?_
  rintro e w11 ⟨a11, n11, c11, rfl, hl11, -, hc11, hg11⟩
  rw [fix_read] at hl11 hc11
  obtain rfl : n11 = 5 := hl11.symm
  have HF11 : Hid (Blk w11 b RAW fixC ∧ Below w.heap.size w w11 ∧ Blk w11 o2 VAL #[.int .i64 7, .string ⟨#[97]⟩, .int .u64 0, .string ⟨#[]⟩, .string ⟨#[]⟩, .string ⟨#[]⟩] ∧ b < g ∧ o2 < g ∧ w.heap.size ≤ g) := Lib.hid ⟨HF10.out.1.grown hg11 (fun h => by have h := Option.some.inj h; have := HF10.out.2.2.2.1; omega), HF10.out.2.1.grown hg11 HF10.out.2.1.size (fun k hk => by have h := Option.some.inj hk; have := HF10.out.2.2.2.2.2; omega), HF10.out.2.2.1.grown hg11 (fun h => by have h := Option.some.inj h; have := HF10.out.2.2.2.2.1; omega), HF10.out.2.2.2⟩
  have HC11 : Hid (CurOk w11 g (poolB fixL) (poolB fixL).length 0) := Lib.hid hc11
  clear hl11 hc11 hg11 HF10 HC10
  go_wp2_with fail
  obtain ⟨w12, hw12⟩ : ∃ w12, w12 = w11.alloc (.cells #[.int .i64 0, .string ⟨#[]⟩, .int .u64 0, .int .i64 0, .int .i64 0] RAW) := ⟨_, rfl⟩
  obtain ⟨o12, ho12⟩ : ∃ o, o = w11.heap.size := ⟨_, rfl⟩
  have hb12 : Below w11.heap.size w11 w12 := by rw [hw12]; exact below_alloc _ _
  have HR12 : Hid (RdW w12 (some ⟨o12, 0, none⟩) [zeroK]) := Lib.hid (by rw [hw12, ho12]; exact zero_rd w11)
  have HF12 : Hid (Blk w12 b RAW fixC ∧ Below w.heap.size w w12 ∧ Blk w12 o2 VAL #[.int .i64 7, .string ⟨#[97]⟩, .int .u64 0, .string ⟨#[]⟩, .string ⟨#[]⟩, .string ⟨#[]⟩] ∧ b < g ∧ o2 < g ∧ w.heap.size ≤ g) := Lib.hid ⟨HF11.out.1.below hb12, HF11.out.2.1.trans (hb12.mono HF11.out.2.1.size), HF11.out.2.2.1.below hb12, HF11.out.2.2.2⟩
  have HC12 := Lib.hid (HC11.out.below hb12)
  rw [← hw12, ← ho12]
  clear hw12 ho12 hb12 HF11 HC11
  refine (pbytes_any (some ⟨o12, 0, none⟩) 1 1 [zeroK] w12 rfl (by decide) HR12.out (by intro r hr; rw [List.mem_singleton] at hr; subst hr; decide) (by intro r hr; rw [List.mem_singleton] at hr; subst hr; decide)).mono ?_
  rintro e w13 ⟨p13, k13, d13, rfl, hbuf13, hb13⟩
  rw [fix_zero] at hbuf13
  have hcv := conv_str (P := Try.prog) Try.underlying29 Try.underlying5 Try.underlying9 d13 hbuf13.len hbuf13.rd
  have hs01 : strOf [0, 1] = ⟨#[0, 1]⟩ := rfl
  rw [hs01] at hcv
  have HF13 : Hid (Blk w13 b RAW fixC ∧ Below w.heap.size w w13 ∧ Blk w13 o2 VAL #[.int .i64 7, .string ⟨#[97]⟩, .int .u64 0, .string ⟨#[]⟩, .string ⟨#[]⟩, .string ⟨#[]⟩] ∧ b < g ∧ o2 < g ∧ w.heap.size ≤ g) := Lib.hid ⟨HF12.out.1.below hb13, HF12.out.2.1.trans (hb13.mono HF12.out.2.1.size), HF12.out.2.2.1.below hb13, HF12.out.2.2.2⟩
  have HC13 := Lib.hid (HC12.out.below hb13)
  have c0 : w13.cell? ⟨o2, 0, none⟩ = some (.int .i64 7) := HF13.out.2.2.1.cell (i := 0) rfl
  have c1 : w13.cell? ⟨o2, 1, none⟩ = some (.string ⟨#[97]⟩) := HF13.out.2.2.1.cell (i := 1) rfl
  have c2 : w13.cell? ⟨o2, 2, none⟩ = some (.int .u64 0) := HF13.out.2.2.1.cell (i := 2) rfl
  have c3 : w13.cell? ⟨o2, 3, none⟩ = some (.string ⟨#[]⟩) := HF13.out.2.2.1.cell (i := 3) rfl
  have c4 : w13.cell? ⟨o2, 4, none⟩ = some (.string ⟨#[]⟩) := HF13.out.2.2.1.cell (i := 4) rfl
  have c5 : w13.cell? ⟨o2, 5, none⟩ = some (.string ⟨#[]⟩) := HF13.out.2.2.1.cell (i := 5) rfl
  clear hbuf13 hb13 hs01 HF12 HC12 HR12
  go_wp2_with fail
  clear c0 c1 c2 c3 c4 c5 hcv
  refine (cEnd_any g (poolB fixL) (poolB fixL).length 0 w13 HC13.out).mono ?_
  rintro e w14 ⟨rfl, -, hg14⟩
  have hend : endEr (poolB fixL).length (poolB fixL).length 0 = 0 := by unfold endEr; rw [if_neg (Nat.lt_irrefl _)]
  rw [hend]
  have HF14 : Hid (Blk w14 b RAW fixC ∧ Below w.heap.size w w14) := Lib.hid ⟨HF13.out.1.grown hg14 (fun h => by have h := Option.some.inj h; have := HF13.out.2.2.2.1; omega), HF13.out.2.1.grown hg14 HF13.out.2.1.size (fun k hk => by have h := Option.some.inj hk; have := HF13.out.2.2.2.2.2; omega)⟩
  clear hend hg14 HF13 HC13
  go_wp2_with fail
  refine (fHolds5 b w14 HF14.out.1).mono ?_
  rintro e w15 ⟨rfl, hb15⟩
  have HF15 : Hid (Blk w15 b RAW fixC ∧ Below w.heap.size w w15) := Lib.hid ⟨HF14.out.1.below hb15, HF14.out.2.trans (hb15.mono HF14.out.2.size)⟩
  clear hb15 HF14
  go_wp2_with fail
  refine (fHolds4 b w15 HF15.out.1).mono ?_
  rintro e w16 ⟨rfl, hb16⟩
  have HF16 := Lib.hid (HF15.out.2.trans (hb16.mono HF15.out.2.size))
  clear hb16 HF15
  go_wp2_with fail
  go_ret
  exact ⟨rfl, HF16.out⟩
end Go.Proofs.Ytbknkahakmfhkaa
