/- Package pool: a raw constant as one of its kind. -/
import Derived.Test.YtbknkahakmfhkaaRows
import Derived.Test.YtbknkahakmfhkaaLib
import Derived.Test.YtbknkahakmfhkaaMem
import Derived.Laws.ResultCell
import Derived.BigQuiet
import Derived.Shelf.RegionOpenPlain
import Derived.Test.YtbknkahakmfhkaaRowP
namespace Go.Proofs.Ytbknkahakmfhkaa
open Go.RowKit
set_option linter.unusedVariables false
set_option linter.unusedSimpArgs false

/-- A raw constant. -/
structure RawK where
  tag : Int
  text : ByteArray
  bits : Int
  a : Int
  b : Int
def rwE (r : RawK) : List Value := [.int .i64 r.tag, .string r.text, .int .u64 r.bits, .int .i64 r.a, .int .i64 r.b]
abbrev TXT : TypeId := 124
abbrev BTS : TypeId := 126
abbrev LNK : TypeId := 129
abbrev PAR : TypeId := 131
/-- Which kind a tag has: 0 none, 1 text, 2 bits, 3 a link, 4 a pair. -/
def kindT (t : Int) : Nat := if t = 1 then 1 else if t = 3 ∨ t = 4 ∨ t = 5 ∨ t = 6 then 2 else if t = 7 ∨ t = 8 then 3 else if t = 9 ∨ t = 10 ∨ t = 11 ∨ t = 12 then 4 else 0
def ofV (r : RawK) : Value := match kindT r.tag with
  | 1 => .iface TXT (.string r.text)
  | 2 => .iface BTS (.agg #[.int .i64 r.tag, .int .u64 r.bits])
  | 3 => .iface LNK (.agg #[.int .i64 r.tag, .int .i64 r.a])
  | 4 => .iface PAR (.agg #[.int .i64 r.tag, .int .i64 r.a, .int .i64 r.b])
  | _ => .nilIface
set_option maxRecDepth 100000 in
set_option maxHeartbeats 8000000 in
theorem of_any (r : RawK) (w : World) : Calls Try.prog 89 #[.agg (rwE r).toArray] w fun e w' => e = .returned (ofV r) ∧ Below w.heap.size w w' := by
  obtain ⟨t, s, bi, a, b⟩ := r
  have HB := Lib.hid (below_alloc w (.cells #[.int .i64 t, .string s, .int .u64 bi, .int .i64 a, .int .i64 b] 111))
  simp only [rwE]
  by_cases h1 : t = 1
  · subst h1
    go_enter Try.func89, Try.ntmps89
    go_wp2
    go_ret
    exact ⟨rfl, HB.out⟩
  by_cases h2 : t = 3 ∨ t = 4 ∨ t = 5 ∨ t = 6
  · rcases h2 with rfl | rfl | rfl | rfl
    all_goals
      go_enter Try.func89, Try.ntmps89
      go_wp2
      go_ret
      exact ⟨rfl, HB.out⟩
  by_cases h3 : t = 7 ∨ t = 8
  · rcases h3 with rfl | rfl
    all_goals
      go_enter Try.func89, Try.ntmps89
      go_wp2
      go_ret
      exact ⟨rfl, HB.out⟩
  by_cases h4 : t = 9 ∨ t = 10 ∨ t = 11 ∨ t = 12
  · rcases h4 with rfl | rfl | rfl | rfl
    all_goals
      go_enter Try.func89, Try.ntmps89
      go_wp2
      go_ret
      exact ⟨rfl, HB.out⟩
  have hz : ofV ⟨t, s, bi, a, b⟩ = .nilIface := by
    have : kindT t = 0 := by unfold kindT; rw [if_neg h1, if_neg h2, if_neg h3, if_neg h4]
    unfold ofV
    simp only [this]
  rw [hz]
  have g1 : (t == 1) = false := by simpa using h1
  have g3 : (t == 3) = false := by simp; omega
  have g4 : (t == 4) = false := by simp; omega
  have g5 : (t == 5) = false := by simp; omega
  have g6 : (t == 6) = false := by simp; omega
  have g7 : (t == 7) = false := by simp; omega
  have g8 : (t == 8) = false := by simp; omega
  have g9 : (t == 9) = false := by simp; omega
  have g10 : (t == 10) = false := by simp; omega
  have g11 : (t == 11) = false := by simp; omega
  have g12 : (t == 12) = false := by simp; omega
  clear h1 h2 h3 h4 hz
  go_enter Try.func89, Try.ntmps89
  go_wp2
  go_ret
  exact ⟨rfl, HB.out⟩
end Go.Proofs.Ytbknkahakmfhkaa
/- Package pool: tags of constants; a constant as it is told. -/
namespace Go.Proofs.Ytbknkahakmfhkaa
open Go.RowKit
set_option linter.unusedVariables false
set_option linter.unusedSimpArgs false

set_option maxRecDepth 100000 in
theorem tagT_any (s : ByteArray) (w : World) : Calls Try.prog 150 #[.string s] w fun e w' => e = .returned (.int .i64 1) ∧ Below w.heap.size w w' := by
  go_enter Try.func150, Try.ntmps150
  go_wp2
  go_ret
  exact ⟨rfl, Below.refl _ _⟩
set_option maxRecDepth 100000 in
theorem tagB_any (t v : Int) (w : World) : Calls Try.prog 151 #[.agg #[.int .i64 t, .int .u64 v]] w fun e w' => e = .returned (.int .i64 t) ∧ Below w.heap.size w w' := by
  have HB := Lib.hid (below_alloc w (.cells #[.int .i64 t, .int .u64 v] BTS))
  go_enter Try.func151, Try.ntmps151
  go_wp2
  go_ret
  exact ⟨rfl, HB.out⟩
set_option maxRecDepth 100000 in
theorem tagL_any (t v : Int) (w : World) : Calls Try.prog 152 #[.agg #[.int .i64 t, .int .i64 v]] w fun e w' => e = .returned (.int .i64 t) ∧ Below w.heap.size w w' := by
  have HB := Lib.hid (below_alloc w (.cells #[.int .i64 t, .int .i64 v] LNK))
  go_enter Try.func152, Try.ntmps152
  go_wp2
  go_ret
  exact ⟨rfl, HB.out⟩
set_option maxRecDepth 100000 in
theorem tagP_any (t a b : Int) (w : World) : Calls Try.prog 153 #[.agg #[.int .i64 t, .int .i64 a, .int .i64 b]] w fun e w' => e = .returned (.int .i64 t) ∧ Below w.heap.size w w' := by
  have HB := Lib.hid (below_alloc w (.cells #[.int .i64 t, .int .i64 a, .int .i64 b] PAR))
  go_enter Try.func153, Try.ntmps153
  go_wp2
  go_ret
  exact ⟨rfl, HB.out⟩
abbrev CON : TypeId := 122
theorem ta_TXT_TXT (v : Value) (w : World) : (Instr.typeAssert (.iface TXT v) CON TXT true).run Try.prog w = .ok (.tuple #[v, .bool true]) w := by kernel_rfl
theorem ta_BTS_TXT (v : Value) (w : World) : (Instr.typeAssert (.iface BTS v) CON TXT true).run Try.prog w = .ok (.tuple #[.string ⟨#[]⟩, .bool false]) w := by kernel_rfl
theorem ta_LNK_TXT (v : Value) (w : World) : (Instr.typeAssert (.iface LNK v) CON TXT true).run Try.prog w = .ok (.tuple #[.string ⟨#[]⟩, .bool false]) w := by kernel_rfl
theorem ta_PAR_TXT (v : Value) (w : World) : (Instr.typeAssert (.iface PAR v) CON TXT true).run Try.prog w = .ok (.tuple #[.string ⟨#[]⟩, .bool false]) w := by kernel_rfl
theorem ta_NIL_TXT (w : World) : (Instr.typeAssert .nilIface CON TXT true).run Try.prog w = .ok (.tuple #[.string ⟨#[]⟩, .bool false]) w := by kernel_rfl
theorem ta_TXT_BTS (v : Value) (w : World) : (Instr.typeAssert (.iface TXT v) CON BTS true).run Try.prog w = .ok (.tuple #[.agg #[.int .i64 0, .int .u64 0], .bool false]) w := by kernel_rfl
theorem ta_BTS_BTS (v : Value) (w : World) : (Instr.typeAssert (.iface BTS v) CON BTS true).run Try.prog w = .ok (.tuple #[v, .bool true]) w := by kernel_rfl
theorem ta_LNK_BTS (v : Value) (w : World) : (Instr.typeAssert (.iface LNK v) CON BTS true).run Try.prog w = .ok (.tuple #[.agg #[.int .i64 0, .int .u64 0], .bool false]) w := by kernel_rfl
theorem ta_PAR_BTS (v : Value) (w : World) : (Instr.typeAssert (.iface PAR v) CON BTS true).run Try.prog w = .ok (.tuple #[.agg #[.int .i64 0, .int .u64 0], .bool false]) w := by kernel_rfl
theorem ta_NIL_BTS (w : World) : (Instr.typeAssert .nilIface CON BTS true).run Try.prog w = .ok (.tuple #[.agg #[.int .i64 0, .int .u64 0], .bool false]) w := by kernel_rfl
theorem ta_TXT_LNK (v : Value) (w : World) : (Instr.typeAssert (.iface TXT v) CON LNK true).run Try.prog w = .ok (.tuple #[.agg #[.int .i64 0, .int .i64 0], .bool false]) w := by kernel_rfl
theorem ta_BTS_LNK (v : Value) (w : World) : (Instr.typeAssert (.iface BTS v) CON LNK true).run Try.prog w = .ok (.tuple #[.agg #[.int .i64 0, .int .i64 0], .bool false]) w := by kernel_rfl
theorem ta_LNK_LNK (v : Value) (w : World) : (Instr.typeAssert (.iface LNK v) CON LNK true).run Try.prog w = .ok (.tuple #[v, .bool true]) w := by kernel_rfl
theorem ta_PAR_LNK (v : Value) (w : World) : (Instr.typeAssert (.iface PAR v) CON LNK true).run Try.prog w = .ok (.tuple #[.agg #[.int .i64 0, .int .i64 0], .bool false]) w := by kernel_rfl
theorem ta_NIL_LNK (w : World) : (Instr.typeAssert .nilIface CON LNK true).run Try.prog w = .ok (.tuple #[.agg #[.int .i64 0, .int .i64 0], .bool false]) w := by kernel_rfl
theorem ta_TXT_PAR (v : Value) (w : World) : (Instr.typeAssert (.iface TXT v) CON PAR true).run Try.prog w = .ok (.tuple #[.agg #[.int .i64 0, .int .i64 0, .int .i64 0], .bool false]) w := by kernel_rfl
theorem ta_BTS_PAR (v : Value) (w : World) : (Instr.typeAssert (.iface BTS v) CON PAR true).run Try.prog w = .ok (.tuple #[.agg #[.int .i64 0, .int .i64 0, .int .i64 0], .bool false]) w := by kernel_rfl
theorem ta_LNK_PAR (v : Value) (w : World) : (Instr.typeAssert (.iface LNK v) CON PAR true).run Try.prog w = .ok (.tuple #[.agg #[.int .i64 0, .int .i64 0, .int .i64 0], .bool false]) w := by kernel_rfl
theorem ta_PAR_PAR (v : Value) (w : World) : (Instr.typeAssert (.iface PAR v) CON PAR true).run Try.prog w = .ok (.tuple #[v, .bool true]) w := by kernel_rfl
theorem ta_NIL_PAR (w : World) : (Instr.typeAssert .nilIface CON PAR true).run Try.prog w = .ok (.tuple #[.agg #[.int .i64 0, .int .i64 0, .int .i64 0], .bool false]) w := by kernel_rfl
attribute [go_sem] ta_TXT_TXT ta_BTS_TXT ta_LNK_TXT ta_PAR_TXT ta_NIL_TXT ta_TXT_BTS ta_BTS_BTS ta_LNK_BTS ta_PAR_BTS ta_NIL_BTS ta_TXT_LNK ta_BTS_LNK ta_LNK_LNK ta_PAR_LNK ta_NIL_LNK ta_TXT_PAR ta_BTS_PAR ta_LNK_PAR ta_PAR_PAR ta_NIL_PAR
abbrev RAW : TypeId := 111
/-- What of a raw constant counts. -/
def normR (r : RawK) : RawK := match kindT r.tag with
  | 1 => ⟨1, r.text, 0, 0, 0⟩
  | 2 => ⟨r.tag, ByteArray.empty, r.bits, 0, 0⟩
  | 3 => ⟨r.tag, ByteArray.empty, 0, r.a, 0⟩
  | 4 => ⟨r.tag, ByteArray.empty, 0, r.a, r.b⟩
  | _ => r
theorem kind_one {t : Int} (h : kindT t = 1) : t = 1 := by
  unfold kindT at h
  split at h
  · assumption
  · split at h
    · cases h
    · split at h
      · cases h
      · split at h <;> cases h
theorem Blk.drew {w : World} {g : Nat} {T : TypeId} {cs : Array Value} (h : Blk w g T cs) : Blk w.drew g T cs := h
theorem size_raw : (Try.prog.info? RAW).map (·.size) = some 5 := by kernel_rfl
theorem raw_ones (t a b : Int) (s : ByteArray) (v : Int) : ∀ u ∈ (#[.int .i64 t, .string s, .int .u64 v, .int .i64 a, .int .i64 b] : Array Value).toList, u.oneCell' = true := by
  intro u hu
  simp only [List.mem_cons, List.not_mem_nil, or_false] at hu
  rcases hu with rfl | rfl | rfl | rfl | rfl <;> rfl
set_option maxRecDepth 100000 in
set_option maxHeartbeats 8000000 in
theorem raw_1 (s : ByteArray) (w : World) : Calls Try.prog 93 #[.iface TXT (.string s)] w fun e w' => e = .returned (.agg #[.int .i64 1, .string s, .int .u64 0, .int .i64 0, .int .i64 0]) ∧ Below w.heap.size w w' := by
  go_enter Try.func93, Try.ntmps93
  go_wp2_with fail
  refine (tagT_any s _).mono ?_
  rintro e w1 ⟨rfl, hb⟩
  have hs := hb.size
  simp only [heap_size_alloc] at hs
  have HB1 := Lib.hid ((below_alloc w (.cells #[.int .i64 0, .string ⟨#[]⟩, .int .u64 0, .int .i64 0, .int .i64 0] RAW)).trans (hb.mono (by simp)))
  have HC := Lib.hid ((Blk.new w RAW #[.int .i64 0, .string ⟨#[]⟩, .int .u64 0, .int .i64 0, .int .i64 0]).below hb)
  clear hb
  go_wp2_with (refine wpList_storeBlk rfl _ _ rfl rfl rfl (HC.out.alloc _) rfl size_raw (raw_ones _ _ _ _ _) ?_; intro d0 dg)
  refine bodyPost_ret (results_cell_row (p := 2) rfl _ _ w.heap.size _ _ _ _ rfl d0 Try.underlying111 rfl size_raw) rfl ⟨rfl, ?_⟩
  exact (HB1.out.alloc (by omega) _).grown dg (by simp; omega) (fun j hj => by simp only [Option.some.injEq] at hj; omega)
set_option maxRecDepth 100000 in
set_option maxHeartbeats 8000000 in
theorem raw_2 (t v : Int) (w : World) : Calls Try.prog 93 #[.iface BTS (.agg #[.int .i64 t, .int .u64 v])] w fun e w' => e = .returned (.agg #[.int .i64 t, .string ⟨#[]⟩, .int .u64 v, .int .i64 0, .int .i64 0]) ∧ Below w.heap.size w w' := by
  go_enter Try.func93, Try.ntmps93
  go_wp2_with fail
  refine (tagB_any t v _).mono ?_
  rintro e w1 ⟨rfl, hb⟩
  have hs := hb.size
  simp only [heap_size_alloc] at hs
  have HB1 := Lib.hid ((below_alloc w (.cells #[.int .i64 0, .string ⟨#[]⟩, .int .u64 0, .int .i64 0, .int .i64 0] RAW)).trans (hb.mono (by simp)))
  have HC := Lib.hid ((Blk.new w RAW #[.int .i64 0, .string ⟨#[]⟩, .int .u64 0, .int .i64 0, .int .i64 0]).below hb)
  clear hb
  go_wp2_with (refine wpList_storeBlk rfl _ _ rfl rfl rfl ((HC.out.alloc _).alloc _) rfl size_raw (raw_ones _ _ _ _ _) ?_; intro d0 dg)
  refine bodyPost_ret (results_cell_row (p := 2) rfl _ _ w.heap.size _ _ _ _ rfl d0 Try.underlying111 rfl size_raw) rfl ⟨rfl, ?_⟩
  exact ((HB1.out.alloc (by omega) _).alloc (by simp; omega) _).grown dg (by simp; omega) (fun j hj => by simp only [Option.some.injEq] at hj; omega)
set_option maxRecDepth 100000 in
set_option maxHeartbeats 8000000 in
theorem raw_3 (t v : Int) (w : World) : Calls Try.prog 93 #[.iface LNK (.agg #[.int .i64 t, .int .i64 v])] w fun e w' => e = .returned (.agg #[.int .i64 t, .string ⟨#[]⟩, .int .u64 0, .int .i64 v, .int .i64 0]) ∧ Below w.heap.size w w' := by
  go_enter Try.func93, Try.ntmps93
  go_wp2_with fail
  refine (tagL_any t v _).mono ?_
  rintro e w1 ⟨rfl, hb⟩
  have hs := hb.size
  simp only [heap_size_alloc] at hs
  have HB1 := Lib.hid ((below_alloc w (.cells #[.int .i64 0, .string ⟨#[]⟩, .int .u64 0, .int .i64 0, .int .i64 0] RAW)).trans (hb.mono (by simp)))
  have HC := Lib.hid ((Blk.new w RAW #[.int .i64 0, .string ⟨#[]⟩, .int .u64 0, .int .i64 0, .int .i64 0]).below hb)
  clear hb
  go_wp2_with (refine wpList_storeBlk rfl _ _ rfl rfl rfl ((HC.out.alloc _).alloc _) rfl size_raw (raw_ones _ _ _ _ _) ?_; intro d0 dg)
  refine bodyPost_ret (results_cell_row (p := 2) rfl _ _ w.heap.size _ _ _ _ rfl d0 Try.underlying111 rfl size_raw) rfl ⟨rfl, ?_⟩
  exact ((HB1.out.alloc (by omega) _).alloc (by simp; omega) _).grown dg (by simp; omega) (fun j hj => by simp only [Option.some.injEq] at hj; omega)
set_option maxRecDepth 100000 in
set_option maxHeartbeats 8000000 in
theorem raw_4 (t a b : Int) (w : World) : Calls Try.prog 93 #[.iface PAR (.agg #[.int .i64 t, .int .i64 a, .int .i64 b])] w fun e w' => e = .returned (.agg #[.int .i64 t, .string ⟨#[]⟩, .int .u64 0, .int .i64 a, .int .i64 b]) ∧ Below w.heap.size w w' := by
  go_enter Try.func93, Try.ntmps93
  go_wp2_with fail
  refine (tagP_any t a b _).mono ?_
  rintro e w1 ⟨rfl, hb⟩
  have hs := hb.size
  simp only [heap_size_alloc] at hs
  have HB1 := Lib.hid ((below_alloc w (.cells #[.int .i64 0, .string ⟨#[]⟩, .int .u64 0, .int .i64 0, .int .i64 0] RAW)).trans (hb.mono (by simp)))
  have HC := Lib.hid ((Blk.new w RAW #[.int .i64 0, .string ⟨#[]⟩, .int .u64 0, .int .i64 0, .int .i64 0]).below hb)
  clear hb
  have mixed : Try.prog.follows .mixedOrders = true := by kernel_rfl
  go_wp2_with fail
  go_big_region_o
  go_wp2_with (refine wpList_storeBlk rfl _ _ rfl rfl rfl (((HC.out.alloc _).alloc _).drew) rfl size_raw (raw_ones _ _ _ _ _) ?_; intro d0 dg)
  refine bodyPost_ret (results_cell_row (p := 2) rfl _ _ w.heap.size _ _ _ _ rfl d0 Try.underlying111 rfl size_raw) rfl ⟨rfl, ?_⟩
  exact (((HB1.out.alloc (by omega) _).alloc (by simp; omega) _).drew).grown dg (by simp; omega) (fun j hj => by simp only [Option.some.injEq] at hj; omega)
end Go.Proofs.Ytbknkahakmfhkaa
/- Rows of raw constants that are read; pool.Wide, size; the law's few, same. -/
namespace Go.Proofs.Ytbknkahakmfhkaa
open Go.RowKit
set_option linter.unusedVariables false
set_option linter.unusedSimpArgs false

/-- The cells of one raw constant. -/
structure RwAt (w : World) (b o : Nat) (r : RawK) : Prop where
  c0 : w.cell? ⟨b, o, none⟩ = some (.int .i64 r.tag)
  c1 : w.cell? ⟨b, o + 1, none⟩ = some (.string r.text)
  c2 : w.cell? ⟨b, o + 2, none⟩ = some (.int .u64 r.bits)
  c3 : w.cell? ⟨b, o + 3, none⟩ = some (.int .i64 r.a)
  c4 : w.cell? ⟨b, o + 4, none⟩ = some (.int .i64 r.b)
theorem RwAt.below {w w' : World} {b o : Nat} {r : RawK} (h : RwAt w b o r) (hb : Below w.heap.size w w') : RwAt w' b o r := by
  have hl : b < w.heap.size := World.block_lt_of_cell? w _ h.c0
  exact ⟨(hb.cell (p := ⟨b, _, none⟩) hl).trans h.c0, (hb.cell (p := ⟨b, _, none⟩) hl).trans h.c1, (hb.cell (p := ⟨b, _, none⟩) hl).trans h.c2, (hb.cell (p := ⟨b, _, none⟩) hl).trans h.c3, (hb.cell (p := ⟨b, _, none⟩) hl).trans h.c4⟩
def RdW (w : World) (a : Option Addr) (l : List RawK) : Prop := l = [] ∨ ∃ b off, a = some ⟨b, off, none⟩ ∧ ∀ i r, l[i]? = some r → RwAt w b (off + i * 5) r
theorem RdW.below {w w' : World} {a : Option Addr} {l : List RawK} (h : RdW w a l) (hb : Below w.heap.size w w') : RdW w' a l := by
  rcases h with rfl | ⟨b, off, rfl, h⟩
  · exact .inl rfl
  · exact .inr ⟨b, off, rfl, fun i r hr => (h i r hr).below hb⟩
theorem RdW.at {w : World} {a : Option Addr} {l : List RawK} (h : RdW w a l) {i : Nat} (hi : i < l.length) : ∃ b off, a = some ⟨b, off, none⟩ ∧ RwAt w b (off + i * 5) l[i] := by
  rcases h with rfl | ⟨b, off, rfl, h⟩
  · simp at hi
  · exact ⟨b, off, rfl, h i _ (List.getElem?_eq_getElem hi)⟩
theorem RdW.drewN {w : World} {a : Option Addr} {l : List RawK} (h : RdW w a l) (k : Nat) : RdW (w.drewN k) a l := by
  rcases h with rfl | ⟨b, off, rfl, h⟩
  · exact .inl rfl
  · exact .inr ⟨b, off, rfl, fun i r hr => ⟨(h i r hr).c0, (h i r hr).c1, (h i r hr).c2, (h i r hr).c3, (h i r hr).c4⟩⟩
def wideT (t : Int) : Bool := t == 5 || t == 6
set_option maxRecDepth 100000 in
theorem wide_any (t : Int) (w : World) : Calls Try.prog 50 #[.int .i64 t] w fun e w' => e = .returned (.bool (wideT t)) ∧ w' = w := by
  by_cases h5 : t = 5
  · subst h5
    go_enter Try.func50, Try.ntmps50
    go_wp2
    go_ret
    exact ⟨rfl, rfl⟩
  by_cases h6 : t = 6
  · subst h6
    go_enter Try.func50, Try.ntmps50
    go_wp2
    go_ret
    exact ⟨rfl, rfl⟩
  have hf : wideT t = false := by unfold wideT; simp [h5, h6]
  rw [hf]
  have g5 : (t == 5) = false := by simpa using h5
  have g6 : (t == 6) = false := by simpa using h6
  clear h5 h6 hf
  go_enter Try.func50, Try.ntmps50
  go_wp2
  go_ret
  exact ⟨rfl, rfl⟩
def sizeT (t : Int) : Int := if wideT t then 8 else 4
set_option maxRecDepth 100000 in
theorem size_any (t : Int) (w : World) : Calls Try.prog 90 #[.int .i64 t] w fun e w' => e = .returned (.int .i64 (sizeT t)) ∧ w' = w := by
  have HW := Lib.hid (wide_any t w)
  cases hw : wideT t with
  | true =>
    have hs : sizeT t = 8 := by unfold sizeT; rw [hw]; rfl
    rw [hw] at HW
    rw [hs]
    go_enter Try.func90, Try.ntmps90
    go_wp2_with fail
    refine HW.out.mono ?_
    rintro e w' ⟨rfl, rfl⟩
    go_wp2
    go_ret
    exact ⟨rfl, rfl⟩
  | false =>
    have hs : sizeT t = 4 := by unfold sizeT; rw [hw]; rfl
    rw [hw] at HW
    rw [hs]
    go_enter Try.func90, Try.ntmps90
    go_wp2_with fail
    refine HW.out.mono ?_
    rintro e w' ⟨rfl, rfl⟩
    go_wp2
    go_ret
    exact ⟨rfl, rfl⟩
def FewP (l : List RawK) (w : World) (e : Ending) (w' : World) : Prop := Below w.heap.size w w' ∧ ∃ B : Bool, e = .returned (.bool B) ∧ (B = true → l.length ≤ 100 ∧ ∀ r ∈ l, r.text.size ≤ 200)
set_option maxRecDepth 100000 in
set_option maxHeartbeats 8000000 in
theorem few_any (a : Option Addr) (n c : Nat) (l : List RawK) (w : World) (hl : l.length = n) (hn : n ≤ maxLen) (hr : RdW w a l) (hs : ∀ r ∈ l, r.text.size ≤ maxLen) : Calls Try.prog 41 #[.slice a n c] w (FewP l w) := by
  have HH := Lib.hid (And.intro hl (And.intro hr hs))
  unfold maxLen at hn
  clear hl hr hs
  go_enter Try.func41, Try.ntmps41
  go_wp2
  go_loopw [7] (fun x7 wr => ∃ i : Nat, i ≤ n ∧ x7 = .int .i64 i ∧ Hid (∀ r ∈ l.take i, r.text.size ≤ 200) ∧ Hid (Below w.heap.size w wr)) (fun x7 _ => n - (intOf x7).toNat)
  case atStart => exact ⟨0, Nat.zero_le _, rfl, Lib.hid (by simp), Lib.hid (Below.refl _ _)⟩
  case round =>
    obtain ⟨i, hi, rfl, hg, hB⟩ := hrel
    by_cases hin : i < n
    · have hil : i < l.length := by rw [HH.out.1]; exact hin
      obtain ⟨b, off, rfl, hc⟩ := (HH.out.2.1.below hB.out).at hil
      have hsz := HH.out.2.2 l[i] (List.getElem_mem hil)
      unfold maxLen at hsz
      have HG : Hid (l[i].text.size ≤ 200 → ∀ r ∈ l.take (i + 1), r.text.size ≤ 200) := Lib.hid (fun h r hr => by
        rw [List.take_succ_eq_append_getElem hil] at hr
        rcases List.mem_append.1 hr with hr | hr
        · exact hg.out r hr
        · rw [List.mem_singleton.1 hr]; exact h)
      generalize l[i] = r at *
      obtain ⟨t, s, bi, ra, rb⟩ := r
      have c0 : wr.cell? ⟨b, off + i * 5, none⟩ = some (.int .i64 t) := hc.c0
      have c1 : wr.cell? ⟨b, off + i * 5 + 1, none⟩ = some (.string s) := hc.c1
      have c2 : wr.cell? ⟨b, off + i * 5 + 2, none⟩ = some (.int .u64 bi) := hc.c2
      have c3 : wr.cell? ⟨b, off + i * 5 + 3, none⟩ = some (.int .i64 ra) := hc.c3
      have c4 : wr.cell? ⟨b, off + i * 5 + 4, none⟩ = some (.int .i64 rb) := hc.c4
      have hsz : s.size ≤ 9223372036854775807 := hsz
      have HB2 := Lib.hid (hB.out.alloc hB.out.size (.cells #[.int .i64 t, .string s, .int .u64 bi, .int .i64 ra, .int .i64 rb] RAW))
      clear hc
      by_cases h2 : 200 < s.size
      · have g2 : (200 : Int) < (s.size : Int) := by omega
        go_wp2
        go_ret
        exact ⟨HB2.out, false, rfl, fun h => by cases h⟩
      · have g2 : ¬ (200 : Int) < (s.size : Int) := by omega
        have HG2 := Lib.hid (HG.out (by show s.size ≤ 200; omega))
        go_wp2
        go_roundw
        case rel => exact ⟨i + 1, by omega, by go_num, HG2, HB2⟩
        case measure => simp [intOf] <;> omega
    · have hin' : i = n := by omega
      subst hin'
      have HF : Hid (FewP l w (.returned (.bool (decide ((i : Int) ≤ 100)))) wr) := Lib.hid ⟨hB.out, _, rfl, fun h => ⟨by rw [HH.out.1]; have := of_decide_eq_true h; omega, by have := hg.out; rwa [List.take_of_length_le (by rw [HH.out.1]; exact Nat.le_refl _)] at this⟩⟩
      by_cases h1 : i ≤ 100
      · have g1 : (i : Int) ≤ 100 := by omega
        rw [decide_eq_true g1] at HF
        go_wp2
        go_ret
        exact HF.out
      · have g1 : ¬ (i : Int) ≤ 100 := by omega
        rw [decide_eq_false g1] at HF
        go_wp2
        go_ret
        exact HF.out
end Go.Proofs.Ytbknkahakmfhkaa
