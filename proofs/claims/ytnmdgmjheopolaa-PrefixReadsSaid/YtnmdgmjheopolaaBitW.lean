/- The walks of bitio.Writer's methods. -/
import Derived.Test.YtnmdgmjheopolaaNumF
import Derived.Test.YtnmdgmjheopolaaAppA
import Derived.Test.YtnmdgmjheopolaaLitM
import Derived.StillTailTactics
import Derived.Deep.QuietTactic
import Derived.BigQuiet
namespace Go.Proofs.Ytnmdgmjheopolaa
open Go.RowKit
set_option linter.unusedVariables false
set_option linter.unusedSimpArgs false

structure WOk (w : World) (B g : Nat) (l : List UInt8) (held k : Nat) : Prop where
  ex : ∃ (a : Option Addr) (n c : Nat), Blk w g 109 #[.slice a n c, .int .u64 (held : Int), .int .i64 (k : Int)] ∧ Own w B 5 bE a n c l ∧ (∀ b, a = some ⟨b, 0, none⟩ → b ≠ g) ∧ B ≤ g
section
variable {w w' : World} {B g : Nat} {l : List UInt8} {held k : Nat}
theorem WOk.below (h : WOk w B g l held k) (hb : Below w.heap.size w w') : WOk w' B g l held k := by
  obtain ⟨a, n, c, h1, h2, h3, h4⟩ := h.ex
  exact ⟨a, n, c, h1.below hb, h2.below hb, h3, h4⟩
theorem WOk.drew (h : WOk w B g l held k) : WOk w.drew B g l held k := ⟨h.ex⟩
theorem WOk.drewN (h : WOk w B g l held k) (j : Nat) : WOk (w.drewN j) B g l held k := ⟨h.ex⟩
theorem WOk.setHeld (h : WOk w B g l held k) (x : Nat) : WOk (w.setCell ⟨g, 1, none⟩ (.int .u64 (x : Int))) B g l x k := by
  obtain ⟨a, n, c, h1, h2, h3, h4⟩ := h.ex
  exact ⟨a, n, c, h1.setCell 1 (.int .u64 (x : Int)), h2.setCell_ne h3 _, h3, h4⟩
theorem WOk.setK (h : WOk w B g l held k) (x : Nat) : WOk (w.setCell ⟨g, 2, none⟩ (.int .i64 (x : Int))) B g l held x := by
  obtain ⟨a, n, c, h1, h2, h3, h4⟩ := h.ex
  exact ⟨a, n, c, h1.setCell 2 (.int .i64 (x : Int)), h2.setCell_ne h3 _, h3, h4⟩
theorem WOk.base (h : WOk w B g l held k) : B ≤ g := by obtain ⟨a, n, c, h1, h2, h3, h4⟩ := h.ex; exact h4
theorem WOk.set (h : WOk w B g l held k) (hb : Below B w' w) (i : Nat) (v : Value) : Below B w' (w.setCell ⟨g, i, none⟩ v) := hb.setCell h.base v
end
/-- Blocks that are neither bytes nor a writer stay as they are. -/
def BoolKeep (w w' : World) : Prop := ∀ (q : Nat) (cs : Array Value) (T : TypeId) (fr : Nat × Nat), T ≠ 5 → T ≠ 109 → w.heap[q]? = some (.cells cs T fr) → w'.heap[q]? = some (.cells cs T fr)
theorem BoolKeep.refl (w : World) : BoolKeep w w := fun _ _ _ _ _ _ h => h
theorem BoolKeep.trans {a b c : World} (h : BoolKeep a b) (k : BoolKeep b c) : BoolKeep a c := fun q cs T fr h1 h2 hq => k q cs T fr h1 h2 (h q cs T fr h1 h2 hq)
theorem BoolKeep.drew {a b : World} (h : BoolKeep a b) : BoolKeep a b.drew := h
theorem BoolKeep.below {w w' : World} (hb : Below w.heap.size w w') : BoolKeep w w' := fun q cs T fr _ _ hq => (hb.block q (Array.getElem?_eq_some_iff.1 hq).1).trans hq
theorem BoolKeep.setCell {w0 w : World} {g : Nat} {cs : Array Value} (h : BoolKeep w0 w) (hb : Blk w g 109 cs) (i : Nat) (v : Value) : BoolKeep w0 (w.setCell ⟨g, i, none⟩ v) := by
  intro q cs' T fr h8 hW hq
  have h1 := h q cs' T fr h8 hW hq
  have hne : q ≠ g := by
    intro e; subst e
    have := h1.symm.trans hb
    simp at this
    exact hW this.2.1
  exact (heap_setCell_other w ⟨g, i, none⟩ q v hne).trans h1
theorem BoolKeep.own {w w' : World} {B : Nat} {a : Option Addr} {n c : Nat} {l : List UInt8} (ho : Own w B 5 bE a n c l) (hg : w.grownBy w' (Value.slice a n c).ownBlock) : BoolKeep w w' := by
  intro q cs T fr h8 hW hq
  refine (hg.block q (Array.getElem?_eq_some_iff.1 hq).1 ?_).trans hq
  intro e
  obtain ⟨⟨h1, h2⟩, h3⟩ := ho
  rcases h2 with ⟨h4, h5⟩ | ⟨g, cap, cur, hv, hge, hh, hrest⟩
  · rw [h4] at e; simp [Value.ownBlock] at e
  · rw [hv] at e; simp [Value.ownBlock] at e
    subst e
    have := hq.symm.trans hh
    simp at this
    exact h8 this.2.1
theorem BoolKeep.blk {w w' : World} (h : BoolKeep w w') {q : Nat} {T : TypeId} {cs : Array Value} (hb : Blk w q T cs) (h8 : T ≠ 5) (hW : T ≠ 109) : Blk w' q T cs := h q cs T (0, 0) h8 hW hb
theorem BoolKeep.bools {w w' : World} (h : BoolKeep w w') {B : Nat} {a : Option Addr} {n c : Nat} {l : List Bool} (ho : Own w B 4 Value.bool a n c l) : Own w' B 4 Value.bool a n c l := by
  obtain ⟨⟨h1, h2⟩, h3⟩ := ho
  refine ⟨⟨h1, ?_⟩, h3⟩
  rcases h2 with h2 | ⟨g, cap, cur, hv, hge, hh, hrest⟩
  · exact .inl h2
  · exact .inr ⟨g, cap, cur, hv, hge, h g cur _ (0, 0) (by decide) (by decide) hh, hrest⟩
theorem own_bool_row {w : World} {B : Nat} {a : Option Addr} {n c : Nat} {l : List Bool} (ho : Own w B 4 Value.bool a n c l) : ∀ q, (Value.slice a n c).ownBlock = some q → ∃ cs fr, w.heap[q]? = some (.cells cs 4 fr) := by
  intro q e
  obtain ⟨⟨h1, h2⟩, h3⟩ := ho
  rcases h2 with ⟨h4, h5⟩ | ⟨g, cap, cur, hv, hge, hh, hrest⟩
  · rw [h4] at e; simp [Value.ownBlock] at e
  · rw [hv] at e; simp [Value.ownBlock] at e
    subst e
    exact ⟨_, _, hh⟩
theorem WOk.setKeep {w0 w : World} {B g : Nat} {l : List UInt8} {held k : Nat} (h : WOk w B g l held k) (hk : BoolKeep w0 w) (i : Nat) (v : Value) : BoolKeep w0 (w.setCell ⟨g, i, none⟩ v) := by
  obtain ⟨a, n, c, hb, _⟩ := h.ex
  exact hk.setCell hb i v
/-- What another slice of bools does leaves the writer alone. -/
theorem WOk.grownBool {w w' : World} {B g : Nat} {l : List UInt8} {held k : Nat} (h : WOk w B g l held k) {row : Option Nat} (hg : w.grownBy w' row) (hrow : ∀ q, row = some q → ∃ cs fr, w.heap[q]? = some (.cells cs 4 fr)) : WOk w' B g l held k := by
  obtain ⟨a, n, c, h1, h2, h3, h4⟩ := h.ex
  have hne : some g ≠ row := by
    intro e
    obtain ⟨cs, fr, hq⟩ := hrow g e.symm
    have := hq.symm.trans h1
    simp at this
  refine ⟨a, n, c, h1.grown hg hne, h2.grown hg (fun b hb e => ?_), h3, h4⟩
  obtain ⟨cs, fr, hq⟩ := hrow b e.symm
  obtain ⟨⟨g1, g2⟩, g3⟩ := h2
  rcases g2 with ⟨g4, g5⟩ | ⟨g', cap, cur, hv, hge, hh, hrest⟩
  · rw [hb] at g4; simp at g4
  · rw [hb] at hv; simp only [Value.slice.injEq, Option.some.injEq, Addr.mk.injEq] at hv
    obtain ⟨⟨rfl, _, _⟩, _, _⟩ := hv
    have := hq.symm.trans hh
    simp at this
/-- A writer of these bits. -/
def WBits (w : World) (B g : Nat) (all : List Bool) : Prop := WOk w B g (bytesK all (all.length / 8)) (numF (all.drop (8 * (all.length / 8)))) (all.length % 8)

set_option maxRecDepth 100000 in
set_option maxHeartbeats 1000000 in
theorem wNew_any (w : World) : Calls Try.prog 32 #[] w fun e w' => ∃ g, e = .returned (.pointer (some ⟨g, 0, none⟩)) ∧ WBits w' w.heap.size g [] ∧ Below w.heap.size w w' := by
  go_enter Try.func32, Try.ntmps32
  go_wp2
  go_ret
  refine ⟨_, rfl, ⟨none, 0, 0, Blk.new _ _ _, Own.nil, by simp, Nat.le_refl _⟩, below_alloc _ _⟩

/-- The new bits among those that are held. -/
theorem put_held (P : List Bool) (v n : Nat) (hP : P.length < 8) (hn : n ≤ 32) (hv : v < 4294967296) :
    numF (P ++ bitsL v n) = numF P + 2 ^ P.length * (v % 2 ^ n) := by rw [numF_append, numF_bitsL]

theorem put_val (held k m v : Nat) (hk : k < 8) (hm : m ≤ 32) (hv : v < 4294967296) (hh : held < 2 ^ k) :
    bits .or .u64 (held : Int) (IntKind.u64.wrap (bits .and .u64 (IntKind.u64.wrap (v : Int)) (IntKind.u64.wrap (IntKind.u64.wrap (2 ^ min (IntKind.u64.wrap (m : Int)).toNat 64) - 1)) * 2 ^ min (IntKind.u64.wrap (k : Int)).toNat 64)) = ((held + 2 ^ k * (v % 2 ^ m) : Nat) : Int) := by
  have e1 : IntKind.u64.wrap (m : Int) = (m : Int) := by rw [IntKind.wrap_u64]; omega
  have e2 : IntKind.u64.wrap (k : Int) = (k : Int) := by rw [IntKind.wrap_u64]; omega
  have e3 : IntKind.u64.wrap (v : Int) = (v : Int) := by rw [IntKind.wrap_u64]; omega
  have hp : (2 : Nat) ^ m ≤ 4294967296 := Nat.pow_le_pow_right (n := 2) (by omega) hm
  have hp0 : 0 < (2 : Nat) ^ m := Nat.pow_pos (by omega)
  have e4 : IntKind.u64.wrap (2 ^ min (m : Int).toNat 64) = ((2 ^ m : Nat) : Int) := by
    rw [Int.toNat_natCast, Nat.min_eq_left (by omega), show (2 : Int) ^ m = ((2 ^ m : Nat) : Int) from by push_cast; rfl, IntKind.wrap_u64]
    generalize (2 : Nat) ^ m = z at hp
    omega
  rw [e1, e2, e3, e4]
  have e5 : IntKind.u64.wrap (((2 ^ m : Nat) : Int) - 1) = ((2 ^ m - 1 : Nat) : Int) := by
    rw [IntKind.wrap_u64]
    generalize (2 : Nat) ^ m = z at hp hp0
    omega
  rw [e5, u64_and_nat v (2 ^ m - 1) (by omega) (by omega), Nat.and_two_pow_sub_one_eq_mod]
  have hmod : v % 2 ^ m < 4294967296 := Nat.lt_of_lt_of_le (Nat.mod_lt _ hp0) hp
  have hpk : (2 : Nat) ^ k ≤ 128 := Nat.pow_le_pow_right (n := 2) (by omega) (show k ≤ 7 by omega)
  have hmul : v % 2 ^ m * 2 ^ k < 18446744073709551616 := by
    have h1 : v % 2 ^ m * 2 ^ k ≤ v % 2 ^ m * 128 := Nat.mul_le_mul_left _ hpk
    omega
  have e6 : IntKind.u64.wrap (((v % 2 ^ m : Nat) : Int) * 2 ^ min (k : Int).toNat 64) = ((v % 2 ^ m * 2 ^ k : Nat) : Int) := by
    rw [Int.toNat_natCast, Nat.min_eq_left (by omega), show ((v % 2 ^ m : Nat) : Int) * 2 ^ k = ((v % 2 ^ m * 2 ^ k : Nat) : Int) from by push_cast; rfl, IntKind.wrap_u64]
    generalize v % 2 ^ m * 2 ^ k = z at hmul
    omega
  rw [e6, or64_add' _ _ _ hmul hh (by omega)]
  congr 1
  rw [Nat.mul_comm, Nat.add_comm]
/-- The writer's count, of the world. -/
def cntW (g : Nat) (w : World) : Nat := match w.cell? ⟨g, 2, none⟩ with | some v => (intOf v).toNat | none => 0
theorem cntW_eq {g : Nat} {w : World} {k : Nat} (h : w.cell? ⟨g, 2, none⟩ = some (.int .i64 (k : Int))) : cntW g w = k := by simp [cntW, h, intOf]

set_option maxRecDepth 100000 in
set_option maxHeartbeats 4000000 in
theorem wPutK_any (B g : Nat) (all : List Bool) (v : Nat) (n : Int) (w : World) (h : WBits w B g all) (hB : B ≤ w.heap.size) (hlen : all.length ≤ 1000000) (hv : v < 4294967296) (hn1 : -9223372036854775808 ≤ n) (hn2 : n ≤ 9223372036854775807) :
  Calls Try.prog 71 #[.pointer (some ⟨g, 0, none⟩), .int .u32 (v : Int), .int .i64 n] w fun e w' => e = .returned (.tuple #[]) ∧ WBits w' B g (if n < 0 ∨ n > 32 then all else all ++ bitsL v n.toNat) ∧ Below B w w' ∧ BoolKeep w w' := by
  by_cases hlo : n < 0
  · rw [if_pos (.inl hlo)]
    go_enter Try.func71, Try.ntmps71
    go_wp2
    refine bodyPost_ret (results_none rfl _ _ _) rfl ?_
    exact ⟨rfl, h, Below.refl _ _, BoolKeep.refl _⟩
  · by_cases hhi : n > 32
    · rw [if_pos (.inr hhi)]
      go_enter Try.func71, Try.ntmps71
      go_wp2
      refine bodyPost_ret (results_none rfl _ _ _) rfl ?_
      exact ⟨rfl, h, Below.refl _ _, BoolKeep.refl _⟩
    · rw [if_neg (by omega)]
      obtain ⟨m, rfl⟩ := Int.eq_ofNat_of_zero_le (show 0 ≤ n by omega)
      have hm : m ≤ 32 := by omega
      rw [Int.toNat_natCast]
      have H := Lib.hid h
      obtain ⟨a, nb, c, hb, -⟩ := h.ex
      have c1 := hb.cell (i := 1) rfl
      have c2 := hb.cell (i := 2) rfl
      have f1 := hb.frozen 1
      have f2 := hb.frozen 2
      have hk8 : all.length % 8 < 8 := Nat.mod_lt _ (by omega)
      have hheld : numF (all.drop (8 * (all.length / 8))) < 2 ^ (all.length % 8) := by
        have := numF_lt (all.drop (8 * (all.length / 8)))
        rwa [List.length_drop, show all.length - 8 * (all.length / 8) = all.length % 8 from by omega] at this
      have hQl : (all ++ bitsL v m).length = all.length + m := by rw [List.length_append, bitsL_length]
      have hQ0 : numF ((all ++ bitsL v m).drop (8 * (all.length / 8))) = numF (all.drop (8 * (all.length / 8))) + 2 ^ (all.length % 8) * (v % 2 ^ m) := by
        rw [List.drop_append_of_le_length (by omega), numF_append, numF_bitsL, List.length_drop, show all.length - 8 * (all.length / 8) = all.length % 8 from by omega]
      have hQb : bytesK (all ++ bitsL v m) (all.length / 8) = bytesK all (all.length / 8) := bytesK_front _ _ _ (by omega)
      have hval := put_val (numF (all.drop (8 * (all.length / 8)))) (all.length % 8) m v hk8 hm hv hheld
      rw [← hQ0] at hval
      have hstart : WOk ((w.setCell ⟨g, 1, none⟩ (.int .u64 ((numF ((all ++ bitsL v m).drop (8 * (all.length / 8))) : Nat) : Int))).setCell ⟨g, 2, none⟩ (.int .i64 (((all.length % 8 : Nat) : Int) + (m : Int)))).drew B g (bytesK (all ++ bitsL v m) (all.length / 8)) (numF ((all ++ bitsL v m).drop (8 * (all.length / 8)))) (all.length % 8 + m) := by
        rw [hQb, show ((all.length % 8 : Nat) : Int) + (m : Int) = ((all.length % 8 + m : Nat) : Int) from by omega]; exact ((h.setHeld _).setK _).drew
      have hBs : Below B w ((w.setCell ⟨g, 1, none⟩ (.int .u64 ((numF ((all ++ bitsL v m).drop (8 * (all.length / 8))) : Nat) : Int))).setCell ⟨g, 2, none⟩ (.int .i64 (((all.length % 8 : Nat) : Int) + (m : Int)))).drew :=
        (((Below.refl B w).setCell h.base _).setCell h.base _).drew
      have hKs : BoolKeep w ((w.setCell ⟨g, 1, none⟩ (.int .u64 ((numF ((all ++ bitsL v m).drop (8 * (all.length / 8))) : Nat) : Int))).setCell ⟨g, 2, none⟩ (.int .i64 (((all.length % 8 : Nat) : Int) + (m : Int)))).drew :=
        ((h.setHeld _).setKeep (h.setKeep (BoolKeep.refl w) 1 _) 2 _).drew
      have hq : all.length % 8 + m = (all ++ bitsL v m).length - 8 * (all.length / 8) := by rw [hQl]; omega
      have hq8 : 8 * (all.length / 8) ≤ (all ++ bitsL v m).length := by rw [hQl]; omega
      have hQ1 : (all ++ bitsL v m).length ≤ 1000032 := by rw [hQl]; omega
      have HS := Lib.hid hstart
      have HBS := Lib.hid hBs
      have HKS := Lib.hid hKs
      have HV := Lib.hid hval
      have HQ := Lib.hid hq
      generalize all ++ bitsL v m = Q at HS HBS HKS HV HQ hQ1 hq8 ⊢
      clear hstart hBs hKs hval hq hQ0 hQb hQl
      generalize all.length % 8 = k at hk8 c1 c2 hb h HS HBS HKS HV HQ hheld
      generalize all.length / 8 = q0 at c1 c2 hb h HS HBS HKS HV HQ hq8 hheld
      generalize numF (all.drop (8 * q0)) = held at c1 c2 hb h HV hheld
      clear hb h H hheld
      go_enter Try.func71, Try.ntmps71
      go_wp2
      go_still_tail 20, (by kernel_rfl)
      rw [HV.out]
      clear HV
      show wpList _ _ _ _ _ w.drew
      generalize hx0 : numF (Q.drop (8 * q0)) = x0 at HS HBS HKS ⊢
      have HX0 := Lib.hid hx0
      clear hx0
      go_wp2
      generalize ((w.setCell ⟨g, 1, none⟩ (.int .u64 (x0 : Int))).setCell ⟨g, 2, none⟩ (.int .i64 ((k : Int) + (m : Int)))).drew = ws at HS HBS HKS ⊢
      have hs := HS.out
      have hbs := HBS.out
      have hks := HKS.out
      have hq := HQ.out
      rw [hq] at hs
      have hq64 : Q.length - 8 * q0 ≤ 40 := by omega
      clear hq
      clear HS HBS HKS HQ c1 c2 f1 f2
      go_loopw [] (fun wr => ∃ j : Nat, (q0 ≤ j ∧ 8 * j ≤ Q.length) ∧ WOk wr B g (bytesK Q j) (numF (Q.drop (8 * j))) (Q.length - 8 * j) ∧ Below B w wr ∧ BoolKeep w wr) (fun wr => cntW g wr)
      case atStart => exact ⟨q0, ⟨Nat.le_refl _, hq8⟩, by rw [HX0.out]; exact hs, hbs, hks⟩
      case round =>
        obtain ⟨j, hj, hwk, hBr, hKr⟩ := hrel
        clear hs hbs hks HX0
        obtain ⟨r, hr⟩ : ∃ r, Q.length - 8 * j = r := ⟨_, rfl⟩
        obtain ⟨held, hh⟩ : ∃ x, numF (Q.drop (8 * j)) = x := ⟨_, rfl⟩
        have hbyte := byte_numF Q j
        have hdrop : numF (Q.drop (8 * (j + 1))) = numF (Q.drop (8 * j)) / 256 := by
          rw [show 8 * (j + 1) = 8 * j + 8 from by omega, ← List.drop_drop, numF_drop]
        have hheld : numF (Q.drop (8 * j)) < 2 ^ 64 := by
          have h1 := numF_lt (Q.drop (8 * j))
          have h2 : (Q.drop (8 * j)).length ≤ 64 := by rw [List.length_drop]; omega
          exact Nat.lt_of_lt_of_le h1 (Nat.pow_le_pow_right (by omega) h2)
        rw [hr, hh] at hwk
        rw [hh] at hbyte hdrop hheld
        obtain ⟨a, n, c, hb, hown, hne, hBg⟩ := hwk.ex
        have hnj : n = j := by rw [← hown.len, bytesK_length]
        subst hnj
        have c0 := hb.cell (i := 0) rfl
        have c1 := hb.cell (i := 1) rfl
        have c2 := hb.cell (i := 2) rfl
        by_cases h8 : 8 ≤ r
        · obtain ⟨y, hy⟩ : ∃ y, UInt8.ofNat (held % 256) = y := ⟨_, rfl⟩
          have hsucc : bytesK Q (n + 1) = bytesK Q n ++ [y] := by rw [bytesK_succ, hbyte, hy]
          have hyv : IntKind.u8.wrap (held : Int) = (y.toNat : Int) := by
            rw [← hy, byte_toNat, IntKind.wrap_u8]; rfl
          have hnn : n ≤ 200000 := by omega
          have hr40 : r ≤ 40 := by omega
          obtain ⟨wz, hwz⟩ : ∃ x, wr.drew = x := ⟨_, rfl⟩
          have HC0 : Hid (wz.cell? ⟨g, 0, none⟩ = some (.slice a n c)) := Lib.hid (by rw [← hwz]; exact c0)
          have HC1 : Hid (wz.cell? ⟨g, 1, none⟩ = some (.int .u64 (held : Int))) := Lib.hid (by rw [← hwz]; exact c1)
          have HC0A : Hid ((wz.alloc (.cells #[bE y] 5)).cell? ⟨g, 0, none⟩ = some (.slice a n c)) := Lib.hid (by
            have hbz : Blk wz g 109 #[.slice a n c, .int .u64 (held : Int), .int .i64 (r : Int)] := by rw [← hwz]; exact hb
            exact (hbz.alloc _).cell rfl)
          have HBLK : Hid (Blk wz g 109 #[.slice a n c, .int .u64 (held : Int), .int .i64 (r : Int)]) := Lib.hid (by rw [← hwz]; exact hb)
          have HOWN : Hid (Own wz B 5 bE a n c (bytesK Q n)) := Lib.hid (by rw [← hwz]; exact hown.drew)
          have hBz : B ≤ wz.heap.size := by rw [← hwz]; exact Nat.le_trans hB hBr.size
          have hBwz : Below B w wz := by rw [← hwz]; exact hBr.drew
          have hKwz : BoolKeep w wz := by rw [← hwz]; exact hKr.drew
          have HY := Lib.hid hyv
          have HOB : Hid (some g ≠ (Value.slice a n c).ownBlock) := Lib.hid (by
            rcases hown.blk with ⟨h, _⟩ | ⟨b, h, _⟩
            · rw [h]; simp [Value.ownBlock]
            · rw [h]; simp [Value.ownBlock]; exact fun e => hne b h e.symm)
          have HNE := Lib.hid hne
          clear hbyte hy hyv hwk c1 c0 hb hown hne
          go_wp2
          refine wp_region_growA TS (IApp wz (fun p' c' w' => Own w' B 5 bE p' (n + 1) c' (bytesK Q n ++ [y]) ∧ wz.grownBy w' (Value.slice a n c).ownBlock ∧ (∀ b, p' = some ⟨b, 0, none⟩ → b ≠ g)) (n + 1) (bE y) 5 g 67) (by kernel_rfl) (by kernel_rfl) (by rfl) (by rw [hwz]; exact IApp.start) ?_
          apply ga_val _ (fun L a' w' _ _ h => h.pure (show (9 : Nat) ≠ 0 by decide) (show (10 : Nat) ≠ 0 by decide) (show (11 : Nat) ≠ 0 by decide) (show (14 : Nat) ≠ 0 by decide) (by decide) _)
          · intro a' w' L hL haf hi hk
            refine ⟨wanted_none rfl, ?_⟩
            simp [Oper.looksAt, Op.operands, Call.operands, KnownAt, List.lookup, consD] at hk
            simp [execOp, Act.eval, hk, go_sem]
            all_goals rfl
          apply ga_val _ (fun L a' w' _ _ h => h.pure (show (9 : Nat) ≠ 1 by decide) (show (10 : Nat) ≠ 1 by decide) (show (11 : Nat) ≠ 1 by decide) (show (14 : Nat) ≠ 1 by decide) (by decide) _)
          · intro a' w' L hL haf hi hk
            refine ⟨wanted_none rfl, ?_⟩
            simp [Oper.looksAt, Op.operands, Call.operands, KnownAt, List.lookup, consD] at hk
            simp [execOp, Act.eval, hk, go_sem]
            all_goals rfl
          apply ga_val _ (fun L a' w' _ _ h => h.pure (show (9 : Nat) ≠ 2 by decide) (show (10 : Nat) ≠ 2 by decide) (show (11 : Nat) ≠ 2 by decide) (show (14 : Nat) ≠ 2 by decide) (by decide) _)
          · intro a' w' L hL haf hi hk
            refine ⟨wanted_none rfl, ?_⟩
            simp [Oper.looksAt, Op.operands, Call.operands, KnownAt, List.lookup, consD] at hk
            simp [execOp, Act.eval, hk, go_sem]
            all_goals rfl
          apply ga_val _ (fun L a' w' _ _ h => h.pure (show (9 : Nat) ≠ 3 by decide) (show (10 : Nat) ≠ 3 by decide) (show (11 : Nat) ≠ 3 by decide) (show (14 : Nat) ≠ 3 by decide) (by decide) _)
          · intro a' w' L hL haf hi hk
            refine ⟨wanted_none rfl, ?_⟩
            simp [Oper.looksAt, Op.operands, Call.operands, KnownAt, List.lookup, consD] at hk
            simp [execOp, Act.eval, hk, go_sem]
            all_goals rfl
          refine ga_val (.slice a n c) (fun L a' w' _ _ h => h.pure (show (9 : Nat) ≠ 4 by decide) (show (10 : Nat) ≠ 4 by decide) (show (11 : Nat) ≠ 4 by decide) (show (14 : Nat) ≠ 4 by decide) (by decide) _) ?_ ?_
          · intro a' w' L hL haf hi hk
            refine ⟨wanted_none rfl, ?_⟩
            simp [Oper.looksAt, Op.operands, Call.operands, KnownAt, List.lookup, consD] at hk
            have hcell : w'.cell? ⟨g, 0, none⟩ = some (.slice a n c) := by
              rcases hi.early hL with h | h
              · rw [h]; exact HC0.out
              · rw [h]; exact HC0A.out
            simp [execOp, Act.eval, hk, go_sem, hcell]
            all_goals rfl
          apply ga_val _ (fun L a' w' _ _ h => h.pure (show (9 : Nat) ≠ 5 by decide) (show (10 : Nat) ≠ 5 by decide) (show (11 : Nat) ≠ 5 by decide) (show (14 : Nat) ≠ 5 by decide) (by decide) _)
          · intro a' w' L hL haf hi hk
            refine ⟨wanted_none rfl, ?_⟩
            simp [Oper.looksAt, Op.operands, Call.operands, KnownAt, List.lookup, consD] at hk
            simp [execOp, Act.eval, hk, go_sem]
            all_goals rfl
          apply ga_val _ (fun L a' w' _ _ h => h.pure (show (9 : Nat) ≠ 6 by decide) (show (10 : Nat) ≠ 6 by decide) (show (11 : Nat) ≠ 6 by decide) (show (14 : Nat) ≠ 6 by decide) (by decide) _)
          · intro a' w' L hL haf hi hk
            refine ⟨wanted_none rfl, ?_⟩
            simp [Oper.looksAt, Op.operands, Call.operands, KnownAt, List.lookup, consD] at hk
            simp [execOp, Act.eval, hk, go_sem]
            all_goals rfl
          apply ga_val _ (fun L a' w' _ _ h => h.pure (show (9 : Nat) ≠ 7 by decide) (show (10 : Nat) ≠ 7 by decide) (show (11 : Nat) ≠ 7 by decide) (show (14 : Nat) ≠ 7 by decide) (by decide) _)
          · intro a' w' L hL haf hi hk
            refine ⟨wanted_none rfl, ?_⟩
            simp [Oper.looksAt, Op.operands, Call.operands, KnownAt, List.lookup, consD] at hk
            simp [execOp, Act.eval, hk, go_sem]
            all_goals rfl
          refine ga_val (.int .u64 (held : Int)) (fun L a' w' _ _ h => h.pure (show (9 : Nat) ≠ 8 by decide) (show (10 : Nat) ≠ 8 by decide) (show (11 : Nat) ≠ 8 by decide) (show (14 : Nat) ≠ 8 by decide) (by decide) _) ?_ ?_
          · intro a' w' L hL haf hi hk
            refine ⟨wanted_none rfl, ?_⟩
            simp [Oper.looksAt, Op.operands, Call.operands, KnownAt, List.lookup, consD] at hk
            have hcell : w'.cell? ⟨g, 1, none⟩ = some (.int .u64 (held : Int)) := by rw [hi.first hL]; exact HC1.out
            simp [execOp, Act.eval, hk, go_sem, hcell]
            all_goals rfl
          refine ga_val (bE y) (fun L a' w' _ haf h => h.pure9 (haf ⟨8, .data⟩ (by simp) (by decide)) (by decide) _) ?_ ?_
          · intro a' w' L hL haf hi hk
            refine ⟨wanted_none rfl, ?_⟩
            simp [Oper.looksAt, Op.operands, Call.operands, KnownAt, List.lookup, consD] at hk
            simp [execOp, Act.eval, hk, go_sem]
            exact HY.out
          refine ga_op (fun v _ => v = .slice (some ⟨wz.heap.size, 0, none⟩) 1 1) (monoT_eq _) ?_ ?_
          · intro a' w' L hsz hL haf hi hk
            refine ⟨wanted_none rfl, ?_⟩
            simp [Oper.looksAt, Op.operands, Call.operands, KnownAt, List.lookup, consD] at hk
            have h9 : L 9 = true := haf ⟨9, .data⟩ (by simp) (by decide)
            have hw0 := hi.lay0 hL
            subst hw0
            unfold Oper.wp
            simp [execOp, Act.eval, hk, go_sem, Oper.upon, Result.andThen]
            exact ⟨_, rfl, rfl, hi.lay (dst := some 66) hL h9 (by decide) _⟩
          refine ga_op (fun _ _ => True) monoT_any ?_ ?_
          · intro a' w' L hsz hL haf hi hk
            refine ⟨wanted_none rfl, ?_⟩
            have hk4 := hk 60 (by decide)
            have hk10 := hk 66 (by decide)
            simp only [KnownAt, List.lookup, consD] at hk4 hk10
            have h10 : L 10 = true := haf ⟨10, .data⟩ (by simp) (by decide)
            have h4 : L 4 = true := haf ⟨4, .data⟩ (by simp) (by decide)
            have hw0 := hi.app0 hL h10
            refine wp_of_list (ops := #[]) rfl ?_
            refine wpList_push2 slByte rfl rfl _ _ rfl hw0 hk4 HOWN.out y ⟨wz.heap.size, 0, none⟩ hk10 (by rw [hw0]; exact cell_push rfl _ _) rfl (by omega) (by unfold maxLen; omega) hBz ?_
            intro p' c' w1 hown1 hg1 hor1
            refine ⟨rfl, _, rfl, trivial, hi.app hL h10 h4 (by rw [hsz]; simp) ⟨hown1, hg1, ?_⟩⟩
            intro b hb
            rcases hor1 with h | ⟨g', h, hge⟩
            · exact HNE.out b (h ▸ hb)
            · rw [h] at hb; simp at hb; have := HBLK.out.lt; omega
          apply ga_val _ (fun L a' w' _ _ h => h.pure (show (9 : Nat) ≠ 12 by decide) (show (10 : Nat) ≠ 12 by decide) (show (11 : Nat) ≠ 12 by decide) (show (14 : Nat) ≠ 12 by decide) (by decide) _)
          · intro a' w' L hL haf hi hk
            refine ⟨wanted_none rfl, ?_⟩
            simp [Oper.looksAt, Op.operands, Call.operands, KnownAt, List.lookup, consD] at hk
            simp [execOp, Act.eval, hk, go_sem]
            all_goals rfl
          apply ga_val _ (fun L a' w' _ _ h => h.pure (show (9 : Nat) ≠ 13 by decide) (show (10 : Nat) ≠ 13 by decide) (show (11 : Nat) ≠ 13 by decide) (show (14 : Nat) ≠ 13 by decide) (by decide) _)
          · intro a' w' L hL haf hi hk
            refine ⟨wanted_none rfl, ?_⟩
            simp [Oper.looksAt, Op.operands, Call.operands, KnownAt, List.lookup, consD] at hk
            simp [execOp, Act.eval, hk, go_sem]
            all_goals rfl
          refine ga_op (fun _ _ => True) monoT_any ?_ ?_
          · intro a' w' L hsz hL haf hi hk
            refine ⟨wanted_none rfl, ?_⟩
            simp [Oper.looksAt, Op.operands, Call.operands, KnownAt, List.lookup, consD] at hk
            have h11 : L 11 = true := haf ⟨11, .data⟩ (by simp) (by decide)
            obtain ⟨p', c', ⟨ho1, hg1, hp1⟩, h67⟩ := hi.put0 hL h11
            have hbk := HBLK.out.grown hg1 HOB.out
            have hcell := hbk.cell (i := 0) rfl
            have hfz := hbk.frozen 0
            have h67' : a'.tmps[67]?.getD undef = .slice p' (n + 1) c' := by simpa using h67
            unfold Oper.wp
            simp [execOp, Act.eval, hk, h67', go_sem, hcell, hfz, Oper.upon, Result.andThen]
            exact hi.store h11 ⟨ho1, hg1, hp1⟩ undef
          intro vs w' L hall hi hval
          obtain ⟨p', c', w1, ⟨ho1, hg1, hp1⟩, rfl⟩ := hi.fin (hall 14 (by decide))
          have hbk := (HBLK.out.grown hg1 HOB.out).setCell 0 (.slice p' (n + 1) c')
          have hKw1 := hKwz.trans (BoolKeep.own HOWN.out hg1)
          have hKw := hKw1.setCell (HBLK.out.grown hg1 HOB.out) 0 (.slice p' (n + 1) c')
          have hown2 := ho1.setCell_ne (p := ⟨g, 0, none⟩) hp1 (.slice p' (n + 1) c')
          have hBw := (hBwz.grown hg1 hBz (fun q hq => (HOWN.out.1.lt q hq).1)).setCell (p := ⟨g, 0, none⟩) hBg (.slice p' (n + 1) c')
          rw [← hsucc] at hown2
          have hwk3 : WOk (w1.setCell ⟨g, 0, none⟩ (.slice p' (n + 1) c')) B g (bytesK Q (n + 1)) held r := ⟨p', n + 1, c', hbk, hown2, hp1, hBg⟩
          generalize w1.setCell ⟨g, 0, none⟩ (.slice p' (n + 1) c') = w5 at hbk hBw hKw hwk3 ⊢
          have d1 := hbk.cell (i := 1) rfl
          have d2 := hbk.cell (i := 2) rfl
          have e1 := hbk.frozen 1
          have e2 := hbk.frozen 2
          have hwk4 := (hwk3.setHeld (held / 256)).setK (r - 8)
          have hB4 := hwk3.set hBw 1 (.int .u64 ((held / 256 : Nat) : Int))
          have hB5 := (hwk3.setHeld (held / 256)).set hB4 2 (.int .i64 ((r - 8 : Nat) : Int))
          have hK4 := hwk3.setKeep hKw 1 (.int .u64 ((held / 256 : Nat) : Int))
          have hK5 := (hwk3.setHeld (held / 256)).setKeep hK4 2 (.int .i64 ((r - 8 : Nat) : Int))
          have hm1 : cntW g wr = r := cntW_eq c2
          have hm2 : cntW g ((w5.setCell ⟨g, 1, none⟩ (.int .u64 ((held / 256 : Nat) : Int))).setCell ⟨g, 2, none⟩ (.int .i64 ((r - 8 : Nat) : Int))) = r - 8 := by
            obtain ⟨_, _, _, hb6, _⟩ := hwk4.ex
            exact cntW_eq (hb6.cell (i := 2) rfl)
          rw [show ((r - 8 : Nat) : Int) = (r : Int) - 8 from by omega, show ((held / 256 : Nat) : Int) = (held : Int) / 256 from by omega] at hwk4 hB5 hK5 hm2
          have HW4 := Lib.hid hwk4
          have HB5 := Lib.hid hB5
          have HK5 := Lib.hid hK5
          have HM1 := Lib.hid hm1
          have HM2 := Lib.hid hm2
          have HDR := Lib.hid hdrop
          have HRR := Lib.hid hr
          clear hval hi hbk hown2 hwk3 hwk4 hB4 hB5 hK4 hK5 hKw hKw1 hKr hm1 hm2 hdrop hr c2 hBw hB hBr
          simp only [consD, putAllS, Act.put, List.setIfInBounds_toArray, List.set_cons_succ, List.set_cons_zero]
          go_wp2
          go_roundw
          case rel => exact ⟨n + 1, by have := HRR.out; omega, by rw [HDR.out, show Q.length - 8 * (n + 1) = r - 8 from by have := HRR.out; omega]; exact HW4.out, HB5.out, HK5.out⟩
          case measure => rw [HM1.out, HM2.out]; omega
        · have h8' : ¬ (8 : Int) ≤ (r : Int) := by omega
          have hjl : Q.length / 8 = n := by omega
          have hfin : WBits wr B g Q := by unfold WBits; rw [hjl, show Q.length % 8 = r from by omega, hh]; exact hwk
          clear hwk hb hown
          go_wp2
          go_end0
          exact ⟨rfl, hfin, hBr, hKr⟩
theorem wPut_any (B g : Nat) (all : List Bool) (v : Nat) (n : Int) (w : World) (h : WBits w B g all) (hB : B ≤ w.heap.size) (hlen : all.length ≤ 1000000) (hv : v < 4294967296) (hn1 : -9223372036854775808 ≤ n) (hn2 : n ≤ 9223372036854775807) :
  Calls Try.prog 71 #[.pointer (some ⟨g, 0, none⟩), .int .u32 (v : Int), .int .i64 n] w fun e w' => e = .returned (.tuple #[]) ∧ WBits w' B g (if n < 0 ∨ n > 32 then all else all ++ bitsL v n.toNat) ∧ Below B w w' :=
  (wPutK_any B g all v n w h hB hlen hv hn1 hn2).mono fun e w' ⟨h1, h2, h3, _⟩ => ⟨h1, h2, h3⟩
end Go.Proofs.Ytnmdgmjheopolaa
