/- Package record: Behind, Local, Central, End. -/
import Derived.Test.YtbknkahakmfhkaaRecB
import Derived.Test.YtbknkahakmfhkaaStr
import Derived.Lib.AppendStr
namespace Go.Proofs.Ytbknkahakmfhkaa
open Go.RowKit
set_option linter.unusedVariables false
set_option linter.unusedSimpArgs false

def nameL (s : ByteArray) : List UInt8 := s.data.toList
theorem nameL_len (s : ByteArray) : (nameL s).length = s.size := by unfold nameL; rw [Array.length_toList]; rfl
def behindL (r : Rec) : List UInt8 := encs 4 [134695760] ++ encs 4 [r.su, r.pa, r.si]
def localL (r : Rec) (bh : Bool) : List UInt8 := encs 4 [67324752] ++ encs 2 [20, flagI bh, r.me, r.cl, r.da] ++ encs 4 [if bh then 0 else r.su, if bh then 0 else r.pa, if bh then 0 else r.si] ++ encs 2 [(r.na.size : Int), 0] ++ nameL r.na
def centralL (r : Rec) (bh : Bool) : List UInt8 := encs 4 [33639248] ++ encs 2 [20] ++ encs 2 [20, flagI bh, r.me, r.cl, r.da] ++ encs 4 [r.su, r.pa, r.si] ++ encs 2 [(r.na.size : Int), 0, 0, 0, 0] ++ encs 4 [0, r.of] ++ nameL r.na
def endL (a b c : Int) : List UInt8 := encs 4 [101010256] ++ encs 2 [0, 0, a, a] ++ encs 4 [b, c] ++ encs 2 [0]
section
variable {w : World} {ops : Array Oper} {rest : List Oper} {o : Oper} {a : Act} {Q : Exit → Act → World → Prop}
theorem wpList_catS (hgd : o.guard = none) (sl x : Operand) (ho : o.op = .call { callee := .builtin .append, args := #[sl, x], argTypes := #[29, 9] }) {B : Nat}
    {p : Option Addr} {n c : Nat} {l : List UInt8} (hs : a.eval sl = .slice p n c) (hown : Own w B 5 bE p n c l) (s : ByteArray) (hx : a.eval x = .string s)
    (hlen : n + s.size ≤ 100000000) (hbase : B ≤ w.heap.size)
    (h : ∀ p' n' c' w', Own w' B 5 bE p' n' c' (l ++ nameL s) → w.grownBy w' (Value.slice p n c).ownBlock → wpList Try.prog ops Q rest (a.put o.dst (.slice p' n' c')) w') : wpList Try.prog ops Q (o :: rest) a w := by
  obtain ⟨ti, hti, hz0, hz2, hz3⟩ := info_parts slByte.info
  refine Lib.wpList_append_own_string w hgd sl x 29 9 ho B 5 ti Try.underlying29 Try.underlying9 hti hz0 hz2 hz3 (.slice p n c) n (l.map bE) hs hown.1 s hx (by unfold maxLen; omega) (by omega) hbase ?_
  intro v' w' hv hg hnil
  have hcells : l.map bE ++ Lib.strCells s = (l ++ nameL s).map bE := by rw [List.map_append]; rfl
  rw [hcells] at hv
  have hlen2 : (l ++ nameL s).length = n + s.size := by rw [List.length_append, hown.len, nameL_len]
  obtain ⟨h1, h2⟩ := hv
  rcases h2 with ⟨rfl, h5⟩ | ⟨g, cap, cur, rfl, hr⟩
  · refine h none 0 0 w' ?_ hg
    have : l ++ nameL s = [] := List.eq_nil_of_length_eq_zero (by omega)
    rw [this]; exact Own.nil
  · exact h _ _ _ w' ⟨⟨by simpa using hlen2, .inr ⟨g, cap, cur, rfl, hr⟩⟩, hlen2⟩ hg
end
set_option maxRecDepth 100000 in
set_option maxHeartbeats 16000000 in
theorem cBehind_any (r : Rec) (w : World) (hok : r.Ok) :
  Calls Try.prog 15 #[.agg r.arr] w fun e w' => ∃ v, e = .returned v ∧ OwnB w.heap.size (behindL r) v w' ∧ Below w.heap.size w w' := by
  have HOK := Lib.hid hok
  obtain ⟨me, da, cl, su, pa, si, na, of⟩ := r
  simp only [Rec.arr]
  clear hok
  have hb1 := below_alloc w (.cells #[.int .i64 me, .int .u16 da, .int .u16 cl, .int .u32 su, .int .i64 pa, .int .i64 si, .string na, .int .i64 of] TR)
  have hk := Blk.new w TR #[.int .i64 me, .int .u16 da, .int .u16 cl, .int .u32 su, .int .i64 pa, .int .i64 si, .string na, .int .i64 of]
  have HB1 := Lib.hid hb1
  have HK := Lib.hid hk
  have k0 := hk.cell (i := 0) rfl
  have k1 := hk.cell (i := 1) rfl
  have k2 := hk.cell (i := 2) rfl
  have k3 := hk.cell (i := 3) rfl
  have k4 := hk.cell (i := 4) rfl
  have k5 := hk.cell (i := 5) rfl
  have k6 := hk.cell (i := 6) rfl
  have k7 := hk.cell (i := 7) rfl
  clear hb1 hk
  go_enter Try.func15, Try.ntmps15
  go_wp2_with fail
  obtain ⟨o, ho⟩ : ∃ o, o = w.heap.size := ⟨_, rfl⟩
  have HO : Hid (w.heap.size ≤ o) := Lib.hid (by omega)
  clear k0 k1 k2 k3 k4 k5 k6 k7
  rw [← ho] at HK ⊢
  generalize hw1 : w.alloc (.cells #[.int .i64 me, .int .u16 da, .int .u16 cl, .int .u32 su, .int .i64 pa, .int .i64 si, .string na, .int .i64 of] TR) = w1 at HB1 HK ⊢
  clear hw1 ho
  refine wp_region_grow (by kernel_rfl) (by kernel_rfl) (by rfl) ?_
  refine gw_lit (E := iR) [134695760] ?_ ?_
  · intro a' w' hk
    refine ⟨wanted_none rfl, (List.map iR [134695760]).toArray, 3, by simp, ?_⟩
    simp [Oper.looksAt, Op.operands, Call.operands, KnownAt, List.lookup, consD] at hk
    simp [execOp, Act.eval, hk, go_sem]
    all_goals rfl
  refine gw_callE 53 (fun args w => ∃ v1 : Value, args = #[.slice none 0 0, v1] ∧ (SliceG iR [134695760]) v1 w) (OwnB w1.heap.size (encs 4 [134695760])) (mono_own _ _) (fun a' w' hk => ?_) (fun w' args hb hA => ?_) ?_
  · refine ⟨wanted_none rfl, #[.slice none 0 0, a'.tmps.getD 3 undef], ⟨_, rfl, hk 3 (by decide)⟩, ?_⟩
    simp [execOp, Act.eval, go_sem]
    all_goals rfl
  · obtain ⟨v1, rfl, u1⟩ := hA
    have hb' : Below w1.heap.size w1 w' := ((Below.refl w1.heap.size w1).drew).trans hb
    obtain ⟨q, m, d, rfl, hm, hq⟩ := u1
    refine (fours_any none 0 0 [] q m d [134695760] w' rfl (by decide) Rd.nil hm (by rw [← hm]; simp) (by rw [← hm]; simp) hq).mono ?_
    rintro e w'' ⟨v, rfl, hv, hb2⟩
    exact ⟨v, rfl, hv.mono hb'.size, hb2⟩
  refine gw_valB (fun v _ => v = .agg #[.int .i64 me, .int .u16 da, .int .u16 cl, .int .u32 su, .int .i64 pa, .int .i64 si, .string na, .int .i64 of]) (mono_eq _) ?_ ?_
  · intro a' w' hb' hk
    refine ⟨wanted_none rfl, _, ?_, rfl⟩
    have q0 := cell_later2 (HK.out.cell (i := 0) rfl) hb'
    have q1 := cell_later2 (HK.out.cell (i := 1) rfl) hb'
    have q2 := cell_later2 (HK.out.cell (i := 2) rfl) hb'
    have q3 := cell_later2 (HK.out.cell (i := 3) rfl) hb'
    have q4 := cell_later2 (HK.out.cell (i := 4) rfl) hb'
    have q5 := cell_later2 (HK.out.cell (i := 5) rfl) hb'
    have q6 := cell_later2 (HK.out.cell (i := 6) rfl) hb'
    have q7 := cell_later2 (HK.out.cell (i := 7) rfl) hb'
    simp [Oper.looksAt, Op.operands, Call.operands, KnownAt, List.lookup, consD] at hk
    simp [execOp, Act.eval, hk, q0, q1, q2, q3, q4, q5, q6, q7, go_sem]
    all_goals rfl
  refine gw_callE 51 (fun args w => ∃ v0 v1 : Value, args = #[v0, v1] ∧ (OwnB w1.heap.size (encs 4 [134695760])) v0 w ∧ v1 = .agg #[.int .i64 me, .int .u16 da, .int .u16 cl, .int .u32 su, .int .i64 pa, .int .i64 si, .string na, .int .i64 of]) (OwnB w1.heap.size (encs 4 [134695760] ++ encs 4 [su, pa, si])) (mono_own _ _) (fun a' w' hk => ?_) (fun w' args hb hA => ?_) ?_
  · refine ⟨wanted_none rfl, #[a'.tmps.getD 4 undef, a'.tmps.getD 5 undef], ⟨_, _, rfl, hk 4 (by decide), hk 5 (by decide)⟩, ?_⟩
    simp [execOp, Act.eval, go_sem]
    all_goals rfl
  · obtain ⟨v0, v1, rfl, u0, rfl⟩ := hA
    have hb' : Below w1.heap.size w1 w' := ((Below.refl w1.heap.size w1).drew).trans hb
    obtain ⟨p, n, c, rfl, hown⟩ := u0
    have hlen := hown.len
    refine (data_any p n c _ ⟨me, da, cl, su, pa, si, na, of⟩ w' hlen (by rw [← hlen]; (try simp only [List.length_append]); have e0 := encs_le 4 [134695760]; simp only [List.length_cons, List.length_nil] at e0; omega) hown.rd HOK.out).mono ?_
    rintro e w'' ⟨v, rfl, hv, hb2⟩
    exact ⟨v, rfl, hv.mono hb'.size, hb2⟩
  refine gw_valB (OwnB w1.heap.size (encs 4 [134695760] ++ encs 4 [su, pa, si])) (mono_own _ _) ?_ ?_
  · intro a' w' hb' hk
    refine ⟨wanted_none rfl, a'.tmps.getD 6 undef, ?_, hk 6 (by decide)⟩
    simp [execOp, Act.eval, go_sem]
  intro vs w3 hb3 hall
  simp only [AllS, consD] at hall
  simp only [consD, putAllS, Act.put]
  obtain ⟨h9, -⟩ := hall
  generalize vs 2 = v6 at h9 ⊢
  simp only [List.setIfInBounds_toArray, List.set_cons_succ, List.set_cons_zero]
  have hb3' : Below w1.heap.size w1 w3 := ((Below.refl w1.heap.size w1).drew).trans hb3
  have HV := Lib.hid (And.intro (h9.mono HB1.out.size) (HB1.out.trans (hb3'.mono HB1.out.size)))
  clear h9 hb3 hb3'
  go_wp2
  go_ret
  exact ⟨_, rfl, HV.out⟩
end Go.Proofs.Ytbknkahakmfhkaa
