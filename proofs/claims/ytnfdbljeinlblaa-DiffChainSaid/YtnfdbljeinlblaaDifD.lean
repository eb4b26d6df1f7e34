/- diff.Apply. -/
import Derived.Test.YtnfdbljeinlblaaDifC
import Derived.Test.YtnfdbljeinlblaaGrowT
import Derived.Test.YtnfdbljeinlblaaGrowL
import Derived.Deep.DeepCutAuto
namespace Go.Proofs.Ytnfdbljeinlblaa
open Go.RowKit
set_option linter.unusedVariables false
set_option linter.unusedSimpArgs false

theorem cell_later2 {w w' : World} {a : Addr} {v : Value} (h : w.cell? a = some v) (hb : Below w.drew.heap.size w.drew w') : w'.cell? a = some v :=
  (hb.cell (World.block_lt_of_cell? w.drew _ h)).trans h
/-- An entry that is made. -/
structure Mad where
  na : ByteArray
  da : Int
  cl : Int
  p : Option Addr
  k : Nat
  c : Nat
  dt : List UInt8
def maL (q : Mad) : List Value := [.string q.na, .int .u16 q.da, .int .u16 q.cl, .slice q.p q.k q.c]
def maK (q : Mad) : ByteArray × Int × Int × List UInt8 := (q.na, q.da, q.cl, q.dt)
def enK (e : Ent) : ByteArray × Int × Int × List UInt8 := (e.na, e.da, e.cl, e.dt)
def maE (q : Mad) : Ent := ⟨q.na, q.da, q.cl, q.dt⟩
/-- The first error of changes. -/
def apSt (n : Nat) : List (ByteArray × Int × Int × Int × List UInt8) → Int
  | [] => 0
  | (_, _, _, fr, dt) :: r => if fr < -1 ∨ (n : Int) ≤ fr then 5 else if 0 ≤ fr ∧ 0 < dt.length then 2 else apSt n r
section
variable {n : Nat} {na : ByteArray} {da cl fr : Int} {dt : List UInt8} {r : List (ByteArray × Int × Int × Int × List UInt8)}
theorem apSt_five (h : fr < -1 ∨ (n : Int) ≤ fr) : apSt n ((na, da, cl, fr, dt) :: r) = 5 := by
  show (if fr < -1 ∨ (n : Int) ≤ fr then (5 : Int) else if 0 ≤ fr ∧ 0 < dt.length then 2 else apSt n r) = 5
  split
  · rfl
  · contradiction
theorem apSt_two (h : ¬ (fr < -1 ∨ (n : Int) ≤ fr)) (h2 : 0 ≤ fr ∧ 0 < dt.length) : apSt n ((na, da, cl, fr, dt) :: r) = 2 := by
  show (if fr < -1 ∨ (n : Int) ≤ fr then (5 : Int) else if 0 ≤ fr ∧ 0 < dt.length then 2 else apSt n r) = 2
  split
  · contradiction
  · first | rfl | (split <;> first | rfl | contradiction)
theorem apSt_on (h : ¬ (fr < -1 ∨ (n : Int) ≤ fr)) (h2 : ¬ (0 ≤ fr ∧ 0 < dt.length)) : apSt n ((na, da, cl, fr, dt) :: r) = apSt n r := by
  show (if fr < -1 ∨ (n : Int) ≤ fr then (5 : Int) else if 0 ≤ fr ∧ 0 < dt.length then 2 else apSt n r) = _
  split
  · contradiction
  · first | rfl | (split <;> first | rfl | contradiction)
end
/-- The entry that a change makes. -/
def apE (es : List Ent) (q : ByteArray × Int × Int × Int × List UInt8) : ByteArray × Int × Int × List UInt8 :=
  (q.1, q.2.1, q.2.2.1, if 0 ≤ q.2.2.2.1 then (es.map Ent.dt).getD q.2.2.2.1.toNat [] else q.2.2.2.2)
def OwnE (w : World) (base : Nat) (a : Option Addr) (n c : Nat) (cs : List Mad) : Prop :=
  OwnR w base ET 4 a n c (cs.map maL) ∧ ∀ q ∈ cs, Own w 0 5 bE q.p q.k q.c q.dt
theorem OwnE.below {w w' : World} {base : Nat} {a : Option Addr} {n c : Nat} {cs : List Mad} (h : OwnE w base a n c cs) (hb : Below w.heap.size w w') : OwnE w' base a n c cs := ⟨h.1.below hb, fun q hq => (h.2 q hq).below hb⟩
theorem OwnE.rd {w : World} {base : Nat} {a : Option Addr} {n c : Nat} {cs : List Mad} (h : OwnE w base a n c cs) : RdE w a n (cs.map maE) := by
  refine ⟨by simpa using h.1.2.1, _, h.1.rd, fun i hi => ?_⟩
  have hi' : i < cs.length := by simpa using hi
  have he : (cs.map maL).getD i [] = maL cs[i] := by simp [List.getD_eq_getElem?_getD, hi']
  have ho := h.2 cs[i] (List.getElem_mem hi')
  rw [he]
  refine ⟨by simp [maL, maE], by simp [maL, maE], by simp [maL, maE], cs[i].p, cs[i].k, cs[i].c, by simp [maL], by simpa [maE] using ho.len, by simpa [maE] using ho.rd⟩
theorem tneE : ET ≠ 5 := by decide
theorem OwnE.snoc {w w' : World} {base : Nat} {a a' : Option Addr} {n c c' : Nat} {cs : List Mad} {q : Mad} (h : OwnE w base a n c cs) (hn : OwnR w' base ET 4 a' (n + 1) c' (cs.map maL ++ [maL q])) (hg : w.grownBy w' (Value.slice a n c).ownBlock) (hq : Own w 0 5 bE q.p q.k q.c q.dt) : OwnE w' base a' (n + 1) c' (cs ++ [q]) := by
  refine ⟨by simpa using hn, fun x hx => ?_⟩
  rcases List.mem_append.1 hx with hx | hx
  · exact h.1.own_kept (h.2 x hx) tneE hg
  · rw [List.mem_singleton.1 hx]; exact h.1.own_kept hq tneE hg
theorem RdC.below {w w' : World} {a : Option Addr} {n : Nat} {cs : List Chg} (h : RdC w a n cs) (hb : Below w.heap.size w w') : RdC w' a n cs := ⟨h.1, h.2.1.below hb, fun q hq => ⟨(h.2.2 q hq).1, (h.2.2 q hq).2.below hb⟩⟩
theorem RdC.at {w : World} {a : Option Addr} {n : Nat} {cs : List Chg} (h : RdC w a n cs) {i : Nat} (hi : i < cs.length) : ∃ b off, a = some ⟨b, off, none⟩ ∧ w.cell? ⟨b, off + i * 5, none⟩ = some (.string cs[i].na) ∧ w.cell? ⟨b, off + i * 5 + 1, none⟩ = some (.int .u16 cs[i].da) ∧ w.cell? ⟨b, off + i * 5 + 2, none⟩ = some (.int .u16 cs[i].cl) ∧ w.cell? ⟨b, off + i * 5 + 3, none⟩ = some (.int .i64 cs[i].fr) ∧ w.cell? ⟨b, off + i * 5 + 4, none⟩ = some (.slice cs[i].p cs[i].k cs[i].c) ∧ cs[i].dt.length = cs[i].k ∧ Rd w bE cs[i].p cs[i].dt := by
  obtain ⟨h1, h2, h3⟩ := h
  obtain ⟨b, off, rfl, h4⟩ := h2.at (i := i) (by omega)
  have he : (cs.map chL).getD i [] = chL cs[i] := by simp [List.getD_eq_getElem?_getD, hi]
  have h5 := h3 cs[i] (List.getElem_mem hi)
  rw [he] at h4
  exact ⟨b, off, rfl, h4 0 (by omega), h4 1 (by omega), h4 2 (by omega), h4 3 (by omega), h4 4 (by omega), h5.1, h5.2⟩
/-- Bytes of its own. -/
def DatG (dt : List UInt8) : Spec := fun v w => ∃ a c, v = .slice a dt.length c ∧ Own w 0 5 bE a dt.length c dt
theorem mono_dat (dt : List UInt8) : Mono (DatG dt) := fun v w w' ⟨a, c, h1, h2⟩ hb => ⟨a, c, h1, h2.below hb⟩
def BldG (na : ByteArray) (da cl : Int) (dt : List UInt8) : Spec := fun v w => ∃ a c, v = .agg #[.string na, .int .u16 da, .int .u16 cl, .slice a dt.length c] ∧ Own w 0 5 bE a dt.length c dt
theorem mono_bld (na : ByteArray) (da cl : Int) (dt : List UInt8) : Mono (BldG na da cl dt) := fun v w w' ⟨a, c, h1, h2⟩ hb => ⟨a, c, h1, h2.below hb⟩
def RowG (na : ByteArray) (da cl : Int) (dt : List UInt8) : Spec := fun v w => ∃ g a c, v = .slice (some ⟨g, 0, none⟩) 1 1 ∧ Blk w g ET #[.string na, .int .u16 da, .int .u16 cl, .slice a dt.length c] ∧ Own w 0 5 bE a dt.length c dt
theorem mono_row (na : ByteArray) (da cl : Int) (dt : List UInt8) : Mono (RowG na da cl dt) := fun v w w' ⟨g, a, c, h1, h2, h3⟩ hb => ⟨g, a, c, h1, h2.below hb, h3.below hb⟩
section
variable {P : Program} {ops : Array Oper} {Q : Exit → Act → World → Prop} {a : Act} {w0 : World} {o : Oper} {rest : List Oper} {done : List (Nat × Spec)}
/-- An operation that makes a block. -/
theorem gw_new (G : Spec) (hm : Mono G) (h1 : ∀ (a' : Act) (w' : World), Below w0.heap.size w0 w' → (∀ t ∈ o.looksAt ops, KnownAt done a a' w' t) → Region.wanted o (yielded ops a'.tmps) = true ∧ ∃ V ob, (execOp a'.eval o).run P w' = .ok (.value V) (w'.alloc ob) ∧ G V (w'.alloc ob))
    (h : GW P ops Q a w0 rest (consD o G done)) : GW P ops Q a w0 (o :: rest) done := by
  refine ⟨G, hm, fun a' w' hb hk => ?_, h⟩
  obtain ⟨h2, V, ob, h3, h4⟩ := h1 a' w' hb hk
  rw [if_pos h2]
  unfold Oper.wp
  rw [h3]
  exact ⟨V, rfl, h4, below_alloc _ _⟩
end
/-- What Apply answers. -/
def APost (w : World) (es : List Ent) (n : Nat) (K : List (ByteArray × Int × Int × Int × List UInt8)) (e : Ending) (w' : World) : Prop :=
  Below w.heap.size w w' ∧ ((apSt n K ≠ 0 ∧ e = .returned (.tuple #[.slice none 0 0, .int .i64 (apSt n K)])) ∨
    (apSt n K = 0 ∧ ∃ p c xs, e = .returned (.tuple #[.slice p K.length c, .int .i64 0]) ∧ RdE w' p K.length xs ∧ xs.map enK = K.map (apE es)))
set_option maxRecDepth 100000 in
set_option maxHeartbeats 16000000 in
theorem apply_any (a : Option Addr) (n c : Nat) (es : List Ent) (b : Option Addr) (m d : Nat) (cs : List Chg) (w : World) (hn : n ≤ 1000000) (hm : m ≤ 1000000) (hp : RdE w a n es) (hs : SmallE es) (hq : RdC w b m cs) (ht : ∀ q ∈ cs, q.k ≤ 1000000) :
  Calls Try.prog 17 #[.slice a n c, .slice b m d] w (APost w es n (cs.map chK)) := by
  have HQ := Lib.hid hq
  have HT := Lib.hid ht
  have HL := Lib.hid hq.1
  have HP := Lib.hid hp
  have HS := Lib.hid hs
  have HN := Lib.hid hp.1
  clear hq ht hp hs
  go_enter Try.func17, Try.ntmps17
  go_wp2
  go_loopw [6, 12] (fun x6 x12 wr => ∃ (i k : Nat) (p : Option Addr) (xs : List Mad), i ≤ m ∧ x6 = .slice p i k ∧ x12 = .int .i64 i ∧ OwnE wr w.heap.size p i k xs ∧ xs.map maK = ((cs.take i).map chK).map (apE es) ∧ apSt n (cs.map chK) = apSt n ((cs.drop i).map chK) ∧ Below w.heap.size w wr) (fun _ x12 _ => m - (intOf x12).toNat)
  case atStart => exact ⟨0, 0, none, [], by omega, rfl, rfl, ⟨OwnR.nil, fun q hq => by cases hq⟩, rfl, rfl, Below.refl _ _⟩
  case round =>
    obtain ⟨i, k, p, xs, hi, rfl, rfl, hown, hmap, hst, hB⟩ := hrel
    by_cases him : i < m
    · have hil : i < cs.length := by rw [HL.out]; exact him
      obtain ⟨b', off, rfl, c0, c1, c2, c3, c4, hk, hrd⟩ := (HQ.out.below hB).at hil
      have hse := HT.out cs[i] (List.getElem_mem hil)
      have hst2 : apSt n (cs.map chK) = apSt n (chK cs[i] :: (cs.drop (i + 1)).map chK) := by
        rw [hst, List.drop_eq_getElem_cons hil, List.map_cons]
      have hmap2 : ∀ q : Mad, maK q = apE es (chK cs[i]) → (xs ++ [q]).map maK = ((cs.take (i + 1)).map chK).map (apE es) := fun q hq => by
        rw [List.take_succ_eq_append_getElem hil, List.map_append, List.map_append, List.map_append, hmap, List.map_singleton, List.map_singleton, List.map_singleton, hq]
      have HMAP := Lib.hid hmap2
      have HST := Lib.hid hst2
      have HOW := Lib.hid hown
      have HB := Lib.hid hB
      have HRD := Lib.hid hrd
      have HK := Lib.hid hk
      clear hmap hmap2 hown hB hrd hst hst2 hk
      have hia : i ≤ 1000000 := by omega
      generalize cs[i] = x at c0 c1 c2 c3 c4 HK HRD hse HMAP HST
      obtain ⟨na, da, cl, fr, xp, xk, xc, dt⟩ := x
      simp only at c0 c1 c2 c3 c4 HK HRD hse
      by_cases h5 : fr < -1 ∨ (n : Int) ≤ fr
      · have HA : Hid (apSt n (cs.map chK) = 5) := Lib.hid (by rw [HST.out]; exact apSt_five h5)
        have HB2 := Lib.hid (HB.out.trans ((below_alloc wr (.cells #[.string na, .int .u16 da, .int .u16 cl, .int .i64 fr, .slice xp xk xc] CT)).mono HB.out.size))
        have HE2 : Hid (APost w es n (cs.map chK) (.returned (.tuple #[.slice none 0 0, .int .i64 5])) (wr.alloc (.cells #[.string na, .int .u16 da, .int .u16 cl, .int .i64 fr, .slice xp xk xc] CT))) := Lib.hid ⟨HB2.out, .inl ⟨by rw [HA.out]; decide, by rw [HA.out]⟩⟩
        clear HA HB2
        by_cases h51 : fr < -1
        · clear h5
          go_wp2
          go_ret2
          exact HE2.out
        · have h52 : (n : Int) ≤ fr := by omega
          clear h5
          go_wp2
          go_ret2
          exact HE2.out
      · have h51 : ¬ fr < -1 := fun e => h5 (.inl e)
        have h52 : ¬ (n : Int) ≤ fr := fun e => h5 (.inr e)
        by_cases h0 : 0 ≤ fr
        · by_cases hk0 : 0 < xk
          · have HA : Hid (apSt n (cs.map chK) = 2) := Lib.hid (by rw [HST.out]; exact apSt_two (na := na) (da := da) (cl := cl) (fr := fr) (dt := dt) h5 ⟨h0, by have h9 : dt.length = xk := HK.out; omega⟩)
            have HB2 := Lib.hid (HB.out.trans ((below_alloc wr (.cells #[.string na, .int .u16 da, .int .u16 cl, .int .i64 fr, .slice xp xk xc] CT)).mono HB.out.size))
            have HE2 : Hid (APost w es n (cs.map chK) (.returned (.tuple #[.slice none 0 0, .int .i64 2])) (wr.alloc (.cells #[.string na, .int .u16 da, .int .u16 cl, .int .i64 fr, .slice xp xk xc] CT))) := Lib.hid ⟨HB2.out, .inl ⟨by rw [HA.out]; decide, by rw [HA.out]⟩⟩
            clear HA HB2 h5
            go_wp2
            go_ret2
            exact HE2.out
          · have HA : Hid (apSt n (cs.map chK) = apSt n ((cs.drop (i + 1)).map chK)) := Lib.hid (by rw [HST.out]; exact apSt_on (na := na) (da := da) (cl := cl) (fr := fr) (dt := dt) h5 (by rintro ⟨_, h⟩; have h9 : dt.length = xk := HK.out; omega))
            obtain ⟨f, rfl⟩ := Int.eq_ofNat_of_zero_le h0
            have hf : f < es.length := by rw [HN.out]; omega
            obtain ⟨b6, off6, p6, k6, c6, rfl, e0, e1, e2, e3, hk6, hrd6⟩ := (HP.out.below HB.out).at hf
            have hal := below_alloc wr (.cells #[.string na, .int .u16 da, .int .u16 cl, .int .i64 (f : Int), .slice xp xk xc] CT)
            have e3' := (hal.cell (World.block_lt_of_cell? wr _ e3)).trans e3
            have HR6 := Lib.hid (And.intro hk6 hrd6)
            have hs6 := (HS.out es[f] (List.getElem_mem hf)).2
            have HG6 : Hid ((es.map Ent.dt).getD f [] = es[f].dt) := Lib.hid (by simp [List.getD_eq_getElem?_getD, hf])
            clear e0 e1 e2 e3 hal hk6 hrd6 h51 h5
            go_wp2_with fail
            generalize hW : wr.alloc (.cells #[.string na, .int .u16 da, .int .u16 cl, .int .i64 (f : Int), .slice xp xk xc] CT) = W
            have hbW : Below wr.heap.size wr W := by rw [← hW]; exact below_alloc _ _
            obtain ⟨A, hA⟩ : ∃ A, A = wr.heap.size := ⟨_, rfl⟩
            have HKZ : Hid (Blk W A CT #[.string na, .int .u16 da, .int .u16 cl, .int .i64 (f : Int), .slice xp xk xc]) := Lib.hid (by rw [← hW, hA]; exact Blk.new _ _ _)
            have HOZ := Lib.hid (And.intro (HOW.out.below hbW) (HB.out.trans (hbW.mono HB.out.size)))
            obtain ⟨ed, dp, dk, dc, HD, HED, hde⟩ : ∃ ed dp dk dc, Hid (ed.length = dk ∧ Rd W bE dp ed ∧ dk ≤ 1000000) ∧ Hid (apE es (na, da, cl, (f : Int), dt) = (na, da, cl, ed)) ∧ Value.slice dp dk dc = Value.slice p6 k6 c6 := ⟨es[f].dt, p6, k6, c6, Lib.hid ⟨HR6.out.1, HR6.out.2.below hbW, by rw [← HR6.out.1]; exact hs6⟩, Lib.hid (by simp only [apE]; rw [if_pos (by omega), Int.toNat_natCast, HG6.out]), rfl⟩
            rw [← hde, ← hA]
            clear hW hbW hA hde c0 c1 c2 c3 c4 HOW HB HRD e3' HR6 HG6 hs6
            refine wp_region_growT 9 (by kernel_rfl) (by kernel_rfl) (by rfl) (by kernel_rfl) ?_
            apply gw_val
            · intro a' w' hk
              refine ⟨wanted_none rfl, ?_⟩
              simp [Oper.looksAt, Op.operands, Call.operands, KnownAt, List.lookup, consD] at hk
              simp [execOp, Act.eval, hk, go_sem]
              all_goals rfl
            apply gw_val
            · intro a' w' hk
              refine ⟨wanted_none rfl, ?_⟩
              simp [Oper.looksAt, Op.operands, Call.operands, KnownAt, List.lookup, consD] at hk
              simp [execOp, Act.eval, hk, go_sem]
              all_goals rfl
            refine gw_valB (fun v _ => v = .string na) (mono_eq _) ?_ ?_
            · intro a' w' hb' hk
              refine ⟨wanted_none rfl, _, ?_, rfl⟩
              have q0 := cell_later2 (HKZ.out.cell (i := 0) rfl) hb'
              simp [Oper.looksAt, Op.operands, Call.operands, KnownAt, List.lookup, consD] at hk
              simp [execOp, Act.eval, hk, q0, go_sem]
              all_goals rfl
            apply gw_val
            · intro a' w' hk
              refine ⟨wanted_none rfl, ?_⟩
              simp [Oper.looksAt, Op.operands, Call.operands, KnownAt, List.lookup, consD] at hk
              simp [execOp, Act.eval, hk, go_sem]
              all_goals rfl
            refine gw_valB (fun v _ => v = .agg #[.int .u16 da, .int .u16 cl]) (mono_eq _) ?_ ?_
            · intro a' w' hb' hk
              refine ⟨wanted_none rfl, _, ?_, rfl⟩
              have q1 := cell_later2 (HKZ.out.cell (i := 1) rfl) hb'
              have q2 := cell_later2 (HKZ.out.cell (i := 2) rfl) hb'
              simp [Oper.looksAt, Op.operands, Call.operands, KnownAt, List.lookup, consD] at hk
              simp [execOp, Act.eval, hk, q1, q2, go_sem]
              all_goals rfl
            apply gw_val
            · intro a' w' hk
              refine ⟨wanted_none rfl, ?_⟩
              simp [Oper.looksAt, Op.operands, Call.operands, KnownAt, List.lookup, consD] at hk
              simp [execOp, Act.eval, hk, go_sem]
              all_goals rfl
            refine gw_call _ _ (DatG ed) (mono_dat ed) (fun a' w' hk => ?_) (fun w' hb => (clone_any dp dk dc ed w' HD.out.1 (by have := HD.out.2.2; omega) (HD.out.2.1.below (((Below.refl W.heap.size W).drew).trans hb))).mono ?_) ?_
            · refine ⟨wanted_none rfl, ?_⟩
              simp [Oper.looksAt, Op.operands, Call.operands, KnownAt, List.lookup, consD] at hk
              simp [execOp, Act.eval, hk, go_sem]
              all_goals rfl
            · rintro e w'' ⟨v, c', rfl, hv, hbb⟩
              exact ⟨_, rfl, ⟨v, c', by rw [HD.out.1], by rw [HD.out.1]; exact hv.mono (Nat.zero_le _)⟩, hbb⟩
            refine gw_valB (BldG na da cl ed) (mono_bld na da cl ed) ?_ ?_
            · intro a' w' hb' hk
              refine ⟨wanted_none rfl, ?_⟩
              simp [Oper.looksAt, Op.operands, Call.operands, KnownAt, List.lookup, consD] at hk
              obtain ⟨k51, k53, a5, c5, k55, o55⟩ := hk
              refine ⟨_, ?_, a5, c5, rfl, o55⟩
              simp [execOp, Act.eval, k51, k53, k55, go_sem]
              all_goals rfl
            refine gw_new (RowG na da cl ed) (mono_row na da cl ed) ?_ ?_
            · intro a' w' hb' hk
              refine ⟨wanted_none rfl, ?_⟩
              simp [Oper.looksAt, Op.operands, Call.operands, KnownAt, List.lookup, consD] at hk
              obtain ⟨a5, c5, k56, o56⟩ := hk
              refine ⟨.slice (some ⟨w'.heap.size, 0, none⟩) 1 1, .cells #[.string na, .int .u16 da, .int .u16 cl, .slice a5 ed.length c5] ET, ?_, _, a5, c5, rfl, Blk.new _ _ _, o56.alloc _⟩
              simp [execOp, Act.eval, k56, go_sem]
              all_goals rfl
            intro vs w3 hb3 hall _
            simp only [AllS, consD] at hall
            simp only [consD, putAllS, Act.put]
            obtain ⟨h57, -, -, -, -, -, -, -, h49, -⟩ := hall
            obtain ⟨g, a7, c7, h57e, hblk, hown7⟩ := h57
            rw [h57e, h49]
            clear h57e h49
            simp only [List.drop_succ_cons, List.drop_zero, List.setIfInBounds_toArray, List.set_cons_succ, List.set_cons_zero]
            have hb3' : Below W.heap.size W w3 := ((Below.refl W.heap.size W).drew).trans hb3
            have HO3 := Lib.hid (And.intro (HOZ.out.1.below hb3') (HOZ.out.2.trans (hb3'.mono HOZ.out.2.size)))
            have HG3 := Lib.hid (And.intro hblk hown7)
            have hbase := HO3.out.2.size
            clear hb3 hb3' hblk hown7
            refine wpList_pushRx slEnt (by decide) rfl _ _ rfl (vs := [.string na, .int .u16 da, .int .u16 cl, .slice a7 ed.length c7]) HG3.out.1 rfl (by simp [Value.oneCell']) rfl HO3.out.1.1 rfl (by omega) (by unfold maxLen; omega) hbase ?_
            intro p3 c3 w4 hown3 hg3
            have HF := Lib.hid (And.intro (HO3.out.1.snoc (q := ⟨na, da, cl, a7, ed.length, c7, ed⟩) hown3 hg3 HG3.out.2) (HO3.out.1.1.step HO3.out.2 hg3 hbase))
            clear hown3 hg3
            go_wp2
            go_roundw
            case rel => exact ⟨i + 1, c3, p3, xs ++ [⟨na, da, cl, a7, ed.length, c7, ed⟩], by omega, rfl, by go_num, HF.out.1, HMAP.out ⟨na, da, cl, a7, ed.length, c7, ed⟩ HED.out.symm, HA.out, HF.out.2⟩
            case measure => simp [intOf] <;> omega

        · have HA : Hid (apSt n (cs.map chK) = apSt n ((cs.drop (i + 1)).map chK)) := Lib.hid (by rw [HST.out]; exact apSt_on (na := na) (da := da) (cl := cl) (fr := fr) (dt := dt) h5 (by rintro ⟨h, _⟩; exact h0 h))
          have HH0 := Lib.hid h0
          go_wp2_with fail
          generalize hW : wr.alloc (.cells #[.string na, .int .u16 da, .int .u16 cl, .int .i64 fr, .slice xp xk xc] CT) = W
          have hbW : Below wr.heap.size wr W := by rw [← hW]; exact below_alloc _ _
          obtain ⟨A, hA⟩ : ∃ A, A = wr.heap.size := ⟨_, rfl⟩
          have HKZ : Hid (Blk W A CT #[.string na, .int .u16 da, .int .u16 cl, .int .i64 fr, .slice xp xk xc]) := Lib.hid (by rw [← hW, hA]; exact Blk.new _ _ _)
          have HOZ := Lib.hid (And.intro (HOW.out.below hbW) (HB.out.trans (hbW.mono HB.out.size)))
          obtain ⟨ed, dp, dk, dc, HD, HED, hde⟩ : ∃ ed dp dk dc, Hid (ed.length = dk ∧ Rd W bE dp ed ∧ dk ≤ 1000000) ∧ Hid (apE es (na, da, cl, fr, dt) = (na, da, cl, ed)) ∧ Value.slice dp dk dc = Value.slice xp xk xc := ⟨dt, xp, xk, xc, Lib.hid ⟨HK.out, HRD.out.below hbW, hse⟩, Lib.hid (by simp only [apE]; rw [if_neg (by have := HH0.out; omega)]), rfl⟩
          rw [← hde, ← hA]
          clear hW hbW hA hde c0 c1 c2 c3 c4 HOW HB HRD h51 h5 hse
          refine wp_region_growT 9 (by kernel_rfl) (by kernel_rfl) (by rfl) (by kernel_rfl) ?_
          apply gw_val
          · intro a' w' hk
            refine ⟨wanted_none rfl, ?_⟩
            simp [Oper.looksAt, Op.operands, Call.operands, KnownAt, List.lookup, consD] at hk
            simp [execOp, Act.eval, hk, go_sem]
            all_goals rfl
          apply gw_val
          · intro a' w' hk
            refine ⟨wanted_none rfl, ?_⟩
            simp [Oper.looksAt, Op.operands, Call.operands, KnownAt, List.lookup, consD] at hk
            simp [execOp, Act.eval, hk, go_sem]
            all_goals rfl
          refine gw_valB (fun v _ => v = .string na) (mono_eq _) ?_ ?_
          · intro a' w' hb' hk
            refine ⟨wanted_none rfl, _, ?_, rfl⟩
            have q0 := cell_later2 (HKZ.out.cell (i := 0) rfl) hb'
            simp [Oper.looksAt, Op.operands, Call.operands, KnownAt, List.lookup, consD] at hk
            simp [execOp, Act.eval, hk, q0, go_sem]
            all_goals rfl
          apply gw_val
          · intro a' w' hk
            refine ⟨wanted_none rfl, ?_⟩
            simp [Oper.looksAt, Op.operands, Call.operands, KnownAt, List.lookup, consD] at hk
            simp [execOp, Act.eval, hk, go_sem]
            all_goals rfl
          refine gw_valB (fun v _ => v = .agg #[.int .u16 da, .int .u16 cl]) (mono_eq _) ?_ ?_
          · intro a' w' hb' hk
            refine ⟨wanted_none rfl, _, ?_, rfl⟩
            have q1 := cell_later2 (HKZ.out.cell (i := 1) rfl) hb'
            have q2 := cell_later2 (HKZ.out.cell (i := 2) rfl) hb'
            simp [Oper.looksAt, Op.operands, Call.operands, KnownAt, List.lookup, consD] at hk
            simp [execOp, Act.eval, hk, q1, q2, go_sem]
            all_goals rfl
          apply gw_val
          · intro a' w' hk
            refine ⟨wanted_none rfl, ?_⟩
            simp [Oper.looksAt, Op.operands, Call.operands, KnownAt, List.lookup, consD] at hk
            simp [execOp, Act.eval, hk, go_sem]
            all_goals rfl
          refine gw_call _ _ (DatG ed) (mono_dat ed) (fun a' w' hk => ?_) (fun w' hb => (clone_any dp dk dc ed w' HD.out.1 (by have := HD.out.2.2; omega) (HD.out.2.1.below (((Below.refl W.heap.size W).drew).trans hb))).mono ?_) ?_
          · refine ⟨wanted_none rfl, ?_⟩
            simp [Oper.looksAt, Op.operands, Call.operands, KnownAt, List.lookup, consD] at hk
            simp [execOp, Act.eval, hk, go_sem]
            all_goals rfl
          · rintro e w'' ⟨v, c', rfl, hv, hbb⟩
            exact ⟨_, rfl, ⟨v, c', by rw [HD.out.1], by rw [HD.out.1]; exact hv.mono (Nat.zero_le _)⟩, hbb⟩
          refine gw_valB (BldG na da cl ed) (mono_bld na da cl ed) ?_ ?_
          · intro a' w' hb' hk
            refine ⟨wanted_none rfl, ?_⟩
            simp [Oper.looksAt, Op.operands, Call.operands, KnownAt, List.lookup, consD] at hk
            obtain ⟨k51, k53, a5, c5, k55, o55⟩ := hk
            refine ⟨_, ?_, a5, c5, rfl, o55⟩
            simp [execOp, Act.eval, k51, k53, k55, go_sem]
            all_goals rfl
          refine gw_new (RowG na da cl ed) (mono_row na da cl ed) ?_ ?_
          · intro a' w' hb' hk
            refine ⟨wanted_none rfl, ?_⟩
            simp [Oper.looksAt, Op.operands, Call.operands, KnownAt, List.lookup, consD] at hk
            obtain ⟨a5, c5, k56, o56⟩ := hk
            refine ⟨.slice (some ⟨w'.heap.size, 0, none⟩) 1 1, .cells #[.string na, .int .u16 da, .int .u16 cl, .slice a5 ed.length c5] ET, ?_, _, a5, c5, rfl, Blk.new _ _ _, o56.alloc _⟩
            simp [execOp, Act.eval, k56, go_sem]
            all_goals rfl
          intro vs w3 hb3 hall _
          simp only [AllS, consD] at hall
          simp only [consD, putAllS, Act.put]
          obtain ⟨h57, -, -, -, -, -, -, -, h49, -⟩ := hall
          obtain ⟨g, a7, c7, h57e, hblk, hown7⟩ := h57
          rw [h57e, h49]
          clear h57e h49
          simp only [List.drop_succ_cons, List.drop_zero, List.setIfInBounds_toArray, List.set_cons_succ, List.set_cons_zero]
          have hb3' : Below W.heap.size W w3 := ((Below.refl W.heap.size W).drew).trans hb3
          have HO3 := Lib.hid (And.intro (HOZ.out.1.below hb3') (HOZ.out.2.trans (hb3'.mono HOZ.out.2.size)))
          have HG3 := Lib.hid (And.intro hblk hown7)
          have hbase := HO3.out.2.size
          clear hb3 hb3' hblk hown7
          refine wpList_pushRx slEnt (by decide) rfl _ _ rfl (vs := [.string na, .int .u16 da, .int .u16 cl, .slice a7 ed.length c7]) HG3.out.1 rfl (by simp [Value.oneCell']) rfl HO3.out.1.1 rfl (by omega) (by unfold maxLen; omega) hbase ?_
          intro p3 c3 w4 hown3 hg3
          have HF := Lib.hid (And.intro (HO3.out.1.snoc (q := ⟨na, da, cl, a7, ed.length, c7, ed⟩) hown3 hg3 HG3.out.2) (HO3.out.1.1.step HO3.out.2 hg3 hbase))
          clear hown3 hg3
          go_wp2
          go_roundw
          case rel => exact ⟨i + 1, c3, p3, xs ++ [⟨na, da, cl, a7, ed.length, c7, ed⟩], by omega, rfl, by go_num, HF.out.1, HMAP.out ⟨na, da, cl, a7, ed.length, c7, ed⟩ HED.out.symm, HA.out, HF.out.2⟩
          case measure => simp [intOf] <;> omega
    · have him' : i = m := by omega
      subst him'
      have HF := Lib.hid (And.intro hown (And.intro hmap (And.intro hst hB)))
      clear hown hmap hst hB
      go_wp2
      go_ret2
      have hlen : (cs.map chK).length = i := by rw [List.length_map, HL.out]
      rw [List.take_of_length_le (by rw [HL.out]; exact Nat.le_refl _)] at HF
      refine ⟨HF.out.2.2.2, .inr ⟨?_, p, k, xs.map maE, ?_, ?_, ?_⟩⟩
      · rw [HF.out.2.2.1, List.drop_of_length_le (by rw [HL.out]; exact Nat.le_refl _)]; rfl
      · rw [hlen]; rfl
      · rw [hlen]; exact HF.out.1.rd
      · rw [← HF.out.2.1, List.map_map]; rfl
end Go.Proofs.Ytnfdbljeinlblaa
