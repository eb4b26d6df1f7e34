/- packsaddleref12: put, Behind, End. -/
import Derived.Test.YtbknkahakmfhkaaRecC
import Derived.Test.YtbknkahakmfhkaaRef02P
import Derived.Lib.ConvBytes
namespace Go.Proofs.Ytbknkahakmfhkaa
open Go.RowKit
set_option linter.unusedVariables false
set_option linter.unusedSimpArgs false

section
variable {ops : Array Oper} {Q : Exit → Act → World → Prop} {a : Act} {w0 : World} {o : Oper} {rest : List Oper} {done : List (Nat × Spec)}
theorem rd_bytes (w : World) (s : ByteArray) : Rd (Lib.bytesWorld w 5 s) bE (some ⟨w.heap.size, 0, none⟩) (nameL s) ∧ Below w.heap.size w (Lib.bytesWorld w 5 s) := by
  refine ⟨.inr ⟨_, _, rfl, fun j x hj => ?_⟩, ?_⟩
  · have hjl : j < s.size := by rw [← nameL_len]; exact (List.getElem?_eq_some_iff.1 hj).1
    rw [Nat.zero_add, Lib.bytesWorld_cell w _ s j hjl]
    have : s.data.toList.getD j 0 = x := by rw [List.getD_eq_getElem?_getD]; unfold nameL at hj; rw [hj]; rfl
    rw [this]
  · exact ⟨rfl, rfl, rfl, by rw [Lib.bytesWorld_size]; omega, fun k hk => Lib.bytesWorld_at_old w _ s k hk⟩
/-- []byte(s). -/
theorem gw_bytes (t : Nat) (s : ByteArray) (ho : o.op = .convert 9 29 (.tmp t)) (hk : ∀ (a' : Act) (w' : World), (∀ t ∈ o.looksAt ops, KnownAt done a a' w' t) → Region.wanted o (yielded ops a'.tmps) = true ∧ a'.tmps.getD t undef = .string s)
    (h : GW Try.prog ops Q a w0 rest (consD o (SliceG bE (nameL s)) done)) : GW Try.prog ops Q a w0 (o :: rest) done := by
  refine ⟨_, mono_slice bE (nameL s), fun a' w' hb hk' => ?_, h⟩
  obtain ⟨h2, h3⟩ := hk a' w' hk'
  rw [if_pos h2]
  have hrun := Lib.run_convert_string_bytes (P := Try.prog) w' 9 29 5 s Try.underlying9 Try.underlying29 Try.underlying5
  obtain ⟨h4, h5⟩ := rd_bytes w' s
  unfold Oper.wp
  simp only [execOp, ho, Act.eval, h3]
  simp [hrun, Result.andThen, Oper.upon]
  exact ⟨_, rfl, ⟨_, _, _, rfl, nameL_len s, h4⟩, h5⟩
end
/-- Sizes and numbers, in turn. -/
def flat (ps : List (Int × Int)) : List Int := ps.flatMap fun p => [p.1, p.2]
def encP (ps : List (Int × Int)) : List UInt8 := ps.flatMap fun p => encI p.2 p.1
theorem flat_len (ps : List (Int × Int)) : (flat ps).length = 2 * ps.length := by
  unfold flat
  induction ps with
  | nil => rfl
  | cons p ps ih => rw [List.flatMap_cons, List.length_append, ih, List.length_cons]; simp only [List.length_cons, List.length_nil]; omega
theorem flat_at : ∀ (ps : List (Int × Int)) (k : Nat) (h : k < ps.length), (flat ps)[2 * k]? = some ps[k].1 ∧ (flat ps)[2 * k + 1]? = some ps[k].2
  | [], k, h => by simp at h
  | p :: ps, 0, h => ⟨rfl, rfl⟩
  | p :: ps, k + 1, h => by
    have := flat_at ps k (by simpa using h)
    unfold flat at this ⊢
    rw [List.flatMap_cons, show 2 * (k + 1) = 2 * k + 2 by omega]
    exact ⟨by rw [List.getElem?_append_right (by simp)]; simpa using this.1, by rw [List.getElem?_append_right (by simp)]; simpa using this.2⟩
theorem encP_take (ps : List (Int × Int)) (k : Nat) (h : k < ps.length) : encP (ps.take (k + 1)) = encP (ps.take k) ++ encI ps[k].2 ps[k].1 := by
  unfold encP
  rw [List.take_succ_eq_append_getElem h, List.flatMap_append]; simp
theorem encP_le (ps : List (Int × Int)) : (encP ps).length ≤ 8 * ps.length := by
  unfold encP
  induction ps with
  | nil => simp
  | cons v vs ih => simp only [List.flatMap_cons, List.length_append, List.length_cons]; have := encI_le v.2 v.1; omega
set_option maxRecDepth 100000 in
set_option maxHeartbeats 16000000 in
theorem put_any (p : Option Addr) (m k0 : Nat) (ps : List (Int × Int)) (w : World) (hm : m = 2 * ps.length) (hps : ps.length ≤ 1000) (hv : Rd w iR p (flat ps)) :
  Calls Try.prog 55 #[.slice p m k0] w fun e w' => ∃ v, e = .returned v ∧ OwnB w.heap.size (encP ps) v w' ∧ Below w.heap.size w w' := by
  have HV := Lib.hid (And.intro hm hv)
  have hm2 : m ≤ 2000 := by omega
  clear hm hv
  go_enter Try.func55, Try.ntmps55
  go_wp2
  go_loopw [3, 4] (fun x3 xi wr => ∃ (k i n' c' : Nat) (a' : Option Addr), i = 2 * k ∧ k ≤ ps.length ∧ xi = .int .i64 i ∧ x3 = .slice a' n' c' ∧ Own wr w.heap.size 5 bE a' n' c' (encP (ps.take k)) ∧ Below w.heap.size w wr) (fun _ xi _ => m - (intOf xi).toNat)
  case atStart => exact ⟨0, 0, 0, 0, none, rfl, by omega, rfl, rfl, Own.nil, Below.refl _ _⟩
  case round =>
    obtain ⟨k, i, n', c', a', hik, hk, rfl, rfl, hown, hB⟩ := hrel
    by_cases hlt : k < ps.length
    · have him : i < m := by rw [HV.out.1, hik]; omega
      have him2 : i + 1 < m := by rw [HV.out.1, hik]; omega
      have hfa := flat_at ps k hlt
      rw [← hik] at hfa
      obtain ⟨b, off, rfl, -, hc1⟩ := (HV.out.2.below hB).at (k := i) (by rw [flat_len]; omega)
      obtain ⟨b', off', hab, -, hc2⟩ := (HV.out.2.below hB).at (k := i + 1) (by rw [flat_len]; omega)
      simp only [Option.some.injEq, Addr.mk.injEq, and_true] at hab
      obtain ⟨rfl, rfl⟩ := hab
      have e1 : (flat ps)[i]'(by rw [flat_len]; omega) = ps[k].1 := Option.some.inj ((List.getElem?_eq_getElem _).symm.trans hfa.1)
      have e2 : (flat ps)[i + 1]'(by rw [flat_len]; omega) = ps[k].2 := Option.some.inj ((List.getElem?_eq_getElem _).symm.trans hfa.2)
      rw [e1] at hc1
      rw [e2] at hc2
      have HE := Lib.hid (encP_take ps k hlt)
      have hle := encP_le (ps.take k)
      rw [List.length_take, hown.len] at hle
      have HLN : Hid (n' ≤ 8000) := Lib.hid (by omega)
      generalize ps[k].1 = x at hc1 HE
      generalize ps[k].2 = y at hc2 HE
      generalize encP (ps.take k) = L at hown HE
      have HC := Lib.hid (And.intro hc1 hc2)
      have HOW := Lib.hid (And.intro hown hB)
      have HIK := Lib.hid hik
      have h1 : (i : Int) < m := by omega
      have h2 : (i : Int) + 1 < m := by omega
      have HW1 := Lib.hid (wrap64 ((i : Int) + 1) (by omega) (by omega))
      have hsz := hB.size
      clear hfa e1 e2 hc1 hc2 hle hown hB hik
      go_wp2_with fail
      generalize wr = w1 at HC HOW hsz ⊢
      refine wp_region_grow (by kernel_rfl) (by kernel_rfl) (by rfl) ?_
      apply gw_val
      · intro aa w' hk
        refine ⟨wanted_none rfl, ?_⟩
        simp [Oper.looksAt, Op.operands, Call.operands, KnownAt, List.lookup, consD] at hk
        simp [execOp, Act.eval, hk, go_sem]
        all_goals rfl
      apply gw_val
      · intro aa w' hk
        refine ⟨wanted_none rfl, ?_⟩
        simp [Oper.looksAt, Op.operands, Call.operands, KnownAt, List.lookup, consD] at hk
        simp [execOp, Act.eval, hk, go_sem]
        all_goals rfl
      apply gw_val
      · intro aa w' hk
        refine ⟨wanted_none rfl, ?_⟩
        simp [Oper.looksAt, Op.operands, Call.operands, KnownAt, List.lookup, consD] at hk
        simp [execOp, Act.eval, hk, go_sem]
        all_goals rfl
      refine gw_val (.int .i64 ((i : Int) + 1)) ?_ ?_
      · intro aa w' hk
        refine ⟨wanted_none rfl, ?_⟩
        simp [Oper.looksAt, Op.operands, Call.operands, KnownAt, List.lookup, consD] at hk
        simp [execOp, Act.eval, hk, go_sem, HW1.out]
        all_goals rfl
      apply gw_val (.pointer (some ⟨b, off + (i + 1), none⟩))
      · intro aa w' hk
        refine ⟨wanted_none rfl, ?_⟩
        simp [Oper.looksAt, Op.operands, Call.operands, KnownAt, List.lookup, consD] at hk
        simp [execOp, Act.eval, hk, h2, go_sem]
        all_goals first | rfl | omega
      refine gw_valB (fun v _ => v = .int .i64 y) (mono_eq _) ?_ ?_
      · intro aa w' hb' hk
        refine ⟨wanted_none rfl, _, ?_, rfl⟩
        have q0 := cell_later2 (HC.out.2) hb'
        simp [Oper.looksAt, Op.operands, Call.operands, KnownAt, List.lookup, consD] at hk
        simp [execOp, Act.eval, hk, q0, go_sem]
        all_goals rfl
      refine gw_val (.int .u64 (IntKind.u64.wrap y)) ?_ ?_
      · intro aa w' hk
        refine ⟨wanted_none rfl, ?_⟩
        simp [Oper.looksAt, Op.operands, Call.operands, KnownAt, List.lookup, consD] at hk
        simp [execOp, Act.eval, hk, go_sem]
        all_goals rfl
      apply gw_val
      · intro aa w' hk
        refine ⟨wanted_none rfl, ?_⟩
        simp [Oper.looksAt, Op.operands, Call.operands, KnownAt, List.lookup, consD] at hk
        simp [execOp, Act.eval, hk, go_sem]
        all_goals rfl
      apply gw_val
      · intro aa w' hk
        refine ⟨wanted_none rfl, ?_⟩
        simp [Oper.looksAt, Op.operands, Call.operands, KnownAt, List.lookup, consD] at hk
        simp [execOp, Act.eval, hk, go_sem]
        all_goals rfl
      apply gw_val (.pointer (some ⟨b, off + i, none⟩))
      · intro aa w' hk
        refine ⟨wanted_none rfl, ?_⟩
        simp [Oper.looksAt, Op.operands, Call.operands, KnownAt, List.lookup, consD] at hk
        simp [execOp, Act.eval, hk, h1, go_sem]
        all_goals first | rfl | omega
      refine gw_valB (fun v _ => v = .int .i64 x) (mono_eq _) ?_ ?_
      · intro aa w' hb' hk
        refine ⟨wanted_none rfl, _, ?_, rfl⟩
        have q0 := cell_later2 (HC.out.1) hb'
        simp [Oper.looksAt, Op.operands, Call.operands, KnownAt, List.lookup, consD] at hk
        simp [execOp, Act.eval, hk, q0, go_sem]
        all_goals rfl
      refine gw_callE 100 (fun args w => ∃ v0 v1 v2 : Value, args = #[v0, v1, v2] ∧ v0 = .slice a' n' c' ∧ v1 = .int .u64 (IntKind.u64.wrap y) ∧ v2 = .int .i64 x) (OwnB w.heap.size (L ++ encI y x)) (mono_own _ _) (fun aa w' hk => ?_) (fun w' args hb hA => ?_) ?_
      · refine ⟨wanted_none rfl, #[aa.tmps.getD 11 undef, aa.tmps.getD 17 undef, aa.tmps.getD 21 undef], ⟨_, _, _, rfl, hk 11 (by decide), hk 17 (by decide), hk 21 (by decide)⟩, ?_⟩
        simp [execOp, Act.eval, go_sem]
        all_goals rfl
      · obtain ⟨v0, v1, v2, rfl, rfl, rfl, rfl⟩ := hA
        have hb' : Below w1.heap.size w1 w' := ((Below.refl w1.heap.size w1).drew).trans hb
        rw [u64N_int]
        refine (rLittle_any a' n' c' L (u64N y) x w' HOW.out.1.len (by have := HLN.out; omega) (u64N_lt y) (HOW.out.1.rd.below hb')).mono ?_
        rintro e w'' ⟨a2, n2, c2, rfl, hown2, hb2⟩
        exact ⟨_, rfl, ⟨_, _, _, rfl, hown2.mono (Nat.le_trans hsz hb'.size)⟩, hb2⟩
      refine gw_valB (OwnB w.heap.size (L ++ encI y x)) (mono_own _ _) ?_ ?_
      · intro aa w' hb' hk
        refine ⟨wanted_none rfl, aa.tmps.getD 22 undef, ?_, hk 22 (by decide)⟩
        simp [execOp, Act.eval, go_sem]
      intro vs w3 hb3 hall
      simp only [AllS, consD] at hall
      simp only [consD, putAllS, Act.put]
      obtain ⟨h9, -⟩ := hall
      generalize vs 3 = v6 at h9 ⊢
      simp only [List.setIfInBounds_toArray, List.set_cons_succ, List.set_cons_zero]
      obtain ⟨a9, n9, c9, rfl, hown9⟩ := h9
      have hb3' : Below w1.heap.size w1 w3 := ((Below.refl w1.heap.size w1).drew).trans hb3
      have H9 := Lib.hid (And.intro hown9 (HOW.out.2.trans (hb3'.mono HOW.out.2.size)))
      clear hb3 hown9 hb3' HC
      go_wp2
      go_roundw
      case rel => exact ⟨k + 1, i + 2, n9, c9, a9, by have := HIK.out; omega, by omega, by go_num, rfl, by rw [HE.out]; exact H9.out.1, H9.out.2⟩
      case measure => simp [intOf]; omega
    · have hkm : k = ps.length := by omega
      have him : i = m := by rw [HV.out.1, hik, hkm]
      have hall : ps.take k = ps := List.take_of_length_le (by omega)
      rw [hall] at hown
      have HOW := Lib.hid (And.intro hown hB)
      clear hown hB hall hik
      subst him
      go_wp2
      go_ret
      exact ⟨_, rfl, ⟨_, _, _, rfl, HOW.out.1⟩, HOW.out.2⟩
end Go.Proofs.Ytbknkahakmfhkaa
