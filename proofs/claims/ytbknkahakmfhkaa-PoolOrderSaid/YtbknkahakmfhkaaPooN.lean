/- A pool read, plain; make([]api.Raw, 1, n). -/
import Derived.Test.YtbknkahakmfhkaaPooM
import Derived.Test.YtbknkahakmfhkaaRowP
namespace Go.Proofs.Ytbknkahakmfhkaa
open Go.RowKit
set_option linter.unusedVariables false
set_option linter.unusedSimpArgs false

def zeroK : RawK := ⟨0, ByteArray.empty, 0, 0, 0⟩
/-- A constant, and the empty one behind a wide one. -/
def addK (r : RawK) : List RawK := r :: if wideT r.tag then [zeroK] else []
/-- The rest of a pool of n numbers: what is read, the place, the error. -/
def loopK (L : List UInt8) (n : Nat) : Nat → List RawK → Nat → List RawK × Nat × Int
  | 0, acc, p => (acc, p, 2)
  | k+1, acc, p =>
    if acc.length < n then
      if (stepK L p).2.2 = 0 then loopK L n k (acc ++ addK (stepK L p).1) (stepK L p).2.1 else ([], (stepK L p).2.1, (stepK L p).2.2)
    else if n < acc.length then ([], p, 2) else (acc, p, 0)
theorem addK_pos (r : RawK) : 1 ≤ (addK r).length := by unfold addK; simp
/-- The fuel does not matter when there is enough. -/
theorem loopK_fuel (L : List UInt8) (n : Nat) : ∀ (k j : Nat) (acc : List RawK) (p : Nat), n - acc.length < k → n - acc.length < j → loopK L n k acc p = loopK L n j acc p
  | 0, _, _, _, h, _ => by omega
  | _+1, 0, _, _, _, h => by omega
  | k+1, j+1, acc, p, h1, h2 => by
    unfold loopK
    by_cases h : acc.length < n
    · rw [if_pos h, if_pos h]
      split
      · have := addK_pos (stepK L p).1
        exact loopK_fuel L n k j _ _ (by rw [List.length_append]; omega) (by rw [List.length_append]; omega)
      · rfl
    · rw [if_neg h, if_neg h]
/-- A pool. -/
def readK (L : List UInt8) : List RawK × Nat × Int :=
  let n := (bigR (nextL L 0 0 2 true)).toNat
  let p := nextAt L.length 0 0 2 true
  let e := nextEr L.length 0 0 2 true
  if e ≠ 0 then ([], p, e) else if n = 0 then ([], p, 2) else loopK L n (n + 1) [zeroK] p
def zRaw : Value := .agg #[.int .i64 0, .string ⟨#[]⟩, .int .u64 0, .int .i64 0, .int .i64 0]
abbrev RWS : TypeId := 62
theorem slRaw : SlT Try.prog RWS RAW zRaw 5 48 := by
  exact ⟨Try.underlying62, by kernel_rfl, rfl⟩
theorem made_five (c : Nat) (h : 1 ≤ c) : ((madeCells zRaw.cells (c * 5)).toList.take (1 * 5)) = rwE zeroK := by
  apply List.ext_getElem?
  intro j
  by_cases hj : j < 5
  · rw [List.getElem?_take_of_lt (by omega)]
    have hj2 : j < c * 5 := by omega
    rcases j with _ | _ | _ | _ | _ | j
    all_goals first | omega | (simp [madeCells, hj2, zRaw, Value.cells, rwE, zeroK]; try rfl)
  · rw [List.getElem?_take_eq_none (by omega)]
    symm
    apply List.getElem?_eq_none
    simp [rwE]; omega
section
variable {ops : Array Oper} {Q : Exit → Act → World → Prop} {a : Act} {w : World} {o : Oper} {rest : List Oper} {base : Nat}
/-- make([]api.Raw, 1, c). -/
theorem wpList_mk1 (hgd : o.guard = none) (x x' : Operand) (ho : o.op = .makeSlice RWS x x') (c : Nat) (C : Int) (hx : a.eval x = .int .i64 1) (hx' : a.eval x' = .int .i64 C) (hC : C = (c : Int)) (h1 : 1 ≤ c) (hc : c ≤ 100000) (hb : base ≤ w.heap.size)
    (h : ∀ p' w', OwnR w' base RAW 5 p' 1 c [rwE zeroK] → Below w.heap.size w w' → wpList Try.prog ops Q rest (a.put o.dst (.slice p' 1 c)) w') : wpList Try.prog ops Q (o :: rest) a w := by
  subst hC
  obtain ⟨ti, hti, hz0, hz2, hz3⟩ := info_parts slRaw.info
  have hr := run_makeSlice (P := Try.prog) w RWS RAW ti zRaw slRaw.under hti hz0 .i64 .i64 1 (c : Int) (by decide) (by omega) (by rw [hz2]; simp; omega) (by rw [hz3]; omega) (by omega)
  refine wpList_plain hgd fun K hK' => ?_
  unfold Oper.wp
  simp [execOp, ho, hx, hx', hr, Result.andThen]
  refine hK' _ _ (h _ _ ⟨⟨?_, .inr ⟨w.heap.size, c, _, rfl, hb, Blk.new w RAW _, h1, ?_, ?_, ?_⟩⟩, rfl, ?_⟩ (below_alloc w _))
  · rfl
  · unfold maxLen; omega
  · rw [hz2]; exact size_madeCells _ _
  · rw [hz2, made_five c h1]; rfl
  · intro r hr
    rw [List.mem_singleton] at hr
    subst hr; rfl
end
/-- What is read without an error is of a kind, and has nothing that its kind has not. -/
theorem stepT_norm (L : List UInt8) (t : Int) (p1 : Nat) (e1 : Int) (h : (stepT L t p1 e1).2.2 = 0) : kindT (stepT L t p1 e1).1.tag ≠ 0 ∧ normR (stepT L t p1 e1).1 = (stepT L t p1 e1).1 := by
  have hle : kindT t ≤ 4 := by unfold kindT; repeat' split
                               all_goals decide
  have hc : kindT t = 0 ∨ kindT t = 1 ∨ kindT t = 2 ∨ kindT t = 3 ∨ kindT t = 4 := by omega
  rcases hc with hk | hk | hk | hk | hk
  · exfalso
    unfold stepT at h
    simp only [hk] at h
    exact failE_ne e1 9 (by decide) h
  all_goals
    unfold stepT normR
    simp only [hk]
    refine ⟨by decide, ?_⟩
    first | trivial | rw [kind_one hk]
theorem stepK_norm (L : List UInt8) (p : Nat) (h : (stepK L p).2.2 = 0) : kindT (stepK L p).1.tag ≠ 0 ∧ normR (stepK L p).1 = (stepK L p).1 := stepT_norm L _ _ _ h
set_option maxHeartbeats 1000000 in
theorem raw_of (r : RawK) (w : World) (h0 : kindT r.tag ≠ 0) (hn : normR r = r) : Calls Try.prog 93 #[ofV r] w fun e w' => e = .returned (.agg (rwE r).toArray) ∧ Below w.heap.size w w' := by
  have hle : kindT r.tag ≤ 4 := by unfold kindT; repeat' split
                                   all_goals decide
  have hc : kindT r.tag = 1 ∨ kindT r.tag = 2 ∨ kindT r.tag = 3 ∨ kindT r.tag = 4 := by omega
  rcases hc with hk | hk | hk | hk
  all_goals
    rw [← hn]
    obtain ⟨t, s, bi, ra, rb⟩ := r
    simp only at hk
    unfold normR ofV
    simp only [hk]
  · exact raw_1 s w
  · exact raw_2 t bi w
  · exact raw_3 t ra w
  · exact raw_4 t ra rb w
end Go.Proofs.Ytbknkahakmfhkaa
