/- Reading instructions: what a row of bytes tells; the map of places; rows of instructions. -/
import Derived.Test.YtgcdeadfkljeaaaOpsZb
import Derived.Test.YtgcdeadfkljeaaaRowP
import Derived.Maps.Own
import Derived.Maps.OwnOps
namespace Go.Proofs.Ytgcdeadfkljeaaa
open Go.RowKit
set_option linter.unusedVariables false
set_option linter.unusedSimpArgs false

def stepsK (L : List UInt8) : Nat → CS → List StepK × CS
  | 0, s => ([], s)
  | f + 1, s => if s.p < L.length ∧ s.e = 0 then ((oneK L s).1 :: (stepsK L f (oneK L s).2).1, (stepsK L f (oneK L s).2).2) else ([], s)
def okP (ps : List Int) (st : StepK) : Bool := (!goesK (formI st.op) || ps.contains st.goal) && st.tgts.all (fun t => ps.contains t)
/-- What Read answers: the instructions and the error. -/
def readK (L : List UInt8) : List StepK × Int :=
  if L.length = 0 then ([], 1) else if 65536 ≤ L.length then ([], 3)
  else if (stepsK L L.length ⟨0, 0⟩).2.e ≠ 0 then ([], (stepsK L L.length ⟨0, 0⟩).2.e)
  else if (stepsK L L.length ⟨0, 0⟩).1.all (okP ((stepsK L L.length ⟨0, 0⟩).1.map StepK.at')) then ((stepsK L L.length ⟨0, 0⟩).1, 0) else ([], 11)
/-- Instructions that are read one behind the other. -/
def ChG (L : List UInt8) : Nat → List StepK → Nat → Prop
  | p, [], q => p = q
  | p, st :: r, q => ∃ p1, StG L p st p1 ∧ ChG L p1 r q
theorem ChG.le {L : List UInt8} : ∀ {l : List StepK} {p q : Nat}, ChG L p l q → p ≤ q
  | [], p, q, h => Nat.le_of_eq h
  | st :: r, p, q, ⟨p1, h1, h2⟩ => by have := h1.lt.1; have := ChG.le h2; omega
theorem ChG.mem {L : List UInt8} : ∀ {l : List StepK} {p q : Nat}, ChG L p l q → ∀ st ∈ l, ∃ a b, StG L a st b
  | [], p, q, h, st, hs => by cases hs
  | s1 :: r, p, q, ⟨p1, h1, h2⟩, st, hs => by
    rcases List.mem_cons.1 hs with rfl | hs
    · exact ⟨_, _, h1⟩
    · exact ChG.mem h2 st hs
theorem stepsK_e {L : List UInt8} {f : Nat} {s : CS} (he : s.e ≠ 0) : (stepsK L f s).2.e ≠ 0 := by
  cases f with
  | zero => exact he
  | succ f => rw [stepsK, if_neg (fun hx => he hx.2)]; exact he
theorem cs_eta (s : CS) (h : s.e = 0) : s = ⟨s.p, 0⟩ := by cases s; simp only at h; rw [h]
theorem steps_good {L : List UInt8} (hL : L.length < 65536) : ∀ (f p : Nat), (stepsK L f ⟨p, 0⟩).2.e = 0 → L.length ≤ p + f → p ≤ L.length → ChG L p (stepsK L f ⟨p, 0⟩).1 L.length ∧ (stepsK L f ⟨p, 0⟩).2 = ⟨L.length, 0⟩
  | 0, p, h, h1, h2 => by
    have : p = L.length := by omega
    subst this
    exact ⟨rfl, rfl⟩
  | f + 1, p, h, h1, h2 => by
    rw [stepsK] at h ⊢
    by_cases hc : p < L.length
    · rw [if_pos ⟨hc, rfl⟩] at h ⊢
      have he : (oneK L ⟨p, 0⟩).2.e = 0 := by
        by_cases he : (oneK L ⟨p, 0⟩).2.e = 0
        · exact he
        · exact absurd h (stepsK_e he)
      have hg := one_good hL he
      have hs := cs_eta _ he
      rw [hs] at h ⊢
      have hlt := hg.lt
      obtain ⟨k1, k2⟩ := steps_good hL f (oneK L ⟨p, 0⟩).2.p h (by omega) hlt.2
      exact ⟨⟨_, hg, k1⟩, k2⟩
    · rw [if_neg (fun hx => hc hx.1)]
      have : p = L.length := by omega
      subst this
      exact ⟨rfl, rfl⟩
theorem all_goal {L : List UInt8} {l : List StepK} {p q : Nat} (h : ChG L p l q) (hL : L.length < 65536) (hok : l.all (okP (l.map StepK.at')) = true) : ∀ st ∈ l, (goesK (formI st.op) = true → 0 ≤ st.goal ∧ st.goal ≤ 65536) ∧ ∀ t ∈ st.tgts, 0 ≤ t ∧ t ≤ 65536 := by
  have key : ∀ x : Int, (l.map StepK.at').contains x = true → 0 ≤ x ∧ x ≤ 65536 := by
    intro x hx
    rw [List.contains_iff_mem] at hx
    obtain ⟨s2, h2, rfl⟩ := List.mem_map.1 hx
    obtain ⟨a, b, hg⟩ := h.mem s2 h2
    have := hg.at'
    have := hg.lt
    omega
  intro st hs
  have h1 := List.all_eq_true.1 hok st hs
  unfold okP at h1
  rw [Bool.and_eq_true, Bool.or_eq_true] at h1
  refine ⟨fun hg => ?_, fun t ht => key t (List.all_eq_true.1 h1.2 t ht)⟩
  rcases h1.1 with h3 | h3
  · rw [hg] at h3; cases h3
  · exact key _ h3

/-- A map of places. -/
abbrev PMT : TypeId := 89
def PMap (w : World) (m n : Nat) (l : List Int) : Prop :=
  ∃ D : DataW Unit, w.ownsMap Try.prog 3 (plainElem Try.prog 4) m n D ∧ ∀ x kl, keyOf Try.prog 3 (.int .i64 x) = some kl → D.atKey kl (.lit (.bool false)) = .lit (.bool (l.contains x))
theorem lawI : Maps.Keyed Try.prog 3 := Maps.int_keyed Try.underlying3
theorem zeroBl (w : World) : (zeroValue 4).run Try.prog w = .ok (.bool false) w := by kernel_rfl
theorem plainElem_bool_inv {P : Program} {e : TypeId} (he : P.underlying e = some .bool) {v : Value} {z : DataW Unit × List MemPlace} (h : plainElem P e v = some z) : ∃ a, v = .bool a ∧ z = (.lit (.bool a), []) := by
  unfold plainElem at h
  rw [he] at h
  cases v <;> simp at h
  exact ⟨_, rfl, h.symm⟩
section
variable {w w' : World} {m n : Nat} {l : List Int}
theorem PMap.made (w : World) : PMap (w.alloc (.map #[] 0)) w.heap.size 0 [] := ⟨_, World.ownsMap_made _ _ _ _, fun _ _ _ => rfl⟩
theorem PMap.lt (h : PMap w m n l) : m < w.heap.size := by obtain ⟨D, h1, _⟩ := h; exact h1.lt
theorem PMap.kept {row : Option Nat} (h : PMap w m n l) (hg : w.grownBy w' row) (hne : some m ≠ row) : PMap w' m n l := by obtain ⟨D, h1, h2⟩ := h; exact ⟨D, h1.kept hg hne, h2⟩
theorem PMap.below (h : PMap w m n l) (hb : Below w.heap.size w w') : PMap w' m n l := h.kept (grownBy_of_below none hb) (by simp)
theorem PMap.look (h : PMap w m n l) (x : Int) (hx : -9223372036854775808 ≤ x ∧ x ≤ 9223372036854775807) : (Instr.lookup PMT (.map (some m)) (.int .i64 x) false).run Try.prog w = .ok (.bool (l.contains x)) w := by
  obtain ⟨D, h1, h2⟩ := h
  have hk := Maps.keyOf_int_mk (P := Try.prog) Try.underlying3 (a := x) (WalkArith.wf_i64 (by omega))
  obtain ⟨v, ps, hrun, hv⟩ := h1.lookup lawI Try.underlying89 (zeroBl w) (plainElem_bool (H := Unit) Try.underlying4 false) hk
  obtain ⟨a, rfl, ha⟩ := plainElem_bool_inv Try.underlying4 hv
  rw [h2 x _ hk] at ha
  simp only [Prod.mk.injEq, DataW.lit.injEq, Lit.bool.injEq] at ha
  rw [hrun, ← ha.1]
theorem PMap.put (h : PMap w m n l) (hn : n < maxLen) (x : Int) (hx : -9223372036854775808 ≤ x ∧ x ≤ 9223372036854775807) : ∃ w', (Instr.mapUpdate PMT (.map (some m)) (.int .i64 x) (.bool true)).run Try.prog w = .ok () w' ∧ PMap w' m (n + 1) (l ++ [x]) ∧ w.grownBy w' (some m) := by
  obtain ⟨D, h1, h2⟩ := h
  have hk := Maps.keyOf_int_mk (P := Try.prog) Try.underlying3 (a := x) (WalkArith.wf_i64 (by omega))
  obtain ⟨w', hrun, hown, hg⟩ := h1.update lawI Try.underlying89 hn hk (plainElem_bool (H := Unit) Try.underlying4 true)
  refine ⟨w', hrun, ⟨_, hown, fun y kl' hk' => ?_⟩, hg⟩
  by_cases he : y = x
  · subst he
    rw [hk] at hk'
    simp only [Option.some.injEq] at hk'
    subst hk'
    rw [Maps.atKey_put_same h1.isMap (lawI.key hk) _ _]
    simp
  · have hne : kl' ≠ Lit.int .i64 x := fun e => he (by have := lawI.inj hk' (e ▸ hk); simpa using this)
    have e : (l ++ [x]).contains y = l.contains y := by rw [Bool.eq_iff_iff]; simp [he]
    rw [Maps.atKey_put_other hne, e]
    exact h2 y kl' hk'
end
/-- An instruction that lies in a row. -/
structure Mst where
  st : StepK
  ka : Option Addr
  kn : Nat
  kc : Nat
  ta : Option Addr
  tn : Nat
  tc : Nat
def msL (q : Mst) : List Value := [.int .i64 q.st.at', .int .i64 q.st.op, .int .i64 q.st.var, .int .i64 q.st.num, .int .i64 q.st.pool, .int .i64 q.st.goal, .slice q.ka q.kn q.kc, .slice q.ta q.tn q.tc]
def OwnS (w : World) (base : Nat) (a : Option Addr) (n c : Nat) (qs : List Mst) : Prop :=
  OwnR w base STO 8 a n c (qs.map msL) ∧ ∀ q ∈ qs, Own w base 3 nE q.ka q.kn q.kc q.st.keys ∧ Own w base 3 nE q.ta q.tn q.tc q.st.tgts
theorem OwnS.below {w w' : World} {base : Nat} {a : Option Addr} {n c : Nat} {qs : List Mst} (h : OwnS w base a n c qs) (hb : Below w.heap.size w w') : OwnS w' base a n c qs := ⟨h.1.below hb, fun q hq => ⟨(h.2 q hq).1.below hb, (h.2 q hq).2.below hb⟩⟩
theorem tneS : STO ≠ 3 := by decide
theorem OwnS.snoc {w w' : World} {base : Nat} {a a' : Option Addr} {n c c' : Nat} {qs : List Mst} {q : Mst} (h : OwnS w base a n c qs) (hn : OwnR w' base STO 8 a' (n + 1) c' (qs.map msL ++ [msL q])) (hg : w.grownBy w' (Value.slice a n c).ownBlock)
    (hk : Own w base 3 nE q.ka q.kn q.kc q.st.keys) (ht : Own w base 3 nE q.ta q.tn q.tc q.st.tgts) : OwnS w' base a' (n + 1) c' (qs ++ [q]) := by
  refine ⟨by simpa using hn, fun x hx => ?_⟩
  rcases List.mem_append.1 hx with hx | hx
  · exact ⟨h.1.own_kept (h.2 x hx).1 tneS hg, h.1.own_kept (h.2 x hx).2 tneS hg⟩
  · rw [List.mem_singleton.1 hx]; exact ⟨h.1.own_kept hk tneS hg, h.1.own_kept ht tneS hg⟩
/-- Another, older block turns. -/
theorem OwnS.old {w w' : World} {base g : Nat} {a : Option Addr} {n c : Nat} {qs : List Mst} (h : OwnS w base a n c qs) (hg : w.grownBy w' (some g)) (hlt : g < base) : OwnS w' base a n c qs := by
  refine ⟨h.1.grown hg (fun k hk => by have := (h.1.row k hk).1; simp; omega), fun q hq => ⟨(h.2 q hq).1.grown hg (fun k e1 e2 => ?_), (h.2 q hq).2.grown hg (fun k e1 e2 => ?_)⟩⟩
  · have := ((h.2 q hq).1.1.lt k (by rw [e1]; exact ownB_some _ _ _)).1; have := Option.some.inj e2; omega
  · have := ((h.2 q hq).2.1.lt k (by rw [e1]; exact ownB_some _ _ _)).1; have := Option.some.inj e2; omega
/-- A row of instructions is read. -/
def RdS (w : World) (a : Option Addr) (n : Nat) (qs : List Mst) : Prop :=
  qs.length = n ∧ RdN w a n 8 (fun i j => ((qs.map msL).getD i []).getD j undef) ∧ ∀ q ∈ qs, (q.st.keys.length = q.kn ∧ q.st.tgts.length = q.tn) ∧ Rd w nE q.ka q.st.keys ∧ Rd w nE q.ta q.st.tgts
theorem RdS.below {w w' : World} {a : Option Addr} {n : Nat} {qs : List Mst} (h : RdS w a n qs) (hb : Below w.heap.size w w') : RdS w' a n qs := ⟨h.1, h.2.1.below hb, fun q hq => ⟨(h.2.2 q hq).1, (h.2.2 q hq).2.1.below hb, (h.2.2 q hq).2.2.below hb⟩⟩
theorem OwnS.rd {w : World} {base : Nat} {a : Option Addr} {n c : Nat} {qs : List Mst} (h : OwnS w base a n c qs) : RdS w a n qs :=
  ⟨by simpa using h.1.2.1, h.1.rd, fun q hq => ⟨⟨(h.2 q hq).1.len, (h.2 q hq).2.len⟩, (h.2 q hq).1.rd, (h.2 q hq).2.rd⟩⟩
theorem RdS.at {w : World} {a : Option Addr} {n : Nat} {qs : List Mst} (h : RdS w a n qs) {i : Nat} (hi : i < qs.length) : ∃ b off, a = some ⟨b, off, none⟩ ∧ (∀ j, j < 8 → w.cell? ⟨b, off + (i * 8 + j), none⟩ = some ((msL qs[i]).getD j undef)) ∧ (qs[i].st.keys.length = qs[i].kn ∧ qs[i].st.tgts.length = qs[i].tn) ∧ Rd w nE qs[i].ka qs[i].st.keys ∧ Rd w nE qs[i].ta qs[i].st.tgts := by
  obtain ⟨h1, h2, h3⟩ := h
  obtain ⟨b, off, rfl, h4⟩ := h2.at (i := i) (by omega)
  have he : (qs.map msL).getD i [] = msL qs[i] := by simp [List.getD_eq_getElem?_getD, hi]
  rw [he] at h4
  exact ⟨b, off, rfl, h4, (h3 _ (List.getElem_mem hi)).1, (h3 _ (List.getElem_mem hi)).2⟩
theorem slSto : SlT Try.prog 44 STO (.agg stZ) 8 96 := ⟨Try.underlying44, by kernel_rfl, rfl⟩
end Go.Proofs.Ytgcdeadfkljeaaa
