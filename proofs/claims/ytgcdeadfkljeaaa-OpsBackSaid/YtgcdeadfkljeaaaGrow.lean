/- A region that draws its order, whose operations read, call, and make memory, but write to none that was there: each operation's value is told by a predicate that later worlds keep; one obligation an operation, whatever the order. -/
import Derived.Test.YtgcdeadfkljeaaaLib
import Derived.Orders
import Derived.Still
namespace Go.Proofs.Ytgcdeadfkljeaaa
open Go.RowKit
set_option linter.unusedVariables false
set_option linter.unusedSimpArgs false

abbrev Spec := Value → World → Prop
def Mono (G : Spec) : Prop := ∀ v w w', G v w → Below w.heap.size w w' → G v w'
def KnownAt (done : List (Nat × Spec)) (a a' : Act) (w' : World) (t : Nat) : Prop :=
  match done.lookup t with
  | some G => G (a'.tmps.getD t undef) w'
  | none => a'.tmps.getD t undef = a.tmps.getD t undef
def OpOk (P : Program) (ops : Array Oper) (a : Act) (w0 : World) (done : List (Nat × Spec)) (o : Oper) (G : Spec) : Prop :=
  ∀ (a' : Act) (w' : World), Below w0.heap.size w0 w' → (∀ t ∈ o.looksAt ops, KnownAt done a a' w' t) →
    if Region.wanted o (yielded ops a'.tmps) then o.wp P a' w' (fun a'' w'' => ∃ v, a'' = a'.put o.dst v ∧ G v w'' ∧ Below w'.heap.size w' w'') (fun _ _ _ => False) else G undef w'
def consD (o : Oper) (G : Spec) (done : List (Nat × Spec)) : List (Nat × Spec) := match o.dst with | some d => (d, G) :: done | none => done
def AllS (vs : Nat → Value) (w' : World) : List (Nat × Spec) → Prop
  | [] => True
  | (t, G) :: r => G (vs t) w' ∧ AllS vs w' r
def putAllS (a : Act) (vs : Nat → Value) : List (Nat × Spec) → Act
  | [] => a
  | (t, _) :: r => (putAllS a vs r).put (some t) (vs t)
def GW (P : Program) (ops : Array Oper) (Q : Exit → Act → World → Prop) (a : Act) (w0 : World) : List Oper → List (Nat × Spec) → Prop
  | [], done => ∀ (vs : Nat → Value) (w' : World), Below w0.heap.size w0 w' → AllS vs w' done → Q .normal (putAllS a vs done) w'
  | o :: rest, done => ∃ G, Mono G ∧ OpOk P ops a w0 done o G ∧ GW P ops Q a w0 rest (consD o G done)

def growB (ops : Array Oper) : Bool :=
  (List.range ops.size).all fun i => match ops[i]? with
    | none => true
    | some o =>
      (o.after.all fun e => !Region.binds .any e || decide (e.on < i)) &&
      (List.range ops.size).all fun j => match (ops[j]?).bind (·.dst) with
        | none => true
        | some d => (!(o.looksAt ops).contains d || (if j < i then o.after.any (fun e => Region.binds .any e && e.on == j) else if j = i then false else ((ops[j]?).map fun oj => oj.after.any (fun e => Region.binds .any e && e.on == i)).getD false)) && (j == i || o.dst != some d)

def mkD : List Oper → List Spec → List (Nat × Spec) → List (Nat × Spec)
  | o :: os, G :: Gs, done => mkD os Gs (consD o G done)
  | _, _, done => done

section
variable {P : Program} {ops : Array Oper} {Q : Exit → Act → World → Prop} {a : Act} {w0 : World}

theorem GW.specs : ∀ (l : List Oper) (done : List (Nat × Spec)), GW P ops Q a w0 l done →
    ∃ Gs : List Spec, Gs.length = l.length ∧ (∀ (k : Nat) (o : Oper) (G : Spec), l[k]? = some o → Gs[k]? = some G → Mono G ∧ OpOk P ops a w0 (mkD (l.take k) (Gs.take k) done) o G) ∧
      (∀ (vs : Nat → Value) (w' : World), Below w0.heap.size w0 w' → AllS vs w' (mkD l Gs done) → Q .normal (putAllS a vs (mkD l Gs done)) w')
  | [], done, h => ⟨[], rfl, fun k o G h => by simp at h, h⟩
  | o :: rest, done, h => by
    obtain ⟨G, hm, hok, hr⟩ := h
    obtain ⟨Gs, hl, hs, hf⟩ := GW.specs rest (consD o G done) hr
    refine ⟨G :: Gs, by simp [hl], fun k o' G' h1 h2 => ?_, hf⟩
    cases k with
    | zero => simp at h1 h2; subst h1 h2; exact ⟨hm, hok⟩
    | succ k => simp at h1 h2; exact hs k o' G' h1 h2

/-- Where a slot is told. -/
theorem lookup_mkD : ∀ (l : List Oper) (Gs : List Spec) (done : List (Nat × Spec)) (t : Nat), Gs.length = l.length →
    (∀ (i j : Nat) (oi oj : Oper), l[i]? = some oi → l[j]? = some oj → oi.dst = some t → oj.dst = some t → i = j) →
    ((∀ (j : Nat) (o : Oper), l[j]? = some o → o.dst ≠ some t) ∧ (mkD l Gs done).lookup t = done.lookup t) ∨ ∃ (j : Nat) (o : Oper) (G : Spec), l[j]? = some o ∧ Gs[j]? = some G ∧ o.dst = some t ∧ (mkD l Gs done).lookup t = some G
  | [], [], done, t, _, _ => .inl ⟨fun j o h => by simp at h, rfl⟩
  | o :: os, G :: Gs, done, t, hl, hu => by
    have hu' : ∀ (i j : Nat) (oi oj : Oper), os[i]? = some oi → os[j]? = some oj → oi.dst = some t → oj.dst = some t → i = j := fun i j oi oj h1 h2 h3 h4 => by
      have := hu (i + 1) (j + 1) oi oj (by simpa using h1) (by simpa using h2) h3 h4
      omega
    rcases lookup_mkD os Gs (consD o G done) t (by simpa using hl) hu' with ⟨hn, hk⟩ | ⟨j, o', G', h1, h2, h3, h4⟩
    · by_cases ho : o.dst = some t
      · refine .inr ⟨0, o, G, rfl, rfl, ho, ?_⟩
        show (mkD os Gs (consD o G done)).lookup t = _
        rw [hk]; simp [consD, ho]
      · refine .inl ⟨fun j o' h => ?_, ?_⟩
        · cases j with
          | zero => simp at h; subst h; exact ho
          | succ j => simp at h; exact hn j o' h
        · show (mkD os Gs (consD o G done)).lookup t = _
          rw [hk]
          unfold consD
          cases hd : o.dst with
          | none => rfl
          | some d =>
            have : (t == d) = false := by
              simp; intro e; apply ho; rw [hd, e]
            simp [List.lookup, this]
    · exact .inr ⟨j + 1, o', G', by simpa using h1, by simpa using h2, h3, h4⟩

theorem AllS_iff {vs : Nat → Value} {w' : World} : ∀ (D : List (Nat × Spec)), AllS vs w' D ↔ ∀ p ∈ D, p.2 (vs p.1) w'
  | [] => by simp [AllS]
  | (t, G) :: r => by simp [AllS, AllS_iff r]

theorem mem_mkD : ∀ (l : List Oper) (Gs : List Spec) (done : List (Nat × Spec)) (p : Nat × Spec), p ∈ mkD l Gs done → p ∈ done ∨ ∃ (j : Nat) (o : Oper), l[j]? = some o ∧ Gs[j]? = some p.2 ∧ o.dst = some p.1
  | [], _, done, p, h => .inl (by simpa [mkD] using h)
  | _ :: _, [], done, p, h => .inl (by simpa [mkD] using h)
  | o :: os, G :: Gs, done, p, h => by
    rcases mem_mkD os Gs (consD o G done) p h with h | ⟨j, o', h1, h2, h3⟩
    · unfold consD at h
      cases hd : o.dst with
      | none => rw [hd] at h; exact .inl h
      | some d =>
        rw [hd] at h
        rcases List.mem_cons.1 h with rfl | h
        · exact .inr ⟨0, o, rfl, rfl, hd⟩
        · exact .inl h
    · exact .inr ⟨j + 1, o', by simpa using h1, by simpa using h2, h3⟩

theorem putAllS_defers (a : Act) (vs : Nat → Value) : ∀ (D : List (Nat × Spec)), (putAllS a vs D).defers = a.defers
  | [] => rfl
  | (t, G) :: r => by rw [putAllS]; show (putAllS a vs r).defers = _; exact putAllS_defers a vs r
theorem putAllS_size (a : Act) (vs : Nat → Value) : ∀ (D : List (Nat × Spec)), (putAllS a vs D).tmps.size = a.tmps.size
  | [] => rfl
  | (t, G) :: r => by simp [putAllS, Act.put, putAllS_size a vs r]
theorem putAllS_get (a : Act) (vs : Nat → Value) : ∀ (D : List (Nat × Spec)) (t : Nat), t < a.tmps.size → (putAllS a vs D).tmps[t]? = some (if t ∈ D.map (·.1) then vs t else a.tmps.getD t undef)
  | [], t, h => by simp [putAllS, h]
  | (s, G) :: r, t, h => by
    simp only [putAllS, Act.put, List.map_cons, List.mem_cons]
    rw [Array.getElem?_setIfInBounds]
    by_cases hs : s = t
    · subst hs; simp [putAllS_size, h]
    · have hs' : ¬ t = s := fun e => hs e.symm
      rw [if_neg hs, putAllS_get a vs r t h]
      by_cases hm : t ∈ r.map (·.1)
      · rw [if_pos hm, if_pos (Or.inr hm)]
      · rw [if_neg hm, if_neg (by rintro (h | h); exact hs' h; exact hm h)]

theorem getD_put_ne {a : Act} {dst : Option Tmp} {v : Value} {t : Nat} (h : dst ≠ some t) : (a.put dst v).tmps.getD t undef = a.tmps.getD t undef := by
  cases dst with
  | none => rfl
  | some d =>
    have hd : d ≠ t := fun e => h (by rw [e])
    simp [Act.put, Array.getElem?_setIfInBounds, hd]
theorem getD_put_same {a : Act} {t : Nat} {v : Value} (h : t < a.tmps.size) : (a.put (some t) v).tmps.getD t undef = v := by
  simp [Act.put, h]
theorem put_size {a : Act} {dst : Option Tmp} {v : Value} : (a.put dst v).tmps.size = a.tmps.size := by
  cases dst <;> simp [Act.put]
theorem put_defers {a : Act} {dst : Option Tmp} {v : Value} : (a.put dst v).defers = a.defers := by
  cases dst <;> rfl

structure GInv (ops : Array Oper) (Gs : List Spec) (a : Act) (w0 : World) (listed : Array Bool) (a' : Act) (w' : World) : Prop where
  below : Below w0.heap.size w0 w'
  defers : a'.defers = a.defers
  size : a'.tmps.size = a.tmps.size
  lsize : listed.size = ops.size
  old : ∀ t, (∀ (j : Nat) (o : Oper), ops[j]? = some o → o.dst = some t → listed.getD j true = false) → a'.tmps.getD t undef = a.tmps.getD t undef
  closed : ∀ (j : Nat) (o : Oper), ops[j]? = some o → listed.getD j false = true → ∀ e ∈ o.after, Region.binds .any e = true → listed.getD e.on false = true
  told : ∀ (j : Nat) (o : Oper) (G : Spec) (t : Nat), ops[j]? = some o → Gs[j]? = some G → o.dst = some t → listed.getD j false = true → G (a'.tmps.getD t undef) w'

theorem growB_spec (hB : growB ops = true) {i : Nat} {o : Oper} (hi : ops[i]? = some o) :
    (∀ e ∈ o.after, Region.binds .any e = true → e.on < i) ∧
    (∀ (j : Nat) (oj : Oper) (d : Nat), ops[j]? = some oj → oj.dst = some d → (j ≠ i → o.dst ≠ some d) ∧
      (d ∈ o.looksAt ops → (j < i ∧ ∃ e ∈ o.after, Region.binds .any e = true ∧ e.on = j) ∨ (i < j ∧ ∃ e ∈ oj.after, Region.binds .any e = true ∧ e.on = i))) := by
  have hlt := (Array.getElem?_eq_some_iff.1 hi).1
  unfold growB at hB
  rw [List.all_eq_true] at hB
  have h := hB i (List.mem_range.2 hlt)
  simp only [hi, Bool.and_eq_true, Array.all_eq_true_iff_forall_mem, Bool.or_eq_true, Bool.not_eq_true', decide_eq_true_eq, List.all_eq_true] at h
  refine ⟨fun e he hb => (h.1 e he).resolve_left (by simp [hb]), fun j oj d hj hd => ?_⟩
  have hjl := (Array.getElem?_eq_some_iff.1 hj).1
  have h2 := h.2 j (List.mem_range.2 hjl)
  simp only [hj, Option.bind_some, hd, Option.map_some, Option.getD_some, Bool.and_eq_true, Bool.or_eq_true, Bool.not_eq_true'] at h2
  refine ⟨fun hne => ?_, fun hmem => ?_⟩
  · rcases h2.2 with h3 | h3
    · exact absurd (by simpa using h3) hne
    · simpa using h3
  · rcases h2.1 with h3 | h3
    · rw [List.contains_eq_mem] at h3; simp at h3; exact absurd hmem h3
    · by_cases hji : j < i
      · rw [if_pos hji] at h3
        obtain ⟨e, he, hb⟩ := Array.any_eq_true'.1 h3
        simp only [Bool.and_eq_true, beq_iff_eq] at hb
        exact .inl ⟨hji, e, he, hb.1, hb.2⟩
      · rw [if_neg hji] at h3
        by_cases hjeq : j = i
        · rw [if_pos hjeq] at h3; cases h3
        · rw [if_neg hjeq] at h3
          obtain ⟨e, he, hb⟩ := Array.any_eq_true'.1 h3
          simp only [Bool.and_eq_true, beq_iff_eq] at hb
          exact .inr ⟨by omega, e, he, hb.1, hb.2⟩

theorem wp_of_false {o : Oper} {a' : Act} {w' : World} {K K' : Act → World → Prop} (h : o.wp P a' w' K (fun _ _ _ => False)) (hk : ∀ a w, K a w → K' a w) : o.wp P a' w' K' Q := by
  unfold Oper.wp at *
  generalize (execOp a'.eval o).run P w' = r at *
  cases r with
  | ok n w'' =>
    cases n <;> simp only [Oper.upon] at h ⊢
    case enter f args =>
      refine h.mono ?_
      intro e w3 he
      cases e with
      | returned v => exact hk _ _ he
      | panicked c => exact he.elim
      | outgrown =>
        obtain ⟨_, _, hf⟩ := he
        exact hf.elim
    case row r args => exact h.mono fun _ _ he => hk _ _ he
    all_goals exact hk _ _ h
  | halt x w'' => cases x <;> simp only [Oper.upon] at h

theorem grow_any (hB : growB ops = true) (Gs : List Spec) (hGl : Gs.length = ops.toList.length)
    (hok : ∀ (k : Nat) (o : Oper) (G : Spec), ops.toList[k]? = some o → Gs[k]? = some G → Mono G ∧ OpOk P ops a w0 (mkD (ops.toList.take k) (Gs.take k) []) o G)
    (hfin : ∀ (vs : Nat → Value) (w' : World), Below w0.heap.size w0 w' → AllS vs w' (mkD ops.toList Gs []) → Q .normal (putAllS a vs (mkD ops.toList Gs [])) w')
    (hd : ∀ (j : Nat) (o : Oper) (t : Nat), ops[j]? = some o → o.dst = some t → t < a.tmps.size) :
    ∀ (fuel : Nat) (listed : Array Bool) (a' : Act) (w' : World), GInv ops Gs a w0 listed a' w' → ((List.range ops.size).filter fun i => !listed.getD i true).length ≤ fuel → wpAny P .any ops Q fuel listed a' w' := by
  -- where all is listed
  have done : ∀ (listed : Array Bool) (a' : Act) (w' : World), GInv ops Gs a w0 listed a' w' → (∀ i, i < ops.size → listed.getD i true = true) → Q .normal a' w' := by
    intro listed a' w' inv hall
    have hall2 : ∀ i, i < ops.size → listed.getD i false = true := fun i hi => by
      have := hall i hi
      have hs : i < listed.size := by rw [inv.lsize]; exact hi
      simp [hs] at this ⊢; exact this
    have e : a' = putAllS a (fun t => a'.tmps.getD t undef) (mkD ops.toList Gs []) := by
      obtain ⟨tm, df⟩ := a'
      have h1 : df = a.defers := inv.defers
      have h2 := putAllS_defers a (fun t => tm.getD t undef) (mkD ops.toList Gs [])
      have h3 : tm = (putAllS a (fun t => tm.getD t undef) (mkD ops.toList Gs [])).tmps := by
        apply Array.ext_getElem?
        intro t
        have hsz : tm.size = a.tmps.size := inv.size
        by_cases ht : t < a.tmps.size
        · rw [putAllS_get _ _ _ _ ht]
          have hg : tm[t]? = some (tm.getD t undef) := by simp [show t < tm.size by omega]
          rw [hg]
          by_cases hm : t ∈ (mkD ops.toList Gs []).map (·.1)
          · rw [if_pos hm]
          · rw [if_neg hm]
            congr 1
            refine inv.old t fun j o hj hdst => ?_
            exfalso
            apply hm
            rcases lookup_mkD ops.toList Gs [] t hGl (fun i j oi oj hi hj h1 h2 => by
              by_cases hij : j = i
              · exact hij.symm
              · exact absurd h1 (((growB_spec hB (i := i) (o := oi) (by simpa using hi)).2 j oj t (by simpa using hj) h2).1 hij)) with ⟨hn, _⟩ | ⟨j', o', G', hj1, hj2, hj3, hj4⟩
            · exact absurd hdst (hn j o (by simpa using hj))
            · have : (mkD ops.toList Gs []).lookup t ≠ none := by rw [hj4]; simp
              rw [List.mem_map]
              by_cases hex : ∃ p ∈ mkD ops.toList Gs [], p.1 = t
              · exact hex
              · exfalso
                apply this
                rw [List.lookup_eq_none_iff]
                intro p hp
                simp
                intro e
                exact hex ⟨p, hp, e.symm⟩
        · rw [Array.getElem?_eq_none (by omega), Array.getElem?_eq_none (by rw [putAllS_size]; omega)]
      show Act.mk tm df = _
      generalize putAllS a (fun t => tm.getD t undef) (mkD ops.toList Gs []) = q at h2 h3 ⊢
      obtain ⟨qt, qd⟩ := q
      simp only at h2 h3
      rw [h1, ← h2]
      simp only [Act.mk.injEq, and_true]
      exact h3
    rw [e]
    refine hfin _ w' inv.below ((AllS_iff _).2 fun p hp => ?_)
    rcases mem_mkD _ _ _ _ hp with h | ⟨j, o, h1, h2, h3⟩
    · cases h
    · have hj : ops[j]? = some o := by simpa using h1
      exact inv.told j o p.2 p.1 hj h2 h3 (hall2 j (Array.getElem?_eq_some_iff.1 hj).1)
  -- where none is ready, all is listed
  have ready0 : ∀ (listed : Array Bool), listed.size = ops.size → Region.ready .any ops listed = [] → ∀ i, i < ops.size → listed.getD i true = true := by
    intro listed hls hr i
    induction i using Nat.strongRecOn with
    | _ i ih =>
      intro hi
      by_cases hl : listed.getD i true = true
      · exact hl
      · exfalso
        have hmem : i ∈ Region.ready .any ops listed := by
          refine mem_ready.2 ⟨by simpa using hl, ops[i], by simp [hi], fun e he hb => ?_⟩
          have hlt := (growB_spec hB (i := i) (o := ops[i]) (by simp [hi])).1 e he hb
          have := ih e.on hlt (by omega)
          have hs : e.on < listed.size := by omega
          simp [hs] at this ⊢; exact this
        rw [hr] at hmem; cases hmem
  intro fuel
  induction fuel with
  | zero =>
    intro listed a' w' inv hc
    have hnone : (List.range ops.size).filter (fun i => !listed.getD i true) = [] := List.eq_nil_of_length_eq_zero (by omega)
    have hall : ∀ i, i < ops.size → listed.getD i true = true := fun i hi => by
      by_cases hl : listed.getD i true = true
      · exact hl
      · have : i ∈ (List.range ops.size).filter (fun i => !listed.getD i true) := List.mem_filter.2 ⟨List.mem_range.2 hi, by simpa using hl⟩
        rw [hnone] at this; cases this
    refine ⟨?_, done listed a' w' inv hall⟩
    cases hr : Region.ready .any ops listed with
    | nil => rfl
    | cons i r =>
      have hm : i ∈ Region.ready .any ops listed := by rw [hr]; exact List.mem_cons_self
      obtain ⟨h0, o, ho, _⟩ := mem_ready.1 hm
      rw [hall i (Array.getElem?_eq_some_iff.1 ho).1] at h0; cases h0
  | succ fuel ih =>
    intro listed a' w' inv hc
    refine ⟨fun h0 => done listed a' w' inv (ready0 listed inv.lsize h0), fun i hi => ?_⟩
    obtain ⟨hun, o, ho, hpre⟩ := mem_ready.1 hi
    have hil := (Array.getElem?_eq_some_iff.1 ho).1
    obtain ⟨G, hG⟩ : ∃ G, Gs[i]? = some G := ⟨Gs[i]'(by rw [hGl]; simpa using hil), by simp⟩
    obtain ⟨hmono, hop⟩ := hok i o G (by simpa using ho) hG
    have hknow : ∀ t ∈ o.looksAt ops, KnownAt (mkD (ops.toList.take i) (Gs.take i) []) a a' w' t := by
      intro t ht
      have huniq : ∀ (x y : Nat) (ox oy : Oper), (ops.toList.take i)[x]? = some ox → (ops.toList.take i)[y]? = some oy → ox.dst = some t → oy.dst = some t → x = y := by
        intro x y ox oy hx hy h1 h2
        have hx' : ops[x]? = some ox := by
          rw [List.getElem?_take] at hx; split at hx; simpa using hx; cases hx
        have hy' : ops[y]? = some oy := by
          rw [List.getElem?_take] at hy; split at hy; simpa using hy; cases hy
        by_cases hxy : y = x
        · exact hxy.symm
        · exact absurd h1 (((growB_spec hB hx').2 y oy t hy' h2).1 hxy)
      unfold KnownAt
      rcases lookup_mkD (ops.toList.take i) (Gs.take i) [] t (by rw [List.length_take, List.length_take, hGl]) huniq with ⟨hn, hk⟩ | ⟨j, oj, Gj, h1, h2, h3, h4⟩
      · rw [hk]
        show a'.tmps.getD t undef = a.tmps.getD t undef
        refine inv.old t fun j oj hj hdst => ?_
        rcases ((growB_spec hB ho).2 j oj t hj hdst).2 ht with ⟨hlt, _⟩ | ⟨hlt, e, he, hb, heq⟩
        · exact absurd hdst (hn j oj (by rw [List.getElem?_take, if_pos hlt]; simpa using hj))
        · -- j waits for i, which isn't listed
          by_cases hjl : listed.getD j true = true
          · exfalso
            have hjs : j < listed.size := by rw [inv.lsize]; exact (Array.getElem?_eq_some_iff.1 hj).1
            have hjl2 : listed.getD j false = true := by simp [hjs] at hjl ⊢; exact hjl
            have := inv.closed j oj hj hjl2 e he hb
            rw [heq] at this
            have his : i < listed.size := by rw [inv.lsize]; exact hil
            simp [his] at hun this
            rw [hun] at this; cases this
          · simpa using hjl
      · rw [h4]
        have hji : j < i := by
          rw [List.getElem?_take] at h1; split at h1; assumption; cases h1
        have hj : ops[j]? = some oj := by
          rw [List.getElem?_take, if_pos hji] at h1; simpa using h1
        have hGj : Gs[j]? = some Gj := by
          rw [List.getElem?_take, if_pos hji] at h2; exact h2
        refine inv.told j oj Gj t hj hGj h3 ?_
        rcases ((growB_spec hB ho).2 j oj t hj h3).2 ht with ⟨_, e, he, hb, heq⟩ | ⟨hlt, _⟩
        · rw [← heq]; exact hpre e he hb
        · omega
    have hstep := hop a' w' inv.below hknow
    have hcnt : ((List.range ops.size).filter fun k => !(listed.setIfInBounds i true).getD k true).length ≤ fuel := by
      have e1 : ((List.range ops.size).filter fun k => !(listed.setIfInBounds i true).getD k true) = ((List.range ops.size).filter fun k => !listed.getD k true).filter (fun k => decide (k ≠ i)) := by
        rw [List.filter_filter]
        apply List.filter_congr
        intro k hk
        by_cases hki : k = i
        · subst hki
          have : k < listed.size := by rw [inv.lsize]; exact hil
          simp [this]
        · rw [getD_set_ne true (fun e => hki e.symm)]; simp [hki]
      have h2 : (((List.range ops.size).filter fun k => !listed.getD k true).filter (fun k => decide (k ≠ i))).length < ((List.range ops.size).filter fun k => !listed.getD k true).length := by
        rw [List.length_filter_lt_length_iff_exists]
        exact ⟨i, List.mem_filter.2 ⟨List.mem_range.2 hil, by simpa using hun⟩, by simp⟩
      rw [e1]; omega
    have hnext : ∀ (v : Value) (w'' : World), G v w'' → Below w'.heap.size w' w'' → GInv ops Gs a w0 (listed.setIfInBounds i true) (a'.put o.dst v) w'' := by
      intro v w'' hg hb
      have his : i < listed.size := by rw [inv.lsize]; exact hil
      refine ⟨below_trans0 inv.below inv.below.size hb, put_defers.trans inv.defers, put_size.trans inv.size, by simpa using inv.lsize, ?_, ?_, ?_⟩
      · intro t ht
        have hne : o.dst ≠ some t := fun e => by
          have := ht i o ho e
          simp [his] at this
        rw [getD_put_ne hne]
        refine inv.old t fun j oj hj hdst => ?_
        have hji : i ≠ j := fun e => hne (by subst e; rw [ho] at hj; cases hj; exact hdst)
        have := ht j oj hj hdst
        rwa [getD_set_ne true hji] at this
      · intro j oj hj hl e he hb2
        by_cases hji : i = j
        · subst hji
          rw [ho] at hj; cases hj
          exact getD_set_true (hpre e he hb2)
        · rw [getD_set_ne false hji] at hl
          exact getD_set_true (inv.closed j oj hj hl e he hb2)
      · intro j oj Gj t hj hGj hdst hl
        by_cases hji : i = j
        · subst hji
          rw [ho] at hj; cases hj
          rw [hG] at hGj; cases hGj
          rw [hdst, getD_put_same (by rw [inv.size]; exact hd i o t ho hdst)]
          exact hg
        · rw [getD_set_ne false hji] at hl
          have hne : o.dst ≠ some t := ((growB_spec hB ho).2 j oj t hj hdst).1 (fun e => hji e.symm)
          rw [getD_put_ne hne]
          exact (hok j oj Gj (by simpa using hj) hGj).1 _ _ _ (inv.told j oj Gj t hj hGj hdst hl) hb
    unfold wpOp
    simp only [ho]
    split
    · rename_i hw
      simp only [hw, if_true] at hstep
      left
      exact wp_of_false hstep fun a'' w'' ⟨v, e, hg, hb⟩ => by rw [e]; exact ih _ _ _ (hnext v w'' hg hb) hcnt
    · rename_i hw
      simp only [hw] at hstep
      exact ih _ _ _ (hnext undef w' hstep (Below.refl _ _)) hcnt

/-- The region, at a goal of the walk. -/
theorem wp_region_grow {id : Nat} {l : List Oper} {w : World} (hm : P.follows .mixedOrders = true) (hB : growB l.toArray = true) (hd : (l.all fun o => (o.dst.map fun t => decide (t < a.tmps.size)).getD true) = true)
    (h : GW P l.toArray Q a w.drew l []) : (Code.region id l.toArray true).wp P Q a w := by
  obtain ⟨Gs, hl, hs, hf⟩ := GW.specs l [] h
  refine wp_region_any hm (grow_any (w0 := w.drew) hB Gs (by simpa using hl) (by simpa using hs) (by simpa using hf) ?_ _ _ _ _ ?_ ?_)
  · intro j o t hj ht
    rw [List.all_eq_true] at hd
    have hmem : o ∈ l := by
      have : l[j]? = some o := by simpa using hj
      exact List.mem_of_getElem? this
    have := hd o hmem
    rw [ht] at this; simpa using this
  · refine ⟨Below.refl _ _, rfl, rfl, by simp, fun t _ => rfl, ?_, ?_⟩
    · intro j o hj hl; simp at hl
      rw [Array.getElem?_replicate] at hl; split at hl <;> simp at hl
    · intro j o G t hj hG ht hl; simp at hl
      rw [Array.getElem?_replicate] at hl; split at hl <;> simp at hl
  · exact Nat.le_trans (List.length_filter_le _ _) (by simp)
end
end Go.Proofs.Ytgcdeadfkljeaaa
