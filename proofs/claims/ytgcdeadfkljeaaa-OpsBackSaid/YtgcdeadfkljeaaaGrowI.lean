/- Drawn regions whose operations also change memory: an invariant that tells by flags what was done. -/
import Derived.Test.YtgcdeadfkljeaaaGrow2
namespace Go.Proofs.Ytgcdeadfkljeaaa
open Go.RowKit
set_option linter.unusedVariables false
set_option linter.unusedSimpArgs false

def MonoS (S : World → World → Prop) (G : Spec) : Prop := ∀ v w w', G v w → S w w' → G v w'
def setL (L : Nat → Bool) (k : Nat) : Nat → Bool := fun j => L j || j == k
def OpOkI (S : World → World → Prop) (I : (Nat → Bool) → World → Prop) (P : Program) (ops : Array Oper) (a : Act) (done : List (Nat × Spec)) (k : Nat) (o : Oper) (G : Spec) : Prop :=
  ∀ (a' : Act) (w' : World) (L : Nat → Bool), L k = false → (∀ e ∈ o.after, Region.binds .any e = true → L e.on = true) → I L w' → (∀ t ∈ o.looksAt ops, KnownAt done a a' w' t) →
    if Region.wanted o (yielded ops a'.tmps) then o.wp P a' w' (fun a'' w'' => ∃ v, a'' = a'.put o.dst v ∧ G v w'' ∧ S w' w'' ∧ I (setL L k) w'') (fun _ _ _ => False) else G undef w' ∧ S w' w' ∧ I (setL L k) w'
def GWI (S : World → World → Prop) (I : (Nat → Bool) → World → Prop) (P : Program) (ops : Array Oper) (Q : Exit → Act → World → Prop) (a : Act) : Nat → List Oper → List (Nat × Spec) → Prop
  | n, [], done => ∀ (vs : Nat → Value) (w' : World) (L : Nat → Bool), (∀ j, j < n → L j = true) → I L w' → AllS vs w' done → Q .normal (putAllS a vs done) w'
  | n, o :: rest, done => ∃ G, MonoS S G ∧ OpOkI S I P ops a done n o G ∧ GWI S I P ops Q a (n + 1) rest (consD o G done)

section
variable {S : World → World → Prop} {I : (Nat → Bool) → World → Prop} {P : Program} {ops : Array Oper} {Q : Exit → Act → World → Prop} {a : Act}

theorem GWI.specs : ∀ (l : List Oper) (n : Nat) (done : List (Nat × Spec)), GWI S I P ops Q a n l done →
    ∃ Gs : List Spec, Gs.length = l.length ∧ (∀ (k : Nat) (o : Oper) (G : Spec), l[k]? = some o → Gs[k]? = some G → MonoS S G ∧ OpOkI S I P ops a (mkD (l.take k) (Gs.take k) done) (n + k) o G) ∧
      (∀ (vs : Nat → Value) (w' : World) (L : Nat → Bool), (∀ j, j < n + l.length → L j = true) → I L w' → AllS vs w' (mkD l Gs done) → Q .normal (putAllS a vs (mkD l Gs done)) w')
  | [], n, done, h => ⟨[], rfl, fun k o G h => by simp at h, h⟩
  | o :: rest, n, done, h => by
    obtain ⟨G, hm, hok, hr⟩ := h
    obtain ⟨Gs, hl, hs, hf⟩ := GWI.specs rest (n + 1) (consD o G done) hr
    refine ⟨G :: Gs, by simp [hl], fun k o' G' h1 h2 => ?_, fun vs w' L hL => hf vs w' L (fun j hj => hL j (by simp; omega))⟩
    cases k with
    | zero => simp at h1 h2; subst h1 h2; exact ⟨hm, hok⟩
    | succ k =>
      simp at h1 h2
      have := hs k o' G' h1 h2
      rw [show n + 1 + k = n + (k + 1) by omega] at this
      exact this

structure GInvI (I : (Nat → Bool) → World → Prop) (ops : Array Oper) (Gs : List Spec) (a : Act) (listed : Array Bool) (a' : Act) (w' : World) : Prop where
  inv : I (fun j => listed.getD j false) w'
  defers : a'.defers = a.defers
  size : a'.tmps.size = a.tmps.size
  lsize : listed.size = ops.size
  old : ∀ t, (∀ (j : Nat) (o : Oper), ops[j]? = some o → o.dst = some t → listed.getD j true = false) → a'.tmps.getD t undef = a.tmps.getD t undef
  closed : ∀ (j : Nat) (o : Oper), ops[j]? = some o → listed.getD j false = true → ∀ e ∈ o.after, Region.binds .any e = true → listed.getD e.on false = true
  told : ∀ (j : Nat) (o : Oper) (G : Spec) (t : Nat), ops[j]? = some o → Gs[j]? = some G → o.dst = some t → listed.getD j false = true → G (a'.tmps.getD t undef) w'

theorem growI_any (hB : growB ops = true) (Gs : List Spec) (hGl : Gs.length = ops.toList.length)
    (hok : ∀ (k : Nat) (o : Oper) (G : Spec), ops.toList[k]? = some o → Gs[k]? = some G → MonoS S G ∧ OpOkI S I P ops a (mkD (ops.toList.take k) (Gs.take k) []) k o G)
    (hfin : ∀ (vs : Nat → Value) (w' : World) (L : Nat → Bool), (∀ j, j < ops.size → L j = true) → I L w' → AllS vs w' (mkD ops.toList Gs []) → Q .normal (putAllS a vs (mkD ops.toList Gs [])) w')
    (hd : ∀ (j : Nat) (o : Oper) (t : Nat), ops[j]? = some o → o.dst = some t → t < a.tmps.size) :
    ∀ (fuel : Nat) (listed : Array Bool) (a' : Act) (w' : World), GInvI I ops Gs a listed a' w' → ((List.range ops.size).filter fun i => !listed.getD i true).length ≤ fuel → wpAny P .any ops Q fuel listed a' w' := by
  -- where all is listed
  have done : ∀ (listed : Array Bool) (a' : Act) (w' : World), GInvI I ops Gs a listed a' w' → (∀ i, i < ops.size → listed.getD i true = true) → Q .normal a' w' := by
    intro listed a' w' inv hall
    have hall2 : ∀ i, i < ops.size → listed.getD i false = true := fun i hi => by
      have := hall i hi
      have hs : i < listed.size := by rw [inv.lsize]; exact hi
      simp [hs] at this ⊢; exact this
    have e : a' = putAllS a (fun t => a'.tmps.getD t undef) (mkD ops.toList Gs []) := by
      obtain ⟨tm, df⟩ := a'
      have h1 : df = a.defers := inv.defers
      have h2 := putAllS_defers a (fun t => tm.getD t undef) (mkD ops.toList Gs [])
      have h3 : tm = (putAllS a (fun t => tm.getD t undef) (mkD ops.toList Gs [])).tmps := by
        apply Array.ext_getElem?
        intro t
        have hsz : tm.size = a.tmps.size := inv.size
        by_cases ht : t < a.tmps.size
        · rw [putAllS_get _ _ _ _ ht]
          have hg : tm[t]? = some (tm.getD t undef) := by simp [show t < tm.size by omega]
          rw [hg]
          by_cases hm : t ∈ (mkD ops.toList Gs []).map (·.1)
          · rw [if_pos hm]
          · rw [if_neg hm]
            congr 1
            refine inv.old t fun j o hj hdst => ?_
            exfalso
            apply hm
            rcases lookup_mkD ops.toList Gs [] t hGl (fun i j oi oj hi hj h1 h2 => by
              by_cases hij : j = i
              · exact hij.symm
              · exact absurd h1 (((growB_spec hB (i := i) (o := oi) (by simpa using hi)).2 j oj t (by simpa using hj) h2).1 hij)) with ⟨hn, _⟩ | ⟨j', o', G', hj1, hj2, hj3, hj4⟩
            · exact absurd hdst (hn j o (by simpa using hj))
            · have : (mkD ops.toList Gs []).lookup t ≠ none := by rw [hj4]; simp
              rw [List.mem_map]
              by_cases hex : ∃ p ∈ mkD ops.toList Gs [], p.1 = t
              · exact hex
              · exfalso
                apply this
                rw [List.lookup_eq_none_iff]
                intro p hp
                simp
                intro e
                exact hex ⟨p, hp, e.symm⟩
        · rw [Array.getElem?_eq_none (by omega), Array.getElem?_eq_none (by rw [putAllS_size]; omega)]
      show Act.mk tm df = _
      generalize putAllS a (fun t => tm.getD t undef) (mkD ops.toList Gs []) = q at h2 h3 ⊢
      obtain ⟨qt, qd⟩ := q
      simp only at h2 h3
      rw [h1, ← h2]
      simp only [Act.mk.injEq, and_true]
      exact h3
    rw [e]
    refine hfin _ w' _ hall2 inv.inv ((AllS_iff _).2 fun p hp => ?_)
    rcases mem_mkD _ _ _ _ hp with h | ⟨j, o, h1, h2, h3⟩
    · cases h
    · have hj : ops[j]? = some o := by simpa using h1
      exact inv.told j o p.2 p.1 hj h2 h3 (hall2 j (Array.getElem?_eq_some_iff.1 hj).1)
  -- where none is ready, all is listed
  have ready0 : ∀ (listed : Array Bool), listed.size = ops.size → Region.ready .any ops listed = [] → ∀ i, i < ops.size → listed.getD i true = true := by
    intro listed hls hr i
    induction i using Nat.strongRecOn with
    | _ i ih =>
      intro hi
      by_cases hl : listed.getD i true = true
      · exact hl
      · exfalso
        have hmem : i ∈ Region.ready .any ops listed := by
          refine mem_ready.2 ⟨by simpa using hl, ops[i], by simp [hi], fun e he hb => ?_⟩
          have hlt := (growB_spec hB (i := i) (o := ops[i]) (by simp [hi])).1 e he hb
          have := ih e.on hlt (by omega)
          have hs : e.on < listed.size := by omega
          simp [hs] at this ⊢; exact this
        rw [hr] at hmem; cases hmem
  intro fuel
  induction fuel with
  | zero =>
    intro listed a' w' inv hc
    have hnone : (List.range ops.size).filter (fun i => !listed.getD i true) = [] := List.eq_nil_of_length_eq_zero (by omega)
    have hall : ∀ i, i < ops.size → listed.getD i true = true := fun i hi => by
      by_cases hl : listed.getD i true = true
      · exact hl
      · have : i ∈ (List.range ops.size).filter (fun i => !listed.getD i true) := List.mem_filter.2 ⟨List.mem_range.2 hi, by simpa using hl⟩
        rw [hnone] at this; cases this
    refine ⟨?_, done listed a' w' inv hall⟩
    cases hr : Region.ready .any ops listed with
    | nil => rfl
    | cons i r =>
      have hm : i ∈ Region.ready .any ops listed := by rw [hr]; exact List.mem_cons_self
      obtain ⟨h0, o, ho, _⟩ := mem_ready.1 hm
      rw [hall i (Array.getElem?_eq_some_iff.1 ho).1] at h0; cases h0
  | succ fuel ih =>
    intro listed a' w' inv hc
    refine ⟨fun h0 => done listed a' w' inv (ready0 listed inv.lsize h0), fun i hi => ?_⟩
    obtain ⟨hun, o, ho, hpre⟩ := mem_ready.1 hi
    have hil := (Array.getElem?_eq_some_iff.1 ho).1
    obtain ⟨G, hG⟩ : ∃ G, Gs[i]? = some G := ⟨Gs[i]'(by rw [hGl]; simpa using hil), by simp⟩
    obtain ⟨hmono, hop⟩ := hok i o G (by simpa using ho) hG
    have hknow : ∀ t ∈ o.looksAt ops, KnownAt (mkD (ops.toList.take i) (Gs.take i) []) a a' w' t := by
      intro t ht
      have huniq : ∀ (x y : Nat) (ox oy : Oper), (ops.toList.take i)[x]? = some ox → (ops.toList.take i)[y]? = some oy → ox.dst = some t → oy.dst = some t → x = y := by
        intro x y ox oy hx hy h1 h2
        have hx' : ops[x]? = some ox := by
          rw [List.getElem?_take] at hx; split at hx; simpa using hx; cases hx
        have hy' : ops[y]? = some oy := by
          rw [List.getElem?_take] at hy; split at hy; simpa using hy; cases hy
        by_cases hxy : y = x
        · exact hxy.symm
        · exact absurd h1 (((growB_spec hB hx').2 y oy t hy' h2).1 hxy)
      unfold KnownAt
      rcases lookup_mkD (ops.toList.take i) (Gs.take i) [] t (by rw [List.length_take, List.length_take, hGl]) huniq with ⟨hn, hk⟩ | ⟨j, oj, Gj, h1, h2, h3, h4⟩
      · rw [hk]
        show a'.tmps.getD t undef = a.tmps.getD t undef
        refine inv.old t fun j oj hj hdst => ?_
        rcases ((growB_spec hB ho).2 j oj t hj hdst).2 ht with ⟨hlt, _⟩ | ⟨hlt, e, he, hb, heq⟩
        · exact absurd hdst (hn j oj (by rw [List.getElem?_take, if_pos hlt]; simpa using hj))
        · -- j waits for i, which isn't listed
          by_cases hjl : listed.getD j true = true
          · exfalso
            have hjs : j < listed.size := by rw [inv.lsize]; exact (Array.getElem?_eq_some_iff.1 hj).1
            have hjl2 : listed.getD j false = true := by simp [hjs] at hjl ⊢; exact hjl
            have := inv.closed j oj hj hjl2 e he hb
            rw [heq] at this
            have his : i < listed.size := by rw [inv.lsize]; exact hil
            simp [his] at hun this
            rw [hun] at this; cases this
          · simpa using hjl
      · rw [h4]
        have hji : j < i := by
          rw [List.getElem?_take] at h1; split at h1; assumption; cases h1
        have hj : ops[j]? = some oj := by
          rw [List.getElem?_take, if_pos hji] at h1; simpa using h1
        have hGj : Gs[j]? = some Gj := by
          rw [List.getElem?_take, if_pos hji] at h2; exact h2
        refine inv.told j oj Gj t hj hGj h3 ?_
        rcases ((growB_spec hB ho).2 j oj t hj h3).2 ht with ⟨_, e, he, hb, heq⟩ | ⟨hlt, _⟩
        · rw [← heq]; exact hpre e he hb
        · omega
    have hunF : listed.getD i false = false := by
      have his : i < listed.size := by rw [inv.lsize]; exact hil
      simp [his] at hun ⊢; exact hun
    have hstep := hop a' w' _ hunF (fun e he hb => hpre e he hb) inv.inv hknow
    have hL : setL (fun j => listed.getD j false) i = fun j => (listed.setIfInBounds i true).getD j false := by
      funext j
      have his : i < listed.size := by rw [inv.lsize]; exact hil
      unfold setL
      by_cases hji : i = j
      · subst hji; simp [his]
      · rw [getD_set_ne false hji]; simp [show (j == i) = false by simpa using fun e => hji e.symm]
    rw [hL] at hstep
    have hcnt : ((List.range ops.size).filter fun k => !(listed.setIfInBounds i true).getD k true).length ≤ fuel := by
      have e1 : ((List.range ops.size).filter fun k => !(listed.setIfInBounds i true).getD k true) = ((List.range ops.size).filter fun k => !listed.getD k true).filter (fun k => decide (k ≠ i)) := by
        rw [List.filter_filter]
        apply List.filter_congr
        intro k hk
        by_cases hki : k = i
        · subst hki
          have : k < listed.size := by rw [inv.lsize]; exact hil
          simp [this]
        · rw [getD_set_ne true (fun e => hki e.symm)]; simp [hki]
      have h2 : (((List.range ops.size).filter fun k => !listed.getD k true).filter (fun k => decide (k ≠ i))).length < ((List.range ops.size).filter fun k => !listed.getD k true).length := by
        rw [List.length_filter_lt_length_iff_exists]
        exact ⟨i, List.mem_filter.2 ⟨List.mem_range.2 hil, by simpa using hun⟩, by simp⟩
      rw [e1]; omega
    have hnext : ∀ (v : Value) (w'' : World), G v w'' → S w' w'' → I (fun j => (listed.setIfInBounds i true).getD j false) w'' → GInvI I ops Gs a (listed.setIfInBounds i true) (a'.put o.dst v) w'' := by
      intro v w'' hg hb hI
      have his : i < listed.size := by rw [inv.lsize]; exact hil
      refine ⟨hI, put_defers.trans inv.defers, put_size.trans inv.size, by simpa using inv.lsize, ?_, ?_, ?_⟩
      · intro t ht
        have hne : o.dst ≠ some t := fun e => by
          have := ht i o ho e
          simp [his] at this
        rw [getD_put_ne hne]
        refine inv.old t fun j oj hj hdst => ?_
        have hji : i ≠ j := fun e => hne (by subst e; rw [ho] at hj; cases hj; exact hdst)
        have := ht j oj hj hdst
        rwa [getD_set_ne true hji] at this
      · intro j oj hj hl e he hb2
        by_cases hji : i = j
        · subst hji
          rw [ho] at hj; cases hj
          exact getD_set_true (hpre e he hb2)
        · rw [getD_set_ne false hji] at hl
          exact getD_set_true (inv.closed j oj hj hl e he hb2)
      · intro j oj Gj t hj hGj hdst hl
        by_cases hji : i = j
        · subst hji
          rw [ho] at hj; cases hj
          rw [hG] at hGj; cases hGj
          rw [hdst, getD_put_same (by rw [inv.size]; exact hd i o t ho hdst)]
          exact hg
        · rw [getD_set_ne false hji] at hl
          have hne : o.dst ≠ some t := ((growB_spec hB ho).2 j oj t hj hdst).1 (fun e => hji e.symm)
          rw [getD_put_ne hne]
          exact (hok j oj Gj (by simpa using hj) hGj).1 _ _ _ (inv.told j oj Gj t hj hGj hdst hl) hb
    unfold wpOp
    simp only [ho]
    split
    · rename_i hw
      simp only [hw, if_true] at hstep
      left
      exact wp_of_false hstep fun a'' w'' ⟨v, e, hg, hb, hI⟩ => by rw [e]; exact ih _ _ _ (hnext v w'' hg hb hI) hcnt
    · rename_i hw
      simp only [hw] at hstep
      exact ih _ _ _ (hnext undef w' hstep.1 hstep.2.1 hstep.2.2) hcnt

/-- The region, at a goal of the walk. -/
theorem wp_region_growI (S : World → World → Prop) (I : (Nat → Bool) → World → Prop) {id : Nat} {l : List Oper} {w : World} (hm : P.follows .mixedOrders = true) (hB : growB l.toArray = true) (hd : (l.all fun o => (o.dst.map fun t => decide (t < a.tmps.size)).getD true) = true)
    (hI : I (fun _ => false) w.drew)
    (h : GWI S I P l.toArray Q a 0 l []) : (Code.region id l.toArray true).wp P Q a w := by
  obtain ⟨Gs, hl, hs, hf⟩ := GWI.specs l 0 [] h
  refine wp_region_any hm (growI_any (S := S) (I := I) hB Gs (by simpa using hl) (by simpa using hs) (by simpa using hf) ?_ _ _ _ _ ?_ ?_)
  · intro j o t hj ht
    rw [List.all_eq_true] at hd
    have hmem : o ∈ l := by
      have : l[j]? = some o := by simpa using hj
      exact List.mem_of_getElem? this
    have := hd o hmem
    rw [ht] at this; simpa using this
  · refine ⟨?_, rfl, rfl, by simp, fun t _ => rfl, ?_, ?_⟩
    · have : (fun j => (Array.replicate l.toArray.size false).getD j false) = fun _ => false := by
        funext j
        simp [Array.getD]
      rw [this]; exact hI
    · intro j o hj hl; simp at hl
      rw [Array.getElem?_replicate] at hl; split at hl <;> simp at hl
    · intro j o G t hj hG ht hl; simp at hl
      rw [Array.getElem?_replicate] at hl; split at hl <;> simp at hl
  · exact Nat.le_trans (List.length_filter_le _ _) (by simp)
end
end Go.Proofs.Ytgcdeadfkljeaaa
/- Steps of a drawn region with an invariant. -/
namespace Go.Proofs.Ytgcdeadfkljeaaa
open Go.RowKit
set_option linter.unusedVariables false
set_option linter.unusedSimpArgs false
section
variable {S : World → World → Prop} {I : (Nat → Bool) → World → Prop} {P : Program} {ops : Array Oper} {Q : Exit → Act → World → Prop} {a : Act} {o : Oper} {rest : List Oper} {done : List (Nat × Spec)} {k : Nat}
theorem monoS_eq (V : Value) : MonoS S (fun v _ => v = V) := fun _ _ _ h _ => h
/-- An operation whose value is told outright, and that leaves the world alone. -/
theorem gi_val (V : Value) (hS : ∀ w, S w w) (hI : ∀ (L : Nat → Bool) (w' : World), L k = false → I L w' → I (setL L k) w')
    (h1 : ∀ (a' : Act) (w' : World) (L : Nat → Bool), L k = false → (∀ e ∈ o.after, Region.binds .any e = true → L e.on = true) → I L w' → (∀ t ∈ o.looksAt ops, KnownAt done a a' w' t) → Region.wanted o (yielded ops a'.tmps) = true ∧ (execOp a'.eval o).run P w' = .ok (.value V) w')
    (h : GWI S I P ops Q a (k + 1) rest (consD o (fun v _ => v = V) done)) : GWI S I P ops Q a k (o :: rest) done := by
  refine ⟨_, monoS_eq V, fun a' w' L hL haf hi hk => ?_, h⟩
  obtain ⟨h2, h3⟩ := h1 a' w' L hL haf hi hk
  rw [if_pos h2]
  unfold Oper.wp
  rw [h3]
  exact ⟨V, rfl, rfl, hS _, hI _ _ hL hi⟩
/-- An operation that its guard leaves out. -/
theorem gi_skip (hS : ∀ w, S w w) (hI : ∀ (L : Nat → Bool) (w' : World), L k = false → I L w' → I (setL L k) w')
    (h1 : ∀ (a' : Act) (w' : World), (∀ t ∈ o.looksAt ops, KnownAt done a a' w' t) → Region.wanted o (yielded ops a'.tmps) = false)
    (h : GWI S I P ops Q a (k + 1) rest (consD o (fun v _ => v = undef) done)) : GWI S I P ops Q a k (o :: rest) done := by
  refine ⟨_, monoS_eq undef, fun a' w' L hL haf hi hk => ?_, h⟩
  rw [if_neg (by rw [h1 a' w' hk]; simp)]
  exact ⟨rfl, hS _, hI _ _ hL hi⟩
/-- A call. -/
theorem gi_call (f : FuncId) (args : Array Value) (G : Spec) (hm : MonoS S G) (h1 : ∀ (a' : Act) (w' : World), (∀ t ∈ o.looksAt ops, KnownAt done a a' w' t) → Region.wanted o (yielded ops a'.tmps) = true ∧ (execOp a'.eval o).run P w' = .ok (.enter f args) w')
    (hc : ∀ (w' : World) (L : Nat → Bool), L k = false → (∀ e ∈ o.after, Region.binds .any e = true → L e.on = true) → I L w' → Calls P f args w' fun e w'' => ∃ v, e = .returned v ∧ G v w'' ∧ S w' w'' ∧ I (setL L k) w'')
    (h : GWI S I P ops Q a (k + 1) rest (consD o G done)) : GWI S I P ops Q a k (o :: rest) done := by
  refine ⟨G, hm, fun a' w' L hL haf hi hk => ?_, h⟩
  obtain ⟨h2, h3⟩ := h1 a' w' hk
  rw [if_pos h2]
  unfold Oper.wp
  rw [h3]
  simp only [Oper.upon]
  refine (hc w' L hL haf hi).mono ?_
  rintro e w'' ⟨v, rfl, hg, hs, hii⟩
  exact ⟨v, rfl, hg, hs, hii⟩
/-- string(t), t a slice that reads as L. -/
theorem gi_str {T Sg e : TypeId} (hs : P.underlying T = some (.slice e)) (he : P.underlying e = some (.int .u8)) (hd : P.underlying Sg = some .string) (t : Nat) (l : List UInt8)
    (hS : ∀ w, S w w) (hI : ∀ (L : Nat → Bool) (w' : World), L k = false → I L w' → I (setL L k) w')
    (ho : o.op = .convert T Sg (.tmp t)) (ht : ∀ (a' : Act) (w' : World) (L : Nat → Bool), I L w' → (∀ t ∈ o.looksAt ops, KnownAt done a a' w' t) → Region.wanted o (yielded ops a'.tmps) = true ∧ BytesG l (a'.tmps.getD t undef) w')
    (h : GWI S I P ops Q a (k + 1) rest (consD o (fun v _ => v = .string (strOf l)) done)) : GWI S I P ops Q a k (o :: rest) done := by
  refine ⟨_, monoS_eq _, fun a' w' L hL haf hi hk => ?_, h⟩
  obtain ⟨h2, p, n, c, h3, h4, h5⟩ := ht a' w' L hi hk
  rw [if_pos h2]
  have hrun : (execOp a'.eval o).run P w' = .ok (.value (.string (strOf l))) w' := by
    have := conv_str (P := P) hs he hd c h4 h5
    have e1 : a'.eval (.tmp t) = .slice p n c := h3
    simp [execOp, ho, e1, this]
  unfold Oper.wp
  rw [hrun]
  exact ⟨_, rfl, rfl, hS _, hI _ _ hL hi⟩
/-- What a store leaves of the rest. -/
theorem setL_ne {L : Nat → Bool} {k j : Nat} (h : j ≠ k) : setL L k j = L j := by simp [setL, h]
theorem setL_same {L : Nat → Bool} {k : Nat} : setL L k k = true := by simp [setL]
end
end Go.Proofs.Ytgcdeadfkljeaaa
/- From a list of one operation to the operation. -/
namespace Go.Proofs.Ytgcdeadfkljeaaa
open Go.RowKit
set_option linter.unusedVariables false
set_option linter.unusedSimpArgs false
theorem wp_of_list {P : Program} {ops : Array Oper} {o : Oper} {a : Act} {w : World} {K : Act → World → Prop} (hg : o.guard = none)
    (h : wpList P ops (fun e a w => e = .normal ∧ K a w) [o] a w) : o.wp P a w K (fun _ _ _ => False) := by
  unfold wpList at h
  simp only [Region.wanted, hg, if_true] at h
  rcases h with h | ⟨_, h⟩
  · unfold Oper.wp at *
    generalize (execOp a.eval o).run P w = r at *
    cases r with
    | ok n w'' =>
      cases n <;> simp only [Oper.upon] at h ⊢
      case enter f args =>
        refine h.mono ?_
        intro e w3 he
        cases e with
        | returned v => exact he.2
        | panicked c => exact absurd he.1 (by simp)
        | outgrown =>
          obtain ⟨_, _, hf⟩ := he
          exact absurd hf.1 (by simp)
      case row r args => exact h.mono fun _ _ he => he.2
      all_goals exact h.2
    | halt x w'' => cases x <;> simp only [Oper.upon] at h <;> exact absurd h.1 (by simp)
  · obtain ⟨a', w', hf⟩ := h
    exact absurd hf.1 (by simp)
end Go.Proofs.Ytgcdeadfkljeaaa
/- append in a drawn region, onto a slice without room. -/
namespace Go.Proofs.Ytgcdeadfkljeaaa
open Go.RowKit
set_option linter.unusedVariables false
set_option linter.unusedSimpArgs false
section
variable {P : Program} {w : World} {α : Type} {E : α → Value} {T e : TypeId} {z : Value} {bytes : Nat}
theorem run_append_full (hT : SlT P T e z 1 bytes) (ty : TypeId) {p : Option Addr} {n : Nat} {l : List α} (hl : l.length = n) (hr : Rd w E p l)
    {q : Option Addr} {m d : Nat} {k : List α} (hk : k.length = m) (hq : Rd w E q k) (hlen : (n + m) * bytes ≤ 140737488355328) (hlen2 : n + m ≤ maxLen) :
    ∃ p' c' w', (Builtin.append_ #[T, T] ty #[.slice p n n, .slice q m d]).run P w = .ok (.slice p' (n + m) c') w' ∧ Rd w' E p' (l ++ k) ∧ Below w.heap.size w w' := by
  obtain ⟨ti, hti, hz0, hz2, hz3⟩ := info_parts hT.info
  by_cases hm : m = 0
  · subst hm
    have hk0 : k = [] := List.eq_nil_of_length_eq_zero hk
    subst hk0
    refine ⟨p, n, w, ?_, by simpa using hr, Below.refl _ _⟩
    have hf : ∀ (b : Option Addr) (d : Nat) (w : World), (Builtin.firstCells ti.size 0 (.slice b 0 d)).run P w = .ok #[] w := by
      intro b d w
      cases b with
      | none => exact run_firstCells_none w ti.size 0 0 d
      | some b => exact run_firstCells_some w ti.size 0 b 0 d [] (by simp) (by simp)
    cases p with
    | none => simp [Builtin.append_, run_underlying hT.under, sizeOf, typeInfo, hti, Builtin.lenOf, hf]
    | some b => simp [Builtin.append_, run_underlying hT.under, sizeOf, typeInfo, hti, Builtin.lenOf, hf, storeCells]
  · have hmax := hlen2
    unfold maxLen at hlen2
    have hold : (Builtin.firstCells ti.size n (.slice p n n)).run P w.drew = .ok (l.map E).toArray w.drew := by
      rw [hz2]; exact firstCells_rd (P := P) (w := w.drew) (c := n) hl hr.drew
    have hnew : (Builtin.firstCells ti.size m (.slice q m d)).run P w.drew = .ok (k.map E).toArray w.drew := by
      rw [hz2]; exact firstCells_rd (P := P) (w := w.drew) (c := d) hk hq.drew
    have hn : ¬ (n + m ≤ n) := by omega
    have h63 : ¬ (9223372036854775807 < ((n : Int) + (m : Int))) := by omega
    have hfit : ¬ (281474976710656 < Builtin.nextslicecap (n + m) n * ti.bytes) := by
      have := growslice_fits (need := n + m) (old := n) (bytes := ti.bytes) (by omega) (by rw [hz3]; exact hlen)
      omega
    refine ⟨some ⟨w.heap.size, 0, none⟩, grownCap w (n + m) n e, (w.drew.alloc (.cells ((l.map E).toArray ++ (k.map E).toArray ++ Builtin.zeroCells z.cells (grownCap w (n + m) n e - (n + m))) e)), ?_, ?_, ?_⟩
    · simp [Builtin.append_, run_underlying hT.under, sizeOf, typeInfo, zeroValue, hti, hz0, Builtin.lenOf, hn, h63, hfit, Question.forced, hold, hnew, newRow, grownCap, hm]
      rw [← List.append_toArray, Array.append_assoc]
    · refine .inr ⟨_, _, rfl, fun j x hj => ?_⟩
      have hg : (w.drew.alloc (.cells ((l.map E).toArray ++ (k.map E).toArray ++ Builtin.zeroCells z.cells (grownCap w (n + m) n e - (n + m))) e)).heap[w.heap.size]? = some (.cells ((l.map E).toArray ++ (k.map E).toArray ++ Builtin.zeroCells z.cells (grownCap w (n + m) n e - (n + m))) e (0, 0)) := heap_alloc_new w.drew _
      rw [Nat.zero_add, cell_of_row _ _ j _ e _ hg]
      have hjl : j < (l ++ k).length := (List.getElem?_eq_some_iff.1 hj).1
      rw [List.length_append] at hjl
      rw [Array.getElem?_append_left (by simp; omega)]
      rw [← Array.getElem?_toList, Array.toList_append, ← List.map_append, List.getElem?_map, hj]
      rfl
    · have hb : Below w.heap.size w w.drew := (Below.refl _ _).drew
      exact hb.alloc (by simp) _
end
/-- A slice that reads as L. -/
def SliceG {α : Type} (E : α → Value) (L : List α) : Spec := fun v w => ∃ a n c, v = .slice a n c ∧ L.length = n ∧ Rd w E a L
theorem mono_slice {α : Type} (E : α → Value) (L : List α) : Mono (SliceG E L) := fun v w w' ⟨a, n, c, h1, h2, h3⟩ hb => ⟨a, n, c, h1, h2, h3.below hb⟩
section
variable {P : Program} {ops : Array Oper} {Q : Exit → Act → World → Prop} {a : Act} {w0 : World} {o : Oper} {rest : List Oper} {done : List (Nat × Spec)} {α : Type} {E : α → Value} {T e : TypeId} {z : Value} {bytes : Nat}
/-- append(s, x..), s without room. -/
theorem gw_append (hT : SlT P T e z 1 bytes) (s x : Operand) (l k : List α) (ho : o.op = .call { callee := .builtin .append, args := #[s, x], argTypes := #[T, T] })
    (hlen : (l.length + k.length) * bytes ≤ 140737488355328) (hlen2 : l.length + k.length ≤ maxLen)
    (h1 : ∀ (a' : Act) (w' : World), Below w0.heap.size w0 w' → (∀ t ∈ o.looksAt ops, KnownAt done a a' w' t) → Region.wanted o (yielded ops a'.tmps) = true ∧ (∃ p, a'.eval s = .slice p l.length l.length ∧ Rd w' E p l) ∧ SliceG E k (a'.eval x) w')
    (h : GW P ops Q a w0 rest (consD o (SliceG E (l ++ k)) done)) : GW P ops Q a w0 (o :: rest) done := by
  refine ⟨_, mono_slice E (l ++ k), fun a' w' hb hk => ?_, h⟩
  obtain ⟨h2, ⟨p, h3, h4⟩, q, m, d, h5, h6, h7⟩ := h1 a' w' hb hk
  rw [if_pos h2]
  subst h6
  obtain ⟨p', c', w'', hrun, hrd, hB⟩ := run_append_full (P := P) hT o.type rfl h4 rfl h7 hlen hlen2 (d := d)
  unfold Oper.wp
  simp [execOp, ho, resolve, invoke, builtin, h3, h5, hrun, Result.andThen, Oper.upon]
  exact ⟨_, rfl, ⟨p', _, c', rfl, by simp, hrd⟩, hB⟩
/-- An operation that reads the world; its value by a spec. -/
theorem gw_valB (G : Spec) (hm : Mono G) (h1 : ∀ (a' : Act) (w' : World), Below w0.heap.size w0 w' → (∀ t ∈ o.looksAt ops, KnownAt done a a' w' t) → Region.wanted o (yielded ops a'.tmps) = true ∧ ∃ V, (execOp a'.eval o).run P w' = .ok (.value V) w' ∧ G V w')
    (h : GW P ops Q a w0 rest (consD o G done)) : GW P ops Q a w0 (o :: rest) done := by
  refine ⟨G, hm, fun a' w' hb hk => ?_, h⟩
  obtain ⟨h2, V, h3, h4⟩ := h1 a' w' hb hk
  rw [if_pos h2]
  unfold Oper.wp
  rw [h3]
  exact ⟨V, rfl, h4, Below.refl _ _⟩
/-- A composite literal without elements. -/
theorem gw_make0 {t e' : TypeId} (ho : o.op = .buildSlice t 0 #[]) (hg : o.guard = none)
    (hrun : ∀ (a' : Act) (w' : World), (execOp a'.eval o).run P w' = .ok (.value (.slice (some ⟨w'.heap.size, 0, none⟩) 0 0)) (w'.alloc (.cells #[] e')))
    (h : GW P ops Q a w0 rest (consD o (fun v _ => ∃ b, v = .slice (some ⟨b, 0, none⟩) 0 0) done)) : GW P ops Q a w0 (o :: rest) done := by
  refine ⟨_, fun v w w' h _ => h, fun a' w' hb hk => ?_, h⟩
  rw [if_pos (by simp [Region.wanted, hg])]
  unfold Oper.wp
  rw [hrun]
  exact ⟨_, rfl, ⟨_, rfl⟩, below_alloc _ _⟩
end
end Go.Proofs.Ytgcdeadfkljeaaa
/- Steps of a drawn region with an invariant: the general ones. -/
namespace Go.Proofs.Ytgcdeadfkljeaaa
open Go.RowKit
set_option linter.unusedVariables false
set_option linter.unusedSimpArgs false
section
variable {S : World → World → Prop} {I : (Nat → Bool) → World → Prop} {P : Program} {ops : Array Oper} {Q : Exit → Act → World → Prop} {a : Act} {o : Oper} {rest : List Oper} {done : List (Nat × Spec)} {k : Nat}
/-- An operation that leaves the world alone; its value by a spec. -/
theorem gi_valX (G : Spec) (hm : MonoS S G) (hS : ∀ w, S w w) (hI : ∀ (L : Nat → Bool) (w' : World), L k = false → I L w' → I (setL L k) w')
    (h1 : ∀ (a' : Act) (w' : World) (L : Nat → Bool), L k = false → (∀ e ∈ o.after, Region.binds .any e = true → L e.on = true) → I L w' → (∀ t ∈ o.looksAt ops, KnownAt done a a' w' t) → Region.wanted o (yielded ops a'.tmps) = true ∧ ∃ V, (execOp a'.eval o).run P w' = .ok (.value V) w' ∧ G V w')
    (h : GWI S I P ops Q a (k + 1) rest (consD o G done)) : GWI S I P ops Q a k (o :: rest) done := by
  refine ⟨G, hm, fun a' w' L hL haf hi hk => ?_, h⟩
  obtain ⟨h2, V, h3, h4⟩ := h1 a' w' L hL haf hi hk
  rw [if_pos h2]
  unfold Oper.wp
  rw [h3]
  exact ⟨V, rfl, h4, hS _, hI _ _ hL hi⟩
/-- A call whose arguments are known by a law. -/
theorem gi_callX (f : FuncId) (A : Array Value → World → Prop) (G : Spec) (hm : MonoS S G)
    (h1 : ∀ (a' : Act) (w' : World) (L : Nat → Bool), L k = false → (∀ e ∈ o.after, Region.binds .any e = true → L e.on = true) → I L w' → (∀ t ∈ o.looksAt ops, KnownAt done a a' w' t) → Region.wanted o (yielded ops a'.tmps) = true ∧ ∃ args, A args w' ∧ (execOp a'.eval o).run P w' = .ok (.enter f args) w')
    (hc : ∀ (w' : World) (L : Nat → Bool) (args : Array Value), L k = false → (∀ e ∈ o.after, Region.binds .any e = true → L e.on = true) → I L w' → A args w' → Calls P f args w' fun e w'' => ∃ v, e = .returned v ∧ G v w'' ∧ S w' w'' ∧ I (setL L k) w'')
    (h : GWI S I P ops Q a (k + 1) rest (consD o G done)) : GWI S I P ops Q a k (o :: rest) done := by
  refine ⟨G, hm, fun a' w' L hL haf hi hk => ?_, h⟩
  obtain ⟨h2, args, hA, h3⟩ := h1 a' w' L hL haf hi hk
  rw [if_pos h2]
  unfold Oper.wp
  rw [h3]
  simp only [Oper.upon]
  refine (hc w' L args hL haf hi hA).mono ?_
  rintro e w'' ⟨v, rfl, hg, hs, hii⟩
  exact ⟨v, rfl, hg, hs, hii⟩
theorem known_of {done : List (Nat × Spec)} {a a' : Act} {w' : World} {t : Nat} {G : Spec} (h : KnownAt done a a' w' t) (hd : done.lookup t = some G) : G (a'.tmps.getD t undef) w' := by
  unfold KnownAt at h; rw [hd] at h; exact h
end
end Go.Proofs.Ytgcdeadfkljeaaa
