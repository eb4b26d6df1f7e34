/- Drawn regions whose operations also change memory: an invariant of flags, frame and world. -/
import Derived.Test.YtgcdeadfkljeaaaGrowI
namespace Go.Proofs.Ytgcdeadfkljeaaa
open Go.RowKit
set_option linter.unusedVariables false
set_option linter.unusedSimpArgs false

def OpOkA (S : World → World → Prop) (I : (Nat → Bool) → Act → World → Prop) (P : Program) (ops : Array Oper) (a : Act) (done : List (Nat × Spec)) (k : Nat) (o : Oper) (G : Spec) : Prop :=
  ∀ (a' : Act) (w' : World) (L : Nat → Bool), a'.tmps.size = a.tmps.size → L k = false → (∀ e ∈ o.after, Region.binds .any e = true → L e.on = true) → I L a' w' → (∀ t ∈ o.looksAt ops, KnownAt done a a' w' t) →
    if Region.wanted o (yielded ops a'.tmps) then o.wp P a' w' (fun a'' w'' => ∃ v, a'' = a'.put o.dst v ∧ G v w'' ∧ S w' w'' ∧ I (setL L k) a'' w'') (fun _ _ _ => False) else G undef w' ∧ S w' w' ∧ I (setL L k) (a'.put o.dst undef) w'
def GWA (S : World → World → Prop) (I : (Nat → Bool) → Act → World → Prop) (P : Program) (ops : Array Oper) (Q : Exit → Act → World → Prop) (a : Act) : Nat → List Oper → List (Nat × Spec) → Prop
  | n, [], done => ∀ (vs : Nat → Value) (w' : World) (L : Nat → Bool), (∀ j, j < n → L j = true) → I L (putAllS a vs done) w' → AllS vs w' done → Q .normal (putAllS a vs done) w'
  | n, o :: rest, done => ∃ G, MonoS S G ∧ OpOkA S I P ops a done n o G ∧ GWA S I P ops Q a (n + 1) rest (consD o G done)

section
variable {S : World → World → Prop} {I : (Nat → Bool) → Act → World → Prop} {P : Program} {ops : Array Oper} {Q : Exit → Act → World → Prop} {a : Act}

theorem GWA.specs : ∀ (l : List Oper) (n : Nat) (done : List (Nat × Spec)), GWA S I P ops Q a n l done →
    ∃ Gs : List Spec, Gs.length = l.length ∧ (∀ (k : Nat) (o : Oper) (G : Spec), l[k]? = some o → Gs[k]? = some G → MonoS S G ∧ OpOkA S I P ops a (mkD (l.take k) (Gs.take k) done) (n + k) o G) ∧
      (∀ (vs : Nat → Value) (w' : World) (L : Nat → Bool), (∀ j, j < n + l.length → L j = true) → I L (putAllS a vs (mkD l Gs done)) w' → AllS vs w' (mkD l Gs done) → Q .normal (putAllS a vs (mkD l Gs done)) w')
  | [], n, done, h => ⟨[], rfl, fun k o G h => by simp at h, h⟩
  | o :: rest, n, done, h => by
    obtain ⟨G, hm, hok, hr⟩ := h
    obtain ⟨Gs, hl, hs, hf⟩ := GWA.specs rest (n + 1) (consD o G done) hr
    refine ⟨G :: Gs, by simp [hl], fun k o' G' h1 h2 => ?_, fun vs w' L hL => hf vs w' L (fun j hj => hL j (by simp; omega))⟩
    cases k with
    | zero => simp at h1 h2; subst h1 h2; exact ⟨hm, hok⟩
    | succ k =>
      simp at h1 h2
      have := hs k o' G' h1 h2
      rw [show n + 1 + k = n + (k + 1) by omega] at this
      exact this

structure GInvA (I : (Nat → Bool) → Act → World → Prop) (ops : Array Oper) (Gs : List Spec) (a : Act) (listed : Array Bool) (a' : Act) (w' : World) : Prop where
  inv : I (fun j => listed.getD j false) a' w'
  defers : a'.defers = a.defers
  size : a'.tmps.size = a.tmps.size
  lsize : listed.size = ops.size
  old : ∀ t, (∀ (j : Nat) (o : Oper), ops[j]? = some o → o.dst = some t → listed.getD j true = false) → a'.tmps.getD t undef = a.tmps.getD t undef
  closed : ∀ (j : Nat) (o : Oper), ops[j]? = some o → listed.getD j false = true → ∀ e ∈ o.after, Region.binds .any e = true → listed.getD e.on false = true
  told : ∀ (j : Nat) (o : Oper) (G : Spec) (t : Nat), ops[j]? = some o → Gs[j]? = some G → o.dst = some t → listed.getD j false = true → G (a'.tmps.getD t undef) w'

theorem growA_any (hB : growB ops = true) (Gs : List Spec) (hGl : Gs.length = ops.toList.length)
    (hok : ∀ (k : Nat) (o : Oper) (G : Spec), ops.toList[k]? = some o → Gs[k]? = some G → MonoS S G ∧ OpOkA S I P ops a (mkD (ops.toList.take k) (Gs.take k) []) k o G)
    (hfin : ∀ (vs : Nat → Value) (w' : World) (L : Nat → Bool), (∀ j, j < ops.size → L j = true) → I L (putAllS a vs (mkD ops.toList Gs [])) w' → AllS vs w' (mkD ops.toList Gs []) → Q .normal (putAllS a vs (mkD ops.toList Gs [])) w')
    (hd : ∀ (j : Nat) (o : Oper) (t : Nat), ops[j]? = some o → o.dst = some t → t < a.tmps.size) :
    ∀ (fuel : Nat) (listed : Array Bool) (a' : Act) (w' : World), GInvA I ops Gs a listed a' w' → ((List.range ops.size).filter fun i => !listed.getD i true).length ≤ fuel → wpAny P .any ops Q fuel listed a' w' := by
  -- where all is listed
  have done : ∀ (listed : Array Bool) (a' : Act) (w' : World), GInvA I ops Gs a listed a' w' → (∀ i, i < ops.size → listed.getD i true = true) → Q .normal a' w' := by
    intro listed a' w' inv hall
    have hall2 : ∀ i, i < ops.size → listed.getD i false = true := fun i hi => by
      have := hall i hi
      have hs : i < listed.size := by rw [inv.lsize]; exact hi
      simp [hs] at this ⊢; exact this
    have e : a' = putAllS a (fun t => a'.tmps.getD t undef) (mkD ops.toList Gs []) := by
      obtain ⟨tm, df⟩ := a'
      have h1 : df = a.defers := inv.defers
      have h2 := putAllS_defers a (fun t => tm.getD t undef) (mkD ops.toList Gs [])
      have h3 : tm = (putAllS a (fun t => tm.getD t undef) (mkD ops.toList Gs [])).tmps := by
        apply Array.ext_getElem?
        intro t
        have hsz : tm.size = a.tmps.size := inv.size
        by_cases ht : t < a.tmps.size
        · rw [putAllS_get _ _ _ _ ht]
          have hg : tm[t]? = some (tm.getD t undef) := by simp [show t < tm.size by omega]
          rw [hg]
          by_cases hm : t ∈ (mkD ops.toList Gs []).map (·.1)
          · rw [if_pos hm]
          · rw [if_neg hm]
            congr 1
            refine inv.old t fun j o hj hdst => ?_
            exfalso
            apply hm
            rcases lookup_mkD ops.toList Gs [] t hGl (fun i j oi oj hi hj h1 h2 => by
              by_cases hij : j = i
              · exact hij.symm
              · exact absurd h1 (((growB_spec hB (i := i) (o := oi) (by simpa using hi)).2 j oj t (by simpa using hj) h2).1 hij)) with ⟨hn, _⟩ | ⟨j', o', G', hj1, hj2, hj3, hj4⟩
            · exact absurd hdst (hn j o (by simpa using hj))
            · have : (mkD ops.toList Gs []).lookup t ≠ none := by rw [hj4]; simp
              rw [List.mem_map]
              by_cases hex : ∃ p ∈ mkD ops.toList Gs [], p.1 = t
              · exact hex
              · exfalso
                apply this
                rw [List.lookup_eq_none_iff]
                intro p hp
                simp
                intro e
                exact hex ⟨p, hp, e.symm⟩
        · rw [Array.getElem?_eq_none (by omega), Array.getElem?_eq_none (by rw [putAllS_size]; omega)]
      show Act.mk tm df = _
      generalize putAllS a (fun t => tm.getD t undef) (mkD ops.toList Gs []) = q at h2 h3 ⊢
      obtain ⟨qt, qd⟩ := q
      simp only at h2 h3
      rw [h1, ← h2]
      simp only [Act.mk.injEq, and_true]
      exact h3
    have hI := inv.inv
    rw [e] at hI
    rw [e]
    refine hfin _ w' _ hall2 hI ((AllS_iff _).2 fun p hp => ?_)
    rcases mem_mkD _ _ _ _ hp with h | ⟨j, o, h1, h2, h3⟩
    · cases h
    · have hj : ops[j]? = some o := by simpa using h1
      exact inv.told j o p.2 p.1 hj h2 h3 (hall2 j (Array.getElem?_eq_some_iff.1 hj).1)
  -- where none is ready, all is listed
  have ready0 : ∀ (listed : Array Bool), listed.size = ops.size → Region.ready .any ops listed = [] → ∀ i, i < ops.size → listed.getD i true = true := by
    intro listed hls hr i
    induction i using Nat.strongRecOn with
    | _ i ih =>
      intro hi
      by_cases hl : listed.getD i true = true
      · exact hl
      · exfalso
        have hmem : i ∈ Region.ready .any ops listed := by
          refine mem_ready.2 ⟨by simpa using hl, ops[i], by simp [hi], fun e he hb => ?_⟩
          have hlt := (growB_spec hB (i := i) (o := ops[i]) (by simp [hi])).1 e he hb
          have := ih e.on hlt (by omega)
          have hs : e.on < listed.size := by omega
          simp [hs] at this ⊢; exact this
        rw [hr] at hmem; cases hmem
  intro fuel
  induction fuel with
  | zero =>
    intro listed a' w' inv hc
    have hnone : (List.range ops.size).filter (fun i => !listed.getD i true) = [] := List.eq_nil_of_length_eq_zero (by omega)
    have hall : ∀ i, i < ops.size → listed.getD i true = true := fun i hi => by
      by_cases hl : listed.getD i true = true
      · exact hl
      · have : i ∈ (List.range ops.size).filter (fun i => !listed.getD i true) := List.mem_filter.2 ⟨List.mem_range.2 hi, by simpa using hl⟩
        rw [hnone] at this; cases this
    refine ⟨?_, done listed a' w' inv hall⟩
    cases hr : Region.ready .any ops listed with
    | nil => rfl
    | cons i r =>
      have hm : i ∈ Region.ready .any ops listed := by rw [hr]; exact List.mem_cons_self
      obtain ⟨h0, o, ho, _⟩ := mem_ready.1 hm
      rw [hall i (Array.getElem?_eq_some_iff.1 ho).1] at h0; cases h0
  | succ fuel ih =>
    intro listed a' w' inv hc
    refine ⟨fun h0 => done listed a' w' inv (ready0 listed inv.lsize h0), fun i hi => ?_⟩
    obtain ⟨hun, o, ho, hpre⟩ := mem_ready.1 hi
    have hil := (Array.getElem?_eq_some_iff.1 ho).1
    obtain ⟨G, hG⟩ : ∃ G, Gs[i]? = some G := ⟨Gs[i]'(by rw [hGl]; simpa using hil), by simp⟩
    obtain ⟨hmono, hop⟩ := hok i o G (by simpa using ho) hG
    have hknow : ∀ t ∈ o.looksAt ops, KnownAt (mkD (ops.toList.take i) (Gs.take i) []) a a' w' t := by
      intro t ht
      have huniq : ∀ (x y : Nat) (ox oy : Oper), (ops.toList.take i)[x]? = some ox → (ops.toList.take i)[y]? = some oy → ox.dst = some t → oy.dst = some t → x = y := by
        intro x y ox oy hx hy h1 h2
        have hx' : ops[x]? = some ox := by
          rw [List.getElem?_take] at hx; split at hx; simpa using hx; cases hx
        have hy' : ops[y]? = some oy := by
          rw [List.getElem?_take] at hy; split at hy; simpa using hy; cases hy
        by_cases hxy : y = x
        · exact hxy.symm
        · exact absurd h1 (((growB_spec hB hx').2 y oy t hy' h2).1 hxy)
      unfold KnownAt
      rcases lookup_mkD (ops.toList.take i) (Gs.take i) [] t (by rw [List.length_take, List.length_take, hGl]) huniq with ⟨hn, hk⟩ | ⟨j, oj, Gj, h1, h2, h3, h4⟩
      · rw [hk]
        show a'.tmps.getD t undef = a.tmps.getD t undef
        refine inv.old t fun j oj hj hdst => ?_
        rcases ((growB_spec hB ho).2 j oj t hj hdst).2 ht with ⟨hlt, _⟩ | ⟨hlt, e, he, hb, heq⟩
        · exact absurd hdst (hn j oj (by rw [List.getElem?_take, if_pos hlt]; simpa using hj))
        · -- j waits for i, which isn't listed
          by_cases hjl : listed.getD j true = true
          · exfalso
            have hjs : j < listed.size := by rw [inv.lsize]; exact (Array.getElem?_eq_some_iff.1 hj).1
            have hjl2 : listed.getD j false = true := by simp [hjs] at hjl ⊢; exact hjl
            have := inv.closed j oj hj hjl2 e he hb
            rw [heq] at this
            have his : i < listed.size := by rw [inv.lsize]; exact hil
            simp [his] at hun this
            rw [hun] at this; cases this
          · simpa using hjl
      · rw [h4]
        have hji : j < i := by
          rw [List.getElem?_take] at h1; split at h1; assumption; cases h1
        have hj : ops[j]? = some oj := by
          rw [List.getElem?_take, if_pos hji] at h1; simpa using h1
        have hGj : Gs[j]? = some Gj := by
          rw [List.getElem?_take, if_pos hji] at h2; exact h2
        refine inv.told j oj Gj t hj hGj h3 ?_
        rcases ((growB_spec hB ho).2 j oj t hj h3).2 ht with ⟨_, e, he, hb, heq⟩ | ⟨hlt, _⟩
        · rw [← heq]; exact hpre e he hb
        · omega
    have hunF : listed.getD i false = false := by
      have his : i < listed.size := by rw [inv.lsize]; exact hil
      simp [his] at hun ⊢; exact hun
    have hstep := hop a' w' _ inv.size hunF (fun e he hb => hpre e he hb) inv.inv hknow
    have hL : setL (fun j => listed.getD j false) i = fun j => (listed.setIfInBounds i true).getD j false := by
      funext j
      have his : i < listed.size := by rw [inv.lsize]; exact hil
      unfold setL
      by_cases hji : i = j
      · subst hji; simp [his]
      · rw [getD_set_ne false hji]; simp [show (j == i) = false by simpa using fun e => hji e.symm]
    rw [hL] at hstep
    have hcnt : ((List.range ops.size).filter fun k => !(listed.setIfInBounds i true).getD k true).length ≤ fuel := by
      have e1 : ((List.range ops.size).filter fun k => !(listed.setIfInBounds i true).getD k true) = ((List.range ops.size).filter fun k => !listed.getD k true).filter (fun k => decide (k ≠ i)) := by
        rw [List.filter_filter]
        apply List.filter_congr
        intro k hk
        by_cases hki : k = i
        · subst hki
          have : k < listed.size := by rw [inv.lsize]; exact hil
          simp [this]
        · rw [getD_set_ne true (fun e => hki e.symm)]; simp [hki]
      have h2 : (((List.range ops.size).filter fun k => !listed.getD k true).filter (fun k => decide (k ≠ i))).length < ((List.range ops.size).filter fun k => !listed.getD k true).length := by
        rw [List.length_filter_lt_length_iff_exists]
        exact ⟨i, List.mem_filter.2 ⟨List.mem_range.2 hil, by simpa using hun⟩, by simp⟩
      rw [e1]; omega
    have hnext : ∀ (v : Value) (w'' : World), G v w'' → S w' w'' → I (fun j => (listed.setIfInBounds i true).getD j false) (a'.put o.dst v) w'' → GInvA I ops Gs a (listed.setIfInBounds i true) (a'.put o.dst v) w'' := by
      intro v w'' hg hb hI
      have his : i < listed.size := by rw [inv.lsize]; exact hil
      refine ⟨hI, put_defers.trans inv.defers, put_size.trans inv.size, by simpa using inv.lsize, ?_, ?_, ?_⟩
      · intro t ht
        have hne : o.dst ≠ some t := fun e => by
          have := ht i o ho e
          simp [his] at this
        rw [getD_put_ne hne]
        refine inv.old t fun j oj hj hdst => ?_
        have hji : i ≠ j := fun e => hne (by subst e; rw [ho] at hj; cases hj; exact hdst)
        have := ht j oj hj hdst
        rwa [getD_set_ne true hji] at this
      · intro j oj hj hl e he hb2
        by_cases hji : i = j
        · subst hji
          rw [ho] at hj; cases hj
          exact getD_set_true (hpre e he hb2)
        · rw [getD_set_ne false hji] at hl
          exact getD_set_true (inv.closed j oj hj hl e he hb2)
      · intro j oj Gj t hj hGj hdst hl
        by_cases hji : i = j
        · subst hji
          rw [ho] at hj; cases hj
          rw [hG] at hGj; cases hGj
          rw [hdst, getD_put_same (by rw [inv.size]; exact hd i o t ho hdst)]
          exact hg
        · rw [getD_set_ne false hji] at hl
          have hne : o.dst ≠ some t := ((growB_spec hB ho).2 j oj t hj hdst).1 (fun e => hji e.symm)
          rw [getD_put_ne hne]
          exact (hok j oj Gj (by simpa using hj) hGj).1 _ _ _ (inv.told j oj Gj t hj hGj hdst hl) hb
    unfold wpOp
    simp only [ho]
    split
    · rename_i hw
      simp only [hw, if_true] at hstep
      left
      exact wp_of_false hstep fun a'' w'' ⟨v, e, hg, hb, hI⟩ => by subst e; exact ih _ _ _ (hnext v w'' hg hb hI) hcnt
    · rename_i hw
      simp only [hw] at hstep
      exact ih _ _ _ (hnext undef w' hstep.1 hstep.2.1 hstep.2.2) hcnt

/-- The region, at a goal of the walk. -/
theorem wp_region_growA (S : World → World → Prop) (I : (Nat → Bool) → Act → World → Prop) {id : Nat} {l : List Oper} {w : World} (hm : P.follows .mixedOrders = true) (hB : growB l.toArray = true) (hd : (l.all fun o => (o.dst.map fun t => decide (t < a.tmps.size)).getD true) = true)
    (hI : I (fun _ => false) a w.drew)
    (h : GWA S I P l.toArray Q a 0 l []) : (Code.region id l.toArray true).wp P Q a w := by
  obtain ⟨Gs, hl, hs, hf⟩ := GWA.specs l 0 [] h
  refine wp_region_any hm (growA_any (S := S) (I := I) hB Gs (by simpa using hl) (by simpa using hs) (by simpa using hf) ?_ _ _ _ _ ?_ ?_)
  · intro j o t hj ht
    rw [List.all_eq_true] at hd
    have hmem : o ∈ l := by
      have : l[j]? = some o := by simpa using hj
      exact List.mem_of_getElem? this
    have := hd o hmem
    rw [ht] at this; simpa using this
  · refine ⟨?_, rfl, rfl, by simp, fun t _ => rfl, ?_, ?_⟩
    · have : (fun j => (Array.replicate l.toArray.size false).getD j false) = fun _ => false := by
        funext j
        simp [Array.getD]
      rw [this]; exact hI
    · intro j o hj hl; simp at hl
      rw [Array.getElem?_replicate] at hl; split at hl <;> simp at hl
    · intro j o G t hj hG ht hl; simp at hl
      rw [Array.getElem?_replicate] at hl; split at hl <;> simp at hl
  · exact Nat.le_trans (List.length_filter_le _ _) (by simp)
end
end Go.Proofs.Ytgcdeadfkljeaaa
