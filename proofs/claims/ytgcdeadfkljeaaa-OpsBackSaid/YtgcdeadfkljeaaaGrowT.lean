/- A region that draws its order, whose last operations come one behind the other behind all the others (an append onto what was made, and its assignment): the others by wp_region_grow's steps. -/
import Derived.Test.YtgcdeadfkljeaaaGrow
import Derived.Test.YtgcdeadfkljeaaaGrow2
import Derived.StillTail
namespace Go.Proofs.Ytgcdeadfkljeaaa
open Go.RowKit
set_option linter.unusedVariables false
set_option linter.unusedSimpArgs false

def headL (size n : Nat) : Array Bool := Array.ofFn fun i : Fin size => decide (i.1 < n)
/-- The steps of the first operations; then the walk goes on. -/
def GWT (P : Program) (ops : Array Oper) (K : Act → World → Prop) (a : Act) (w0 : World) : List Oper → List (Nat × Spec) → Prop := GW P ops (fun e a' w' => e = .normal → K a' w') a w0
section
variable {P : Program} {ops : Array Oper} {Q : Exit → Act → World → Prop} {a : Act} {w0 : World}
theorem wpAny_seqF : ∀ (l : List Oper) (x k : Nat) (listed : Array Bool) (a : Act) (w : World), (∀ j, l[j]? = ops[k + j]?) →
    Region.seqB .any ops l.length k listed = true → wpList P ops Q l a w → ∀ {g : Nat}, l.length = g → wpAny P .any ops Q (x + g) listed a w
  | [], x, k, listed, a, w, _, hB, h, g, hg => by
    subst hg
    have hr : Region.ready .any ops listed = [] := by simpa [Region.seqB] using hB
    cases x with
    | zero => exact ⟨hr, h⟩
    | succ x => exact ⟨fun _ => h, fun i hi => (by rw [hr] at hi; cases hi)⟩
  | o :: l, x, k, listed, a, w, hl, hB, h, g, hg => by
    subst hg
    have h0 : ops[k]? = some o := by simpa using (hl 0).symm
    simp only [List.length_cons, Region.seqB, Bool.and_eq_true, decide_eq_true_eq] at hB
    rw [List.length_cons, show x + (l.length + 1) = (x + l.length) + 1 by omega]
    refine ⟨fun h1 => (by rw [hB.1] at h1; cases h1), fun i hi => ?_⟩
    rw [hB.1] at hi
    have hik : i = k := by simpa using hi
    subst hik
    have hw : wpOp P ops Q i (wpList P ops Q l) a w := by unfold wpOp; simp only [h0]; exact h
    exact wpOp_mono (fun a' w' h' => wpAny_seqF l x (i + 1) _ a' w' (fun j => by have := hl (j + 1); simpa [Nat.add_assoc, Nat.add_comm 1 j] using this) hB.2 h' rfl) hw
theorem growT_any (n : Nat) (hn : n < ops.size) (hs : Region.sinkB .any ops n = true) (hc0 : Region.chainB .any ops n = true) (hseq : Region.seqB .any ops (ops.size - n) n (headL ops.size n) = true) (hB : growB ops = true) (Gs : List Spec) (hGl : Gs.length = n)
    (hok : ∀ (k : Nat) (o : Oper) (G : Spec), k < n → ops.toList[k]? = some o → Gs[k]? = some G → Mono G ∧ OpOk P ops a w0 (mkD (ops.toList.take k) (Gs.take k) []) o G)
    (hfin : ∀ (vs : Nat → Value) (w' : World), Below w0.heap.size w0 w' → AllS vs w' (mkD (ops.toList.take n) Gs []) → wpList P ops Q (ops.toList.drop n) (putAllS a vs (mkD (ops.toList.take n) Gs [])) w')
    (hd : ∀ (j : Nat) (o : Oper) (t : Nat), ops[j]? = some o → o.dst = some t → t < a.tmps.size) :
    ∀ (fuel : Nat) (listed : Array Bool) (a' : Act) (w' : World), GInv ops Gs a w0 listed a' w' → HeadInv .any ops n listed → ((List.range n).filter fun i => !listed.getD i true).length ≤ fuel → wpAny P .any ops Q (fuel + (ops.size - n)) listed a' w' := by
  -- where all is listed
  have htk : (ops.toList.take n).length = n := by rw [List.length_take, Array.length_toList]; omega
  have tkat : ∀ (j : Nat) (o : Oper), (ops.toList.take n)[j]? = some o → j < n ∧ ops[j]? = some o := fun j o h => by
    rw [List.getElem?_take] at h
    split at h
    · exact ⟨by assumption, by simpa using h⟩
    · cases h
  have done : ∀ (fuel : Nat) (listed : Array Bool) (a' : Act) (w' : World), GInv ops Gs a w0 listed a' w' → HeadInv .any ops n listed → (∀ i, i < n → listed.getD i true = true) → wpAny P .any ops Q (fuel + (ops.size - n)) listed a' w' := by
    intro fuel listed a' w' inv hv hall
    have hlst : listed = headL ops.size n := by
      apply Array.ext
      · simp [headL, hv.size]
      · intro i h1 h2
        have hi : i < ops.size := by rw [← hv.size]; exact h1
        simp only [headL, Array.getElem_ofFn]
        by_cases hin : i < n
        · have := hall i hin
          simp [h1] at this
          simp [this, hin]
        · have := hv.tail i (by omega) hi
          simp [h1] at this
          simp [this, hin]
    have hall2 : ∀ i, i < n → listed.getD i false = true := fun i hi => by
      have := hall i hi
      have hs : i < listed.size := by rw [inv.lsize]; omega
      simp [hs] at this ⊢; exact this
    have e : a' = putAllS a (fun t => a'.tmps.getD t undef) (mkD (ops.toList.take n) Gs []) := by
      obtain ⟨tm, df⟩ := a'
      have h1 : df = a.defers := inv.defers
      have h2 := putAllS_defers a (fun t => tm.getD t undef) (mkD (ops.toList.take n) Gs [])
      have h3 : tm = (putAllS a (fun t => tm.getD t undef) (mkD (ops.toList.take n) Gs [])).tmps := by
        apply Array.ext_getElem?
        intro t
        have hsz : tm.size = a.tmps.size := inv.size
        by_cases ht : t < a.tmps.size
        · rw [putAllS_get _ _ _ _ ht]
          have hg : tm[t]? = some (tm.getD t undef) := by simp [show t < tm.size by omega]
          rw [hg]
          by_cases hm : t ∈ (mkD (ops.toList.take n) Gs []).map (·.1)
          · rw [if_pos hm]
          · rw [if_neg hm]
            congr 1
            refine inv.old t fun j o hj hdst => ?_
            by_cases hjn : n ≤ j
            · exact hv.tail j hjn (Array.getElem?_eq_some_iff.1 hj).1
            exfalso
            apply hm
            rcases lookup_mkD (ops.toList.take n) Gs [] t (hGl.trans htk.symm) (fun i j oi oj hi hj h1 h2 => by
              by_cases hij : j = i
              · exact hij.symm
              · exact absurd h1 (((growB_spec hB (i := i) (o := oi) (tkat i oi hi).2).2 j oj t (tkat j oj hj).2 h2).1 hij)) with ⟨hn, _⟩ | ⟨j', o', G', hj1, hj2, hj3, hj4⟩
            · exact absurd hdst (hn j o (by rw [List.getElem?_take, if_pos (by omega)]; simpa using hj))
            · have : (mkD (ops.toList.take n) Gs []).lookup t ≠ none := by rw [hj4]; simp
              rw [List.mem_map]
              by_cases hex : ∃ p ∈ mkD (ops.toList.take n) Gs [], p.1 = t
              · exact hex
              · exfalso
                apply this
                rw [List.lookup_eq_none_iff]
                intro p hp
                simp
                intro e
                exact hex ⟨p, hp, e.symm⟩
        · rw [Array.getElem?_eq_none (by omega), Array.getElem?_eq_none (by rw [putAllS_size]; omega)]
      show Act.mk tm df = _
      generalize putAllS a (fun t => tm.getD t undef) (mkD (ops.toList.take n) Gs []) = q at h2 h3 ⊢
      obtain ⟨qt, qd⟩ := q
      simp only at h2 h3
      rw [h1, ← h2]
      simp only [Act.mk.injEq, and_true]
      exact h3
    refine wpAny_seqF (ops.toList.drop n) fuel n listed a' w' (fun j => by simp [List.getElem?_drop]) (by rw [List.length_drop, Array.length_toList, hlst]; exact hseq) ?_ (by rw [List.length_drop, Array.length_toList])
    rw [e]
    refine hfin _ w' inv.below ((AllS_iff _).2 fun p hp => ?_)
    rcases mem_mkD _ _ _ _ hp with h | ⟨j, o, h1, h2, h3⟩
    · cases h
    · obtain ⟨hjn, hj⟩ := tkat j o h1
      exact inv.told j o p.2 p.1 hj h2 h3 (hall2 j hjn)
  -- where none is ready, all is listed
  have ready0 : ∀ (listed : Array Bool), listed.size = ops.size → Region.ready .any ops listed = [] → ∀ i, i < ops.size → listed.getD i true = true := by
    intro listed hls hr i
    induction i using Nat.strongRecOn with
    | _ i ih =>
      intro hi
      by_cases hl : listed.getD i true = true
      · exact hl
      · exfalso
        have hmem : i ∈ Region.ready .any ops listed := by
          refine mem_ready.2 ⟨by simpa using hl, ops[i], by simp [hi], fun e he hb => ?_⟩
          have hlt := (growB_spec hB (i := i) (o := ops[i]) (by simp [hi])).1 e he hb
          have := ih e.on hlt (by omega)
          have hs : e.on < listed.size := by omega
          simp [hs] at this ⊢; exact this
        rw [hr] at hmem; cases hmem
  intro fuel
  induction fuel with
  | zero =>
    intro listed a' w' inv hv hc
    have hnone : (List.range n).filter (fun i => !listed.getD i true) = [] := List.eq_nil_of_length_eq_zero (by omega)
    have hall : ∀ i, i < n → listed.getD i true = true := fun i hi => by
      by_cases hl : listed.getD i true = true
      · exact hl
      · have : i ∈ (List.range n).filter (fun i => !listed.getD i true) := List.mem_filter.2 ⟨List.mem_range.2 hi, by simpa using hl⟩
        rw [hnone] at this; cases this
    exact done 0 listed a' w' inv hv hall
  | succ fuel ih =>
    intro listed a' w' inv hv hc
    by_cases hall : ∀ i, i < n → listed.getD i true = true
    · exact done (fuel + 1) listed a' w' inv hv hall
    have hex : ∃ i, i < n ∧ listed.getD i true = false := by
      by_cases h : ∃ i, i < n ∧ listed.getD i true = false
      · exact h
      · exfalso
        apply hall
        intro i hi
        by_cases hl : listed.getD i true = true
        · exact hl
        · exact absurd ⟨i, hi, by simpa using hl⟩ h
    obtain ⟨i0, hi0, hun0⟩ := hex
    rw [show fuel + 1 + (ops.size - n) = (fuel + (ops.size - n)) + 1 by omega]
    refine ⟨fun h0 => absurd (ready0 listed inv.lsize h0 i0 (by omega)) (by rw [hun0]; simp), fun i hi => ?_⟩
    have hin : i < n := by
      rcases Nat.lt_or_ge i n with h | h
      · exact h
      · exact absurd hi (tail_waits hs hc0 hn hv _ i0 rfl hi0 hun0 i h)
    have hvn := hv.set hi hin
    obtain ⟨hun, o, ho, hpre⟩ := mem_ready.1 hi
    have hil := (Array.getElem?_eq_some_iff.1 ho).1
    obtain ⟨G, hG⟩ : ∃ G, Gs[i]? = some G := ⟨Gs[i]'(by rw [hGl]; exact hin), by simp⟩
    obtain ⟨hmono, hop⟩ := hok i o G hin (by simpa using ho) hG
    have hknow : ∀ t ∈ o.looksAt ops, KnownAt (mkD (ops.toList.take i) (Gs.take i) []) a a' w' t := by
      intro t ht
      have huniq : ∀ (x y : Nat) (ox oy : Oper), (ops.toList.take i)[x]? = some ox → (ops.toList.take i)[y]? = some oy → ox.dst = some t → oy.dst = some t → x = y := by
        intro x y ox oy hx hy h1 h2
        have hx' : ops[x]? = some ox := by
          rw [List.getElem?_take] at hx; split at hx; simpa using hx; cases hx
        have hy' : ops[y]? = some oy := by
          rw [List.getElem?_take] at hy; split at hy; simpa using hy; cases hy
        by_cases hxy : y = x
        · exact hxy.symm
        · exact absurd h1 (((growB_spec hB hx').2 y oy t hy' h2).1 hxy)
      unfold KnownAt
      rcases lookup_mkD (ops.toList.take i) (Gs.take i) [] t (by rw [List.length_take, List.length_take, hGl, Array.length_toList]; omega) huniq with ⟨hn, hk⟩ | ⟨j, oj, Gj, h1, h2, h3, h4⟩
      · rw [hk]
        show a'.tmps.getD t undef = a.tmps.getD t undef
        refine inv.old t fun j oj hj hdst => ?_
        rcases ((growB_spec hB ho).2 j oj t hj hdst).2 ht with ⟨hlt, _⟩ | ⟨hlt, e, he, hb, heq⟩
        · exact absurd hdst (hn j oj (by rw [List.getElem?_take, if_pos hlt]; simpa using hj))
        · -- j waits for i, which isn't listed
          by_cases hjl : listed.getD j true = true
          · exfalso
            have hjs : j < listed.size := by rw [inv.lsize]; exact (Array.getElem?_eq_some_iff.1 hj).1
            have hjl2 : listed.getD j false = true := by simp [hjs] at hjl ⊢; exact hjl
            have := inv.closed j oj hj hjl2 e he hb
            rw [heq] at this
            have his : i < listed.size := by rw [inv.lsize]; exact hil
            simp [his] at hun this
            rw [hun] at this; cases this
          · simpa using hjl
      · rw [h4]
        have hji : j < i := by
          rw [List.getElem?_take] at h1; split at h1; assumption; cases h1
        have hj : ops[j]? = some oj := by
          rw [List.getElem?_take, if_pos hji] at h1; simpa using h1
        have hGj : Gs[j]? = some Gj := by
          rw [List.getElem?_take, if_pos hji] at h2; exact h2
        refine inv.told j oj Gj t hj hGj h3 ?_
        rcases ((growB_spec hB ho).2 j oj t hj h3).2 ht with ⟨_, e, he, hb, heq⟩ | ⟨hlt, _⟩
        · rw [← heq]; exact hpre e he hb
        · omega
    have hstep := hop a' w' inv.below hknow
    have hcnt : ((List.range n).filter fun k => !(listed.setIfInBounds i true).getD k true).length ≤ fuel := by
      have e1 : ((List.range n).filter fun k => !(listed.setIfInBounds i true).getD k true) = ((List.range n).filter fun k => !listed.getD k true).filter (fun k => decide (k ≠ i)) := by
        rw [List.filter_filter]
        apply List.filter_congr
        intro k hk
        by_cases hki : k = i
        · subst hki
          have : k < listed.size := by rw [inv.lsize]; exact hil
          simp [this]
        · rw [getD_set_ne true (fun e => hki e.symm)]; simp [hki]
      have h2 : (((List.range n).filter fun k => !listed.getD k true).filter (fun k => decide (k ≠ i))).length < ((List.range n).filter fun k => !listed.getD k true).length := by
        rw [List.length_filter_lt_length_iff_exists]
        exact ⟨i, List.mem_filter.2 ⟨List.mem_range.2 hin, by simpa using hun⟩, by simp⟩
      rw [e1]; omega
    have hnext : ∀ (v : Value) (w'' : World), G v w'' → Below w'.heap.size w' w'' → GInv ops Gs a w0 (listed.setIfInBounds i true) (a'.put o.dst v) w'' := by
      intro v w'' hg hb
      have his : i < listed.size := by rw [inv.lsize]; exact hil
      refine ⟨below_trans0 inv.below inv.below.size hb, put_defers.trans inv.defers, put_size.trans inv.size, by simpa using inv.lsize, ?_, ?_, ?_⟩
      · intro t ht
        have hne : o.dst ≠ some t := fun e => by
          have := ht i o ho e
          simp [his] at this
        rw [getD_put_ne hne]
        refine inv.old t fun j oj hj hdst => ?_
        have hji : i ≠ j := fun e => hne (by subst e; rw [ho] at hj; cases hj; exact hdst)
        have := ht j oj hj hdst
        rwa [getD_set_ne true hji] at this
      · intro j oj hj hl e he hb2
        by_cases hji : i = j
        · subst hji
          rw [ho] at hj; cases hj
          exact getD_set_true (hpre e he hb2)
        · rw [getD_set_ne false hji] at hl
          exact getD_set_true (inv.closed j oj hj hl e he hb2)
      · intro j oj Gj t hj hGj hdst hl
        by_cases hji : i = j
        · subst hji
          rw [ho] at hj; cases hj
          rw [hG] at hGj; cases hGj
          rw [hdst, getD_put_same (by rw [inv.size]; exact hd i o t ho hdst)]
          exact hg
        · rw [getD_set_ne false hji] at hl
          have hne : o.dst ≠ some t := ((growB_spec hB ho).2 j oj t hj hdst).1 (fun e => hji e.symm)
          rw [getD_put_ne hne]
          exact (hok j oj Gj (by have := (List.getElem?_eq_some_iff.1 hGj).1; omega) (by simpa using hj) hGj).1 _ _ _ (inv.told j oj Gj t hj hGj hdst hl) hb
    unfold wpOp
    simp only [ho]
    split
    · rename_i hw
      simp only [hw, if_true] at hstep
      left
      exact wp_of_false hstep fun a'' w'' ⟨v, e, hg, hb⟩ => by rw [e]; exact ih _ _ _ (hnext v w'' hg hb) hvn hcnt
    · rename_i hw
      simp only [hw] at hstep
      exact ih _ _ _ (hnext undef w' hstep (Below.refl _ _)) hvn hcnt


/-- The region, at a goal of the walk: n operations in whatever order, the others behind them. -/
theorem wp_region_growT (n : Nat) {id : Nat} {l : List Oper} {w : World} (hm : P.follows .mixedOrders = true) (hB : growB l.toArray = true) (hd : (l.all fun o => (o.dst.map fun t => decide (t < a.tmps.size)).getD true) = true)
    (ht : (decide (n < l.length) && Region.sinkB .any l.toArray n && Region.chainB .any l.toArray n && Region.seqB .any l.toArray (l.length - n) n (headL l.length n)) = true)
    (h : GWT P l.toArray (fun a' w' => wpList P l.toArray Q (l.drop n) a' w') a w.drew (l.take n) []) : (Code.region id l.toArray true).wp P Q a w := by
  simp only [Bool.and_eq_true, decide_eq_true_eq] at ht
  obtain ⟨⟨⟨hn, hs⟩, hc⟩, hq⟩ := ht
  obtain ⟨Gs, hl, hsp, hf⟩ := GW.specs (l.take n) [] h
  have hln : (l.take n).length = n := by rw [List.length_take]; omega
  have main := growT_any (P := P) (ops := l.toArray) (Q := Q) (a := a) (w0 := w.drew) n (by simpa using hn) hs hc (by simpa using hq) hB Gs (hl.trans hln) (fun k o G hk h1 h2 => by
    have := hsp k o G (by rw [List.getElem?_take, if_pos hk]; simpa using h1) h2
    rw [List.take_take, Nat.min_eq_left (by omega)] at this
    simpa using this) (fun vs w' hb hall => by simpa using hf vs w' hb (by simpa using hall) rfl) ?_ n (Array.replicate l.toArray.size false) a w.drew ?_ ?_ ?_
  · refine wp_region_any hm ?_
    rw [show n + (l.toArray.size - n) = l.toArray.size by simp; omega] at main
    exact main
  · intro j o t hj ht
    rw [List.all_eq_true] at hd
    have hmem : o ∈ l := by
      have : l[j]? = some o := by simpa using hj
      exact List.mem_of_getElem? this
    have := hd o hmem
    rw [ht] at this; simpa using this
  · refine ⟨Below.refl _ _, rfl, rfl, by simp, fun t _ => rfl, ?_, ?_⟩
    · intro j o hj hl; rw [getD_replicate_false] at hl; cases hl
    · intro j o G t hj hG ht hl; rw [getD_replicate_false] at hl; cases hl
  · exact ⟨by simp, fun j oj _ hl => (by rw [getD_replicate_false] at hl; cases hl), fun t _ ht => getD_in (by simpa using ht) (getD_replicate_false _ _)⟩
  · exact Nat.le_trans (List.length_filter_le _ _) (by simp)
end
end Go.Proofs.Ytgcdeadfkljeaaa
