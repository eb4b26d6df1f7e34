/- A region that draws its order, whose last operations come one behind the other behind all the others: the others as a region by themselves. -/
import Derived.Test.YtgcdeadfkljeaaaGrowT
import Derived.Test.YtgcdeadfkljeaaaGrowI
import Derived.OrdersHeld
namespace Go.Proofs.Ytgcdeadfkljeaaa
open Go.RowKit
set_option linter.unusedVariables false
set_option linter.unusedSimpArgs false

/-- What is asked behind the first operations. -/
def splitQ (P : Program) (ops : Array Oper) (Q : Exit → Act → World → Prop) (tail : List Oper) : Exit → Act → World → Prop
  | .normal, a, w => wpList P ops Q tail a w
  | e, a, w => Q e a w
section
variable {P : Program} {ops pre : Array Oper} {Q : Exit → Act → World → Prop} {n : Nat}
theorem oper_split {o : Oper} {a : Act} {w : World} {K K' : Act → World → Prop} {tail : List Oper} (hk : ∀ a w, K a w → K' a w) (h : o.wp P a w K (splitQ P ops Q tail)) : o.wp P a w K' Q := by
  unfold Oper.wp at *
  generalize (execOp a.eval o).run P w = r at *
  cases r with
  | ok nx w'' =>
    cases nx <;> simp only [Oper.upon] at h ⊢
    case enter f args =>
      refine h.mono ?_
      intro e w3 he
      cases e with
      | returned v => exact hk _ _ he
      | panicked c => exact he
      | outgrown => exact he
    case row r args => exact h.mono fun _ _ he => hk _ _ he
    all_goals exact hk _ _ h
  | halt x w'' =>
    cases x <;> simp only [Oper.upon] at h ⊢
    all_goals exact h
theorem wpOp_split {i : Nat} {a : Act} {w : World} {K K' : Act → World → Prop} {tail : List Oper} {o : Oper} (ho : ops[i]? = some o) (hp : pre[i]? = some o) (hg : o.guard = none) (hk : ∀ a w, K a w → K' a w)
    (h : wpOp P pre (splitQ P ops Q tail) i K a w) : wpOp P ops Q i K' a w := by
  unfold wpOp at h ⊢
  rw [hp] at h
  rw [ho]
  simp only [Region.wanted, hg, if_true] at h ⊢
  rcases h with h | ⟨h1, h2⟩
  · exact .inl (oper_split hk h)
  · exact .inr ⟨h1, h2⟩
theorem wpAny_split (hn : n < ops.size) (hs : Region.sinkB .any ops n = true) (hc0 : Region.chainB .any ops n = true) (hseq : Region.seqB .any ops (ops.size - n) n (headL ops.size n) = true)
    (hback : ∀ (i : Nat) (o : Oper), ops[i]? = some o → ∀ e ∈ o.after, Region.binds .any e = true → e.on < i) (hgd : ∀ (i : Nat) (o : Oper), i < n → ops[i]? = some o → o.guard = none) (hpre : ∀ i, i < n → pre[i]? = ops[i]?) (hps : pre.size = n) :
    ∀ (fuel : Nat) (listed lp : Array Bool) (a : Act) (w : World), HeadInv .any ops n listed → lp.size = n → (∀ i, i < n → ∀ d, listed.getD i d = lp.getD i d) → wpAny P .any pre (splitQ P ops Q (ops.toList.drop n)) fuel lp a w → wpAny P .any ops Q (fuel + (ops.size - n)) listed a w := by
  have rdy : ∀ (listed lp : Array Bool), HeadInv .any ops n listed → lp.size = n → (∀ i, i < n → ∀ d, listed.getD i d = lp.getD i d) → ∀ i, i < n → (i ∈ Region.ready .any ops listed ↔ i ∈ Region.ready .any pre lp) := by
    intro listed lp hv hlp hL i hi
    rw [mem_ready, mem_ready, hL i hi, hpre i hi]
    constructor
    · rintro ⟨h1, o, h2, h3⟩
      exact ⟨h1, o, h2, fun e he hb => by rw [← hL e.on (by have := hback i o h2 e he hb; omega)]; exact h3 e he hb⟩
    · rintro ⟨h1, o, h2, h3⟩
      exact ⟨h1, o, h2, fun e he hb => by rw [hL e.on (by have := hback i o h2 e he hb; omega)]; exact h3 e he hb⟩
  have done : ∀ (fuel : Nat) (listed : Array Bool) (a : Act) (w : World), HeadInv .any ops n listed → (∀ i, i < n → listed.getD i true = true) → wpList P ops Q (ops.toList.drop n) a w → wpAny P .any ops Q (fuel + (ops.size - n)) listed a w := by
    intro fuel listed a w hv hall h
    have hlst : listed = headL ops.size n := by
      apply Array.ext
      · simp [headL, hv.size]
      · intro i h1 h2
        have hi : i < ops.size := by rw [← hv.size]; exact h1
        simp only [headL, Array.getElem_ofFn]
        by_cases hin : i < n
        · have := hall i hin
          simp [h1] at this
          simp [this, hin]
        · have := hv.tail i (by omega) hi
          simp [h1] at this
          simp [this, hin]
    refine wpAny_seqF (ops.toList.drop n) fuel n listed a w (fun j => by simp [List.getElem?_drop]) (by rw [List.length_drop, Array.length_toList, hlst]; exact hseq) h (by rw [List.length_drop, Array.length_toList])
  -- where none is ready, all of the first are listed
  have ready0 : ∀ (listed lp : Array Bool), HeadInv .any ops n listed → lp.size = n → (∀ i, i < n → ∀ d, listed.getD i d = lp.getD i d) → Region.ready .any pre lp = [] → ∀ i, i < n → listed.getD i true = true := by
    intro listed lp hv hlp hL hr i
    induction i using Nat.strongRecOn with
    | _ i ih =>
      intro hi
      by_cases hl : listed.getD i true = true
      · exact hl
      · exfalso
        have hio : i < ops.size := by omega
        have hmem : i ∈ Region.ready .any ops listed := by
          refine mem_ready.2 ⟨by simpa using hl, ops[i], by simp [hio], fun e he hb => ?_⟩
          have hlt := hback i ops[i] (by simp [hio]) e he hb
          have := ih e.on hlt (by omega)
          have hs2 : e.on < listed.size := by rw [hv.size]; omega
          simp [hs2] at this ⊢; exact this
        have := (rdy listed lp hv hlp hL i hi).1 hmem
        rw [hr] at this; cases this
  have ready1 : ∀ (listed lp : Array Bool), HeadInv .any ops n listed → lp.size = n → (∀ i, i < n → ∀ d, listed.getD i d = lp.getD i d) → (∀ i, i < n → listed.getD i true = true) → Region.ready .any pre lp = [] := by
    intro listed lp hv hlp hL hall
    refine List.eq_nil_iff_forall_not_mem.2 fun i hi => ?_
    obtain ⟨h1, o, h2, -⟩ := mem_ready.1 hi
    have hin : i < n := by have := (Array.getElem?_eq_some_iff.1 h2).1; omega
    rw [← hL i hin, hall i hin] at h1
    cases h1
  intro fuel
  induction fuel with
  | zero =>
    intro listed lp a w hv hlp hL h
    exact done 0 listed a w hv (ready0 listed lp hv hlp hL h.1) h.2
  | succ fuel ih =>
    intro listed lp a w hv hlp hL h
    by_cases hall : ∀ i, i < n → listed.getD i true = true
    · exact done (fuel + 1) listed a w hv hall (h.1 (ready1 listed lp hv hlp hL hall))
    · have hex : ∃ i, i < n ∧ listed.getD i true = false := by
        by_cases h2 : ∃ i, i < n ∧ listed.getD i true = false
        · exact h2
        · exfalso
          apply hall
          intro i hi
          by_cases hl : listed.getD i true = true
          · exact hl
          · exact absurd ⟨i, hi, by simpa using hl⟩ h2
      obtain ⟨i0, hi0, hun0⟩ := hex
      have hne : Region.ready .any ops listed ≠ [] := by
        intro h0
        have : Region.ready .any pre lp = [] := by
          refine List.eq_nil_iff_forall_not_mem.2 fun i hi => ?_
          have hin : i < n := by
            obtain ⟨-, o, h2, -⟩ := mem_ready.1 hi
            have := (Array.getElem?_eq_some_iff.1 h2).1; omega
          have := (rdy listed lp hv hlp hL i hin).2 hi
          rw [h0] at this; cases this
        have := ready0 listed lp hv hlp hL this i0 hi0
        rw [hun0] at this; cases this
      rw [show fuel + 1 + (ops.size - n) = (fuel + (ops.size - n)) + 1 by omega]
      refine ⟨fun h0 => absurd h0 hne, fun i hi => ?_⟩
      have hin : i < n := by
        rcases Nat.lt_or_ge i n with h | h
        · exact h
        · exact absurd hi (tail_waits hs hc0 hn hv _ i0 rfl hi0 hun0 i h)
      have hvn := hv.set hi hin
      obtain ⟨-, o, ho, -⟩ := mem_ready.1 hi
      refine wpOp_split ho (by rw [hpre i hin]; exact ho) (hgd i o hin ho) (fun a' w' hk => ih _ (lp.setIfInBounds i true) a' w' hvn (by simpa using hlp) (fun j hj d => ?_) hk) (h.2 i ((rdy listed lp hv hlp hL i hin).1 hi))
      by_cases hij : i = j
      · subst hij
        have h1 : i < listed.size := by rw [hv.size]; omega
        have h2 : i < lp.size := by omega
        simp [h1, h2]
      · rw [getD_set_ne d hij, getD_set_ne d hij]
        exact hL j hj d
/-- The region, at a goal of the walk: the first n operations as a region, held S; then the others. -/
theorem wp_region_split (S : World → Prop) (n : Nat) {id : Nat} {l : List Oper} {a : Act} {w : World} (hm : P.follows .mixedOrders = true)
    (ht : (decide (n < l.length) && Region.sinkB .any l.toArray n && Region.chainB .any l.toArray n && Region.seqB .any l.toArray (l.length - n) n (headL l.length n) && growB l.toArray && (l.take n).all fun o => o.guard.isNone) = true)
    (h : wpAnyH P .any (l.take n).toArray (splitQ P l.toArray Q (l.drop n)) S n (Array.replicate n false) a w.drew) : (Code.region id l.toArray true).wp P Q a w := by
  simp only [Bool.and_eq_true, decide_eq_true_eq] at ht
  obtain ⟨⟨⟨⟨⟨hn, hs⟩, hc⟩, hq⟩, hB⟩, hg⟩ := ht
  refine wp_region_any hm ?_
  have key := wpAny_split (P := P) (ops := l.toArray) (pre := (l.take n).toArray) (Q := Q) (n := n) (by simpa using hn) hs hc (by simpa using hq) (fun i o ho => (growB_spec hB ho).1)
    (fun i o hi ho => by
      have hmem : o ∈ l.take n := by
        have : (l.take n)[i]? = some o := by rw [List.getElem?_take, if_pos hi]; simpa using ho
        exact List.mem_of_getElem? this
      have := List.all_eq_true.1 hg o hmem
      simpa using this)
    (fun i hi => by simp [List.getElem?_take, hi]) (by simp; omega) n (Array.replicate l.toArray.size false) (Array.replicate n false) a w.drew
    ⟨by simp, fun j oj _ hl => (by rw [getD_replicate_false] at hl; cases hl), fun t _ ht => getD_in (by simpa using ht) (getD_replicate_false _ _)⟩ (by simp)
    (fun i hi d => by
      have h2 : i < l.length := by omega
      simp [hi, h2])
    (wpAny_of_held n _ a w.drew (by simpa using h))
  rw [show n + (l.toArray.size - n) = l.toArray.size by simp; omega] at key
  exact key
/-- What is asked behind one operation of a region that is held. -/
def OneQ (P : Program) (ops : Array Oper) (Q : Exit → Act → World → Prop) (S : World → Prop) (fuel : Nat) (listed : Array Bool) : Exit → Act → World → Prop := fun e a w => e = .normal ∧ S w ∧ wpAnyH P .any ops Q S fuel listed a w
/-- The one operation that may come up: by the walk. -/
theorem wpAnyH_one {S : World → Prop} (i : Nat) {o : Oper} {fuel : Nat} {listed : Array Bool} {a : Act} {w : World} (hr : Region.ready .any ops listed = [i]) (ho : ops[i]? = some o) (hg : o.guard = none)
    (h : wpList P ops (OneQ P ops Q S fuel (listed.setIfInBounds i true)) [o] a w) : wpAnyH P .any ops Q S (fuel + 1) listed a w := by
  refine wpAnyH_all hr (by simp) fun j hj => ?_
  obtain rfl : j = i := by simpa using hj
  unfold wpOp
  rw [ho]
  simp only [Region.wanted, hg, if_true]
  exact .inl (wp_of_false (wp_of_list (ops := ops) hg h) (fun _ _ h => h))
end
end Go.Proofs.Ytgcdeadfkljeaaa
