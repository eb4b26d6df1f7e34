/- copy into an owned row; slices.Repeat of one number. -/
import Derived.Test.YtmmgcfhoigpomaaRunsB
import Derived.Test.YtmmgcfhoigpomaaGrowN
import Derived.Test.YtmmgcfhoigpomaaGrowM
import Derived.Test.YtmmgcfhoigpomaaGrowK
namespace Go.Proofs.Ytmmgcfhoigpomaa
open Go.RowKit
set_option linter.unusedVariables false
set_option linter.unusedSimpArgs false

def iR (x : Int) : Value := .int .i64 x
theorem slIR : SlT Try.prog 72 3 (.int .i64 0) 1 8 := ⟨Try.underlying72, by kernel_rfl, rfl⟩
theorem take_splice {β : Type} (cur : List β) (off k n : Nat) (ks : List β) (hk : ks.length = k) (h : off + k ≤ n) (hn : n ≤ cur.length) : (cur.take off ++ (ks ++ cur.drop (off + ks.length))).take n = cur.take off ++ (ks ++ (cur.drop (off + k)).take (n - (off + k))) := by
  have hl : (cur.take off).length = off := by rw [List.length_take]; omega
  have h1 : (cur.take off).take n = cur.take off := List.take_of_length_le (by omega)
  have h2 : ks.take (n - off) = ks := List.take_of_length_le (by omega)
  rw [List.take_append, h1, hl, List.take_append, h2, hk]
  congr 3
  omega
section
variable {P : Program} {w : World} {ops : Array Oper} {rest : List Oper} {o : Oper} {a : Act} {Q : Exit → Act → World → Prop} {α : Type} {E : α → Value} {T e : TypeId} {z : Value} {bytes base : Nat}
theorem wpList_copyOwn (hT : SlT P T e z 1 bytes) (hgd : o.guard = none) (d s : Operand) (ho : o.op = .call { callee := .builtin .copy, args := #[d, s], argTypes := #[T, T] })
    {g n c : Nat} {l : List α} (hown : Own w base e E (some ⟨g, 0, none⟩) n c l) (off dLen dCap : Nat) (ad : Addr) (sLen sCap : Nat) (hd : a.eval d = .slice (some ⟨g, off, none⟩) dLen dCap) (hs : a.eval s = .slice (some ad) sLen sCap)
    (ks : List α) (hn : ks.length = Nat.min sLen dLen) (hsrc : ∀ j v, (ks.map E)[j]? = some v → w.cell? (ad.add j) = some v) (hfit : off + ks.length ≤ n) (h1 : ∀ v ∈ ks, (E v).oneCell' = true)
    (h : ∀ w', Own w' base e E (some ⟨g, 0, none⟩) n c (l.take off ++ (ks ++ l.drop (off + ks.length))) → w.grownBy w' (some g) → wpList P ops Q rest (a.put o.dst (.int .i64 (ks.length : Int))) w') :
    wpList P ops Q (o :: rest) a w := by
  obtain ⟨ti, hti, hz0, hz2, hz3⟩ := info_parts hT.info
  have hl := hown.2
  obtain ⟨⟨h0, h2⟩, h3⟩ := hown
  rcases h2 with ⟨h4, h5⟩ | ⟨g', cap, cur, hv, hg, hh, hnc, hcm, hcs, htake⟩
  · simp at h4
  · simp only [Value.slice.injEq, Option.some.injEq, Addr.mk.injEq] at hv
    obtain ⟨⟨rfl, -, -⟩, -, rfl⟩ := hv
    have hcl : cur.toList.length = c := by simpa using hcs
    have hsz : cur.size = c := by simpa using hcs
    refine wpList_copy_own hgd d s T T ho e hT.under (by rw [hti]; simp [hz2]) g off dLen dCap ad sLen sCap hd hs cur e hh (ks.map E) (by simpa using hn) hsrc (by simp; omega) (by intro v hv; simp at hv; obtain ⟨y, hy, rfl⟩ := hv; exact h1 y hy) ?_
    have hnum : goInt ((ks.map E).length : Int) = .int .i64 (ks.length : Int) := by simp [goInt]
    rw [hnum]
    refine h _ ⟨⟨by simp; omega, .inr ⟨g, c, _, rfl, hg, setRow_heap _ g cur _ e (0, 0) hh, hnc, hcm, by simp; omega, ?_⟩⟩, by simp; omega⟩ (grownBy_setRow w g _)
    simp only [Nat.mul_one] at htake ⊢
    have hA : cur.toList.take off = (l.take off).map E := by
      rw [List.map_take, ← htake, List.take_take, Nat.min_eq_left (by omega)]
    have hC : (cur.toList.drop (off + ks.length)).take (n - (off + ks.length)) = (l.drop (off + ks.length)).map E := by
      rw [List.map_drop, ← htake, List.drop_take]
    rw [List.map_append, List.map_append, ← hA, ← hC]
    exact take_splice cur.toList off ks.length n (ks.map E) (by simp) hfit (by omega)
end
theorem one_src {w : World} {a : Addr} {x : Int} (h : w.cell? a = some (iR x)) : ∀ j v, ([x].map iR)[j]? = some v → w.cell? (a.add j) = some v := by
  intro j v hj
  cases j with
  | zero => simp at hj; subst hj; simpa [Addr.add] using h
  | succ j => simp at hj
theorem rep_src {w : World} {g m k j : Nat} {x : Int} (h : Rd w iR (some ⟨g, 0, none⟩) (List.replicate k x ++ List.replicate (m - k) (0 : Int))) (hj : j ≤ k) : ∀ i v, ((List.replicate j x).map iR)[i]? = some v → w.cell? ((⟨g, 0, none⟩ : Addr).add i) = some v := by
  intro i v hv
  rw [List.map_replicate, List.getElem?_replicate] at hv
  split at hv
  · simp at hv
    subst hv
    rw [Addr.add_lit]
    rcases h with h | ⟨b, off, hb, h⟩
    · have := congrArg List.length h; simp at this; omega
    · simp at hb
      obtain ⟨rfl, rfl⟩ := hb
      refine h i x ?_
      rw [List.getElem?_append_left (by simp; omega), List.getElem?_replicate, if_pos (by omega)]
  · cases hv
theorem rep_mid (x : Int) (m k j : Nat) (h : k + j ≤ m) : (List.replicate k x ++ List.replicate (m - k) (0 : Int)).take k ++ (List.replicate j x ++ (List.replicate k x ++ List.replicate (m - k) (0 : Int)).drop (k + j)) = List.replicate (k + j) x ++ List.replicate (m - (k + j)) 0 := by
  rw [List.take_append_of_le_length (by simp), List.take_of_length_le (by simp), List.drop_append, List.length_replicate, List.drop_of_length_le (by simp), List.drop_replicate, List.nil_append, ← List.append_assoc, List.replicate_append_replicate]
  congr 2
  omega
set_option maxRecDepth 100000 in
set_option maxHeartbeats 8000000 in
theorem repeat_any (q : Nat) (x : Int) (m : Nat) (w : World) (hm : 1 ≤ m ∧ m ≤ 1000) (hc : w.cell? ⟨q, 0, none⟩ = some (.int .i64 x)) :
  Calls Try.prog 61 #[.slice (some ⟨q, 0, none⟩) 1 1, .int .i64 (m : Int)] w fun e w' => ∃ a', e = .returned (.slice a' m m) ∧ Own w' w.heap.size 3 iR a' m m (List.replicate m x) ∧ Below w.heap.size w w' := by
  go_enter Try.func61, Try.ntmps61
  go_wp2_with fail
  refine (mul_any m (by omega) w).mono ?_
  rintro e w' ⟨rfl, rfl⟩
  have hmin1 : [x].length = Nat.min 1 m := (Nat.min_eq_left hm.1).symm
  go_wp2_with (first | (at_make; refine wpList_mk (E := iR) (base := w.heap.size) slIR rfl rfl _ _ rfl m rfl rfl rfl rfl (0 : Int) rfl (by omega) (by unfold maxLen; omega) (Nat.le_refl _) ?_; intro p1 w1 hown1 hg1; obtain ⟨g, old, rfl, hgb, hgl, -, -, -⟩ := hown1.at (i := 0) (by omega); have hcq : ∀ j v, ([x].map iR)[j]? = some v → w1.cell? ((⟨q, 0, none⟩ : Addr).add j) = some v := (one_src (hg1.cell hc (by simp)))) | (refine wpList_copyOwn (E := iR) slIR rfl _ _ rfl hown1 0 m m ⟨q, 0, none⟩ 1 1 rfl rfl [x] hmin1 hcq (by simp; omega) (fun v hv => rfl) ?_; intro w2 hown2 hg2))
  have hB1 := below_of_grownBy hg1
  have hB2 := hB1.grown hg2 hB1.size (fun k hk => by simp at hk; omega)
  have hown3 : Own w2 w.heap.size 3 iR (some ⟨g, 0, none⟩) m m (List.replicate 1 x ++ List.replicate (m - 1) 0) := by simpa [List.drop_replicate] using hown2
  clear hown1 hown2 hg1 hg2 hcq hB1
  go_loopw [8] (fun xn wr => ∃ k : Nat, 1 ≤ k ∧ k ≤ m ∧ xn = .int .i64 k ∧ Own wr w.heap.size 3 iR (some ⟨g, 0, none⟩) m m (List.replicate k x ++ List.replicate (m - k) 0) ∧ Below w.heap.size w wr) (fun xn _ => m - (intOf xn).toNat)
  case atStart => exact ⟨1, by omega, by omega, rfl, hown3, hB2⟩
  case round =>
    clear hown3 hB2
    obtain ⟨k, hk1, hk, rfl, hown, hB⟩ := hrel
    by_cases hlt : k < m
    · have hmin : Nat.min k (m - k) ≤ k ∧ Nat.min k (m - k) ≤ m - k ∧ 1 ≤ Nat.min k (m - k) := ⟨Nat.min_le_left _ _, Nat.min_le_right _ _, Nat.le_min.2 ⟨by omega, by omega⟩⟩
      obtain ⟨j, hj⟩ : ∃ j, Nat.min k (m - k) = j := ⟨_, rfl⟩
      rw [hj] at hmin
      have HJ := Lib.hid hj
      clear hj
      have HOWN := Lib.hid hown
      have hrd := hown.rd
      have HRD := Lib.hid hrd
      clear hown hrd
      have hB0 := hB
      go_wp2_with fail
      have s1 : (k : Int) < (m : Int) := by omega
      have s2 : (k : Int) ≤ (m : Int) := by omega
      have s3 : ¬ m = k := by omega
      have s4 : 0 ≤ (k : Int) := by omega
      have s5 : k ≤ m := by omega
      have s6 : IntKind.i64.wrap ((k : Int) + (j : Int)) = (k : Int) + (j : Int) := IntWalk.i64_in _ (by omega)
      refine wp_region_growI (fun _ _ => True) (fun L wx => Own wx w.heap.size 3 iR (some ⟨g, 0, none⟩) m m (cond (L 7) (List.replicate (k + j) x ++ List.replicate (m - (k + j)) 0) (List.replicate k x ++ List.replicate (m - k) 0)) ∧ Below w.heap.size w wx) (by kernel_rfl) (by kernel_rfl) (by rfl) ⟨HOWN.out.drew, hB.drew⟩ ?_
      apply gi_val _ (fun _ => trivial) (fun L w' _ h => by simpa only [setL_ne (show (7 : Nat) ≠ 0 by decide)] using h)
      · intro a' w' L hL haf hi hk
        refine ⟨wanted_none rfl, ?_⟩
        try simp [Oper.looksAt, Op.operands, Call.operands, KnownAt, List.lookup, consD] at hk
        simp [execOp, Act.eval, hk, go_sem]
        all_goals rfl
      apply gi_val _ (fun _ => trivial) (fun L w' _ h => by simpa only [setL_ne (show (7 : Nat) ≠ 1 by decide)] using h)
      · intro a' w' L hL haf hi hk
        refine ⟨wanted_none rfl, ?_⟩
        try simp [Oper.looksAt, Op.operands, Call.operands, KnownAt, List.lookup, consD] at hk
        simp [execOp, Act.eval, hk, go_sem]
        all_goals rfl
      apply gi_val _ (fun _ => trivial) (fun L w' _ h => by simpa only [setL_ne (show (7 : Nat) ≠ 2 by decide)] using h)
      · intro a' w' L hL haf hi hk
        refine ⟨wanted_none rfl, ?_⟩
        try simp [Oper.looksAt, Op.operands, Call.operands, KnownAt, List.lookup, consD] at hk
        simp [execOp, Act.eval, hk, go_sem]
        all_goals rfl
      refine gi_val (.slice (some ⟨g, k, none⟩) (m - k) (m - k)) (fun _ => trivial) (fun L w' _ h => by simpa only [setL_ne (show (7 : Nat) ≠ 3 by decide)] using h) ?_ ?_
      · intro a' w' L hL haf hi hk
        refine ⟨wanted_none rfl, ?_⟩
        try simp [Oper.looksAt, Op.operands, Call.operands, KnownAt, List.lookup, consD] at hk
        simp [execOp, Act.eval, hk, go_sem, s1, s2, s3, s4, s5, s6]
        all_goals rfl
      apply gi_val _ (fun _ => trivial) (fun L w' _ h => by simpa only [setL_ne (show (7 : Nat) ≠ 4 by decide)] using h)
      · intro a' w' L hL haf hi hk
        refine ⟨wanted_none rfl, ?_⟩
        try simp [Oper.looksAt, Op.operands, Call.operands, KnownAt, List.lookup, consD] at hk
        simp [execOp, Act.eval, hk, go_sem]
        all_goals rfl
      apply gi_val _ (fun _ => trivial) (fun L w' _ h => by simpa only [setL_ne (show (7 : Nat) ≠ 5 by decide)] using h)
      · intro a' w' L hL haf hi hk
        refine ⟨wanted_none rfl, ?_⟩
        try simp [Oper.looksAt, Op.operands, Call.operands, KnownAt, List.lookup, consD] at hk
        simp [execOp, Act.eval, hk, go_sem]
        all_goals rfl
      refine gi_val (.slice (some ⟨g, 0, none⟩) k m) (fun _ => trivial) (fun L w' _ h => by simpa only [setL_ne (show (7 : Nat) ≠ 6 by decide)] using h) ?_ ?_
      · intro a' w' L hL haf hi hk
        refine ⟨wanted_none rfl, ?_⟩
        try simp [Oper.looksAt, Op.operands, Call.operands, KnownAt, List.lookup, consD] at hk
        simp [execOp, Act.eval, hk, go_sem, s1, s2, s3, s4, s5, s6]
        all_goals rfl
      refine ⟨fun v _ => v = .int .i64 (j : Int), fun _ _ _ h _ => h, fun a' w' L hL haf hi hk => ?_, ?_⟩
      · rw [if_pos (by exact wanted_none rfl)]
        have h41 := known_of (hk 41 (by decide)) rfl
        have h44 := known_of (hk 44 (by decide)) rfl
        have hol := hi.1
        rw [hL] at hol
        simp only [cond_false] at hol
        refine wp_of_list (ops := #[]) rfl ?_
        refine wpList_copyOwn (E := iR) slIR rfl (.tmp 41) (.tmp 44) rfl hol k (m - k) (m - k) ⟨g, 0, none⟩ k m h41 h44 (List.replicate j x) (by rw [List.length_replicate]; exact HJ.out.symm) (rep_src hol.rd hmin.1) (by rw [List.length_replicate]; omega) (fun v hv => rfl) ?_
        intro w2 hown2 hg2
        rw [List.length_replicate] at hown2 ⊢
        rw [rep_mid x m k j (by omega)] at hown2
        simp only [wpList]
        refine ⟨trivial, _, rfl, rfl, trivial, ?_, ?_⟩
        · rw [setL_same]; exact hown2
        · exact hi.2.grown hg2 hi.2.size (fun q hq => by simp at hq; omega)
      refine gi_val (.int .i64 ((k : Int) + (j : Int))) (fun _ => trivial) (fun L w' _ h => by simpa only [setL_ne (show (7 : Nat) ≠ 8 by decide)] using h) ?_ ?_
      · intro a' w' L hL haf hi hk
        refine ⟨wanted_none rfl, ?_⟩
        try simp [Oper.looksAt, Op.operands, Call.operands, KnownAt, List.lookup, consD] at hk
        simp [execOp, Act.eval, hk, go_sem, s1, s2, s3, s4, s5, s6]
        all_goals rfl
      apply gi_val _ (fun _ => trivial) (fun L w' _ h => by simpa only [setL_ne (show (7 : Nat) ≠ 9 by decide)] using h)
      · intro a' w' L hL haf hi hk
        refine ⟨wanted_none rfl, ?_⟩
        try simp [Oper.looksAt, Op.operands, Call.operands, KnownAt, List.lookup, consD] at hk
        simp [execOp, Act.eval, hk, go_sem]
        all_goals rfl
      intro vs w' L hall hi hval
      simp only [AllS, consD] at hval
      simp only [consD, putAllS, Act.put]
      obtain ⟨h9, -⟩ := hval
      rw [h9]
      simp only [List.setIfInBounds_toArray, List.set_cons_succ, List.set_cons_zero]
      have hown5 := hi.1
      rw [hall 7 (by decide)] at hown5
      simp only [cond_true] at hown5
      have hB5 := hi.2
      clear hi h9 hB hB0 s1 s2 s3 s4 s5 s6
      go_wp2
      go_roundw
      case rel => exact ⟨k + j, by omega, by omega, by go_num, hown5, hB5⟩
      case measure => simp [intOf]; omega
    · have hkm : k = m := by omega
      rw [hkm] at hown ⊢
      rw [Nat.sub_self, List.replicate_zero, List.append_nil] at hown
      have HF := Lib.hid (And.intro hown hB)
      clear hown hB hkm hlt hk hk1
      go_wp2
      go_ret
      exact ⟨_, rfl, HF.out.1, HF.out.2⟩
end Go.Proofs.Ytmmgcfhoigpomaa
