/- Owned rows of runs; runs.split, runs.stretch. -/
import Derived.Test.YtmmgcfhoigpomaaRunsE
import Derived.Test.YtmmgcfhoigpomaaSl
namespace Go.Proofs.Ytmmgcfhoigpomaa
open Go.RowKit
set_option linter.unusedVariables false
set_option linter.unusedSimpArgs false

theorem slRun : SlT Try.prog 71 74 (.agg #[.int .i64 0, .int .i64 0]) 2 16 := ⟨Try.underlying71, by kernel_rfl, rfl⟩
def pairV (ps : List (Int × Int)) : List Value := ps.flatMap fun q => [.int .i64 q.1, .int .i64 q.2]
theorem pairV_len (ps : List (Int × Int)) : (pairV ps).length = ps.length * 2 := by
  induction ps with
  | nil => rfl
  | cons p r ih => simp only [pairV, List.flatMap_cons, List.length_append, List.length_cons, List.length_nil] at ih ⊢; omega
theorem pairV_app (ps qs : List (Int × Int)) : pairV (ps ++ qs) = pairV ps ++ pairV qs := by simp [pairV]
theorem pairV_at : ∀ (ps : List (Int × Int)) (i : Nat) (h : i < ps.length), (pairV ps)[i * 2]? = some (.int .i64 ps[i].1) ∧ (pairV ps)[i * 2 + 1]? = some (.int .i64 ps[i].2)
  | p :: r, 0, _ => ⟨rfl, rfl⟩
  | p :: r, i + 1, h => by
    have := pairV_at r i (by simpa using h)
    have e1 : (i + 1) * 2 = i * 2 + 1 + 1 := by omega
    have e2 : (i + 1) * 2 + 1 = i * 2 + 1 + 1 + 1 := by omega
    rw [e2, e1]
    exact this
/-- An owned slice of runs. -/
def OwnR (w : World) (base : Nat) (a : Option Addr) (n c : Nat) (ps : List (Int × Int)) : Prop := w.ownsRow base 74 2 (.slice a n c) n (pairV ps) ∧ ps.length = n
theorem OwnR.nil {w : World} {base : Nat} : OwnR w base none 0 0 [] := ⟨World.ownsRow_nil _ _ _ _, rfl⟩
theorem OwnR.below {w w' : World} {base : Nat} {a : Option Addr} {n c : Nat} {ps : List (Int × Int)} (h : OwnR w base a n c ps) (hb : Below w.heap.size w w') : OwnR w' base a n c ps := ⟨ownsRow_below h.1 hb, h.2⟩
theorem OwnR.mono {w : World} {b b' : Nat} {a : Option Addr} {n c : Nat} {ps : List (Int × Int)} (h : OwnR w b a n c ps) (hb : b' ≤ b) : OwnR w b' a n c ps := ⟨ownsRow_mono h.1 hb, h.2⟩
theorem OwnR.rd {w : World} {base : Nat} {a : Option Addr} {n c : Nat} {ps : List (Int × Int)} (h : OwnR w base a n c ps) : RdP w a n ps := by
  refine ⟨h.2, fun i j => (pairV ps).getD (i * 2 + j) undef, ?_, ?_⟩
  · obtain ⟨⟨h1, h2⟩, h3⟩ := h
    rcases h2 with ⟨h4, h5⟩ | ⟨g, cap, cur, hv, hg, hh, hnc, hcm, hcs, htake⟩
    · exact .inl h5
    · simp only [Value.slice.injEq] at hv
      obtain ⟨rfl, -, rfl⟩ := hv
      refine .inr ⟨g, 0, rfl, fun i j hi hj => ?_⟩
      rw [Nat.zero_add, cell_of_row w g _ cur _ (0, 0) hh]
      have hlt : i * 2 + j < (pairV ps).length := by rw [pairV_len, h3]; omega
      have hx : (pairV ps)[i * 2 + j]? = cur[i * 2 + j]? := by
        rw [← htake, List.getElem?_take, if_pos (by omega), Array.getElem?_toList]
      show cur[i * 2 + j]? = some ((pairV ps).getD (i * 2 + j) undef)
      rw [← hx, List.getD_eq_getElem?_getD, List.getElem?_eq_getElem hlt]; rfl
  · intro i hi
    have := pairV_at ps i hi
    exact ⟨by simp only [Nat.add_zero, List.getD_eq_getElem?_getD, this.1]; rfl, by simp only [List.getD_eq_getElem?_getD, this.2]; rfl⟩
section
variable {P : Program} {w : World} {ops : Array Oper} {rest : List Oper} {o : Oper} {a : Act} {Q : Exit → Act → World → Prop} {base : Nat}
theorem wpList_pushR (hgd : o.guard = none) (s x : Operand)
    (ho : o.op = .call { callee := .builtin .append, args := #[s, x], argTypes := #[71, 71] })
    {w0 : World} {u v : Int} (hw : w = w0.alloc (.cells #[.int .i64 u, .int .i64 v] 74))
    {p : Option Addr} {n c : Nat} {ps : List (Int × Int)} (hs : a.eval s = .slice p n c) (hown : OwnR w0 base p n c ps)
    (hx : a.eval x = .slice (some ⟨w0.heap.size, 0, none⟩) 1 1) (hlen : n ≤ 1000000) (hbase : base ≤ w0.heap.size)
    (h : ∀ p' c' w', OwnR w' base p' (n + 1) c' (ps ++ [(u, v)]) → w0.grownBy w' (Value.slice p n c).ownBlock → wpList Try.prog ops Q rest (a.put o.dst (.slice p' (n + 1) c')) w') :
    wpList Try.prog ops Q (o :: rest) a w := by
  subst hw
  obtain ⟨i, hi, hz0, hz1, hz2⟩ := info_parts slRun.info
  have hb := Blk.new w0 74 #[.int .i64 u, .int .i64 v]
  refine wpList_append_own (P := Try.prog) (w0.alloc (.cells #[.int .i64 u, .int .i64 v] 74)) hgd s x _ ho base _ i _ 2 16 slRun.under hi hz0 hz1 hz2 slRun.zsize (by decide) _ n _ hs (hown.1.alloc _) ⟨w0.heap.size, 0, none⟩ 1 1 [.int .i64 u, .int .i64 v] hx rfl ?_ ?_ (by unfold maxLen; omega) (by omega) (by simp; omega) ?_
  · intro j y hj
    rw [Addr.add_lit, Nat.zero_add]
    match j, hj with
    | 0, hj => simp at hj; subst hj; exact hb.cell rfl
    | 1, hj => simp at hj; subst hj; exact hb.cell rfl
  · intro y hy; simp at hy; rcases hy with rfl | rfl <;> rfl
  · intro v' w' hr hg hiff
    have hv : ∃ p' c', v' = .slice p' (n + 1) c' := by
      rcases hr.2 with ⟨_, h0⟩ | ⟨g, cap, cur, hv, _⟩
      · omega
      · exact ⟨_, _, hv⟩
    obtain ⟨p', c', rfl⟩ := hv
    refine h p' c' w' ⟨by rw [pairV_app]; exact hr, by simp [hown.2]⟩ ?_
    exact ⟨hg.os, hg.tape, hg.output, Nat.le_trans (by simp) hg.size, fun k hk hne => (hg.block k (by simp; omega) hne).trans (Below.heap_alloc _ _ _ hk)⟩
end
def highOf (s : Int) : Nat := leastOf s + 2 ^ bitsOf s - 1
/-- As many of one sign, in runs; what is left. -/
def splitGo (s : Int) : Nat → Nat → List (Int × Int) × Nat
  | 0, n => ([], n)
  | f+1, n => if n < leastOf s then ([], n) else ((s, ((min n (highOf s) : Nat) : Int) - leastOf s) :: (splitGo s f (n - min n (highOf s))).1, (splitGo s f (n - min n (highOf s))).2)
theorem high_ge (s : Int) : leastOf s ≤ highOf s := by
  unfold highOf
  have : 1 ≤ 2 ^ bitsOf s := Nat.one_le_two_pow
  omega
theorem splitGo_more (s : Int) : ∀ (f n : Nat), n ≤ f → splitGo s (f + 1) n = splitGo s f n := by
  have hle := leastOf_le s
  have hhi := high_ge s
  intro f
  induction f with
  | zero => intro n hn; simp only [splitGo]; rw [if_pos (by omega)]
  | succ f ih =>
    intro n hn
    rw [splitGo]
    conv => rhs; rw [splitGo]
    by_cases h : n < leastOf s
    · rw [if_pos h, if_pos h]
    · rw [if_neg h, if_neg h]
      have hm : n - min n (highOf s) ≤ f := by
        have : 1 ≤ min n (highOf s) := Nat.le_min.2 ⟨by omega, by omega⟩
        omega
      rw [ih _ hm]
theorem splitGo_fuel (s : Int) (n : Nat) : ∀ (d : Nat), splitGo s (n + d) n = splitGo s n n := by
  intro d
  induction d with
  | zero => rfl
  | succ d ih => rw [← Nat.add_assoc, splitGo_more s (n + d) n (by omega), ih]
theorem splitGo_step (s : Int) (n : Nat) (h : ¬ n < leastOf s) : splitGo s n n = ((s, ((min n (highOf s) : Nat) : Int) - leastOf s) :: (splitGo s (n - min n (highOf s)) (n - min n (highOf s))).1, (splitGo s (n - min n (highOf s)) (n - min n (highOf s))).2) := by
  have hle := leastOf_le s
  have hhi := high_ge s
  obtain ⟨f, rfl⟩ : ∃ f, n = f + 1 := ⟨n - 1, by omega⟩
  conv => lhs; rw [splitGo]
  rw [if_neg h]
  obtain ⟨d, hd⟩ : ∃ d, f = (f + 1 - min (f + 1) (highOf s)) + d := ⟨f - (f + 1 - min (f + 1) (highOf s)), by
    have : 1 ≤ min (f + 1) (highOf s) := Nat.le_min.2 ⟨by omega, by omega⟩
    omega⟩
  have := splitGo_fuel s (f + 1 - min (f + 1) (highOf s)) d
  rw [← hd] at this
  rw [this]
theorem splitGo_end (s : Int) (n : Nat) (h : n < leastOf s) : splitGo s n n = ([], n) := by
  cases n with
  | zero => rfl
  | succ f => rw [splitGo, if_pos h]
set_option maxRecDepth 100000 in
set_option maxHeartbeats 8000000 in
theorem split16_any (p : Option Addr) (n c : Nat) (ps : List (Int × Int)) (cnt : Nat) (w : World) (B : Nat) (hB0 : B ≤ w.heap.size) (hown : OwnR w B p n c ps) (hn : n + cnt ≤ 1000) :
  Calls Try.prog 65 #[.slice p n c, .int .i64 16, .int .i64 (cnt : Int)] w fun e w' => ∃ p' n' c', e = .returned (.tuple #[.slice p' n' c', .int .i64 ((splitGo 16 cnt cnt).2 : Int)]) ∧ OwnR w' B p' n' c' (ps ++ (splitGo 16 cnt cnt).1) ∧ n' + (splitGo 16 cnt cnt).2 ≤ n + cnt ∧ Below B w w' := by
  go_enter Try.func65, Try.ntmps65
  go_wp2_with fail
  refine (least_any 16 w).mono ?_
  rw [show leastOf 16 = 3 from rfl]
  rintro e w' ⟨rfl, rfl⟩
  go_wp2_with fail
  refine (runBits_any 16 w).mono ?_
  rw [show bitsOf 16 = 2 from rfl]
  rintro e w' ⟨rfl, rfl⟩
  go_wp2
  go_loopw [0, 2] (fun x0 x2 wr => ∃ (r n' c' : Nat) (p' : Option Addr) (acc : List (Int × Int)), x2 = .int .i64 r ∧ x0 = .slice p' n' c' ∧ n' + r ≤ n + cnt ∧ OwnR wr B p' n' c' (ps ++ acc) ∧ (acc ++ (splitGo 16 r r).1 = (splitGo 16 cnt cnt).1 ∧ (splitGo 16 r r).2 = (splitGo 16 cnt cnt).2) ∧ Below B w wr) (fun _ x2 _ => (intOf x2).toNat)
  case atStart => exact ⟨cnt, n, c, p, [], rfl, rfl, by omega, by simpa using hown, ⟨by simp, rfl⟩, Below.refl _ _⟩
  case round =>
    clear hown
    obtain ⟨r, n', c', p', acc, rfl, rfl, hr, hownr, hst, hB⟩ := hrel
    by_cases hge : 3 ≤ r
    · have hs := splitGo_step 16 r (by rw [show leastOf 16 = 3 from rfl]; omega)
      rw [show leastOf 16 = 3 from rfl, show highOf 16 = 6 from rfl] at hs
      rw [hs] at hst
      have HST := Lib.hid hst
      clear hs hst
      have hszr : B ≤ wr.heap.size := Nat.le_trans hB0 hB.size
      have hrow := fun k hk => (hownr.1.lt k hk).1
      have HROW := Lib.hid hrow
      clear hrow
      by_cases hhi : r ≤ 6
      · have hm : min r 6 = r := Nat.min_eq_left hhi
        rw [hm, Nat.sub_self] at HST
        have hmi : min (r : Int) 6 = r := by omega
        clear hm
        go_wp2_with (at_builtin; refine wpList_pushR rfl _ _ rfl (u := 16) (v := (r : Int) - 3) rfl rfl hownr rfl (by omega) hszr ?_; intro p2 c2 w2 hown2 hg2; have hB2 := hB.grown hg2 hszr (fun k hk => HROW.out k hk); clear hownr hB hg2)
        go_roundw
        case rel => exact ⟨0, n' + 1, c2, p2, acc ++ [(16, (r : Int) - 3)], by go_num, rfl, by omega, by rw [← List.append_assoc]; exact hown2, ⟨by rw [List.append_assoc]; exact HST.out.1, HST.out.2⟩, hB2⟩
        case measure => simp [intOf]; omega
      · have hm : min r 6 = 6 := Nat.min_eq_right (by omega)
        rw [hm] at HST
        have hmi : min (r : Int) 6 = 6 := by omega
        clear hm
        go_wp2_with (at_builtin; refine wpList_pushR rfl _ _ rfl (u := 16) (v := 3) rfl rfl hownr rfl (by omega) hszr ?_; intro p2 c2 w2 hown2 hg2; have hB2 := hB.grown hg2 hszr (fun k hk => HROW.out k hk); clear hownr hB hg2)
        go_roundw
        case rel => exact ⟨r - 6, n' + 1, c2, p2, acc ++ [(16, 3)], by go_num, rfl, by omega, by rw [← List.append_assoc]; exact hown2, ⟨by rw [List.append_assoc]; exact HST.out.1, HST.out.2⟩, hB2⟩
        case measure => simp [intOf]; omega
    · rw [splitGo_end 16 r (by rw [show leastOf 16 = 3 from rfl]; omega), List.append_nil] at hst
      simp only at hst
      have HF := Lib.hid (And.intro hownr (And.intro hst hB))
      clear hownr hst hB
      go_wp2
      go_ret2
      exact ⟨p', n', c', by rw [← HF.out.2.1.2]; rfl, by rw [← HF.out.2.1.1]; exact HF.out.1, by rw [← HF.out.2.1.2]; exact hr, HF.out.2.2⟩
set_option maxRecDepth 100000 in
set_option maxHeartbeats 8000000 in
theorem split17_any (p : Option Addr) (n c : Nat) (ps : List (Int × Int)) (cnt : Nat) (w : World) (B : Nat) (hB0 : B ≤ w.heap.size) (hown : OwnR w B p n c ps) (hn : n + cnt ≤ 1000) :
  Calls Try.prog 65 #[.slice p n c, .int .i64 17, .int .i64 (cnt : Int)] w fun e w' => ∃ p' n' c', e = .returned (.tuple #[.slice p' n' c', .int .i64 ((splitGo 17 cnt cnt).2 : Int)]) ∧ OwnR w' B p' n' c' (ps ++ (splitGo 17 cnt cnt).1) ∧ n' + (splitGo 17 cnt cnt).2 ≤ n + cnt ∧ Below B w w' := by
  go_enter Try.func65, Try.ntmps65
  go_wp2_with fail
  refine (least_any 17 w).mono ?_
  rw [show leastOf 17 = 3 from rfl]
  rintro e w' ⟨rfl, rfl⟩
  go_wp2_with fail
  refine (runBits_any 17 w).mono ?_
  rw [show bitsOf 17 = 3 from rfl]
  rintro e w' ⟨rfl, rfl⟩
  go_wp2
  go_loopw [0, 2] (fun x0 x2 wr => ∃ (r n' c' : Nat) (p' : Option Addr) (acc : List (Int × Int)), x2 = .int .i64 r ∧ x0 = .slice p' n' c' ∧ n' + r ≤ n + cnt ∧ OwnR wr B p' n' c' (ps ++ acc) ∧ (acc ++ (splitGo 17 r r).1 = (splitGo 17 cnt cnt).1 ∧ (splitGo 17 r r).2 = (splitGo 17 cnt cnt).2) ∧ Below B w wr) (fun _ x2 _ => (intOf x2).toNat)
  case atStart => exact ⟨cnt, n, c, p, [], rfl, rfl, by omega, by simpa using hown, ⟨by simp, rfl⟩, Below.refl _ _⟩
  case round =>
    clear hown
    obtain ⟨r, n', c', p', acc, rfl, rfl, hr, hownr, hst, hB⟩ := hrel
    by_cases hge : 3 ≤ r
    · have hs := splitGo_step 17 r (by rw [show leastOf 17 = 3 from rfl]; omega)
      rw [show leastOf 17 = 3 from rfl, show highOf 17 = 10 from rfl] at hs
      rw [hs] at hst
      have HST := Lib.hid hst
      clear hs hst
      have hszr : B ≤ wr.heap.size := Nat.le_trans hB0 hB.size
      have hrow := fun k hk => (hownr.1.lt k hk).1
      have HROW := Lib.hid hrow
      clear hrow
      by_cases hhi : r ≤ 10
      · have hm : min r 10 = r := Nat.min_eq_left hhi
        rw [hm, Nat.sub_self] at HST
        have hmi : min (r : Int) 10 = r := by omega
        clear hm
        go_wp2_with (at_builtin; refine wpList_pushR rfl _ _ rfl (u := 17) (v := (r : Int) - 3) rfl rfl hownr rfl (by omega) hszr ?_; intro p2 c2 w2 hown2 hg2; have hB2 := hB.grown hg2 hszr (fun k hk => HROW.out k hk); clear hownr hB hg2)
        go_roundw
        case rel => exact ⟨0, n' + 1, c2, p2, acc ++ [(17, (r : Int) - 3)], by go_num, rfl, by omega, by rw [← List.append_assoc]; exact hown2, ⟨by rw [List.append_assoc]; exact HST.out.1, HST.out.2⟩, hB2⟩
        case measure => simp [intOf]; omega
      · have hm : min r 10 = 10 := Nat.min_eq_right (by omega)
        rw [hm] at HST
        have hmi : min (r : Int) 10 = 10 := by omega
        clear hm
        go_wp2_with (at_builtin; refine wpList_pushR rfl _ _ rfl (u := 17) (v := 7) rfl rfl hownr rfl (by omega) hszr ?_; intro p2 c2 w2 hown2 hg2; have hB2 := hB.grown hg2 hszr (fun k hk => HROW.out k hk); clear hownr hB hg2)
        go_roundw
        case rel => exact ⟨r - 10, n' + 1, c2, p2, acc ++ [(17, 7)], by go_num, rfl, by omega, by rw [← List.append_assoc]; exact hown2, ⟨by rw [List.append_assoc]; exact HST.out.1, HST.out.2⟩, hB2⟩
        case measure => simp [intOf]; omega
    · rw [splitGo_end 17 r (by rw [show leastOf 17 = 3 from rfl]; omega), List.append_nil] at hst
      simp only at hst
      have HF := Lib.hid (And.intro hownr (And.intro hst hB))
      clear hownr hst hB
      go_wp2
      go_ret2
      exact ⟨p', n', c', by rw [← HF.out.2.1.2]; rfl, by rw [← HF.out.2.1.1]; exact HF.out.1, by rw [← HF.out.2.1.2]; exact hr, HF.out.2.2⟩
set_option maxRecDepth 100000 in
set_option maxHeartbeats 8000000 in
theorem split18_any (p : Option Addr) (n c : Nat) (ps : List (Int × Int)) (cnt : Nat) (w : World) (B : Nat) (hB0 : B ≤ w.heap.size) (hown : OwnR w B p n c ps) (hn : n + cnt ≤ 1000) :
  Calls Try.prog 65 #[.slice p n c, .int .i64 18, .int .i64 (cnt : Int)] w fun e w' => ∃ p' n' c', e = .returned (.tuple #[.slice p' n' c', .int .i64 ((splitGo 18 cnt cnt).2 : Int)]) ∧ OwnR w' B p' n' c' (ps ++ (splitGo 18 cnt cnt).1) ∧ n' + (splitGo 18 cnt cnt).2 ≤ n + cnt ∧ Below B w w' := by
  go_enter Try.func65, Try.ntmps65
  go_wp2_with fail
  refine (least_any 18 w).mono ?_
  rw [show leastOf 18 = 11 from rfl]
  rintro e w' ⟨rfl, rfl⟩
  go_wp2_with fail
  refine (runBits_any 18 w).mono ?_
  rw [show bitsOf 18 = 7 from rfl]
  rintro e w' ⟨rfl, rfl⟩
  go_wp2
  go_loopw [0, 2] (fun x0 x2 wr => ∃ (r n' c' : Nat) (p' : Option Addr) (acc : List (Int × Int)), x2 = .int .i64 r ∧ x0 = .slice p' n' c' ∧ n' + r ≤ n + cnt ∧ OwnR wr B p' n' c' (ps ++ acc) ∧ (acc ++ (splitGo 18 r r).1 = (splitGo 18 cnt cnt).1 ∧ (splitGo 18 r r).2 = (splitGo 18 cnt cnt).2) ∧ Below B w wr) (fun _ x2 _ => (intOf x2).toNat)
  case atStart => exact ⟨cnt, n, c, p, [], rfl, rfl, by omega, by simpa using hown, ⟨by simp, rfl⟩, Below.refl _ _⟩
  case round =>
    clear hown
    obtain ⟨r, n', c', p', acc, rfl, rfl, hr, hownr, hst, hB⟩ := hrel
    by_cases hge : 11 ≤ r
    · have hs := splitGo_step 18 r (by rw [show leastOf 18 = 11 from rfl]; omega)
      rw [show leastOf 18 = 11 from rfl, show highOf 18 = 138 from rfl] at hs
      rw [hs] at hst
      have HST := Lib.hid hst
      clear hs hst
      have hszr : B ≤ wr.heap.size := Nat.le_trans hB0 hB.size
      have hrow := fun k hk => (hownr.1.lt k hk).1
      have HROW := Lib.hid hrow
      clear hrow
      by_cases hhi : r ≤ 138
      · have hm : min r 138 = r := Nat.min_eq_left hhi
        rw [hm, Nat.sub_self] at HST
        have hmi : min (r : Int) 138 = r := by omega
        clear hm
        go_wp2_with (at_builtin; refine wpList_pushR rfl _ _ rfl (u := 18) (v := (r : Int) - 11) rfl rfl hownr rfl (by omega) hszr ?_; intro p2 c2 w2 hown2 hg2; have hB2 := hB.grown hg2 hszr (fun k hk => HROW.out k hk); clear hownr hB hg2)
        go_roundw
        case rel => exact ⟨0, n' + 1, c2, p2, acc ++ [(18, (r : Int) - 11)], by go_num, rfl, by omega, by rw [← List.append_assoc]; exact hown2, ⟨by rw [List.append_assoc]; exact HST.out.1, HST.out.2⟩, hB2⟩
        case measure => simp [intOf]; omega
      · have hm : min r 138 = 138 := Nat.min_eq_right (by omega)
        rw [hm] at HST
        have hmi : min (r : Int) 138 = 138 := by omega
        clear hm
        go_wp2_with (at_builtin; refine wpList_pushR rfl _ _ rfl (u := 18) (v := 127) rfl rfl hownr rfl (by omega) hszr ?_; intro p2 c2 w2 hown2 hg2; have hB2 := hB.grown hg2 hszr (fun k hk => HROW.out k hk); clear hownr hB hg2)
        go_roundw
        case rel => exact ⟨r - 138, n' + 1, c2, p2, acc ++ [(18, 127)], by go_num, rfl, by omega, by rw [← List.append_assoc]; exact hown2, ⟨by rw [List.append_assoc]; exact HST.out.1, HST.out.2⟩, hB2⟩
        case measure => simp [intOf]; omega
    · rw [splitGo_end 18 r (by rw [show leastOf 18 = 11 from rfl]; omega), List.append_nil] at hst
      simp only at hst
      have HF := Lib.hid (And.intro hownr (And.intro hst hB))
      clear hownr hst hB
      go_wp2
      go_ret2
      exact ⟨p', n', c', by rw [← HF.out.2.1.2]; rfl, by rw [← HF.out.2.1.1]; exact HF.out.1, by rw [← HF.out.2.1.2]; exact hr, HF.out.2.2⟩
end Go.Proofs.Ytmmgcfhoigpomaa
