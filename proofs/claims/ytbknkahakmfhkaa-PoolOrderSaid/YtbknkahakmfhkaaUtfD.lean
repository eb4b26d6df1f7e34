/- The document's Units. -/
import Derived.Test.YtbknkahakmfhkaaUtfL
import Derived.Test.YtbknkahakmfhkaaGrowM
import Derived.Deep.QuietTactic
import Derived.BigQuiet
namespace Go.Proofs.Ytbknkahakmfhkaa
open Go.RowKit
set_option linter.unusedVariables false
set_option linter.unusedSimpArgs false

section
variable {P : Program} {ops : Array Oper} {Q : Exit → Act → World → Prop} {a : Act} {w0 : World} {o : Oper} {rest : List Oper} {done : List (Nat × Spec)} {α : Type} {E : α → Value}
/-- A composite literal of a slice. -/
theorem gw_litU (vs : List α) (h1 : ∀ (a' : Act) (w' : World), (∀ t ∈ o.looksAt ops, KnownAt done a a' w' t) → Region.wanted o (yielded ops a'.tmps) = true ∧ ∃ (cs : Array Value) (e : TypeId), cs.toList = vs.map E ∧ (execOp a'.eval o).run P w' = .ok (.value (.slice (some ⟨w'.heap.size, 0, none⟩) vs.length vs.length)) (w'.alloc (.cells cs e)))
    (h : GW P ops Q a w0 rest (consD o (SliceG E vs) done)) : GW P ops Q a w0 (o :: rest) done := by
  refine ⟨_, mono_slice E vs, fun a' w' hb hk => ?_, h⟩
  obtain ⟨h2, cs, e, h3, h4⟩ := h1 a' w' hk
  rw [if_pos h2]
  unfold Oper.wp
  rw [h4]
  exact ⟨_, rfl, ⟨_, _, _, rfl, rfl, rd_new w' cs e (0, 0) vs h3⟩, below_alloc _ _⟩
end
theorem str_cut (l : List UInt8) (i n : Nat) (h : i + n ≤ l.length) : (strOf l).extract i (i + n) = strOf ((l.drop i).take n) := by
  apply ByteArray.ext
  simp [strOf]
set_option maxRecDepth 100000 in
set_option maxHeartbeats 16000000 in
theorem runits_any (s : ByteArray) (l : List UInt8) (w : World) (hs : Hid (s = strOf l)) (hl : l.length ≤ 1000000) :
  Calls Try.prog 86 #[.string s] w (UnitsPost w l) := by
  have hsz : s.size = l.length := by rw [hs.out, str_size]
  have hget : ∀ (i : Nat) (h : i < l.length), s[i]'(by omega) = l[i] := by
    intro i h
    have h2 : ∀ (q : ByteArray) (hq : i < q.size), q = strOf l → q[i]'hq = l[i] := by
      rintro q hq rfl; exact str_get _ h
    exact h2 s (by omega) hs.out
  have HGET := Lib.hid hget
  clear hget
  go_enter Try.func86, Try.ntmps86
  go_wp2
  go_loopw [4, 5] (fun x4 x5 wr => ∃ (i k : Nat) (q : Option Addr) (d : Nat) (pre : List Nat), i ≤ l.length ∧ k ≤ i ∧ x5 = .int .i64 i ∧ x4 = .slice q k d ∧ Hid (unitsOf l = (unitsOf (l.drop i)).map (pre ++ ·)) ∧ Own wr w.heap.size 22 hE q k d pre ∧ Below w.heap.size w wr) (fun _ x5 _ => l.length - (intOf x5).toNat)
  case atStart => exact ⟨0, 0, none, 0, [], Nat.zero_le _, Nat.le_refl _, rfl, rfl, Lib.hid (by cases h : unitsOf l <;> simp [h]), Own.nil, Below.refl _ _⟩
  case round =>
    obtain ⟨i, k, q, d, pre, hi, hki, rfl, rfl, hst, hO, hB⟩ := hrel
    by_cases hil : i < l.length
    · have g0 := HGET.out i hil
      have hd : l.drop i = l[i] :: l.drop (i + 1) := List.drop_eq_getElem_cons hil
      have HD := Lib.hid hd
      have HSTEP := Lib.hid (unitsOf_step (l := l.drop i) (by rw [List.length_drop]; omega))
      have HO := Lib.hid hO
      have HB := Lib.hid hB
      have hb0 := l[i].toNat_lt
      clear hd hO hB
      generalize l[i] = b at *
      by_cases h1 : b.toNat < 192
      · have k1 : ¬ (224 : Int) ≤ (b.toNat : Int) := by omega
        have k2 : ¬ (192 : Int) ≤ (b.toNat : Int) := by omega
        have hn1 := next_one b (l.drop (i + 1)) h1
        obtain ⟨v, hv⟩ : ∃ v, v = b.toNat := ⟨_, rfl⟩
        rw [← hv] at hn1
        have HNX : Hid (nextU (l.drop i) = if encU v = (l.drop i).take 1 then (v, 1) else (0, 0)) := Lib.hid (by rw [HD.out, hn1]; rfl)
        have hvr : v < 65536 := by omega
        have gfit : ¬ (l.length : Int) < (i : Int) + 1 := by omega
        clear hn1 h1
        go_wp2_with fail
        rw [← hv]
        clear k1 k2 hv
        have HV : Hid (v < 65536) := Lib.hid hvr
        have gv : ¬ (65535 : Int) < (v : Int) := by omega
        have gw16 : IntKind.u16.wrap (v : Int) = (v : Int) := by rw [IntKind.wrap_u16]; omega
        have gsum : IntKind.i64.wrap ((i : Int) + 1) = (i : Int) + 1 := by rw [IntKind.wrap_i64]; omega
        have gsl1 : ((i : Int) + 1).toNat = i + 1 := by omega
        have gsl2 : (i : Int) + 1 ≤ (l.length : Int) := by omega
        have gsl3 : i + 1 ≤ l.length := by omega
        have gsl4 : i ≤ i + 1 := by omega
        have gsl5 : (0 : Int) ≤ (i : Int) + 1 := by omega
        have gsl6 : (i : Int) ≤ (i : Int) + 1 := by omega
        obtain ⟨bv, HBV⟩ : ∃ bv : ByteArray, Hid (bv = strOf (bytU [v])) := ⟨_, Lib.hid rfl⟩
        obtain ⟨sx, HSX, hsx⟩ : ∃ sx : ByteArray, Hid (sx = strOf ((l.drop i).take 1)) ∧ s.extract i (i + 1) = sx := ⟨_, Lib.hid rfl, by rw [hs.out]; exact str_cut l i 1 (by omega)⟩
        have HEQ : Hid ((bv.toList == sx.toList) = decide (encU v = (l.drop i).take 1)) := Lib.hid (by
          rw [HBV.out, HSX.out, strOf_toList, strOf_toList, show bytU [v] = encU v by simp [bytU]]
          by_cases h : encU v = (l.drop i).take 1
          · rw [h, decide_eq_true rfl]; simp
          · rw [decide_eq_false h]; exact beq_eq_false_iff_ne.2 h)
        obtain ⟨bq, hbq, HBQ⟩ : ∃ bq : Bool, bq = (bv.toList == sx.toList) ∧ Hid (bq = decide (encU v = (l.drop i).take 1)) := ⟨_, rfl, Lib.hid HEQ.out⟩
        have gne : (bv.toList == sx.toList) = bq := hbq.symm
        clear hbq HEQ
        refine wp_region_grow (by kernel_rfl) (by kernel_rfl) (by rfl) ?_
        apply gw_val
        · intro a' w' hk
          refine ⟨wanted_none rfl, ?_⟩
          simp [Oper.looksAt, Op.operands, Call.operands, KnownAt, List.lookup, consD] at hk
          simp [execOp, Act.eval, hk, go_sem]
          all_goals rfl
        apply gw_val
        · intro a' w' hk
          refine ⟨wanted_none rfl, ?_⟩
          simp [Oper.looksAt, Op.operands, Call.operands, KnownAt, List.lookup, consD] at hk
          simp [execOp, Act.eval, hk, go_sem, gv]
          all_goals rfl
        apply gw_val
        · intro a' w' hk
          refine ⟨wanted_none rfl, ?_⟩
          simp [Oper.looksAt, Op.operands, Call.operands, KnownAt, List.lookup, consD] at hk
          simp [execOp, Act.eval, hk, go_sem]
          all_goals rfl
        apply gw_val
        · intro a' w' hk
          refine ⟨wanted_guard (t := 62) rfl rfl (by simpa [KnownAt, List.lookup, consD] using hk 62 (by decide)), ?_⟩
          simp [Oper.looksAt, Op.operands, Call.operands, KnownAt, List.lookup, consD] at hk
          simp [execOp, Act.eval, hk, go_sem]
          all_goals rfl
        apply gw_val
        · intro a' w' hk
          refine ⟨wanted_guard (t := 62) rfl rfl (by simpa [KnownAt, List.lookup, consD] using hk 62 (by decide)), ?_⟩
          simp [Oper.looksAt, Op.operands, Call.operands, KnownAt, List.lookup, consD] at hk
          simp [execOp, Act.eval, hk, go_sem, gw16]
          all_goals rfl
        refine gw_litU (E := hE) [v] ?_ ?_
        · intro a' w' hk
          refine ⟨wanted_guard (t := 62) rfl rfl (by simpa [KnownAt, List.lookup, consD] using hk 62 (by decide)), (List.map hE [v]).toArray, 22, by simp, ?_⟩
          simp [Oper.looksAt, Op.operands, Call.operands, KnownAt, List.lookup, consD] at hk
          simp [execOp, Act.eval, hk, go_sem]
          all_goals rfl
        refine gw_callE 114 (fun args w => ∃ v1 : Value, args = #[v1] ∧ (SliceG hE [v]) v1 w) (fun y _ => y = .string bv) (mono_eq _) (fun a' w' hk => ?_) (fun w' args hb hA => ?_) ?_
        · refine ⟨wanted_guard (t := 62) rfl rfl (by simpa [KnownAt, List.lookup, consD] using hk 62 (by decide)), #[a'.tmps.getD 65 undef], ⟨_, rfl, hk 65 (by decide)⟩, ?_⟩
          simp [execOp, Act.eval, go_sem]
          all_goals rfl
        · obtain ⟨v1, rfl, q, m', d', rfl, hm', hq⟩ := hA
          refine (rbytes_any q m' d' [v] w' hm' (by rw [← hm']; simp) hq (by intro x hx; rw [List.mem_singleton.1 hx]; exact HV.out)).mono ?_
          rintro e w'' ⟨rfl, hB⟩
          exact ⟨_, rfl, by rw [HBV.out], hB⟩
        apply gw_val
        · intro a' w' hk
          refine ⟨wanted_guard (t := 62) rfl rfl (by simpa [KnownAt, List.lookup, consD] using hk 62 (by decide)), ?_⟩
          simp [Oper.looksAt, Op.operands, Call.operands, KnownAt, List.lookup, consD] at hk
          simp [execOp, Act.eval, hk, go_sem]
          all_goals rfl
        apply gw_val
        · intro a' w' hk
          refine ⟨wanted_guard (t := 62) rfl rfl (by simpa [KnownAt, List.lookup, consD] using hk 62 (by decide)), ?_⟩
          simp [Oper.looksAt, Op.operands, Call.operands, KnownAt, List.lookup, consD] at hk
          simp [execOp, Act.eval, hk, go_sem]
          all_goals rfl
        apply gw_val
        · intro a' w' hk
          refine ⟨wanted_guard (t := 62) rfl rfl (by simpa [KnownAt, List.lookup, consD] using hk 62 (by decide)), ?_⟩
          simp [Oper.looksAt, Op.operands, Call.operands, KnownAt, List.lookup, consD] at hk
          simp [execOp, Act.eval, hk, go_sem]
          all_goals rfl
        apply gw_val
        · intro a' w' hk
          refine ⟨wanted_guard (t := 62) rfl rfl (by simpa [KnownAt, List.lookup, consD] using hk 62 (by decide)), ?_⟩
          simp [Oper.looksAt, Op.operands, Call.operands, KnownAt, List.lookup, consD] at hk
          simp [execOp, Act.eval, hk, go_sem]
          all_goals rfl
        apply gw_val
        · intro a' w' hk
          refine ⟨wanted_guard (t := 62) rfl rfl (by simpa [KnownAt, List.lookup, consD] using hk 62 (by decide)), ?_⟩
          simp [Oper.looksAt, Op.operands, Call.operands, KnownAt, List.lookup, consD] at hk
          simp [execOp, Act.eval, hk, go_sem, gsum]
          all_goals rfl
        apply gw_val
        · intro a' w' hk
          refine ⟨wanted_guard (t := 62) rfl rfl (by simpa [KnownAt, List.lookup, consD] using hk 62 (by decide)), ?_⟩
          simp [Oper.looksAt, Op.operands, Call.operands, KnownAt, List.lookup, consD] at hk
          simp [execOp, Act.eval, hk, go_sem, gsl1, gsl2, gsl3, gsl4, gsl5, gsl6, hsz, hsx]
          all_goals rfl
        apply gw_val
        · intro a' w' hk
          refine ⟨wanted_guard (t := 62) rfl rfl (by simpa [KnownAt, List.lookup, consD] using hk 62 (by decide)), ?_⟩
          simp [Oper.looksAt, Op.operands, Call.operands, KnownAt, List.lookup, consD] at hk
          simp [execOp, Act.eval, hk, go_sem, gne]
          all_goals rfl
        apply gw_val
        · intro a' w' hk
          refine ⟨wanted_none rfl, ?_⟩
          simp [Oper.looksAt, Op.operands, Call.operands, KnownAt, List.lookup, consD] at hk
          simp [execOp, Act.eval, hk, go_sem]
          all_goals rfl
        intro vs w8 hb8 hall
        simp only [AllS, consD] at hall
        simp only [consD, putAllS, Act.put]
        obtain ⟨h74, -⟩ := hall
        rw [h74]
        simp only [List.setIfInBounds_toArray, List.set_cons_succ, List.set_cons_zero]
        have hB8 : Below wr.heap.size wr w8 := ((Below.refl wr.heap.size wr).drew).trans hb8
        have HB8 := Lib.hid (HB.out.trans (hB8.mono HB.out.size))
        have HO8 := Lib.hid (HO.out.below hB8)
        clear hb8 hB8 h74
        by_cases hq : encU v = (l.drop i).take 1
        · have hbt : bq = true := by rw [HBQ.out, decide_eq_true hq]
          subst hbt
          have HST2 : Hid (unitsOf l = (unitsOf (l.drop (i + 1))).map (pre ++ [v] ++ ·)) := Lib.hid (by
            rw [hst.out, HSTEP.out, HNX.out, if_pos hq, if_neg (by simp)]
            simp only
            rw [List.drop_drop]
            cases unitsOf (l.drop (i + 1)) <;> simp)
          have hcell : Hid ((w8.alloc (.cells #[.int .u16 (v : Int)] 22)).cell? ⟨w8.heap.size, 0, none⟩ = some (hE v)) := Lib.hid (cell_push rfl w8 _)
          have hbs := HB8.out.size
          clear hq HNX HSTEP
          go_wp2_with (at_builtin; refine wpList_push (w0 := w8) slU16 rfl _ _ rfl rfl rfl HO8.out v _ rfl hcell.out rfl (by omega) (by unfold maxLen; omega) hbs ?_; intro p3 c3 w3 hown3 hg3)
          have HF := Lib.hid (And.intro hown3 (HO8.out.step HB8.out hg3 hbs))
          clear hown3 hg3 hcell
          go_roundw
          case rel => exact ⟨i + 1, k + 1, p3, c3, pre ++ [v], by omega, by omega, by go_num, rfl, HST2, HF.out⟩
          case measure => simp [intOf] <;> omega
        · have hbt : bq = false := by rw [HBQ.out, decide_eq_false hq]
          subst hbt
          have HNO : Hid (unitsOf l = none) := Lib.hid (by rw [hst.out, HSTEP.out, HNX.out, if_neg hq]; simp)
          clear hq HNX HSTEP
          go_wp2
          go_ret2
          exact ⟨HB8.out, .inl ⟨HNO.out, rfl⟩⟩
      · by_cases h2 : b.toNat < 224
        · have k1 : ¬ (224 : Int) ≤ (b.toNat : Int) := by omega
          have k2 : (192 : Int) ≤ (b.toNat : Int) := by omega
          by_cases hfit : i + 2 ≤ l.length
          · have g1 := HGET.out (i + 1) (by omega)
            have hd1 : l.drop (i + 1) = l[i + 1] :: l.drop (i + 2) := List.drop_eq_getElem_cons (by omega)
            have hb1 := l[i + 1].toNat_lt
            generalize l[i + 1] = b1 at *
            have hn2 := next_two b b1 (l.drop (i + 2)) (by omega) h2
            obtain ⟨v, hv⟩ : ∃ v, v = (b.toNat - 192) * 64 + b1.toNat % 64 := ⟨_, rfl⟩
            rw [← hv] at hn2
            have HNX : Hid (nextU (l.drop i) = if encU v = (l.drop i).take 2 then (v, 2) else (0, 0)) := Lib.hid (by rw [HD.out, hd1, hn2]; rfl)
            have hvr : v < 65536 := by omega
            have gfit : ¬ (l.length : Int) < (i : Int) + 2 := by omega
            have gi1 : ((i : Int) + 1).toNat = i + 1 := by omega
            have hvI : ((b.toNat : Int) - 192) * 64 + (b1.toNat : Int) % 64 = (v : Int) := by omega
            clear hn2 h1 h2 hd1 hv
            go_wp2_with fail
            clear k1 k2 hvI
            have HV : Hid (v < 65536) := Lib.hid hvr
            have gv : ¬ (65535 : Int) < (v : Int) := by omega
            have gw16 : IntKind.u16.wrap (v : Int) = (v : Int) := by rw [IntKind.wrap_u16]; omega
            have gsum : IntKind.i64.wrap ((i : Int) + 2) = (i : Int) + 2 := by rw [IntKind.wrap_i64]; omega
            have gsl1 : ((i : Int) + 2).toNat = i + 2 := by omega
            have gsl2 : (i : Int) + 2 ≤ (l.length : Int) := by omega
            have gsl3 : i + 2 ≤ l.length := by omega
            have gsl4 : i ≤ i + 2 := by omega
            have gsl5 : (0 : Int) ≤ (i : Int) + 2 := by omega
            have gsl6 : (i : Int) ≤ (i : Int) + 2 := by omega
            obtain ⟨bv, HBV⟩ : ∃ bv : ByteArray, Hid (bv = strOf (bytU [v])) := ⟨_, Lib.hid rfl⟩
            obtain ⟨sx, HSX, hsx⟩ : ∃ sx : ByteArray, Hid (sx = strOf ((l.drop i).take 2)) ∧ s.extract i (i + 2) = sx := ⟨_, Lib.hid rfl, by rw [hs.out]; exact str_cut l i 2 (by omega)⟩
            have HEQ : Hid ((bv.toList == sx.toList) = decide (encU v = (l.drop i).take 2)) := Lib.hid (by
              rw [HBV.out, HSX.out, strOf_toList, strOf_toList, show bytU [v] = encU v by simp [bytU]]
              by_cases h : encU v = (l.drop i).take 2
              · rw [h, decide_eq_true rfl]; simp
              · rw [decide_eq_false h]; exact beq_eq_false_iff_ne.2 h)
            obtain ⟨bq, hbq, HBQ⟩ : ∃ bq : Bool, bq = (bv.toList == sx.toList) ∧ Hid (bq = decide (encU v = (l.drop i).take 2)) := ⟨_, rfl, Lib.hid HEQ.out⟩
            have gne : (bv.toList == sx.toList) = bq := hbq.symm
            clear hbq HEQ
            refine wp_region_grow (by kernel_rfl) (by kernel_rfl) (by rfl) ?_
            apply gw_val
            · intro a' w' hk
              refine ⟨wanted_none rfl, ?_⟩
              simp [Oper.looksAt, Op.operands, Call.operands, KnownAt, List.lookup, consD] at hk
              simp [execOp, Act.eval, hk, go_sem]
              all_goals rfl
            apply gw_val
            · intro a' w' hk
              refine ⟨wanted_none rfl, ?_⟩
              simp [Oper.looksAt, Op.operands, Call.operands, KnownAt, List.lookup, consD] at hk
              simp [execOp, Act.eval, hk, go_sem, gv]
              all_goals rfl
            apply gw_val
            · intro a' w' hk
              refine ⟨wanted_none rfl, ?_⟩
              simp [Oper.looksAt, Op.operands, Call.operands, KnownAt, List.lookup, consD] at hk
              simp [execOp, Act.eval, hk, go_sem]
              all_goals rfl
            apply gw_val
            · intro a' w' hk
              refine ⟨wanted_guard (t := 62) rfl rfl (by simpa [KnownAt, List.lookup, consD] using hk 62 (by decide)), ?_⟩
              simp [Oper.looksAt, Op.operands, Call.operands, KnownAt, List.lookup, consD] at hk
              simp [execOp, Act.eval, hk, go_sem]
              all_goals rfl
            apply gw_val
            · intro a' w' hk
              refine ⟨wanted_guard (t := 62) rfl rfl (by simpa [KnownAt, List.lookup, consD] using hk 62 (by decide)), ?_⟩
              simp [Oper.looksAt, Op.operands, Call.operands, KnownAt, List.lookup, consD] at hk
              simp [execOp, Act.eval, hk, go_sem, gw16]
              all_goals rfl
            refine gw_litU (E := hE) [v] ?_ ?_
            · intro a' w' hk
              refine ⟨wanted_guard (t := 62) rfl rfl (by simpa [KnownAt, List.lookup, consD] using hk 62 (by decide)), (List.map hE [v]).toArray, 22, by simp, ?_⟩
              simp [Oper.looksAt, Op.operands, Call.operands, KnownAt, List.lookup, consD] at hk
              simp [execOp, Act.eval, hk, go_sem]
              all_goals rfl
            refine gw_callE 114 (fun args w => ∃ v1 : Value, args = #[v1] ∧ (SliceG hE [v]) v1 w) (fun y _ => y = .string bv) (mono_eq _) (fun a' w' hk => ?_) (fun w' args hb hA => ?_) ?_
            · refine ⟨wanted_guard (t := 62) rfl rfl (by simpa [KnownAt, List.lookup, consD] using hk 62 (by decide)), #[a'.tmps.getD 65 undef], ⟨_, rfl, hk 65 (by decide)⟩, ?_⟩
              simp [execOp, Act.eval, go_sem]
              all_goals rfl
            · obtain ⟨v1, rfl, q, m', d', rfl, hm', hq⟩ := hA
              refine (rbytes_any q m' d' [v] w' hm' (by rw [← hm']; simp) hq (by intro x hx; rw [List.mem_singleton.1 hx]; exact HV.out)).mono ?_
              rintro e w'' ⟨rfl, hB⟩
              exact ⟨_, rfl, by rw [HBV.out], hB⟩
            apply gw_val
            · intro a' w' hk
              refine ⟨wanted_guard (t := 62) rfl rfl (by simpa [KnownAt, List.lookup, consD] using hk 62 (by decide)), ?_⟩
              simp [Oper.looksAt, Op.operands, Call.operands, KnownAt, List.lookup, consD] at hk
              simp [execOp, Act.eval, hk, go_sem]
              all_goals rfl
            apply gw_val
            · intro a' w' hk
              refine ⟨wanted_guard (t := 62) rfl rfl (by simpa [KnownAt, List.lookup, consD] using hk 62 (by decide)), ?_⟩
              simp [Oper.looksAt, Op.operands, Call.operands, KnownAt, List.lookup, consD] at hk
              simp [execOp, Act.eval, hk, go_sem]
              all_goals rfl
            apply gw_val
            · intro a' w' hk
              refine ⟨wanted_guard (t := 62) rfl rfl (by simpa [KnownAt, List.lookup, consD] using hk 62 (by decide)), ?_⟩
              simp [Oper.looksAt, Op.operands, Call.operands, KnownAt, List.lookup, consD] at hk
              simp [execOp, Act.eval, hk, go_sem]
              all_goals rfl
            apply gw_val
            · intro a' w' hk
              refine ⟨wanted_guard (t := 62) rfl rfl (by simpa [KnownAt, List.lookup, consD] using hk 62 (by decide)), ?_⟩
              simp [Oper.looksAt, Op.operands, Call.operands, KnownAt, List.lookup, consD] at hk
              simp [execOp, Act.eval, hk, go_sem]
              all_goals rfl
            apply gw_val
            · intro a' w' hk
              refine ⟨wanted_guard (t := 62) rfl rfl (by simpa [KnownAt, List.lookup, consD] using hk 62 (by decide)), ?_⟩
              simp [Oper.looksAt, Op.operands, Call.operands, KnownAt, List.lookup, consD] at hk
              simp [execOp, Act.eval, hk, go_sem, gsum]
              all_goals rfl
            apply gw_val
            · intro a' w' hk
              refine ⟨wanted_guard (t := 62) rfl rfl (by simpa [KnownAt, List.lookup, consD] using hk 62 (by decide)), ?_⟩
              simp [Oper.looksAt, Op.operands, Call.operands, KnownAt, List.lookup, consD] at hk
              simp [execOp, Act.eval, hk, go_sem, gsl1, gsl2, gsl3, gsl4, gsl5, gsl6, hsz, hsx]
              all_goals rfl
            apply gw_val
            · intro a' w' hk
              refine ⟨wanted_guard (t := 62) rfl rfl (by simpa [KnownAt, List.lookup, consD] using hk 62 (by decide)), ?_⟩
              simp [Oper.looksAt, Op.operands, Call.operands, KnownAt, List.lookup, consD] at hk
              simp [execOp, Act.eval, hk, go_sem, gne]
              all_goals rfl
            apply gw_val
            · intro a' w' hk
              refine ⟨wanted_none rfl, ?_⟩
              simp [Oper.looksAt, Op.operands, Call.operands, KnownAt, List.lookup, consD] at hk
              simp [execOp, Act.eval, hk, go_sem]
              all_goals rfl
            intro vs w8 hb8 hall
            simp only [AllS, consD] at hall
            simp only [consD, putAllS, Act.put]
            obtain ⟨h74, -⟩ := hall
            rw [h74]
            simp only [List.setIfInBounds_toArray, List.set_cons_succ, List.set_cons_zero]
            have hB8 : Below wr.heap.size wr w8 := ((Below.refl wr.heap.size wr).drew).trans hb8
            have HB8 := Lib.hid (HB.out.trans (hB8.mono HB.out.size))
            have HO8 := Lib.hid (HO.out.below hB8)
            clear hb8 hB8 h74
            by_cases hq : encU v = (l.drop i).take 2
            · have hbt : bq = true := by rw [HBQ.out, decide_eq_true hq]
              subst hbt
              have HST2 : Hid (unitsOf l = (unitsOf (l.drop (i + 2))).map (pre ++ [v] ++ ·)) := Lib.hid (by
                rw [hst.out, HSTEP.out, HNX.out, if_pos hq, if_neg (by simp)]
                simp only
                rw [List.drop_drop]
                cases unitsOf (l.drop (i + 2)) <;> simp)
              have hcell : Hid ((w8.alloc (.cells #[.int .u16 (v : Int)] 22)).cell? ⟨w8.heap.size, 0, none⟩ = some (hE v)) := Lib.hid (cell_push rfl w8 _)
              have hbs := HB8.out.size
              clear hq HNX HSTEP
              go_wp2_with (at_builtin; refine wpList_push (w0 := w8) slU16 rfl _ _ rfl rfl rfl HO8.out v _ rfl hcell.out rfl (by omega) (by unfold maxLen; omega) hbs ?_; intro p3 c3 w3 hown3 hg3)
              have HF := Lib.hid (And.intro hown3 (HO8.out.step HB8.out hg3 hbs))
              clear hown3 hg3 hcell
              go_roundw
              case rel => exact ⟨i + 2, k + 1, p3, c3, pre ++ [v], by omega, by omega, by go_num, rfl, HST2, HF.out⟩
              case measure => simp [intOf] <;> omega
            · have hbt : bq = false := by rw [HBQ.out, decide_eq_false hq]
              subst hbt
              have HNO : Hid (unitsOf l = none) := Lib.hid (by rw [hst.out, HSTEP.out, HNX.out, if_neg hq]; simp)
              clear hq HNX HSTEP
              go_wp2
              go_ret2
              exact ⟨HB8.out, .inl ⟨HNO.out, rfl⟩⟩
          · have gfit : (l.length : Int) < (i : Int) + 2 := by omega
            have HNO : Hid (unitsOf l = none) := Lib.hid (by
              rw [hst.out, HSTEP.out, HD.out, show l.drop (i + 1) = [] from List.drop_of_length_le (by omega), next_two0 b (by omega) h2]; simp)
            clear h1 h2
            go_wp2
            go_ret2
            exact ⟨HB.out, .inl ⟨HNO.out, rfl⟩⟩
        · have k1 : (224 : Int) ≤ (b.toNat : Int) := by omega
          by_cases hfit : i + 3 ≤ l.length
          · have g1 := HGET.out (i + 1) (by omega)
            have g2 := HGET.out (i + 2) (by omega)
            have hd1 : l.drop (i + 1) = l[i + 1] :: l.drop (i + 2) := List.drop_eq_getElem_cons (by omega)
            have hd2 : l.drop (i + 2) = l[i + 2] :: l.drop (i + 3) := List.drop_eq_getElem_cons (by omega)
            have hb1 := l[i + 1].toNat_lt
            have hb2 := l[i + 2].toNat_lt
            generalize l[i + 1] = b1 at *
            generalize l[i + 2] = b2 at *
            obtain ⟨v, hv⟩ : ∃ v, v = (b.toNat - 224) * 4096 + b1.toNat % 64 * 64 + b2.toNat % 64 := ⟨_, rfl⟩
            have hvI : ((b.toNat : Int) - 224) * 4096 + (b1.toNat : Int) % 64 * 64 + (b2.toNat : Int) % 64 = (v : Int) := by omega
            have gfit : ¬ (l.length : Int) < (i : Int) + 3 := by omega
            have gi1 : ((i : Int) + 1).toNat = i + 1 := by omega
            have gi2 : ((i : Int) + 2).toNat = i + 2 := by omega
            have gj1 : (i : Int) + 1 < (l.length : Int) := by omega
            have gj2 : (i : Int) + 2 < (l.length : Int) := by omega
            have gk1 : i + 1 < l.length := by omega
            have gk2 : i + 2 < l.length := by omega
            by_cases hvr : v < 65536
            · have hn3 := next_three b b1 b2 (l.drop (i + 3)) (by omega) (by omega)
              rw [← hv] at hn3
              have HNX : Hid (nextU (l.drop i) = if encU v = (l.drop i).take 3 then (v, 3) else (0, 0)) := Lib.hid (by rw [HD.out, hd1, hd2, hn3]; rfl)
              clear hn3 h1 h2 hd1 hd2 hv
              go_wp2
              go_quiet (fail)
              go_wp2_with fail
              have hbq : Below wr.heap.size wr (wr.drewN nq) := below_drewN_iff.2 (Below.refl _ _)
              have HO := Lib.hid (HO.out.below hbq)
              have HB := Lib.hid (HB.out.trans (hbq.mono HB.out.size))
              clear hbq
              generalize wr.drewN nq = wr at HO HB ⊢
              clear k1 hvI gi1 gi2 gj1 gj2 gk1 gk2
              have HV : Hid (v < 65536) := Lib.hid hvr
              have gv : ¬ (65535 : Int) < (v : Int) := by omega
              have gw16 : IntKind.u16.wrap (v : Int) = (v : Int) := by rw [IntKind.wrap_u16]; omega
              have gsum : IntKind.i64.wrap ((i : Int) + 3) = (i : Int) + 3 := by rw [IntKind.wrap_i64]; omega
              have gsl1 : ((i : Int) + 3).toNat = i + 3 := by omega
              have gsl2 : (i : Int) + 3 ≤ (l.length : Int) := by omega
              have gsl3 : i + 3 ≤ l.length := by omega
              have gsl4 : i ≤ i + 3 := by omega
              have gsl5 : (0 : Int) ≤ (i : Int) + 3 := by omega
              have gsl6 : (i : Int) ≤ (i : Int) + 3 := by omega
              obtain ⟨bv, HBV⟩ : ∃ bv : ByteArray, Hid (bv = strOf (bytU [v])) := ⟨_, Lib.hid rfl⟩
              obtain ⟨sx, HSX, hsx⟩ : ∃ sx : ByteArray, Hid (sx = strOf ((l.drop i).take 3)) ∧ s.extract i (i + 3) = sx := ⟨_, Lib.hid rfl, by rw [hs.out]; exact str_cut l i 3 (by omega)⟩
              have HEQ : Hid ((bv.toList == sx.toList) = decide (encU v = (l.drop i).take 3)) := Lib.hid (by
                rw [HBV.out, HSX.out, strOf_toList, strOf_toList, show bytU [v] = encU v by simp [bytU]]
                by_cases h : encU v = (l.drop i).take 3
                · rw [h, decide_eq_true rfl]; simp
                · rw [decide_eq_false h]; exact beq_eq_false_iff_ne.2 h)
              obtain ⟨bq, hbq, HBQ⟩ : ∃ bq : Bool, bq = (bv.toList == sx.toList) ∧ Hid (bq = decide (encU v = (l.drop i).take 3)) := ⟨_, rfl, Lib.hid HEQ.out⟩
              have gne : (bv.toList == sx.toList) = bq := hbq.symm
              clear hbq HEQ
              refine wp_region_grow (by kernel_rfl) (by kernel_rfl) (by rfl) ?_
              apply gw_val
              · intro a' w' hk
                refine ⟨wanted_none rfl, ?_⟩
                simp [Oper.looksAt, Op.operands, Call.operands, KnownAt, List.lookup, consD] at hk
                simp [execOp, Act.eval, hk, go_sem]
                all_goals rfl
              apply gw_val
              · intro a' w' hk
                refine ⟨wanted_none rfl, ?_⟩
                simp [Oper.looksAt, Op.operands, Call.operands, KnownAt, List.lookup, consD] at hk
                simp [execOp, Act.eval, hk, go_sem, gv]
                all_goals rfl
              apply gw_val
              · intro a' w' hk
                refine ⟨wanted_none rfl, ?_⟩
                simp [Oper.looksAt, Op.operands, Call.operands, KnownAt, List.lookup, consD] at hk
                simp [execOp, Act.eval, hk, go_sem]
                all_goals rfl
              apply gw_val
              · intro a' w' hk
                refine ⟨wanted_guard (t := 62) rfl rfl (by simpa [KnownAt, List.lookup, consD] using hk 62 (by decide)), ?_⟩
                simp [Oper.looksAt, Op.operands, Call.operands, KnownAt, List.lookup, consD] at hk
                simp [execOp, Act.eval, hk, go_sem]
                all_goals rfl
              apply gw_val
              · intro a' w' hk
                refine ⟨wanted_guard (t := 62) rfl rfl (by simpa [KnownAt, List.lookup, consD] using hk 62 (by decide)), ?_⟩
                simp [Oper.looksAt, Op.operands, Call.operands, KnownAt, List.lookup, consD] at hk
                simp [execOp, Act.eval, hk, go_sem, gw16]
                all_goals rfl
              refine gw_litU (E := hE) [v] ?_ ?_
              · intro a' w' hk
                refine ⟨wanted_guard (t := 62) rfl rfl (by simpa [KnownAt, List.lookup, consD] using hk 62 (by decide)), (List.map hE [v]).toArray, 22, by simp, ?_⟩
                simp [Oper.looksAt, Op.operands, Call.operands, KnownAt, List.lookup, consD] at hk
                simp [execOp, Act.eval, hk, go_sem]
                all_goals rfl
              refine gw_callE 114 (fun args w => ∃ v1 : Value, args = #[v1] ∧ (SliceG hE [v]) v1 w) (fun y _ => y = .string bv) (mono_eq _) (fun a' w' hk => ?_) (fun w' args hb hA => ?_) ?_
              · refine ⟨wanted_guard (t := 62) rfl rfl (by simpa [KnownAt, List.lookup, consD] using hk 62 (by decide)), #[a'.tmps.getD 65 undef], ⟨_, rfl, hk 65 (by decide)⟩, ?_⟩
                simp [execOp, Act.eval, go_sem]
                all_goals rfl
              · obtain ⟨v1, rfl, q, m', d', rfl, hm', hq⟩ := hA
                refine (rbytes_any q m' d' [v] w' hm' (by rw [← hm']; simp) hq (by intro x hx; rw [List.mem_singleton.1 hx]; exact HV.out)).mono ?_
                rintro e w'' ⟨rfl, hB⟩
                exact ⟨_, rfl, by rw [HBV.out], hB⟩
              apply gw_val
              · intro a' w' hk
                refine ⟨wanted_guard (t := 62) rfl rfl (by simpa [KnownAt, List.lookup, consD] using hk 62 (by decide)), ?_⟩
                simp [Oper.looksAt, Op.operands, Call.operands, KnownAt, List.lookup, consD] at hk
                simp [execOp, Act.eval, hk, go_sem]
                all_goals rfl
              apply gw_val
              · intro a' w' hk
                refine ⟨wanted_guard (t := 62) rfl rfl (by simpa [KnownAt, List.lookup, consD] using hk 62 (by decide)), ?_⟩
                simp [Oper.looksAt, Op.operands, Call.operands, KnownAt, List.lookup, consD] at hk
                simp [execOp, Act.eval, hk, go_sem]
                all_goals rfl
              apply gw_val
              · intro a' w' hk
                refine ⟨wanted_guard (t := 62) rfl rfl (by simpa [KnownAt, List.lookup, consD] using hk 62 (by decide)), ?_⟩
                simp [Oper.looksAt, Op.operands, Call.operands, KnownAt, List.lookup, consD] at hk
                simp [execOp, Act.eval, hk, go_sem]
                all_goals rfl
              apply gw_val
              · intro a' w' hk
                refine ⟨wanted_guard (t := 62) rfl rfl (by simpa [KnownAt, List.lookup, consD] using hk 62 (by decide)), ?_⟩
                simp [Oper.looksAt, Op.operands, Call.operands, KnownAt, List.lookup, consD] at hk
                simp [execOp, Act.eval, hk, go_sem]
                all_goals rfl
              apply gw_val
              · intro a' w' hk
                refine ⟨wanted_guard (t := 62) rfl rfl (by simpa [KnownAt, List.lookup, consD] using hk 62 (by decide)), ?_⟩
                simp [Oper.looksAt, Op.operands, Call.operands, KnownAt, List.lookup, consD] at hk
                simp [execOp, Act.eval, hk, go_sem, gsum]
                all_goals rfl
              apply gw_val
              · intro a' w' hk
                refine ⟨wanted_guard (t := 62) rfl rfl (by simpa [KnownAt, List.lookup, consD] using hk 62 (by decide)), ?_⟩
                simp [Oper.looksAt, Op.operands, Call.operands, KnownAt, List.lookup, consD] at hk
                simp [execOp, Act.eval, hk, go_sem, gsl1, gsl2, gsl3, gsl4, gsl5, gsl6, hsz, hsx]
                all_goals rfl
              apply gw_val
              · intro a' w' hk
                refine ⟨wanted_guard (t := 62) rfl rfl (by simpa [KnownAt, List.lookup, consD] using hk 62 (by decide)), ?_⟩
                simp [Oper.looksAt, Op.operands, Call.operands, KnownAt, List.lookup, consD] at hk
                simp [execOp, Act.eval, hk, go_sem, gne]
                all_goals rfl
              apply gw_val
              · intro a' w' hk
                refine ⟨wanted_none rfl, ?_⟩
                simp [Oper.looksAt, Op.operands, Call.operands, KnownAt, List.lookup, consD] at hk
                simp [execOp, Act.eval, hk, go_sem]
                all_goals rfl
              intro vs w8 hb8 hall
              simp only [AllS, consD] at hall
              simp only [consD, putAllS, Act.put]
              obtain ⟨h74, -⟩ := hall
              rw [h74]
              simp only [List.setIfInBounds_toArray, List.set_cons_succ, List.set_cons_zero]
              have hB8 : Below wr.heap.size wr w8 := ((Below.refl wr.heap.size wr).drew).trans hb8
              have HB8 := Lib.hid (HB.out.trans (hB8.mono HB.out.size))
              have HO8 := Lib.hid (HO.out.below hB8)
              clear hb8 hB8 h74
              by_cases hq : encU v = (l.drop i).take 3
              · have hbt : bq = true := by rw [HBQ.out, decide_eq_true hq]
                subst hbt
                have HST2 : Hid (unitsOf l = (unitsOf (l.drop (i + 3))).map (pre ++ [v] ++ ·)) := Lib.hid (by
                  rw [hst.out, HSTEP.out, HNX.out, if_pos hq, if_neg (by simp)]
                  simp only
                  rw [List.drop_drop]
                  cases unitsOf (l.drop (i + 3)) <;> simp)
                have hcell : Hid ((w8.alloc (.cells #[.int .u16 (v : Int)] 22)).cell? ⟨w8.heap.size, 0, none⟩ = some (hE v)) := Lib.hid (cell_push rfl w8 _)
                have hbs := HB8.out.size
                clear hq HNX HSTEP
                go_wp2_with (at_builtin; refine wpList_push (w0 := w8) slU16 rfl _ _ rfl rfl rfl HO8.out v _ rfl hcell.out rfl (by omega) (by unfold maxLen; omega) hbs ?_; intro p3 c3 w3 hown3 hg3)
                have HF := Lib.hid (And.intro hown3 (HO8.out.step HB8.out hg3 hbs))
                clear hown3 hg3 hcell
                go_roundw
                case rel => exact ⟨i + 3, k + 1, p3, c3, pre ++ [v], by omega, by omega, by go_num, rfl, HST2, HF.out⟩
                case measure => simp [intOf] <;> omega
              · have hbt : bq = false := by rw [HBQ.out, decide_eq_false hq]
                subst hbt
                have HNO : Hid (unitsOf l = none) := Lib.hid (by rw [hst.out, HSTEP.out, HNX.out, if_neg hq]; simp)
                clear hq HNX HSTEP
                go_wp2
                go_ret2
                exact ⟨HB8.out, .inl ⟨HNO.out, rfl⟩⟩
            · have HNO : Hid (unitsOf l = none) := Lib.hid (by rw [hst.out, HSTEP.out, HD.out, hd1, hd2, next_big b b1 b2 _ (by omega) (by omega)]; simp)
              have gv : (65535 : Int) < (v : Int) := by omega
              clear h1 h2 hd1 hd2 hv
              go_wp2
              go_quiet (fail)
              go_wp2_with fail
              have hbq : Below wr.heap.size wr (wr.drewN nq) := below_drewN_iff.2 (Below.refl _ _)
              have HB := Lib.hid (HB.out.trans (hbq.mono HB.out.size))
              clear hbq
              generalize wr.drewN nq = wr at HB ⊢
              clear k1 hvI gi1 gi2 gj1 gj2 gk1 gk2
              refine wp_region_grow (by kernel_rfl) (by kernel_rfl) (by rfl) ?_
              apply gw_val
              · intro a' w' hk
                refine ⟨wanted_none rfl, ?_⟩
                simp [Oper.looksAt, Op.operands, Call.operands, KnownAt, List.lookup, consD] at hk
                simp [execOp, Act.eval, hk, go_sem]
                all_goals rfl
              apply gw_val
              · intro a' w' hk
                refine ⟨wanted_none rfl, ?_⟩
                simp [Oper.looksAt, Op.operands, Call.operands, KnownAt, List.lookup, consD] at hk
                simp [execOp, Act.eval, hk, go_sem, gv]
                all_goals rfl
              apply gw_val
              · intro a' w' hk
                refine ⟨wanted_none rfl, ?_⟩
                simp [Oper.looksAt, Op.operands, Call.operands, KnownAt, List.lookup, consD] at hk
                simp [execOp, Act.eval, hk, go_sem]
                all_goals rfl
              refine gw_skip (fun a' w' hk => wanted_not (t := 62) rfl rfl (by simpa [KnownAt, List.lookup, consD] using hk 62 (by decide)) (by decide)) ?_
              refine gw_skip (fun a' w' hk => wanted_not (t := 62) rfl rfl (by simpa [KnownAt, List.lookup, consD] using hk 62 (by decide)) (by decide)) ?_
              refine gw_skip (fun a' w' hk => wanted_not (t := 62) rfl rfl (by simpa [KnownAt, List.lookup, consD] using hk 62 (by decide)) (by decide)) ?_
              refine gw_skip (fun a' w' hk => wanted_not (t := 62) rfl rfl (by simpa [KnownAt, List.lookup, consD] using hk 62 (by decide)) (by decide)) ?_
              refine gw_skip (fun a' w' hk => wanted_not (t := 62) rfl rfl (by simpa [KnownAt, List.lookup, consD] using hk 62 (by decide)) (by decide)) ?_
              refine gw_skip (fun a' w' hk => wanted_not (t := 62) rfl rfl (by simpa [KnownAt, List.lookup, consD] using hk 62 (by decide)) (by decide)) ?_
              refine gw_skip (fun a' w' hk => wanted_not (t := 62) rfl rfl (by simpa [KnownAt, List.lookup, consD] using hk 62 (by decide)) (by decide)) ?_
              refine gw_skip (fun a' w' hk => wanted_not (t := 62) rfl rfl (by simpa [KnownAt, List.lookup, consD] using hk 62 (by decide)) (by decide)) ?_
              refine gw_skip (fun a' w' hk => wanted_not (t := 62) rfl rfl (by simpa [KnownAt, List.lookup, consD] using hk 62 (by decide)) (by decide)) ?_
              refine gw_skip (fun a' w' hk => wanted_not (t := 62) rfl rfl (by simpa [KnownAt, List.lookup, consD] using hk 62 (by decide)) (by decide)) ?_
              refine gw_skip (fun a' w' hk => wanted_not (t := 62) rfl rfl (by simpa [KnownAt, List.lookup, consD] using hk 62 (by decide)) (by decide)) ?_
              apply gw_val
              · intro a' w' hk
                refine ⟨wanted_none rfl, ?_⟩
                simp [Oper.looksAt, Op.operands, Call.operands, KnownAt, List.lookup, consD] at hk
                simp [execOp, Act.eval, hk, go_sem]
                all_goals rfl
              intro vs w8 hb8 hall
              simp only [AllS, consD] at hall
              simp only [consD, putAllS, Act.put]
              obtain ⟨h74, -⟩ := hall
              rw [h74]
              simp only [List.setIfInBounds_toArray, List.set_cons_succ, List.set_cons_zero]
              have hB8 : Below wr.heap.size wr w8 := ((Below.refl wr.heap.size wr).drew).trans hb8
              have HB8 := Lib.hid (HB.out.trans (hB8.mono HB.out.size))
              clear hb8 hB8 h74
              go_wp2
              go_ret2
              exact ⟨HB8.out, .inl ⟨HNO.out, rfl⟩⟩
          · have gfit : (l.length : Int) < (i : Int) + 3 := by omega
            have HNO : Hid (unitsOf l = none) := Lib.hid (by
              rw [hst.out, HSTEP.out, HD.out, next_three0 b _ (by omega) (by rw [List.length_drop]; omega)]; simp)
            clear h1 h2
            go_wp2
            go_ret2
            exact ⟨HB.out, .inl ⟨HNO.out, rfl⟩⟩
    · have hil' : i = l.length := by omega
      have HUS : Hid (unitsOf l = some pre) := Lib.hid (by rw [hst.out, hil', List.drop_length, unitsOf_nil]; simp)
      have hkl := hO.len
      have HF := Lib.hid (And.intro hO hB)
      have gil : ¬ (i : Int) < (l.length : Int) := by omega
      clear hO hB hil'
      go_wp2
      go_ret2
      refine ⟨HF.out.2, .inr ⟨pre, q, d, HUS.out, ?_, ?_⟩⟩
      · rw [hkl]; rfl
      · rw [hkl]; exact HF.out.1
end Go.Proofs.Ytbknkahakmfhkaa
