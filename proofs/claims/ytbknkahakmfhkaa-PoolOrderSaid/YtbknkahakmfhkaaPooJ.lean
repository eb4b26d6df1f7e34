/- pool.Bytes. -/
import Derived.Test.YtbknkahakmfhkaaPooH
namespace Go.Proofs.Ytbknkahakmfhkaa
open Go.RowKit
set_option linter.unusedVariables false
set_option linter.unusedSimpArgs false

/-- A constant's bytes. -/
def entB (r : RawK) : List UInt8 := match kindT r.tag with
  | 1 => [1] ++ putB (u64N (r.text.size : Int)) 2 ++ nameL r.text
  | 2 => [UInt8.ofNat r.tag.toNat] ++ putB r.bits.toNat (sizeT r.tag)
  | 3 => [UInt8.ofNat r.tag.toNat] ++ putB (u64N r.a) 2
  | 4 => [UInt8.ofNat r.tag.toNat] ++ putB (u64N r.a) 2 ++ putB (u64N r.b) 2
  | _ => []
def accB (l : List RawK) (i : Nat) : List UInt8 := putB (u64N (l.length : Int)) 2 ++ ((l.take i).drop 1).flatMap entB
def poolB (l : List RawK) : List UInt8 := accB l l.length
theorem accB_snoc {l : List RawK} {i : Nat} (h : i < l.length) (h0 : 0 < i) : accB l (i + 1) = accB l i ++ entB l[i] := by
  unfold accB
  rw [List.take_succ_eq_append_getElem h, List.drop_append_of_le_length (by rw [List.length_take]; omega), List.flatMap_append, List.append_assoc]
  simp
theorem accB_one {l : List RawK} : accB l 1 = accB l 0 := by
  unfold accB
  congr 1
  cases l <;> simp
theorem entB_le (r : RawK) (h : r.text.size ≤ 200) : (entB r).length ≤ 220 := by
  have h1 := putB_le (u64N (r.text.size : Int)) 2
  have h2 := putB_le r.bits.toNat (sizeT r.tag)
  have h3 := putB_le (u64N r.a) 2
  have h4 := putB_le (u64N r.b) 2
  unfold entB
  split <;> simp only [List.length_append, List.length_singleton, nameL_len, List.length_nil] <;> omega
theorem accB_le (l : List RawK) (i : Nat) (hi : i ≤ 100) (h : ∀ r ∈ l, r.text.size ≤ 200) : (accB l i).length ≤ 30000 := by
  unfold accB
  have h1 := putB_le (u64N (l.length : Int)) 2
  have h2 : ∀ k : List RawK, (∀ r ∈ k, r.text.size ≤ 200) → (k.flatMap entB).length ≤ k.length * 220 := fun k => by
    induction k with
    | nil => intro _; simp
    | cons r k ih =>
      intro h
      have := ih (fun x hx => h x (List.mem_cons_of_mem _ hx))
      have := entB_le r (h r (by simp))
      rw [List.flatMap_cons, List.length_append, List.length_cons, Nat.add_mul]; omega
  have h3 := h2 ((l.take i).drop 1) (fun r hr => h r (List.mem_of_mem_take (List.mem_of_mem_drop hr)))
  have h4 : ((l.take i).drop 1).length ≤ 100 := by rw [List.length_drop, List.length_take]; omega
  rw [List.length_append]
  have : ((l.take i).drop 1).length * 220 ≤ 100 * 220 := Nat.mul_le_mul_right _ h4
  omega
theorem BV.below {w w' : World} {B g : Nat} {l : List UInt8} (h : BV w B g l) (hb : Below w.heap.size w w') : BV w' B g l := by
  obtain ⟨h1, p, n, c, h2, h3, h4⟩ := h
  exact ⟨h1, p, n, c, h2.below hb, h3.below hb, h4⟩
theorem sizeT_le (t : Int) : 4 ≤ sizeT t ∧ sizeT t ≤ 8 := by
  unfold sizeT; split <;> omega
theorem kind_range {t : Int} {k : Nat} (h : kindT t = k) (hk : k ≠ 0) : 0 ≤ t ∧ t < 256 := by
  unfold kindT at h
  repeat' split at h
  all_goals omega
theorem wrap_small {t : Int} (h : 0 ≤ t ∧ t < 256) : IntKind.u8.wrap t = t := by
  have : IntKind.u8.wrap t = t % 256 := rfl
  rw [this]; omega
theorem cell_later9 {w w' : World} {a : Addr} {v : Value} (h : w.cell? a = some v) (hb : Below w.drew.heap.size w.drew w') : w'.cell? a = some v :=
  (hb.cell (World.block_lt_of_cell? w.drew _ h)).trans h
section
variable {P : Program} {ops : Array Oper} {Q : Exit → Act → World → Prop} {a : Act} {w0 : World} {o : Oper} {rest : List Oper} {done : List (Nat × Spec)}
theorem gw_newP9 (G : Spec) (hm : Mono G) (h1 : ∀ (a' : Act) (w' : World), Below w0.heap.size w0 w' → (∀ t ∈ o.looksAt ops, KnownAt done a a' w' t) → Region.wanted o (yielded ops a'.tmps) = true ∧ ∃ V ob, (execOp a'.eval o).run P w' = .ok (.value V) (w'.alloc ob) ∧ G V (w'.alloc ob))
    (h : GW P ops Q a w0 rest (consD o G done)) : GW P ops Q a w0 (o :: rest) done := by
  refine ⟨G, hm, fun a' w' hb hk => ?_, h⟩
  obtain ⟨h2, V, ob, h3, h4⟩ := h1 a' w' hb hk
  rw [if_pos h2]
  unfold Oper.wp
  rw [h3]
  exact ⟨V, rfl, h4, below_alloc _ _⟩
end
/-- One byte in a new row. -/
def BytG (t : Int) : Spec := fun v w => ∃ b, v = .slice (some ⟨b, 0, none⟩) 1 1 ∧ Blk w b U8 #[.int .u8 t]
theorem mono_byt (t : Int) : Mono (BytG t) := fun v w w' ⟨b, h1, h2⟩ hb => ⟨b, h1, h2.below hb⟩
theorem byt_rd {w : World} {b : Nat} {t : Int} (h : Blk w b U8 #[.int .u8 t]) (ht : 0 ≤ t ∧ t < 256) : ∀ j x, ([UInt8.ofNat t.toNat] : List UInt8)[j]? = some x → w.cell? ⟨b, 0 + j, none⟩ = some (bE x) := by
  intro j x hx
  cases j with
  | zero =>
    have hx : UInt8.ofNat t.toNat = x := by simpa using hx
    subst hx
    have : bE (UInt8.ofNat t.toNat) = .int .u8 t := by
      show Value.int .u8 ((UInt8.ofNat t.toNat).toNat : Int) = _
      rw [UInt8.toNat_ofNat']
      congr 1
      have : t.toNat < 256 := by omega
      rw [Nat.mod_eq_of_lt (by simpa using this)]
      omega
    rw [this]
    exact h.cell rfl
  | succ j => simp at hx
set_option maxRecDepth 100000 in
set_option maxHeartbeats 8000000 in
theorem pbytes_any (a : Option Addr) (n c : Nat) (l : List RawK) (w : World) (hl : l.length = n) (hn : n ≤ 100) (hr : RdW w a l) (ht : ∀ r ∈ l, r.text.size ≤ 200) (hbt : ∀ r ∈ l, 0 ≤ r.bits ∧ r.bits < 18446744073709551616) :
  Calls Try.prog 46 #[.slice a n c] w fun e w' => ∃ p k d, e = .returned (.slice p k d) ∧ Buf w' w.heap.size U8 bE p k d (poolB l) ∧ Below w.heap.size w w' := by
  have HH := Lib.hid (And.intro hl (And.intro hr (And.intro ht hbt)))
  have gl : IntKind.u64.wrap (n : Int) = ((u64N (n : Int) : Nat) : Int) := u64N_int _
  have HV := Lib.hid (u64N_lt (n : Int))
  obtain ⟨V, hV⟩ : ∃ V, V = u64N (n : Int) := ⟨_, rfl⟩
  rw [← hV] at gl HV
  have HVE := Lib.hid hV
  clear hl hr ht hbt hV
  have mixed : Try.prog.follows .mixedOrders = true := by kernel_rfl
  go_enter Try.func46, Try.ntmps46
  go_wp2_with fail
  refine (cBig_any none 0 0 [] V 2 w rfl (by omega) HV.out (by decide) (by decide) Rd.nil).mono ?_
  rintro e w1 ⟨p1, n1, c1, rfl, hbuf, hB1⟩
  have HB1 : Hid (BV (w1.alloc (.cells #[.slice p1 n1 c1] BSL)) w.heap.size w1.heap.size (accB l 0) ∧ Below w.heap.size w (w1.alloc (.cells #[.slice p1 n1 c1] BSL))) := Lib.hid (by
    rw [List.nil_append] at hbuf
    have hac : accB l 0 = putB V 2 := by unfold accB; rw [HVE.out, HH.out.1]; simp
    rw [hac]
    have hlen : 0 < (putB V 2).length := by unfold putB; rw [if_pos (by decide)]; simp [littleL_length]
    exact ⟨⟨hB1.size, p1, n1, c1, Blk.new _ _ _, hbuf.below (below_alloc w1 _), fun q hq => by have := hbuf.rd.ne_new hlen q hq; omega⟩, hB1.alloc hB1.size _⟩)
  obtain ⟨g, hg⟩ : ∃ g, g = w1.heap.size := ⟨_, rfl⟩
  rw [← hg] at HB1
  clear hbuf hB1 gl
  go_wp2
  rw [← hg]
  go_loopw [19] (fun x19 wr => ∃ i : Nat, i ≤ n ∧ x19 = .int .i64 i ∧ Hid (BV wr w.heap.size g (accB l i)) ∧ Hid (Below w.heap.size w wr)) (fun x19 _ => n - (intOf x19).toNat)
  case atStart => exact ⟨0, Nat.zero_le _, rfl, Lib.hid HB1.out.1, Lib.hid HB1.out.2⟩
  case round =>
    clear HB1 hg
    obtain ⟨i, hi, rfl, hV, hB⟩ := hrel
    by_cases hin : i < n
    · have hil : i < l.length := by rw [HH.out.1]; exact hin
      obtain ⟨b, off, rfl, hc⟩ := (HH.out.2.1.below hB.out).at hil
      obtain ⟨c0, c1, c2, c3, c4⟩ := hc
      have HS : Hid (0 < i → accB l (i + 1) = accB l i ++ entB l[i]) := Lib.hid (fun h => accB_snoc hil h)
      have HR := Lib.hid (And.intro (HH.out.2.2.1 l[i] (List.getElem_mem hil)) (HH.out.2.2.2 l[i] (List.getElem_mem hil)))
      have HLE := Lib.hid (accB_le l i (by omega) HH.out.2.2.1)
      generalize l[i] = r at *
      obtain ⟨t, s, bi, ra, rb⟩ := r
      simp only at c0 c1 c2 c3 c4
      have hs0 := hB.out.size
      have HBa := Lib.hid (below_alloc wr (.cells #[.int .i64 t, .string s, .int .u64 bi, .int .i64 ra, .int .i64 rb] RAW))
      have HOF := Lib.hid (of_any ⟨t, s, bi, ra, rb⟩ (wr.alloc (.cells #[.int .i64 t, .string s, .int .u64 bi, .int .i64 ra, .int .i64 rb] RAW)))
      simp only [rwE] at HOF
      go_wp2_with fail
      refine HOF.out.mono ?_
      rintro e w5 ⟨rfl, hb5⟩
      have hb5' := HBa.out.trans (hb5.mono (by simp))
      have HV5 := Lib.hid (hV.out.below hb5')
      have HB5 := Lib.hid (hB.out.trans (hb5'.mono hs0))
      clear c0 c1 c2 c3 c4 hb5 hb5' HBa HOF hV hB
      by_cases hi0 : i = 0
      · subst hi0
        have HF : Hid (BV w5 w.heap.size g (accB l (0 + 1))) := Lib.hid (by rw [Nat.zero_add, accB_one]; exact HV5.out)
        go_wp2
        go_roundw
        case rel => exact ⟨1, by omega, rfl, HF, HB5⟩
        case measure => simp [intOf] <;> omega
      · have g0 : ((i : Int) == 0) = false := by simp; omega
        by_cases hk1 : kindT t = 1
        · have ht1 := kind_one hk1
          subst ht1
          have hof : ofV ⟨1, s, bi, ra, rb⟩ = .iface TXT (.string s) := rfl
          rw [hof]
          obtain ⟨hBg, p, k, d, hb, hbuf, hne⟩ := HV5.out
          have HBK := Lib.hid (And.intro hBg (And.intro hb (And.intro hbuf hne)))
          have HX0 : Hid (w5.cell? ⟨g, 0, none⟩ = some (.slice p k d)) := Lib.hid (hb.cell rfl)
          have gtw : IntKind.u8.wrap (1 : Int) = 1 := by decide
          have HTR : Hid ((0 : Int) ≤ 1 ∧ (1 : Int) < 256) := Lib.hid (by decide)
          clear hBg hb hbuf hne hof
          go_wp2_with fail
          refine wp_region_growT 5 (by kernel_rfl) (by kernel_rfl) (by rfl) (by kernel_rfl) ?_
          refine gw_valB (fun v _ => v = .slice p k d) (mono_eq _) ?_ ?_
          · intro a' w' hb' hk
            refine ⟨wanted_none rfl, _, ?_, rfl⟩
            have q0 := cell_later9 HX0.out hb'
            simp [Oper.looksAt, Op.operands, Call.operands, KnownAt, List.lookup, consD] at hk
            simp [execOp, Act.eval, hk, q0, go_sem]
            all_goals rfl
          apply gw_val
          · intro a' w' hk
            refine ⟨wanted_none rfl, ?_⟩
            simp [Oper.looksAt, Op.operands, Call.operands, KnownAt, List.lookup, consD] at hk
            simp [execOp, Act.eval, hk, go_sem]
            all_goals rfl
          refine gw_call 150 #[.string s] (fun v _ => v = .int .i64 1) (mono_eq _) (fun a' w' hk => ?_) (fun w' hb => (tagT_any s w').mono ?_) ?_
          · refine ⟨wanted_none rfl, ?_⟩
            simp [Oper.looksAt, Op.operands, Call.operands, KnownAt, List.lookup, consD] at hk
            simp [execOp, Act.eval, hk, go_sem]
            all_goals rfl
          · rintro e w'' ⟨rfl, hb⟩
            exact ⟨_, rfl, rfl, hb⟩
          apply gw_val
          · intro a' w' hk
            refine ⟨wanted_none rfl, ?_⟩
            simp [Oper.looksAt, Op.operands, Call.operands, KnownAt, List.lookup, consD] at hk
            simp [execOp, Act.eval, hk, gtw, go_sem]
            all_goals rfl
          refine gw_newP9 (BytG 1) (mono_byt 1) ?_ ?_
          · intro a' w' hb' hk
            refine ⟨wanted_none rfl, ?_⟩
            simp [Oper.looksAt, Op.operands, Call.operands, KnownAt, List.lookup, consD] at hk
            refine ⟨.slice (some ⟨w'.heap.size, 0, none⟩) 1 1, .cells #[.int .u8 1] U8, ?_, _, rfl, Blk.new _ _ _⟩
            simp [execOp, Act.eval, hk, go_sem]
            all_goals rfl
          intro vs w6 hb6 hall _
          simp only [AllS, consD] at hall
          simp only [consD, putAllS, Act.put]
          obtain ⟨h36, -, -, -, h32, -⟩ := hall
          obtain ⟨q, h36e, hblk⟩ := h36
          rw [h36e, h32]
          clear h36e h32
          simp only [List.drop_succ_cons, List.drop_zero, List.setIfInBounds_toArray, List.set_cons_succ, List.set_cons_zero]
          have hb6' : Below w5.heap.size w5 w6 := ((Below.refl w5.heap.size w5).drew).trans hb6
          have HB6 := Lib.hid (HB5.out.trans (hb6'.mono HB5.out.size))
          have HK6 := Lib.hid (And.intro (HBK.out.2.1.below hb6') (HBK.out.2.2.1.below hb6'))
          have HQ := Lib.hid hblk
          have hsz6 := HB6.out.size
          clear hb6 hb6' hblk
          refine wpList_catB2 slByte rfl rfl _ _ rfl rfl HK6.out.2 HB6.out rfl (k := [UInt8.ofNat (1 : Int).toNat]) rfl (.inr ⟨q, 0, rfl, byt_rd HQ.out HTR.out⟩) (fun _ _ => rfl) (by have := HLE.out; have := HK6.out.2.len; omega) (by unfold maxLen; have := HLE.out; have := HK6.out.2.len; omega) hsz6 ?_
          intro p7 d7 w7 hbuf7 hb7 hkeep
          have hg7 := blk_keep HK6.out.1 hkeep HBK.out.2.2.2
          have x7 : w7.cell? ⟨g, 0, none⟩ = some (.slice p k d) := hg7.cell rfl
          have f7 := hg7.frozen 0
          have HV8 : Hid (BV (w7.setCell ⟨g, 0, none⟩ (.slice p7 (k + 1) d7)) w.heap.size g (accB l i ++ [UInt8.ofNat (1 : Int).toNat])) := Lib.hid (BV.store HBK.out.1 hg7 hbuf7 (by simp))
          have HB8 : Hid (Below w.heap.size w (w7.setCell ⟨g, 0, none⟩ (.slice p7 (k + 1) d7))) := Lib.hid (hb7.setCell HBK.out.1 _)
          clear hkeep hg7 hbuf7 hb7 HK6 HQ HB6
          go_wp2_with fail
          obtain ⟨w8, hw8⟩ : ∃ w8, w8 = w7.setCell ⟨g, 0, none⟩ (.slice p7 (k + 1) d7) := ⟨_, rfl⟩
          rw [← hw8] at HV8 HB8 ⊢
          have hsw8 : w7.heap.size = w8.heap.size := by rw [hw8]; simp
          clear hw8 x7 f7
          have hs8 := HB8.out.size
          refine (two_any g w.heap.size _ (s.size : Int) w8 HV8.out (by rw [List.length_append, List.length_singleton]; have := HLE.out; omega) hs8).mono ?_
          rintro e w9 ⟨rfl, hv9, hg9⟩
          have HB9 := Lib.hid (HB8.out.grown hg9 hs8 (fun j hj => by simp only [Option.some.injEq] at hj; have := HBK.out.1; omega))
          obtain ⟨hBg9, p9, n9, c9, hb9, hbuf9, hne9⟩ := hv9
          have HK9 := Lib.hid (And.intro hBg9 (And.intro hb9 (And.intro hbuf9 hne9)))
          have x9 : w9.cell? ⟨g, 0, none⟩ = some (.slice p9 n9 c9) := hb9.cell rfl
          have HL9 : Hid (n9 ≤ 40000) := Lib.hid (by have h1 := hbuf9.len; rw [List.length_append, List.length_append, List.length_singleton] at h1; have := HLE.out; have := putB_le (u64N (s.size : Int)) 2; omega)
          have hs9 := HB9.out.size
          clear hg9 hBg9 hb9 hbuf9 hne9 hs8
          go_wp2_with (at_builtin; refine wpList_catSB rfl _ _ Try.underlying124 rfl rfl HK9.out.2.2.1 (by simp only [List.length_append, List.length_singleton]; omega) HB9.out s rfl (by have := HL9.out; have := HR.out.1; have : s.size ≤ 200 := this; omega) hs9 ?_; intro p10 n10 c10 w10 hbuf10 hb10 hkeep; have hg10 := blk_keep HK9.out.2.1 hkeep HK9.out.2.2.2; have x10 : w10.cell? ⟨g, 0, none⟩ = some (.slice p9 n9 c9) := hg10.cell rfl; have f10 := hg10.frozen 0; have HF1 : Hid (BV (w10.setCell ⟨g, 0, none⟩ (.slice p10 n10 c10)) w.heap.size g (accB l (i + 1)) ∧ Below w.heap.size w (w10.setCell ⟨g, 0, none⟩ (.slice p10 n10 c10))) := Lib.hid ⟨by rw [HS.out (by omega)]; exact (by have := BV.store HK9.out.1 hg10 hbuf10 (by simp only [List.length_append, List.length_singleton]; omega); simpa [entB, kindT, List.append_assoc] using this), hb10.setCell HK9.out.1 _⟩; clear hkeep hg10 hbuf10 hb10)
          go_roundw
          case rel => exact ⟨i + 1, by omega, by go_num, Lib.hid HF1.out.1, Lib.hid HF1.out.2⟩
          case measure => simp [intOf] <;> omega
        by_cases hk2 : kindT t = 2
        · have hof : ofV ⟨t, s, bi, ra, rb⟩ = .iface BTS (.agg #[.int .i64 t, .int .u64 bi]) := by unfold ofV; simp only [hk2]
          rw [hof]
          have htr := kind_range hk2 (by decide)
          obtain ⟨hBg, p, k, d, hb, hbuf, hne⟩ := HV5.out
          have HBK := Lib.hid (And.intro hBg (And.intro hb (And.intro hbuf hne)))
          have HX0 : Hid (w5.cell? ⟨g, 0, none⟩ = some (.slice p k d)) := Lib.hid (hb.cell rfl)
          have gtw : IntKind.u8.wrap t = t := wrap_small htr
          have HTR : Hid (0 ≤ t ∧ t < 256) := Lib.hid htr
          clear hBg hb hbuf hne hof htr
          go_wp2_with fail
          refine wp_region_growT 5 (by kernel_rfl) (by kernel_rfl) (by rfl) (by kernel_rfl) ?_
          refine gw_valB (fun v _ => v = .slice p k d) (mono_eq _) ?_ ?_
          · intro a' w' hb' hk
            refine ⟨wanted_none rfl, _, ?_, rfl⟩
            have q0 := cell_later9 HX0.out hb'
            simp [Oper.looksAt, Op.operands, Call.operands, KnownAt, List.lookup, consD] at hk
            simp [execOp, Act.eval, hk, q0, go_sem]
            all_goals rfl
          apply gw_val
          · intro a' w' hk
            refine ⟨wanted_none rfl, ?_⟩
            simp [Oper.looksAt, Op.operands, Call.operands, KnownAt, List.lookup, consD] at hk
            simp [execOp, Act.eval, hk, go_sem]
            all_goals rfl
          refine gw_call 151 #[.agg #[.int .i64 t, .int .u64 bi]] (fun v _ => v = .int .i64 t) (mono_eq _) (fun a' w' hk => ?_) (fun w' hb => (tagB_any t bi w').mono ?_) ?_
          · refine ⟨wanted_none rfl, ?_⟩
            simp [Oper.looksAt, Op.operands, Call.operands, KnownAt, List.lookup, consD] at hk
            simp [execOp, Act.eval, hk, go_sem]
            all_goals rfl
          · rintro e w'' ⟨rfl, hb⟩
            exact ⟨_, rfl, rfl, hb⟩
          apply gw_val
          · intro a' w' hk
            refine ⟨wanted_none rfl, ?_⟩
            simp [Oper.looksAt, Op.operands, Call.operands, KnownAt, List.lookup, consD] at hk
            simp [execOp, Act.eval, hk, gtw, go_sem]
            all_goals rfl
          refine gw_newP9 (BytG t) (mono_byt t) ?_ ?_
          · intro a' w' hb' hk
            refine ⟨wanted_none rfl, ?_⟩
            simp [Oper.looksAt, Op.operands, Call.operands, KnownAt, List.lookup, consD] at hk
            refine ⟨.slice (some ⟨w'.heap.size, 0, none⟩) 1 1, .cells #[.int .u8 t] U8, ?_, _, rfl, Blk.new _ _ _⟩
            simp [execOp, Act.eval, hk, go_sem]
            all_goals rfl
          intro vs w6 hb6 hall _
          simp only [AllS, consD] at hall
          simp only [consD, putAllS, Act.put]
          obtain ⟨h36, -, -, -, h32, -⟩ := hall
          obtain ⟨q, h36e, hblk⟩ := h36
          rw [h36e, h32]
          clear h36e h32
          simp only [List.drop_succ_cons, List.drop_zero, List.setIfInBounds_toArray, List.set_cons_succ, List.set_cons_zero]
          have hb6' : Below w5.heap.size w5 w6 := ((Below.refl w5.heap.size w5).drew).trans hb6
          have HB6 := Lib.hid (HB5.out.trans (hb6'.mono HB5.out.size))
          have HK6 := Lib.hid (And.intro (HBK.out.2.1.below hb6') (HBK.out.2.2.1.below hb6'))
          have HQ := Lib.hid hblk
          have hsz6 := HB6.out.size
          clear hb6 hb6' hblk
          refine wpList_catB2 slByte rfl rfl _ _ rfl rfl HK6.out.2 HB6.out rfl (k := [UInt8.ofNat t.toNat]) rfl (.inr ⟨q, 0, rfl, byt_rd HQ.out HTR.out⟩) (fun _ _ => rfl) (by have := HLE.out; have := HK6.out.2.len; omega) (by unfold maxLen; have := HLE.out; have := HK6.out.2.len; omega) hsz6 ?_
          intro p7 d7 w7 hbuf7 hb7 hkeep
          have hg7 := blk_keep HK6.out.1 hkeep HBK.out.2.2.2
          have x7 : w7.cell? ⟨g, 0, none⟩ = some (.slice p k d) := hg7.cell rfl
          have f7 := hg7.frozen 0
          have HV8 : Hid (BV (w7.setCell ⟨g, 0, none⟩ (.slice p7 (k + 1) d7)) w.heap.size g (accB l i ++ [UInt8.ofNat t.toNat])) := Lib.hid (BV.store HBK.out.1 hg7 hbuf7 (by simp))
          have HB8 : Hid (Below w.heap.size w (w7.setCell ⟨g, 0, none⟩ (.slice p7 (k + 1) d7))) := Lib.hid (hb7.setCell HBK.out.1 _)
          clear hkeep hg7 hbuf7 hb7 HK6 HQ HB6
          go_wp2_with fail
          obtain ⟨w8, hw8⟩ : ∃ w8, w8 = w7.setCell ⟨g, 0, none⟩ (.slice p7 (k + 1) d7) := ⟨_, rfl⟩
          rw [← hw8] at HV8 HB8 ⊢
          have hsw8 : w7.heap.size = w8.heap.size := by rw [hw8]; simp
          clear hw8 x7 f7
          have hs8 := HB8.out.size
          obtain ⟨bn, hbn⟩ : ∃ bn : Nat, bi = bn := ⟨bi.toNat, by have := HR.out.2; omega⟩
          subst hbn
          obtain ⟨w9, hw9⟩ : ∃ w9, w9 = w8.alloc (.cells #[.int .i64 t, .int .u64 bn] BTS) := ⟨_, rfl⟩
          have hba9 : Below w.heap.size w8 w9 := by rw [hw9]; exact (Below.refl _ _).alloc hs8 _
          have HV9 : Hid (BV w9 w.heap.size g (accB l i ++ [UInt8.ofNat t.toNat])) := Lib.hid (HV8.out.below (by rw [hw9]; exact below_alloc w8 _))
          have HB9 := Lib.hid (HB8.out.trans hba9)
          have hn9 : Blk w9 w8.heap.size BTS #[.int .i64 t, .int .u64 bn] := by rw [hw9]; exact Blk.new _ _ _
          have HF9 : Hid (w9.cell? ⟨w8.heap.size, 0, none⟩ = some (.int .i64 t) ∧ w9.cell? ⟨w8.heap.size, 1, none⟩ = some (.int .u64 bn)) := Lib.hid ⟨hn9.cell rfl, hn9.cell rfl⟩
          rw [hsw8, ← hw9]
          obtain ⟨hBg9, p9, k9, d9, hb9, hbuf9, hne9⟩ := HV9.out
          have HK9 := Lib.hid (And.intro hBg9 (And.intro hb9 (And.intro hbuf9 hne9)))
          have HX9 : Hid (w9.cell? ⟨g, 0, none⟩ = some (.slice p9 k9 d9)) := Lib.hid (hb9.cell rfl)
          have hs9 := HB9.out.size
          clear hw9 hba9 hn9 hBg9 hb9 hbuf9 hne9
          refine wp_region_growT 6 (by kernel_rfl) (by kernel_rfl) (by rfl) (by kernel_rfl) ?_
          refine gw_valB (fun v _ => v = .slice p9 k9 d9) (mono_eq _) ?_ ?_
          · intro a' w' hb' hk
            refine ⟨wanted_none rfl, _, ?_, rfl⟩
            have q0 := cell_later9 HX9.out hb'
            simp [Oper.looksAt, Op.operands, Call.operands, KnownAt, List.lookup, consD] at hk
            simp [execOp, Act.eval, hk, q0, go_sem]
            all_goals rfl
          apply gw_val
          · intro a' w' hk
            refine ⟨wanted_none rfl, ?_⟩
            simp [Oper.looksAt, Op.operands, Call.operands, KnownAt, List.lookup, consD] at hk
            simp [execOp, Act.eval, hk, go_sem]
            all_goals rfl
          refine gw_valB (fun v _ => v = .int .u64 bn) (mono_eq _) ?_ ?_
          · intro a' w' hb' hk
            refine ⟨wanted_none rfl, _, ?_, rfl⟩
            have q0 := cell_later9 HF9.out.2 hb'
            simp [Oper.looksAt, Op.operands, Call.operands, KnownAt, List.lookup, consD] at hk
            simp [execOp, Act.eval, hk, q0, go_sem]
            all_goals rfl
          apply gw_val
          · intro a' w' hk
            refine ⟨wanted_none rfl, ?_⟩
            simp [Oper.looksAt, Op.operands, Call.operands, KnownAt, List.lookup, consD] at hk
            simp [execOp, Act.eval, hk, go_sem]
            all_goals rfl
          refine gw_valB (fun v _ => v = .int .i64 t) (mono_eq _) ?_ ?_
          · intro a' w' hb' hk
            refine ⟨wanted_none rfl, _, ?_, rfl⟩
            have q0 := cell_later9 HF9.out.1 hb'
            simp [Oper.looksAt, Op.operands, Call.operands, KnownAt, List.lookup, consD] at hk
            simp [execOp, Act.eval, hk, q0, go_sem]
            all_goals rfl
          refine gw_call 90 #[.int .i64 t] (fun v _ => v = .int .i64 (sizeT t)) (mono_eq _) (fun a' w' hk => ?_) (fun w' hb => (size_any t w').mono ?_) ?_
          · refine ⟨wanted_none rfl, ?_⟩
            simp [Oper.looksAt, Op.operands, Call.operands, KnownAt, List.lookup, consD] at hk
            simp [execOp, Act.eval, hk, go_sem]
            all_goals rfl
          · rintro e w'' ⟨rfl, rfl⟩
            exact ⟨_, rfl, rfl, Below.refl _ _⟩
          intro vs w10 hb10 hall _
          simp only [AllS, consD] at hall
          simp only [consD, putAllS, Act.put]
          obtain ⟨h57, -, -, h54, -, h52, -⟩ := hall
          rw [h57]
          have H54 := Lib.hid h54
          have H52 := Lib.hid h52
          clear h57 h54 h52
          simp only [List.drop_succ_cons, List.drop_zero, List.setIfInBounds_toArray, List.set_cons_succ, List.set_cons_zero]
          have hb10' : Below w9.heap.size w9 w10 := ((Below.refl w9.heap.size w9).drew).trans hb10
          have HB10 := Lib.hid (HB9.out.trans (hb10'.mono HB9.out.size))
          have HK10 := Lib.hid (And.intro (HK9.out.2.1.below hb10') (HK9.out.2.2.1.below hb10'))
          have hs10 := HB10.out.size
          clear hb10 hb10'
          go_wp2_with fail
          rw [H54.out, H52.out]
          clear H54 H52
          refine (cBig_any p9 k9 d9 (accB l i ++ [UInt8.ofNat t.toNat]) bn (sizeT t) w10 HK10.out.2.len (by have h1 := HK10.out.2.len; rw [List.length_append, List.length_singleton] at h1; have := HLE.out; omega) (by have := HR.out.2; omega) (by have := sizeT_le t; omega) (by have := sizeT_le t; omega) HK10.out.2.rd).mono ?_
          rintro e w11 ⟨p11, n11, c11, rfl, hbuf11, hb11⟩
          have hg11 := HK10.out.1.below hb11
          have x11 : w11.cell? ⟨g, 0, none⟩ = some (.slice p9 k9 d9) := hg11.cell rfl
          have f11 := hg11.frozen 0
          have HF11 : Hid (BV (w11.setCell ⟨g, 0, none⟩ (.slice p11 n11 c11)) w.heap.size g (accB l (i + 1)) ∧ Below w.heap.size w (w11.setCell ⟨g, 0, none⟩ (.slice p11 n11 c11))) := Lib.hid ⟨by
            rw [HS.out (by omega)]
            have := BV.store HBK.out.1 hg11 (hbuf11.mono hs10) (by simp only [List.length_append, List.length_singleton]; omega)
            simpa [entB, hk2, List.append_assoc] using this, (HB10.out.trans (hb11.mono hs10)).setCell HBK.out.1 _⟩
          clear hbuf11 hb11 hg11 HK10 HB10 HK9 HX9 HF9 HB9 HV9
          go_wp2_with fail
          go_roundw
          case rel => exact ⟨i + 1, by omega, by go_num, Lib.hid HF11.out.1, Lib.hid HF11.out.2⟩
          case measure => simp [intOf] <;> omega
        by_cases hk3 : kindT t = 3
        · have hof : ofV ⟨t, s, bi, ra, rb⟩ = .iface LNK (.agg #[.int .i64 t, .int .i64 ra]) := by unfold ofV; simp only [hk3]
          rw [hof]
          have htr := kind_range hk3 (by decide)
          obtain ⟨hBg, p, k, d, hb, hbuf, hne⟩ := HV5.out
          have HBK := Lib.hid (And.intro hBg (And.intro hb (And.intro hbuf hne)))
          have HX0 : Hid (w5.cell? ⟨g, 0, none⟩ = some (.slice p k d)) := Lib.hid (hb.cell rfl)
          have gtw : IntKind.u8.wrap t = t := wrap_small htr
          have HTR : Hid (0 ≤ t ∧ t < 256) := Lib.hid htr
          clear hBg hb hbuf hne hof htr
          go_wp2_with fail
          refine wp_region_growT 5 (by kernel_rfl) (by kernel_rfl) (by rfl) (by kernel_rfl) ?_
          refine gw_valB (fun v _ => v = .slice p k d) (mono_eq _) ?_ ?_
          · intro a' w' hb' hk
            refine ⟨wanted_none rfl, _, ?_, rfl⟩
            have q0 := cell_later9 HX0.out hb'
            simp [Oper.looksAt, Op.operands, Call.operands, KnownAt, List.lookup, consD] at hk
            simp [execOp, Act.eval, hk, q0, go_sem]
            all_goals rfl
          apply gw_val
          · intro a' w' hk
            refine ⟨wanted_none rfl, ?_⟩
            simp [Oper.looksAt, Op.operands, Call.operands, KnownAt, List.lookup, consD] at hk
            simp [execOp, Act.eval, hk, go_sem]
            all_goals rfl
          refine gw_call 152 #[.agg #[.int .i64 t, .int .i64 ra]] (fun v _ => v = .int .i64 t) (mono_eq _) (fun a' w' hk => ?_) (fun w' hb => (tagL_any t ra w').mono ?_) ?_
          · refine ⟨wanted_none rfl, ?_⟩
            simp [Oper.looksAt, Op.operands, Call.operands, KnownAt, List.lookup, consD] at hk
            simp [execOp, Act.eval, hk, go_sem]
            all_goals rfl
          · rintro e w'' ⟨rfl, hb⟩
            exact ⟨_, rfl, rfl, hb⟩
          apply gw_val
          · intro a' w' hk
            refine ⟨wanted_none rfl, ?_⟩
            simp [Oper.looksAt, Op.operands, Call.operands, KnownAt, List.lookup, consD] at hk
            simp [execOp, Act.eval, hk, gtw, go_sem]
            all_goals rfl
          refine gw_newP9 (BytG t) (mono_byt t) ?_ ?_
          · intro a' w' hb' hk
            refine ⟨wanted_none rfl, ?_⟩
            simp [Oper.looksAt, Op.operands, Call.operands, KnownAt, List.lookup, consD] at hk
            refine ⟨.slice (some ⟨w'.heap.size, 0, none⟩) 1 1, .cells #[.int .u8 t] U8, ?_, _, rfl, Blk.new _ _ _⟩
            simp [execOp, Act.eval, hk, go_sem]
            all_goals rfl
          intro vs w6 hb6 hall _
          simp only [AllS, consD] at hall
          simp only [consD, putAllS, Act.put]
          obtain ⟨h36, -, -, -, h32, -⟩ := hall
          obtain ⟨q, h36e, hblk⟩ := h36
          rw [h36e, h32]
          clear h36e h32
          simp only [List.drop_succ_cons, List.drop_zero, List.setIfInBounds_toArray, List.set_cons_succ, List.set_cons_zero]
          have hb6' : Below w5.heap.size w5 w6 := ((Below.refl w5.heap.size w5).drew).trans hb6
          have HB6 := Lib.hid (HB5.out.trans (hb6'.mono HB5.out.size))
          have HK6 := Lib.hid (And.intro (HBK.out.2.1.below hb6') (HBK.out.2.2.1.below hb6'))
          have HQ := Lib.hid hblk
          have hsz6 := HB6.out.size
          clear hb6 hb6' hblk
          refine wpList_catB2 slByte rfl rfl _ _ rfl rfl HK6.out.2 HB6.out rfl (k := [UInt8.ofNat t.toNat]) rfl (.inr ⟨q, 0, rfl, byt_rd HQ.out HTR.out⟩) (fun _ _ => rfl) (by have := HLE.out; have := HK6.out.2.len; omega) (by unfold maxLen; have := HLE.out; have := HK6.out.2.len; omega) hsz6 ?_
          intro p7 d7 w7 hbuf7 hb7 hkeep
          have hg7 := blk_keep HK6.out.1 hkeep HBK.out.2.2.2
          have x7 : w7.cell? ⟨g, 0, none⟩ = some (.slice p k d) := hg7.cell rfl
          have f7 := hg7.frozen 0
          have HV8 : Hid (BV (w7.setCell ⟨g, 0, none⟩ (.slice p7 (k + 1) d7)) w.heap.size g (accB l i ++ [UInt8.ofNat t.toNat])) := Lib.hid (BV.store HBK.out.1 hg7 hbuf7 (by simp))
          have HB8 : Hid (Below w.heap.size w (w7.setCell ⟨g, 0, none⟩ (.slice p7 (k + 1) d7))) := Lib.hid (hb7.setCell HBK.out.1 _)
          clear hkeep hg7 hbuf7 hb7 HK6 HQ HB6
          go_wp2_with fail
          obtain ⟨w8, hw8⟩ : ∃ w8, w8 = w7.setCell ⟨g, 0, none⟩ (.slice p7 (k + 1) d7) := ⟨_, rfl⟩
          rw [← hw8] at HV8 HB8 ⊢
          have hsw8 : w7.heap.size = w8.heap.size := by rw [hw8]; simp
          clear hw8 x7 f7
          have hs8 := HB8.out.size
          obtain ⟨w9, hw9⟩ : ∃ w9, w9 = w8.alloc (.cells #[.int .i64 t, .int .i64 ra] LNK) := ⟨_, rfl⟩
          have hba9 : Below w.heap.size w8 w9 := by rw [hw9]; exact (Below.refl _ _).alloc hs8 _
          have HV9 : Hid (BV w9 w.heap.size g (accB l i ++ [UInt8.ofNat t.toNat])) := Lib.hid (HV8.out.below (by rw [hw9]; exact below_alloc w8 _))
          have HB9 := Lib.hid (HB8.out.trans hba9)
          have hn9 : Blk w9 w8.heap.size LNK #[.int .i64 t, .int .i64 ra] := by rw [hw9]; exact Blk.new _ _ _
          have HF9 : Hid (w9.cell? ⟨w8.heap.size, 1, none⟩ = some (.int .i64 ra)) := Lib.hid (hn9.cell rfl)
          rw [hsw8, ← hw9]
          have hs9 := HB9.out.size
          have q9 := HF9.out
          clear hw9 hba9 hn9
          go_wp2_with fail
          clear q9
          refine (two_any g w.heap.size _ ra w9 HV9.out (by rw [List.length_append, List.length_singleton]; have := HLE.out; omega) hs9).mono ?_
          rintro e w10 ⟨rfl, hv10, hg10⟩
          have HF11 : Hid (BV w10 w.heap.size g (accB l (i + 1)) ∧ Below w.heap.size w w10) := Lib.hid ⟨by
            rw [HS.out (by omega)]
            simpa [entB, hk3, List.append_assoc] using hv10, HB9.out.grown hg10 hs9 (fun j hj => by simp only [Option.some.injEq] at hj; have := HBK.out.1; omega)⟩
          clear hv10 hg10
          go_wp2_with fail
          go_roundw
          case rel => exact ⟨i + 1, by omega, by go_num, Lib.hid HF11.out.1, Lib.hid HF11.out.2⟩
          case measure => simp [intOf] <;> omega
        by_cases hk4 : kindT t = 4
        · have hof : ofV ⟨t, s, bi, ra, rb⟩ = .iface PAR (.agg #[.int .i64 t, .int .i64 ra, .int .i64 rb]) := by unfold ofV; simp only [hk4]
          rw [hof]
          have htr := kind_range hk4 (by decide)
          obtain ⟨hBg, p, k, d, hb, hbuf, hne⟩ := HV5.out
          have HBK := Lib.hid (And.intro hBg (And.intro hb (And.intro hbuf hne)))
          have HX0 : Hid (w5.cell? ⟨g, 0, none⟩ = some (.slice p k d)) := Lib.hid (hb.cell rfl)
          have gtw : IntKind.u8.wrap t = t := wrap_small htr
          have HTR : Hid (0 ≤ t ∧ t < 256) := Lib.hid htr
          clear hBg hb hbuf hne hof htr
          go_wp2_with fail
          refine wp_region_growT 5 (by kernel_rfl) (by kernel_rfl) (by rfl) (by kernel_rfl) ?_
          refine gw_valB (fun v _ => v = .slice p k d) (mono_eq _) ?_ ?_
          · intro a' w' hb' hk
            refine ⟨wanted_none rfl, _, ?_, rfl⟩
            have q0 := cell_later9 HX0.out hb'
            simp [Oper.looksAt, Op.operands, Call.operands, KnownAt, List.lookup, consD] at hk
            simp [execOp, Act.eval, hk, q0, go_sem]
            all_goals rfl
          apply gw_val
          · intro a' w' hk
            refine ⟨wanted_none rfl, ?_⟩
            simp [Oper.looksAt, Op.operands, Call.operands, KnownAt, List.lookup, consD] at hk
            simp [execOp, Act.eval, hk, go_sem]
            all_goals rfl
          refine gw_call 153 #[.agg #[.int .i64 t, .int .i64 ra, .int .i64 rb]] (fun v _ => v = .int .i64 t) (mono_eq _) (fun a' w' hk => ?_) (fun w' hb => (tagP_any t ra rb w').mono ?_) ?_
          · refine ⟨wanted_none rfl, ?_⟩
            simp [Oper.looksAt, Op.operands, Call.operands, KnownAt, List.lookup, consD] at hk
            simp [execOp, Act.eval, hk, go_sem]
            all_goals rfl
          · rintro e w'' ⟨rfl, hb⟩
            exact ⟨_, rfl, rfl, hb⟩
          apply gw_val
          · intro a' w' hk
            refine ⟨wanted_none rfl, ?_⟩
            simp [Oper.looksAt, Op.operands, Call.operands, KnownAt, List.lookup, consD] at hk
            simp [execOp, Act.eval, hk, gtw, go_sem]
            all_goals rfl
          refine gw_newP9 (BytG t) (mono_byt t) ?_ ?_
          · intro a' w' hb' hk
            refine ⟨wanted_none rfl, ?_⟩
            simp [Oper.looksAt, Op.operands, Call.operands, KnownAt, List.lookup, consD] at hk
            refine ⟨.slice (some ⟨w'.heap.size, 0, none⟩) 1 1, .cells #[.int .u8 t] U8, ?_, _, rfl, Blk.new _ _ _⟩
            simp [execOp, Act.eval, hk, go_sem]
            all_goals rfl
          intro vs w6 hb6 hall _
          simp only [AllS, consD] at hall
          simp only [consD, putAllS, Act.put]
          obtain ⟨h36, -, -, -, h32, -⟩ := hall
          obtain ⟨q, h36e, hblk⟩ := h36
          rw [h36e, h32]
          clear h36e h32
          simp only [List.drop_succ_cons, List.drop_zero, List.setIfInBounds_toArray, List.set_cons_succ, List.set_cons_zero]
          have hb6' : Below w5.heap.size w5 w6 := ((Below.refl w5.heap.size w5).drew).trans hb6
          have HB6 := Lib.hid (HB5.out.trans (hb6'.mono HB5.out.size))
          have HK6 := Lib.hid (And.intro (HBK.out.2.1.below hb6') (HBK.out.2.2.1.below hb6'))
          have HQ := Lib.hid hblk
          have hsz6 := HB6.out.size
          clear hb6 hb6' hblk
          refine wpList_catB2 slByte rfl rfl _ _ rfl rfl HK6.out.2 HB6.out rfl (k := [UInt8.ofNat t.toNat]) rfl (.inr ⟨q, 0, rfl, byt_rd HQ.out HTR.out⟩) (fun _ _ => rfl) (by have := HLE.out; have := HK6.out.2.len; omega) (by unfold maxLen; have := HLE.out; have := HK6.out.2.len; omega) hsz6 ?_
          intro p7 d7 w7 hbuf7 hb7 hkeep
          have hg7 := blk_keep HK6.out.1 hkeep HBK.out.2.2.2
          have x7 : w7.cell? ⟨g, 0, none⟩ = some (.slice p k d) := hg7.cell rfl
          have f7 := hg7.frozen 0
          have HV8 : Hid (BV (w7.setCell ⟨g, 0, none⟩ (.slice p7 (k + 1) d7)) w.heap.size g (accB l i ++ [UInt8.ofNat t.toNat])) := Lib.hid (BV.store HBK.out.1 hg7 hbuf7 (by simp))
          have HB8 : Hid (Below w.heap.size w (w7.setCell ⟨g, 0, none⟩ (.slice p7 (k + 1) d7))) := Lib.hid (hb7.setCell HBK.out.1 _)
          clear hkeep hg7 hbuf7 hb7 HK6 HQ HB6
          go_wp2_with fail
          obtain ⟨w8, hw8⟩ : ∃ w8, w8 = w7.setCell ⟨g, 0, none⟩ (.slice p7 (k + 1) d7) := ⟨_, rfl⟩
          rw [← hw8] at HV8 HB8 ⊢
          have hsw8 : w7.heap.size = w8.heap.size := by rw [hw8]; simp
          clear hw8 x7 f7
          have hs8 := HB8.out.size
          obtain ⟨w9, hw9⟩ : ∃ w9, w9 = w8.alloc (.cells #[.int .i64 t, .int .i64 ra, .int .i64 rb] PAR) := ⟨_, rfl⟩
          have hba9 : Below w.heap.size w8 w9 := by rw [hw9]; exact (Below.refl _ _).alloc hs8 _
          have HV9 : Hid (BV w9 w.heap.size g (accB l i ++ [UInt8.ofNat t.toNat])) := Lib.hid (HV8.out.below (by rw [hw9]; exact below_alloc w8 _))
          have HB9 := Lib.hid (HB8.out.trans hba9)
          have hn9 : Blk w9 w8.heap.size PAR #[.int .i64 t, .int .i64 ra, .int .i64 rb] := by rw [hw9]; exact Blk.new _ _ _
          have HF9 : Hid (Blk w9 w8.heap.size PAR #[.int .i64 t, .int .i64 ra, .int .i64 rb] ∧ w8.heap.size < w9.heap.size ∧ w8.heap.size ≠ g) := Lib.hid ⟨hn9, hn9.lt, by
            obtain ⟨_, _, _, _, hx, _⟩ := HV8.out
            exact Nat.ne_of_gt hx.lt⟩
          have q9 : w9.cell? ⟨w8.heap.size, 1, none⟩ = some (.int .i64 ra) := hn9.cell rfl
          rw [hsw8, ← hw9]
          have hs9 := HB9.out.size
          clear hw9 hba9 hn9
          go_wp2_with fail
          clear q9
          refine (two_any g w.heap.size _ ra w9 HV9.out (by rw [List.length_append, List.length_singleton]; have := HLE.out; omega) hs9).mono ?_
          rintro e w10 ⟨rfl, hv10, hg10⟩
          have HB10 := Lib.hid (HB9.out.grown hg10 hs9 (fun j hj => by simp only [Option.some.injEq] at hj; have := HBK.out.1; omega))
          have q10 : w10.cell? ⟨w8.heap.size, 2, none⟩ = some (.int .i64 rb) := (HF9.out.1.grown hg10 (fun he => HF9.out.2.2 (by simpa using he))).cell rfl
          have HV10 := Lib.hid hv10
          have hs10 := HB10.out.size
          clear hv10 hg10
          go_wp2_with fail
          clear q10
          refine (two_any g w.heap.size _ rb w10 HV10.out (by rw [List.length_append, List.length_append, List.length_singleton]; have := HLE.out; have := putB_le (u64N ra) 2; omega) hs10).mono ?_
          rintro e w11 ⟨rfl, hv11, hg11⟩
          have HF11 : Hid (BV w11 w.heap.size g (accB l (i + 1)) ∧ Below w.heap.size w w11) := Lib.hid ⟨by
            rw [HS.out (by omega)]
            simpa [entB, hk4, List.append_assoc] using hv11, HB10.out.grown hg11 hs10 (fun j hj => by simp only [Option.some.injEq] at hj; have := HBK.out.1; omega)⟩
          clear hv11 hg11
          go_wp2_with fail
          go_roundw
          case rel => exact ⟨i + 1, by omega, by go_num, Lib.hid HF11.out.1, Lib.hid HF11.out.2⟩
          case measure => simp [intOf] <;> omega
        have hk0 : kindT t = 0 := by
          unfold kindT at hk1 hk2 hk3 hk4 ⊢
          repeat' split
          all_goals simp_all
        have hof : ofV ⟨t, s, bi, ra, rb⟩ = .nilIface := by unfold ofV; simp only [hk0]
        rw [hof]
        have HF11 : Hid (BV w5 w.heap.size g (accB l (i + 1)) ∧ Below w.heap.size w w5) := Lib.hid ⟨by
          rw [HS.out (by omega)]
          simpa [entB, hk0] using HV5.out, HB5.out⟩
        clear hof
        go_wp2_with fail
        go_roundw
        case rel => exact ⟨i + 1, by omega, by go_num, Lib.hid HF11.out.1, Lib.hid HF11.out.2⟩
        case measure => simp [intOf] <;> omega
    · have hni : i = n := by omega
      subst hni
      obtain ⟨hBg, p, k, d, hb, hbuf, hne⟩ := hV.out
      have x9 : wr.cell? ⟨g, 0, none⟩ = some (.slice p k d) := hb.cell rfl
      have HF : Hid (Buf wr w.heap.size U8 bE p k d (poolB l)) := Lib.hid (by unfold poolB; rw [HH.out.1]; exact hbuf)
      clear hBg hb hbuf hne
      go_wp2_with fail
      go_ret
      exact ⟨_, _, _, rfl, HF.out, hB.out⟩
end Go.Proofs.Ytbknkahakmfhkaa
