/- The document's Bytes of constants. -/
import Derived.Test.YtbknkahakmfhkaaPooJ
import Derived.Test.YtbknkahakmfhkaaPooD
import Derived.Test.YtbknkahakmfhkaaRef02PB
import Derived.Lib.ConvBytes
namespace Go.Proofs.Ytbknkahakmfhkaa
open Go.RowKit
set_option linter.unusedVariables false
set_option linter.unusedSimpArgs false

theorem form_kind (t : Int) : (formT t = 0 ∧ kindT t = 0) ∨ (t = 1 ∧ formT t = 116 ∧ kindT t = 1) ∨ (formT t = 52 ∧ kindT t = 2 ∧ sizeT t = 4) ∨ (formT t = 56 ∧ kindT t = 2 ∧ sizeT t = 8) ∨ (formT t = 97 ∧ kindT t = 3) ∨ (formT t = 98 ∧ kindT t = 4) := by
  by_cases h : t = 1 ∨ t = 3 ∨ t = 4 ∨ t = 5 ∨ t = 6 ∨ t = 7 ∨ t = 8 ∨ t = 9 ∨ t = 10 ∨ t = 11 ∨ t = 12
  · rcases h with rfl | rfl | rfl | rfl | rfl | rfl | rfl | rfl | rfl | rfl | rfl <;> decide
  · left
    unfold formT kindT
    rw [if_neg (by omega), if_neg (by omega), if_neg (by omega), if_neg (by omega), if_neg (by omega), if_neg (by omega), if_neg (by omega), if_neg (by omega), if_neg (by omega)]
    exact ⟨rfl, rfl⟩
theorem accB_pos (l : List RawK) (i : Nat) : 0 < (accB l i).length := by
  unfold accB putB
  rw [if_pos (by decide), List.length_append, List.length_reverse, littleL_length]
  exact Nat.lt_of_lt_of_le (by decide : 0 < 2) (Nat.le_add_right _ _)
section
variable {ops : Array Oper} {Q : Exit → Act → World → Prop} {a : Act} {w0 : World} {o : Oper} {rest : List Oper} {done : List (Nat × Spec)}
theorem rd_bytes9 (w : World) (s : ByteArray) : Rd (Lib.bytesWorld w 5 s) bE (some ⟨w.heap.size, 0, none⟩) (nameL s) ∧ Below w.heap.size w (Lib.bytesWorld w 5 s) := by
  refine ⟨.inr ⟨_, _, rfl, fun j x hj => ?_⟩, ?_⟩
  · have hjl : j < s.size := by rw [← nameL_len]; exact (List.getElem?_eq_some_iff.1 hj).1
    rw [Nat.zero_add, Lib.bytesWorld_cell w _ s j hjl]
    have : s.data.toList.getD j 0 = x := by rw [List.getD_eq_getElem?_getD]; unfold nameL at hj; rw [hj]; rfl
    rw [this]
  · exact ⟨rfl, rfl, rfl, by rw [Lib.bytesWorld_size]; omega, fun k hk => Lib.bytesWorld_at_old w _ s k hk⟩
def SlG (L : List UInt8) : Spec := fun v w => ∃ a n c, v = .slice a n c ∧ L.length = n ∧ Rd w bE a L
theorem mono_slg (L : List UInt8) : Mono (SlG L) := fun v w w' ⟨a, n, c, h1, h2, h3⟩ hb => ⟨a, n, c, h1, h2, h3.below hb⟩
/-- []byte(s). -/
theorem gw_bytes9 (t : Nat) (s : ByteArray) (ho : o.op = .convert 9 29 (.tmp t)) (hk : ∀ (a' : Act) (w' : World), (∀ t ∈ o.looksAt ops, KnownAt done a a' w' t) → Region.wanted o (yielded ops a'.tmps) = true ∧ a'.tmps.getD t undef = .string s)
    (h : GW Try.prog ops Q a w0 rest (consD o (SlG (nameL s)) done)) : GW Try.prog ops Q a w0 (o :: rest) done := by
  refine ⟨_, mono_slg (nameL s), fun a' w' hb hk' => ?_, h⟩
  obtain ⟨h2, h3⟩ := hk a' w' hk'
  rw [if_pos h2]
  have hrun := Lib.run_convert_string_bytes (P := Try.prog) w' 9 29 5 s Try.underlying9 Try.underlying29 Try.underlying5
  obtain ⟨h4, h5⟩ := rd_bytes9 w' s
  unfold Oper.wp
  simp only [execOp, ho, Act.eval, h3]
  simp [hrun, Result.andThen, Oper.upon]
  exact ⟨_, rfl, ⟨_, _, _, rfl, nameL_len s, h4⟩, h5⟩
end
def BufG (B : Nat) (l : List UInt8) : Spec := fun v w => ∃ p n c, v = .slice p n c ∧ Buf w B U8 bE p n c l
theorem mono_buf (B : Nat) (l : List UInt8) : Mono (BufG B l) := fun v w w' ⟨p, n, c, h1, h2⟩ hb => ⟨p, n, c, h1, h2.below hb⟩
theorem below_drew7 {w w' : World} (h : Below w.drew.heap.size w.drew w') : Below w.heap.size w w' := ((Below.refl w.heap.size w).drew).trans h
set_option maxRecDepth 100000 in
set_option maxHeartbeats 8000000 in
theorem refBytes_any (a : Option Addr) (n c : Nat) (l : List RawK) (w : World) (hl : l.length = n) (hn : n ≤ 100) (hr : RdW w a l) (ht : ∀ r ∈ l, r.text.size ≤ 200) (hbt : ∀ r ∈ l, 0 ≤ r.bits ∧ r.bits < 18446744073709551616) :
  Calls Try.prog 43 #[.slice a n c] w fun e w' => ∃ p k d, e = .returned (.slice p k d) ∧ Buf w' w.heap.size U8 bE p k d (poolB l) ∧ Below w.heap.size w w' := by
  have HH := Lib.hid (And.intro hl (And.intro hr (And.intro ht hbt)))
  have gl : IntKind.u64.wrap (n : Int) = ((u64N (n : Int) : Nat) : Int) := u64N_int _
  have HV := Lib.hid (u64N_lt (n : Int))
  obtain ⟨V, hV⟩ : ∃ V, V = u64N (n : Int) := ⟨_, rfl⟩
  rw [← hV] at gl HV
  have HVE := Lib.hid hV
  clear hl hr ht hbt hV
  have mixed : Try.prog.follows .mixedOrders = true := by kernel_rfl
  go_enter Try.func43, Try.ntmps43
  go_wp2_with fail
  refine (rBig_any none 0 0 [] V 2 w rfl (by omega) HV.out Rd.nil).mono ?_
  rintro e w1 ⟨p1, n1, c1, rfl, hbuf, hB1⟩
  have HB1 : Hid (Buf w1 w.heap.size U8 bE p1 n1 c1 (accB l 0) ∧ Below w.heap.size w w1) := Lib.hid (by
    rw [List.nil_append] at hbuf
    have hac : accB l 0 = putB V 2 := by unfold accB; rw [HVE.out, HH.out.1]; simp
    rw [hac]
    exact ⟨.inl hbuf, hB1⟩)
  clear hbuf hB1 gl
  go_wp2
  go_loopw [3, 12] (fun x3 x12 wr => ∃ (i : Nat) (p : Option Addr) (k d : Nat), i ≤ n ∧ x12 = .int .i64 i ∧ x3 = .slice p k d ∧ Hid (Buf wr w.heap.size U8 bE p k d (accB l i)) ∧ Hid (Below w.heap.size w wr)) (fun x3 x12 _ => n - (intOf x12).toNat)
  case atStart => exact ⟨0, p1, n1, c1, Nat.zero_le _, rfl, rfl, Lib.hid HB1.out.1, Lib.hid HB1.out.2⟩
  case round =>
    clear HB1
    obtain ⟨i, p, k, d, hi, rfl, rfl, hV, hB⟩ := hrel
    by_cases hin : i < n
    · have hil : i < l.length := by rw [HH.out.1]; exact hin
      obtain ⟨b, off, rfl, hc⟩ := (HH.out.2.1.below hB.out).at hil
      obtain ⟨c0, c1, c2, c3, c4⟩ := hc
      have HS : Hid (0 < i → accB l (i + 1) = accB l i ++ entB l[i]) := Lib.hid (fun h => accB_snoc hil h)
      have HR := Lib.hid (And.intro (HH.out.2.2.1 l[i] (List.getElem_mem hil)) (HH.out.2.2.2 l[i] (List.getElem_mem hil)))
      have HLE := Lib.hid (accB_le l i (by omega) HH.out.2.2.1)
      have HPOS := Lib.hid (accB_pos l i)
      generalize l[i] = r at *
      obtain ⟨t, s, bi, ra, rb⟩ := r
      simp only at c0 c1 c2 c3 c4
      have hs0 := hB.out.size
      obtain ⟨bn, hbn⟩ : ∃ bn : Nat, bi = bn := ⟨bi.toNat, by have h2 : 0 ≤ bi ∧ bi < 18446744073709551616 := HR.out.2; omega⟩
      subst hbn
      obtain ⟨w5, hw5⟩ : ∃ w5, w5 = wr.alloc (.cells #[.int .i64 t, .string s, .int .u64 bn, .int .i64 ra, .int .i64 rb] RAW) := ⟨_, rfl⟩
      have hb5 : Below w.heap.size wr w5 := by rw [hw5]; exact (Below.refl _ _).alloc hs0 _
      have HV5 : Hid (Buf w5 w.heap.size U8 bE p k d (accB l i)) := Lib.hid (hV.out.below (by rw [hw5]; exact below_alloc wr _))
      have HB5 := Lib.hid (hB.out.trans hb5)
      have HN5 : Hid (Blk w5 wr.heap.size RAW #[.int .i64 t, .string s, .int .u64 bn, .int .i64 ra, .int .i64 rb]) := Lib.hid (by rw [hw5]; exact Blk.new _ _ _)
      have hs5 := HB5.out.size
      clear hb5
      by_cases hi0 : i = 0
      · subst hi0
        have HF : Hid (Buf w5 w.heap.size U8 bE p k d (accB l (0 + 1))) := Lib.hid (by rw [Nat.zero_add, accB_one]; exact HV5.out)
        simp only [Nat.zero_mul, Nat.add_zero] at c0 c1 c2 c3 c4
        go_wp2
        rw [← hw5]
        go_roundw
        case rel => exact ⟨1, p, k, d, by omega, rfl, rfl, HF, HB5⟩
        case measure => simp [intOf] <;> omega
      · have g0 : ((i : Int) == 0) = false := by simp; omega
        go_wp2_with fail
        rw [← hw5]
        have HNE : Hid (∀ q : Addr, p = some q → q.block ≠ wr.heap.size) := Lib.hid (fun q hq => Nat.ne_of_lt ((hV.out.rd).ne_new HPOS.out q hq))
        clear c0 c1 c2 c3 c4 hV hB hw5
        refine (form_any t _).mono ?_
        rintro e wf ⟨rfl, hwf⟩; have hwf := hwf.symm; subst hwf
        rcases form_kind t with ⟨hf, hk⟩ | ⟨rfl, hf, hk⟩ | ⟨hf, hk, hz⟩ | ⟨hf, hk, hz⟩ | ⟨hf, hk⟩ | ⟨hf, hk⟩
        all_goals rw [hf]
        · have HF11 : Hid (Buf w5 w.heap.size U8 bE p k d (accB l (i + 1))) := Lib.hid (by
            rw [HS.out (by omega)]
            simpa [entB, hk] using HV5.out)
          go_wp2_with fail
          go_roundw
          case rel => exact ⟨i + 1, p, k, d, by omega, by go_num, rfl, HF11, HB5⟩
          case measure => simp [intOf] <;> omega
        · have htr : (0 : Int) ≤ 1 ∧ (1 : Int) < 256 := by decide
          have gtw : IntKind.u8.wrap (1 : Int) = 1 := wrap_small htr
          have q0 : w5.cell? ⟨wr.heap.size, 0, none⟩ = some (.int .i64 1) := HN5.out.cell rfl
          have HTR := Lib.hid htr
          clear htr
          go_wp2_with (at_builtin; refine wpList_catB2 slByte rfl rfl _ _ rfl rfl (HV5.out.below (below_alloc _ _)) (HB5.out.alloc hs5 _) rfl (k := [UInt8.ofNat (1 : Int).toNat]) rfl (.inr ⟨_, 0, rfl, byt_rd (Blk.new _ _ _) HTR.out⟩) (fun _ _ => rfl) (by have := HLE.out; have := HV5.out.len; omega) (by unfold maxLen; have := HLE.out; have := HV5.out.len; omega) (by simp; omega) ?_; intro p7 d7 w7 hbuf7 hb7 hkeep; have HN7 : Hid (Blk w7 wr.heap.size RAW #[.int .i64 1, .string s, .int .u64 bn, .int .i64 ra, .int .i64 rb]) := Lib.hid (blk_keep (HN5.out.alloc _) hkeep HNE.out); have HV7 := Lib.hid hbuf7; have HB7 := Lib.hid hb7; have q0 : w7.cell? ⟨wr.heap.size, 0, none⟩ = some (.int .i64 1) := HN7.out.cell rfl; clear hkeep hbuf7 hb7 HV5 HB5 HN5 hs5)
          refine (form_any 1 _).mono ?_
          rintro e wf ⟨rfl, hwf⟩; have hwf := hwf.symm; subst hwf
          rw [hf]
          have hs7 := HB7.out.size
          have q1 : w7.cell? ⟨wr.heap.size, 1, none⟩ = some (.string s) := HN7.out.cell rfl
          have HQ := Lib.hid q1
          have gls : IntKind.u64.wrap (s.size : Int) = ((u64N (s.size : Int) : Nat) : Int) := u64N_cast _
          clear q1
          go_wp2_with fail
          refine wp_region_growT 9 (by kernel_rfl) (by kernel_rfl) (by rfl) (by kernel_rfl) ?_
          apply gw_val
          · intro a' w' hk
            refine ⟨wanted_none rfl, ?_⟩
            simp [Oper.looksAt, Op.operands, Call.operands, KnownAt, List.lookup, consD] at hk
            simp [execOp, Act.eval, hk, go_sem]
            all_goals rfl
          apply gw_val
          · intro a' w' hk
            refine ⟨wanted_none rfl, ?_⟩
            simp [Oper.looksAt, Op.operands, Call.operands, KnownAt, List.lookup, consD] at hk
            simp [execOp, Act.eval, hk, go_sem]
            all_goals rfl
          refine gw_valB (fun v _ => v = .string s) (mono_eq _) ?_ ?_
          · intro a' w' hb' hk
            refine ⟨wanted_none rfl, _, ?_, rfl⟩
            have q0 := cell_later9 HQ.out hb'
            simp [Oper.looksAt, Op.operands, Call.operands, KnownAt, List.lookup, consD] at hk
            simp [execOp, Act.eval, hk, q0, go_sem]
            all_goals rfl
          apply gw_val
          · intro a' w' hk
            refine ⟨wanted_none rfl, ?_⟩
            simp [Oper.looksAt, Op.operands, Call.operands, KnownAt, List.lookup, consD] at hk
            simp [execOp, Act.eval, hk, go_sem]
            all_goals rfl
          apply gw_val
          · intro a' w' hk
            refine ⟨wanted_none rfl, ?_⟩
            simp [Oper.looksAt, Op.operands, Call.operands, KnownAt, List.lookup, consD] at hk
            simp [execOp, Act.eval, hk, gls, go_sem]
            all_goals rfl
          refine gw_call 84 #[.slice p7 (k + 1) d7, .int .u64 (u64N (s.size : Int) : Nat), .int .i64 2] (BufG w7.heap.size (accB l i ++ [UInt8.ofNat (1 : Int).toNat] ++ putB (u64N (s.size : Int)) 2)) (mono_buf _ _) (fun a' w' hk => ?_) (fun w' hb => (rBig_any p7 (k + 1) d7 _ (u64N (s.size : Int)) 2 w' HV7.out.len (by have h1 := HV7.out.len; rw [List.length_append, List.length_singleton] at h1; have := HLE.out; omega) (u64N_lt _) (HV7.out.rd.below (below_drew7 hb))).mono ?_) ?_
          · refine ⟨wanted_none rfl, ?_⟩
            simp [Oper.looksAt, Op.operands, Call.operands, KnownAt, List.lookup, consD] at hk
            simp [execOp, Act.eval, hk, go_sem]
            all_goals rfl
          · rintro e w'' ⟨p8, n8, c8, rfl, hown8, hb8⟩
            refine ⟨_, rfl, ⟨p8, n8, c8, rfl, ?_⟩, hb8⟩
            have h0 : Buf w'' w'.heap.size U8 bE p8 n8 c8 _ := .inl hown8
            exact h0.mono (below_drew7 hb).size
          apply gw_val
          · intro a' w' hk
            refine ⟨wanted_none rfl, ?_⟩
            simp [Oper.looksAt, Op.operands, Call.operands, KnownAt, List.lookup, consD] at hk
            simp [execOp, Act.eval, hk, go_sem]
            all_goals rfl
          refine gw_valB (fun v _ => v = .string s) (mono_eq _) ?_ ?_
          · intro a' w' hb' hk
            refine ⟨wanted_none rfl, _, ?_, rfl⟩
            have q0 := cell_later9 HQ.out hb'
            simp [Oper.looksAt, Op.operands, Call.operands, KnownAt, List.lookup, consD] at hk
            simp [execOp, Act.eval, hk, q0, go_sem]
            all_goals rfl
          refine gw_bytes9 43 s rfl ?_ ?_
          · intro a' w' hk
            refine ⟨wanted_none rfl, ?_⟩
            simp [Oper.looksAt, Op.operands, Call.operands, KnownAt, List.lookup, consD] at hk
            simpa using hk
          intro vs w8 hb8 hall _
          simp only [AllS, consD] at hall
          simp only [consD, putAllS, Act.put]
          obtain ⟨h44, -, -, h41, -⟩ := hall
          obtain ⟨p8, n8, c8, h41, hbuf8⟩ := h41
          obtain ⟨p9, n9, c9, h44, hl9, hr9⟩ := h44
          rw [h44, h41]
          have H44 := Lib.hid h44
          have H41 := Lib.hid h41
          clear h44 h41
          simp only [List.drop_succ_cons, List.drop_zero, List.setIfInBounds_toArray, List.set_cons_succ, List.set_cons_zero]
          have HV8 := Lib.hid (hbuf8.mono hs7)
          have HR9 := Lib.hid (And.intro hl9 hr9)
          have hb8' := below_drew7 hb8
          have HB8 := Lib.hid (HB7.out.trans (hb8'.mono hs7))
          have hs8 := HB8.out.size
          clear hb8 hb8' hbuf8 hl9 hr9
          go_wp2_with (at_builtin; refine wpList_catB2 slByte rfl rfl _ _ rfl rfl HV8.out HB8.out rfl (k := nameL s) HR9.out.1 HR9.out.2 (fun _ _ => rfl) (by have h1 := HV8.out.len; rw [List.length_append, List.length_append, List.length_singleton] at h1; have h2 := HR9.out.1; rw [nameL_len] at h2; have := HLE.out; have := putB_le (u64N (s.size : Int)) 2; have := HR.out.1; have : s.size ≤ 200 := this; omega) (by unfold maxLen; have h1 := HV8.out.len; rw [List.length_append, List.length_append, List.length_singleton] at h1; have h2 := HR9.out.1; rw [nameL_len] at h2; have := HLE.out; have := putB_le (u64N (s.size : Int)) 2; have := HR.out.1; have : s.size ≤ 200 := this; omega) hs8 ?_; intro p10 d10 w10 hbuf10 hb10 hkeep; have HF11 : Hid (Buf w10 w.heap.size U8 bE p10 (n8 + n9) d10 (accB l (i + 1)) ∧ Below w.heap.size w w10) := Lib.hid ⟨by rw [HS.out (by omega)]; exact (by simpa [entB, kindT, List.append_assoc] using hbuf10), hb10⟩; clear hkeep hbuf10 hb10)
          go_roundw
          case rel => exact ⟨i + 1, p10, n8 + n9, d10, by omega, by go_num, rfl, Lib.hid HF11.out.1, Lib.hid HF11.out.2⟩
          case measure => simp [intOf] <;> omega
        · have htr := kind_range hk (by decide)
          have gtw : IntKind.u8.wrap t = t := wrap_small htr
          have q0 : w5.cell? ⟨wr.heap.size, 0, none⟩ = some (.int .i64 t) := HN5.out.cell rfl
          have HTR := Lib.hid htr
          clear htr
          go_wp2_with (at_builtin; refine wpList_catB2 slByte rfl rfl _ _ rfl rfl (HV5.out.below (below_alloc _ _)) (HB5.out.alloc hs5 _) rfl (k := [UInt8.ofNat t.toNat]) rfl (.inr ⟨_, 0, rfl, byt_rd (Blk.new _ _ _) HTR.out⟩) (fun _ _ => rfl) (by have := HLE.out; have := HV5.out.len; omega) (by unfold maxLen; have := HLE.out; have := HV5.out.len; omega) (by simp; omega) ?_; intro p7 d7 w7 hbuf7 hb7 hkeep; have HN7 : Hid (Blk w7 wr.heap.size RAW #[.int .i64 t, .string s, .int .u64 bn, .int .i64 ra, .int .i64 rb]) := Lib.hid (blk_keep (HN5.out.alloc _) hkeep HNE.out); have HV7 := Lib.hid hbuf7; have HB7 := Lib.hid hb7; have q0 : w7.cell? ⟨wr.heap.size, 0, none⟩ = some (.int .i64 t) := HN7.out.cell rfl; clear hkeep hbuf7 hb7 HV5 HB5 HN5 hs5)
          refine (form_any t _).mono ?_
          rintro e wf ⟨rfl, hwf⟩; have hwf := hwf.symm; subst hwf
          rw [hf]
          have hs7 := HB7.out.size
          have q2 : w7.cell? ⟨wr.heap.size, 2, none⟩ = some (.int .u64 bn) := HN7.out.cell rfl
          go_wp2_with fail
          clear q2
          refine (rBig_any p7 (k + 1) d7 _ bn 4 w7 HV7.out.len (by have h1 := HV7.out.len; rw [List.length_append, List.length_singleton] at h1; have := HLE.out; omega) (by have := HR.out.2; omega) HV7.out.rd).mono ?_
          rintro e w8 ⟨p8, n8, c8, rfl, hown8, hb8⟩
          have HF11 : Hid (Buf w8 w.heap.size U8 bE p8 n8 c8 (accB l (i + 1)) ∧ Below w.heap.size w w8) := Lib.hid ⟨by
            rw [HS.out (by omega)]
            have h0 : Buf w8 w7.heap.size U8 bE p8 n8 c8 _ := .inl hown8
            have := h0.mono hs7
            simpa [entB, hk, hz, List.append_assoc] using this, HB7.out.trans (hb8.mono hs7)⟩
          clear hown8 hb8
          go_wp2_with fail
          go_roundw
          case rel => exact ⟨i + 1, p8, n8, c8, by omega, by go_num, rfl, Lib.hid HF11.out.1, Lib.hid HF11.out.2⟩
          case measure => simp [intOf] <;> omega
        · have htr := kind_range hk (by decide)
          have gtw : IntKind.u8.wrap t = t := wrap_small htr
          have q0 : w5.cell? ⟨wr.heap.size, 0, none⟩ = some (.int .i64 t) := HN5.out.cell rfl
          have HTR := Lib.hid htr
          clear htr
          go_wp2_with (at_builtin; refine wpList_catB2 slByte rfl rfl _ _ rfl rfl (HV5.out.below (below_alloc _ _)) (HB5.out.alloc hs5 _) rfl (k := [UInt8.ofNat t.toNat]) rfl (.inr ⟨_, 0, rfl, byt_rd (Blk.new _ _ _) HTR.out⟩) (fun _ _ => rfl) (by have := HLE.out; have := HV5.out.len; omega) (by unfold maxLen; have := HLE.out; have := HV5.out.len; omega) (by simp; omega) ?_; intro p7 d7 w7 hbuf7 hb7 hkeep; have HN7 : Hid (Blk w7 wr.heap.size RAW #[.int .i64 t, .string s, .int .u64 bn, .int .i64 ra, .int .i64 rb]) := Lib.hid (blk_keep (HN5.out.alloc _) hkeep HNE.out); have HV7 := Lib.hid hbuf7; have HB7 := Lib.hid hb7; have q0 : w7.cell? ⟨wr.heap.size, 0, none⟩ = some (.int .i64 t) := HN7.out.cell rfl; clear hkeep hbuf7 hb7 HV5 HB5 HN5 hs5)
          refine (form_any t _).mono ?_
          rintro e wf ⟨rfl, hwf⟩; have hwf := hwf.symm; subst hwf
          rw [hf]
          have hs7 := HB7.out.size
          have q2 : w7.cell? ⟨wr.heap.size, 2, none⟩ = some (.int .u64 bn) := HN7.out.cell rfl
          go_wp2_with fail
          clear q2
          refine (rBig_any p7 (k + 1) d7 _ bn 8 w7 HV7.out.len (by have h1 := HV7.out.len; rw [List.length_append, List.length_singleton] at h1; have := HLE.out; omega) (by have := HR.out.2; omega) HV7.out.rd).mono ?_
          rintro e w8 ⟨p8, n8, c8, rfl, hown8, hb8⟩
          have HF11 : Hid (Buf w8 w.heap.size U8 bE p8 n8 c8 (accB l (i + 1)) ∧ Below w.heap.size w w8) := Lib.hid ⟨by
            rw [HS.out (by omega)]
            have h0 : Buf w8 w7.heap.size U8 bE p8 n8 c8 _ := .inl hown8
            have := h0.mono hs7
            simpa [entB, hk, hz, List.append_assoc] using this, HB7.out.trans (hb8.mono hs7)⟩
          clear hown8 hb8
          go_wp2_with fail
          go_roundw
          case rel => exact ⟨i + 1, p8, n8, c8, by omega, by go_num, rfl, Lib.hid HF11.out.1, Lib.hid HF11.out.2⟩
          case measure => simp [intOf] <;> omega
        · have htr := kind_range hk (by decide)
          have gtw : IntKind.u8.wrap t = t := wrap_small htr
          have q0 : w5.cell? ⟨wr.heap.size, 0, none⟩ = some (.int .i64 t) := HN5.out.cell rfl
          have HTR := Lib.hid htr
          clear htr
          go_wp2_with (at_builtin; refine wpList_catB2 slByte rfl rfl _ _ rfl rfl (HV5.out.below (below_alloc _ _)) (HB5.out.alloc hs5 _) rfl (k := [UInt8.ofNat t.toNat]) rfl (.inr ⟨_, 0, rfl, byt_rd (Blk.new _ _ _) HTR.out⟩) (fun _ _ => rfl) (by have := HLE.out; have := HV5.out.len; omega) (by unfold maxLen; have := HLE.out; have := HV5.out.len; omega) (by simp; omega) ?_; intro p7 d7 w7 hbuf7 hb7 hkeep; have HN7 : Hid (Blk w7 wr.heap.size RAW #[.int .i64 t, .string s, .int .u64 bn, .int .i64 ra, .int .i64 rb]) := Lib.hid (blk_keep (HN5.out.alloc _) hkeep HNE.out); have HV7 := Lib.hid hbuf7; have HB7 := Lib.hid hb7; have q0 : w7.cell? ⟨wr.heap.size, 0, none⟩ = some (.int .i64 t) := HN7.out.cell rfl; clear hkeep hbuf7 hb7 HV5 HB5 HN5 hs5)
          refine (form_any t _).mono ?_
          rintro e wf ⟨rfl, hwf⟩; have hwf := hwf.symm; subst hwf
          rw [hf]
          have hs7 := HB7.out.size
          have q3 : w7.cell? ⟨wr.heap.size, 3, none⟩ = some (.int .i64 ra) := HN7.out.cell rfl
          have gra : IntKind.u64.wrap ra = ((u64N ra : Nat) : Int) := u64N_cast ra
          go_wp2_with fail
          clear q3
          refine (rBig_any p7 (k + 1) d7 _ (u64N ra) 2 w7 HV7.out.len (by have h1 := HV7.out.len; rw [List.length_append, List.length_singleton] at h1; have := HLE.out; omega) (u64N_lt _) HV7.out.rd).mono ?_
          rintro e w8 ⟨p8, n8, c8, rfl, hown8, hb8⟩
          have HF11 : Hid (Buf w8 w.heap.size U8 bE p8 n8 c8 (accB l (i + 1)) ∧ Below w.heap.size w w8) := Lib.hid ⟨by
            rw [HS.out (by omega)]
            have h0 : Buf w8 w7.heap.size U8 bE p8 n8 c8 _ := .inl hown8
            have := h0.mono hs7
            simpa [entB, hk, List.append_assoc] using this, HB7.out.trans (hb8.mono hs7)⟩
          clear hown8 hb8
          go_wp2_with fail
          go_roundw
          case rel => exact ⟨i + 1, p8, n8, c8, by omega, by go_num, rfl, Lib.hid HF11.out.1, Lib.hid HF11.out.2⟩
          case measure => simp [intOf] <;> omega
        · have htr := kind_range hk (by decide)
          have gtw : IntKind.u8.wrap t = t := wrap_small htr
          have q0 : w5.cell? ⟨wr.heap.size, 0, none⟩ = some (.int .i64 t) := HN5.out.cell rfl
          have HTR := Lib.hid htr
          clear htr
          go_wp2_with (at_builtin; refine wpList_catB2 slByte rfl rfl _ _ rfl rfl (HV5.out.below (below_alloc _ _)) (HB5.out.alloc hs5 _) rfl (k := [UInt8.ofNat t.toNat]) rfl (.inr ⟨_, 0, rfl, byt_rd (Blk.new _ _ _) HTR.out⟩) (fun _ _ => rfl) (by have := HLE.out; have := HV5.out.len; omega) (by unfold maxLen; have := HLE.out; have := HV5.out.len; omega) (by simp; omega) ?_; intro p7 d7 w7 hbuf7 hb7 hkeep; have HN7 : Hid (Blk w7 wr.heap.size RAW #[.int .i64 t, .string s, .int .u64 bn, .int .i64 ra, .int .i64 rb]) := Lib.hid (blk_keep (HN5.out.alloc _) hkeep HNE.out); have HV7 := Lib.hid hbuf7; have HB7 := Lib.hid hb7; have q0 : w7.cell? ⟨wr.heap.size, 0, none⟩ = some (.int .i64 t) := HN7.out.cell rfl; clear hkeep hbuf7 hb7 HV5 HB5 HN5 hs5)
          refine (form_any t _).mono ?_
          rintro e wf ⟨rfl, hwf⟩; have hwf := hwf.symm; subst hwf
          rw [hf]
          have hs7 := HB7.out.size
          have q3 : w7.cell? ⟨wr.heap.size, 3, none⟩ = some (.int .i64 ra) := HN7.out.cell rfl
          have q4 : w7.cell? ⟨wr.heap.size, 4, none⟩ = some (.int .i64 rb) := HN7.out.cell rfl
          have HQ := Lib.hid (And.intro q3 q4)
          have gra : IntKind.u64.wrap ra = ((u64N ra : Nat) : Int) := u64N_cast ra
          have grb : IntKind.u64.wrap rb = ((u64N rb : Nat) : Int) := u64N_cast rb
          clear q3 q4
          go_wp2_with fail
          refine wp_region_growT 8 (by kernel_rfl) (by kernel_rfl) (by rfl) (by kernel_rfl) ?_
          apply gw_val
          · intro a' w' hk
            refine ⟨wanted_none rfl, ?_⟩
            simp [Oper.looksAt, Op.operands, Call.operands, KnownAt, List.lookup, consD] at hk
            simp [execOp, Act.eval, hk, go_sem]
            all_goals rfl
          apply gw_val
          · intro a' w' hk
            refine ⟨wanted_none rfl, ?_⟩
            simp [Oper.looksAt, Op.operands, Call.operands, KnownAt, List.lookup, consD] at hk
            simp [execOp, Act.eval, hk, go_sem]
            all_goals rfl
          refine gw_valB (fun v _ => v = .int .i64 ra) (mono_eq _) ?_ ?_
          · intro a' w' hb' hk
            refine ⟨wanted_none rfl, _, ?_, rfl⟩
            have q0 := cell_later9 HQ.out.1 hb'
            simp [Oper.looksAt, Op.operands, Call.operands, KnownAt, List.lookup, consD] at hk
            simp [execOp, Act.eval, hk, q0, go_sem]
            all_goals rfl
          apply gw_val
          · intro a' w' hk
            refine ⟨wanted_none rfl, ?_⟩
            simp [Oper.looksAt, Op.operands, Call.operands, KnownAt, List.lookup, consD] at hk
            simp [execOp, Act.eval, hk, gra, go_sem]
            all_goals rfl
          refine gw_call 84 #[.slice p7 (k + 1) d7, .int .u64 (u64N ra : Nat), .int .i64 2] (BufG w7.heap.size (accB l i ++ [UInt8.ofNat t.toNat] ++ putB (u64N ra) 2)) (mono_buf _ _) (fun a' w' hk => ?_) (fun w' hb => (rBig_any p7 (k + 1) d7 _ (u64N ra) 2 w' HV7.out.len (by have h1 := HV7.out.len; rw [List.length_append, List.length_singleton] at h1; have := HLE.out; omega) (u64N_lt _) (HV7.out.rd.below (below_drew7 hb))).mono ?_) ?_
          · refine ⟨wanted_none rfl, ?_⟩
            simp [Oper.looksAt, Op.operands, Call.operands, KnownAt, List.lookup, consD] at hk
            simp [execOp, Act.eval, hk, go_sem]
            all_goals rfl
          · rintro e w'' ⟨p8, n8, c8, rfl, hown8, hb8⟩
            refine ⟨_, rfl, ⟨p8, n8, c8, rfl, ?_⟩, hb8⟩
            have h0 : Buf w'' w'.heap.size U8 bE p8 n8 c8 _ := .inl hown8
            exact h0.mono (below_drew7 hb).size
          apply gw_val
          · intro a' w' hk
            refine ⟨wanted_none rfl, ?_⟩
            simp [Oper.looksAt, Op.operands, Call.operands, KnownAt, List.lookup, consD] at hk
            simp [execOp, Act.eval, hk, go_sem]
            all_goals rfl
          refine gw_valB (fun v _ => v = .int .i64 rb) (mono_eq _) ?_ ?_
          · intro a' w' hb' hk
            refine ⟨wanted_none rfl, _, ?_, rfl⟩
            have q0 := cell_later9 HQ.out.2 hb'
            simp [Oper.looksAt, Op.operands, Call.operands, KnownAt, List.lookup, consD] at hk
            simp [execOp, Act.eval, hk, q0, go_sem]
            all_goals rfl
          apply gw_val
          · intro a' w' hk
            refine ⟨wanted_none rfl, ?_⟩
            simp [Oper.looksAt, Op.operands, Call.operands, KnownAt, List.lookup, consD] at hk
            simp [execOp, Act.eval, hk, grb, go_sem]
            all_goals rfl
          intro vs w8 hb8 hall _
          simp only [AllS, consD] at hall
          simp only [consD, putAllS, Act.put]
          obtain ⟨h74, -, -, h71, -⟩ := hall
          obtain ⟨p8, n8, c8, h71, hbuf8⟩ := h71
          rw [h74, h71]
          have H74 := Lib.hid h74
          have H71 := Lib.hid h71
          clear h74 h71
          simp only [List.drop_succ_cons, List.drop_zero, List.setIfInBounds_toArray, List.set_cons_succ, List.set_cons_zero]
          have HV8 := Lib.hid hbuf8
          have hb8' := below_drew7 hb8
          have HB8 := Lib.hid (HB7.out.trans (hb8'.mono hs7))
          have hs8 := hb8'.size
          clear hb8 hb8' hbuf8
          go_wp2_with fail
          try rw [H74.out]
          try rw [H71.out]
          refine (rBig_any p8 n8 c8 _ (u64N rb) 2 w8 HV8.out.len (by have h1 := HV8.out.len; rw [List.length_append, List.length_append, List.length_singleton] at h1; have := HLE.out; have := putB_le (u64N ra) 2; omega) (u64N_lt _) HV8.out.rd).mono ?_
          rintro e w9 ⟨p9, n9, c9, rfl, hown9, hb9⟩
          have HF11 : Hid (Buf w9 w.heap.size U8 bE p9 n9 c9 (accB l (i + 1)) ∧ Below w.heap.size w w9) := Lib.hid ⟨by
            rw [HS.out (by omega)]
            have h0 : Buf w9 w8.heap.size U8 bE p9 n9 c9 _ := .inl hown9
            have := h0.mono (Nat.le_trans hs7 hs8)
            simpa [entB, hk, List.append_assoc] using this, HB8.out.trans (hb9.mono (Nat.le_trans hs7 hs8))⟩
          clear hown9 hb9 H74 H71
          go_wp2_with fail
          go_roundw
          case rel => exact ⟨i + 1, p9, n9, c9, by omega, by go_num, rfl, Lib.hid HF11.out.1, Lib.hid HF11.out.2⟩
          case measure => simp [intOf] <;> omega
    · have hni : i = n := by omega
      subst hni
      have HF : Hid (Buf wr w.heap.size U8 bE p k d (poolB l)) := Lib.hid (by unfold poolB; rw [HH.out.1]; exact hV.out)
      go_wp2_with fail
      go_ret
      exact ⟨_, _, _, rfl, HF.out, hB.out⟩
end Go.Proofs.Ytbknkahakmfhkaa
