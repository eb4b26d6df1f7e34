/- Writing instructions: keys of switches. -/
import Derived.Test.YtgcdeadfkljeaaaOpsK
namespace Go.Proofs.Ytgcdeadfkljeaaa
open Go.RowKit
set_option linter.unusedVariables false
set_option linter.unusedSimpArgs false

def p4 (v : Int) : List UInt8 := putB (u64N v) 4
theorem p4_len (v : Int) : (p4 v).length = 4 := by unfold p4 putB; rw [if_pos (by decide)]; simp [littleL_length]
/-- The rows behind a switch's head. -/
def rowsL (f : Nat) (at' : Int) (ks ts : List Int) : List UInt8 := (List.zip ks ts).flatMap fun x => (if f = 108 then p4 x.1 else []) ++ p4 (x.2 - at')
theorem rowsL_snoc {f : Nat} {at' : Int} {ks ts : List Int} {i : Nat} {x y : Int} (hx : ks[i]? = some x) (hy : ts[i]? = some y) : rowsL f at' (ks.take (i + 1)) (ts.take (i + 1)) = rowsL f at' (ks.take i) (ts.take i) ++ ((if f = 108 then p4 x else []) ++ p4 (y - at')) := by
  have h1 := List.getElem?_eq_some_iff.1 hx
  have h2 := List.getElem?_eq_some_iff.1 hy
  have e1 : ks.take (i + 1) = ks.take i ++ [x] := by rw [List.take_succ_eq_append_getElem h1.1, h1.2]
  have e2 : ts.take (i + 1) = ts.take i ++ [y] := by rw [List.take_succ_eq_append_getElem h2.1, h2.2]
  unfold rowsL
  rw [e1, e2, List.zip_append (by have := h1.1; have := h2.1; rw [List.length_take, List.length_take]; omega), List.flatMap_append]
  simp
theorem rowsL_len (f : Nat) (at' : Int) : ∀ (ks ts : List Int), (rowsL f at' ks ts).length ≤ 8 * ks.length
  | [], ts => by simp [rowsL]
  | k :: ks, [] => by simp [rowsL]
  | k :: ks, t :: ts => by
    have h := rowsL_len f at' ks ts
    have e : rowsL f at' (k :: ks) (t :: ts) = ((if f = 108 then p4 k else []) ++ p4 (t - at')) ++ rowsL f at' ks ts := by simp [rowsL]
    rw [e, List.length_append, List.length_append, p4_len]
    split <;> simp only [List.length_cons, p4_len, List.length_nil] <;> omega
def headSw (f : Nat) (ks : List Int) : List UInt8 := if f = 116 then p4 (ks.headD 0) ++ p4 (ks.getLastD 0) else p4 (ks.length : Int)
def keysL (f : Nat) (at' : Int) (ks ts : List Int) : List UInt8 := headSw f ks ++ rowsL f at' ks ts
theorem headSw_len (f : Nat) (ks : List Int) : 4 ≤ (headSw f ks).length ∧ (headSw f ks).length ≤ 8 := by
  unfold headSw; split <;> simp [p4_len]
/-- What holds in the walk: the box at g holds L, the step lies at o. -/
def KS (w0 w : World) (B g o : Nat) (L : List UInt8) (cs : Array Value) : Prop := BV w B g L ∧ Blk w o STO cs ∧ Below w0.heap.size w0 w ∧ w0.heap.size ≤ g ∧ B ≤ w.heap.size ∧ o ≠ g
theorem KS.step {w0 w w' : World} {B g o : Nat} {L L' : List UInt8} {cs : Array Value} (h : KS w0 w B g o L cs) (hv : BV w' B g L') (hg : w.grownBy w' (some g)) : KS w0 w' B g o L' cs := by
  obtain ⟨h1, h2, h3, h4, h5, h6⟩ := h
  exact ⟨hv, h2.grown hg (by simpa using h6), h3.grown hg h3.size (fun k hk => by simp only [Option.some.injEq] at hk; omega), h4, Nat.le_trans h5 hg.size, h6⟩
theorem cell_belowK {w w' : World} {b k : Nat} {v : Value} (h : w.cell? ⟨b, k, none⟩ = some v) (hb : b < w.heap.size) (hB : Below w.heap.size w w') : w'.cell? ⟨b, k, none⟩ = some v := by
  rw [hB.cell hb]; exact h
section
variable {st : StepK} {ka : Option Addr} {kn kc : Nat} {ta : Option Addr} {tn tc : Nat}
set_option maxRecDepth 100000 in
set_option maxHeartbeats 8000000 in
theorem keys_108 (B : Nat) (p : Option Addr) (n c : Nat) (l : List UInt8) (at' : Int) (w : World) (h : StvOk w st ka kn kc ta tn tc) (hkt : kn = tn) (hB : B ≤ w.heap.size) (hbuf : Buf w B U8 bE p n c l) (hl : 0 < l.length ∧ l.length ≤ 10000000) (ha : 0 ≤ at' ∧ at' ≤ 1099511627776) : Calls Try.prog 54 #[.slice p n c, stV st ka kn kc ta tn tc, .int .u8 108, .int .i64 at'] w fun e w' => ∃ p' n' c', e = .returned (.slice p' n' c') ∧ Buf w' B U8 bE p' n' c' (l ++ keysL 108 at' st.keys st.tgts) ∧ Below w.heap.size w w' := by
  have HE : Hid (headSw 108 st.keys = p4 (kn : Int)) := Lib.hid (by unfold headSw; rw [if_neg (by decide), h.kl])
  have hkb := h.kb
  have HK := Lib.hid h
  have HKT := Lib.hid hkt
  have HL := Lib.hid hl
  have HA := Lib.hid ha
  obtain ⟨g, hg⟩ : ∃ g, g = w.heap.size := ⟨_, rfl⟩
  obtain ⟨o, ho⟩ : ∃ o, o = w.heap.size + 1 := ⟨_, rfl⟩
  obtain ⟨w2, hw2⟩ : ∃ w2, w2 = (w.alloc (.cells #[.slice p n c] BSL)).alloc (.cells (stC st (.slice ka kn kc) (.slice ta tn tc)) STO) := ⟨_, rfl⟩
  have HS0 : Hid (KS w w2 B g o l (stC st (.slice ka kn kc) (.slice ta tn tc))) := Lib.hid (by
    rw [hg, ho, hw2]
    have h1 := hbuf.below (below_alloc w (.cells #[.slice p n c] BSL))
    have h2 : BV (w.alloc (.cells #[.slice p n c] BSL)) B w.heap.size l := ⟨hB, p, n, c, Blk.new _ _ _, h1, fun q hq => Nat.ne_of_lt (Rd.ne_new hbuf.rd hl.1 q hq)⟩
    refine ⟨h2.below (below_alloc _ _), ?_, (below_alloc _ _).trans ((below_alloc _ _).mono (by simp)), Nat.le_refl _, by simp; omega, by omega⟩
    have h3 := Blk.new (w.alloc (.cells #[.slice p n c] BSL)) STO (stC st (.slice ka kn kc) (.slice ta tn tc))
    rw [show (w.alloc (.cells #[.slice p n c] BSL)).heap.size = w.heap.size + 1 from by simp] at h3
    exact h3)
  have q6 : ((w.alloc (.cells #[.slice p n c] BSL)).alloc (.cells (stC st (.slice ka kn kc) (.slice ta tn tc)) STO)).cell? ⟨w.heap.size + 1, 6, none⟩ = some (.slice ka kn kc) := by rw [← hw2, ← ho]; exact HS0.out.2.1.cell (i := 6) rfl
  clear h hkt hl ha hbuf hB
  go_enter Try.func54, Try.ntmps54
  go_wp2_with fail
  rw [← hw2, ← ho, ← hg]
  clear q6 hw2 ho hg
  refine (keys1_any g B l (kn : Int) w2 HS0.out.1 (by have := HL.out; omega) HS0.out.2.2.2.2.1).mono ?_
  rintro e w4 ⟨rfl, hv, hg3⟩
  have HS2 : Hid (KS w w4 B g o (l ++ headSw 108 st.keys) (stC st (.slice ka kn kc) (.slice ta tn tc))) := Lib.hid (by rw [HE.out]; exact HS0.out.step hv hg3)
  have q6 : w4.cell? ⟨o, 6, none⟩ = some (.slice ka kn kc) := HS2.out.2.1.cell (i := 6) rfl
  clear hv hg3 HS0
  go_wp2_with fail
  go_loopw [39] (fun x39 wr => ∃ i : Nat, i ≤ kn ∧ x39 = .int .i64 (i : Int) ∧ Hid (KS w wr B g o (l ++ headSw 108 st.keys ++ rowsL 108 at' (st.keys.take i) (st.tgts.take i)) (stC st (.slice ka kn kc) (.slice ta tn tc)))) (fun x39 _ => kn - (intOf x39).toNat)
  case atStart => exact ⟨0, Nat.zero_le _, rfl, by simpa [rowsL] using HS2⟩
  case round =>
    clear HS2 q6
    obtain ⟨i, hi, rfl, hW⟩ := hrel
    by_cases hin : i < kn
    · have hl1 := HK.out.kl
      have hl2 := HK.out.tl
      have hkt := HKT.out
      obtain ⟨b1, o1, rfl, hb1, hc1⟩ := HK.out.rk.at (k := i) (by omega)
      obtain ⟨b2, o2, rfl, hb2, hc2⟩ := HK.out.rt.at (k := i) (by omega)
      have hx : st.keys[i]? = some (st.keys[i]'(by omega)) := List.getElem?_eq_getElem _
      have hy : st.tgts[i]? = some (st.tgts[i]'(by omega)) := List.getElem?_eq_getElem _
      have hyr := HK.out.tr _ (List.getElem_mem (show i < st.tgts.length by omega))
      generalize st.keys[i]'(by omega) = x at *
      generalize st.tgts[i]'(by omega) = y at *
      have HS : Hid (rowsL 108 at' (st.keys.take (i + 1)) (st.tgts.take (i + 1)) = rowsL 108 at' (st.keys.take i) (st.tgts.take i) ++ (p4 x ++ p4 (y - at'))) := Lib.hid (by have h := rowsL_snoc (f := 108) (at' := at') hx hy; rw [if_pos rfl] at h; exact h)
      have HC2 : Hid (w.cell? ⟨b2, o2 + i, none⟩ = some (.int .i64 y) ∧ b2 < w.heap.size) := Lib.hid ⟨hc2, hb2⟩
      replace hc1 : wr.cell? ⟨b1, o1 + i, none⟩ = some (.int .i64 x) := cell_belowK hc1 hb1 hW.out.2.2.1
      replace hc2 : wr.cell? ⟨b2, o2 + i, none⟩ = some (.int .i64 y) := cell_belowK hc2 hb2 hW.out.2.2.1
      clear hb1 hb2
      have q6 : wr.cell? ⟨o, 6, none⟩ = some (.slice (some ⟨b1, o1, none⟩) kn kc) := hW.out.2.1.cell (i := 6) rfl
      have q7 : wr.cell? ⟨o, 7, none⟩ = some (.slice (some ⟨b2, o2, none⟩) tn tc) := hW.out.2.1.cell (i := 7) rfl
      have gi : ((i : Int) < ((kn : Nat) : Int)) = True := by simp; omega
      have it : (i : Int) < (tn : Int) := by omega
      have hw1 : IntKind.i64.wrap (y - at') = y - at' := IntWalk.i64_in _ (by have := HA.out; omega)
      have HLN : Hid ((l ++ headSw 108 st.keys ++ rowsL 108 at' (st.keys.take i) (st.tgts.take i)).length ≤ 20000000) := Lib.hid (by
        have h1 := HL.out
        have h2 := headSw_len 108 st.keys
        have h3 := rowsL_len 108 at' (st.keys.take i) (st.tgts.take i)
        rw [List.length_take] at h3
        rw [List.length_append, List.length_append]
        omega)
      clear hx hy hl1 hl2 hkt hyr
      go_wp2_with fail
      refine (keys1_any g B _ x wr hW.out.1 (by have := HLN.out; omega) hW.out.2.2.2.2.1).mono ?_
      rintro e w5 ⟨rfl, hv, hg3⟩
      have HS5 := Lib.hid (hW.out.step hv hg3)
      have q7b : w5.cell? ⟨o, 7, none⟩ = some (.slice (some ⟨b2, o2, none⟩) tn tc) := HS5.out.2.1.cell (i := 7) rfl
      have hc3 : w5.cell? ⟨b2, o2 + i, none⟩ = some (.int .i64 y) := cell_belowK HC2.out.1 HC2.out.2 HS5.out.2.2.1
      clear hv hg3 q6 q7 hc1 hc2
      go_wp2_with fail
      refine (keys1_any g B _ (y - at') w5 HS5.out.1 (by have := HLN.out; have h := p4_len x; unfold p4 at h; rw [List.length_append]; omega) HS5.out.2.2.2.2.1).mono ?_
      rintro e w6 ⟨rfl, hv, hg3⟩
      have HS6 : Hid (KS w w6 B g o (l ++ headSw 108 st.keys ++ rowsL 108 at' (st.keys.take (i + 1)) (st.tgts.take (i + 1))) (stC st (.slice (some ⟨b1, o1, none⟩) kn kc) (.slice (some ⟨b2, o2, none⟩) tn tc))) := Lib.hid (by
        rw [HS.out, ← List.append_assoc, ← List.append_assoc]; exact HS5.out.step hv hg3)
      clear hv hg3
      go_wp2_with fail
      go_roundw
      case rel => exact ⟨i + 1, by omega, by go_num, HS6⟩
      case measure => simp [intOf] <;> omega
    · have HF : Hid (KS w wr B g o (l ++ keysL 108 at' st.keys st.tgts) (stC st (.slice ka kn kc) (.slice ta tn tc))) := Lib.hid (by
        have h1 := hW.out
        rw [List.take_of_length_le (by rw [HK.out.kl]; omega), List.take_of_length_le (by rw [HK.out.tl]; have := HKT.out; omega), List.append_assoc] at h1
        exact h1)
      have gi : ((i : Int) < ((kn : Nat) : Int)) = False := by simp; omega
      obtain ⟨-, p', n', c', hb, hbf, -⟩ := HF.out.1
      have HBF := Lib.hid hbf
      have q0 : wr.cell? ⟨g, 0, none⟩ = some (.slice p' n' c') := hb.cell rfl
      clear hb hbf hW
      go_wp2
      go_ret
      exact ⟨_, _, _, rfl, HBF.out, HF.out.2.2.1⟩
set_option maxRecDepth 100000 in
set_option maxHeartbeats 8000000 in
theorem keys_116 (B : Nat) (p : Option Addr) (n c : Nat) (l : List UInt8) (at' : Int) (w : World) (h : StvOk w st ka kn kc ta tn tc) (hkt : kn = tn) (hB : B ≤ w.heap.size) (hbuf : Buf w B U8 bE p n c l) (hl : 0 < l.length ∧ l.length ≤ 10000000) (ha : 0 ≤ at' ∧ at' ≤ 1099511627776) (h0 : st.keys ≠ []) : Calls Try.prog 54 #[.slice p n c, stV st ka kn kc ta tn tc, .int .u8 116, .int .i64 at'] w fun e w' => ∃ p' n' c', e = .returned (.slice p' n' c') ∧ Buf w' B U8 bE p' n' c' (l ++ keysL 116 at' st.keys st.tgts) ∧ Below w.heap.size w w' := by
  have hlk : 0 < st.keys.length := by cases hk : st.keys with | nil => exact absurd hk h0 | cons a b => simp
  obtain ⟨m, hm⟩ : ∃ m, kn = m + 1 := ⟨kn - 1, by have := h.kl; omega⟩
  subst hm
  obtain ⟨kb, ko, hka, -, q0⟩ := h.rk.at (k := 0) hlk
  subst hka
  obtain ⟨kb', ko', hka, -, q1⟩ := h.rk.at (k := m) (by have := h.kl; omega)
  simp only [Option.some.injEq, Addr.mk.injEq, and_true] at hka
  obtain ⟨rfl, rfl⟩ := hka
  have hx0 : st.keys[0]? = some st.keys[0] := List.getElem?_eq_getElem _
  have hx1 : st.keys[m]? = some (st.keys[m]'(by have := h.kl; omega)) := List.getElem?_eq_getElem _
  obtain ⟨x0, hy0⟩ : ∃ x, x = st.keys[0] := ⟨_, rfl⟩
  obtain ⟨x1, hy1⟩ : ∃ x, x = st.keys[m]'(by have := h.kl; omega) := ⟨_, rfl⟩
  rw [← hy0] at q0 hx0
  rw [← hy1] at q1 hx1
  have HE : Hid (headSw 116 st.keys = p4 x0 ++ p4 x1) := Lib.hid (by
    unfold headSw
    rw [if_pos rfl, List.headD_eq_head?_getD, List.head?_eq_getElem?, hx0, List.getLastD_eq_getLast?, List.getLast?_eq_getElem?, h.kl, show m + 1 - 1 = m from rfl, hx1]
    rfl)
  have HQ : Hid (w.cell? ⟨kb, ko, none⟩ = some (.int .i64 x0) ∧ w.cell? ⟨kb, ko + m, none⟩ = some (.int .i64 x1) ∧ kb < w.heap.size) := Lib.hid ⟨q0, q1, Rd.ne_new h.rk hlk _ rfl⟩
  have hw0 : IntKind.i64.wrap (((m : Int) + 1) - 1) = (m : Int) := by rw [show ((m : Int) + 1) - 1 = (m : Int) by omega]; exact IntWalk.i64_in _ (by have := h.kb; omega)
  have gm : (m : Int) < (m : Int) + 1 := by omega
  have gm0 : (0 : Int) < (m : Int) + 1 := by omega
  clear q0 q1 hx0 hx1 hy0 hy1 h0 hlk
  have hkb := h.kb
  have HK := Lib.hid h
  have HKT := Lib.hid hkt
  have HL := Lib.hid hl
  have HA := Lib.hid ha
  obtain ⟨g, hg⟩ : ∃ g, g = w.heap.size := ⟨_, rfl⟩
  obtain ⟨o, ho⟩ : ∃ o, o = w.heap.size + 1 := ⟨_, rfl⟩
  obtain ⟨w2, hw2⟩ : ∃ w2, w2 = (w.alloc (.cells #[.slice p n c] BSL)).alloc (.cells (stC st (.slice (some ⟨kb, ko, none⟩) (m + 1) kc) (.slice ta tn tc)) STO) := ⟨_, rfl⟩
  have HS0 : Hid (KS w w2 B g o l (stC st (.slice (some ⟨kb, ko, none⟩) (m + 1) kc) (.slice ta tn tc))) := Lib.hid (by
    rw [hg, ho, hw2]
    have h1 := hbuf.below (below_alloc w (.cells #[.slice p n c] BSL))
    have h2 : BV (w.alloc (.cells #[.slice p n c] BSL)) B w.heap.size l := ⟨hB, p, n, c, Blk.new _ _ _, h1, fun q hq => Nat.ne_of_lt (Rd.ne_new hbuf.rd hl.1 q hq)⟩
    refine ⟨h2.below (below_alloc _ _), ?_, (below_alloc _ _).trans ((below_alloc _ _).mono (by simp)), Nat.le_refl _, by simp; omega, by omega⟩
    have h3 := Blk.new (w.alloc (.cells #[.slice p n c] BSL)) STO (stC st (.slice (some ⟨kb, ko, none⟩) (m + 1) kc) (.slice ta tn tc))
    rw [show (w.alloc (.cells #[.slice p n c] BSL)).heap.size = w.heap.size + 1 from by simp] at h3
    exact h3)
  have q6 : ((w.alloc (.cells #[.slice p n c] BSL)).alloc (.cells (stC st (.slice (some ⟨kb, ko, none⟩) (m + 1) kc) (.slice ta tn tc)) STO)).cell? ⟨w.heap.size + 1, 6, none⟩ = some (.slice (some ⟨kb, ko, none⟩) (m + 1) kc) := by rw [← hw2, ← ho]; exact HS0.out.2.1.cell (i := 6) rfl
  have qk : ((w.alloc (.cells #[.slice p n c] BSL)).alloc (.cells (stC st (.slice (some ⟨kb, ko, none⟩) (m + 1) kc) (.slice ta tn tc)) STO)).cell? ⟨kb, ko, none⟩ = some (.int .i64 x0) := by rw [← hw2]; exact cell_belowK HQ.out.1 HQ.out.2.2 HS0.out.2.2.1
  clear h hkt hl ha hbuf hB
  go_enter Try.func54, Try.ntmps54
  go_wp2_with fail
  rw [← hw2, ← ho, ← hg]
  clear q6 qk hw2 ho hg
  refine (keys1_any g B l x0 w2 HS0.out.1 (by have := HL.out; omega) HS0.out.2.2.2.2.1).mono ?_
  rintro e w3 ⟨rfl, hv, hg3⟩
  have HS1 := Lib.hid (HS0.out.step hv hg3)
  have q6 : w3.cell? ⟨o, 6, none⟩ = some (.slice (some ⟨kb, ko, none⟩) (m + 1) kc) := HS1.out.2.1.cell (i := 6) rfl
  have qk : w3.cell? ⟨kb, ko + m, none⟩ = some (.int .i64 x1) := cell_belowK HQ.out.2.1 HQ.out.2.2 HS1.out.2.2.1
  clear hv hg3 HS0
  go_wp2_with fail
  clear q6 qk
  refine (keys1_any g B _ x1 w3 HS1.out.1 (by have := HL.out; have h := p4_len x0; unfold p4 at h; rw [List.length_append]; omega) HS1.out.2.2.2.2.1).mono ?_
  rintro e w4 ⟨rfl, hv, hg3⟩
  have HS2 : Hid (KS w w4 B g o (l ++ headSw 116 st.keys) (stC st (.slice (some ⟨kb, ko, none⟩) (m + 1) kc) (.slice ta tn tc))) := Lib.hid (by rw [HE.out, ← List.append_assoc]; exact HS1.out.step hv hg3)
  have q6 : w4.cell? ⟨o, 6, none⟩ = some (.slice (some ⟨kb, ko, none⟩) (m + 1) kc) := HS2.out.2.1.cell (i := 6) rfl
  clear hv hg3 HS1
  go_wp2_with fail
  go_loopw [39] (fun x39 wr => ∃ i : Nat, i ≤ (m + 1) ∧ x39 = .int .i64 (i : Int) ∧ Hid (KS w wr B g o (l ++ headSw 116 st.keys ++ rowsL 116 at' (st.keys.take i) (st.tgts.take i)) (stC st (.slice (some ⟨kb, ko, none⟩) (m + 1) kc) (.slice ta tn tc)))) (fun x39 _ => (m + 1) - (intOf x39).toNat)
  case atStart => exact ⟨0, Nat.zero_le _, rfl, by simpa [rowsL] using HS2⟩
  case round =>
    clear HS2 q6
    obtain ⟨i, hi, rfl, hW⟩ := hrel
    by_cases hin : i < (m + 1)
    · have hl1 := HK.out.kl
      have hl2 := HK.out.tl
      have hkt := HKT.out
      obtain ⟨b1, o1, e1, hb1, hc1⟩ := HK.out.rk.at (k := i) (by omega)
      obtain ⟨b2, o2, rfl, hb2, hc2⟩ := HK.out.rt.at (k := i) (by omega)
      simp only [Option.some.injEq, Addr.mk.injEq, and_true] at e1
      obtain ⟨rfl, rfl⟩ := e1
      have hx : st.keys[i]? = some (st.keys[i]'(by omega)) := List.getElem?_eq_getElem _
      have hy : st.tgts[i]? = some (st.tgts[i]'(by omega)) := List.getElem?_eq_getElem _
      have hyr := HK.out.tr _ (List.getElem_mem (show i < st.tgts.length by omega))
      generalize st.keys[i]'(by omega) = x at *
      generalize st.tgts[i]'(by omega) = y at *
      have HS : Hid (rowsL 116 at' (st.keys.take (i + 1)) (st.tgts.take (i + 1)) = rowsL 116 at' (st.keys.take i) (st.tgts.take i) ++ p4 (y - at')) := Lib.hid (by have h := rowsL_snoc (f := 116) (at' := at') hx hy; rw [if_neg (by decide), List.nil_append] at h; exact h)
      have HC2 : Hid (w.cell? ⟨b2, o2 + i, none⟩ = some (.int .i64 y) ∧ b2 < w.heap.size) := Lib.hid ⟨hc2, hb2⟩
      replace hc1 : wr.cell? ⟨kb, ko + i, none⟩ = some (.int .i64 x) := cell_belowK hc1 hb1 hW.out.2.2.1
      replace hc2 : wr.cell? ⟨b2, o2 + i, none⟩ = some (.int .i64 y) := cell_belowK hc2 hb2 hW.out.2.2.1
      clear hb1 hb2
      have q6 : wr.cell? ⟨o, 6, none⟩ = some (.slice (some ⟨kb, ko, none⟩) (m + 1) kc) := hW.out.2.1.cell (i := 6) rfl
      have q7 : wr.cell? ⟨o, 7, none⟩ = some (.slice (some ⟨b2, o2, none⟩) tn tc) := hW.out.2.1.cell (i := 7) rfl
      have gi : ((i : Int) < (((m + 1) : Nat) : Int)) = True := by simp; omega
      have it : (i : Int) < (tn : Int) := by omega
      have hw1 : IntKind.i64.wrap (y - at') = y - at' := IntWalk.i64_in _ (by have := HA.out; omega)
      have HLN : Hid ((l ++ headSw 116 st.keys ++ rowsL 116 at' (st.keys.take i) (st.tgts.take i)).length ≤ 20000000) := Lib.hid (by
        have h1 := HL.out
        have h2 := headSw_len 116 st.keys
        have h3 := rowsL_len 116 at' (st.keys.take i) (st.tgts.take i)
        rw [List.length_take] at h3
        rw [List.length_append, List.length_append]
        omega)
      clear hx hy hl1 hl2 hkt hyr
      go_wp2_with fail
      refine (keys1_any g B _ (y - at') wr hW.out.1 (by have := HLN.out; omega) hW.out.2.2.2.2.1).mono ?_
      rintro e w6 ⟨rfl, hv, hg3⟩
      have HS6 : Hid (KS w w6 B g o (l ++ headSw 116 st.keys ++ rowsL 116 at' (st.keys.take (i + 1)) (st.tgts.take (i + 1))) (stC st (.slice (some ⟨kb, ko, none⟩) (m + 1) kc) (.slice (some ⟨b2, o2, none⟩) tn tc))) := Lib.hid (by
        rw [HS.out, ← List.append_assoc]; exact hW.out.step hv hg3)
      clear hv hg3
      go_wp2_with fail
      go_roundw
      case rel => exact ⟨i + 1, by omega, by go_num, HS6⟩
      case measure => simp [intOf] <;> omega
    · have HF : Hid (KS w wr B g o (l ++ keysL 116 at' st.keys st.tgts) (stC st (.slice (some ⟨kb, ko, none⟩) (m + 1) kc) (.slice ta tn tc))) := Lib.hid (by
        have h1 := hW.out
        rw [List.take_of_length_le (by rw [HK.out.kl]; omega), List.take_of_length_le (by rw [HK.out.tl]; have := HKT.out; omega), List.append_assoc] at h1
        exact h1)
      have gi : ((i : Int) < (((m + 1) : Nat) : Int)) = False := by simp; omega
      obtain ⟨-, p', n', c', hb, hbf, -⟩ := HF.out.1
      have HBF := Lib.hid hbf
      have q0 : wr.cell? ⟨g, 0, none⟩ = some (.slice p' n' c') := hb.cell rfl
      clear hb hbf hW
      go_wp2
      go_ret
      exact ⟨_, _, _, rfl, HBF.out, HF.out.2.2.1⟩
end
end Go.Proofs.Ytgcdeadfkljeaaa
