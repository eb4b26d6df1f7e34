/- record.reader: data, shared, named. -/
import Derived.Test.YtbknkahakmfhkaaRecH
import Derived.Test.YtbknkahakmfhkaaStr
import Derived.Laws.ResultCell
namespace Go.Proofs.Ytbknkahakmfhkaa
open Go.RowKit
set_option linter.unusedVariables false
set_option linter.unusedSimpArgs false

theorem results_cell_row2 {P : Program} {fn : Func} {p u : Tmp} {ty : TypeId} (h : fn.results = #[.cell p ty, .tmp u]) (tmps : Array Value) (w : World) (g : Nat) (t : TypeId) (cs : Array Value) (fr : Nat × Nat) (d : TypeDesc)
    (hp : tmps.getD p undef = .pointer (some ⟨g, 0, none⟩)) (hg : w.heap[g]? = some (.cells cs t fr))
    (hu : P.underlying ty = some d) (hd : (match d with | .struct _ | .array _ _ => true | _ => false) = true) (hi : (P.info? ty).map (·.size) = some cs.size) :
    (results fn tmps).run P w = .ok (.tuple #[.agg cs, tmps.getD u undef]) w := by
  have hp' : tmps[p]?.getD undef = .pointer (some ⟨g, 0, none⟩) := by simpa using hp
  simp [results, h, hp', asAddr, run_loadVar_row w g t ty cs fr d hg hu hd hi]
theorem size_rec : (Try.prog.info? TR).map (·.size) = some 8 := by kernel_rfl
def zeroR : Rec := ⟨0, 0, 0, 0, 0, 0, ⟨#[]⟩, 0⟩
theorem Rec.one (r : Rec) : ∀ u ∈ r.arr.toList, u.oneCell' = true := by
  intro u hu; simp [Rec.arr] at hu; rcases hu with rfl | rfl | rfl | rfl | rfl | rfl | rfl | rfl <;> rfl
/-- What is read of data. -/
def rdDataR (l : List UInt8) (s : Nat × Int) (r : Rec) : Rec := { r with su := rdN l 4 s, pa := rdN l 4 (rdS l 4 s), si := rdN l 4 (rdS l 4 (rdS l 4 s)) }
def rdDataS (l : List UInt8) (s : Nat × Int) : Nat × Int := rdS l 4 (rdS l 4 (rdS l 4 s))
theorem wrapu32 (x : Int) (h1 : 0 ≤ x) (h2 : x < 4294967296) : IntKind.u32.wrap x = x := by
  simp [IntKind.wrap, IntKind.signed, IntKind.bits]; omega
theorem wrapu16 (x : Int) (h1 : 0 ≤ x) (h2 : x < 65536) : IntKind.u16.wrap x = x := by
  simp [IntKind.wrap, IntKind.signed, IntKind.bits]; omega
set_option maxRecDepth 100000 in
set_option maxHeartbeats 8000000 in
theorem rdata_any (gr g o : Nat) (l : List UInt8) (s : Nat × Int) (odd : Bool) (r : Rec) (w : World) (h : RdOk w gr g l s odd) (ho : Blk w o TR r.arr) (hgo : g < o) (hro : gr ≠ o) :
  Calls Try.prog 65 #[.pointer (some ⟨gr, 0, none⟩), .pointer (some ⟨o, 0, none⟩)] w fun e w' => e = .returned (.tuple #[]) ∧ RdOk w' gr g l (rdDataS l s) odd ∧ Blk w' o TR (rdDataR l s r).arr ∧ Gs w w' [g, o] := by
  have H := Lib.hid (And.intro h (And.intro ho (And.intro hgo hro)))
  have hu := rd4_lt l s
  have WU := Lib.hid (wrapu32 (rdN l 4 s) hu.1 hu.2)
  clear h ho hgo hro hu
  go_enter Try.func65, Try.ntmps65
  go_wp2_with fail
  refine (four_any gr g l s odd w H.out.1).mono ?_
  rintro e w1 ⟨rfl, h1, hg1⟩
  have hb1 := H.out.2.1.gs hg1 (by have := H.out.2.2.1; simp; omega)
  obtain ⟨me, da, cl, su, pa, si, na, of⟩ := r
  simp only [Rec.arr] at hb1
  have q3 := hb1.cell (i := 3) rfl
  have f3 := hb1.frozen 3
  have hb2 := hb1.setCell 3 (.int .u32 (rdN l 4 s))
  have hgs := Gs.of_grown (grownBy_setCell w1 ⟨o, 3, none⟩ (.int .u32 (rdN l 4 s)))
  have h2 := h1.gs hgs (by have := H.out.2.2.2; simpa using this) (by intro k hk; simp only [List.mem_singleton] at hk; have := H.out.2.2.1; omega)
  have HW := Lib.hid (And.intro h2 (And.intro hb2 ((hg1.mono (S' := [g, o]) (by simp)).trans (hgs.mono (by simp)))))
  have hw := WU.out
  clear h1 hg1 hb1 hb2 hgs h2
  generalize hn0 : rdN l 4 s = n0 at HW hw ⊢
  have HN0 := Lib.hid hn0
  clear hn0 WU
  go_wp2_with fail
  generalize w1.setCell ⟨o, 3, none⟩ (.int .u32 n0) = w2 at HW ⊢
  clear q3 f3 hw
  refine (four_any gr g l _ odd w2 HW.out.1).mono ?_
  rintro e w3 ⟨rfl, h3, hg3⟩
  have hb3 := HW.out.2.1.gs hg3 (by have := H.out.2.2.1; simp; omega)
  have HW3 := Lib.hid (And.intro h3 (And.intro hb3 (HW.out.2.2.trans (hg3.mono (S' := [g, o]) (by simp)))))
  generalize hn1 : rdN l 4 (rdS l 4 s) = n1
  have HN1 := Lib.hid hn1
  clear h3 hg3 hb3 HW hn1
  go_wp2_with fail
  refine (four_any gr g l _ odd w3 HW3.out.1).mono ?_
  rintro e w4 ⟨rfl, h4, hg4⟩
  have hb4 := HW3.out.2.1.gs hg4 (by have := H.out.2.2.1; simp; omega)
  generalize hn2 : rdN l 4 (rdS l 4 (rdS l 4 s)) = n2
  have q3 := hb4.cell (i := 4) rfl
  have f3 := hb4.frozen 4
  have hb5 := hb4.setCell 4 (.int .i64 n1)
  have q4 := hb5.cell (i := 5) rfl
  have f4 := hb5.frozen 5
  have hb6 := hb5.setCell 5 (.int .i64 n2)
  have hgs := (Gs.of_grown (grownBy_setCell w4 ⟨o, 4, none⟩ (.int .i64 n1))).trans (Gs.of_grown (grownBy_setCell (w4.setCell ⟨o, 4, none⟩ (.int .i64 n1)) ⟨o, 5, none⟩ (.int .i64 n2)))
  have h5 := h4.gs hgs (by have := H.out.2.2.2; simpa using this) (by intro k hk; simp only [List.mem_singleton] at hk; have := H.out.2.2.1; omega)
  have HF := Lib.hid (And.intro h5 (And.intro hb6 ((HW3.out.2.2.trans (hg4.mono (S' := [g, o]) (by simp))).trans (hgs.mono (by simp)))))
  have HN2 := Lib.hid hn2
  clear h4 hg4 hb4 hb5 hb6 hgs h5 HW3 hn2
  go_wp2
  go_end0
  refine ⟨rfl, HF.out.1, ?_, HF.out.2.2⟩
  have : (rdDataR l s ⟨me, da, cl, su, pa, si, na, of⟩).arr = #[.int .i64 me, .int .u16 da, .int .u16 cl, .int .u32 n0, .int .i64 n1, .int .i64 n2, .string na, .int .i64 of] := by simp only [rdDataR, Rec.arr, HN0.out, HN1.out, HN2.out]
  rw [this]
  exact HF.out.2.1
theorem Gs.drop {w w' : World} {S S' : List Nat} (h : Gs w w' S) (hs : ∀ k ∈ S, k ∈ S' ∨ w.heap.size ≤ k) : Gs w w' S' := ⟨h.os, h.tape, h.output, h.size, fun k hk hn => h.block k hk (fun hm => by
  rcases hs k hm with h1 | h2
  · exact hn h1
  · omega)⟩
def rdT (l : List UInt8) (s : Nat × Int) : Nat → Nat × Int
  | 0 => s
  | n+1 => rdS l 2 (rdT l s n)
def sharedO (l : List UInt8) (s : Nat × Int) (odd : Bool) : Bool := ((odd || !(rdN l 2 (rdT l s 0) == 20)) || !meth (rdN l 2 (rdT l s 1))) || !meth (rdN l 2 (rdT l s 2))
def sharedR (l : List UInt8) (s : Nat × Int) : Rec := rdDataR l (rdT l s 5) ⟨rdN l 2 (rdT l s 2), rdN l 2 (rdT l s 4), rdN l 2 (rdT l s 3), 0, 0, 0, ⟨#[]⟩, 0⟩
def sharedB (l : List UInt8) (s : Nat × Int) : Bool := rdN l 2 (rdT l s 1) == 8
/-- A reader, and a row of a record that the call made. -/
def HWt (w w1 : World) (gr g : Nat) (l : List UInt8) (s : Nat × Int) (odd : Bool) (o : Nat) (cs : Array Value) : Prop := RdOk w1 gr g l s odd ∧ Blk w1 o TR cs ∧ Gs w w1 [g, gr, o] ∧ g < o ∧ gr < o ∧ w.heap.size ≤ o
section
variable {w w1 w2 : World} {gr g o : Nat} {l : List UInt8} {s s' : Nat × Int} {odd odd' : Bool} {cs : Array Value} {S : List Nat}
theorem HWt.step (h : HWt w w1 gr g l s odd o cs) (h2 : RdOk w2 gr g l s' odd') (hg : Gs w1 w2 S) (hS : ∀ k ∈ S, k = g ∨ k = gr) : HWt w w2 gr g l s' odd' o cs := by
  obtain ⟨h1, h3, h4, h5, h6, h7⟩ := h
  refine ⟨h2, h3.gs hg (fun hm => ?_), h4.trans (hg.mono (fun k hk => ?_)), h5, h6, h7⟩
  · rcases hS o hm with rfl | rfl <;> omega
  · rcases hS k hk with rfl | rfl <;> simp
theorem HWt.set (h : HWt w w1 gr g l s odd o cs) (i : Nat) (v : Value) : HWt w (w1.setCell ⟨o, i, none⟩ v) gr g l s odd o (cs.setIfInBounds i v) := by
  obtain ⟨h1, h3, h4, h5, h6, h7⟩ := h
  have hg := Gs.of_grown (grownBy_setCell w1 ⟨o, i, none⟩ v)
  exact ⟨h1.gs hg (by simp; omega) (by intro k hk; simp only [List.mem_singleton] at hk; omega), h3.setCell i v, h4.trans (hg.mono (by simp)), h5, h6, h7⟩
theorem HWt.fin (h : HWt w w1 gr g l s odd o cs) : Gs w w1 [g, gr] := h.2.2.1.drop (fun k hk => by
  simp only [List.mem_cons, List.not_mem_nil, or_false] at hk
  rcases hk with rfl | rfl | rfl
  · exact .inl (by simp)
  · exact .inl (by simp)
  · exact .inr h.2.2.2.2.2)
theorem HWt.row (h : HWt w w1 gr g l s odd o cs) {cs' : Array Value} (hb : Blk w2 o TR cs') (hg : w1.grownBy w2 (some o)) : HWt w w2 gr g l s odd o cs' := by
  obtain ⟨h1, h3, h4, h5, h6, h7⟩ := h
  have hg := Gs.of_grown hg
  exact ⟨h1.gs hg (by simp; omega) (by intro k hk; simp only [List.mem_singleton] at hk; omega), hb, h4.trans (hg.mono (by simp)), h5, h6, h7⟩
end
set_option maxRecDepth 100000 in
set_option maxHeartbeats 16000000 in
theorem rshared_any (gr g : Nat) (l : List UInt8) (s : Nat × Int) (odd : Bool) (w : World) (h : RdOk w gr g l s odd) :
  Calls Try.prog 61 #[.pointer (some ⟨gr, 0, none⟩)] w fun e w' => e = .returned (.tuple #[.agg (sharedR l s).arr, .bool (sharedB l s)]) ∧ RdOk w' gr g l (rdDataS l (rdT l s 5)) (sharedO l s odd) ∧ Gs w w' [g, gr] := by
  have hgl := h.lt
  have hrl := h.blk.lt
  have hb0 := below_alloc w (.cells zeroR.arr TR)
  have hk0 := Blk.new w TR zeroR.arr
  have HW0 : Hid (HWt w (w.alloc (.cells zeroR.arr TR)) gr g l (rdT l s 0) odd w.heap.size zeroR.arr) := Lib.hid ⟨h.below hb0, hk0, Gs.of_below hb0, by omega, by omega, Nat.le_refl _⟩
  clear hb0 hk0 h hgl hrl
  have u1 := rd2_lt l (rdT l s 3)
  have u2 := rd2_lt l (rdT l s 4)
  have W1 := Lib.hid (wrapu16 _ u1.1 u1.2)
  have W2 := Lib.hid (wrapu16 _ u2.1 u2.2)
  clear u1 u2
  go_enter Try.func61, Try.ntmps61
  go_wp2_with fail
  obtain ⟨o, ho⟩ : ∃ o, o = w.heap.size := ⟨_, rfl⟩
  rw [← ho] at HW0 ⊢
  clear ho
  generalize hw1 : w.alloc (.cells #[.int .i64 0, .int .u16 0, .int .u16 0, .int .u32 0, .int .i64 0, .int .i64 0, .string ⟨#[]⟩, .int .i64 0] TR) = w1
  have HW1 : Hid (HWt w w1 gr g l (rdT l s 0) odd o zeroR.arr) := Lib.hid (hw1 ▸ HW0.out)
  clear hw1 HW0
  refine (two_any gr g l (rdT l s 0) odd w1 HW1.out.1).mono ?_
  rintro e w2 ⟨rfl, h2, hg2⟩
  have HW2 : Hid (HWt w w2 gr g l (rdT l s 1) odd o zeroR.arr) := Lib.hid (HW1.out.step h2 hg2 (by simp))
  clear h2 hg2 HW1
  generalize hv : rdN l 2 (rdT l s 0) = v
  have HV := Lib.hid hv
  clear hv
  go_wp2_with fail
  refine (is_any gr g l (rdT l s 1) odd (v == 20) w2 HW2.out.1).mono ?_
  rintro e w3 ⟨rfl, h3, hg3⟩
  have HW3 := Lib.hid (HW2.out.step h3 hg3 (by simp))
  clear h3 hg3 HW2
  go_wp2_with fail
  refine (method_any gr g l (rdT l s 1) _ w3 HW3.out.1).mono ?_
  rintro e w4 ⟨rfl, h4, hg4⟩
  have HW4 : Hid (HWt w w4 gr g l (rdT l s 2) _ o zeroR.arr) := Lib.hid (HW3.out.step h4 hg4 (by simp))
  clear h4 hg4 HW3
  generalize hf : rdN l 2 (rdT l s 1) = f at HW4 ⊢
  have HF := Lib.hid hf
  clear hf
  go_wp2_with fail
  refine (method_any gr g l (rdT l s 2) _ w4 HW4.out.1).mono ?_
  rintro e w5 ⟨rfl, h5, hg5⟩
  have HW5 : Hid (HWt w w5 gr g l (rdT l s 3) _ o zeroR.arr) := Lib.hid (HW4.out.step h5 hg5 (by simp))
  clear h5 hg5 HW4
  generalize hm : rdN l 2 (rdT l s 2) = m at HW5 ⊢
  have HM := Lib.hid hm
  clear hm
  have q0 := HW5.out.2.1.cell (i := 0) rfl
  have f0 := HW5.out.2.1.frozen 0
  have HW6 := Lib.hid (HW5.out.set 0 (.int .i64 m))
  clear HW5
  go_wp2_with fail
  generalize w5.setCell ⟨o, 0, none⟩ (.int .i64 m) = w6 at HW6 ⊢
  clear q0 f0
  refine (two_any gr g l (rdT l s 3) _ w6 HW6.out.1).mono ?_
  rintro e w7 ⟨rfl, h7, hg7⟩
  have HW7 : Hid (HWt w w7 gr g l (rdT l s 4) _ o _) := Lib.hid (HW6.out.step h7 hg7 (by simp))
  clear h7 hg7 HW6
  have x1 := W1.out
  clear W1
  generalize hc : rdN l 2 (rdT l s 3) = c at x1 ⊢
  have HC := Lib.hid hc
  clear hc
  go_wp2_with fail
  refine (two_any gr g l (rdT l s 4) _ w7 HW7.out.1).mono ?_
  rintro e w8 ⟨rfl, h8, hg8⟩
  have HW8 : Hid (HWt w w8 gr g l (rdT l s 5) _ o _) := Lib.hid (HW7.out.step h8 hg8 (by simp))
  clear h8 hg8 HW7
  have x2 := W2.out
  clear W2
  generalize hd : rdN l 2 (rdT l s 4) = d at x2 ⊢
  have HD := Lib.hid hd
  clear hd
  have q2 := HW8.out.2.1.cell (i := 2) rfl
  have f2 := HW8.out.2.1.frozen 2
  have HW9 := Lib.hid (HW8.out.set 2 (.int .u16 c))
  have q1 := HW9.out.2.1.cell (i := 1) rfl
  have f1 := HW9.out.2.1.frozen 1
  have HW10 := Lib.hid (HW9.out.set 1 (.int .u16 d))
  clear HW8 HW9
  go_wp2_with fail
  generalize (w8.setCell ⟨o, 2, none⟩ (.int .u16 c)).setCell ⟨o, 1, none⟩ (.int .u16 d) = w10 at HW10 ⊢
  clear q1 f1 q2 f2 x1 x2
  refine (rdata_any gr g o l (rdT l s 5) _ ⟨m, d, c, 0, 0, 0, ⟨#[]⟩, 0⟩ w10 HW10.out.1 HW10.out.2.1 HW10.out.2.2.2.1 (Nat.ne_of_lt HW10.out.2.2.2.2.1)).mono ?_
  rintro e w11 ⟨rfl, h11, hb11, hg11⟩
  have HW11 : Hid (HWt w w11 gr g l (rdDataS l (rdT l s 5)) _ o _) := Lib.hid ⟨h11, hb11, HW10.out.2.2.1.trans (hg11.mono (by simp)), HW10.out.2.2.2⟩
  have HRES : Hid (rdDataR l (rdT l s 5) ⟨m, d, c, 0, 0, 0, ⟨#[]⟩, 0⟩ = sharedR l s) := Lib.hid (by unfold sharedR; rw [HM.out, HC.out, HD.out])
  have HODD := Lib.hid (show (((odd || !(v == 20)) || !meth f) || !meth m) = sharedO l s odd by unfold sharedO; rw [HV.out, HF.out, HM.out])
  rw [HRES.out, HODD.out] at HW11
  have HBB : Hid ((f == 8) = sharedB l s) := Lib.hid (by unfold sharedB; rw [HF.out])
  clear h11 hb11 hg11 HW10 HRES HODD HV HF HM HC HD
  generalize hrr : sharedR l s = r at HW11
  have HRR := Lib.hid hrr
  clear hrr
  go_wp2_with (first | (refine wpList_load_row rfl _ _ rfl _ rfl _ _ _ _ HW11.out.2.1 Try.underlying27 rfl size_rec ?_) | (refine wpList_storeBlk rfl _ _ rfl rfl rfl HW11.out.2.1 rfl size_rec (Rec.one _) ?_; intro d0 dg))
  have HZ := HW11.out.row d0 dg
  refine bodyPost_ret (results_cell_row2 (p := 2) (u := 3) rfl _ _ o _ _ _ _ rfl d0 Try.underlying27 rfl size_rec) rfl ⟨?_, HZ.1, HZ.fin⟩
  rw [HRR.out, ← HBB.out]
  rfl
end Go.Proofs.Ytbknkahakmfhkaa
