/- Writing instructions: Put. -/
import Derived.Test.YtgcdeadfkljeaaaOpsL
import Derived.Test.YtgcdeadfkljeaaaGrowI
import Derived.Test.YtgcdeadfkljeaaaGrowT
import Derived.Test.YtgcdeadfkljeaaaOwn2
import Derived.BigQuiet
import Derived.Deep.RegionHeld3
import Derived.Deep.DeepCutAuto
namespace Go.Proofs.Ytgcdeadfkljeaaa
open Go.RowKit
set_option linter.unusedVariables false
set_option linter.unusedSimpArgs false

def opcK (st : StepK) (f : Nat) : Int := if f = 99 then (if 255 < st.pool then 19 else 18) else st.op
def widK (st : StepK) (f : Nat) : Nat := if wideK st f then 2 else if f = 99 ∧ 255 < st.pool then 2 else 1
def bodyK (st : StepK) (f at' : Nat) : List UInt8 :=
  if f = 98 then putB (u64N st.num) 1
  else if f = 115 then putB (u64N st.num) 2
  else if f = 99 then putB (u64N st.pool) (widK st f)
  else if f = 100 ∨ f = 112 then putB (u64N st.pool) 2
  else if f = 118 then putB (u64N st.var) (widK st f)
  else if f = 105 then putB (u64N st.var) (widK st f) ++ putB (u64N st.num) (widK st f)
  else if f = 106 then putB (u64N (st.goal - at')) 2
  else if f = 119 then putB (u64N (st.goal - at')) 4
  else if f = 102 then putB (u64N st.pool) 2 ++ putB (u64N (st.var * 256)) 2
  else if f = 109 then putB (u64N st.pool) 2 ++ putB (u64N st.var) 1
  else if f = 97 then putB (u64N st.var) 1
  else if f = 116 ∨ f = 108 then List.replicate (nghK at') 0 ++ (p4 (st.goal - at') ++ keysL f at' st.keys st.tgts)
  else []
def headK (st : StepK) (f : Nat) : List UInt8 := (if wideK st f then [196] else []) ++ [UInt8.ofNat (opcK st f).toNat]
/-- What Put answers: the bytes and the error. -/
def putK (L : List UInt8) (st : StepK) : List UInt8 × Int :=
  if formI st.op = 0 then ([], 9)
  else if rightK st (formI st.op) = false then ([], 2)
  else if fitsK st (formI st.op) (L.length : Int) = false then ([], 5)
  else (L ++ (headK st (formI st.op) ++ bodyK st (formI st.op) L.length), 0)
def PutPost (w : World) (L : List UInt8) (st : StepK) (e : Ending) (w' : World) : Prop :=
  ∃ p n c, e = .returned (.tuple #[.slice p n c, .int .i64 (putK L st).2]) ∧ (putK L st).1.length = n ∧ Rd w' bE p (putK L st).1 ∧ Below w.heap.size w w'
theorem rd_ne_sto {w : World} {p : Option Addr} {l : List UInt8} {o : Nat} {st : StepK} {ka : Option Addr} {kn kc : Nat} {ta : Option Addr} {tn tc : Nat} (h : Rd w bE p l) (hn : 0 < l.length) (hb : Blk w o STO (stC st (.slice ka kn kc) (.slice ta tn tc))) : ∀ q : Addr, p = some q → q.block ≠ o := by
  intro q hp he
  subst he
  obtain ⟨b', o', h1, _, h3⟩ := h.at hn
  rw [h1] at hp
  simp only [Option.some.injEq] at hp
  subst hp
  rw [Nat.add_zero, cell_of_row w b' o' _ _ _ hb] at h3
  rcases o' with _ | _ | _ | _ | _ | _ | _ | _ | o' <;> simp at h3
/-- A row of bytes that lies in no box. -/
def NoBox (w : World) (p : Option Addr) : Prop := ∀ q : Addr, p = some q → q.block < w.heap.size ∧ (∀ a n c, ¬ Blk w q.block BSL #[.slice a n c]) ∧ ∀ (st : StepK) (ka : Option Addr) (kn kc : Nat) (ta : Option Addr) (tn tc : Nat), ¬ Blk w q.block STO (stC st (.slice ka kn kc) (.slice ta tn tc))
theorem heap_a0 (w : World) (o1 : Obj) : (w.alloc o1).drew.heap[w.heap.size]? = some o1 := heap_alloc_new w o1
theorem heap_a1 (w : World) (o1 o2 : Obj) : ((w.alloc o1).alloc o2).drew.heap[w.heap.size]? = some o1 := by
  have h := (below_alloc (w.alloc o1) o2).block w.heap.size (by simp)
  exact h.trans (heap_alloc_new w o1)
theorem heap_a2 (w : World) (o1 o2 : Obj) : ((w.alloc o1).alloc o2).drew.heap[w.heap.size + 1]? = some o2 := by
  have h := heap_alloc_new (w.alloc o1) o2
  rw [show (w.alloc o1).heap.size = w.heap.size + 1 by simp] at h
  exact h
/-- append([]byte{}, b...), at a step of a region that draws its order. -/
theorem step_out {ops : Array Oper} {o : Oper} {a : Act} {w : World} {K : Act → World → Prop} {Q : Exit → Act → World → Prop} {E' : Prop} (B : Nat)
    (hgd : o.guard = none) (s x : Operand) (ho : o.op = .call { callee := .builtin .append, args := #[s, x], argTypes := #[BSL, BSL] })
    {b : Nat} (hs : a.eval s = .slice (some ⟨b, 0, none⟩) 0 0) (h5 : w.heap[b]? = some (.cells #[] U8 (0, 0))) {q : Option Addr} {m d : Nat} {L : List UInt8} (hx : a.eval x = .slice q m d) (hm : L.length = m) (hr : Rd w bE q L) (hL : m ≤ 100000000) (hB : B ≤ w.heap.size)
    (h : ∀ p' c' w', Buf w' B U8 bE p' m c' L → Below w.heap.size w w' → NoBox w' p' → K (a.put o.dst (.slice p' m c')) w') :
    if Region.wanted o (yielded ops a.tmps) = true then Oper.wp Try.prog o a w K Q else E' := by
  rw [if_pos (by simp [Region.wanted, hgd])]
  subst hm
  by_cases hm0 : L.length = 0
  · have hL0 : L = [] := List.eq_nil_of_length_eq_zero hm0
    subst hL0
    obtain ⟨ti, hti, hz0, hz2, hz3⟩ := info_parts slByte.info
    have hf := run_firstCells_some (P := Try.prog) w ti.size 0 ⟨b, 0, none⟩ 0 0 [] (by simp) (by simp)
    have hf2 : (Builtin.firstCells ti.size 0 (.slice q 0 d)).run Try.prog w = .ok #[] w := by
      cases q with
      | none => exact run_firstCells_none w ti.size 0 0 d
      | some q => exact run_firstCells_some w ti.size 0 q 0 d [] (by simp) (by simp)
    have hrun : (Builtin.append_ #[BSL, BSL] o.type #[.slice (some ⟨b, 0, none⟩) 0 0, .slice q 0 d]).run Try.prog w = .ok (.slice (some ⟨b, 0, none⟩) 0 0) w := by
      simp [Builtin.append_, run_underlying slByte.under, sizeOf, typeInfo, hti, Builtin.lenOf, hf, hf2, storeCells]
    unfold Oper.wp
    simp only [List.length_nil] at hx
    simp [execOp, ho, resolve, invoke, builtin, hs, hx, hrun, Result.andThen, Oper.upon]
    refine h _ _ _ (.inr ⟨rfl, by unfold maxLen; simp, rfl, Rd.nil⟩) (Below.refl _ _) (fun p hp => ?_)
    simp only [Option.some.injEq] at hp
    subst hp
    refine ⟨(Array.getElem?_eq_some_iff.1 h5).1, fun x n c hk => ?_, fun st ka kn kc ta tn tc hk => ?_⟩
    · have hk2 : w.heap[b]? = some (.cells #[.slice x n c] BSL (0, 0)) := hk
      rw [h5] at hk2
      simp at hk2
    · have hk2 : w.heap[b]? = some (.cells (stC st (.slice ka kn kc) (.slice ta tn tc)) STO (0, 0)) := hk
      rw [h5] at hk2
      simp at hk2
  · refine wp_of_false (wp_of_list (ops := ops) hgd (wpList_catB2 (base := w.heap.size) (wz := w) slByte rfl hgd s x ho hs (l := []) (.inr ⟨rfl, by unfold maxLen; omega, rfl, Rd.nil⟩) (Below.refl _ _) hx (k := L) rfl hr (fun _ _ => rfl) (by omega) (by unfold maxLen; omega) (Nat.le_refl _) (fun p' c' w' hbuf hB2 _ => ⟨rfl, ?_⟩))) (fun _ _ h => h)
    rw [List.nil_append] at hbuf
    rw [Nat.zero_add] at hbuf ⊢
    exact h p' c' w' (hbuf.mono hB) hB2 (fun q hq => ⟨Rd.ne_new hbuf.rd (by omega) q hq, fun x n c hk => rd_ne_box hbuf.rd (by omega) hk q hq rfl, fun st ka kn kc ta tn tc hk => rd_ne_sto hbuf.rd (by omega) hk q hq rfl⟩)
theorem NoBox.below {w w' : World} {p : Option Addr} (h : NoBox w p) (hb : Below w.heap.size w w') : NoBox w' p :=
  fun q hq => ⟨Nat.lt_of_lt_of_le (h q hq).1 hb.size, fun a n c hk => (h q hq).2.1 a n c ((hb.block q.block (h q hq).1).symm.trans hk), fun st ka kn kc ta tn tc hk => (h q hq).2.2 st ka kn kc ta tn tc ((hb.block q.block (h q hq).1).symm.trans hk)⟩
/-- The row goes into a box. -/
theorem BV.of {w : World} {B g : Nat} {p : Option Addr} {n c : Nat} {L : List UInt8} (hg : B ≤ g) (hb : Blk w g BSL #[.slice none 0 0]) (hbuf : Buf w B U8 bE p n c L) (hn : NoBox w p) : BV (w.setCell ⟨g, 0, none⟩ (.slice p n c)) B g L := by
  have hne : ∀ q : Addr, p = some q → q.block ≠ g := fun q hq he => (hn q hq).2.1 none 0 0 (by rw [he]; exact hb)
  exact ⟨hg, p, n, c, hb.setCell 0 _, hbuf.kept hne (grownBy_setCell w _ _), hne⟩
def NeO (w : World) (g o : Nat) : Prop := ∀ p n c, Blk w g BSL #[.slice p n c] → ∀ q : Addr, p = some q → q.block ≠ o
theorem neo_of {w : World} {g o : Nat} {p : Option Addr} {n c : Nat} {st : StepK} {ka : Option Addr} {kn kc : Nat} {ta : Option Addr} {tn tc : Nat} (hb : Blk w g BSL #[.slice p n c]) (h : ∀ q : Addr, p = some q → q.block ≠ o) : NeO w g o := by
  intro p2 n2 c2 hp q hq
  have e : some (Obj.cells #[Value.slice p n c] BSL (0, 0)) = some (Obj.cells #[Value.slice p2 n2 c2] BSL (0, 0)) := hb.symm.trans hp
  simp only [Option.some.injEq, Obj.cells.injEq, and_true] at e
  have e2 : p = p2 := by simpa using congrArg (fun a => a[0]?) e |> fun h => by simp at h; exact h.1
  subst e2
  exact h q hq
theorem KS.ofBox {w0 w4 wO : World} {o g n c : Nat} {p : Option Addr} {L : List UInt8} {st : StepK} {ka : Option Addr} {kn kc : Nat} {ta : Option Addr} {tn tc : Nat} (h4 : Blk w4 o STO (stC st (.slice ka kn kc) (.slice ta tn tc)) ∧ Below w0.heap.size w0 w4) (hbz : Below w4.heap.size w4 wO) (hg : w4.heap.size ≤ g) (hbx : Blk wO g BSL #[.slice none 0 0]) (hbuf : Buf wO w0.heap.size U8 bE p n c L) (hn : NoBox wO p) : KS w0 (wO.setCell ⟨g, 0, none⟩ (.slice p n c)) w0.heap.size g o L (stC st (.slice ka kn kc) (.slice ta tn tc)) ∧ NeO (wO.setCell ⟨g, 0, none⟩ (.slice p n c)) g o := by
  have h1 := h4.2.size
  have h2 := h4.1.lt
  have h3 := hbz.size
  have hno : ∀ q : Addr, p = some q → q.block ≠ o := fun q hq he => (hn q hq).2.2 st ka kn kc ta tn tc (by rw [he]; exact h4.1.below hbz)
  refine ⟨?_, neo_of (hbx.setCell 0 _) (st := st) (ka := ka) (kn := kn) (kc := kc) (ta := ta) (tn := tn) (tc := tc) hno⟩
  refine ⟨BV.of (by omega) hbx hbuf hn, (h4.1.below hbz).setCell_ne (by simp only; omega) _, ((h4.2.trans (hbz.mono h1)).setCell (by simp only; omega) _), by omega, by simp; omega, by omega⟩
theorem KS.ofNew {w0 w4 wO : World} {o n c : Nat} {p : Option Addr} {L : List UInt8} {st : StepK} {ka : Option Addr} {kn kc : Nat} {ta : Option Addr} {tn tc : Nat} (h4 : Blk w4 o STO (stC st (.slice ka kn kc) (.slice ta tn tc)) ∧ Below w0.heap.size w0 w4) (hbz : Below w4.heap.size w4 wO) (hbuf : Buf wO w0.heap.size U8 bE p n c L) (hn : NoBox wO p) : KS w0 (wO.alloc (.cells #[.slice p n c] BSL)) w0.heap.size wO.heap.size o L (stC st (.slice ka kn kc) (.slice ta tn tc)) ∧ NeO (wO.alloc (.cells #[.slice p n c] BSL)) wO.heap.size o := by
  have h1 := h4.2.size
  have h2 := h4.1.lt
  have h3 := hbz.size
  have hno : ∀ q : Addr, p = some q → q.block ≠ o := fun q hq he => (hn q hq).2.2 st ka kn kc ta tn tc (by rw [he]; exact h4.1.below hbz)
  refine ⟨?_, neo_of (Blk.new _ _ _) (st := st) (ka := ka) (kn := kn) (kc := kc) (ta := ta) (tn := tn) (tc := tc) hno⟩
  refine ⟨⟨by omega, p, n, c, Blk.new _ _ _, hbuf.below (below_alloc _ _), fun q hq => Nat.ne_of_lt (hn q hq).1⟩, (h4.1.below hbz).alloc _, ((h4.2.trans (hbz.mono h1)).alloc (by omega) _), by omega, by simp; omega, by omega⟩
theorem KS.below {w0 w w' : World} {B g o : Nat} {L : List UInt8} {cs : Array Value} (h : KS w0 w B g o L cs) (hb : Below w.heap.size w w') : KS w0 w' B g o L cs := by
  obtain ⟨h1, h2, h3, h4, h5, h6⟩ := h
  exact ⟨h1.below hb, h2.below hb, h3.trans (hb.mono h3.size), h4, Nat.le_trans h5 hb.size, h6⟩
theorem KS.push {w0 w w' : World} {g o : Nat} {L k : List UInt8} {cs : Array Value} (h : KS w0 w w0.heap.size g o L cs) (hne : NeO w g o) {p : Option Addr} {n c : Nat} (hp : Blk w g BSL #[.slice p n c]) {p' : Option Addr} {n' c' : Nat} (hbuf : Buf w' w0.heap.size U8 bE p' n' c' (L ++ k)) (hk : 0 < k.length) (hB : Below w0.heap.size w w')
    (keep : ∀ x, (∀ q : Addr, p = some q → q.block ≠ x) → x < w.heap.size → w'.heap[x]? = w.heap[x]?) :
    KS w0 (w'.setCell ⟨g, 0, none⟩ (.slice p' n' c')) w0.heap.size g o (L ++ k) cs ∧ w'.cell? ⟨g, 0, none⟩ = some (.slice p n c) ∧ w'.frozen? ⟨g, 0, none⟩ = false := by
  obtain ⟨⟨hBg, p0, n0, c0, hb0, hbuf0, hne0⟩, h2, h3, h4, h5, h6⟩ := h
  have e : some (Obj.cells #[Value.slice p0 n0 c0] BSL (0, 0)) = some (Obj.cells #[Value.slice p n c] BSL (0, 0)) := hb0.symm.trans hp
  simp only [Option.some.injEq, Obj.cells.injEq, and_true] at e
  have e2 : p0 = p := by simpa using congrArg (fun a => a[0]?) e |> fun h => by simp at h; exact h.1
  subst e2
  have hg' : Blk w' g BSL #[.slice p0 n c] := blk_keep hp keep hne0
  have ho' : Blk w' o STO cs := blk_keep h2 keep (hne _ _ _ hp)
  have hs := hB.size
  refine ⟨⟨BV.store hBg hg' hbuf (by rw [List.length_append]; omega), ho'.setCell_ne (by simpa using h6) _, (h3.trans hB).setCell (by simp only; omega) _, h4, ?_, h6⟩, hg'.cell rfl, hg'.frozen 0⟩
  have hlt := hg'.lt
  simp
  omega
theorem KS.neo {w0 w : World} {B g o : Nat} {L : List UInt8} {st : StepK} {ka : Option Addr} {kn kc : Nat} {ta : Option Addr} {tn tc : Nat} (h : KS w0 w B g o L (stC st (.slice ka kn kc) (.slice ta tn tc))) (hL : 0 < L.length) : NeO w g o := by
  intro p n c hp q hq
  obtain ⟨⟨hBg, p0, n0, c0, hb0, hbuf0, hne0⟩, h2, h3, h4, h5, h6⟩ := h
  have e : some (Obj.cells #[Value.slice p0 n0 c0] BSL (0, 0)) = some (Obj.cells #[Value.slice p n c] BSL (0, 0)) := hb0.symm.trans hp
  simp only [Option.some.injEq, Obj.cells.injEq, and_true] at e
  have e2 : p0 = p := by simpa using congrArg (fun a => a[0]?) e |> fun h => by simp at h; exact h.1
  subst e2
  exact rd_ne_sto hbuf0.rd hL h2 q hq
theorem one_row {x : Int} (h : 0 ≤ x ∧ x < 256) : (#[Value.int .u8 x] : Array Value).toList = ([UInt8.ofNat x.toNat] : List UInt8).map bE := by
  have e : ((UInt8.ofNat x.toNat).toNat : Int) = x := by
    rw [UInt8.toNat_ofNat', Nat.mod_eq_of_lt (by omega)]
    omega
  simp only [bE, List.map_cons, List.map_nil, e]
theorem StvOk.later {w w' : World} {st : StepK} {ka : Option Addr} {kn kc : Nat} {ta : Option Addr} {tn tc : Nat} (h : StvOk w st ka kn kc ta tn tc) (hb : Below w.heap.size w w') : StvOk w' st ka kn kc ta tn tc :=
  ⟨h.kl, h.tl, h.kb, h.rk.below hb, h.rt.below hb, h.vr, h.nr, h.pr, h.gr, h.op, h.kr, h.tr⟩
theorem NeO.below {w w' : World} {g o : Nat} (h : NeO w g o) (hb : Below w.heap.size w w') (hg : g < w.heap.size) : NeO w' g o := fun p n c hp => h p n c ((hb.block g hg).symm.trans hp)
/-- What holds where the box's row is known. -/
def K4 (w0 w : World) (g o : Nat) (L : List UInt8) (cs : Array Value) (p : Option Addr) (n c : Nat) : Prop := KS w0 w w0.heap.size g o L cs ∧ NeO w g o ∧ Blk w g BSL #[.slice p n c] ∧ Buf w w0.heap.size U8 bE p n c L
theorem K4.ex {w0 w : World} {g o : Nat} {L : List UInt8} {cs : Array Value} (h : KS w0 w w0.heap.size g o L cs) (hn : NeO w g o) : ∃ p n c, K4 w0 w g o L cs p n c := by
  obtain ⟨-, p, n, c, hb, hf, -⟩ := id h.1
  exact ⟨p, n, c, h, hn, hb, hf⟩
theorem K4.alloc {w0 w : World} {g o : Nat} {L : List UInt8} {cs : Array Value} {p : Option Addr} {n c : Nat} (h : K4 w0 w g o L cs p n c) (ob : Obj) : K4 w0 (w.alloc ob) g o L cs p n c :=
  ⟨h.1.below (below_alloc _ _), NeO.below h.2.1 (below_alloc _ _) h.2.2.1.lt, h.2.2.1.alloc _, h.2.2.2.below (below_alloc _ _)⟩
theorem K4.push {w0 w w' : World} {g o : Nat} {L k : List UInt8} {st : StepK} {ka : Option Addr} {kn kc : Nat} {ta : Option Addr} {tn tc : Nat} {p : Option Addr} {n c : Nat} (h : K4 w0 w g o L (stC st (.slice ka kn kc) (.slice ta tn tc)) p n c) {p' : Option Addr} {n' c' : Nat} (hbuf : Buf w' w0.heap.size U8 bE p' n' c' (L ++ k)) (hk : 0 < k.length) (hB : Below w0.heap.size w w')
    (keep : ∀ x, (∀ q : Addr, p = some q → q.block ≠ x) → x < w.heap.size → w'.heap[x]? = w.heap[x]?) :
    K4 w0 (w'.setCell ⟨g, 0, none⟩ (.slice p' n' c')) g o (L ++ k) (stC st (.slice ka kn kc) (.slice ta tn tc)) p' n' c' ∧ w'.cell? ⟨g, 0, none⟩ = some (.slice p n c) ∧ w'.frozen? ⟨g, 0, none⟩ = false := by
  have h0 : 0 < (L ++ k).length := by rw [List.length_append]; omega
  have hp := KS.push h.1 h.2.1 h.2.2.1 hbuf hk hB keep
  have hne := h.1.1
  obtain ⟨-, p0, n0, c0, hb0, -, hne0⟩ := hne
  have e : some (Obj.cells #[Value.slice p0 n0 c0] BSL (0, 0)) = some (Obj.cells #[Value.slice p n c] BSL (0, 0)) := hb0.symm.trans h.2.2.1
  simp only [Option.some.injEq, Obj.cells.injEq, and_true] at e
  have e2 : p0 = p := by simpa using congrArg (fun a => a[0]?) e |> fun h => by simp at h; exact h.1
  subst e2
  have hg' : Blk w' g BSL #[.slice p0 n c] := blk_keep h.2.2.1 keep hne0
  exact ⟨⟨hp.1, hp.1.neo h0, hg'.setCell 0 _, hbuf.kept (rd_ne_box hbuf.rd h0 hg') (grownBy_setCell w' _ _)⟩, hp.2⟩
theorem putB_len1 (v : Nat) : (putB v (1 : Nat)).length = 1 := by unfold putB; rw [if_pos (by decide)]; simp [littleL_length]
theorem putB_len2 (v : Nat) : (putB v (2 : Nat)).length = 2 := by unfold putB; rw [if_pos (by decide)]; simp [littleL_length]
theorem op_rng {x : Int} (h : formI x ≠ 0) : 0 ≤ x ∧ x < 256 := by
  unfold formI at h
  split at h
  · exact absurd rfl h
  · omega
end Go.Proofs.Ytgcdeadfkljeaaa
