/- diff: entries; index. -/
import Derived.Test.YtnfdbljeinlblaaDifA
import Derived.Test.YtnfdbljeinlblaaOpenS
import Derived.StillTailTactics
namespace Go.Proofs.Ytnfdbljeinlblaa
open Go.RowKit
set_option linter.unusedVariables false
set_option linter.unusedSimpArgs false

structure Ent where
  na : ByteArray
  da : Int
  cl : Int
  dt : List UInt8
/-- n entries at a. -/
def RdE (w : World) (a : Option Addr) (n : Nat) (es : List Ent) : Prop :=
  es.length = n ∧ ∃ F : Nat → Nat → Value, RdN w a n 4 F ∧ ∀ i (h : i < es.length), F i 0 = .string es[i].na ∧ F i 1 = .int .u16 es[i].da ∧ F i 2 = .int .u16 es[i].cl ∧ ∃ p k c, F i 3 = .slice p k c ∧ es[i].dt.length = k ∧ Rd w bE p es[i].dt
theorem RdE.below {w w' : World} {a : Option Addr} {n : Nat} {es : List Ent} (h : RdE w a n es) (hb : Below w.heap.size w w') : RdE w' a n es := by
  obtain ⟨h1, F, h2, h3⟩ := h
  refine ⟨h1, F, h2.below hb, fun i hi => ?_⟩
  obtain ⟨c0, c1, c2, p, k, c, c3, c4, c5⟩ := h3 i hi
  exact ⟨c0, c1, c2, p, k, c, c3, c4, c5.below hb⟩
theorem RdE.at {w : World} {a : Option Addr} {n : Nat} {es : List Ent} (h : RdE w a n es) {i : Nat} (hi : i < es.length) : ∃ b off p k c, a = some ⟨b, off, none⟩ ∧ w.cell? ⟨b, off + i * 4, none⟩ = some (.string es[i].na) ∧ w.cell? ⟨b, off + i * 4 + 1, none⟩ = some (.int .u16 es[i].da) ∧ w.cell? ⟨b, off + i * 4 + 2, none⟩ = some (.int .u16 es[i].cl) ∧ w.cell? ⟨b, off + i * 4 + 3, none⟩ = some (.slice p k c) ∧ es[i].dt.length = k ∧ Rd w bE p es[i].dt := by
  obtain ⟨h1, F, h2, h3⟩ := h
  obtain ⟨b, off, rfl, h4⟩ := h2.at (i := i) (by omega)
  obtain ⟨c0, c1, c2, p, k, c, c3, c4, c5⟩ := h3 i hi
  refine ⟨b, off, p, k, c, rfl, ?_, ?_, ?_, ?_, c4, c5⟩
  · have := h4 0 (by omega); rw [c0] at this; exact this
  · have := h4 1 (by omega); rw [c1] at this; exact this
  · have := h4 2 (by omega); rw [c2] at this; exact this
  · have := h4 3 (by omega); rw [c3] at this; exact this
theorem strOf_size (l : List UInt8) : (strOf l).size = l.length := by simp [strOf, ByteArray.size]
def idxF : List Ent → Nat → ByteArray → ByteArray → Bool → Option Nat
  | [], _ => fun _ _ _ => none
  | e :: r, i => fun d nm b => if d = strOf e.dt ∧ nm = e.na ∧ b = true then some i else if d = strOf e.dt ∧ nm = ⟨#[]⟩ ∧ b = false then some i else idxF r (i + 1) d nm b
/-- Data and names no longer than these. -/
def SmallE (es : List Ent) : Prop := ∀ e ∈ es, e.na.size ≤ 1000000 ∧ e.dt.length ≤ 1000000
/-- What index makes: a map at m. -/
def IdxPost (w : World) (es : List Ent) (m : Nat) (w' : World) : Prop := w.heap.size ≤ m ∧ (∃ n', DMap w' m n' (idxF es 0)) ∧ Below w.heap.size w w'
set_option maxRecDepth 100000 in
set_option maxHeartbeats 16000000 in
theorem index_any (a : Option Addr) (n c : Nat) (es : List Ent) (w : World) (hn : n ≤ 1000000) (hp : RdE w a n es) (hs : SmallE es) :
  Calls Try.prog 58 #[.slice a n c] w fun e w' => ∃ m, e = .returned (.map (some m)) ∧ IdxPost w es m w' := by
  have HL := Lib.hid hp.1
  have HP := Lib.hid hp
  have HS := Lib.hid hs
  have HM0 := Lib.hid (DMap.made w)
  have HB0 := Lib.hid (below_alloc w (.map #[] 0))
  clear hp hs
  go_enter Try.func58, Try.ntmps58
  have hmm := @run_makeMap Try.prog
  go_wp2
  obtain ⟨m, hm⟩ : ∃ m, m = w.heap.size := ⟨_, rfl⟩
  have HMW : Hid (w.heap.size ≤ m) := Lib.hid (by omega)
  rw [← hm] at HM0 ⊢
  clear hm
  generalize w.alloc (.map #[] 0) = w0 at HM0 HB0 ⊢
  go_loopw [4] (fun x4 wr => ∃ (j cnt : Nat) (x : Int), x = (j : Int) - 1 ∧ j ≤ n ∧ x4 = .int .i64 x ∧ cnt + 2 * j ≤ 2 * n ∧ DMap wr m cnt (idxF (es.drop j) j) ∧ Below w.heap.size w wr) (fun x4 _ => (intOf x4 + 1).toNat)
  case atStart => exact ⟨n, 0, (n : Int) - 1, rfl, Nat.le_refl _, rfl, by omega, by rw [List.drop_of_length_le (by rw [HL.out]; exact Nat.le_refl _)]; exact HM0.out, HB0.out⟩
  case round =>
    clear HM0 HB0
    obtain ⟨j, cnt, x, hx, hj, rfl, hcnt, hmap, hB⟩ := hrel
    by_cases h0 : 0 ≤ x
    · obtain ⟨i, rfl⟩ := Int.eq_ofNat_of_zero_le h0
      have hji : j = i + 1 := by omega
      subst hji
      have hil : i < es.length := by rw [HL.out]; omega
      obtain ⟨b, off, p, k, c', rfl, c0, c1, c2, c3, hk, hrd⟩ := (HP.out.below hB).at hil
      have hse := HS.out es[i] (List.getElem_mem hil)
      have hdrop : idxF (es.drop i) i = fun d nm b => if d = strOf es[i].dt ∧ nm = es[i].na ∧ b = true then some i else if d = strOf es[i].dt ∧ nm = ⟨#[]⟩ ∧ b = false then some i else idxF (es.drop (i + 1)) (i + 1) d nm b := by
        rw [List.drop_eq_getElem_cons hil]; rfl
      have HD := Lib.hid hdrop
      obtain ⟨w5, hrun5, ⟨n5, hn5, hm5⟩, hg5⟩ := hmap.put (by unfold maxLen; omega) (strOf es[i].dt) ⟨#[]⟩ false (by rw [strOf_size]; unfold maxLen; omega) (by unfold maxLen; decide) i (by omega)
      have hB5 := hB.grown hg5 hB.size (fun q hq => by simp only [Option.some.injEq] at hq; have := HMW.out; omega)
      have hB5d : Below w.heap.size w w5.drew := hB5.drew
      obtain ⟨b', off', p', k', c'', hab, d0, d1, d2, d3, hk', hrd'⟩ := (HP.out.below hB5d).at hil
      simp only [Option.some.injEq, Addr.mk.injEq, and_true] at hab
      obtain ⟨rfl, rfl⟩ := hab
      obtain ⟨w6, hrun6, ⟨n6, hn6, hm6⟩, hg6⟩ := (hm5.below ((Below.refl w5.heap.size w5).drew)).put (by unfold maxLen; omega) (strOf es[i].dt) es[i].na true (by rw [strOf_size]; unfold maxLen; omega) (by unfold maxLen; omega) i (by omega)
      have hB6 := hB5d.grown hg6 hB5d.size (fun q hq => by simp only [Option.some.injEq] at hq; have := HMW.out; omega)
      generalize es[i] = e at c0 c1 c2 c3 hk hrd hse HD hrun5 hrun6 hm6 d0 d1 d2 d3 hk' hrd'
      have hcv := conv_str (P := Try.prog) Try.underlying32 Try.underlying5 Try.underlying9 c' hk hrd
      have hcv' := conv_str (P := Try.prog) Try.underlying32 Try.underlying5 Try.underlying9 c'' hk' hrd'
      have HF := Lib.hid (And.intro hm6 (And.intro hB6 (show n6 + 2 * i ≤ 2 * n by omega)))
      unfold kD at hrun5 hrun6
      have hin : (i : Int) < n := by omega
      clear hx h0 hmap hse hm5 hg5 hB5 hB5d hn5 hcnt c1 c2 d1 d2 hdrop hm6 hg6 hB6 hn6 hB hk hk' hrd hrd'
      go_wp2
      clear c0 c3 hcv hrun5
      go_still_tail 14, (by kernel_rfl)
      show wpList _ _ _ _ _ w5.drew
      clear d0 d3 hcv'
      go_wp2
      go_roundw
      case rel => exact ⟨i, n6, (i : Int) - 1, rfl, by omega, rfl, HF.out.2.2, by rw [HD.out]; exact HF.out.1, HF.out.2.1⟩
      case measure => simp [intOf] <;> omega
    · have hj0 : j = 0 := by omega
      subst hj0
      have HF := Lib.hid (And.intro hmap hB)
      clear hmap hB hx
      go_wp2
      go_ret
      exact ⟨m, rfl, HMW.out, ⟨cnt, HF.out.1⟩, HF.out.2⟩
end Go.Proofs.Ytnfdbljeinlblaa
