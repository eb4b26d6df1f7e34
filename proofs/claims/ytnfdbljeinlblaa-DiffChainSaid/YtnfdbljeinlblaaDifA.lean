/- diff: the map of what is known. -/
import Derived.Test.YtnfdbljeinlblaaMatA
namespace Go.Proofs.Ytnfdbljeinlblaa
open Go.RowKit
set_option linter.unusedVariables false
set_option linter.unusedSimpArgs false

abbrev KK' : TypeId := 87
abbrev MK' : TypeId := 83
def kD (d nm : ByteArray) (b : Bool) : Value := .agg #[.string d, .string nm, .bool b]
theorem law40 : Maps.Keyed Try.prog KK' := Maps.Keyed.of_law (deep_law_laid lo07 (m := 2) (by omega) (of_decide_eq_true (by kernel_rfl)) (by kernel_rfl) (by rw [Try.underlying87]))
theorem keyT40 : Try.prog.keyType KK' = true := by kernel_rfl
theorem cells40 : Try.prog.cellsOf KK' = 3 := by kernel_rfl
theorem cellsS : Try.prog.cellsOf 9 = 1 := by kernel_rfl
theorem cellsB : Try.prog.cellsOf 4 = 1 := by kernel_rfl
theorem dKey (d nm : ByteArray) (b : Bool) (hd : d.size ≤ maxLen) (hn : nm.size ≤ maxLen) : ∃ kl, keyOf Try.prog KK' (kD d nm b) = some kl := by
  have h := keyT40
  have hf : (kD d nm b).formed Try.prog KK' = true := by simp [kD, Value.formed, Try.underlying87, cells40]
  obtain ⟨n, hn'⟩ := size07
  unfold keyOf
  simp only [Try.underlying87, h, hf, Bool.and_self, if_true, hn']
  have e : ∃ ls, Try.prog.keyLits (n + 1 + 1) KK' (kD d nm b).cells.toList = some ls := by
    simp [Program.keyLits, Try.underlying87, Try.underlying9, Try.underlying4, cells40, cellsS, cellsB, kD, Value.cells, List.range_succ]
    rw [if_pos hd, if_pos hn]
    exact ⟨_, rfl⟩
  obtain ⟨ls, e⟩ := e
  rw [e]; exact ⟨_, rfl⟩
theorem kD_inj {d nm d' nm' : ByteArray} {b b' : Bool} (h : kD d nm b = kD d' nm' b') : d = d' ∧ nm = nm' ∧ b = b' := by
  unfold kD at h
  simp at h
  exact h
/-- A map of what is known: where f says so, something is. -/
def DMap (w : World) (m n : Nat) (f : ByteArray → ByteArray → Bool → Option Nat) : Prop :=
  ∃ D : DataW Unit, w.ownsMap Try.prog KK' (plainElem Try.prog 3) m n D ∧ ∀ d nm b kl, keyOf Try.prog KK' (kD d nm b) = some kl → Maps.has D kl = (f d nm b).isSome ∧ D.atKey kl (.lit (.int .i64 0)) = .lit (.int .i64 (((f d nm b).getD 0 : Nat) : Int))
section
variable {w w' : World} {m n : Nat} {f : ByteArray → ByteArray → Bool → Option Nat}
theorem DMap.made (w : World) : DMap (w.alloc (.map #[] 0)) w.heap.size 0 (fun _ _ _ => none) := ⟨_, World.ownsMap_made _ _ _ _, fun _ _ _ _ _ => ⟨rfl, rfl⟩⟩
theorem DMap.lt (h : DMap w m n f) : m < w.heap.size := by obtain ⟨D, h1, _⟩ := h; exact h1.lt
theorem DMap.kept {row : Option Nat} (h : DMap w m n f) (hg : w.grownBy w' row) (hne : some m ≠ row) : DMap w' m n f := by obtain ⟨D, h1, h2⟩ := h; exact ⟨D, h1.kept hg hne, h2⟩
theorem DMap.below (h : DMap w m n f) (hb : Below w.heap.size w w') : DMap w' m n f := h.kept (grownBy_of_below none hb) (by simp)
theorem plain_zero : (plainElem (H := Unit) Try.prog 3 (.int .i64 0)) = some (.lit (.int .i64 0), []) := plainElem_int Try.underlying3 (WalkArith.wf_i64 (by omega))
theorem DMap.look (h : DMap w m n f) (d nm : ByteArray) (b : Bool) (hd : d.size ≤ maxLen) (hn : nm.size ≤ maxLen) : (Instr.lookup MK' (.map (some m)) (kD d nm b) true).run Try.prog w = .ok (.tuple #[.int .i64 (((f d nm b).getD 0 : Nat) : Int), .bool (f d nm b).isSome]) w := by
  obtain ⟨D, h1, h2⟩ := h
  obtain ⟨kl, hk⟩ := dKey d nm b hd hn
  obtain ⟨v, ps, hrun, hat⟩ := h1.look_ok law40 Try.underlying83 (zero07 w) plain_zero hk
  obtain ⟨h3, h4⟩ := h2 d nm b kl hk
  rw [h4] at hat
  rw [h3] at hrun
  have hv : v = .int .i64 (((f d nm b).getD 0 : Nat) : Int) := by
    cases v <;> simp [plainElem, Try.underlying3] at hat
    obtain ⟨⟨rfl, _⟩, h5, _⟩ := hat
    rw [h5]
  rw [hv] at hrun
  exact hrun
theorem DMap.put (h : DMap w m n f) (hn : n < maxLen) (d nm : ByteArray) (b : Bool) (hd : d.size ≤ maxLen) (hnm : nm.size ≤ maxLen) (v : Nat) (hv : v ≤ 9223372036854775807) : ∃ w', (Instr.mapUpdate MK' (.map (some m)) (kD d nm b) (.int .i64 (v : Int))).run Try.prog w = .ok () w' ∧
    (∃ n', n' ≤ n + 1 ∧ DMap w' m n' (fun d' nm' b' => if d' = d ∧ nm' = nm ∧ b' = b then some v else f d' nm' b')) ∧ w.grownBy w' (some m) := by
  obtain ⟨D, h1, h2⟩ := h
  obtain ⟨kl, hk⟩ := dKey d nm b hd hnm
  have hwf : (Lit.int .i64 (v : Int)).wf = true := WalkArith.wf_i64 (by omega)
  obtain ⟨w', hrun, hown, hg⟩ := h1.update law40 Try.underlying83 hn hk (plainElem_int Try.underlying3 hwf)
  refine ⟨w', hrun, ⟨n + 1, Nat.le_refl _, _, hown, fun d' nm' b' kl' hk' => ?_⟩, hg⟩
  by_cases he : d' = d ∧ nm' = nm ∧ b' = b
  · obtain ⟨rfl, rfl, rfl⟩ := he
    rw [hk] at hk'
    simp only [Option.some.injEq] at hk'
    subst hk'
    simp only [and_self, if_true]
    exact ⟨Maps.has_put_same h1.isMap (law40.key hk) _, Maps.atKey_put_same h1.isMap (law40.key hk) _ _⟩
  · simp only [if_neg he]
    have hne : kl' ≠ kl := fun e => he (kD_inj (law40.inj hk' (e ▸ hk)))
    rw [Maps.has_put_other hne, Maps.atKey_put_other hne]
    exact h2 d' nm' b' kl' hk'
end
end Go.Proofs.Ytnfdbljeinlblaa
