/- match: the map of beginnings; what is known of places; match.same. -/
import Derived.Test.YtnfdbljeinlblaaAppA
import Derived.Test.YtnfdbljeinlblaaGrowN
import Derived.Test.YtnfdbljeinlblaaSl
import Derived.Maps.Own
import Derived.Maps.OwnOps
import Derived.Maps.OwnSet
import Derived.DeepKeys4
import Derived.Test.YtnfdbljeinlblaaStr
import Derived.BigQuiet
namespace Go.Proofs.Ytnfdbljeinlblaa
open Go.RowKit
set_option linter.unusedVariables false
set_option linter.unusedSimpArgs false

def iR (x : Int) : Value := .int .i64 x
theorem slIR : SlT Try.prog 108 3 (.int .i64 0) 1 8 := ⟨Try.underlying108, by kernel_rfl, rfl⟩
abbrev KT : TypeId := 114
abbrev MT : TypeId := 109
def kV (x y z : UInt8) : Value := .agg #[bE x, bE y, bE z]
theorem lo07 : laidOutB Try.prog = true := by kernel_rfl
theorem law07 : Maps.Keyed Try.prog KT := Maps.Keyed.of_law (deep_law_laid lo07 (m := 2) (by omega) (of_decide_eq_true (by kernel_rfl)) (by kernel_rfl) (by rw [Try.underlying114]))
theorem keyT07 : Try.prog.keyType KT = true := by kernel_rfl
theorem cells07 : Try.prog.cellsOf KT = 3 := by kernel_rfl
theorem cells8 : Try.prog.cellsOf 5 = 1 := by kernel_rfl
theorem size07 : ∃ n, Try.prog.types.size = n + 1 := ⟨Try.prog.types.size - 1, by have : 0 < Try.prog.types.size := of_decide_eq_true (by kernel_rfl); omega⟩
theorem kKey (x y z : UInt8) : ∃ kl, keyOf Try.prog KT (kV x y z) = some kl := by
  have h := keyT07
  have hf : (kV x y z).formed Try.prog KT = true := by simp [kV, Value.formed, Try.underlying114, cells07]
  have w1 : (Lit.int .u8 (x.toNat : Int)).wf = true := WalkArith.wf_u8 (by have := x.toNat_lt; omega)
  have w2 : (Lit.int .u8 (y.toNat : Int)).wf = true := WalkArith.wf_u8 (by have := y.toNat_lt; omega)
  have w3 : (Lit.int .u8 (z.toNat : Int)).wf = true := WalkArith.wf_u8 (by have := z.toNat_lt; omega)
  obtain ⟨n, hn⟩ := size07
  unfold keyOf
  simp only [Try.underlying114, h, hf, Bool.and_self, if_true, hn]
  refine ⟨.string (keyBytes [.int .u8 (x.toNat : Int), .int .u8 (y.toNat : Int), .int .u8 (z.toNat : Int)]), ?_⟩
  have e : Try.prog.keyLits (n + 1 + 1) KT (kV x y z).cells.toList = some [.int .u8 (x.toNat : Int), .int .u8 (y.toNat : Int), .int .u8 (z.toNat : Int)] := by
    simp [Program.keyLits, Try.underlying114, Try.underlying5, cells07, cells8, kV, Value.cells, bE, w1, w2, w3, List.range_succ]
  rw [e]; rfl
theorem kV_inj {x y z x' y' z' : UInt8} (h : kV x y z = kV x' y' z') : x = x' ∧ y = y' ∧ z = z' := by
  unfold kV bE at h
  simp at h
  exact ⟨UInt8.toNat_inj.1 (by omega), UInt8.toNat_inj.1 (by omega), UInt8.toNat_inj.1 (by omega)⟩
/-- A map of beginnings. -/
def MapOf (w : World) (m n : Nat) (f : UInt8 → UInt8 → UInt8 → Nat) : Prop :=
  ∃ D : DataW Unit, w.ownsMap Try.prog KT (plainElem Try.prog 3) m n D ∧ ∀ x y z kl, keyOf Try.prog KT (kV x y z) = some kl → D.atKey kl (.lit (.int .i64 0)) = .lit (.int .i64 (f x y z : Int))
theorem zero07 (w : World) : (zeroValue 3).run Try.prog w = .ok (.int .i64 0) w := by kernel_rfl
section
variable {w w' : World} {m n : Nat} {f : UInt8 → UInt8 → UInt8 → Nat}
theorem MapOf.made (w : World) : MapOf (w.alloc (.map #[] 0)) w.heap.size 0 (fun _ _ _ => 0) := ⟨_, World.ownsMap_made _ _ _ _, fun _ _ _ _ _ => rfl⟩
theorem MapOf.lt (h : MapOf w m n f) : m < w.heap.size := by obtain ⟨D, h1, _⟩ := h; exact h1.lt
theorem MapOf.kept {row : Option Nat} (h : MapOf w m n f) (hg : w.grownBy w' row) (hne : some m ≠ row) : MapOf w' m n f := by obtain ⟨D, h1, h2⟩ := h; exact ⟨D, h1.kept hg hne, h2⟩
theorem MapOf.below (h : MapOf w m n f) (hb : Below w.heap.size w w') : MapOf w' m n f := h.kept (grownBy_of_below none hb) (by simp)
theorem MapOf.look (h : MapOf w m n f) (x y z : UInt8) : (Instr.lookup MT (.map (some m)) (kV x y z) false).run Try.prog w = .ok (.int .i64 (f x y z : Int)) w := by
  obtain ⟨D, h1, h2⟩ := h
  obtain ⟨kl, hk⟩ := kKey x y z
  obtain ⟨c, hrun, hat, _⟩ := h1.lookup_int law07 Try.underlying109 Try.underlying3 (zero07 w) hk
  rw [h2 x y z kl hk] at hat
  simp only [DataW.lit.injEq, Lit.int.injEq, true_and] at hat
  rw [hat]; exact hrun
theorem MapOf.put (h : MapOf w m n f) (hn : n < maxLen) (x y z : UInt8) (v : Nat) (hv : v ≤ 9223372036854775807) : ∃ w', (Instr.mapUpdate MT (.map (some m)) (kV x y z) (.int .i64 (v : Int))).run Try.prog w = .ok () w' ∧
    MapOf w' m (n + 1) (fun x' y' z' => if x' = x ∧ y' = y ∧ z' = z then v else f x' y' z') ∧ w.grownBy w' (some m) := by
  obtain ⟨D, h1, h2⟩ := h
  obtain ⟨kl, hk⟩ := kKey x y z
  have hwf : (Lit.int .i64 (v : Int)).wf = true := WalkArith.wf_i64 (by omega)
  obtain ⟨w', hrun, hown, hg⟩ := h1.update law07 Try.underlying109 hn hk (plainElem_int Try.underlying3 hwf)
  refine ⟨w', hrun, ⟨_, hown, fun x' y' z' kl' hk' => ?_⟩, hg⟩
  by_cases he : x' = x ∧ y' = y ∧ z' = z
  · obtain ⟨rfl, rfl, rfl⟩ := he
    rw [hk] at hk'
    simp only [Option.some.injEq] at hk'
    subst hk'
    simp only [and_self, if_true]
    exact Maps.atKey_put_same h1.isMap (law07.key hk) _ _
  · simp only [if_neg he]
    have hne : kl' ≠ kl := fun e => he (kV_inj (law07.inj hk' (e ▸ hk)))
    rw [Maps.atKey_put_other hne]
    exact h2 x' y' z' kl' hk'
end
theorem run_arr (a : Option Addr) (n c : Nat) (h : 3 ≤ n) (w : World) : (Instr.arrayAt KT (.slice a n c)).run Try.prog w = .ok (.pointer a) w := by
  simp [Instr.arrayAt, run_underlying Try.underlying114, show ¬ n < 3 by omega]

/-- How many bytes at two places are the same. -/
def sameF (l : List UInt8) : Nat → Nat → Nat → Nat
  | 0, _, _ => 0
  | f+1, p, q => match l[p]?, l[q]? with
    | some x, some y => if x = y then sameF l f (p + 1) (q + 1) + 1 else 0
    | _, _ => 0
def sameN (l : List UInt8) (p q : Nat) : Nat := sameF l 258 p q
theorem sameF_le (l : List UInt8) : ∀ (f p q : Nat), sameF l f p q ≤ f := by
  intro f
  induction f with
  | zero => intro p q; exact Nat.le_refl _
  | succ f ih =>
    intro p q
    rw [sameF]
    split
    · split
      · have := ih (p + 1) (q + 1); omega
      · omega
    · omega
theorem sameF_end (l : List UInt8) (f p q : Nat) (h : l.length ≤ q) : sameF l f p q = 0 := by
  cases f with
  | zero => rfl
  | succ f =>
    rw [sameF, List.getElem?_eq_none h]
    split
    · rename_i hx; cases hx
    · rfl
theorem sameF_yes (l : List UInt8) (f p q : Nat) {x : UInt8} (h1 : l[p]? = some x) (h2 : l[q]? = some x) : sameF l (f + 1) p q = sameF l f (p + 1) (q + 1) + 1 := by
  rw [sameF, h1, h2]; simp
theorem sameF_no (l : List UInt8) (f p q : Nat) {x y : UInt8} (h1 : l[p]? = some x) (h2 : l[q]? = some y) (h : x ≠ y) : sameF l (f + 1) p q = 0 := by
  rw [sameF, h1, h2]; simp [h]
set_option maxRecDepth 100000 in
set_option maxHeartbeats 8000000 in
theorem mSame_any (a : Option Addr) (n c : Nat) (l : List UInt8) (p q : Nat) (w : World) (hl : l.length = n) (hn : n ≤ 1000000000) (hr : Rd w bE a l) (hp : p ≤ q) (hq : q ≤ n) :
  Calls Try.prog 79 #[.slice a n c, .int .i64 p, .int .i64 q] w fun e w' => e = .returned (.int .i64 (sameN l p q : Int)) ∧ Below w.heap.size w w' := by
  have HL := Lib.hid hl
  have HR := Lib.hid hr
  clear hl hr
  go_enter Try.func79, Try.ntmps79
  go_wp2
  go_loopw [7] (fun xi wr => ∃ k : Nat, k ≤ 258 ∧ q + k ≤ n ∧ xi = .int .i64 k ∧ sameF l (258 - k) (p + k) (q + k) + k = sameN l p q ∧ Below w.heap.size w wr) (fun xi _ => 258 - (intOf xi).toNat)
  case atStart => exact ⟨0, by omega, by omega, rfl, rfl, Below.refl _ _⟩
  case round =>
    obtain ⟨k, hk, hqk, rfl, hrun, hB⟩ := hrel
    by_cases h258 : k < 258
    · by_cases hlt : q + k < n
      · obtain ⟨f, hf⟩ : ∃ f, 258 - k = f + 1 := ⟨257 - k, by omega⟩
        have hpl : p + k < l.length := by rw [HL.out]; omega
        have hql : q + k < l.length := by rw [HL.out]; omega
        obtain ⟨b, off, rfl, hx, hcx⟩ := (HR.out.below hB).at hpl
        obtain ⟨b', off', hab, hy, hcy⟩ := (HR.out.below hB).at hql
        simp only [Option.some.injEq, Addr.mk.injEq, and_true] at hab
        obtain ⟨rfl, rfl⟩ := hab
        have hxe : l[p + k]? = some l[p + k] := List.getElem?_eq_getElem hpl
        have hye : l[q + k]? = some l[q + k] := List.getElem?_eq_getElem hql
        have hd1 : decide ((k : Int) < 258) = true := decide_eq_true (by omega)
        have hd2 : decide ((q : Int) + k < n) = true := decide_eq_true (by omega)
        have hlt' : (q : Int) + k < n := by omega
        have hpk : (p : Int) + k < n := by omega
        generalize l[p + k] = x at *
        generalize l[q + k] = y at *
        unfold bE at hcx hcy
        by_cases hxy : x = y
        · subst hxy
          have hnext := hrun
          rw [hf, sameF_yes l f (p + k) (q + k) hxe hye] at hnext
          have HN := Lib.hid (show sameF l (258 - (k + 1)) (p + (k + 1)) (q + (k + 1)) + (k + 1) = sameN l p q by rw [← hnext, show 258 - (k + 1) = f by omega, Nat.add_assoc p, Nat.add_assoc q]; omega)
          have heq : ((x.toNat : Int) == (x.toNat : Int)) = true := by simp
          clear hrun hnext hxe hye hx hy hf
          have hB' : ∀ kd, Below w.heap.size w (wr.drewN kd) := fun kd => hB.trans ⟨rfl, rfl, rfl, Nat.le_refl _, fun _ _ => rfl⟩
          go_wp2
          go_quiet (fail)
          go_wp2
          go_roundw
          case rel => exact ⟨k + 1, by omega, by omega, by go_num, HN.out, by first | exact hB' _ | exact hB⟩
          case measure => simp [intOf]; omega
        · have hnext := hrun
          rw [hf, sameF_no l f (p + k) (q + k) hxe hye hxy] at hnext
          have hk0 : sameN l p q = k := by omega
          have hne : ((x.toNat : Int) == (y.toNat : Int)) = false := beq_eq_false_iff_ne.2 (fun e => hxy (UInt8.toNat_inj.1 (by omega)))
          have HK := Lib.hid hk0
          clear hrun hnext hxe hye hx hy hf hk0 hxy
          have hB' : ∀ kd, Below w.heap.size w (wr.drewN kd) := fun kd => hB.trans ⟨rfl, rfl, rfl, Nat.le_refl _, fun _ _ => rfl⟩
          go_wp2
          go_quiet (fail)
          go_wp2
          go_ret
          exact ⟨by rw [HK.out]; rfl, by first | exact hB' _ | exact hB⟩
      · have hk0 : sameN l p q = k := by rw [← hrun, sameF_end _ _ _ _ (by rw [HL.out]; omega)]; omega
        have hd1 : decide ((k : Int) < 258) = true := decide_eq_true (by omega)
        have hd2 : decide ((q : Int) + k < n) = false := decide_eq_false (by omega)
        have HK := Lib.hid hk0
        clear hrun hk0
        have hB' : ∀ kd, Below w.heap.size w (wr.drewN kd) := fun kd => hB.trans ⟨rfl, rfl, rfl, Nat.le_refl _, fun _ _ => rfl⟩
        go_wp2
        go_quiet (fail)
        go_wp2
        go_ret
        exact ⟨by rw [HK.out]; rfl, by first | exact hB' _ | exact hB⟩
    · have hkn : k = 258 := by omega
      subst hkn
      have hk0 : sameN l p q = 258 := by rw [← hrun]; rfl
      have hd1 : decide ((258 : Int) < 258) = false := rfl
      have HK := Lib.hid hk0
      clear hrun hk0
      have hB' : ∀ kd, Below w.heap.size w (wr.drewN kd) := fun kd => hB.trans ⟨rfl, rfl, rfl, Nat.le_refl _, fun _ _ => rfl⟩
      go_wp2
      go_quiet (fail)
      go_wp2
      go_ret
      exact ⟨by rw [HK.out]; rfl, by first | exact hB' _ | exact hB⟩
end Go.Proofs.Ytnfdbljeinlblaa
