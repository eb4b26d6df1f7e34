/- Package record: twos, fours, flags; packsaddleref12: flags. -/
import Derived.Test.YtbknkahakmfhkaaCurP
import Derived.Test.YtbknkahakmfhkaaRef02P
namespace Go.Proofs.Ytbknkahakmfhkaa
open Go.RowKit
set_option linter.unusedVariables false
set_option linter.unusedSimpArgs false

abbrev iR : Int → Value := fun v => .int .i64 v
theorem slIR : SlT Try.prog 52 3 (.int .i64 0) 1 8 := ⟨Try.underlying52, by kernel_rfl, rfl⟩
/-- An int as a number of 64 bits. -/
def u64N (v : Int) : Nat := (v % 18446744073709551616).toNat
theorem u64N_int (v : Int) : IntKind.u64.wrap v = ((u64N v : Nat) : Int) := by
  unfold u64N; simp [IntKind.wrap, IntKind.signed, IntKind.bits]; omega
theorem u64N_lt (v : Int) : u64N v < 18446744073709551616 := by unfold u64N; omega
def encI (v m : Int) : List UInt8 := putL (u64N v) m
def encs (m : Int) (vs : List Int) : List UInt8 := vs.flatMap fun v => encI v m
theorem encs_take (m : Int) (vs : List Int) (k : Nat) (h : k < vs.length) : encs m (vs.take (k + 1)) = encs m (vs.take k) ++ encI vs[k] m := by
  unfold encs
  rw [List.take_succ_eq_append_getElem h, List.flatMap_append]; simp
theorem encI_le (v m : Int) : (encI v m).length ≤ 8 := putL_le _ _
theorem encs_le (m : Int) (vs : List Int) : (encs m vs).length ≤ 8 * vs.length := by
  unfold encs
  induction vs with
  | nil => simp
  | cons v vs ih => simp only [List.flatMap_cons, List.length_append, List.length_cons]; have := encI_le v m; omega
def OwnB (B : Nat) (l : List UInt8) (v : Value) (w : World) : Prop := ∃ a n c, v = .slice a n c ∧ Own w B 5 bE a n c l
theorem OwnB.below {B : Nat} {l : List UInt8} {v : Value} {w w' : World} (h : OwnB B l v w) (hb : Below w.heap.size w w') : OwnB B l v w' := by
  obtain ⟨a, n, c, h1, h2⟩ := h; exact ⟨a, n, c, h1, h2.below hb⟩
theorem OwnB.mono {B B' : Nat} {l : List UInt8} {v : Value} {w : World} (h : OwnB B l v w) (hb : B' ≤ B) : OwnB B' l v w := by
  obtain ⟨a, n, c, h1, h2⟩ := h; exact ⟨a, n, c, h1, h2.mono hb⟩
set_option maxRecDepth 100000 in
set_option maxHeartbeats 4000000 in
theorem twos_any (a : Option Addr) (n c : Nat) (lb : List UInt8) (p : Option Addr) (m k0 : Nat) (vs : List Int) (w : World) (hl : lb.length = n) (hn : n ≤ 1000000) (hr : Rd w bE a lb) (hvl : vs.length = m) (hm : m ≤ 1000) (h0 : 0 < m) (hv : Rd w iR p vs) :
  Calls Try.prog 54 #[.slice a n c, .slice p m k0] w fun e w' => ∃ v, e = .returned v ∧ OwnB w.heap.size (lb ++ encs 2 vs) v w' ∧ Below w.heap.size w w' := by
  have HL := Lib.hid hl
  have HV := Lib.hid (And.intro hvl hv)
  clear hl hvl hv
  go_enter Try.func54, Try.ntmps54
  go_wp2
  go_loopw [0, 9] (fun x0 xi wr => ∃ (k n' c' : Nat) (a' : Option Addr), k ≤ m ∧ xi = .int .i64 k ∧ x0 = .slice a' n' c' ∧ (lb ++ encs 2 (vs.take k)).length = n' ∧ Rd wr bE a' (lb ++ encs 2 (vs.take k)) ∧ (0 < k → OwnB w.heap.size (lb ++ encs 2 (vs.take k)) (.slice a' n' c') wr) ∧ Below w.heap.size w wr) (fun _ xi _ => m - (intOf xi).toNat)
  case atStart => exact ⟨0, n, c, a, by omega, rfl, rfl, by simpa [encs] using HL.out, by simpa [encs] using hr, (fun h => absurd h (by omega)), Below.refl _ _⟩
  case round =>
    clear hr
    obtain ⟨k, n', c', a', hk, rfl, rfl, hn', hrd, hpos, hB⟩ := hrel
    by_cases hlt : k < m
    · clear hpos
      have hkl : k < vs.length := by rw [HV.out.1]; exact hlt
      obtain ⟨b, off, rfl, -, hc⟩ := (HV.out.2.below hB).at hkl
      have HE := Lib.hid (encs_take 2 vs k hkl)
      have hle := encs_le 2 (vs.take k)
      rw [List.length_take] at hle
      have HLN : Hid (n' ≤ 1010000) := Lib.hid (by rw [← hn', List.length_append, HL.out]; omega)
      generalize vs[k] = v at hc HE
      generalize encs 2 (vs.take k) = L at hn' hrd HE hle
      have HRD := Lib.hid (And.intro hn' hrd)
      have HB := Lib.hid hB
      clear hn' hrd hB hle
      simp only [iR] at hc
      go_wp2_with fail
      rw [u64N_int]
      refine (cLittle_full a' n' c' (lb ++ L) (u64N v) 2 wr HRD.out.1 (by have := HLN.out; omega) (u64N_lt v) (by decide) (by decide) HRD.out.2).mono ?_
      rintro e w2 ⟨a2, n2, c2, rfl, -, hown, hb2⟩
      have HOWN := Lib.hid (hown rfl)
      have HB2 := Lib.hid (below_trans0 HB.out HB.out.size hb2)
      have hsz := HB.out.size
      clear hown hb2 hc
      go_wp2
      go_roundw
      case rel => exact ⟨k + 1, n2, c2, a2, by omega, by go_num, rfl, by rw [HE.out, ← List.append_assoc]; exact HOWN.out.len, by rw [HE.out, ← List.append_assoc]; exact HOWN.out.rd, (fun _ => ⟨a2, n2, c2, rfl, by rw [HE.out, ← List.append_assoc]; exact HOWN.out.mono hsz⟩), HB2.out⟩
      case measure => simp [intOf]; omega
    · have hkm : k = m := by omega
      have hall : vs.take k = vs := List.take_of_length_le (by rw [HV.out.1]; omega)
      rw [hall] at hpos
      have HP := Lib.hid (hpos (by omega))
      clear hpos hrd hn' hall
      subst hkm
      go_wp2
      go_ret
      exact ⟨_, rfl, HP.out, hB⟩
set_option maxRecDepth 100000 in
set_option maxHeartbeats 4000000 in
theorem fours_any (a : Option Addr) (n c : Nat) (lb : List UInt8) (p : Option Addr) (m k0 : Nat) (vs : List Int) (w : World) (hl : lb.length = n) (hn : n ≤ 1000000) (hr : Rd w bE a lb) (hvl : vs.length = m) (hm : m ≤ 1000) (h0 : 0 < m) (hv : Rd w iR p vs) :
  Calls Try.prog 53 #[.slice a n c, .slice p m k0] w fun e w' => ∃ v, e = .returned v ∧ OwnB w.heap.size (lb ++ encs 4 vs) v w' ∧ Below w.heap.size w w' := by
  have HL := Lib.hid hl
  have HV := Lib.hid (And.intro hvl hv)
  clear hl hvl hv
  go_enter Try.func53, Try.ntmps53
  go_wp2
  go_loopw [0, 9] (fun x0 xi wr => ∃ (k n' c' : Nat) (a' : Option Addr), k ≤ m ∧ xi = .int .i64 k ∧ x0 = .slice a' n' c' ∧ (lb ++ encs 4 (vs.take k)).length = n' ∧ Rd wr bE a' (lb ++ encs 4 (vs.take k)) ∧ (0 < k → OwnB w.heap.size (lb ++ encs 4 (vs.take k)) (.slice a' n' c') wr) ∧ Below w.heap.size w wr) (fun _ xi _ => m - (intOf xi).toNat)
  case atStart => exact ⟨0, n, c, a, by omega, rfl, rfl, by simpa [encs] using HL.out, by simpa [encs] using hr, (fun h => absurd h (by omega)), Below.refl _ _⟩
  case round =>
    clear hr
    obtain ⟨k, n', c', a', hk, rfl, rfl, hn', hrd, hpos, hB⟩ := hrel
    by_cases hlt : k < m
    · clear hpos
      have hkl : k < vs.length := by rw [HV.out.1]; exact hlt
      obtain ⟨b, off, rfl, -, hc⟩ := (HV.out.2.below hB).at hkl
      have HE := Lib.hid (encs_take 4 vs k hkl)
      have hle := encs_le 4 (vs.take k)
      rw [List.length_take] at hle
      have HLN : Hid (n' ≤ 1010000) := Lib.hid (by rw [← hn', List.length_append, HL.out]; omega)
      generalize vs[k] = v at hc HE
      generalize encs 4 (vs.take k) = L at hn' hrd HE hle
      have HRD := Lib.hid (And.intro hn' hrd)
      have HB := Lib.hid hB
      clear hn' hrd hB hle
      simp only [iR] at hc
      go_wp2_with fail
      rw [u64N_int]
      refine (cLittle_full a' n' c' (lb ++ L) (u64N v) 4 wr HRD.out.1 (by have := HLN.out; omega) (u64N_lt v) (by decide) (by decide) HRD.out.2).mono ?_
      rintro e w2 ⟨a2, n2, c2, rfl, -, hown, hb2⟩
      have HOWN := Lib.hid (hown rfl)
      have HB2 := Lib.hid (below_trans0 HB.out HB.out.size hb2)
      have hsz := HB.out.size
      clear hown hb2 hc
      go_wp2
      go_roundw
      case rel => exact ⟨k + 1, n2, c2, a2, by omega, by go_num, rfl, by rw [HE.out, ← List.append_assoc]; exact HOWN.out.len, by rw [HE.out, ← List.append_assoc]; exact HOWN.out.rd, (fun _ => ⟨a2, n2, c2, rfl, by rw [HE.out, ← List.append_assoc]; exact HOWN.out.mono hsz⟩), HB2.out⟩
      case measure => simp [intOf]; omega
    · have hkm : k = m := by omega
      have hall : vs.take k = vs := List.take_of_length_le (by rw [HV.out.1]; omega)
      rw [hall] at hpos
      have HP := Lib.hid (hpos (by omega))
      clear hpos hrd hn' hall
      subst hkm
      go_wp2
      go_ret
      exact ⟨_, rfl, HP.out, hB⟩
def flagI (b : Bool) : Int := if b then 8 else 0
theorem cflags_any (b : Bool) (w : World) : Calls Try.prog 98 #[.bool b] w fun e w' => e = .returned (.int .i64 (flagI b)) ∧ w = w' := by
  go_enter Try.func98, Try.ntmps98
  cases b with
  | true => go_wp2; go_ret; exact ⟨rfl, rfl⟩
  | false => go_wp2; go_ret; exact ⟨rfl, rfl⟩
theorem rflags_any (b : Bool) (w : World) : Calls Try.prog 56 #[.bool b] w fun e w' => e = .returned (.int .i64 (flagI b)) ∧ w = w' := by
  go_enter Try.func56, Try.ntmps56
  cases b with
  | true => go_wp2; go_ret; exact ⟨rfl, rfl⟩
  | false => go_wp2; go_ret; exact ⟨rfl, rfl⟩
end Go.Proofs.Ytbknkahakmfhkaa
