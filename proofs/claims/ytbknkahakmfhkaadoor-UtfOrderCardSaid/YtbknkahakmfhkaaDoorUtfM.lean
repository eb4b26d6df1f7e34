/- fixed; the order law. -/
import Derived.Test.YtbknkahakmfhkaaDoorUtfK
namespace Go.Proofs.YtbknkahakmfhkaaDoor
open Go.RowKit
set_option linter.unusedVariables false
set_option linter.unusedSimpArgs false

def BoolPost (b : Bool) (w : World) (e : Ending) (w' : World) : Prop := e = .returned (.bool b) ∧ Below w.heap.size w w'
set_option maxRecDepth 100000 in
theorem fx1 : Lib.validD [97, 0, 195, 169] = true := by decide +kernel
set_option maxRecDepth 100000 in
theorem fx2 : bytU (unisOf [97, 0, 195, 169]) = [97, 192, 128, 195, 169] := by decide +kernel
set_option maxRecDepth 100000 in
theorem fx3 : (decOf [237, 160, 189, 237, 184, 128]).map (fun s => s.data.toList) = some [240, 159, 152, 128] := by decide +kernel
set_option maxRecDepth 100000 in
theorem fx4 : decOf [237, 160, 189] = none := by
  have h : (decOf [237, 160, 189]).isNone = true := by decide +kernel
  cases h2 : decOf [237, 160, 189] with
  | none => rfl
  | some s => rw [h2] at h; cases h
set_option maxRecDepth 100000 in
theorem fx5 : (unitsOf [237, 160, 189]).isSome = true := by decide +kernel
set_option maxRecDepth 100000 in
theorem fx6 : (unitsOf [0]).isSome = false := by decide +kernel
set_option maxRecDepth 100000 in
theorem fx7 : lessU [97] [97, 98] = true := by decide +kernel
set_option maxRecDepth 100000 in
set_option maxHeartbeats 8000000 in
theorem fixed_any (w : World) (hT : Hid (Tabs w)) : Calls Tryd.prog 6 #[] w (BoolPost true w) := by
  go_enter Tryd.func6, Tryd.ntmps6
  go_wp2_with fail
  refine (encode_any ⟨#[97, 0, 195, 169]⟩ [97, 0, 195, 169] w (Lib.hid rfl) (by decide) hT.out).mono ?_
  rintro e w1 ⟨hB1, rfl⟩
  have HB1 := Lib.hid hB1
  clear hB1
  rw [if_pos fx1, fx2]
  obtain ⟨a1, ha1⟩ : ∃ a, a = strOf [97, 192, 128, 195, 169] := ⟨_, rfl⟩
  rw [← ha1]
  have E1 : a1.toList = [97, 192, 128, 195, 169] := by rw [ha1, strOf_toList]
  clear ha1
  go_wp2_with fail
  refine (decode_any ⟨#[237, 160, 189, 237, 184, 128]⟩ [237, 160, 189, 237, 184, 128] w1 (Lib.hid rfl) (by decide)).mono ?_
  rintro e w2 ⟨hB2, rfl⟩
  have HB2 := Lib.hid (HB1.out.trans (hB2.mono HB1.out.size))
  clear hB2
  obtain ⟨a2, ha2, ha3⟩ := Option.map_eq_some_iff.1 fx3
  rw [ha2]
  have E2 : a2.toList = [240, 159, 152, 128] := by rw [ByteArray.toList_eq, ha3]
  clear ha2 ha3
  go_wp2_with fail
  refine (decode_any ⟨#[237, 160, 189]⟩ [237, 160, 189] w2 (Lib.hid rfl) (by decide)).mono ?_
  rintro e w3 ⟨hB3, rfl⟩
  have HB3 := Lib.hid (HB2.out.trans (hB3.mono HB2.out.size))
  clear hB3
  rw [fx4]
  go_wp2_with fail
  refine (right_any ⟨#[237, 160, 189]⟩ [237, 160, 189] w3 (Lib.hid rfl) (by decide)).mono ?_
  rintro e w4 ⟨rfl, hB4⟩
  have HB4 := Lib.hid (HB3.out.trans (hB4.mono HB3.out.size))
  clear hB4
  rw [fx5]
  go_wp2_with fail
  refine (right_any ⟨#[0]⟩ [0] w4 (Lib.hid rfl) (by decide)).mono ?_
  rintro e w5 ⟨rfl, hB5⟩
  have HB5 := Lib.hid (HB4.out.trans (hB5.mono HB4.out.size))
  clear hB5
  rw [fx6]
  go_wp2_with fail
  refine (less_any ⟨#[97]⟩ ⟨#[97, 98]⟩ [97] [97, 98] w5 (Lib.hid rfl) (Lib.hid rfl) (by decide) (by decide)).mono ?_
  rintro e w6 ⟨rfl, hB6⟩
  have HB6 := Lib.hid (HB5.out.trans (hB6.mono HB5.out.size))
  clear hB6
  rw [fx7]
  go_wp2
  go_ret
  exact ⟨rfl, HB6.out⟩
end Go.Proofs.YtbknkahakmfhkaaDoor
