/- What the two listed tables give a walk. -/
import Derived.Test.YtbknkahakmfhkaaDoorUtfV
import Derived.Test.YtbknkahakmfhkaaDoorOpen
import Derived.Test.YtbknkahakmfhkaaDoorStr
import Derived.Lib.LaidU8T
import Derived.LaidMore
import Derived.Lay
import Derived.MakeChecks
import Derived.Stop.Joined
namespace Go.Proofs.YtbknkahakmfhkaaDoor
open Go.ChangeShapes Go.WideShapes Go.ChangeAt Go.RowKit
set_option linter.unusedVariables false
set_option linter.unusedSimpArgs false

abbrev laidRow : List (String × DataW Unit) := [("unicode/utf8.acceptRanges", Rows.laid_unicode_utf8_acceptRanges), ("unicode/utf8.first", Rows.laid_unicode_utf8_first)]
theorem laid_first : Rows.laid_unicode_utf8_first = Lib.firstData := by kernel_rfl
theorem laid_accept : (Rows.laid_unicode_utf8_acceptRanges : DataW Unit) = Lib.acceptData := by kernel_rfl
theorem tabs_of {W : World} (h : laidMetH Tryd.prog laidRow W) : Tabs W := by
  rw [MakeChecks.laidMetH_plain _ _ _ (by kernel_rfl)] at h
  have h4 := Lib.laidMet.reads h (.head _)
  have h3 := Lib.laidMet.reads h (.tail _ (.head _))
  rw [laid_first] at h3
  rw [laid_accept] at h4
  exact utf8Tabs_of_readsT (U8Types.of196 laysV) ⟨by kernel_rfl, by kernel_rfl, by kernel_rfl, by kernel_rfl, by kernel_rfl, by kernel_rfl, by kernel_rfl⟩ h3 h4
theorem laid_world (os : Os) (args : Array Value) : laidMetH Tryd.prog laidRow ((World.laidAll Tryd.prog os laidRow).forCall (fun _ _ => 0) ⟨#[], args, []⟩).memory := by
  rw [MakeChecks.laidMetH_plain _ _ _ (by kernel_rfl)]; exact laidMet_laidAll _ (by kernel_rfl) (by kernel_rfl)
theorem hid_str (s : ByteArray) : Hid (s = Go.Proofs.YtbknkahakmfhkaaDoor.strOf s.data.toList) := Lib.hid rfl
end Go.Proofs.YtbknkahakmfhkaaDoor
