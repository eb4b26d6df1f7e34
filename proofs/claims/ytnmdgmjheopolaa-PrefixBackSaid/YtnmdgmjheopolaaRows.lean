/-
  No cell of these rows narrows 'for every input' (looked for: loops, veiled, ifaces, maps, wideKeys, modest, calm, conditions, laid).
  DERIVED. THE GIVEN ROWS OF THIS SEAT. 10 by the template 'for every input the law returns true; each argument reads behind the call as it read before'; 0 by the template 'total and deterministic' (their statements: YtnmdgmjheopolaaTotals.lean).
  GIVEN WITH THE SEED: the statements are not yours to turn. If you find one false, say at which input.
  Laid BY PROGRAM, IN A SANDBOX (cutbox-rows.mjs): the forced cells as the released guide's own fill.sh prints them over the translation 9ffc65412f27d4b6… (all of the seat's roots in one cut). By AI agents, Wed Nov 11 2026. No macro, syntax, notation, axiom, sorry.
-/
import Derived.Test.YtnmdgmjheopolaaChecked
import GoSem.Claim
import GoSem.ClaimJoined
import GoSem.ClaimMapViews
import Derived.JoinedTies
import Derived.KernelRfl
namespace Go.Proofs.Ytnmdgmjheopolaa
/- THE CELL 'sum', in the pinned program and in every row, IS THE sha256 OF THE DUMP (.gsa) THAT YtnmdgmjheopolaaProg.lean LOADS. Nothing in Lean hashes anything: it is a label: what it is worth is what the hold of that sum in a sandbox is worth. -/
noncomputable def Try.pinned : Pinned := { name := "ytnmdgmjheopolaa", sum := "9ffc65412f27d4b6bd0a8a36784f9d8b6920c49514e28f2fb4fdfb6b7a6d540f", checked := Try.checked }
namespace Rows
def none {H : Type} : Left H := { results := [], args := [] }

/-- 'packsaddlelaw24.BhsdCodings': WHATEVER THE INPUT: true; the input reads as it did. -/
def bhsdCodingsSpec : ChangeSpec := { name := "bhsdCodings", fn := fun _ => fun
  | [d1, d2] => { results := [.lit (.bool true)], args := [d1, d2] }
  | _ => none }
def bhsdCodingsRow : OpenClaim := { program := "ytnmdgmjheopolaa", sum := "9ffc65412f27d4b6bd0a8a36784f9d8b6920c49514e28f2fb4fdfb6b7a6d540f", func := "packsaddle/packsaddlelaw24.BhsdCodings", spec := "bhsdCodings", apart := false }
def BhsdCodingsSaid : Prop := bhsdCodingsRow.holds Try.pinned (OpenSpec.ofChange bhsdCodingsSpec)

/-- ITS FALSE NEIGHBOUR: 'it returns false'. Refute it at one input. -/
def bhsdCodingsWrong : ChangeSpec := { name := "bhsdCodings", fn := fun _ => fun
  | [d1, d2] => { results := [.lit (.bool false)], args := [d1, d2] }
  | _ => none }
def BhsdCodingsWrongFalsely : Prop := bhsdCodingsRow.holds Try.pinned (OpenSpec.ofChange bhsdCodingsWrong)

/-- 'packsaddlelaw05.PrefixWords': WHATEVER THE INPUT: true; the input reads as it did. -/
def prefixWordsSpec : ChangeSpec := { name := "prefixWords", fn := fun _ => fun
  | [d] => { results := [.lit (.bool true)], args := [d] }
  | _ => none }
def prefixWordsRow : OpenClaim := { program := "ytnmdgmjheopolaa", sum := "9ffc65412f27d4b6bd0a8a36784f9d8b6920c49514e28f2fb4fdfb6b7a6d540f", func := "packsaddle/packsaddlelaw05.PrefixWords", spec := "prefixWords", recurses := true, apart := false }
def PrefixWordsSaid : Prop := prefixWordsRow.holds Try.pinned (OpenSpec.ofChange prefixWordsSpec)

/-- ITS FALSE NEIGHBOUR: 'it returns false'. Refute it at one input. -/
def prefixWordsWrong : ChangeSpec := { name := "prefixWords", fn := fun _ => fun
  | [d] => { results := [.lit (.bool false)], args := [d] }
  | _ => none }
def PrefixWordsWrongFalsely : Prop := prefixWordsRow.holds Try.pinned (OpenSpec.ofChange prefixWordsWrong)

/-- 'packsaddlelaw05.PrefixReads': WHATEVER THE INPUT: true; the input reads as it did. -/
def prefixReadsSpec : ChangeSpec := { name := "prefixReads", fn := fun _ => fun
  | [d1, d2] => { results := [.lit (.bool true)], args := [d1, d2] }
  | _ => none }
def prefixReadsRow : OpenClaim := { program := "ytnmdgmjheopolaa", sum := "9ffc65412f27d4b6bd0a8a36784f9d8b6920c49514e28f2fb4fdfb6b7a6d540f", func := "packsaddle/packsaddlelaw05.PrefixReads", spec := "prefixReads", recurses := true, apart := false }
def PrefixReadsSaid : Prop := prefixReadsRow.holds Try.pinned (OpenSpec.ofChange prefixReadsSpec)

/-- ITS FALSE NEIGHBOUR: 'it returns false'. Refute it at one input. -/
def prefixReadsWrong : ChangeSpec := { name := "prefixReads", fn := fun _ => fun
  | [d1, d2] => { results := [.lit (.bool false)], args := [d1, d2] }
  | _ => none }
def PrefixReadsWrongFalsely : Prop := prefixReadsRow.holds Try.pinned (OpenSpec.ofChange prefixReadsWrong)

/-- 'packsaddlelaw05.PrefixBack': WHATEVER THE INPUT: true; the input reads as it did. -/
def prefixBackSpec : ChangeSpec := { name := "prefixBack", fn := fun _ => fun
  | [d1, d2] => { results := [.lit (.bool true)], args := [d1, d2] }
  | _ => none }
def prefixBackRow : OpenClaim := { program := "ytnmdgmjheopolaa", sum := "9ffc65412f27d4b6bd0a8a36784f9d8b6920c49514e28f2fb4fdfb6b7a6d540f", func := "packsaddle/packsaddlelaw05.PrefixBack", spec := "prefixBack", recurses := true, apart := false }
def PrefixBackSaid : Prop := prefixBackRow.holds Try.pinned (OpenSpec.ofChange prefixBackSpec)

/-- ITS FALSE NEIGHBOUR: 'it returns false'. Refute it at one input. -/
def prefixBackWrong : ChangeSpec := { name := "prefixBack", fn := fun _ => fun
  | [d1, d2] => { results := [.lit (.bool false)], args := [d1, d2] }
  | _ => none }
def PrefixBackWrongFalsely : Prop := prefixBackRow.holds Try.pinned (OpenSpec.ofChange prefixBackWrong)

/-- 'packsaddlelaw33.SegmentWrites': WHATEVER THE INPUT: true; the input reads as it did. -/
def segmentWritesSpec : ChangeSpec := { name := "segmentWrites", fn := fun _ => fun
  | [d] => { results := [.lit (.bool true)], args := [d] }
  | _ => none }
def segmentWritesRow : OpenClaim := { program := "ytnmdgmjheopolaa", sum := "9ffc65412f27d4b6bd0a8a36784f9d8b6920c49514e28f2fb4fdfb6b7a6d540f", func := "packsaddle/packsaddlelaw33.SegmentWrites", spec := "segmentWrites", apart := false }
def SegmentWritesSaid : Prop := segmentWritesRow.holds Try.pinned (OpenSpec.ofChange segmentWritesSpec)

/-- ITS FALSE NEIGHBOUR: 'it returns false'. Refute it at one input. -/
def segmentWritesWrong : ChangeSpec := { name := "segmentWrites", fn := fun _ => fun
  | [d] => { results := [.lit (.bool false)], args := [d] }
  | _ => none }
def SegmentWritesWrongFalsely : Prop := segmentWritesRow.holds Try.pinned (OpenSpec.ofChange segmentWritesWrong)

/-- 'packsaddlelaw33.SegmentReads': WHATEVER THE INPUT: true; the input reads as it did. -/
def segmentReadsSpec : ChangeSpec := { name := "segmentReads", fn := fun _ => fun
  | [d1, d2, d3] => { results := [.lit (.bool true)], args := [d1, d2, d3] }
  | _ => none }
def segmentReadsRow : OpenClaim := { program := "ytnmdgmjheopolaa", sum := "9ffc65412f27d4b6bd0a8a36784f9d8b6920c49514e28f2fb4fdfb6b7a6d540f", func := "packsaddle/packsaddlelaw33.SegmentReads", spec := "segmentReads", apart := false }
def SegmentReadsSaid : Prop := segmentReadsRow.holds Try.pinned (OpenSpec.ofChange segmentReadsSpec)

/-- ITS FALSE NEIGHBOUR: 'it returns false'. Refute it at one input. -/
def segmentReadsWrong : ChangeSpec := { name := "segmentReads", fn := fun _ => fun
  | [d1, d2, d3] => { results := [.lit (.bool false)], args := [d1, d2, d3] }
  | _ => none }
def SegmentReadsWrongFalsely : Prop := segmentReadsRow.holds Try.pinned (OpenSpec.ofChange segmentReadsWrong)

/-- 'packsaddlelaw24.BhsdReads': WHATEVER THE INPUT: true; the input reads as it did. -/
def bhsdReadsSpec : ChangeSpec := { name := "bhsdReads", fn := fun _ => fun
  | [d1, d2, d3] => { results := [.lit (.bool true)], args := [d1, d2, d3] }
  | _ => none }
def bhsdReadsRow : OpenClaim := { program := "ytnmdgmjheopolaa", sum := "9ffc65412f27d4b6bd0a8a36784f9d8b6920c49514e28f2fb4fdfb6b7a6d540f", func := "packsaddle/packsaddlelaw24.BhsdReads", spec := "bhsdReads", apart := false }
def BhsdReadsSaid : Prop := bhsdReadsRow.holds Try.pinned (OpenSpec.ofChange bhsdReadsSpec)

/-- ITS FALSE NEIGHBOUR: 'it returns false'. Refute it at one input. -/
def bhsdReadsWrong : ChangeSpec := { name := "bhsdReads", fn := fun _ => fun
  | [d1, d2, d3] => { results := [.lit (.bool false)], args := [d1, d2, d3] }
  | _ => none }
def BhsdReadsWrongFalsely : Prop := bhsdReadsRow.holds Try.pinned (OpenSpec.ofChange bhsdReadsWrong)

/-- 'packsaddlelaw33.SegmentBursts': WHATEVER THE INPUT: true; the input reads as it did. -/
def segmentBurstsSpec : ChangeSpec := { name := "segmentBursts", fn := fun _ => fun
  | [d1, d2, d3] => { results := [.lit (.bool true)], args := [d1, d2, d3] }
  | _ => none }
def segmentBurstsRow : OpenClaim := { program := "ytnmdgmjheopolaa", sum := "9ffc65412f27d4b6bd0a8a36784f9d8b6920c49514e28f2fb4fdfb6b7a6d540f", func := "packsaddle/packsaddlelaw33.SegmentBursts", spec := "segmentBursts", apart := false }
def SegmentBurstsSaid : Prop := segmentBurstsRow.holds Try.pinned (OpenSpec.ofChange segmentBurstsSpec)

/-- ITS FALSE NEIGHBOUR: 'it returns false'. Refute it at one input. -/
def segmentBurstsWrong : ChangeSpec := { name := "segmentBursts", fn := fun _ => fun
  | [d1, d2, d3] => { results := [.lit (.bool false)], args := [d1, d2, d3] }
  | _ => none }
def SegmentBurstsWrongFalsely : Prop := segmentBurstsRow.holds Try.pinned (OpenSpec.ofChange segmentBurstsWrong)

/-- 'packsaddlelaw24.BhsdRows': WHATEVER THE INPUT: true; the input reads as it did. -/
def bhsdRowsSpec : ChangeSpec := { name := "bhsdRows", fn := fun _ => fun
  | [d1, d2] => { results := [.lit (.bool true)], args := [d1, d2] }
  | _ => none }
def bhsdRowsRow : OpenClaim := { program := "ytnmdgmjheopolaa", sum := "9ffc65412f27d4b6bd0a8a36784f9d8b6920c49514e28f2fb4fdfb6b7a6d540f", func := "packsaddle/packsaddlelaw24.BhsdRows", spec := "bhsdRows", apart := false }
def BhsdRowsSaid : Prop := bhsdRowsRow.holds Try.pinned (OpenSpec.ofChange bhsdRowsSpec)

/-- ITS FALSE NEIGHBOUR: 'it returns false'. Refute it at one input. -/
def bhsdRowsWrong : ChangeSpec := { name := "bhsdRows", fn := fun _ => fun
  | [d1, d2] => { results := [.lit (.bool false)], args := [d1, d2] }
  | _ => none }
def BhsdRowsWrongFalsely : Prop := bhsdRowsRow.holds Try.pinned (OpenSpec.ofChange bhsdRowsWrong)

/-- 'packsaddlelaw24.BhsdFull': WHATEVER THE INPUT: true; the input reads as it did. -/
def bhsdFullSpec : ChangeSpec := { name := "bhsdFull", fn := fun _ => fun
  | [d1, d2, d3] => { results := [.lit (.bool true)], args := [d1, d2, d3] }
  | _ => none }
def bhsdFullRow : OpenClaim := { program := "ytnmdgmjheopolaa", sum := "9ffc65412f27d4b6bd0a8a36784f9d8b6920c49514e28f2fb4fdfb6b7a6d540f", func := "packsaddle/packsaddlelaw24.BhsdFull", spec := "bhsdFull", apart := false }
def BhsdFullSaid : Prop := bhsdFullRow.holds Try.pinned (OpenSpec.ofChange bhsdFullSpec)

/-- ITS FALSE NEIGHBOUR: 'it returns false'. Refute it at one input. -/
def bhsdFullWrong : ChangeSpec := { name := "bhsdFull", fn := fun _ => fun
  | [d1, d2, d3] => { results := [.lit (.bool false)], args := [d1, d2, d3] }
  | _ => none }
def BhsdFullWrongFalsely : Prop := bhsdFullRow.holds Try.pinned (OpenSpec.ofChange bhsdFullWrong)

/- THE SECOND FORM. 'bulk': how many values and letters a reading holds, each counted each time it is reached (what is shared counts as often as it is met; a slice's spare places count too). A statement '..UptoSaid' is the law's where the arguments, and the package variables that the reading takes, are together of bulk at most 1048576: NARROWER than '..Said'. Prove '..Said' where nothing that the law and all that it calls make is longer than what came in: it says more and counts as full. Else prove '..UptoSaid'. A law counts once. -/
mutual
def uptoBulk {H : Type} : DataW H → Nat
  | .lit (.string bytes) => bytes.length + 1
  | .lit _ => 1
  | .nil => 1
  | .ptr d => uptoBulk d + 1
  | .slice elems spare => uptoBulkAll elems + uptoBulkAll spare + 1
  | .agg parts => uptoBulkAll parts + 1
  | .iface _ d => uptoBulk d + 1
  | .map entries => uptoBulkEntries entries + 1
  | .held _ => 1
def uptoBulkAll {H : Type} : List (DataW H) → Nat
  | [] => 0
  | d :: r => uptoBulk d + uptoBulkAll r
def uptoBulkEntries {H : Type} : List (Lit × DataW H) → Nat
  | [] => 0
  | x :: r => uptoBulkEntry x + uptoBulkEntries r
def uptoBulkEntry {H : Type} : Lit × DataW H → Nat
  | (.string bytes, d) => bytes.length + uptoBulk d + 1
  | (_, d) => uptoBulk d + 1
 end
def uptoSmall : (H : Type) → List (DataW H) → Bool := fun _ ds => decide (uptoBulkAll ds ≤ 1048576)
def OpenSpec.upto (s : _root_.Go.ChangeSpec) : _root_.Go.OpenSpec := { _root_.Go.OpenSpec.ofChange s with cond := some uptoSmall }

/-- 'packsaddlelaw24.BhsdCodings', WHERE WHAT IT READS IS OF BULK AT MOST 1048576: true; the input reads as it did. -/
def bhsdCodingsUptoRow : OpenClaim := { program := "ytnmdgmjheopolaa", sum := "9ffc65412f27d4b6bd0a8a36784f9d8b6920c49514e28f2fb4fdfb6b7a6d540f", func := "packsaddle/packsaddlelaw24.BhsdCodings", spec := "bhsdCodings", apart := false, narrowed := true }
def BhsdCodingsUptoSaid : Prop := bhsdCodingsUptoRow.holds Try.pinned (OpenSpec.upto bhsdCodingsSpec)

/-- 'packsaddlelaw05.PrefixWords', WHERE WHAT IT READS IS OF BULK AT MOST 1048576: true; the input reads as it did. -/
def prefixWordsUptoRow : OpenClaim := { program := "ytnmdgmjheopolaa", sum := "9ffc65412f27d4b6bd0a8a36784f9d8b6920c49514e28f2fb4fdfb6b7a6d540f", func := "packsaddle/packsaddlelaw05.PrefixWords", spec := "prefixWords", recurses := true, apart := false, narrowed := true }
def PrefixWordsUptoSaid : Prop := prefixWordsUptoRow.holds Try.pinned (OpenSpec.upto prefixWordsSpec)

/-- 'packsaddlelaw05.PrefixReads', WHERE WHAT IT READS IS OF BULK AT MOST 1048576: true; the input reads as it did. -/
def prefixReadsUptoRow : OpenClaim := { program := "ytnmdgmjheopolaa", sum := "9ffc65412f27d4b6bd0a8a36784f9d8b6920c49514e28f2fb4fdfb6b7a6d540f", func := "packsaddle/packsaddlelaw05.PrefixReads", spec := "prefixReads", recurses := true, apart := false, narrowed := true }
def PrefixReadsUptoSaid : Prop := prefixReadsUptoRow.holds Try.pinned (OpenSpec.upto prefixReadsSpec)

/-- 'packsaddlelaw05.PrefixBack', WHERE WHAT IT READS IS OF BULK AT MOST 1048576: true; the input reads as it did. -/
def prefixBackUptoRow : OpenClaim := { program := "ytnmdgmjheopolaa", sum := "9ffc65412f27d4b6bd0a8a36784f9d8b6920c49514e28f2fb4fdfb6b7a6d540f", func := "packsaddle/packsaddlelaw05.PrefixBack", spec := "prefixBack", recurses := true, apart := false, narrowed := true }
def PrefixBackUptoSaid : Prop := prefixBackUptoRow.holds Try.pinned (OpenSpec.upto prefixBackSpec)

/-- 'packsaddlelaw33.SegmentWrites', WHERE WHAT IT READS IS OF BULK AT MOST 1048576: true; the input reads as it did. -/
def segmentWritesUptoRow : OpenClaim := { program := "ytnmdgmjheopolaa", sum := "9ffc65412f27d4b6bd0a8a36784f9d8b6920c49514e28f2fb4fdfb6b7a6d540f", func := "packsaddle/packsaddlelaw33.SegmentWrites", spec := "segmentWrites", apart := false, narrowed := true }
def SegmentWritesUptoSaid : Prop := segmentWritesUptoRow.holds Try.pinned (OpenSpec.upto segmentWritesSpec)

/-- 'packsaddlelaw33.SegmentReads', WHERE WHAT IT READS IS OF BULK AT MOST 1048576: true; the input reads as it did. -/
def segmentReadsUptoRow : OpenClaim := { program := "ytnmdgmjheopolaa", sum := "9ffc65412f27d4b6bd0a8a36784f9d8b6920c49514e28f2fb4fdfb6b7a6d540f", func := "packsaddle/packsaddlelaw33.SegmentReads", spec := "segmentReads", apart := false, narrowed := true }
def SegmentReadsUptoSaid : Prop := segmentReadsUptoRow.holds Try.pinned (OpenSpec.upto segmentReadsSpec)

/-- 'packsaddlelaw24.BhsdReads', WHERE WHAT IT READS IS OF BULK AT MOST 1048576: true; the input reads as it did. -/
def bhsdReadsUptoRow : OpenClaim := { program := "ytnmdgmjheopolaa", sum := "9ffc65412f27d4b6bd0a8a36784f9d8b6920c49514e28f2fb4fdfb6b7a6d540f", func := "packsaddle/packsaddlelaw24.BhsdReads", spec := "bhsdReads", apart := false, narrowed := true }
def BhsdReadsUptoSaid : Prop := bhsdReadsUptoRow.holds Try.pinned (OpenSpec.upto bhsdReadsSpec)

/-- 'packsaddlelaw33.SegmentBursts', WHERE WHAT IT READS IS OF BULK AT MOST 1048576: true; the input reads as it did. -/
def segmentBurstsUptoRow : OpenClaim := { program := "ytnmdgmjheopolaa", sum := "9ffc65412f27d4b6bd0a8a36784f9d8b6920c49514e28f2fb4fdfb6b7a6d540f", func := "packsaddle/packsaddlelaw33.SegmentBursts", spec := "segmentBursts", apart := false, narrowed := true }
def SegmentBurstsUptoSaid : Prop := segmentBurstsUptoRow.holds Try.pinned (OpenSpec.upto segmentBurstsSpec)

/-- 'packsaddlelaw24.BhsdRows', WHERE WHAT IT READS IS OF BULK AT MOST 1048576: true; the input reads as it did. -/
def bhsdRowsUptoRow : OpenClaim := { program := "ytnmdgmjheopolaa", sum := "9ffc65412f27d4b6bd0a8a36784f9d8b6920c49514e28f2fb4fdfb6b7a6d540f", func := "packsaddle/packsaddlelaw24.BhsdRows", spec := "bhsdRows", apart := false, narrowed := true }
def BhsdRowsUptoSaid : Prop := bhsdRowsUptoRow.holds Try.pinned (OpenSpec.upto bhsdRowsSpec)

/-- 'packsaddlelaw24.BhsdFull', WHERE WHAT IT READS IS OF BULK AT MOST 1048576: true; the input reads as it did. -/
def bhsdFullUptoRow : OpenClaim := { program := "ytnmdgmjheopolaa", sum := "9ffc65412f27d4b6bd0a8a36784f9d8b6920c49514e28f2fb4fdfb6b7a6d540f", func := "packsaddle/packsaddlelaw24.BhsdFull", spec := "bhsdFull", apart := false, narrowed := true }
def BhsdFullUptoSaid : Prop := bhsdFullUptoRow.holds Try.pinned (OpenSpec.upto bhsdFullSpec)

end Rows
end Go.Proofs.Ytnmdgmjheopolaa
