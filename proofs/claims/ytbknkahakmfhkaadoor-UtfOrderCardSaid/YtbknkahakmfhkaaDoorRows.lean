/-
  NARROWER THAN 'FOR EVERY INPUT', by the rows' own cells (each row's printed sentence says how): UtfTells: laid · UtfUnits: laid · UtfOrder: laid.
  DERIVED. THE GIVEN ROWS OF THIS SEAT. 3 by the template 'for every input the law returns true; each argument reads behind the call as it read before'; 0 by the template 'total and deterministic' (their statements: YtbknkahakmfhkaaDoorTotals.lean).
  GIVEN WITH THE SEED: the statements are not yours to turn. If you find one false, say at which input.
  Laid BY PROGRAM, IN A SANDBOX (cutbox-rows.mjs): the forced cells as the released guide's own fill.sh prints them over the translation 1f25f2678d4a837e… (all of the seat's roots in one cut). By AI agents, Wed Nov 11 2026. No macro, syntax, notation, axiom, sorry.
-/
import Derived.Test.YtbknkahakmfhkaaDoorChecked
import GoSem.PinnedTables
import GoSem.Claim
import GoSem.ClaimJoined
import GoSem.ClaimMapViews
import Derived.JoinedTies
import Derived.KernelRfl
namespace Go.Proofs.YtbknkahakmfhkaaDoor
/- THE CELL 'sum', in the pinned program and in every row, IS THE sha256 OF THE DUMP (.gsa) THAT YtbknkahakmfhkaaDoorProg.lean LOADS. Nothing in Lean hashes anything: it is a label: what it is worth is what the hold of that sum in a sandbox is worth. -/
noncomputable def Tryd.pinned : Pinned := { name := "ytbknkahakmfhkaadoor", sum := "1f25f2678d4a837edb7cd704d69377180c8c2f23eaec95278bc3892b873254dd", checked := Tryd.checked }
namespace Rows
def none {H : Type} : Left H := { results := [], args := [] }

/- WHAT THE LISTED PACKAGE-LEVEL VARIABLES READ AS WHEN THE CALL BEGINS. Each datum BY PROGRAM (the guide's laid-datum.mjs) off the statement by which the dump's own 'gosem.cut.vars' lays the variable. In a bare row this is a premise. The card (YtbknkahakmfhkaaDoorCards.lean) ties it to the program's text. -/
def laid_unicode_utf8_acceptRanges {H : Type} : DataW H := .agg [.agg [.lit (.int .u8 128), .lit (.int .u8 191)], .agg [.lit (.int .u8 160), .lit (.int .u8 191)], .agg [.lit (.int .u8 128), .lit (.int .u8 159)], .agg [.lit (.int .u8 144), .lit (.int .u8 191)], .agg [.lit (.int .u8 128), .lit (.int .u8 143)], .agg [.lit (.int .u8 0), .lit (.int .u8 0)], .agg [.lit (.int .u8 0), .lit (.int .u8 0)], .agg [.lit (.int .u8 0), .lit (.int .u8 0)], .agg [.lit (.int .u8 0), .lit (.int .u8 0)], .agg [.lit (.int .u8 0), .lit (.int .u8 0)], .agg [.lit (.int .u8 0), .lit (.int .u8 0)], .agg [.lit (.int .u8 0), .lit (.int .u8 0)], .agg [.lit (.int .u8 0), .lit (.int .u8 0)], .agg [.lit (.int .u8 0), .lit (.int .u8 0)], .agg [.lit (.int .u8 0), .lit (.int .u8 0)], .agg [.lit (.int .u8 0), .lit (.int .u8 0)]]
/-- One of Go's own tables, pinned by name: the form's constant. -/
def laid_unicode_utf8_first : DataW Unit := Go.Pinned.utf8First

/-- 'packsaddlelaw15.UtfTells': WHATEVER THE INPUT: true; the input reads as it did. -/
def utfTellsSpec : ChangeSpec := { name := "utfTells", fn := fun _ => fun
  | [d] => { results := [.lit (.bool true)], args := [d] }
  | _ => none }
def utfTellsRow : OpenClaim := { program := "ytbknkahakmfhkaadoor", sum := "1f25f2678d4a837edb7cd704d69377180c8c2f23eaec95278bc3892b873254dd", func := "packsaddle/packsaddlelaw15.UtfTells", spec := "utfTells", unfollowed := true, recurses := true, named := ["unicode/utf8.first", "unicode/utf8.acceptRanges"], apart := false, laid := [("unicode/utf8.acceptRanges", laid_unicode_utf8_acceptRanges), ("unicode/utf8.first", laid_unicode_utf8_first)] }
def UtfTellsSaid : Prop := utfTellsRow.holds Tryd.pinned (OpenSpec.ofChange utfTellsSpec)

/-- ITS FALSE NEIGHBOUR: 'it returns false'. Refute it at one input. -/
def utfTellsWrong : ChangeSpec := { name := "utfTells", fn := fun _ => fun
  | [d] => { results := [.lit (.bool false)], args := [d] }
  | _ => none }
def UtfTellsWrongFalsely : Prop := utfTellsRow.holds Tryd.pinned (OpenSpec.ofChange utfTellsWrong)

/-- 'packsaddlelaw15.UtfUnits': WHATEVER THE INPUT: true; the input reads as it did. -/
def utfUnitsSpec : ChangeSpec := { name := "utfUnits", fn := fun _ => fun
  | [d] => { results := [.lit (.bool true)], args := [d] }
  | _ => none }
def utfUnitsRow : OpenClaim := { program := "ytbknkahakmfhkaadoor", sum := "1f25f2678d4a837edb7cd704d69377180c8c2f23eaec95278bc3892b873254dd", func := "packsaddle/packsaddlelaw15.UtfUnits", spec := "utfUnits", unfollowed := true, recurses := true, named := ["unicode/utf8.first", "unicode/utf8.acceptRanges"], apart := false, laid := [("unicode/utf8.acceptRanges", laid_unicode_utf8_acceptRanges), ("unicode/utf8.first", laid_unicode_utf8_first)] }
def UtfUnitsSaid : Prop := utfUnitsRow.holds Tryd.pinned (OpenSpec.ofChange utfUnitsSpec)

/-- ITS FALSE NEIGHBOUR: 'it returns false'. Refute it at one input. -/
def utfUnitsWrong : ChangeSpec := { name := "utfUnits", fn := fun _ => fun
  | [d] => { results := [.lit (.bool false)], args := [d] }
  | _ => none }
def UtfUnitsWrongFalsely : Prop := utfUnitsRow.holds Tryd.pinned (OpenSpec.ofChange utfUnitsWrong)

/-- 'packsaddlelaw15.UtfOrder': WHATEVER THE INPUT: true; the input reads as it did. -/
def utfOrderSpec : ChangeSpec := { name := "utfOrder", fn := fun _ => fun
  | [d1, d2, d3] => { results := [.lit (.bool true)], args := [d1, d2, d3] }
  | _ => none }
def utfOrderRow : OpenClaim := { program := "ytbknkahakmfhkaadoor", sum := "1f25f2678d4a837edb7cd704d69377180c8c2f23eaec95278bc3892b873254dd", func := "packsaddle/packsaddlelaw15.UtfOrder", spec := "utfOrder", unfollowed := true, recurses := true, named := ["unicode/utf8.first", "unicode/utf8.acceptRanges"], apart := false, laid := [("unicode/utf8.acceptRanges", laid_unicode_utf8_acceptRanges), ("unicode/utf8.first", laid_unicode_utf8_first)] }
def UtfOrderSaid : Prop := utfOrderRow.holds Tryd.pinned (OpenSpec.ofChange utfOrderSpec)

/-- ITS FALSE NEIGHBOUR: 'it returns false'. Refute it at one input. -/
def utfOrderWrong : ChangeSpec := { name := "utfOrder", fn := fun _ => fun
  | [d1, d2, d3] => { results := [.lit (.bool false)], args := [d1, d2, d3] }
  | _ => none }
def UtfOrderWrongFalsely : Prop := utfOrderRow.holds Tryd.pinned (OpenSpec.ofChange utfOrderWrong)

/- THE SECOND FORM. 'bulk': how many values and letters a reading holds, each counted each time it is reached (what is shared counts as often as it is met; a slice's spare places count too). A statement '..UptoSaid' is the law's where the arguments, and the package variables that the reading takes, are together of bulk at most 1048576: NARROWER than '..Said'. Prove '..Said' where nothing that the law and all that it calls make is longer than what came in: it says more and counts as full. Else prove '..UptoSaid'. A law counts once. -/
mutual
def uptoBulk {H : Type} : DataW H → Nat
  | .lit (.string bytes) => bytes.length + 1
  | .lit _ => 1
  | .nil => 1
  | .ptr d => uptoBulk d + 1
  | .slice elems spare => uptoBulkAll elems + uptoBulkAll spare + 1
  | .agg parts => uptoBulkAll parts + 1
  | .iface _ d => uptoBulk d + 1
  | .map entries => uptoBulkEntries entries + 1
  | .held _ => 1
def uptoBulkAll {H : Type} : List (DataW H) → Nat
  | [] => 0
  | d :: r => uptoBulk d + uptoBulkAll r
def uptoBulkEntries {H : Type} : List (Lit × DataW H) → Nat
  | [] => 0
  | x :: r => uptoBulkEntry x + uptoBulkEntries r
def uptoBulkEntry {H : Type} : Lit × DataW H → Nat
  | (.string bytes, d) => bytes.length + uptoBulk d + 1
  | (_, d) => uptoBulk d + 1
 end
def uptoSmall : (H : Type) → List (DataW H) → Bool := fun _ ds => decide (uptoBulkAll ds ≤ 1048576)
def OpenSpec.upto (s : _root_.Go.ChangeSpec) : _root_.Go.OpenSpec := { _root_.Go.OpenSpec.ofChange s with cond := some uptoSmall }

/-- 'packsaddlelaw15.UtfTells', WHERE WHAT IT READS IS OF BULK AT MOST 1048576: true; the input reads as it did. -/
def utfTellsUptoRow : OpenClaim := { program := "ytbknkahakmfhkaadoor", sum := "1f25f2678d4a837edb7cd704d69377180c8c2f23eaec95278bc3892b873254dd", func := "packsaddle/packsaddlelaw15.UtfTells", spec := "utfTells", unfollowed := true, recurses := true, named := ["unicode/utf8.first", "unicode/utf8.acceptRanges"], apart := false, laid := [("unicode/utf8.acceptRanges", laid_unicode_utf8_acceptRanges), ("unicode/utf8.first", laid_unicode_utf8_first)], narrowed := true }
def UtfTellsUptoSaid : Prop := utfTellsUptoRow.holds Tryd.pinned (OpenSpec.upto utfTellsSpec)

/-- 'packsaddlelaw15.UtfUnits', WHERE WHAT IT READS IS OF BULK AT MOST 1048576: true; the input reads as it did. -/
def utfUnitsUptoRow : OpenClaim := { program := "ytbknkahakmfhkaadoor", sum := "1f25f2678d4a837edb7cd704d69377180c8c2f23eaec95278bc3892b873254dd", func := "packsaddle/packsaddlelaw15.UtfUnits", spec := "utfUnits", unfollowed := true, recurses := true, named := ["unicode/utf8.first", "unicode/utf8.acceptRanges"], apart := false, laid := [("unicode/utf8.acceptRanges", laid_unicode_utf8_acceptRanges), ("unicode/utf8.first", laid_unicode_utf8_first)], narrowed := true }
def UtfUnitsUptoSaid : Prop := utfUnitsUptoRow.holds Tryd.pinned (OpenSpec.upto utfUnitsSpec)

/-- 'packsaddlelaw15.UtfOrder', WHERE WHAT IT READS IS OF BULK AT MOST 1048576: true; the input reads as it did. -/
def utfOrderUptoRow : OpenClaim := { program := "ytbknkahakmfhkaadoor", sum := "1f25f2678d4a837edb7cd704d69377180c8c2f23eaec95278bc3892b873254dd", func := "packsaddle/packsaddlelaw15.UtfOrder", spec := "utfOrder", unfollowed := true, recurses := true, named := ["unicode/utf8.first", "unicode/utf8.acceptRanges"], apart := false, laid := [("unicode/utf8.acceptRanges", laid_unicode_utf8_acceptRanges), ("unicode/utf8.first", laid_unicode_utf8_first)], narrowed := true }
def UtfOrderUptoSaid : Prop := utfOrderUptoRow.holds Tryd.pinned (OpenSpec.upto utfOrderSpec)

end Rows
end Go.Proofs.YtbknkahakmfhkaaDoor
