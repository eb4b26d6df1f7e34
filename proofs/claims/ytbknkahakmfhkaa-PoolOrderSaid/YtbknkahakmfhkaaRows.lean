/-
  No cell of these rows narrows 'for every input' (looked for: loops, veiled, ifaces, maps, wideKeys, modest, calm, conditions, laid).
  DERIVED. THE GIVEN ROWS OF THIS SEAT. 9 by the template 'for every input the law returns true; each argument reads behind the call as it read before'; 0 by the template 'total and deterministic' (their statements: YtbknkahakmfhkaaTotals.lean).
  GIVEN WITH THE SEED: the statements are not yours to turn. If you find one false, say at which input.
  Laid BY PROGRAM, IN A SANDBOX (cutbox-rows.mjs): the forced cells as the released guide's own fill.sh prints them over the translation a6c4ab2abbd75fb3… (all of the seat's roots in one cut). By AI agents, Wed Nov 11 2026. No macro, syntax, notation, axiom, sorry.
-/
import Derived.Test.YtbknkahakmfhkaaChecked
import GoSem.Claim
import GoSem.ClaimJoined
import GoSem.ClaimMapViews
import Derived.JoinedTies
import Derived.KernelRfl
namespace Go.Proofs.Ytbknkahakmfhkaa
/- THE CELL 'sum', in the pinned program and in every row, IS THE sha256 OF THE DUMP (.gsa) THAT YtbknkahakmfhkaaProg.lean LOADS. Nothing in Lean hashes anything: it is a label: what it is worth is what the hold of that sum in a sandbox is worth. -/
noncomputable def Try.pinned : Pinned := { name := "ytbknkahakmfhkaa", sum := "a6c4ab2abbd75fb39c15fa7e564ecb4ac7a14163ade0ee18a3de2f6fa3b6da9e", checked := Try.checked }
namespace Rows
def none {H : Type} : Left H := { results := [], args := [] }

/-- 'packsaddlelaw12.RecordWrites': WHATEVER THE INPUT: true; the input reads as it did. -/
def recordWritesSpec : ChangeSpec := { name := "recordWrites", fn := fun _ => fun
  | [d1, d2, d3, d4, d5] => { results := [.lit (.bool true)], args := [d1, d2, d3, d4, d5] }
  | _ => none }
def recordWritesRow : OpenClaim := { program := "ytbknkahakmfhkaa", sum := "a6c4ab2abbd75fb39c15fa7e564ecb4ac7a14163ade0ee18a3de2f6fa3b6da9e", func := "packsaddle/packsaddlelaw12.RecordWrites", spec := "recordWrites", apart := false }
def RecordWritesSaid : Prop := recordWritesRow.holds Try.pinned (OpenSpec.ofChange recordWritesSpec)

/-- ITS FALSE NEIGHBOUR: 'it returns false'. Refute it at one input. -/
def recordWritesWrong : ChangeSpec := { name := "recordWrites", fn := fun _ => fun
  | [d1, d2, d3, d4, d5] => { results := [.lit (.bool false)], args := [d1, d2, d3, d4, d5] }
  | _ => none }
def RecordWritesWrongFalsely : Prop := recordWritesRow.holds Try.pinned (OpenSpec.ofChange recordWritesWrong)

/-- 'packsaddlelaw12.RecordBack': WHATEVER THE INPUT: true; the input reads as it did. -/
def recordBackSpec : ChangeSpec := { name := "recordBack", fn := fun _ => fun
  | [d1, d2, d3, d4, d5, d6, d7, d8] => { results := [.lit (.bool true)], args := [d1, d2, d3, d4, d5, d6, d7, d8] }
  | _ => none }
def recordBackRow : OpenClaim := { program := "ytbknkahakmfhkaa", sum := "a6c4ab2abbd75fb39c15fa7e564ecb4ac7a14163ade0ee18a3de2f6fa3b6da9e", func := "packsaddle/packsaddlelaw12.RecordBack", spec := "recordBack", apart := false }
def RecordBackSaid : Prop := recordBackRow.holds Try.pinned (OpenSpec.ofChange recordBackSpec)

/-- ITS FALSE NEIGHBOUR: 'it returns false'. Refute it at one input. -/
def recordBackWrong : ChangeSpec := { name := "recordBack", fn := fun _ => fun
  | [d1, d2, d3, d4, d5, d6, d7, d8] => { results := [.lit (.bool false)], args := [d1, d2, d3, d4, d5, d6, d7, d8] }
  | _ => none }
def RecordBackWrongFalsely : Prop := recordBackRow.holds Try.pinned (OpenSpec.ofChange recordBackWrong)

/-- 'packsaddlelaw12.RecordReads': WHATEVER THE INPUT: true; the input reads as it did. -/
def recordReadsSpec : ChangeSpec := { name := "recordReads", fn := fun _ => fun
  | [d1, d2] => { results := [.lit (.bool true)], args := [d1, d2] }
  | _ => none }
def recordReadsRow : OpenClaim := { program := "ytbknkahakmfhkaa", sum := "a6c4ab2abbd75fb39c15fa7e564ecb4ac7a14163ade0ee18a3de2f6fa3b6da9e", func := "packsaddle/packsaddlelaw12.RecordReads", spec := "recordReads", apart := false }
def RecordReadsSaid : Prop := recordReadsRow.holds Try.pinned (OpenSpec.ofChange recordReadsSpec)

/-- ITS FALSE NEIGHBOUR: 'it returns false'. Refute it at one input. -/
def recordReadsWrong : ChangeSpec := { name := "recordReads", fn := fun _ => fun
  | [d1, d2] => { results := [.lit (.bool false)], args := [d1, d2] }
  | _ => none }
def RecordReadsWrongFalsely : Prop := recordReadsRow.holds Try.pinned (OpenSpec.ofChange recordReadsWrong)

/-- 'packsaddlelaw04.LengthsKind': WHATEVER THE INPUT: true; the input reads as it did. -/
def lengthsKindSpec : ChangeSpec := { name := "lengthsKind", fn := fun _ => fun
  | [d] => { results := [.lit (.bool true)], args := [d] }
  | _ => none }
def lengthsKindRow : OpenClaim := { program := "ytbknkahakmfhkaa", sum := "a6c4ab2abbd75fb39c15fa7e564ecb4ac7a14163ade0ee18a3de2f6fa3b6da9e", func := "packsaddle/packsaddlelaw04.LengthsKind", spec := "lengthsKind", unfollowed := true, recurses := true, apart := false }
def LengthsKindSaid : Prop := lengthsKindRow.holds Try.pinned (OpenSpec.ofChange lengthsKindSpec)

/-- ITS FALSE NEIGHBOUR: 'it returns false'. Refute it at one input. -/
def lengthsKindWrong : ChangeSpec := { name := "lengthsKind", fn := fun _ => fun
  | [d] => { results := [.lit (.bool false)], args := [d] }
  | _ => none }
def LengthsKindWrongFalsely : Prop := lengthsKindRow.holds Try.pinned (OpenSpec.ofChange lengthsKindWrong)

/-- 'packsaddlelaw04.LengthsMay': WHATEVER THE INPUT: true; the input reads as it did. -/
def lengthsMaySpec : ChangeSpec := { name := "lengthsMay", fn := fun _ => fun
  | [d1, d2] => { results := [.lit (.bool true)], args := [d1, d2] }
  | _ => none }
def lengthsMayRow : OpenClaim := { program := "ytbknkahakmfhkaa", sum := "a6c4ab2abbd75fb39c15fa7e564ecb4ac7a14163ade0ee18a3de2f6fa3b6da9e", func := "packsaddle/packsaddlelaw04.LengthsMay", spec := "lengthsMay", unfollowed := true, recurses := true, apart := false }
def LengthsMaySaid : Prop := lengthsMayRow.holds Try.pinned (OpenSpec.ofChange lengthsMaySpec)

/-- ITS FALSE NEIGHBOUR: 'it returns false'. Refute it at one input. -/
def lengthsMayWrong : ChangeSpec := { name := "lengthsMay", fn := fun _ => fun
  | [d1, d2] => { results := [.lit (.bool false)], args := [d1, d2] }
  | _ => none }
def LengthsMayWrongFalsely : Prop := lengthsMayRow.holds Try.pinned (OpenSpec.ofChange lengthsMayWrong)

/-- 'packsaddlelaw04.LengthsLeast': WHATEVER THE INPUT: true; the input reads as it did. -/
def lengthsLeastSpec : ChangeSpec := { name := "lengthsLeast", fn := fun _ => fun
  | [d1, d2] => { results := [.lit (.bool true)], args := [d1, d2] }
  | _ => none }
def lengthsLeastRow : OpenClaim := { program := "ytbknkahakmfhkaa", sum := "a6c4ab2abbd75fb39c15fa7e564ecb4ac7a14163ade0ee18a3de2f6fa3b6da9e", func := "packsaddle/packsaddlelaw04.LengthsLeast", spec := "lengthsLeast", unfollowed := true, recurses := true, apart := false }
def LengthsLeastSaid : Prop := lengthsLeastRow.holds Try.pinned (OpenSpec.ofChange lengthsLeastSpec)

/-- ITS FALSE NEIGHBOUR: 'it returns false'. Refute it at one input. -/
def lengthsLeastWrong : ChangeSpec := { name := "lengthsLeast", fn := fun _ => fun
  | [d1, d2] => { results := [.lit (.bool false)], args := [d1, d2] }
  | _ => none }
def LengthsLeastWrongFalsely : Prop := lengthsLeastRow.holds Try.pinned (OpenSpec.ofChange lengthsLeastWrong)

/-- 'packsaddlelaw04.LengthsLooser': WHATEVER THE INPUT: true; the input reads as it did. -/
def lengthsLooserSpec : ChangeSpec := { name := "lengthsLooser", fn := fun _ => fun
  | [d1, d2] => { results := [.lit (.bool true)], args := [d1, d2] }
  | _ => none }
def lengthsLooserRow : OpenClaim := { program := "ytbknkahakmfhkaa", sum := "a6c4ab2abbd75fb39c15fa7e564ecb4ac7a14163ade0ee18a3de2f6fa3b6da9e", func := "packsaddle/packsaddlelaw04.LengthsLooser", spec := "lengthsLooser", unfollowed := true, recurses := true, apart := false }
def LengthsLooserSaid : Prop := lengthsLooserRow.holds Try.pinned (OpenSpec.ofChange lengthsLooserSpec)

/-- ITS FALSE NEIGHBOUR: 'it returns false'. Refute it at one input. -/
def lengthsLooserWrong : ChangeSpec := { name := "lengthsLooser", fn := fun _ => fun
  | [d1, d2] => { results := [.lit (.bool false)], args := [d1, d2] }
  | _ => none }
def LengthsLooserWrongFalsely : Prop := lengthsLooserRow.holds Try.pinned (OpenSpec.ofChange lengthsLooserWrong)

/-- 'packsaddlelaw16.PoolBack': WHATEVER THE INPUT: true; the input reads as it did. -/
def poolBackSpec : ChangeSpec := { name := "poolBack", fn := fun _ => fun
  | [d] => { results := [.lit (.bool true)], args := [d] }
  | _ => none }
def poolBackRow : OpenClaim := { program := "ytbknkahakmfhkaa", sum := "a6c4ab2abbd75fb39c15fa7e564ecb4ac7a14163ade0ee18a3de2f6fa3b6da9e", func := "packsaddle/packsaddlelaw16.PoolBack", spec := "poolBack", unfollowed := true, recurses := true, apart := false }
def PoolBackSaid : Prop := poolBackRow.holds Try.pinned (OpenSpec.ofChange poolBackSpec)

/-- ITS FALSE NEIGHBOUR: 'it returns false'. Refute it at one input. -/
def poolBackWrong : ChangeSpec := { name := "poolBack", fn := fun _ => fun
  | [d] => { results := [.lit (.bool false)], args := [d] }
  | _ => none }
def PoolBackWrongFalsely : Prop := poolBackRow.holds Try.pinned (OpenSpec.ofChange poolBackWrong)

/-- 'packsaddlelaw16.PoolOrder': WHATEVER THE INPUT: true; the input reads as it did. -/
def poolOrderSpec : ChangeSpec := { name := "poolOrder", fn := fun _ => fun
  | [d1, d2, d3] => { results := [.lit (.bool true)], args := [d1, d2, d3] }
  | _ => none }
def poolOrderRow : OpenClaim := { program := "ytbknkahakmfhkaa", sum := "a6c4ab2abbd75fb39c15fa7e564ecb4ac7a14163ade0ee18a3de2f6fa3b6da9e", func := "packsaddle/packsaddlelaw16.PoolOrder", spec := "poolOrder", unfollowed := true, recurses := true, apart := false }
def PoolOrderSaid : Prop := poolOrderRow.holds Try.pinned (OpenSpec.ofChange poolOrderSpec)

/-- ITS FALSE NEIGHBOUR: 'it returns false'. Refute it at one input. -/
def poolOrderWrong : ChangeSpec := { name := "poolOrder", fn := fun _ => fun
  | [d1, d2, d3] => { results := [.lit (.bool false)], args := [d1, d2, d3] }
  | _ => none }
def PoolOrderWrongFalsely : Prop := poolOrderRow.holds Try.pinned (OpenSpec.ofChange poolOrderWrong)

/- THE SECOND FORM. 'bulk': how many values and letters a reading holds, each counted each time it is reached (what is shared counts as often as it is met; a slice's spare places count too). A statement '..UptoSaid' is the law's where the arguments, and the package variables that the reading takes, are together of bulk at most 1048576: NARROWER than '..Said'. Prove '..Said' where nothing that the law and all that it calls make is longer than what came in: it says more and counts as full. Else prove '..UptoSaid'. A law counts once. -/
mutual
def uptoBulk {H : Type} : DataW H → Nat
  | .lit (.string bytes) => bytes.length + 1
  | .lit _ => 1
  | .nil => 1
  | .ptr d => uptoBulk d + 1
  | .slice elems spare => uptoBulkAll elems + uptoBulkAll spare + 1
  | .agg parts => uptoBulkAll parts + 1
  | .iface _ d => uptoBulk d + 1
  | .map entries => uptoBulkEntries entries + 1
  | .held _ => 1
def uptoBulkAll {H : Type} : List (DataW H) → Nat
  | [] => 0
  | d :: r => uptoBulk d + uptoBulkAll r
def uptoBulkEntries {H : Type} : List (Lit × DataW H) → Nat
  | [] => 0
  | x :: r => uptoBulkEntry x + uptoBulkEntries r
def uptoBulkEntry {H : Type} : Lit × DataW H → Nat
  | (.string bytes, d) => bytes.length + uptoBulk d + 1
  | (_, d) => uptoBulk d + 1
 end
def uptoSmall : (H : Type) → List (DataW H) → Bool := fun _ ds => decide (uptoBulkAll ds ≤ 1048576)
def OpenSpec.upto (s : _root_.Go.ChangeSpec) : _root_.Go.OpenSpec := { _root_.Go.OpenSpec.ofChange s with cond := some uptoSmall }

/-- 'packsaddlelaw12.RecordWrites', WHERE WHAT IT READS IS OF BULK AT MOST 1048576: true; the input reads as it did. -/
def recordWritesUptoRow : OpenClaim := { program := "ytbknkahakmfhkaa", sum := "a6c4ab2abbd75fb39c15fa7e564ecb4ac7a14163ade0ee18a3de2f6fa3b6da9e", func := "packsaddle/packsaddlelaw12.RecordWrites", spec := "recordWrites", apart := false, narrowed := true }
def RecordWritesUptoSaid : Prop := recordWritesUptoRow.holds Try.pinned (OpenSpec.upto recordWritesSpec)

/-- 'packsaddlelaw12.RecordBack', WHERE WHAT IT READS IS OF BULK AT MOST 1048576: true; the input reads as it did. -/
def recordBackUptoRow : OpenClaim := { program := "ytbknkahakmfhkaa", sum := "a6c4ab2abbd75fb39c15fa7e564ecb4ac7a14163ade0ee18a3de2f6fa3b6da9e", func := "packsaddle/packsaddlelaw12.RecordBack", spec := "recordBack", apart := false, narrowed := true }
def RecordBackUptoSaid : Prop := recordBackUptoRow.holds Try.pinned (OpenSpec.upto recordBackSpec)

/-- 'packsaddlelaw12.RecordReads', WHERE WHAT IT READS IS OF BULK AT MOST 1048576: true; the input reads as it did. -/
def recordReadsUptoRow : OpenClaim := { program := "ytbknkahakmfhkaa", sum := "a6c4ab2abbd75fb39c15fa7e564ecb4ac7a14163ade0ee18a3de2f6fa3b6da9e", func := "packsaddle/packsaddlelaw12.RecordReads", spec := "recordReads", apart := false, narrowed := true }
def RecordReadsUptoSaid : Prop := recordReadsUptoRow.holds Try.pinned (OpenSpec.upto recordReadsSpec)

/-- 'packsaddlelaw04.LengthsKind', WHERE WHAT IT READS IS OF BULK AT MOST 1048576: true; the input reads as it did. -/
def lengthsKindUptoRow : OpenClaim := { program := "ytbknkahakmfhkaa", sum := "a6c4ab2abbd75fb39c15fa7e564ecb4ac7a14163ade0ee18a3de2f6fa3b6da9e", func := "packsaddle/packsaddlelaw04.LengthsKind", spec := "lengthsKind", unfollowed := true, recurses := true, apart := false, narrowed := true }
def LengthsKindUptoSaid : Prop := lengthsKindUptoRow.holds Try.pinned (OpenSpec.upto lengthsKindSpec)

/-- 'packsaddlelaw04.LengthsMay', WHERE WHAT IT READS IS OF BULK AT MOST 1048576: true; the input reads as it did. -/
def lengthsMayUptoRow : OpenClaim := { program := "ytbknkahakmfhkaa", sum := "a6c4ab2abbd75fb39c15fa7e564ecb4ac7a14163ade0ee18a3de2f6fa3b6da9e", func := "packsaddle/packsaddlelaw04.LengthsMay", spec := "lengthsMay", unfollowed := true, recurses := true, apart := false, narrowed := true }
def LengthsMayUptoSaid : Prop := lengthsMayUptoRow.holds Try.pinned (OpenSpec.upto lengthsMaySpec)

/-- 'packsaddlelaw04.LengthsLeast', WHERE WHAT IT READS IS OF BULK AT MOST 1048576: true; the input reads as it did. -/
def lengthsLeastUptoRow : OpenClaim := { program := "ytbknkahakmfhkaa", sum := "a6c4ab2abbd75fb39c15fa7e564ecb4ac7a14163ade0ee18a3de2f6fa3b6da9e", func := "packsaddle/packsaddlelaw04.LengthsLeast", spec := "lengthsLeast", unfollowed := true, recurses := true, apart := false, narrowed := true }
def LengthsLeastUptoSaid : Prop := lengthsLeastUptoRow.holds Try.pinned (OpenSpec.upto lengthsLeastSpec)

/-- 'packsaddlelaw04.LengthsLooser', WHERE WHAT IT READS IS OF BULK AT MOST 1048576: true; the input reads as it did. -/
def lengthsLooserUptoRow : OpenClaim := { program := "ytbknkahakmfhkaa", sum := "a6c4ab2abbd75fb39c15fa7e564ecb4ac7a14163ade0ee18a3de2f6fa3b6da9e", func := "packsaddle/packsaddlelaw04.LengthsLooser", spec := "lengthsLooser", unfollowed := true, recurses := true, apart := false, narrowed := true }
def LengthsLooserUptoSaid : Prop := lengthsLooserUptoRow.holds Try.pinned (OpenSpec.upto lengthsLooserSpec)

/-- 'packsaddlelaw16.PoolBack', WHERE WHAT IT READS IS OF BULK AT MOST 1048576: true; the input reads as it did. -/
def poolBackUptoRow : OpenClaim := { program := "ytbknkahakmfhkaa", sum := "a6c4ab2abbd75fb39c15fa7e564ecb4ac7a14163ade0ee18a3de2f6fa3b6da9e", func := "packsaddle/packsaddlelaw16.PoolBack", spec := "poolBack", unfollowed := true, recurses := true, apart := false, narrowed := true }
def PoolBackUptoSaid : Prop := poolBackUptoRow.holds Try.pinned (OpenSpec.upto poolBackSpec)

/-- 'packsaddlelaw16.PoolOrder', WHERE WHAT IT READS IS OF BULK AT MOST 1048576: true; the input reads as it did. -/
def poolOrderUptoRow : OpenClaim := { program := "ytbknkahakmfhkaa", sum := "a6c4ab2abbd75fb39c15fa7e564ecb4ac7a14163ade0ee18a3de2f6fa3b6da9e", func := "packsaddle/packsaddlelaw16.PoolOrder", spec := "poolOrder", unfollowed := true, recurses := true, apart := false, narrowed := true }
def PoolOrderUptoSaid : Prop := poolOrderUptoRow.holds Try.pinned (OpenSpec.upto poolOrderSpec)

end Rows
end Go.Proofs.Ytbknkahakmfhkaa
