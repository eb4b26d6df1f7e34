/-
  No cell of these rows narrows 'for every input' (looked for: loops, veiled, ifaces, maps, wideKeys, modest, calm, conditions, laid).
  DERIVED. THE GIVEN ROWS OF THIS SEAT. 12 by the template 'for every input the law returns true; each argument reads behind the call as it read before'; 0 by the template 'total and deterministic' (their statements: YtnfdbljeinlblaaTotals.lean).
  GIVEN WITH THE SEED: the statements are not yours to turn. If you find one false, say at which input.
  Laid BY PROGRAM, IN A SANDBOX (cutbox-rows.mjs): the forced cells as the released guide's own fill.sh prints them over the translation 5007f70fa4b147bf… (all of the seat's roots in one cut). By AI agents, Wed Nov 11 2026. No macro, syntax, notation, axiom, sorry.
-/
import Derived.Test.YtnfdbljeinlblaaChecked
import GoSem.Claim
import GoSem.ClaimJoined
import GoSem.ClaimMapViews
import Derived.JoinedTies
import Derived.KernelRfl
namespace Go.Proofs.Ytnfdbljeinlblaa
/- THE CELL 'sum', in the pinned program and in every row, IS THE sha256 OF THE DUMP (.gsa) THAT YtnfdbljeinlblaaProg.lean LOADS. Nothing in Lean hashes anything: it is a label: what it is worth is what the hold of that sum in a sandbox is worth. -/
noncomputable def Try.pinned : Pinned := { name := "ytnfdbljeinlblaa", sum := "5007f70fa4b147bf821550d27ebf21ed0b1defa4128f71ed55d78465e3412038", checked := Try.checked }
namespace Rows
def none {H : Type} : Left H := { results := [], args := [] }

/-- 'packsaddlelaw40.DiffChain': WHATEVER THE INPUT: true; the input reads as it did. -/
def diffChainSpec : ChangeSpec := { name := "diffChain", fn := fun _ => fun
  | [d1, d2, d3] => { results := [.lit (.bool true)], args := [d1, d2, d3] }
  | _ => none }
def diffChainRow : OpenClaim := { program := "ytnfdbljeinlblaa", sum := "5007f70fa4b147bf821550d27ebf21ed0b1defa4128f71ed55d78465e3412038", func := "packsaddle/packsaddlelaw40.DiffChain", spec := "diffChain", unfollowed := true, recurses := true, plainKeys := false, apart := false }
def DiffChainSaid : Prop := diffChainRow.holds Try.pinned (OpenSpec.ofChange diffChainSpec)

/-- ITS FALSE NEIGHBOUR: 'it returns false'. Refute it at one input. -/
def diffChainWrong : ChangeSpec := { name := "diffChain", fn := fun _ => fun
  | [d1, d2, d3] => { results := [.lit (.bool false)], args := [d1, d2, d3] }
  | _ => none }
def DiffChainWrongFalsely : Prop := diffChainRow.holds Try.pinned (OpenSpec.ofChange diffChainWrong)

/-- 'packsaddlelaw37.CombineJoins': WHATEVER THE INPUT: true; the input reads as it did. -/
def combineJoinsSpec : ChangeSpec := { name := "combineJoins", fn := fun _ => fun
  | [d1, d2] => { results := [.lit (.bool true)], args := [d1, d2] }
  | _ => none }
def combineJoinsRow : OpenClaim := { program := "ytnfdbljeinlblaa", sum := "5007f70fa4b147bf821550d27ebf21ed0b1defa4128f71ed55d78465e3412038", func := "packsaddle/packsaddlelaw37.CombineJoins", spec := "combineJoins", plainKeys := false, apart := false }
def CombineJoinsSaid : Prop := combineJoinsRow.holds Try.pinned (OpenSpec.ofChange combineJoinsSpec)

/-- ITS FALSE NEIGHBOUR: 'it returns false'. Refute it at one input. -/
def combineJoinsWrong : ChangeSpec := { name := "combineJoins", fn := fun _ => fun
  | [d1, d2] => { results := [.lit (.bool false)], args := [d1, d2] }
  | _ => none }
def CombineJoinsWrongFalsely : Prop := combineJoinsRow.holds Try.pinned (OpenSpec.ofChange combineJoinsWrong)

/-- 'packsaddlelaw37.CombineField': WHATEVER THE INPUT: true; the input reads as it did. -/
def combineFieldSpec : ChangeSpec := { name := "combineField", fn := fun _ => fun
  | [d1, d2, d3, d4] => { results := [.lit (.bool true)], args := [d1, d2, d3, d4] }
  | _ => none }
def combineFieldRow : OpenClaim := { program := "ytnfdbljeinlblaa", sum := "5007f70fa4b147bf821550d27ebf21ed0b1defa4128f71ed55d78465e3412038", func := "packsaddle/packsaddlelaw37.CombineField", spec := "combineField", plainKeys := false, apart := false }
def CombineFieldSaid : Prop := combineFieldRow.holds Try.pinned (OpenSpec.ofChange combineFieldSpec)

/-- ITS FALSE NEIGHBOUR: 'it returns false'. Refute it at one input. -/
def combineFieldWrong : ChangeSpec := { name := "combineField", fn := fun _ => fun
  | [d1, d2, d3, d4] => { results := [.lit (.bool false)], args := [d1, d2, d3, d4] }
  | _ => none }
def CombineFieldWrongFalsely : Prop := combineFieldRow.holds Try.pinned (OpenSpec.ofChange combineFieldWrong)

/-- 'packsaddlelaw37.CombineNoughts': WHATEVER THE INPUT: true; the input reads as it did. -/
def combineNoughtsSpec : ChangeSpec := { name := "combineNoughts", fn := fun _ => fun
  | [d1, d2, d3, d4] => { results := [.lit (.bool true)], args := [d1, d2, d3, d4] }
  | _ => none }
def combineNoughtsRow : OpenClaim := { program := "ytnfdbljeinlblaa", sum := "5007f70fa4b147bf821550d27ebf21ed0b1defa4128f71ed55d78465e3412038", func := "packsaddle/packsaddlelaw37.CombineNoughts", spec := "combineNoughts", plainKeys := false, apart := false }
def CombineNoughtsSaid : Prop := combineNoughtsRow.holds Try.pinned (OpenSpec.ofChange combineNoughtsSpec)

/-- ITS FALSE NEIGHBOUR: 'it returns false'. Refute it at one input. -/
def combineNoughtsWrong : ChangeSpec := { name := "combineNoughts", fn := fun _ => fun
  | [d1, d2, d3, d4] => { results := [.lit (.bool false)], args := [d1, d2, d3, d4] }
  | _ => none }
def CombineNoughtsWrongFalsely : Prop := combineNoughtsRow.holds Try.pinned (OpenSpec.ofChange combineNoughtsWrong)

/-- 'packsaddlelaw37.CombineFar': WHATEVER THE INPUT: true; the input reads as it did. -/
def combineFarSpec : ChangeSpec := { name := "combineFar", fn := fun _ => fun
  | [d1, d2, d3, d4, d5] => { results := [.lit (.bool true)], args := [d1, d2, d3, d4, d5] }
  | _ => none }
def combineFarRow : OpenClaim := { program := "ytnfdbljeinlblaa", sum := "5007f70fa4b147bf821550d27ebf21ed0b1defa4128f71ed55d78465e3412038", func := "packsaddle/packsaddlelaw37.CombineFar", spec := "combineFar", plainKeys := false, apart := false }
def CombineFarSaid : Prop := combineFarRow.holds Try.pinned (OpenSpec.ofChange combineFarSpec)

/-- ITS FALSE NEIGHBOUR: 'it returns false'. Refute it at one input. -/
def combineFarWrong : ChangeSpec := { name := "combineFar", fn := fun _ => fun
  | [d1, d2, d3, d4, d5] => { results := [.lit (.bool false)], args := [d1, d2, d3, d4, d5] }
  | _ => none }
def CombineFarWrongFalsely : Prop := combineFarRow.holds Try.pinned (OpenSpec.ofChange combineFarWrong)

/-- 'packsaddlelaw07.MatchExpands': WHATEVER THE INPUT: true; the input reads as it did. -/
def matchExpandsSpec : ChangeSpec := { name := "matchExpands", fn := fun _ => fun
  | [d1, d2] => { results := [.lit (.bool true)], args := [d1, d2] }
  | _ => none }
def matchExpandsRow : OpenClaim := { program := "ytnfdbljeinlblaa", sum := "5007f70fa4b147bf821550d27ebf21ed0b1defa4128f71ed55d78465e3412038", func := "packsaddle/packsaddlelaw07.MatchExpands", spec := "matchExpands", plainKeys := false, apart := false }
def MatchExpandsSaid : Prop := matchExpandsRow.holds Try.pinned (OpenSpec.ofChange matchExpandsSpec)

/-- ITS FALSE NEIGHBOUR: 'it returns false'. Refute it at one input. -/
def matchExpandsWrong : ChangeSpec := { name := "matchExpands", fn := fun _ => fun
  | [d1, d2] => { results := [.lit (.bool false)], args := [d1, d2] }
  | _ => none }
def MatchExpandsWrongFalsely : Prop := matchExpandsRow.holds Try.pinned (OpenSpec.ofChange matchExpandsWrong)

/-- 'packsaddlelaw07.MatchFinds': WHATEVER THE INPUT: true; the input reads as it did. -/
def matchFindsSpec : ChangeSpec := { name := "matchFinds", fn := fun _ => fun
  | [d1, d2] => { results := [.lit (.bool true)], args := [d1, d2] }
  | _ => none }
def matchFindsRow : OpenClaim := { program := "ytnfdbljeinlblaa", sum := "5007f70fa4b147bf821550d27ebf21ed0b1defa4128f71ed55d78465e3412038", func := "packsaddle/packsaddlelaw07.MatchFinds", spec := "matchFinds", plainKeys := false, apart := false }
def MatchFindsSaid : Prop := matchFindsRow.holds Try.pinned (OpenSpec.ofChange matchFindsSpec)

/-- ITS FALSE NEIGHBOUR: 'it returns false'. Refute it at one input. -/
def matchFindsWrong : ChangeSpec := { name := "matchFinds", fn := fun _ => fun
  | [d1, d2] => { results := [.lit (.bool false)], args := [d1, d2] }
  | _ => none }
def MatchFindsWrongFalsely : Prop := matchFindsRow.holds Try.pinned (OpenSpec.ofChange matchFindsWrong)

/-- 'packsaddlelaw07.MatchBack': WHATEVER THE INPUT: true; the input reads as it did. -/
def matchBackSpec : ChangeSpec := { name := "matchBack", fn := fun _ => fun
  | [d] => { results := [.lit (.bool true)], args := [d] }
  | _ => none }
def matchBackRow : OpenClaim := { program := "ytnfdbljeinlblaa", sum := "5007f70fa4b147bf821550d27ebf21ed0b1defa4128f71ed55d78465e3412038", func := "packsaddle/packsaddlelaw07.MatchBack", spec := "matchBack", plainKeys := false, apart := false }
def MatchBackSaid : Prop := matchBackRow.holds Try.pinned (OpenSpec.ofChange matchBackSpec)

/-- ITS FALSE NEIGHBOUR: 'it returns false'. Refute it at one input. -/
def matchBackWrong : ChangeSpec := { name := "matchBack", fn := fun _ => fun
  | [d] => { results := [.lit (.bool false)], args := [d] }
  | _ => none }
def MatchBackWrongFalsely : Prop := matchBackRow.holds Try.pinned (OpenSpec.ofChange matchBackWrong)

/-- 'packsaddlelaw07.MatchFar': WHATEVER THE INPUT: true; the input reads as it did. -/
def matchFarSpec : ChangeSpec := { name := "matchFar", fn := fun _ => fun
  | [d1, d2] => { results := [.lit (.bool true)], args := [d1, d2] }
  | _ => none }
def matchFarRow : OpenClaim := { program := "ytnfdbljeinlblaa", sum := "5007f70fa4b147bf821550d27ebf21ed0b1defa4128f71ed55d78465e3412038", func := "packsaddle/packsaddlelaw07.MatchFar", spec := "matchFar", plainKeys := false, apart := false }
def MatchFarSaid : Prop := matchFarRow.holds Try.pinned (OpenSpec.ofChange matchFarSpec)

/-- ITS FALSE NEIGHBOUR: 'it returns false'. Refute it at one input. -/
def matchFarWrong : ChangeSpec := { name := "matchFar", fn := fun _ => fun
  | [d1, d2] => { results := [.lit (.bool false)], args := [d1, d2] }
  | _ => none }
def MatchFarWrongFalsely : Prop := matchFarRow.holds Try.pinned (OpenSpec.ofChange matchFarWrong)

/-- 'packsaddlelaw02.CursorPuts': WHATEVER THE INPUT: true; the input reads as it did. -/
def cursorPutsSpec : ChangeSpec := { name := "cursorPuts", fn := fun _ => fun
  | [d1, d2, d3] => { results := [.lit (.bool true)], args := [d1, d2, d3] }
  | _ => none }
def cursorPutsRow : OpenClaim := { program := "ytnfdbljeinlblaa", sum := "5007f70fa4b147bf821550d27ebf21ed0b1defa4128f71ed55d78465e3412038", func := "packsaddle/packsaddlelaw02.CursorPuts", spec := "cursorPuts", plainKeys := false, apart := false }
def CursorPutsSaid : Prop := cursorPutsRow.holds Try.pinned (OpenSpec.ofChange cursorPutsSpec)

/-- ITS FALSE NEIGHBOUR: 'it returns false'. Refute it at one input. -/
def cursorPutsWrong : ChangeSpec := { name := "cursorPuts", fn := fun _ => fun
  | [d1, d2, d3] => { results := [.lit (.bool false)], args := [d1, d2, d3] }
  | _ => none }
def CursorPutsWrongFalsely : Prop := cursorPutsRow.holds Try.pinned (OpenSpec.ofChange cursorPutsWrong)

/-- 'packsaddlelaw02.CursorReads': WHATEVER THE INPUT: true; the input reads as it did. -/
def cursorReadsSpec : ChangeSpec := { name := "cursorReads", fn := fun _ => fun
  | [d1, d2] => { results := [.lit (.bool true)], args := [d1, d2] }
  | _ => none }
def cursorReadsRow : OpenClaim := { program := "ytnfdbljeinlblaa", sum := "5007f70fa4b147bf821550d27ebf21ed0b1defa4128f71ed55d78465e3412038", func := "packsaddle/packsaddlelaw02.CursorReads", spec := "cursorReads", plainKeys := false, apart := false }
def CursorReadsSaid : Prop := cursorReadsRow.holds Try.pinned (OpenSpec.ofChange cursorReadsSpec)

/-- ITS FALSE NEIGHBOUR: 'it returns false'. Refute it at one input. -/
def cursorReadsWrong : ChangeSpec := { name := "cursorReads", fn := fun _ => fun
  | [d1, d2] => { results := [.lit (.bool false)], args := [d1, d2] }
  | _ => none }
def CursorReadsWrongFalsely : Prop := cursorReadsRow.holds Try.pinned (OpenSpec.ofChange cursorReadsWrong)

/-- 'packsaddlelaw02.CursorBack': WHATEVER THE INPUT: true; the input reads as it did. -/
def cursorBackSpec : ChangeSpec := { name := "cursorBack", fn := fun _ => fun
  | [d1, d2, d3] => { results := [.lit (.bool true)], args := [d1, d2, d3] }
  | _ => none }
def cursorBackRow : OpenClaim := { program := "ytnfdbljeinlblaa", sum := "5007f70fa4b147bf821550d27ebf21ed0b1defa4128f71ed55d78465e3412038", func := "packsaddle/packsaddlelaw02.CursorBack", spec := "cursorBack", plainKeys := false, apart := false }
def CursorBackSaid : Prop := cursorBackRow.holds Try.pinned (OpenSpec.ofChange cursorBackSpec)

/-- ITS FALSE NEIGHBOUR: 'it returns false'. Refute it at one input. -/
def cursorBackWrong : ChangeSpec := { name := "cursorBack", fn := fun _ => fun
  | [d1, d2, d3] => { results := [.lit (.bool false)], args := [d1, d2, d3] }
  | _ => none }
def CursorBackWrongFalsely : Prop := cursorBackRow.holds Try.pinned (OpenSpec.ofChange cursorBackWrong)

/- THE SECOND FORM. 'bulk': how many values and letters a reading holds, each counted each time it is reached (what is shared counts as often as it is met; a slice's spare places count too). A statement '..UptoSaid' is the law's where the arguments, and the package variables that the reading takes, are together of bulk at most 1048576: NARROWER than '..Said'. Prove '..Said' where nothing that the law and all that it calls make is longer than what came in: it says more and counts as full. Else prove '..UptoSaid'. A law counts once. -/
mutual
def uptoBulk {H : Type} : DataW H → Nat
  | .lit (.string bytes) => bytes.length + 1
  | .lit _ => 1
  | .nil => 1
  | .ptr d => uptoBulk d + 1
  | .slice elems spare => uptoBulkAll elems + uptoBulkAll spare + 1
  | .agg parts => uptoBulkAll parts + 1
  | .iface _ d => uptoBulk d + 1
  | .map entries => uptoBulkEntries entries + 1
  | .held _ => 1
def uptoBulkAll {H : Type} : List (DataW H) → Nat
  | [] => 0
  | d :: r => uptoBulk d + uptoBulkAll r
def uptoBulkEntries {H : Type} : List (Lit × DataW H) → Nat
  | [] => 0
  | x :: r => uptoBulkEntry x + uptoBulkEntries r
def uptoBulkEntry {H : Type} : Lit × DataW H → Nat
  | (.string bytes, d) => bytes.length + uptoBulk d + 1
  | (_, d) => uptoBulk d + 1
 end
def uptoSmall : (H : Type) → List (DataW H) → Bool := fun _ ds => decide (uptoBulkAll ds ≤ 1048576)
def OpenSpec.upto (s : _root_.Go.ChangeSpec) : _root_.Go.OpenSpec := { _root_.Go.OpenSpec.ofChange s with cond := some uptoSmall }

/-- 'packsaddlelaw40.DiffChain', WHERE WHAT IT READS IS OF BULK AT MOST 1048576: true; the input reads as it did. -/
def diffChainUptoRow : OpenClaim := { program := "ytnfdbljeinlblaa", sum := "5007f70fa4b147bf821550d27ebf21ed0b1defa4128f71ed55d78465e3412038", func := "packsaddle/packsaddlelaw40.DiffChain", spec := "diffChain", unfollowed := true, recurses := true, plainKeys := false, apart := false, narrowed := true }
def DiffChainUptoSaid : Prop := diffChainUptoRow.holds Try.pinned (OpenSpec.upto diffChainSpec)

/-- 'packsaddlelaw37.CombineJoins', WHERE WHAT IT READS IS OF BULK AT MOST 1048576: true; the input reads as it did. -/
def combineJoinsUptoRow : OpenClaim := { program := "ytnfdbljeinlblaa", sum := "5007f70fa4b147bf821550d27ebf21ed0b1defa4128f71ed55d78465e3412038", func := "packsaddle/packsaddlelaw37.CombineJoins", spec := "combineJoins", plainKeys := false, apart := false, narrowed := true }
def CombineJoinsUptoSaid : Prop := combineJoinsUptoRow.holds Try.pinned (OpenSpec.upto combineJoinsSpec)

/-- 'packsaddlelaw37.CombineField', WHERE WHAT IT READS IS OF BULK AT MOST 1048576: true; the input reads as it did. -/
def combineFieldUptoRow : OpenClaim := { program := "ytnfdbljeinlblaa", sum := "5007f70fa4b147bf821550d27ebf21ed0b1defa4128f71ed55d78465e3412038", func := "packsaddle/packsaddlelaw37.CombineField", spec := "combineField", plainKeys := false, apart := false, narrowed := true }
def CombineFieldUptoSaid : Prop := combineFieldUptoRow.holds Try.pinned (OpenSpec.upto combineFieldSpec)

/-- 'packsaddlelaw37.CombineNoughts', WHERE WHAT IT READS IS OF BULK AT MOST 1048576: true; the input reads as it did. -/
def combineNoughtsUptoRow : OpenClaim := { program := "ytnfdbljeinlblaa", sum := "5007f70fa4b147bf821550d27ebf21ed0b1defa4128f71ed55d78465e3412038", func := "packsaddle/packsaddlelaw37.CombineNoughts", spec := "combineNoughts", plainKeys := false, apart := false, narrowed := true }
def CombineNoughtsUptoSaid : Prop := combineNoughtsUptoRow.holds Try.pinned (OpenSpec.upto combineNoughtsSpec)

/-- 'packsaddlelaw37.CombineFar', WHERE WHAT IT READS IS OF BULK AT MOST 1048576: true; the input reads as it did. -/
def combineFarUptoRow : OpenClaim := { program := "ytnfdbljeinlblaa", sum := "5007f70fa4b147bf821550d27ebf21ed0b1defa4128f71ed55d78465e3412038", func := "packsaddle/packsaddlelaw37.CombineFar", spec := "combineFar", plainKeys := false, apart := false, narrowed := true }
def CombineFarUptoSaid : Prop := combineFarUptoRow.holds Try.pinned (OpenSpec.upto combineFarSpec)

/-- 'packsaddlelaw07.MatchExpands', WHERE WHAT IT READS IS OF BULK AT MOST 1048576: true; the input reads as it did. -/
def matchExpandsUptoRow : OpenClaim := { program := "ytnfdbljeinlblaa", sum := "5007f70fa4b147bf821550d27ebf21ed0b1defa4128f71ed55d78465e3412038", func := "packsaddle/packsaddlelaw07.MatchExpands", spec := "matchExpands", plainKeys := false, apart := false, narrowed := true }
def MatchExpandsUptoSaid : Prop := matchExpandsUptoRow.holds Try.pinned (OpenSpec.upto matchExpandsSpec)

/-- 'packsaddlelaw07.MatchFinds', WHERE WHAT IT READS IS OF BULK AT MOST 1048576: true; the input reads as it did. -/
def matchFindsUptoRow : OpenClaim := { program := "ytnfdbljeinlblaa", sum := "5007f70fa4b147bf821550d27ebf21ed0b1defa4128f71ed55d78465e3412038", func := "packsaddle/packsaddlelaw07.MatchFinds", spec := "matchFinds", plainKeys := false, apart := false, narrowed := true }
def MatchFindsUptoSaid : Prop := matchFindsUptoRow.holds Try.pinned (OpenSpec.upto matchFindsSpec)

/-- 'packsaddlelaw07.MatchBack', WHERE WHAT IT READS IS OF BULK AT MOST 1048576: true; the input reads as it did. -/
def matchBackUptoRow : OpenClaim := { program := "ytnfdbljeinlblaa", sum := "5007f70fa4b147bf821550d27ebf21ed0b1defa4128f71ed55d78465e3412038", func := "packsaddle/packsaddlelaw07.MatchBack", spec := "matchBack", plainKeys := false, apart := false, narrowed := true }
def MatchBackUptoSaid : Prop := matchBackUptoRow.holds Try.pinned (OpenSpec.upto matchBackSpec)

/-- 'packsaddlelaw07.MatchFar', WHERE WHAT IT READS IS OF BULK AT MOST 1048576: true; the input reads as it did. -/
def matchFarUptoRow : OpenClaim := { program := "ytnfdbljeinlblaa", sum := "5007f70fa4b147bf821550d27ebf21ed0b1defa4128f71ed55d78465e3412038", func := "packsaddle/packsaddlelaw07.MatchFar", spec := "matchFar", plainKeys := false, apart := false, narrowed := true }
def MatchFarUptoSaid : Prop := matchFarUptoRow.holds Try.pinned (OpenSpec.upto matchFarSpec)

/-- 'packsaddlelaw02.CursorPuts', WHERE WHAT IT READS IS OF BULK AT MOST 1048576: true; the input reads as it did. -/
def cursorPutsUptoRow : OpenClaim := { program := "ytnfdbljeinlblaa", sum := "5007f70fa4b147bf821550d27ebf21ed0b1defa4128f71ed55d78465e3412038", func := "packsaddle/packsaddlelaw02.CursorPuts", spec := "cursorPuts", plainKeys := false, apart := false, narrowed := true }
def CursorPutsUptoSaid : Prop := cursorPutsUptoRow.holds Try.pinned (OpenSpec.upto cursorPutsSpec)

/-- 'packsaddlelaw02.CursorReads', WHERE WHAT IT READS IS OF BULK AT MOST 1048576: true; the input reads as it did. -/
def cursorReadsUptoRow : OpenClaim := { program := "ytnfdbljeinlblaa", sum := "5007f70fa4b147bf821550d27ebf21ed0b1defa4128f71ed55d78465e3412038", func := "packsaddle/packsaddlelaw02.CursorReads", spec := "cursorReads", plainKeys := false, apart := false, narrowed := true }
def CursorReadsUptoSaid : Prop := cursorReadsUptoRow.holds Try.pinned (OpenSpec.upto cursorReadsSpec)

/-- 'packsaddlelaw02.CursorBack', WHERE WHAT IT READS IS OF BULK AT MOST 1048576: true; the input reads as it did. -/
def cursorBackUptoRow : OpenClaim := { program := "ytnfdbljeinlblaa", sum := "5007f70fa4b147bf821550d27ebf21ed0b1defa4128f71ed55d78465e3412038", func := "packsaddle/packsaddlelaw02.CursorBack", spec := "cursorBack", plainKeys := false, apart := false, narrowed := true }
def CursorBackUptoSaid : Prop := cursorBackUptoRow.holds Try.pinned (OpenSpec.upto cursorBackSpec)

end Rows
end Go.Proofs.Ytnfdbljeinlblaa
