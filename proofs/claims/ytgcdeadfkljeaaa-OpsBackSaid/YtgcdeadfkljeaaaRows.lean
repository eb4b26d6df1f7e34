/-
  No cell of these rows narrows 'for every input' (looked for: loops, veiled, ifaces, maps, wideKeys, modest, calm, conditions, laid).
  DERIVED. THE GIVEN ROWS OF THIS SEAT. 6 by the template 'for every input the law returns true; each argument reads behind the call as it read before'; 0 by the template 'total and deterministic' (their statements: YtgcdeadfkljeaaaTotals.lean).
  GIVEN WITH THE SEED: the statements are not yours to turn. If you find one false, say at which input.
  Laid BY PROGRAM, IN A SANDBOX (cutbox-rows.mjs): the forced cells as the released guide's own fill.sh prints them over the translation 1921ae9db71ee54b… (all of the seat's roots in one cut). By AI agents, Wed Nov 11 2026. No macro, syntax, notation, axiom, sorry.
-/
import Derived.Test.YtgcdeadfkljeaaaChecked
import GoSem.Claim
import GoSem.ClaimJoined
import GoSem.ClaimMapViews
import Derived.JoinedTies
import Derived.KernelRfl
namespace Go.Proofs.Ytgcdeadfkljeaaa
/- THE CELL 'sum', in the pinned program and in every row, IS THE sha256 OF THE DUMP (.gsa) THAT YtgcdeadfkljeaaaProg.lean LOADS. Nothing in Lean hashes anything: it is a label: what it is worth is what the hold of that sum in a sandbox is worth. -/
noncomputable def Try.pinned : Pinned := { name := "ytgcdeadfkljeaaa", sum := "1921ae9db71ee54b5a0dd57f9f3119a113e2516135780c5656541c9db1d98341", checked := Try.checked }
namespace Rows
def none {H : Type} : Left H := { results := [], args := [] }

/-- 'packsaddlelaw06.InflateTells': WHATEVER THE INPUT: true; the input reads as it did. -/
def inflateTellsSpec : ChangeSpec := { name := "inflateTells", fn := fun _ => fun
  | [d1, d2] => { results := [.lit (.bool true)], args := [d1, d2] }
  | _ => none }
def inflateTellsRow : OpenClaim := { program := "ytgcdeadfkljeaaa", sum := "1921ae9db71ee54b5a0dd57f9f3119a113e2516135780c5656541c9db1d98341", func := "packsaddle/packsaddlelaw06.InflateTells", spec := "inflateTells", recurses := true, apart := false }
def InflateTellsSaid : Prop := inflateTellsRow.holds Try.pinned (OpenSpec.ofChange inflateTellsSpec)

/-- ITS FALSE NEIGHBOUR: 'it returns false'. Refute it at one input. -/
def inflateTellsWrong : ChangeSpec := { name := "inflateTells", fn := fun _ => fun
  | [d1, d2] => { results := [.lit (.bool false)], args := [d1, d2] }
  | _ => none }
def InflateTellsWrongFalsely : Prop := inflateTellsRow.holds Try.pinned (OpenSpec.ofChange inflateTellsWrong)

/-- 'packsaddlelaw06.InflateBlocks': WHATEVER THE INPUT: true; the input reads as it did. -/
def inflateBlocksSpec : ChangeSpec := { name := "inflateBlocks", fn := fun _ => fun
  | [d1, d2] => { results := [.lit (.bool true)], args := [d1, d2] }
  | _ => none }
def inflateBlocksRow : OpenClaim := { program := "ytgcdeadfkljeaaa", sum := "1921ae9db71ee54b5a0dd57f9f3119a113e2516135780c5656541c9db1d98341", func := "packsaddle/packsaddlelaw06.InflateBlocks", spec := "inflateBlocks", recurses := true, apart := false }
def InflateBlocksSaid : Prop := inflateBlocksRow.holds Try.pinned (OpenSpec.ofChange inflateBlocksSpec)

/-- ITS FALSE NEIGHBOUR: 'it returns false'. Refute it at one input. -/
def inflateBlocksWrong : ChangeSpec := { name := "inflateBlocks", fn := fun _ => fun
  | [d1, d2] => { results := [.lit (.bool false)], args := [d1, d2] }
  | _ => none }
def InflateBlocksWrongFalsely : Prop := inflateBlocksRow.holds Try.pinned (OpenSpec.ofChange inflateBlocksWrong)

/-- 'packsaddlelaw06.InflateSigns': WHATEVER THE INPUT: true; the input reads as it did. -/
def inflateSignsSpec : ChangeSpec := { name := "inflateSigns", fn := fun _ => fun
  | [d] => { results := [.lit (.bool true)], args := [d] }
  | _ => none }
def inflateSignsRow : OpenClaim := { program := "ytgcdeadfkljeaaa", sum := "1921ae9db71ee54b5a0dd57f9f3119a113e2516135780c5656541c9db1d98341", func := "packsaddle/packsaddlelaw06.InflateSigns", spec := "inflateSigns", apart := false }
def InflateSignsSaid : Prop := inflateSignsRow.holds Try.pinned (OpenSpec.ofChange inflateSignsSpec)

/-- ITS FALSE NEIGHBOUR: 'it returns false'. Refute it at one input. -/
def inflateSignsWrong : ChangeSpec := { name := "inflateSigns", fn := fun _ => fun
  | [d] => { results := [.lit (.bool false)], args := [d] }
  | _ => none }
def InflateSignsWrongFalsely : Prop := inflateSignsRow.holds Try.pinned (OpenSpec.ofChange inflateSignsWrong)

/-- 'packsaddlelaw06.InflateMost': WHATEVER THE INPUT: true; the input reads as it did. -/
def inflateMostSpec : ChangeSpec := { name := "inflateMost", fn := fun _ => fun
  | [d1, d2] => { results := [.lit (.bool true)], args := [d1, d2] }
  | _ => none }
def inflateMostRow : OpenClaim := { program := "ytgcdeadfkljeaaa", sum := "1921ae9db71ee54b5a0dd57f9f3119a113e2516135780c5656541c9db1d98341", func := "packsaddle/packsaddlelaw06.InflateMost", spec := "inflateMost", apart := false }
def InflateMostSaid : Prop := inflateMostRow.holds Try.pinned (OpenSpec.ofChange inflateMostSpec)

/-- ITS FALSE NEIGHBOUR: 'it returns false'. Refute it at one input. -/
def inflateMostWrong : ChangeSpec := { name := "inflateMost", fn := fun _ => fun
  | [d1, d2] => { results := [.lit (.bool false)], args := [d1, d2] }
  | _ => none }
def InflateMostWrongFalsely : Prop := inflateMostRow.holds Try.pinned (OpenSpec.ofChange inflateMostWrong)

/-- 'packsaddlelaw18.OpsBack': WHATEVER THE INPUT: true; the input reads as it did. -/
def opsBackSpec : ChangeSpec := { name := "opsBack", fn := fun _ => fun
  | [d] => { results := [.lit (.bool true)], args := [d] }
  | _ => none }
def opsBackRow : OpenClaim := { program := "ytgcdeadfkljeaaa", sum := "1921ae9db71ee54b5a0dd57f9f3119a113e2516135780c5656541c9db1d98341", func := "packsaddle/packsaddlelaw18.OpsBack", spec := "opsBack", unfollowed := true, recurses := true, apart := false }
def OpsBackSaid : Prop := opsBackRow.holds Try.pinned (OpenSpec.ofChange opsBackSpec)

/-- ITS FALSE NEIGHBOUR: 'it returns false'. Refute it at one input. -/
def opsBackWrong : ChangeSpec := { name := "opsBack", fn := fun _ => fun
  | [d] => { results := [.lit (.bool false)], args := [d] }
  | _ => none }
def OpsBackWrongFalsely : Prop := opsBackRow.holds Try.pinned (OpenSpec.ofChange opsBackWrong)

/-- 'packsaddlelaw18.OpsSizes': WHATEVER THE INPUT: true; the input reads as it did. -/
def opsSizesSpec : ChangeSpec := { name := "opsSizes", fn := fun _ => fun
  | [d1, d2, d3] => { results := [.lit (.bool true)], args := [d1, d2, d3] }
  | _ => none }
def opsSizesRow : OpenClaim := { program := "ytgcdeadfkljeaaa", sum := "1921ae9db71ee54b5a0dd57f9f3119a113e2516135780c5656541c9db1d98341", func := "packsaddle/packsaddlelaw18.OpsSizes", spec := "opsSizes", unfollowed := true, recurses := true, apart := false }
def OpsSizesSaid : Prop := opsSizesRow.holds Try.pinned (OpenSpec.ofChange opsSizesSpec)

/-- ITS FALSE NEIGHBOUR: 'it returns false'. Refute it at one input. -/
def opsSizesWrong : ChangeSpec := { name := "opsSizes", fn := fun _ => fun
  | [d1, d2, d3] => { results := [.lit (.bool false)], args := [d1, d2, d3] }
  | _ => none }
def OpsSizesWrongFalsely : Prop := opsSizesRow.holds Try.pinned (OpenSpec.ofChange opsSizesWrong)

/- THE SECOND FORM. 'bulk': how many values and letters a reading holds, each counted each time it is reached (what is shared counts as often as it is met; a slice's spare places count too). A statement '..UptoSaid' is the law's where the arguments, and the package variables that the reading takes, are together of bulk at most 1048576: NARROWER than '..Said'. Prove '..Said' where nothing that the law and all that it calls make is longer than what came in: it says more and counts as full. Else prove '..UptoSaid'. A law counts once. -/
mutual
def uptoBulk {H : Type} : DataW H → Nat
  | .lit (.string bytes) => bytes.length + 1
  | .lit _ => 1
  | .nil => 1
  | .ptr d => uptoBulk d + 1
  | .slice elems spare => uptoBulkAll elems + uptoBulkAll spare + 1
  | .agg parts => uptoBulkAll parts + 1
  | .iface _ d => uptoBulk d + 1
  | .map entries => uptoBulkEntries entries + 1
  | .held _ => 1
def uptoBulkAll {H : Type} : List (DataW H) → Nat
  | [] => 0
  | d :: r => uptoBulk d + uptoBulkAll r
def uptoBulkEntries {H : Type} : List (Lit × DataW H) → Nat
  | [] => 0
  | x :: r => uptoBulkEntry x + uptoBulkEntries r
def uptoBulkEntry {H : Type} : Lit × DataW H → Nat
  | (.string bytes, d) => bytes.length + uptoBulk d + 1
  | (_, d) => uptoBulk d + 1
 end
def uptoSmall : (H : Type) → List (DataW H) → Bool := fun _ ds => decide (uptoBulkAll ds ≤ 1048576)
def OpenSpec.upto (s : _root_.Go.ChangeSpec) : _root_.Go.OpenSpec := { _root_.Go.OpenSpec.ofChange s with cond := some uptoSmall }

/-- 'packsaddlelaw06.InflateTells', WHERE WHAT IT READS IS OF BULK AT MOST 1048576: true; the input reads as it did. -/
def inflateTellsUptoRow : OpenClaim := { program := "ytgcdeadfkljeaaa", sum := "1921ae9db71ee54b5a0dd57f9f3119a113e2516135780c5656541c9db1d98341", func := "packsaddle/packsaddlelaw06.InflateTells", spec := "inflateTells", recurses := true, apart := false, narrowed := true }
def InflateTellsUptoSaid : Prop := inflateTellsUptoRow.holds Try.pinned (OpenSpec.upto inflateTellsSpec)

/-- 'packsaddlelaw06.InflateBlocks', WHERE WHAT IT READS IS OF BULK AT MOST 1048576: true; the input reads as it did. -/
def inflateBlocksUptoRow : OpenClaim := { program := "ytgcdeadfkljeaaa", sum := "1921ae9db71ee54b5a0dd57f9f3119a113e2516135780c5656541c9db1d98341", func := "packsaddle/packsaddlelaw06.InflateBlocks", spec := "inflateBlocks", recurses := true, apart := false, narrowed := true }
def InflateBlocksUptoSaid : Prop := inflateBlocksUptoRow.holds Try.pinned (OpenSpec.upto inflateBlocksSpec)

/-- 'packsaddlelaw06.InflateSigns', WHERE WHAT IT READS IS OF BULK AT MOST 1048576: true; the input reads as it did. -/
def inflateSignsUptoRow : OpenClaim := { program := "ytgcdeadfkljeaaa", sum := "1921ae9db71ee54b5a0dd57f9f3119a113e2516135780c5656541c9db1d98341", func := "packsaddle/packsaddlelaw06.InflateSigns", spec := "inflateSigns", apart := false, narrowed := true }
def InflateSignsUptoSaid : Prop := inflateSignsUptoRow.holds Try.pinned (OpenSpec.upto inflateSignsSpec)

/-- 'packsaddlelaw06.InflateMost', WHERE WHAT IT READS IS OF BULK AT MOST 1048576: true; the input reads as it did. -/
def inflateMostUptoRow : OpenClaim := { program := "ytgcdeadfkljeaaa", sum := "1921ae9db71ee54b5a0dd57f9f3119a113e2516135780c5656541c9db1d98341", func := "packsaddle/packsaddlelaw06.InflateMost", spec := "inflateMost", apart := false, narrowed := true }
def InflateMostUptoSaid : Prop := inflateMostUptoRow.holds Try.pinned (OpenSpec.upto inflateMostSpec)

/-- 'packsaddlelaw18.OpsBack', WHERE WHAT IT READS IS OF BULK AT MOST 1048576: true; the input reads as it did. -/
def opsBackUptoRow : OpenClaim := { program := "ytgcdeadfkljeaaa", sum := "1921ae9db71ee54b5a0dd57f9f3119a113e2516135780c5656541c9db1d98341", func := "packsaddle/packsaddlelaw18.OpsBack", spec := "opsBack", unfollowed := true, recurses := true, apart := false, narrowed := true }
def OpsBackUptoSaid : Prop := opsBackUptoRow.holds Try.pinned (OpenSpec.upto opsBackSpec)

/-- 'packsaddlelaw18.OpsSizes', WHERE WHAT IT READS IS OF BULK AT MOST 1048576: true; the input reads as it did. -/
def opsSizesUptoRow : OpenClaim := { program := "ytgcdeadfkljeaaa", sum := "1921ae9db71ee54b5a0dd57f9f3119a113e2516135780c5656541c9db1d98341", func := "packsaddle/packsaddlelaw18.OpsSizes", spec := "opsSizes", unfollowed := true, recurses := true, apart := false, narrowed := true }
def OpsSizesUptoSaid : Prop := opsSizesUptoRow.holds Try.pinned (OpenSpec.upto opsSizesSpec)

end Rows
end Go.Proofs.Ytgcdeadfkljeaaa
