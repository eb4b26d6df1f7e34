/-
  DERIVED. GIVEN WITH THE SEED: THE CARDS: each row of YtbknkahakmfhkaaDoorRows.lean that lists a variable, with what it lists TIED to the program's text (the seventh form; the later family's looks); each row that meets fmt, with fmt's text TOLD by the authors' own Lean function (tested against real Go, not proved from fmt's source: count such statements apart). THE CARD IS WHAT COUNTS. Prove the row's statement (the work); the ties are given (YtbknkahakmfhkaaDoorTie.lean); close each card by the builder's one call (the guide's Derived/Test/ToyasCard.lean, 'card_holds'). Laid BY PROGRAM, IN A SANDBOX (cutbox-door.mjs). By AI agents, Wed Nov 11 2026. No macro, syntax, notation, axiom, sorry.
-/
import Derived.Test.YtbknkahakmfhkaaDoorRows
import GoSem.ClaimSeven
namespace Go.Proofs.YtbknkahakmfhkaaDoor
namespace Rows

/-- THE TIED CARD OF 'packsaddlelaw15.UtfTells'. -/
def utfTellsCard : Claim7 := { stood := { row := utfTellsRow, standIns := [], harness := (true, "42c3046862e525f09ca81b7a801f4c7c55ea23697c91a6bf3695da55051b5b6e"), looks := false }, kinds := [], alts := [], laidByText := true, laidKinds := [.data, .pinned], laidTests := true, laidLooks := .later }
def UtfTellsCardSaid : Prop := Claim7.holds Tryd.pinned (.plain (OpenSpec.ofChange utfTellsSpec)) utfTellsCard

/-- THE TIED CARD OF 'packsaddlelaw15.UtfUnits'. -/
def utfUnitsCard : Claim7 := { stood := { row := utfUnitsRow, standIns := [], harness := (true, "42c3046862e525f09ca81b7a801f4c7c55ea23697c91a6bf3695da55051b5b6e"), looks := false }, kinds := [], alts := [], laidByText := true, laidKinds := [.data, .pinned], laidTests := true, laidLooks := .later }
def UtfUnitsCardSaid : Prop := Claim7.holds Tryd.pinned (.plain (OpenSpec.ofChange utfUnitsSpec)) utfUnitsCard

/-- THE TIED CARD OF 'packsaddlelaw15.UtfOrder'. -/
def utfOrderCard : Claim7 := { stood := { row := utfOrderRow, standIns := [], harness := (true, "42c3046862e525f09ca81b7a801f4c7c55ea23697c91a6bf3695da55051b5b6e"), looks := false }, kinds := [], alts := [], laidByText := true, laidKinds := [.data, .pinned], laidTests := true, laidLooks := .later }
def UtfOrderCardSaid : Prop := Claim7.holds Tryd.pinned (.plain (OpenSpec.ofChange utfOrderSpec)) utfOrderCard

/-- THE SECOND FORM's CARD OF 'packsaddlelaw15.UtfTells'. -/
def utfTellsUptoCard : Claim7 := { stood := { row := utfTellsUptoRow, standIns := [], harness := (true, "42c3046862e525f09ca81b7a801f4c7c55ea23697c91a6bf3695da55051b5b6e"), looks := false }, kinds := [], alts := [], laidByText := true, laidKinds := [.data, .pinned], laidTests := true, laidLooks := .later }
def UtfTellsUptoCardSaid : Prop := Claim7.holds Tryd.pinned (.plain (OpenSpec.upto utfTellsSpec)) utfTellsUptoCard

/-- THE SECOND FORM's CARD OF 'packsaddlelaw15.UtfUnits'. -/
def utfUnitsUptoCard : Claim7 := { stood := { row := utfUnitsUptoRow, standIns := [], harness := (true, "42c3046862e525f09ca81b7a801f4c7c55ea23697c91a6bf3695da55051b5b6e"), looks := false }, kinds := [], alts := [], laidByText := true, laidKinds := [.data, .pinned], laidTests := true, laidLooks := .later }
def UtfUnitsUptoCardSaid : Prop := Claim7.holds Tryd.pinned (.plain (OpenSpec.upto utfUnitsSpec)) utfUnitsUptoCard

/-- THE SECOND FORM's CARD OF 'packsaddlelaw15.UtfOrder'. -/
def utfOrderUptoCard : Claim7 := { stood := { row := utfOrderUptoRow, standIns := [], harness := (true, "42c3046862e525f09ca81b7a801f4c7c55ea23697c91a6bf3695da55051b5b6e"), looks := false }, kinds := [], alts := [], laidByText := true, laidKinds := [.data, .pinned], laidTests := true, laidLooks := .later }
def UtfOrderUptoCardSaid : Prop := Claim7.holds Tryd.pinned (.plain (OpenSpec.upto utfOrderSpec)) utfOrderUptoCard
end Rows
end Go.Proofs.YtbknkahakmfhkaaDoor
