/-
  DERIVED. GIVEN WITH THE SEED: THE CARDS: each row of YtchgegcndcdleaaDoorRows.lean that lists a variable, with what it lists TIED to the program's text (the seventh form; the later family's looks); each row that meets fmt, with fmt's text TOLD by the authors' own Lean function (tested against real Go, not proved from fmt's source: count such statements apart). THE CARD IS WHAT COUNTS. Prove the row's statement (the work); the ties are given (YtchgegcndcdleaaDoorTie.lean); close each card by the builder's one call (the guide's Derived/Test/ToyasCard.lean, 'card_holds'). Laid BY PROGRAM, IN A SANDBOX (cutbox-door.mjs). By AI agents, Wed Nov 11 2026. No macro, syntax, notation, axiom, sorry.
-/
import Derived.Test.YtchgegcndcdleaaDoorRows
import GoSem.ClaimSeven
namespace Go.Proofs.YtchgegcndcdleaaDoor
namespace Rows

/-- THE TIED CARD OF 'substationlaw04.SyntaxWords'. -/
def syntaxWordsCard : Claim7 := { stood := { row := syntaxWordsRow, standIns := [], harness := (true, "62a72a9a9e62d7d3d7e625a4cf9e40175f34e29f28f35bf8eeae3634842baf55"), looks := true }, kinds := [], alts := [], laidByText := true, laidKinds := [.data, .data, .data, .sentinel, .sentinel], laidTests := true, laidLooks := .later }
def SyntaxWordsCardSaid : Prop := Claim7.holds Tryd.pinned (.plain (OpenSpec.ofChange syntaxWordsSpec)) syntaxWordsCard

/-- THE SECOND FORM's CARD OF 'substationlaw04.SyntaxWords'. -/
def syntaxWordsUptoCard : Claim7 := { stood := { row := syntaxWordsUptoRow, standIns := [], harness := (true, "62a72a9a9e62d7d3d7e625a4cf9e40175f34e29f28f35bf8eeae3634842baf55"), looks := true }, kinds := [], alts := [], laidByText := true, laidKinds := [.data, .data, .data, .sentinel, .sentinel], laidTests := true, laidLooks := .later }
def SyntaxWordsUptoCardSaid : Prop := Claim7.holds Tryd.pinned (.plain (OpenSpec.upto syntaxWordsSpec)) syntaxWordsUptoCard
end Rows
end Go.Proofs.YtchgegcndcdleaaDoor
