/-
  DERIVED. GIVEN WITH THE SEED: THE CARDS: each row of YtoecdobelolkeaaGreatDoorRows.lean that lists a variable, with what it lists TIED to the program's text (the seventh form; the later family's looks); each row that meets fmt, with fmt's text TOLD by the authors' own Lean function (tested against real Go, not proved from fmt's source: count such statements apart). THE CARD IS WHAT COUNTS. Prove the row's statement (the work); the ties are given (YtoecdobelolkeaaGreatDoorTie.lean); close each card by the builder's one call (the guide's Derived/Test/ToyasCard.lean, 'card_holds'). Laid BY PROGRAM, IN A SANDBOX (cutbox-door.mjs). By AI agents, Wed Nov 11 2026. No macro, syntax, notation, axiom, sorry.
-/
import Derived.Test.YtoecdobelolkeaaGreatDoorRows
import GoSem.ClaimSeven
namespace Go.Proofs.YtoecdobelolkeaaGreatDoor
namespace Rows

/-- THE TIED CARD OF 'ordinaltop.TopSemirings'. -/
def topSemiringsCard : Claim7 := { stood := { row := topSemiringsRow, standIns := [], harness := (true, "e9a2f633765749b2724689aacd22ba74616b11fbe982caa6d3d8a9b713b856f5"), looks := false }, kinds := [], alts := [], laidByText := true, laidKinds := [.data, .data, .data], laidTests := true, laidLooks := .later }
def TopSemiringsCardSaid : Prop := Claim7.holds Tryz.pinned (.plain (OpenSpec.ofChange topSemiringsSpec)) topSemiringsCard

/-- THE SECOND FORM's CARD OF 'ordinaltop.TopSemirings'. -/
def topSemiringsUptoCard : Claim7 := { stood := { row := topSemiringsUptoRow, standIns := [], harness := (true, "e9a2f633765749b2724689aacd22ba74616b11fbe982caa6d3d8a9b713b856f5"), looks := false }, kinds := [], alts := [], laidByText := true, laidKinds := [.data, .data, .data], laidTests := true, laidLooks := .later }
def TopSemiringsUptoCardSaid : Prop := Claim7.holds Tryz.pinned (.plain (OpenSpec.upto topSemiringsSpec)) topSemiringsUptoCard
end Rows
end Go.Proofs.YtoecdobelolkeaaGreatDoor
