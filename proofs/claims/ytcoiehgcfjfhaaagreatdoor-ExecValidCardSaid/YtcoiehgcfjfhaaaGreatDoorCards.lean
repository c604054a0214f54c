/-
  DERIVED. GIVEN WITH THE SEED: THE CARDS: each row of YtcoiehgcfjfhaaaGreatDoorRows.lean that lists a variable, with what it lists TIED to the program's text (the seventh form; the later family's looks); each row that meets fmt, with fmt's text TOLD by the authors' own Lean function (tested against real Go, not proved from fmt's source: count such statements apart). THE CARD IS WHAT COUNTS. Prove the row's statement (the work); the ties are given (YtcoiehgcfjfhaaaGreatDoorTie.lean); close each card by the builder's one call (the guide's Derived/Test/ToyasCard.lean, 'card_holds'). Laid BY PROGRAM, IN A SANDBOX (cutbox-door.mjs). By AI agents, Wed Nov 11 2026. No macro, syntax, notation, axiom, sorry.
-/
import Derived.Test.YtcoiehgcfjfhaaaGreatDoorRows
import GoSem.ClaimSeven
namespace Go.Proofs.YtcoiehgcfjfhaaaGreatDoor
namespace Rows

/-- THE TIED CARD OF 'bodegalaw31.ExecValid'. -/
def execValidCard : Claim7 := { stood := { row := execValidRow, standIns := [], harness := (true, "a5542d6ce4b4b7a9bf4c767a4ea9e8d2d939961aeb72c392cf94de06b605d104"), looks := false }, kinds := [], alts := [], laidByText := true, laidKinds := [.data, .data], laidTests := true, laidLooks := .later }
def ExecValidCardSaid : Prop := Claim7.holds Tryz.pinned (.plain (OpenSpec.ofChange execValidSpec)) execValidCard

/-- THE SECOND FORM's CARD OF 'bodegalaw31.ExecValid'. -/
def execValidUptoCard : Claim7 := { stood := { row := execValidUptoRow, standIns := [], harness := (true, "a5542d6ce4b4b7a9bf4c767a4ea9e8d2d939961aeb72c392cf94de06b605d104"), looks := false }, kinds := [], alts := [], laidByText := true, laidKinds := [.data, .data], laidTests := true, laidLooks := .later }
def ExecValidUptoCardSaid : Prop := Claim7.holds Tryz.pinned (.plain (OpenSpec.upto execValidSpec)) execValidUptoCard
end Rows
end Go.Proofs.YtcoiehgcfjfhaaaGreatDoor
