/-
  DERIVED. GIVEN WITH THE SEED: THE CARDS: each row of YtfpmmmhnnbanbaaGreatDoorRows.lean that lists a variable, with what it lists TIED to the program's text (the seventh form; the later family's looks); each row that meets fmt, with fmt's text TOLD by the authors' own Lean function (tested against real Go, not proved from fmt's source: count such statements apart). THE CARD IS WHAT COUNTS. Prove the row's statement (the work); the ties are given (YtfpmmmhnnbanbaaGreatDoorTie.lean); close each card by the builder's one call (the guide's Derived/Test/ToyasCard.lean, 'card_holds'). Laid BY PROGRAM, IN A SANDBOX (cutbox-door.mjs). By AI agents, Wed Nov 11 2026. No macro, syntax, notation, axiom, sorry.
-/
import Derived.Test.YtfpmmmhnnbanbaaGreatDoorRows
import GoSem.ClaimSeven
namespace Go.Proofs.YtfpmmmhnnbanbaaGreatDoor
namespace Rows

/-- THE TIED CARD OF 'bodegalaw30.PlannerCommits'. -/
def plannerCommitsCard : Claim7 := { stood := { row := plannerCommitsRow, standIns := [], harness := (true, "5863fa7aa3345b393021e2b5b3cea1c8d37ee70f48159c83230dbda114f21783"), looks := false }, kinds := [], alts := [], laidByText := true, laidKinds := [.data, .data], laidTests := true, laidLooks := .later }
def PlannerCommitsCardSaid : Prop := Claim7.holds Tryz.pinned (.plain (OpenSpec.ofChange plannerCommitsSpec)) plannerCommitsCard

/-- THE SECOND FORM's CARD OF 'bodegalaw30.PlannerCommits'. -/
def plannerCommitsUptoCard : Claim7 := { stood := { row := plannerCommitsUptoRow, standIns := [], harness := (true, "5863fa7aa3345b393021e2b5b3cea1c8d37ee70f48159c83230dbda114f21783"), looks := false }, kinds := [], alts := [], laidByText := true, laidKinds := [.data, .data], laidTests := true, laidLooks := .later }
def PlannerCommitsUptoCardSaid : Prop := Claim7.holds Tryz.pinned (.plain (OpenSpec.upto plannerCommitsSpec)) plannerCommitsUptoCard
end Rows
end Go.Proofs.YtfpmmmhnnbanbaaGreatDoor
