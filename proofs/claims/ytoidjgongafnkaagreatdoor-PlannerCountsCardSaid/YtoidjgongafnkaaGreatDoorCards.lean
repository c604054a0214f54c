/-
  DERIVED. GIVEN WITH THE SEED: THE CARDS: each row of YtoidjgongafnkaaGreatDoorRows.lean that lists a variable, with what it lists TIED to the program's text (the seventh form; the later family's looks); each row that meets fmt, with fmt's text TOLD by the authors' own Lean function (tested against real Go, not proved from fmt's source: count such statements apart). THE CARD IS WHAT COUNTS. Prove the row's statement (the work); the ties are given (YtoidjgongafnkaaGreatDoorTie.lean); close each card by the builder's one call (the guide's Derived/Test/ToyasCard.lean, 'card_holds'). Laid BY PROGRAM, IN A SANDBOX (cutbox-door.mjs). By AI agents, Wed Nov 11 2026. No macro, syntax, notation, axiom, sorry.
-/
import Derived.Test.YtoidjgongafnkaaGreatDoorRows
import GoSem.ClaimSeven
namespace Go.Proofs.YtoidjgongafnkaaGreatDoor
namespace Rows

/-- THE TIED CARD OF 'bodegalaw30.PlannerCounts'. -/
def plannerCountsCard : Claim7 := { stood := { row := plannerCountsRow, standIns := [], harness := (true, "cc01f1a27df7bc776c7c2eec67993252d028f605e724957a93e7a1f0440fa955"), looks := false }, kinds := [], alts := [], laidByText := true, laidKinds := [.data, .data], laidTests := true, laidLooks := .later }
def PlannerCountsCardSaid : Prop := Claim7.holds Tryz.pinned (.plain (OpenSpec.ofChange plannerCountsSpec)) plannerCountsCard

/-- THE SECOND FORM's CARD OF 'bodegalaw30.PlannerCounts'. -/
def plannerCountsUptoCard : Claim7 := { stood := { row := plannerCountsUptoRow, standIns := [], harness := (true, "cc01f1a27df7bc776c7c2eec67993252d028f605e724957a93e7a1f0440fa955"), looks := false }, kinds := [], alts := [], laidByText := true, laidKinds := [.data, .data], laidTests := true, laidLooks := .later }
def PlannerCountsUptoCardSaid : Prop := Claim7.holds Tryz.pinned (.plain (OpenSpec.upto plannerCountsSpec)) plannerCountsUptoCard
end Rows
end Go.Proofs.YtoidjgongafnkaaGreatDoor
