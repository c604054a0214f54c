/-
  DERIVED. GIVEN WITH THE SEED: THE CARDS: each row of YtjmpekanlmepmaaGreatDoorRows.lean that lists a variable, with what it lists TIED to the program's text (the seventh form; the later family's looks); each row that meets fmt, with fmt's text TOLD by the authors' own Lean function (tested against real Go, not proved from fmt's source: count such statements apart). THE CARD IS WHAT COUNTS. Prove the row's statement (the work); the ties are given (YtjmpekanlmepmaaGreatDoorTie.lean); close each card by the builder's one call (the guide's Derived/Test/ToyasCard.lean, 'card_holds'). Laid BY PROGRAM, IN A SANDBOX (cutbox-door.mjs). By AI agents, Wed Nov 11 2026. No macro, syntax, notation, axiom, sorry.
-/
import Derived.Test.YtjmpekanlmepmaaGreatDoorRows
import GoSem.ClaimSeven
namespace Go.Proofs.YtjmpekanlmepmaaGreatDoor
namespace Rows

/-- THE TIED CARD OF 'bodegalaw24.TreeRoots'. -/
def treeRootsCard : Claim7 := { stood := { row := treeRootsRow, standIns := [], harness := (true, "0c310ce01457f009728e536e5671750138338d98589f9306f4acd2b1e25b9916"), looks := false }, kinds := [], alts := [], laidByText := true, laidKinds := [.data], laidTests := true, laidLooks := .later }
def TreeRootsCardSaid : Prop := Claim7.holds Tryz.pinned (.plain (OpenSpec.ofChange treeRootsSpec)) treeRootsCard

/-- THE TIED CARD OF 'bodegalaw24.TreeMap'. -/
def treeMapCard : Claim7 := { stood := { row := treeMapRow, standIns := [], harness := (true, "0c310ce01457f009728e536e5671750138338d98589f9306f4acd2b1e25b9916"), looks := false }, kinds := [], alts := [], laidByText := true, laidKinds := [.data], laidTests := true, laidLooks := .later }
def TreeMapCardSaid : Prop := Claim7.holds Tryz.pinned (.plain (OpenSpec.ofChange treeMapSpec)) treeMapCard

/-- THE TIED CARD OF 'bodegalaw24.TreeScans'. -/
def treeScansCard : Claim7 := { stood := { row := treeScansRow, standIns := [], harness := (true, "0c310ce01457f009728e536e5671750138338d98589f9306f4acd2b1e25b9916"), looks := false }, kinds := [], alts := [], laidByText := true, laidKinds := [.data], laidTests := true, laidLooks := .later }
def TreeScansCardSaid : Prop := Claim7.holds Tryz.pinned (.plain (OpenSpec.ofChange treeScansSpec)) treeScansCard

/-- THE TIED CARD OF 'bodegalaw24.TreeHints'. -/
def treeHintsCard : Claim7 := { stood := { row := treeHintsRow, standIns := [], harness := (true, "0c310ce01457f009728e536e5671750138338d98589f9306f4acd2b1e25b9916"), looks := false }, kinds := [], alts := [], laidByText := true, laidKinds := [.data], laidTests := true, laidLooks := .later }
def TreeHintsCardSaid : Prop := Claim7.holds Tryz.pinned (.plain (OpenSpec.ofChange treeHintsSpec)) treeHintsCard

/-- THE TIED CARD OF 'bodegalaw24.TreeShape'. -/
def treeShapeCard : Claim7 := { stood := { row := treeShapeRow, standIns := [], harness := (true, "0c310ce01457f009728e536e5671750138338d98589f9306f4acd2b1e25b9916"), looks := false }, kinds := [], alts := [], laidByText := true, laidKinds := [.data], laidTests := true, laidLooks := .later }
def TreeShapeCardSaid : Prop := Claim7.holds Tryz.pinned (.plain (OpenSpec.ofChange treeShapeSpec)) treeShapeCard

/-- THE TIED CARD OF 'bodegalaw24.TreePosts'. -/
def treePostsCard : Claim7 := { stood := { row := treePostsRow, standIns := [], harness := (true, "0c310ce01457f009728e536e5671750138338d98589f9306f4acd2b1e25b9916"), looks := false }, kinds := [], alts := [], laidByText := true, laidKinds := [.data], laidTests := true, laidLooks := .later }
def TreePostsCardSaid : Prop := Claim7.holds Tryz.pinned (.plain (OpenSpec.ofChange treePostsSpec)) treePostsCard

/-- THE TIED CARD OF 'bodegalaw24.TreeLow'. -/
def treeLowCard : Claim7 := { stood := { row := treeLowRow, standIns := [], harness := (true, "0c310ce01457f009728e536e5671750138338d98589f9306f4acd2b1e25b9916"), looks := false }, kinds := [], alts := [], laidByText := true, laidKinds := [.data], laidTests := true, laidLooks := .later }
def TreeLowCardSaid : Prop := Claim7.holds Tryz.pinned (.plain (OpenSpec.ofChange treeLowSpec)) treeLowCard

/-- THE TIED CARD OF 'bodegalaw24.TreeKills'. -/
def treeKillsCard : Claim7 := { stood := { row := treeKillsRow, standIns := [], harness := (true, "0c310ce01457f009728e536e5671750138338d98589f9306f4acd2b1e25b9916"), looks := false }, kinds := [], alts := [], laidByText := true, laidKinds := [.data], laidTests := true, laidLooks := .later }
def TreeKillsCardSaid : Prop := Claim7.holds Tryz.pinned (.plain (OpenSpec.ofChange treeKillsSpec)) treeKillsCard

/-- THE TIED CARD OF 'bodegalaw24.TreeTrips'. -/
def treeTripsCard : Claim7 := { stood := { row := treeTripsRow, standIns := [], harness := (true, "0c310ce01457f009728e536e5671750138338d98589f9306f4acd2b1e25b9916"), looks := false }, kinds := [], alts := [], laidByText := true, laidKinds := [.data], laidTests := true, laidLooks := .later }
def TreeTripsCardSaid : Prop := Claim7.holds Tryz.pinned (.plain (OpenSpec.ofChange treeTripsSpec)) treeTripsCard

/-- THE TIED CARD OF 'bodegalaw24.TreeNodes'. -/
def treeNodesCard : Claim7 := { stood := { row := treeNodesRow, standIns := [], harness := (true, "0c310ce01457f009728e536e5671750138338d98589f9306f4acd2b1e25b9916"), looks := false }, kinds := [], alts := [], laidByText := true, laidKinds := [.data], laidTests := true, laidLooks := .later }
def TreeNodesCardSaid : Prop := Claim7.holds Tryz.pinned (.plain (OpenSpec.ofChange treeNodesSpec)) treeNodesCard

/-- THE SECOND FORM's CARD OF 'bodegalaw24.TreeRoots'. -/
def treeRootsUptoCard : Claim7 := { stood := { row := treeRootsUptoRow, standIns := [], harness := (true, "0c310ce01457f009728e536e5671750138338d98589f9306f4acd2b1e25b9916"), looks := false }, kinds := [], alts := [], laidByText := true, laidKinds := [.data], laidTests := true, laidLooks := .later }
def TreeRootsUptoCardSaid : Prop := Claim7.holds Tryz.pinned (.plain (OpenSpec.upto treeRootsSpec)) treeRootsUptoCard

/-- THE SECOND FORM's CARD OF 'bodegalaw24.TreeMap'. -/
def treeMapUptoCard : Claim7 := { stood := { row := treeMapUptoRow, standIns := [], harness := (true, "0c310ce01457f009728e536e5671750138338d98589f9306f4acd2b1e25b9916"), looks := false }, kinds := [], alts := [], laidByText := true, laidKinds := [.data], laidTests := true, laidLooks := .later }
def TreeMapUptoCardSaid : Prop := Claim7.holds Tryz.pinned (.plain (OpenSpec.upto treeMapSpec)) treeMapUptoCard

/-- THE SECOND FORM's CARD OF 'bodegalaw24.TreeScans'. -/
def treeScansUptoCard : Claim7 := { stood := { row := treeScansUptoRow, standIns := [], harness := (true, "0c310ce01457f009728e536e5671750138338d98589f9306f4acd2b1e25b9916"), looks := false }, kinds := [], alts := [], laidByText := true, laidKinds := [.data], laidTests := true, laidLooks := .later }
def TreeScansUptoCardSaid : Prop := Claim7.holds Tryz.pinned (.plain (OpenSpec.upto treeScansSpec)) treeScansUptoCard

/-- THE SECOND FORM's CARD OF 'bodegalaw24.TreeHints'. -/
def treeHintsUptoCard : Claim7 := { stood := { row := treeHintsUptoRow, standIns := [], harness := (true, "0c310ce01457f009728e536e5671750138338d98589f9306f4acd2b1e25b9916"), looks := false }, kinds := [], alts := [], laidByText := true, laidKinds := [.data], laidTests := true, laidLooks := .later }
def TreeHintsUptoCardSaid : Prop := Claim7.holds Tryz.pinned (.plain (OpenSpec.upto treeHintsSpec)) treeHintsUptoCard

/-- THE SECOND FORM's CARD OF 'bodegalaw24.TreeShape'. -/
def treeShapeUptoCard : Claim7 := { stood := { row := treeShapeUptoRow, standIns := [], harness := (true, "0c310ce01457f009728e536e5671750138338d98589f9306f4acd2b1e25b9916"), looks := false }, kinds := [], alts := [], laidByText := true, laidKinds := [.data], laidTests := true, laidLooks := .later }
def TreeShapeUptoCardSaid : Prop := Claim7.holds Tryz.pinned (.plain (OpenSpec.upto treeShapeSpec)) treeShapeUptoCard

/-- THE SECOND FORM's CARD OF 'bodegalaw24.TreePosts'. -/
def treePostsUptoCard : Claim7 := { stood := { row := treePostsUptoRow, standIns := [], harness := (true, "0c310ce01457f009728e536e5671750138338d98589f9306f4acd2b1e25b9916"), looks := false }, kinds := [], alts := [], laidByText := true, laidKinds := [.data], laidTests := true, laidLooks := .later }
def TreePostsUptoCardSaid : Prop := Claim7.holds Tryz.pinned (.plain (OpenSpec.upto treePostsSpec)) treePostsUptoCard

/-- THE SECOND FORM's CARD OF 'bodegalaw24.TreeLow'. -/
def treeLowUptoCard : Claim7 := { stood := { row := treeLowUptoRow, standIns := [], harness := (true, "0c310ce01457f009728e536e5671750138338d98589f9306f4acd2b1e25b9916"), looks := false }, kinds := [], alts := [], laidByText := true, laidKinds := [.data], laidTests := true, laidLooks := .later }
def TreeLowUptoCardSaid : Prop := Claim7.holds Tryz.pinned (.plain (OpenSpec.upto treeLowSpec)) treeLowUptoCard

/-- THE SECOND FORM's CARD OF 'bodegalaw24.TreeKills'. -/
def treeKillsUptoCard : Claim7 := { stood := { row := treeKillsUptoRow, standIns := [], harness := (true, "0c310ce01457f009728e536e5671750138338d98589f9306f4acd2b1e25b9916"), looks := false }, kinds := [], alts := [], laidByText := true, laidKinds := [.data], laidTests := true, laidLooks := .later }
def TreeKillsUptoCardSaid : Prop := Claim7.holds Tryz.pinned (.plain (OpenSpec.upto treeKillsSpec)) treeKillsUptoCard

/-- THE SECOND FORM's CARD OF 'bodegalaw24.TreeTrips'. -/
def treeTripsUptoCard : Claim7 := { stood := { row := treeTripsUptoRow, standIns := [], harness := (true, "0c310ce01457f009728e536e5671750138338d98589f9306f4acd2b1e25b9916"), looks := false }, kinds := [], alts := [], laidByText := true, laidKinds := [.data], laidTests := true, laidLooks := .later }
def TreeTripsUptoCardSaid : Prop := Claim7.holds Tryz.pinned (.plain (OpenSpec.upto treeTripsSpec)) treeTripsUptoCard

/-- THE SECOND FORM's CARD OF 'bodegalaw24.TreeNodes'. -/
def treeNodesUptoCard : Claim7 := { stood := { row := treeNodesUptoRow, standIns := [], harness := (true, "0c310ce01457f009728e536e5671750138338d98589f9306f4acd2b1e25b9916"), looks := false }, kinds := [], alts := [], laidByText := true, laidKinds := [.data], laidTests := true, laidLooks := .later }
def TreeNodesUptoCardSaid : Prop := Claim7.holds Tryz.pinned (.plain (OpenSpec.upto treeNodesSpec)) treeNodesUptoCard
end Rows
end Go.Proofs.YtjmpekanlmepmaaGreatDoor
