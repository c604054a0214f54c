/- The sanity check of the statement's package, and the statement's walk. -/
import Derived.Test.YtoidjgongafnkaaGreatDoorWGG
import Derived.Test.YtoidjgongafnkaaGreatDoorWFr
set_option linter.unusedVariables false
set_option linter.unusedSimpArgs false
set_option linter.unusedSectionVars false
set_option linter.constructorNameAsVariable false
namespace Go.Proofs.YtoidjgongafnkaaGreatDoor
open Go.RowKit

theorem eql_cost (w : World) : (binOp .eql 47 (.agg #[.int .i64 1, .int .i64 2]) (.agg #[.int .i64 1, .int .i64 2])).run Tryz.prog w = .ok (.bool true) w := by kernel_rfl

set_option maxRecDepth 100000 in
set_option maxHeartbeats 1000000 in
theorem awake_any (w : World) : Calls Tryz.prog 10 #[] w fun e w' => e = .returned (.bool true) ∧ Below w.heap.size w w' := by
  have heq := eql_cost
  go_enter Tryz.func10, Tryz.ntmps10
  go_wp2_with fail
  refine (make_any w.heap.size _ (Blk.made w _ _)).mono ?_
  rintro e w1 ⟨g, cap, rfl, hg, hl, hb1⟩
  have hbl := below_step (below_alloc (Below.refl _ _) _) hb1
  clear hb1
  go_wp2_with fail
  refine (hash_any _).mono ?_
  rintro e w2 ⟨rfl, hb2⟩
  have P2 := (Blk.made w1 _ _).kept hb2
  have hg2 := (hb2.cell (p := ⟨g, 0, none⟩) (by simp; omega)).trans ((World.cell?_alloc_past _ g 0 hl).trans hg)
  have hl2 : g < w2.heap.size := by have := hb2.size; simp at this; omega
  have hbl2 := below_step (below_alloc hbl _) hb2
  clear hb2 hbl hg
  go_wp2_with fail
  refine (tree_any _).mono ?_
  rintro e w3 ⟨rfl, hb3⟩
  have P3 := P2.kept hb3
  have hg3 := (hb3.cell (p := ⟨g, 0, none⟩) hl2).trans hg2
  have hbl3 := below_step hbl2 hb3
  have kp := P3.cell
  clear hb3 hbl2 hg2 P2
  go_wp2
  go_ret
  exact ⟨rfl, hbl3⟩

end Go.Proofs.YtoidjgongafnkaaGreatDoor
