/- The closed facts of ExecValid's row, each a lemma of its own. -/
import Derived.Test.YtcoiehgcfjfhaaaGreatDoorCards
import Derived.Test.YtcoiehgcfjfhaaaGreatDoorTie
import Derived.JoinedCond
set_option linter.all false
set_option maxRecDepth 20000
set_option maxHeartbeats 8000000
namespace Go.Proofs.YtcoiehgcfjfhaaaGreatDoor.execValid
open Go.ChangeShapes Go.WideShapes Go.ChangeAt
theorem and_tt {a b : Bool} (h1 : a = true) (h2 : b = true) : (a && b) = true := by rw [h1, h2]; rfl
set_option maxRecDepth 100000 in
theorem closed : joinedFacts Tryz.pinned.checked.prog 3 Tryz.f3 (OpenSpec.ofChange Rows.execValidSpec).bare Rows.execValidRow = true := by
  unfold joinedFacts
  repeat' (with_reducible refine and_tt ?_ ?_)
  all_goals as_aux_lemma => kernel_rfl
end Go.Proofs.YtcoiehgcfjfhaaaGreatDoor.execValid
