/- The two indexes' first steps when no page is known. -/
import Derived.Test.YtoidjgongafnkaaGreatDoorWFr
import Derived.Deep.DeepFit
set_option linter.unusedVariables false
set_option linter.unusedSimpArgs false
set_option linter.unusedSectionVars false
set_option linter.constructorNameAsVariable false
namespace Go.Proofs.YtoidjgongafnkaaGreatDoor
open Go.RowKit

/-- pointer.Latest when nothing is known. -/
theorem latest_nil (line : Int) (w : World) :
    Calls Tryz.prog 93 #[.slice none 0 0, .int .i64 line] w fun e w' =>
      e = .returned (.tuple #[.agg #[.int .i64 0, .int .u64 0, .int .u64 0, .int .u64 0, .int .u64 0, .int .u64 0, .int .u64 0, .int .u64 0, .int .u64 0], .bool false]) ∧
      w.alloc (.cells #[.int .i64 0, .int .u64 0, .int .u64 0, .int .u64 0, .int .u64 0, .int .u64 0, .int .u64 0, .int .u64 0, .int .u64 0] 36) = w' := by
  go_enter Tryz.func93, Tryz.ntmps93
  go_wp2
  refine wp_loop_rounds 1 ?_
  rw [rounds_succ]
  go_wp2
  simp [bodyPost, results, Tryz.results93, go_sem]

/-- What a first step without pages gives: the root page is needed. -/
def Asks (z : Array Value) (w : World) (e : Ending) (w' : World) : Prop :=
  ∃ b, e = .returned (.tuple #[.slice (some ⟨b, 0, none⟩) 1 1, .slice none 0 0, .agg z, .bool false]) ∧ b < w'.heap.size ∧ w'.cell? ⟨b, 0, none⟩ = some (.int .i64 96) ∧ Below w.heap.size w w'

theorem hash_next (w : World) :
    Calls Tryz.prog 47 #[.agg #[.int .i64 1, .int .u32 5, .int .i64 0, .int .i64 0, .slice none 0 0], .slice none 0 0] w
      (Asks #[.int .i64 0, .bool false, .bool false, .bool false, .bool false, .bool false, .int .i64 0, .int .i64 0, .slice none 0 0, .int .i64 0, .int .i64 0] w) := by
  go_enter Tryz.func47, Tryz.ntmps47
  go_wp2_with (first | (go_at_call 93; refine (latest_nil _ _).mono ?_; rintro e w' ⟨rfl, rfl⟩) | go_in)
  simp [bodyPost, results, Tryz.results47, go_sem]
  exact ⟨_, rfl, by simp, by simp [go_sem], by repeat (first | exact Below.refl _ _ | refine below_alloc ?_ _)⟩

theorem tree_next (w : World) :
    Calls Tryz.prog 50 #[.agg #[.int .i64 1, .int .u32 5, .int .u32 0, .int .i64 0, .int .i64 0, .int .i64 0, .int .i64 0, .slice none 0 0], .slice none 0 0] w
      (Asks #[.int .i64 0, .bool false, .bool false, .bool false, .bool false, .bool false, .bool false, .int .i64 0, .int .i64 0, .slice none 0 0, .slice none 0 0, .int .i64 0, .int .i64 0, .int .i64 0] w) := by
  go_enter Tryz.func50, Tryz.ntmps50
  go_wp2_with (first | (go_at_call 93; refine (latest_nil _ _).mono ?_; rintro e w' ⟨rfl, rfl⟩) | go_in)
  simp [bodyPost, results, Tryz.results50, go_sem]
  exact ⟨_, rfl, by simp, by simp [go_sem], by repeat (first | exact Below.refl _ _ | refine below_alloc ?_ _)⟩

theorem hash_any (w : World) : Calls Tryz.prog 23 #[.int .u32 5, .slice none 0 0] w fun e w' => e = .returned (.int .i64 4) ∧ Below w.heap.size w w' := by
  go_enter Tryz.func23, Tryz.ntmps23
  go_wp2_with (go_at_call 47; refine (hash_next _).mono ?_; rintro e w1 ⟨b, rfl, hlt, hc, hb⟩)
  go_ret
  exact ⟨rfl, by repeat (first | exact hb | refine below_alloc ?_ _)⟩

theorem tree_any (w : World) : Calls Tryz.prog 24 #[.int .u32 5, .slice none 0 0] w fun e w' => e = .returned (.int .i64 5) ∧ Below w.heap.size w w' := by
  go_enter Tryz.func24, Tryz.ntmps24
  go_wp2_with (go_at_call 50; refine (tree_next _).mono ?_; rintro e w1 ⟨b, rfl, hlt, hc, hb⟩)
  go_ret
  exact ⟨rfl, by repeat (first | exact hb | refine below_alloc ?_ _)⟩
end Go.Proofs.YtoidjgongafnkaaGreatDoor
