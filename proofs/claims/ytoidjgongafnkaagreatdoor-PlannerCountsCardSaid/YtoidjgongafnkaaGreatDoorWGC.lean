/- The text of a program of one statement: its walk. -/
import Derived.Test.YtoidjgongafnkaaGreatDoorWGB
import Derived.Deep.RegionWith
import Derived.Deep.QuietTactic
import Derived.BigQuiet
import Derived.Deep.RegionHeld3
set_option linter.unusedVariables false
set_option linter.unusedSimpArgs false
set_option linter.unusedSectionVars false
set_option linter.constructorNameAsVariable false
namespace Go.Proofs.YtoidjgongafnkaaGreatDoor
open Go.RowKit

/-- What is wanted of the table of forms: the sixth entry. -/
def FormsPost (w : World) (e : Ending) (w' : World) : Prop :=
  ∃ b b2, e = .returned (.slice (some ⟨b, 0, none⟩) 10 10) ∧ w'.cell? ⟨b, 10, none⟩ = some (.string ⟨#[103, 101, 116]⟩) ∧ w'.cell? ⟨b, 11, none⟩ = some (.slice (some ⟨b2, 0, none⟩) 1 1) ∧
    w'.cell? ⟨b2, 0, none⟩ = some (.int .i64 0) ∧ b < w'.heap.size ∧ b2 < w'.heap.size ∧ Below w.heap.size w w'

theorem forms_any (w : World) : Calls Tryz.prog 80 #[] w (FormsPost w) := by
  go_enter Tryz.func80, Tryz.ntmps80
  go_wp2
  go_ret
  exact ⟨_, w.heap.size + 1 + 1 + 1 + 1, rfl, by simp [go_sem], by simp [go_sem], by simp [go_sem], by simp, by simp, by repeat (first | exact Below.refl _ _ | refine below_alloc ?_ _)⟩

theorem kept_any (w : World) : Calls Tryz.prog 130 #[.agg #[.int .i64 5, .int .u32 5, .int .u32 0, .int .i64 0, .int .i64 0, .int .i64 0, .int .i64 0, .int .i64 0, .int .i64 0, .int .i64 0, .int .i64 0, .int .i64 0], .agg #[.int .i64 5, .int .u32 0, .int .u32 0, .int .i64 0, .int .i64 0, .int .i64 0, .int .i64 0, .int .i64 0, .int .i64 0, .int .i64 0, .int .i64 0, .int .i64 0], .int .i64 0] w
    fun e w' => e = .returned (.tuple #[.agg #[.int .i64 5, .int .u32 5, .int .u32 0, .int .i64 0, .int .i64 0, .int .i64 0, .int .i64 0, .int .i64 0, .int .i64 0, .int .i64 0, .int .i64 0, .int .i64 0], .bool true]) ∧ Below w.heap.size w w' := by
  go_enter Tryz.func130, Tryz.ntmps130
  go_wp2
  go_region
  go_wp2
  simp [bodyPost, results, Tryz.results130, go_sem]
  repeat (first | exact Below.refl _ _ | refine below_alloc ?_ _ | refine Below.drew ?_)

theorem eql_statement (w : World) : (binOp .eql 93 (.agg #[.int .i64 5, .int .u32 5, .int .u32 0, .int .i64 0, .int .i64 0, .int .i64 0, .int .i64 0, .int .i64 0, .int .i64 0, .int .i64 0, .int .i64 0, .int .i64 0]) (.agg #[.int .i64 5, .int .u32 5, .int .u32 0, .int .i64 0, .int .i64 0, .int .i64 0, .int .i64 0, .int .i64 0, .int .i64 0, .int .i64 0, .int .i64 0, .int .i64 0])).run Tryz.prog w = .ok (.bool true) w := by kernel_rfl

set_option maxRecDepth 100000 in
set_option maxHeartbeats 1000000 in
theorem valid_any (w : World) : Calls Tryz.prog 79 #[.agg #[.int .i64 5, .int .u32 5, .int .u32 0, .int .i64 0, .int .i64 0, .int .i64 0, .int .i64 0, .int .i64 0, .int .i64 0, .int .i64 0, .int .i64 0, .int .i64 0]] w
    fun e w' => e = .returned (.bool true) ∧ Below w.heap.size w w' := by
  have heq := eql_statement
  go_enter Tryz.func79, Tryz.ntmps79
  go_wp2_with fail
  go_region_with (go_at_call 80; refine (forms_any _).mono ?_; rintro e w1 ⟨b, b2, rfl, h1, h2, h3, h4, h5, hb⟩; have B0 := ((Blk.made w _ _).alloc _).drew.kept hb; have B1 := (Blk.made' (n := w.heap.size + 1) (w := w.alloc _) (by simp)).drew.kept hb; have k0 := B0.cell; have k1 := B1.cell)
  all_goals
    go_wp2
    refine wp_loop_rounds 2 ?_
    rw [rounds_succ]
    go_wp2_with fail
    refine (kept_any _).mono ?_
    rintro e w2 ⟨rfl, hb2⟩
    clear k0 k1 h1 h2 h3
    have k0 := (B0.kept hb2).cell
    have k1 := (B1.kept hb2).cell
    have f1 := (B1.kept hb2).free
    go_wp2
    rw [rounds_succ]
    go_wp2
    go_ret
    have fin : Below w.heap.size w w2 := below_step (below_step (by repeat (first | with_reducible exact Below.refl _ _ | with_reducible refine below_alloc ?_ _ | with_reducible refine Below.drew ?_)) hb) hb2
    exact ⟨rfl, by repeat (first | with_reducible exact fin | with_reducible refine Below.setCell ?_ (by simp) _ | with_reducible refine Below.drew ?_)⟩
end Go.Proofs.YtoidjgongafnkaaGreatDoor
