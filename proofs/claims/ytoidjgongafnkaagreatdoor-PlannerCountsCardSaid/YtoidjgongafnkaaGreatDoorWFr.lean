/- The cost of a commit, as package planner tells it. -/
import Derived.Test.YtoidjgongafnkaaGreatDoorQa
set_option linter.unusedVariables false
set_option linter.unusedSimpArgs false
set_option linter.unusedSectionVars false
set_option linter.constructorNameAsVariable false
namespace Go.Proofs.YtoidjgongafnkaaGreatDoor
open Go.RowKit

/-- bodegahand.Pick: n modulo k, not negative. -/
theorem pick_any (n k : Int) (hk : 1 ≤ k) (hk' : k ≤ 4294967296) (w : World) :
    Calls Tryz.prog 4 #[.int .i64 n, .int .i64 k] w fun e w' => e = .returned (.int .i64 (n % k)) ∧ w = w' := by
  have h1 := Int.tmod_lt_of_pos n (show 0 < k by omega)
  have h2 : -k < n.tmod k := by have := Int.lt_tmod_of_pos n (show 0 < k by omega); omega
  have h0 : ¬ k < 1 := by omega
  go_enter Tryz.func4, Tryz.ntmps4
  go_wp2
  go_ret
  exact ⟨ret_int (tmod_emod_self n k), rfl⟩

/-- The round trips and the verbs of a commit. -/
def costBad (m r v : Int) : Bool := decide (m < 1) || decide (5 < m) || decide (r < 0) || decide (1000 < r) || decide (v < 0) || decide (1000 < v)
def costT (m r v : Int) : Int := if costBad m r v then 0 else if v = 0 then (if r = 0 then 0 else 1) else if m = 1 then 4 else 5
def costV (m r v : Int) : Int := if costBad m r v then 0 else if v = 0 then r else wrap64 (2 * m + v + r + wrap64 (m * (v + 1)))
theorem below_new {w : World} {o : Obj} : Below w.heap.size w (w.alloc o) := (Below.refl _ _).alloc (Nat.le_refl _) _
theorem below_new2 {w : World} {o o' : Obj} : Below w.heap.size w ((w.alloc o).alloc o') := ((Below.refl _ _).alloc (Nat.le_refl _) _).alloc (by simp) _

theorem planCommit_any (m r v : Int) (w : World) :
    Calls Tryz.prog 9 #[.int .i64 m, .int .i64 r, .int .i64 v] w fun e w' => e = .returned (.agg #[.int .i64 (costT m r v), .int .i64 (costV m r v)]) ∧ Below w.heap.size w w' := by
  go_enter Tryz.func9, Tryz.ntmps9
  go_wp2
  all_goals
    simp [bodyPost, results, Tryz.results9, go_sem]
    refine ⟨⟨?_, ?_⟩, ?_⟩
  all_goals first
    | exact below_new
    | exact below_new2
    | (try simp only [beq_iff_eq, beq_eq_false_iff_ne] at *
       simp only [costT, costV, costBad, Bool.or_eq_true, decide_eq_true_eq]
       repeat (split <;> try omega))
end Go.Proofs.YtoidjgongafnkaaGreatDoor
