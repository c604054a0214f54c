/- The sanity check of the statement's package, and the statement's walk. -/
import Derived.Test.YtfpmmmhnnbanbaaGreatDoorG
import Derived.Test.YtfpmmmhnnbanbaaGreatDoorA
namespace Go.Proofs.YtfpmmmhnnbanbaaGreatDoor
open Go.RowKit

theorem eql_cost (w : World) : (binOp .eql 24 (.agg #[.int .i64 1, .int .i64 2]) (.agg #[.int .i64 1, .int .i64 2])).run Tryz.prog w = .ok (.bool true) w := by kernel_rfl

set_option maxRecDepth 100000 in
set_option maxHeartbeats 1000000 in
theorem awake_any (w : World) : Calls Tryz.prog 7 #[] w fun e w' => e = .returned (.bool true) ∧ Below w.heap.size w w' := by
  have heq := eql_cost
  go_enter Tryz.func7, Tryz.ntmps7
  go_wp2_with fail
  refine (make_any w.heap.size _ (Blk.made w _ _)).mono ?_
  rintro e w1 ⟨g, cap, rfl, hg, hl, hb1⟩
  have hbl := below_step (below_alloc (Below.refl _ _) _) hb1
  clear hb1
  go_wp2_with fail
  refine (hash_any _).mono ?_
  rintro e w2 ⟨rfl, hb2⟩
  have P2 := (Blk.made w1 _ _).kept hb2
  have hg2 := (hb2.cell (p := ⟨g, 0, none⟩) (by simp; omega)).trans ((World.cell?_alloc_past _ g 0 hl).trans hg)
  have hl2 : g < w2.heap.size := by have := hb2.size; simp at this; omega
  have hbl2 := below_step (below_alloc hbl _) hb2
  clear hb2 hbl hg
  go_wp2_with fail
  refine (tree_any _).mono ?_
  rintro e w3 ⟨rfl, hb3⟩
  have P3 := P2.kept hb3
  have hg3 := (hb3.cell (p := ⟨g, 0, none⟩) hl2).trans hg2
  have hbl3 := below_step hbl2 hb3
  have kp := P3.cell
  clear hb3 hbl2 hg2 P2
  go_wp2
  go_ret
  exact ⟨rfl, hbl3⟩

theorem law_any (m r v : Int) (near : Bool) (w : World) :
    Calls Tryz.prog 3 #[.int .i64 m, .int .i64 r, .int .i64 v, .bool near] w fun e w' => e = .returned (.bool true) ∧ Below w.heap.size w w' := by
  have m0 := Int.emod_nonneg m (show (8 : Int) ≠ 0 by decide)
  have m1 := Int.emod_lt_of_pos m (show (0 : Int) < 8 by decide)
  have r0 := Int.emod_nonneg r (show (30 : Int) ≠ 0 by decide)
  have r1 := Int.emod_lt_of_pos r (show (0 : Int) < 30 by decide)
  have v0 := Int.emod_nonneg v (show (16 : Int) ≠ 0 by decide)
  have v1 := Int.emod_lt_of_pos v (show (0 : Int) < 16 by decide)
  cases near
  · go_enter Tryz.func3, Tryz.ntmps3
    go_wp2_with fail
    refine (commit_any _ _ _ _).mono ?_
    rintro e w1 ⟨rfl, hb1⟩
    go_wp2_with fail
    refine (refcost_any _ _ _ _).mono ?_
    rintro e w2 ⟨rfl, hb2⟩
    have hbl := below_step hb1 hb2
    clear hb1 hb2
    go_wp2_with fail
    refine (awake_any _).mono ?_
    rintro e w3 ⟨rfl, hb3⟩
    have A := ((Blk.made w2 _ _).alloc _).kept hb3
    have B := (Blk.made' (n := w2.heap.size + 1) (w := w2.alloc _) (by simp)).kept hb3
    have hfin := below_step (below_alloc (below_alloc hbl _) _) hb3
    have ka := A.cell
    have kb := B.cell
    clear hb3 hbl
    go_wp2
    all_goals go_ret
    all_goals exact ⟨rfl, hfin⟩
  · go_enter Tryz.func3, Tryz.ntmps3
    go_wp2_with (go_at_call 4; refine (pick_any _ _ (by omega) (by omega) _).mono ?_; rintro e w' ⟨rfl, rfl⟩)
    refine (commit_any _ _ _ _).mono ?_
    rintro e w1 ⟨rfl, hb1⟩
    go_wp2_with fail
    refine (refcost_any _ _ _ _).mono ?_
    rintro e w2 ⟨rfl, hb2⟩
    have hbl := below_step hb1 hb2
    clear hb1 hb2
    go_wp2_with fail
    refine (awake_any _).mono ?_
    rintro e w3 ⟨rfl, hb3⟩
    have A := ((Blk.made w2 _ _).alloc _).kept hb3
    have B := (Blk.made' (n := w2.heap.size + 1) (w := w2.alloc _) (by simp)).kept hb3
    have hfin := below_step (below_alloc (below_alloc hbl _) _) hb3
    have ka := A.cell
    have kb := B.cell
    clear hb3 hbl
    go_wp2
    all_goals go_ret
    all_goals exact ⟨rfl, hfin⟩
end Go.Proofs.YtfpmmmhnnbanbaaGreatDoor
