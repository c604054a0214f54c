/- Package view: a view is valid. -/
import Derived.Test.YtoidjgongafnkaaGreatDoorQc
set_option linter.unusedVariables false
set_option linter.unusedSimpArgs false
set_option linter.unusedSectionVars false
set_option linter.constructorNameAsVariable false
namespace Go.Proofs.YtoidjgongafnkaaGreatDoor
open Go.RowKit

theorem isNodes5 (w : World) : Calls Tryz.prog 58 #[.int .i64 5] w fun e w' => e = .returned (.bool true) ∧ w = w' := by
  go_enter Tryz.func58, Tryz.ntmps58
  go_wp2
  go_ret
  exact ⟨rfl, rfl⟩

set_option maxRecDepth 10000 in
theorem memContains (n g cap lo : Nat) (h1 : 1 ≤ n) (hn : n ≤ 5) (w : World) (hown : w.ownsRow lo 75 3 (.slice (some ⟨g, 0, none⟩) n cap) n (memCells n)) :
    Calls Tryz.prog 59 #[.slice (some ⟨g, 0, none⟩) n cap, .func (.func 60) #[] #[]] w
      fun e w' => e = .returned (.bool true) ∧ Below w.heap.size w w' := by
  obtain ⟨c0, c1, c2⟩ := mem_cell hown 0 (by omega)
  have c0' : w.cell? ⟨g, 0, none⟩ = some (.int .i64 0) := by simpa using c0
  have c1' : w.cell? ⟨g, 1, none⟩ = some (.int .i64 1) := by simpa using c1
  have c2' : w.cell? ⟨g, 2, none⟩ = some (.bool true) := by simpa using c2
  clear c0 c1 c2 hown
  have b1 : decide ((0 : Int) < n) = true := by simp; omega
  have bk : (0 : Int) < n := by omega
  go_enter Tryz.func59, Tryz.ntmps59
  go_wp2_with go_in
  refine wp_loop_rounds 1 ?_
  rw [rounds_succ]
  go_wp2_with go_in
  refine bodyPost_ret (results_tmp rfl _ _ _) rfl ⟨rfl, by (repeat (first | with_reducible exact Below.refl _ _ | with_reducible assumption | with_reducible refine Below.setCell ?_ (by first | (simp; done) | (simp; omega)) _ | with_reducible refine below_alloc ?_ _ | with_reducible refine below_drewN ?_ _ | with_reducible refine Below.drew ?_ | with_reducible refine below_step ?_ (by assumption)))⟩

def MvA (n : Nat) (w : World) (i : Value) (wr : World) : Prop := ∃ k : Nat, k ≤ n ∧ i = .int .i64 k ∧ Hid (Below w.heap.size w wr)

set_option maxRecDepth 10000 in
set_option maxHeartbeats 1000000 in
theorem viewValid_ok (n g cap lo : Nat) (h1 : 1 ≤ n) (hn : n ≤ 5) (w : World) (hown : w.ownsRow lo 75 3 (.slice (some ⟨g, 0, none⟩) n cap) n (memCells n)) :
    Calls Tryz.prog 33 #[.agg #[.int .i64 0, .slice (some ⟨g, 0, none⟩) n cap], .int .i64 5] w
      fun e w' => e = .returned (.int .i64 0) ∧ Below w.heap.size w w' := by
  have HO := Lib.hid hown
  have HC : Hid (∀ k, k < n → w.cell? ⟨g, k * 3, none⟩ = some (.int .i64 (k : Int)) ∧ w.cell? ⟨g, k * 3 + 1, none⟩ = some (.int .i64 1) ∧ w.cell? ⟨g, k * 3 + 2, none⟩ = some (.bool true)) := Lib.hid (fun k hk => mem_cell hown k hk)
  have HG := Lib.hid (own_lt hown).2
  clear hown
  have b2 : ((n : Int) == 0) = false := by simp; omega
  go_enter Tryz.func33, Tryz.ntmps33
  go_wp2_with (go_at_call 58; refine (isNodes5 _).mono ?_; rintro e w1 ⟨rfl, rfl⟩)
  obtain ⟨W, hW⟩ : ∃ W, W = w.alloc (.cells #[.int .i64 0, .slice (some ⟨g, 0, none⟩) n cap] 27) := ⟨_, rfl⟩
  rw [← hW]
  have B1 : Blk W w.heap.size 27 #[.int .i64 0, .slice (some ⟨g, 0, none⟩) n cap] := hW ▸ Blk.made _ _ _
  have hbw : Below w.heap.size w W := hW ▸ below_alloc (Below.refl _ _) _
  have HW : Hid (∀ wr, Below W.heap.size W wr → wr.cell? ⟨w.heap.size, 1, none⟩ = some (.slice (some ⟨g, 0, none⟩) n cap)) := Lib.hid (fun wr h => (h.cell (p := ⟨w.heap.size, 1, none⟩) B1.lt).trans (B1.cell 1))
  have HBW := Lib.hid hbw
  have HGW : Hid (g < W.heap.size) := Lib.hid (Nat.lt_of_lt_of_le HG.out hbw.size)
  have HXW : Hid (w.heap.size < W.heap.size) := Lib.hid B1.lt
  have HCW : Hid (∀ wr, Below W.heap.size W wr → ∀ k, k < n → wr.cell? ⟨g, k * 3, none⟩ = some (.int .i64 (k : Int)) ∧ wr.cell? ⟨g, k * 3 + 1, none⟩ = some (.int .i64 1) ∧ wr.cell? ⟨g, k * 3 + 2, none⟩ = some (.bool true)) :=
    Lib.hid (fun wr h k hk => by
      have hh : ∀ o, wr.cell? ⟨g, o, none⟩ = w.cell? ⟨g, o, none⟩ := fun o => (h.cell (p := ⟨g, o, none⟩) HGW.out).trans (hbw.cell (p := ⟨g, o, none⟩) HG.out)
      simpa only [hh] using HC.out k hk)
  clear B1 hbw hW
  go_loopw [30] (fun i wr => MvA n W i wr) (fun i _ => ((n : Int) - intOf i).toNat)
  case atStart => exact ⟨0, by omega, rfl, Lib.hid (Below.refl _ _)⟩
  case round =>
    obtain ⟨k, hk, rfl, H⟩ := hrel
    have y1 := HW.out wr H.out
    have hb2 : Below W.heap.size W wr := H.out
    by_cases hk2 : k < n
    · have gw : g < wr.heap.size := Nat.lt_of_lt_of_le HGW.out H.out.size
      have xw : w.heap.size < wr.heap.size := Nat.lt_of_lt_of_le HXW.out H.out.size
      rcases k with _ | m
      · have bk1 : (0 : Int) < n := by omega
        obtain ⟨c0, c1, c2⟩ := HCW.out wr H.out 0 hk2
        have c0' : wr.cell? ⟨g, 0, none⟩ = some (.int .i64 0) := by simpa using c0
        have c1' : wr.cell? ⟨g, 1, none⟩ = some (.int .i64 1) := by simpa using c1
        have c2' : wr.cell? ⟨g, 2, none⟩ = some (.bool true) := by simpa using c2
        clear c0 c1 c2
        go_wp2_with fail
        go_quiet (fail)
        go_wp2_with fail
        exact ⟨⟨1, by omega, rfl, Lib.hid (by (repeat (first | with_reducible exact Below.refl _ _ | with_reducible assumption | with_reducible refine Below.setCell ?_ (by first | (simp; done) | (simp; omega)) _ | with_reducible refine below_alloc ?_ _ | with_reducible refine below_drewN ?_ _ | with_reducible refine Below.drew ?_ | with_reducible refine below_step ?_ (by assumption))))⟩, by simp [intOf]; omega⟩
      · have b1 : decide (((m + 1 : Nat) : Int) < n) = true := decide_eq_true (by omega)
        have bk0 : (0 : Int) ≤ ((m + 1 : Nat) : Int) := by omega
        have bk1 : ((m + 1 : Nat) : Int) < n := by omega
        have e1 : ((m + 1 : Nat) : Int) - 1 = (m : Int) := by omega
        have b4 : decide ((0 : Int) < ((m + 1 : Nat) : Int)) = true := decide_eq_true (by omega)
        have b5 : decide (((m + 1 : Nat) : Int) ≤ (m : Int)) = false := decide_eq_false (by omega)
        have b6 : decide ((m : Int) + 1 < 0) = false := decide_eq_false (by omega)
        have b7 : decide ((5 : Int) ≤ (m : Int) + 1) = false := decide_eq_false (by omega)
        have bm0 : (0 : Int) ≤ m := by omega
        have bm1 : (m : Int) < n := by omega
        obtain ⟨c0, c1, c2⟩ := HCW.out wr H.out (m + 1) hk2
        obtain ⟨d0, _, _⟩ := HCW.out wr H.out m (by omega)
        go_wp2_with fail
        go_quiet (fail)
        go_wp2_with fail
        exact ⟨⟨m + 1 + 1, by omega, by simp, Lib.hid (by (repeat (first | with_reducible exact Below.refl _ _ | with_reducible assumption | with_reducible refine Below.setCell ?_ (by first | (simp; done) | (simp; omega)) _ | with_reducible refine below_alloc ?_ _ | with_reducible refine below_drewN ?_ _ | with_reducible refine Below.drew ?_ | with_reducible refine below_step ?_ (by assumption))))⟩, by simp [intOf]; omega⟩
    · have b1 : decide ((k : Int) < n) = false := by simp; omega
      obtain ⟨wo, rfl⟩ : ∃ wo : World, wo = wr := ⟨_, rfl⟩
      go_wp2_with fail
      go_loopw [64] (fun i wr => MvA n W i wr) (fun i _ => ((n : Int) - intOf i).toNat)
      case atStart => exact ⟨0, by omega, rfl, H⟩
      case round =>
        clear y1 b1 H hb2
        obtain ⟨k, hk, rfl, H⟩ := hrel
        have y1 := HW.out wr H.out
        have hb2 : Below W.heap.size W wr := H.out
        by_cases hk2 : k < n
        · have b1 : decide ((k : Int) < n) = true := by simp; omega
          have bk0 : (0 : Int) ≤ k := by omega
          have bk1 : (k : Int) < n := by omega
          obtain ⟨c0, c1, c2⟩ := HCW.out wr H.out k hk2
          go_wp2_with fail
          exact ⟨⟨k + 1, by omega, by simp, Lib.hid (by (repeat (first | with_reducible exact Below.refl _ _ | with_reducible assumption | with_reducible refine Below.setCell ?_ (by first | (simp; done) | (simp; omega)) _ | with_reducible refine below_alloc ?_ _ | with_reducible refine below_drewN ?_ _ | with_reducible refine Below.drew ?_ | with_reducible refine below_step ?_ (by assumption))))⟩, by simp [intOf]; omega⟩
        · have b1 : decide ((k : Int) < n) = false := by simp; omega
          go_wp2_with fail
          go_at_call 59
          refine (memContains n g cap lo h1 hn _ (own_below (own_below HO.out HBW.out) (hb2.mono (Nat.le_refl _)))).mono ?_
          rintro e w1 ⟨rfl, hb⟩
          go_wp2_with fail
          refine bodyPost_ret (results_tmp rfl _ _ _) rfl ⟨rfl, below_step (below_step HBW.out H.out) hb⟩
end Go.Proofs.YtoidjgongafnkaaGreatDoor
