/- View 0. -/
import Derived.Test.YtoidjgongafnkaaGreatDoorWFm
set_option linter.unusedVariables false
set_option linter.unusedSimpArgs false
set_option linter.unusedSectionVars false
set_option linter.constructorNameAsVariable false
namespace Go.Proofs.YtoidjgongafnkaaGreatDoor
open Go.RowKit

theorem infoMember : (Tryz.prog.info? 75).map (fun i => (i.zero, i.size, i.bytes)) = some (some (.agg #[.int .i64 0, .int .i64 0, .bool false]), 3, 24) := by kernel_rfl
theorem memCells_succ (j : Nat) : memCells (j + 1) = memCells j ++ [.int .i64 (j : Int), .int .i64 1, .bool true] := by simp [memCells, List.range_succ]
def InLoop (W : World) (b n : Nat) (iv : Value) (wr : World) : Prop :=
  ∃ j : Nat, j ≤ n ∧ iv = .int .i64 j ∧ Hid (∃ v, Blk wr b 27 #[.int .i64 0, v] ∧ wr.ownsRow W.heap.size 75 3 v j (memCells j) ∧ Over b W wr)
def InPost (n : Nat) (w : World) (e : Ending) (w' : World) : Prop :=
  (∃ v, e = .returned (.tuple #[.agg #[.int .i64 0, v], .int .i64 0]) ∧ w'.ownsRow w.heap.size 75 3 v n (memCells n)) ∧ Below w.heap.size w w'

set_option maxRecDepth 10000 in
set_option maxHeartbeats 2000000 in
theorem initial_ok (n : Nat) (w : World) (hn : 1 ≤ n) (hn4 : n ≤ 4) : Calls Tryz.prog 15 #[.int .i64 n] w (InPost n w) := by
  obtain ⟨i0, hi, hz0, hz1, hz2⟩ := info_parts infoMember
  have b0 : ¬ (n : Int) < 1 := by omega
  have b1 : ¬ (5 : Int) < n := by omega
  go_enter Tryz.func15, Tryz.ntmps15
  go_wp2_with fail
  have BR : Blk ((w.alloc (.cells #[.int .i64 0, .slice none 0 0] 27)).alloc (.cells #[.int .i64 0, .slice none 0 0] 27)) w.heap.size 27 #[.int .i64 0, .slice none 0 0] := made12 w
  have BV : Blk ((w.alloc (.cells #[.int .i64 0, .slice none 0 0] 27)).alloc (.cells #[.int .i64 0, .slice none 0 0] 27)) (w.heap.size + 1) 27 #[.int .i64 0, .slice none 0 0] := Blk.made' (by simp)
  have hbW : Below w.heap.size w ((w.alloc (.cells #[.int .i64 0, .slice none 0 0] 27)).alloc (.cells #[.int .i64 0, .slice none 0 0] 27)) := by (repeat (first | with_reducible exact Below.refl _ _ | with_reducible assumption | with_reducible refine Below.setCell ?_ (by first | (simp; done) | (simp; omega)) _ | with_reducible refine below_alloc ?_ _ | with_reducible refine below_drewN ?_ _ | with_reducible refine Below.drew ?_ | with_reducible refine below_step ?_ (by assumption)))
  have hsW : w.heap.size + 2 ≤ ((w.alloc (.cells #[.int .i64 0, .slice none 0 0] 27)).alloc (.cells #[.int .i64 0, .slice none 0 0] 27)).heap.size := by simp
  generalize hW : World.alloc (World.alloc w _) _ = W at *
  have HB := Lib.hid (And.intro BR (And.intro BV hbW))
  clear hW BR BV hbW b0 b1
  go_loopw [5] (fun iv wr => InLoop W (w.heap.size + 1) n iv wr) (fun iv _ => ((n : Int) - intOf iv).toNat)
  case atStart => exact ⟨0, by omega, rfl, Lib.hid ⟨_, HB.out.2.1, (World.ownsRow_nil _ _ _ _ : W.ownsRow W.heap.size 75 3 (.slice none 0 0) 0 []), Over.refl _ _⟩⟩
  case round =>
    obtain ⟨j, hj, rfl, H⟩ := hrel
    obtain ⟨v, hb, hown, ho⟩ := H.out
    obtain ⟨pv, cv, rfl⟩ := own_shape hown
    have hsz := ho.size
    have kb := hb.cell
    have fb := hb.free
    have lb := hb.lt
    have BR2 := HB.out.1.grown ho (fun e => by injection e with e; omega)
    have HX := Lib.hid (And.intro hb (And.intro hown (And.intro ho BR2)))
    clear H hb hown ho
    by_cases hj2 : j < n
    · have b1 : decide ((j : Int) < n) = true := by simp; omega
      clear BR2
      go_wp2_with (at_builtin; refine halt ?_)
      refine unhalt ?_
      refine wpList_append_mine rfl (.tmp 20) (.tmp 23) 25 rfl W.heap.size 75 i0 _ 3 24 Tryz.underlying25 hi hz0 hz1 hz2 rfl (by decide) (.slice pv j cv) j (memCells j) rfl
        (own_below HX.out.2.1 (below_alloc (Below.refl _ _) _)) ⟨wr.heap.size, 0, none⟩ 1 1 [.int .i64 (j : Int), .int .i64 1, .bool true] rfl rfl (lit_news (o := 0) (cs := #[.int .i64 (j : Int), .int .i64 1, .bool true]) (Blk.made _ _ _))
        (by intro u hu; simp at hu; rcases hu with rfl | rfl | rfl <;> rfl) (by omega) (by unfold maxLen; omega) (by omega) (by simp; omega) ?_
      intro g6 c6 w6 hown6 hg6
      have hown0 := own_below HX.out.2.1 (below_alloc (Below.refl wr.heap.size wr) (.cells #[.int .i64 (j : Int), .int .i64 1, .bool true] 75))
      have B6 : Blk w6 (w.heap.size + 1) 27 #[.int .i64 0, .slice pv j cv] := (HX.out.1.alloc _).grown hg6 (own_ne hown0 (by omega))
      have ho6 := Over.grown2 (HX.out.2.2.1.alloc (.cells #[.int .i64 (j : Int), .int .i64 1, .bool true] 75)) hg6 (fun k hk => own_row_ge hown0 k hk)
      have hg6b := (own_blk hown6).1
      have k6 := B6.cell
      have f6 := B6.free
      have l6 := B6.lt
      have HN : Hid (InLoop W (w.heap.size + 1) n (.int .i64 ((j + 1 : Nat) : Int)) (w6.setCell ⟨w.heap.size + 1, 1, none⟩ (.slice (some ⟨g6, 0, none⟩) (j + 1) c6))) := Lib.hid ⟨j + 1, by omega, rfl, Lib.hid ⟨_, (B6.put 1 (.slice (some ⟨g6, 0, none⟩) (j + 1) c6)).cast rfl, own_set (own_cast hown6 rfl (memCells_succ j).symm) (by simp [Value.ownBlock]; omega) _, ho6.put 1 _⟩⟩
      clear kb fb lb hown6 hg6 hown0 B6 ho6
      go_wp2_with fail
      have := HN.out
      exact ⟨by simpa using this, by simp [intOf]; omega⟩
    · have b1 : ¬ (j : Int) < n := by omega
      have kr := BR2.cell
      have fr := BR2.free
      have lr := BR2.lt
      clear BR2
      go_wp2_with fail
      obtain rfl : j = n := by omega
      obtain ⟨hb, hown, ho, BR2⟩ := HX.out
      have h1 := HB.out.2.2
      refine bodyPost_ret (results_bt rfl _ _ w.heap.size _ _ _ rfl (Blk.all2 BR2 _ _) Tryz.underlying27 rfl (by kernel_rfl)) rfl ⟨⟨_, rfl, ?_⟩, ?_⟩
      · exact own_set (own_set (own_base hown h1.size) (by have := (own_row_ge hown); intro e; have := this _ e; simp at this; omega) _) (by have := (own_row_ge hown); intro e; have := this _ e; simp at this; omega) _
      · have h2 : Over (w.heap.size + 1) W ((wr.setCell ⟨w.heap.size, 0, none⟩ (.int .i64 0)).setCell ⟨w.heap.size, 1, none⟩ (.slice pv j cv)) → True := fun _ => trivial
        refine ⟨ho.os.trans h1.os, ho.tape.trans h1.tape, ho.output.trans h1.output, ?_, fun k hk => ?_⟩
        · simp; omega
        · rw [heap_setCell_other _ _ _ _ (by simp; omega), heap_setCell_other _ _ _ _ (by simp; omega)]
          exact (ho.block k (by omega) (fun e => by injection e with e; omega)).trans (h1.block k hk)

set_option maxRecDepth 10000 in
set_option maxHeartbeats 2000000 in
theorem start_ok (n : Nat) (w : World) (hn : 1 ≤ n) (hn4 : n ≤ 4) : Calls Tryz.prog 7 #[.int .i64 n] w fun e w' => (∃ v, e = .returned (.agg #[.int .i64 0, v]) ∧ w'.ownsRow w.heap.size 75 3 v n (memCells n)) ∧ Below w.heap.size w w' := by
  go_enter Tryz.func7, Tryz.ntmps7
  go_wp2_with fail
  go_at_call 15
  refine (initial_ok n _ hn hn4).mono ?_
  rintro e w1 ⟨⟨v, rfl, hown⟩, hb⟩
  obtain ⟨p, c, rfl⟩ := own_shape hown
  have BR1 := (Blk.made w 27 #[.int .i64 0, .slice none 0 0]).kept hb
  have hbw : Below w.heap.size w w1 := by (repeat (first | with_reducible exact Below.refl _ _ | with_reducible assumption | with_reducible refine Below.setCell ?_ (by first | (simp; done) | (simp; omega)) _ | with_reducible refine below_alloc ?_ _ | with_reducible refine below_drewN ?_ _ | with_reducible refine Below.drew ?_ | with_reducible refine below_step ?_ (by assumption)))
  have kr := BR1.cell
  have fr := BR1.free
  have lr := BR1.lt
  have HX := Lib.hid (And.intro hown (And.intro BR1 hbw))
  clear hown BR1 hbw hb
  go_wp2_with fail
  obtain ⟨hown, BR1, hbw⟩ := HX.out
  have hge := own_row_ge hown
  refine bodyPost_ret (results_b rfl _ _ w.heap.size _ _ _ rfl ((Blk.all2 BR1 _ _).alloc _) Tryz.underlying27 rfl (by kernel_rfl)) rfl ⟨⟨_, rfl, ?_⟩, by (repeat (first | with_reducible exact Below.refl _ _ | with_reducible assumption | with_reducible refine Below.setCell ?_ (by first | (simp; done) | (simp; omega)) _ | with_reducible refine below_alloc ?_ _ | with_reducible refine below_drewN ?_ _ | with_reducible refine Below.drew ?_ | with_reducible refine below_step ?_ (by assumption)))⟩
  refine own_below (own_set (own_set (own_base hown (by simp)) (fun e => ?_) _) (fun e => ?_) _) (below_alloc (Below.refl _ _) _)
  · have := hge _ e; simp at this; omega
  · have := hge _ e; simp at this; omega
end Go.Proofs.YtoidjgongafnkaaGreatDoor
