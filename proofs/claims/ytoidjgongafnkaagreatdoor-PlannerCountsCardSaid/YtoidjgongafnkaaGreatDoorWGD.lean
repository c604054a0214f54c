/- The text of a program of one statement: its words. -/
import Derived.Test.YtoidjgongafnkaaGreatDoorQa
import Derived.Laws.BytesString
import Derived.Laws.BytesArg
set_option linter.unusedVariables false
set_option linter.unusedSimpArgs false
set_option linter.unusedSectionVars false
set_option linter.constructorNameAsVariable false
namespace Go.Proofs.YtoidjgongafnkaaGreatDoor
open Go.RowKit

theorem info5 : (Tryz.prog.info? 5).map (fun i => (i.zero, i.size, i.bytes)) = some (some (.int .u8 0), 1, 1) := by kernel_rfl
theorem info9 : (Tryz.prog.info? 9).map (fun i => (i.zero, i.size, i.bytes)) = some (some (.string ⟨#[]⟩), 1, 16) := by kernel_rfl

/-- slices.Reverse of one byte. -/
theorem reverse_one (g cap : Nat) (w : World) : Calls Tryz.prog 196 #[.slice (some ⟨g, 0, none⟩) 1 cap] w fun e w' => e = .returned (.tuple #[]) ∧ w = w' := by
  go_enter Tryz.func196, Tryz.ntmps196
  go_wp2
  refine wp_loop_rounds 1 ?_
  rw [rounds_succ]
  go_wp2
  go_end0
  exact ⟨rfl, rfl⟩

set_option maxRecDepth 100000 in
theorem decimal_any (w : World) : Calls Tryz.prog 133 #[.int .i64 5] w fun e w' => e = .returned (.string ⟨#[53]⟩) ∧ Below w.heap.size w w' := by
  obtain ⟨i0, hi, hz0, hz1, hz2⟩ := info_parts info5
  go_enter Tryz.func133, Tryz.ntmps133
  go_wp2
  refine wp_loop_rounds 2 ?_
  rw [rounds_succ]
  go_wp2_with (at_builtin; refine halt ?_)
  refine unhalt ?_
  refine wpList_append_mine rfl (.tmp 19) (.tmp 24) 236 rfl w.heap.size 5 i0 _ 1 1 Tryz.underlying236 hi hz0 hz1 hz2 rfl (by decide) (.slice none 0 0) 0 [] rfl (World.ownsRow_nil _ _ _ _) ⟨w.heap.size, 0, none⟩ 1 1 [.int .u8 53] rfl rfl (one_news (by simp)) ?c2 (by omega) (by unfold maxLen; omega) (by omega) (by simp) ?_
  rotate_right
  intro g cap w1 hown hg
  case c2 => simp [Value.oneCell']
  have hc := own_cells hown
  have hl := own_lt hown
  simp only [Nat.zero_add, List.nil_append] at hown hc
  have hc0 := hc 0 _ rfl
  have hfin : Below w.heap.size w w1 := below_grown (below_alloc (Below.refl _ _) _) hg (by simp [Value.ownBlock])
  clear hc hg
  go_wp2
  have hcv : (convert 236 9 (.slice (some ⟨g, 0, none⟩) 1 cap)).run Tryz.prog w1 = .ok (.string ⟨#[53]⟩) w1 :=
    run_convert_bytes_arg (P := Tryz.prog) w1 236 5 Tryz.underlying236 Tryz.underlying5 g 0 1 cap [53] rfl (fun i hi => by obtain rfl : i = 0 := by omega
                                                                                                                           exact hc0) 9 Tryz.underlying9
  rw [rounds_succ]
  go_wp2_with (go_at_call 196; refine (reverse_one _ _ _).mono ?_; rintro e w2 ⟨rfl, rfl⟩)
  go_ret
  exact ⟨rfl, hfin⟩
set_option maxRecDepth 100000 in
theorem decimal_zero (w : World) : Calls Tryz.prog 133 #[.int .i64 0] w fun e w' => e = .returned (.string ⟨#[48]⟩) ∧ Below w.heap.size w w' := by
  obtain ⟨i0, hi, hz0, hz1, hz2⟩ := info_parts info5
  go_enter Tryz.func133, Tryz.ntmps133
  go_wp2
  refine wp_loop_rounds 2 ?_
  rw [rounds_succ]
  go_wp2_with (at_builtin; refine halt ?_)
  refine unhalt ?_
  refine wpList_append_mine rfl (.tmp 19) (.tmp 24) 236 rfl w.heap.size 5 i0 _ 1 1 Tryz.underlying236 hi hz0 hz1 hz2 rfl (by decide) (.slice none 0 0) 0 [] rfl (World.ownsRow_nil _ _ _ _) ⟨w.heap.size, 0, none⟩ 1 1 [.int .u8 48] rfl rfl (one_news (by simp)) ?c2 (by omega) (by unfold maxLen; omega) (by omega) (by simp) ?_
  rotate_right
  intro g cap w1 hown hg
  case c2 => simp [Value.oneCell']
  have hc := own_cells hown
  have hl := own_lt hown
  simp only [Nat.zero_add, List.nil_append] at hown hc
  have hc0 := hc 0 _ rfl
  have hfin : Below w.heap.size w w1 := below_grown (below_alloc (Below.refl _ _) _) hg (by simp [Value.ownBlock])
  clear hc hg
  go_wp2
  have hcv : (convert 236 9 (.slice (some ⟨g, 0, none⟩) 1 cap)).run Tryz.prog w1 = .ok (.string ⟨#[48]⟩) w1 :=
    run_convert_bytes_arg (P := Tryz.prog) w1 236 5 Tryz.underlying236 Tryz.underlying5 g 0 1 cap [48] rfl (fun i hi => by obtain rfl : i = 0 := by omega
                                                                                                                           exact hc0) 9 Tryz.underlying9
  rw [rounds_succ]
  go_wp2_with (go_at_call 196; refine (reverse_one _ _ _).mono ?_; rintro e w2 ⟨rfl, rfl⟩)
  go_ret
  exact ⟨rfl, hfin⟩

end Go.Proofs.YtoidjgongafnkaaGreatDoor
