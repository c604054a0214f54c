/- slices.SortFunc on at most two pages, which are in order. slices.Insert of one entry behind the last one. -/
import Derived.Test.YtjmpekanlmepmaaGreatDoorWShelf
import Derived.Test.YtjmpekanlmepmaaGreatDoorQg
import Derived.Test.YtjmpekanlmepmaaGreatDoorWD1
set_option linter.unusedVariables false
set_option linter.unusedSimpArgs false
set_option linter.unusedSectionVars false
set_option linter.constructorNameAsVariable false
namespace Go.Proofs.YtjmpekanlmepmaaGreatDoor
open Go.RowKit

def cmpPage : Value := .func (.func 60) #[] #[]

theorem cmpPage_any (p q : Bt.Page) (w : World) : Calls Tryz.prog 60 #[.agg p.cells, .agg q.cells] w fun e w' => e = .returned (.int .i64 (Lib.compareInt p.line q.line)) ∧ Below w.heap.size w w' := by
  unfold Bt.Page.cells
  go_enter Tryz.func60, Tryz.ntmps60
  go_wp2_with (go_at_call 61; refine (Tryz.cmp_Compare_int p.line q.line _).mono ?_; rintro e w1 ⟨rfl, hw⟩; subst hw)
  go_ret
  exact ⟨rfl, by (repeat (first | with_reducible exact Below.refl _ _ | with_reducible assumption | with_reducible refine Below.setCell ?_ (by first | (simp; done) | (simp; omega)) _ | with_reducible refine below_alloc ?_ _ | with_reducible refine below_drewN ?_ _ | with_reducible refine Below.drew ?_ | with_reducible refine below_step ?_ (by assumption)))⟩

theorem isort0 (p : Option Addr) (cap : Nat) (w : World) : Calls Tryz.prog 111 #[.slice p 0 cap, .int .i64 0, .int .i64 0, cmpPage] w fun e w' => e = .returned (.tuple #[]) ∧ Below w.heap.size w w' := by
  unfold cmpPage
  go_enter Tryz.func111, Tryz.ntmps111
  go_wp2_with fail
  refine wp_loop_rounds 1 ?_
  rw [rounds_succ]
  go_wp2_with fail
  exact bodyPost_end (results_none rfl _ _ _) rfl ⟨rfl, by (repeat (first | with_reducible exact Below.refl _ _ | with_reducible assumption | with_reducible refine Below.setCell ?_ (by first | (simp; done) | (simp; omega)) _ | with_reducible refine below_alloc ?_ _ | with_reducible refine below_drewN ?_ _ | with_reducible refine Below.drew ?_ | with_reducible refine below_step ?_ (by assumption)))⟩
theorem isort1 (p : Option Addr) (cap : Nat) (w : World) : Calls Tryz.prog 111 #[.slice p 1 cap, .int .i64 0, .int .i64 1, cmpPage] w fun e w' => e = .returned (.tuple #[]) ∧ Below w.heap.size w w' := by
  unfold cmpPage
  go_enter Tryz.func111, Tryz.ntmps111
  go_wp2_with fail
  refine wp_loop_rounds 1 ?_
  rw [rounds_succ]
  go_wp2_with fail
  exact bodyPost_end (results_none rfl _ _ _) rfl ⟨rfl, by (repeat (first | with_reducible exact Below.refl _ _ | with_reducible assumption | with_reducible refine Below.setCell ?_ (by first | (simp; done) | (simp; omega)) _ | with_reducible refine below_alloc ?_ _ | with_reducible refine below_drewN ?_ _ | with_reducible refine Below.drew ?_ | with_reducible refine below_step ?_ (by assumption)))⟩
theorem isort2 (g cap base : Nat) (p q : Bt.Page) (hpq : p.line ≤ q.line) (w : World) (h : w.ownsRow base 25 9 (.slice (some ⟨g, 0, none⟩) 2 cap) 2 (pageCells [p, q])) :
    Calls Tryz.prog 111 #[.slice (some ⟨g, 0, none⟩) 2 cap, .int .i64 0, .int .i64 2, cmpPage] w fun e w' => e = .returned (.tuple #[]) ∧ Below w.heap.size w w' := by
  have hlt := (own_lt h).2
  have hr0 : w.rangeAt g (0 * 9) p.cells.toList := fun j u hu => by
    have hj : j < 9 := by have := (List.getElem?_eq_some_iff.1 hu).1; simpa [Bt.Page.cells] using this
    refine own_cells h _ _ ?_
    rw [Nat.zero_mul, Nat.zero_add]
    simp only [pageCells, List.flatMap_cons]
    rw [List.getElem?_append_left (by simpa [Bt.Page.cells] using hj)]
    exact hu
  have hr1 : w.rangeAt g (1 * 9) q.cells.toList := fun j u hu => by
    have hj : j < 9 := by have := (List.getElem?_eq_some_iff.1 hu).1; simpa [Bt.Page.cells] using this
    refine own_cells h _ _ ?_
    simp only [pageCells, List.flatMap_cons]
    rw [List.getElem?_append_right (by simp [Bt.Page.cells])]
    have e1 : 1 * 9 + j - p.cells.toList.length = j := by simp [Bt.Page.cells]
    rw [e1, List.getElem?_append_left (by simpa [Bt.Page.cells] using hj)]
    exact hu
  obtain ⟨c0, c1, c2, c3, c4, c5, c6, c7, c8⟩ := nine hr0
  obtain ⟨d0, d1, d2, d3, d4, d5, d6, d7, d8⟩ := nine hr1
  have hcmp : decide (Lib.compareInt q.line p.line < 0) = false := by
    simp only [Lib.compareInt]
    split
    · omega
    · split <;> rfl
  simp only [Nat.zero_mul, Nat.zero_add, Nat.one_mul] at c0 c1 c2 c3 c4 c5 c6 c7 c8 d0 d1 d2 d3 d4 d5 d6 d7 d8
  clear h hr0 hr1
  have wr0 : IntKind.i64.wrap 0 = 0 := by rfl
  unfold cmpPage
  go_enter Tryz.func111, Tryz.ntmps111
  go_wp2_with fail
  refine wp_loop_rounds 2 ?_
  rw [rounds_succ]
  go_wp2_with fail
  refine wp_loop_rounds 1 ?_
  rw [rounds_succ]
  go_wp2_with fail
  refine wp_region_held_drew (S := SteadyAll _) (by kernel_rfl) (SteadyAll.of (Below.refl _ _).drew) ?_
  intro hSt
  refine wpAnyH_seq (is := [0, 1, 2, 3, 4, 5, 6, 7, 8, 9, 10, 11, 12, 13]) (by kernel_rfl) (by kernel_rfl) (fun _ _ d _ _ h => by cases d <;> exact h) (by assumption) ?_
  iterate 14 (first | (refine TakeSeq.step (v := undef) rfl (Or.inr ⟨by rfl, rfl⟩) ?_; simp only [Act.put, List.setIfInBounds_toArray, List.set_cons_zero, List.set_cons_succ, List.getElem_toArray, List.getElem_cons_zero, List.getElem_cons_succ]) | (refine TakeSeq.step (v := ?_) rfl (Or.inl ⟨by rfl, ?_⟩) ?_; rotate_left 1; (focus (intro wq hSq; have hrd := hSq.rule; go_simp; with_reducible rfl)); simp only [Act.put, List.setIfInBounds_toArray, List.set_cons_zero, List.set_cons_succ, List.getElem_toArray, List.getElem_cons_zero, List.getElem_cons_succ]))
  refine TakeSeq.done ?_
  refine wpAnyH_ready (rs := [14]) (by kernel_rfl) (by simp) ?_
  refine AllReadyH.cons rfl (fun K hK => ?_) (AllReadyH.nil)
  rw [if_pos (by rfl)]
  go_simp
  go_at_call 60; refine (cmpPage_any q p _).mono ?_; rintro e w1 ⟨rfl, hb⟩; ((obtain ⟨hc1, hf1⟩ := below_rules hb; have hs1 := Below.size hb; try simp only [size_alloc, size_setCell, size_drew, size_drewN] at hs1 hc1 hf1); (try have z1_w_0 : w.heap.size < w1.heap.size := by omega))
  go_wp2_with fail
  refine hK.out _ _ (SteadyAll.of (by (repeat (first | with_reducible exact Below.refl _ _ | with_reducible assumption | with_reducible refine Below.setCell ?_ (by first | (simp; done) | (simp; omega)) _ | with_reducible refine below_alloc ?_ _ | with_reducible refine below_drewN ?_ _ | with_reducible refine Below.drew ?_ | with_reducible refine below_step ?_ (by assumption))))) (fun hHeld => ?_)
  clear hK K
  refine wpAnyH_seq (is := [15, 16]) (by kernel_rfl) (by kernel_rfl) (fun _ _ d _ _ h => by cases d <;> exact h) (by assumption) ?_
  iterate 2 (first | (refine TakeSeq.step (v := undef) rfl (Or.inr ⟨by rfl, rfl⟩) ?_; simp only [Act.put, List.setIfInBounds_toArray, List.set_cons_zero, List.set_cons_succ, List.getElem_toArray, List.getElem_cons_zero, List.getElem_cons_succ]) | (refine TakeSeq.step (v := ?_) rfl (Or.inl ⟨by rfl, ?_⟩) ?_; rotate_left 1; (focus (intro wq hSq; have hrd := hSq.rule; go_simp; with_reducible rfl)); simp only [Act.put, List.setIfInBounds_toArray, List.set_cons_zero, List.set_cons_succ, List.getElem_toArray, List.getElem_cons_zero, List.getElem_cons_succ]))
  refine TakeSeq.done ?_
  refine wpAnyH_done (by kernel_rfl) ?_ _
  go_wp2_with fail
  rw [rounds_succ]
  go_wp2_with fail
  exact bodyPost_end (results_none rfl _ _ _) rfl ⟨rfl, by (repeat (first | with_reducible exact Below.refl _ _ | with_reducible assumption | with_reducible refine Below.setCell ?_ (by first | (simp; done) | (simp; omega)) _ | with_reducible refine below_alloc ?_ _ | with_reducible refine below_drewN ?_ _ | with_reducible refine Below.drew ?_ | with_reducible refine below_step ?_ (by assumption)))⟩

theorem pdq0 (v : Value) (lim : Int) (w : World) (h : Hid (Calls Tryz.prog 111 #[v, .int .i64 0, .int .i64 0, cmpPage] w fun e w' => e = .returned (.tuple #[]) ∧ Below w.heap.size w w')) :
    Calls Tryz.prog 95 #[v, .int .i64 0, .int .i64 0, .int .i64 lim, cmpPage] w fun e w' => e = .returned (.tuple #[]) ∧ Below w.heap.size w w' := by
  unfold cmpPage at h ⊢
  go_enter Tryz.func95, Tryz.ntmps95
  go_wp2_with fail
  refine wp_loop_rounds 1 ?_
  rw [rounds_succ]
  go_wp2_with fail
  go_at_call 111; refine h.out.mono ?_; rintro e w1 ⟨rfl, hb⟩
  go_wp2_with fail
  exact bodyPost_ret (results_none rfl _ _ _) rfl ⟨rfl, hb⟩

theorem pdq1 (v : Value) (lim : Int) (w : World) (h : Hid (Calls Tryz.prog 111 #[v, .int .i64 0, .int .i64 1, cmpPage] w fun e w' => e = .returned (.tuple #[]) ∧ Below w.heap.size w w')) :
    Calls Tryz.prog 95 #[v, .int .i64 0, .int .i64 1, .int .i64 lim, cmpPage] w fun e w' => e = .returned (.tuple #[]) ∧ Below w.heap.size w w' := by
  unfold cmpPage at h ⊢
  go_enter Tryz.func95, Tryz.ntmps95
  go_wp2_with fail
  refine wp_loop_rounds 1 ?_
  rw [rounds_succ]
  go_wp2_with fail
  go_at_call 111; refine h.out.mono ?_; rintro e w1 ⟨rfl, hb⟩
  go_wp2_with fail
  exact bodyPost_ret (results_none rfl _ _ _) rfl ⟨rfl, hb⟩

theorem pdq2 (v : Value) (lim : Int) (w : World) (h : Hid (Calls Tryz.prog 111 #[v, .int .i64 0, .int .i64 2, cmpPage] w fun e w' => e = .returned (.tuple #[]) ∧ Below w.heap.size w w')) :
    Calls Tryz.prog 95 #[v, .int .i64 0, .int .i64 2, .int .i64 lim, cmpPage] w fun e w' => e = .returned (.tuple #[]) ∧ Below w.heap.size w w' := by
  unfold cmpPage at h ⊢
  go_enter Tryz.func95, Tryz.ntmps95
  go_wp2_with fail
  refine wp_loop_rounds 1 ?_
  rw [rounds_succ]
  go_wp2_with fail
  go_at_call 111; refine h.out.mono ?_; rintro e w1 ⟨rfl, hb⟩
  go_wp2_with fail
  exact bodyPost_ret (results_none rfl _ _ _) rfl ⟨rfl, hb⟩

/-- Sorted already. -/
def SortedRow (w : World) (v : Value) (l : List Bt.Page) : Prop := (∃ p cap, v = .slice p 0 cap) ∨ (∃ p cap, v = .slice p 1 cap) ∨ ∃ g cap base p q, v = .slice (some ⟨g, 0, none⟩) 2 cap ∧ l = [p, q] ∧ p.line ≤ q.line ∧ w.ownsRow base 25 9 v 2 (pageCells l)
set_option maxHeartbeats 1000000 in
theorem sortFunc_sorted (v : Value) (l : List Bt.Page) (w : World) (h : SortedRow w v l) : Calls Tryz.prog 59 #[v, cmpPage] w fun e w' => e = .returned (.tuple #[]) ∧ Below w.heap.size w w' := by
  rcases h with ⟨p, cap, rfl⟩ | ⟨p, cap, rfl⟩ | ⟨g, cap, base, p, q, rfl, rfl, hpq, hown⟩
  · have HH := Lib.hid (pdq0 (.slice p 0 cap) (Lib.bitLen 0) w (Lib.hid (isort0 p cap w)))
    unfold cmpPage at HH ⊢
    go_enter Tryz.func59, Tryz.ntmps59
    go_wp2_with fail
    go_at_call 96; refine (Tryz.bits_Len 0 _ (by omega) (by omega)).mono ?_; rintro e w1 ⟨rfl, hw⟩; obtain rfl : w = w1 := hw.symm; clear hw
    go_wp2_with fail
    go_at_call 95; refine HH.out.mono ?_; rintro e w1 ⟨rfl, hb⟩
    go_wp2_with fail
    exact bodyPost_end (results_none rfl _ _ _) rfl ⟨rfl, hb⟩
  · have HH := Lib.hid (pdq1 (.slice p 1 cap) (Lib.bitLen 1) w (Lib.hid (isort1 p cap w)))
    unfold cmpPage at HH ⊢
    go_enter Tryz.func59, Tryz.ntmps59
    go_wp2_with fail
    go_at_call 96; refine (Tryz.bits_Len 1 _ (by omega) (by omega)).mono ?_; rintro e w1 ⟨rfl, hw⟩; obtain rfl : w = w1 := hw.symm; clear hw
    go_wp2_with fail
    go_at_call 95; refine HH.out.mono ?_; rintro e w1 ⟨rfl, hb⟩
    go_wp2_with fail
    exact bodyPost_end (results_none rfl _ _ _) rfl ⟨rfl, hb⟩
  · have HH := Lib.hid (pdq2 (.slice (some ⟨g, 0, none⟩) 2 cap) (Lib.bitLen 2) w (Lib.hid (isort2 g cap base p q hpq w hown)))
    unfold cmpPage at HH ⊢
    go_enter Tryz.func59, Tryz.ntmps59
    go_wp2_with fail
    go_at_call 96; refine (Tryz.bits_Len 2 _ (by omega) (by omega)).mono ?_; rintro e w1 ⟨rfl, hw⟩; obtain rfl : w = w1 := hw.symm; clear hw
    go_wp2_with fail
    go_at_call 95; refine HH.out.mono ?_; rintro e w1 ⟨rfl, hb⟩
    go_wp2_with fail
    exact bodyPost_end (results_none rfl _ _ _) rfl ⟨rfl, hb⟩
end Go.Proofs.YtjmpekanlmepmaaGreatDoor
namespace Go.Proofs.YtjmpekanlmepmaaGreatDoor
open Go.RowKit


def InsPost (base g n : Nat) (es : List Bt.Entry) (e : Bt.Entry) (w : World) (r : Ending) (w' : World) : Prop :=
  ∃ g' cap', r = .returned (.slice (some ⟨g', 0, none⟩) (n + 1) cap') ∧ w'.ownsRow base 69 3 (.slice (some ⟨g', 0, none⟩) (n + 1) cap') (n + 1) (entCells (es ++ [e])) ∧ w.grownBy w' (some g)

set_option maxHeartbeats 1000000 in
set_option maxRecDepth 10000 in
theorem insert_end (base g n cap gE : Nat) (es : List Bt.Entry) (e : Bt.Entry) (w : World) (hown : w.ownsRow base 69 3 (.slice (some ⟨g, 0, none⟩) n cap) n (entCells es)) (hn : n ≤ 1000) (hbase : base ≤ w.heap.size)
    (h0 : w.cell? ⟨gE, 0, none⟩ = some (.int .u32 e.key)) (h1 : w.cell? ⟨gE, 1, none⟩ = some (.int .i64 e.to.line)) (h2 : w.cell? ⟨gE, 2, none⟩ = some (.int .i64 e.to.gen)) :
    Calls Tryz.prog 87 #[.slice (some ⟨g, 0, none⟩) n cap, .int .i64 n, .slice (some ⟨gE, 0, none⟩) 1 1] w (InsPost base g n es e w) := by
  obtain ⟨i0, hi, hz0, hz1, hz2⟩ := info_parts infoEntry
  have HO := Lib.hid hown
  have hcap := own_cap hown
  have b1 : ((n : Int) == (n : Int)) = true := by simp
  have b2 : (0 : Int) ≤ (n : Int) := by omega
  have b3 : (n : Int) ≤ (n : Int) := Int.le_refl _
  clear hown
  by_cases hcn : n = cap
  · subst hcn
    go_enter Tryz.func87, Tryz.ntmps87
    go_wp2_with (at_builtin; refine halt ?_)
    all_goals
      refine unhalt ?_
      refine wpList_append_mine rfl (.tmp 23) (.tmp 24) 61 rfl base 69 i0 _ 3 24 Tryz.underlying61 hi hz0 hz1 hz2 rfl (by decide) _ n (entCells es) rfl HO.out ⟨gE, 0, none⟩ 1 1
        [.int .u32 e.key, .int .i64 e.to.line, .int .i64 e.to.gen] rfl rfl (three_news h0 h1 h2) (by intro u hu; simp at hu; rcases hu with rfl | rfl | rfl <;> rfl) (by omega) (by unfold maxLen; omega) (by omega) hbase ?_
      intro g3 cap3 w3 hown3 hg3
      go_wp2
      refine bodyPost_ret (results_tmp rfl _ _ _) rfl ⟨g3, cap3, rfl, ?_, hg3⟩
      rw [entCells_append]
      exact hown3
  · have hcn2 : ¬ cap = n := fun h => hcn h.symm
    have hcn3 : n < cap := by omega
    go_enter Tryz.func87, Tryz.ntmps87
    go_wp2_with (at_builtin; refine halt ?_)
    all_goals
      refine unhalt ?_
      refine wpList_append_mine rfl (.tmp 23) (.tmp 24) 61 rfl base 69 i0 _ 3 24 Tryz.underlying61 hi hz0 hz1 hz2 rfl (by decide) _ n (entCells es) rfl HO.out ⟨gE, 0, none⟩ 1 1
        [.int .u32 e.key, .int .i64 e.to.line, .int .i64 e.to.gen] rfl rfl (three_news h0 h1 h2) (by intro u hu; simp at hu; rcases hu with rfl | rfl | rfl <;> rfl) (by omega) (by unfold maxLen; omega) (by omega) hbase ?_
      intro g3 cap3 w3 hown3 hg3
      go_wp2
      refine bodyPost_ret (results_tmp rfl _ _ _) rfl ⟨g3, cap3, rfl, ?_, hg3⟩
      rw [entCells_append]
      exact hown3
end Go.Proofs.YtjmpekanlmepmaaGreatDoor
