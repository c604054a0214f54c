/- The reference writes the root page; a page compared with itself. -/
import Derived.Test.YtjmpekanlmepmaaGreatDoorQm
import Derived.Test.YtjmpekanlmepmaaGreatDoorQd
set_option linter.unusedVariables false
set_option linter.unusedSimpArgs false
set_option linter.unusedSectionVars false
set_option linter.constructorNameAsVariable false
namespace Go.Proofs.YtjmpekanlmepmaaGreatDoor
open Go.RowKit

theorem eql_rptr (a b c d : Int) (w : World) : (binOp .eql 34 (.agg #[.int .i64 a, .int .i64 b]) (.agg #[.int .i64 c, .int .i64 d])).run Tryz.prog w = .ok (.bool (peq a b c d)) w := by
  simp [go_sem, peq]
  by_cases h1 : a = c <;> by_cases h2 : b = d <;> simp [h1, h2]
theorem neq_rptr (a b c d : Int) (w : World) : (binOp .neq 34 (.agg #[.int .i64 a, .int .i64 b]) (.agg #[.int .i64 c, .int .i64 d])).run Tryz.prog w = .ok (.bool (!peq a b c d)) w := by
  simp [go_sem, peq]
  by_cases h1 : a = c <;> by_cases h2 : b = d <;> simp [h1, h2]
theorem eql_words_self (a0 a1 a2 a3 a4 a5 a6 : Int) (w : World) :
    (binOp .eql 23 (.agg #[.int .u64 a0, .int .u64 a1, .int .u64 a2, .int .u64 a3, .int .u64 a4, .int .u64 a5, .int .u64 a6]) (.agg #[.int .u64 a0, .int .u64 a1, .int .u64 a2, .int .u64 a3, .int .u64 a4, .int .u64 a5, .int .u64 a6])).run Tryz.prog w =
      .ok (.bool true) w := by
  obtain ⟨i, hi, _, hsz, _⟩ := info_parts infoWord
  have hc : Tryz.prog.cellsOf 22 = 1 := by kernel_rfl
  have hu : Tryz.prog.underlying 22 = some (.int .u64) := by kernel_rfl
  rw [run_eql_struct, run_equalIn_array (d := 9999) (hu := Tryz.underlying23) (hi := hi), hc]
  simp [Op.eqItems, List.range, List.range.loop, go_sem, hu]

set_option maxRecDepth 10000 in
set_option maxHeartbeats 1000000 in
theorem same_self (p : Bt.Page) (w : World) : Calls Tryz.prog 20 #[.agg p.cells, .agg p.cells] w fun e w' => e = .returned (.bool true) ∧ Below w.heap.size w w' := by
  have e1 : (p.line == p.line) = true := by simp
  have e2 : (p.head == p.head) = true := by simp
  have e3 := eql_words_self
  unfold Bt.Page.cells
  go_enter Tryz.func20, Tryz.ntmps20
  go_wp2_with fail
  go_ret
  exact ⟨rfl, by (repeat (first | with_reducible exact Below.refl _ _ | with_reducible assumption | with_reducible refine Below.setCell ?_ (by first | (simp; done) | (simp; omega)) _ | with_reducible refine below_alloc ?_ _ | with_reducible refine below_drewN ?_ _ | with_reducible refine Below.drew ?_ | with_reducible refine below_step ?_ (by assumption)))⟩

/-- What writing the root page gives: the page and the code. -/
def rootWritten (p : Bt.Page) (q : Bt.Ptr) (l : Int) : Bt.Page × Int := if p.line = 96 ∧ Bt.validRoot q l = true then (Bt.writeRoot p q l, 0) else (Bt.zeroPage, 1)
def RefWrites (p : Bt.Page) (q : Bt.Ptr) (l : Int) (w : World) : Prop := Calls Tryz.prog 18 #[.agg p.cells, .agg q.cells, .int .i64 l] w fun e w' => e = .returned (.tuple #[.agg (rootWritten p q l).1.cells, .int .i64 (rootWritten p q l).2]) ∧ Below w.heap.size w w'
theorem rootWritten_bad (p : Bt.Page) (q : Bt.Ptr) (l : Int) (h : p.line ≠ 96 ∨ Bt.validRoot q l = false) : rootWritten p q l = (Bt.zeroPage, 1) := by
  unfold rootWritten
  rw [if_neg]
  rintro ⟨h1, h2⟩
  rcases h with h | h
  · exact h h1
  · rw [h] at h2; cases h2

set_option maxRecDepth 10000 in
set_option maxHeartbeats 1000000 in
theorem refWrite_early (p : Bt.Page) (q : Bt.Ptr) (l : Int) (w : World) (h : p.line ≠ 96 ∨ l < 0 ∨ 8 < l ∨ (q = Bt.nilP ∧ l ≠ 0)) : RefWrites p q l w := by
  have HX : Hid (rootWritten p q l = (Bt.zeroPage, 1)) := Lib.hid (rootWritten_bad p q l (by
    rcases h with h | h | h | h
    · exact .inl h
    · right; unfold Bt.validRoot; split
      · simp; omega
      · have : decide (0 ≤ l) = false := by simp; omega
        simp [this]
    · right; unfold Bt.validRoot; split
      · simp; omega
      · have : decide (l ≤ 8) = false := by simp; omega
        simp [this]
    · right; unfold Bt.validRoot; rw [if_pos h.1]; simp [h.2]))
  obtain ⟨b, hb⟩ : ∃ b, peq q.line q.gen 0 0 = b := ⟨_, rfl⟩
  have eq := eql_rptr
  unfold RefWrites Bt.Page.cells Bt.Ptr.cells
  by_cases h1 : p.line = 96
  · have c1 : (p.line != 96) = false := by simp [h1]
    by_cases h2 : l < 0
    · have c2 : decide (l < 0) = true := by simp [h2]
      clear h h1
      go_enter Tryz.func18, Tryz.ntmps18
      go_wp2_with fail
      rw [HX.out]
      refine bodyPost_ret (results_bt rfl _ _ (w.heap.size + 1 + 1) _ _ _ rfl (by (repeat (first | with_reducible exact made33 w | with_reducible apply Blk.put | with_reducible apply Blk.alloc | (with_reducible apply Blk.aside; (case hp => first | (simp; done) | (simp; omega))) | with_reducible apply Blk.drew | with_reducible refine Blk.kept ?_ (by assumption)))) Tryz.underlying25 rfl (by kernel_rfl)) rfl ⟨?_, by (repeat (first | with_reducible exact Below.refl _ _ | with_reducible assumption | with_reducible refine Below.setCell ?_ (by first | (simp; done) | (simp; omega)) _ | with_reducible refine below_alloc ?_ _ | with_reducible refine below_drewN ?_ _ | with_reducible refine Below.drew ?_ | with_reducible refine below_step ?_ (by assumption)))⟩
      rfl
    · have c2 : decide (l < 0) = false := by simp; omega
      by_cases h3 : 8 < l
      · have c3 : decide (8 < l) = true := by simp [h3]
        clear h h1
        go_enter Tryz.func18, Tryz.ntmps18
        go_wp2_with fail
        rw [HX.out]
        refine bodyPost_ret (results_bt rfl _ _ (w.heap.size + 1 + 1) _ _ _ rfl (by (repeat (first | with_reducible exact made33 w | with_reducible apply Blk.put | with_reducible apply Blk.alloc | (with_reducible apply Blk.aside; (case hp => first | (simp; done) | (simp; omega))) | with_reducible apply Blk.drew | with_reducible refine Blk.kept ?_ (by assumption)))) Tryz.underlying25 rfl (by kernel_rfl)) rfl ⟨?_, by (repeat (first | with_reducible exact Below.refl _ _ | with_reducible assumption | with_reducible refine Below.setCell ?_ (by first | (simp; done) | (simp; omega)) _ | with_reducible refine below_alloc ?_ _ | with_reducible refine below_drewN ?_ _ | with_reducible refine Below.drew ?_ | with_reducible refine below_step ?_ (by assumption)))⟩
        rfl
      · have c3 : decide (8 < l) = false := by simp; omega
        have h4 : q = Bt.nilP ∧ l ≠ 0 := by
          rcases h with h | h | h | h
          · exact absurd h1 h
          · exact absurd h h2
          · exact absurd h h3
          · exact h
        have hp : peq q.line q.gen 0 0 = true := by rw [peq_nil]; simp [h4.1]
        have c4 : (l != 0) = true := by simp [h4.2]
        clear h h1 h4 hb
        go_enter Tryz.func18, Tryz.ntmps18
        go_wp2_with fail
        rw [HX.out]
        refine bodyPost_ret (results_bt rfl _ _ (w.heap.size + 1 + 1) _ _ _ rfl (by (repeat (first | with_reducible exact made33 w | with_reducible apply Blk.put | with_reducible apply Blk.alloc | (with_reducible apply Blk.aside; (case hp => first | (simp; done) | (simp; omega))) | with_reducible apply Blk.drew | with_reducible refine Blk.kept ?_ (by assumption)))) Tryz.underlying25 rfl (by kernel_rfl)) rfl ⟨?_, by (repeat (first | with_reducible exact Below.refl _ _ | with_reducible assumption | with_reducible refine Below.setCell ?_ (by first | (simp; done) | (simp; omega)) _ | with_reducible refine below_alloc ?_ _ | with_reducible refine below_drewN ?_ _ | with_reducible refine Below.drew ?_ | with_reducible refine below_step ?_ (by assumption)))⟩
        rfl
  · have c1 : (p.line != 96) = true := by simp [h1]
    clear h h1
    go_enter Tryz.func18, Tryz.ntmps18
    go_wp2_with fail
    rw [HX.out]
    refine bodyPost_ret (results_bt rfl _ _ (w.heap.size + 1 + 1) _ _ _ rfl (by (repeat (first | with_reducible exact made33 w | with_reducible apply Blk.put | with_reducible apply Blk.alloc | (with_reducible apply Blk.aside; (case hp => first | (simp; done) | (simp; omega))) | with_reducible apply Blk.drew | with_reducible refine Blk.kept ?_ (by assumption)))) Tryz.underlying25 rfl (by kernel_rfl)) rfl ⟨?_, by (repeat (first | with_reducible exact Below.refl _ _ | with_reducible assumption | with_reducible refine Below.setCell ?_ (by first | (simp; done) | (simp; omega)) _ | with_reducible refine below_alloc ?_ _ | with_reducible refine below_drewN ?_ _ | with_reducible refine Below.drew ?_ | with_reducible refine below_step ?_ (by assumption)))⟩
    rfl

set_option maxRecDepth 10000 in
set_option maxHeartbeats 1000000 in
theorem refWrite_late (p : Bt.Page) (q : Bt.Ptr) (l : Int) (w : World) (h1 : p.line = 96) (h2 : 0 ≤ l) (h3 : l ≤ 8) (h4 : q = Bt.nilP → l = 0) : RefWrites p q l w := by
  have eq := eql_rptr
  have c1 : (p.line != 96) = false := by simp [h1]
  have c2 : decide (l < 0) = false := by simp; omega
  have c3 : decide (8 < l) = false := by simp; omega
  have e1 : IntKind.u64.wrap l = l := by rw [IntKind.wrap_u64]; omega
  have e2 : IntKind.u64.wrap (l * 4294967296) = l * 4294967296 := by rw [IntKind.wrap_u64]; omega
  have hpk := pack_bound q
  have e3 : IntKind.u64.wrap (Bt.pack q) = Bt.pack q := by rw [IntKind.wrap_u64]; omega
  have e4 : IntKind.u64.wrap (Bt.pack q + l * 4294967296) = Bt.pack q + l * 4294967296 := by rw [IntKind.wrap_u64]; omega
  unfold RefWrites Bt.Page.cells Bt.Ptr.cells
  by_cases hq : q = Bt.nilP
  · have HX : Hid (rootWritten p q l = (Bt.writeRoot p q l, 0)) := Lib.hid (by
      unfold rootWritten; rw [if_pos ⟨h1, by unfold Bt.validRoot; rw [if_pos hq]; simp [h4 hq]⟩])
    have hp : peq q.line q.gen 0 0 = true := by rw [peq_nil]; simp [hq]
    have c4 : (l != 0) = false := by simp [h4 hq]
    clear h1 hq h4
    go_enter Tryz.func18, Tryz.ntmps18
    go_wp2_with fail
    go_at_call 45; refine (refPack_any q.line q.gen _).mono ?_; rintro e w1 ⟨rfl, hb1⟩; ((obtain ⟨hc1, hf1⟩ := below_rules hb1; have hs1 := Below.size hb1; try simp only [size_alloc, size_setCell, size_drew, size_drewN] at hs1 hc1 hf1); (try have z1_w_0 : w.heap.size < w1.heap.size := by omega); (try have z1_w_1 : w.heap.size + 1 < w1.heap.size := by omega); (try have z1_w_2 : w.heap.size + 1 + 1 < w1.heap.size := by omega); (try have z1_w_3 : w.heap.size + 1 + 1 + 1 < w1.heap.size := by omega))
    go_wp2_with fail
    rw [HX.out]
    have BR := Blk.kept (b := w.heap.size + 1 + 1) (Blk.alloc (made33 w) _) hb1
    refine bodyPost_ret (results_bt rfl _ _ (w.heap.size + 1 + 1) _ _ _ rfl (by (repeat (first | with_reducible exact BR | with_reducible apply Blk.put | with_reducible apply Blk.alloc | (with_reducible apply Blk.aside; (case hp => first | (simp; done) | (simp; omega))) | with_reducible apply Blk.drew))) Tryz.underlying25 rfl (by kernel_rfl)) rfl ⟨?_, by (repeat (first | with_reducible exact Below.refl _ _ | with_reducible assumption | with_reducible refine Below.setCell ?_ (by first | (simp; done) | (simp; omega)) _ | with_reducible refine below_alloc ?_ _ | with_reducible refine below_drewN ?_ _ | with_reducible refine Below.drew ?_ | with_reducible refine below_step ?_ (by assumption)))⟩
    rw [set9]
    rfl
  · have hp : peq q.line q.gen 0 0 = false := by rw [peq_nil]; simp [hq]
    rcases hv : Bt.validP ⟨q.line, q.gen⟩ with _ | _
    · have HX : Hid (rootWritten p q l = (Bt.zeroPage, 1)) := Lib.hid (rootWritten_bad p q l (.inr (by unfold Bt.validRoot; rw [if_neg hq]; have : Bt.validP q = false := hv; simp [this])))
      have HV := Lib.hid hv
      clear h1 hq h4 hv
      go_enter Tryz.func18, Tryz.ntmps18
      go_wp2_with fail
      go_at_call 43; refine (ValidPointer_any _ _ _).mono ?_; rintro e w1 ⟨rfl, hb1⟩; rw [HV.out]; ((obtain ⟨hc1, hf1⟩ := below_rules hb1; have hs1 := Below.size hb1; try simp only [size_alloc, size_setCell, size_drew, size_drewN] at hs1 hc1 hf1); (try have z1_w_0 : w.heap.size < w1.heap.size := by omega); (try have z1_w_1 : w.heap.size + 1 < w1.heap.size := by omega); (try have z1_w_2 : w.heap.size + 1 + 1 < w1.heap.size := by omega))
      go_wp2_with fail
      rw [HX.out]
      have BR := Blk.kept (b := w.heap.size + 1 + 1) (made33 w) hb1
      refine bodyPost_ret (results_bt rfl _ _ (w.heap.size + 1 + 1) _ _ _ rfl (by (repeat (first | with_reducible exact BR | with_reducible apply Blk.put | with_reducible apply Blk.alloc | (with_reducible apply Blk.aside; (case hp => first | (simp; done) | (simp; omega))) | with_reducible apply Blk.drew))) Tryz.underlying25 rfl (by kernel_rfl)) rfl ⟨?_, by (repeat (first | with_reducible exact Below.refl _ _ | with_reducible assumption | with_reducible refine Below.setCell ?_ (by first | (simp; done) | (simp; omega)) _ | with_reducible refine below_alloc ?_ _ | with_reducible refine below_drewN ?_ _ | with_reducible refine Below.drew ?_ | with_reducible refine below_step ?_ (by assumption)))⟩
      rfl
    · have HX : Hid (rootWritten p q l = (Bt.writeRoot p q l, 0)) := Lib.hid (by
        unfold rootWritten; rw [if_pos ⟨h1, by unfold Bt.validRoot; rw [if_neg hq]; have : Bt.validP q = true := hv; simp [this, h2, h3]⟩])
      have HV := Lib.hid hv
      clear h1 hq h4 hv
      go_enter Tryz.func18, Tryz.ntmps18
      go_wp2_with fail
      go_at_call 43; refine (ValidPointer_any _ _ _).mono ?_; rintro e w1 ⟨rfl, hb1⟩; rw [HV.out]; ((obtain ⟨hc1, hf1⟩ := below_rules hb1; have hs1 := Below.size hb1; try simp only [size_alloc, size_setCell, size_drew, size_drewN] at hs1 hc1 hf1); (try have z1_w_0 : w.heap.size < w1.heap.size := by omega); (try have z1_w_1 : w.heap.size + 1 < w1.heap.size := by omega); (try have z1_w_2 : w.heap.size + 1 + 1 < w1.heap.size := by omega))
      go_wp2_with fail
      go_at_call 45; refine (refPack_any q.line q.gen _).mono ?_; rintro e w2 ⟨rfl, hb2⟩; ((obtain ⟨hc2, hf2⟩ := below_rules hb2; have hs2 := Below.size hb2; try simp only [size_alloc, size_setCell, size_drew, size_drewN] at hs2 hc2 hf2); (try have z2_w_0 : w.heap.size < w2.heap.size := by omega); (try have z2_w_1 : w.heap.size + 1 < w2.heap.size := by omega); (try have z2_w_2 : w.heap.size + 1 + 1 < w2.heap.size := by omega); (try have z2_w1_0 : w1.heap.size < w2.heap.size := by omega); (try have z2_w1_1 : w1.heap.size + 1 < w2.heap.size := by omega))
      go_wp2_with fail
      rw [HX.out]
      have BR := Blk.kept (Blk.alloc (Blk.kept (b := w.heap.size + 1 + 1) (made33 w) hb1) _) hb2
      refine bodyPost_ret (results_bt rfl _ _ (w.heap.size + 1 + 1) _ _ _ rfl (by (repeat (first | with_reducible exact BR | with_reducible apply Blk.put | with_reducible apply Blk.alloc | (with_reducible apply Blk.aside; (case hp => first | (simp; done) | (simp; omega))) | with_reducible apply Blk.drew))) Tryz.underlying25 rfl (by kernel_rfl)) rfl ⟨?_, by (repeat (first | with_reducible exact Below.refl _ _ | with_reducible assumption | with_reducible refine Below.setCell ?_ (by first | (simp; done) | (simp; omega)) _ | with_reducible refine below_alloc ?_ _ | with_reducible refine below_drewN ?_ _ | with_reducible refine Below.drew ?_ | with_reducible refine below_step ?_ (by assumption)))⟩
      rw [set9]
      rfl

theorem refWriteRoot_any (p : Bt.Page) (q : Bt.Ptr) (l : Int) (w : World) : RefWrites p q l w := by
  by_cases h : p.line ≠ 96 ∨ l < 0 ∨ 8 < l ∨ (q = Bt.nilP ∧ l ≠ 0)
  · exact refWrite_early p q l w h
  · refine refWrite_late p q l w ?_ ?_ ?_ ?_
    · by_cases h1 : p.line = 96
      · exact h1
      · exact absurd (.inl h1) h
    · by_cases h1 : l < 0
      · exact absurd (.inr (.inl h1)) h
      · omega
    · by_cases h1 : 8 < l
      · exact absurd (.inr (.inr (.inl h1))) h
      · omega
    · intro hq
      by_cases h1 : l = 0
      · exact h1
      · exact absurd (.inr (.inr (.inr ⟨hq, h1⟩))) h
end Go.Proofs.YtjmpekanlmepmaaGreatDoor
