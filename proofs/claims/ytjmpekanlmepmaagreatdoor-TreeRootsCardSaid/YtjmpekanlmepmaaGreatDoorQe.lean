/- Package btree: the root page. Package btree: the root page and a node's page are written. -/
import Derived.Test.YtjmpekanlmepmaaGreatDoorQr
import Derived.Deep.Light
import Derived.IntWalk
set_option linter.unusedVariables false
set_option linter.unusedSimpArgs false
set_option linter.unusedSectionVars false
set_option linter.constructorNameAsVariable false
namespace Go.Proofs.YtjmpekanlmepmaaGreatDoor
open Go.RowKit

theorem validRoot_any (q : Bt.Ptr) (l : Int) (w : World) (hg : NoneAt w) : Calls Tryz.prog 41 #[.agg q.cells, .int .i64 l] w fun e w' => e = .returned (.bool (Bt.validRoot q l)) ∧ Below w.heap.size w w' := by
  obtain ⟨g0, g1, gl⟩ := hg
  have ne := neq_ptr
  have eq := eql_ptr
  unfold Bt.Ptr.cells
  by_cases hq : q = Bt.nilP
  · have HX : Hid (Bt.validRoot q l = decide (l = 0)) := Lib.hid (by simp [Bt.validRoot, hq])
    have hp : peq q.line q.gen 0 0 = true := by rw [peq_nil]; simp [hq]
    clear hq
    go_enter Tryz.func41, Tryz.ntmps41
    go_wp2_with fail
    go_ret
    refine ⟨ret_bool ?_, by (repeat (first | with_reducible exact Below.refl _ _ | with_reducible assumption | with_reducible refine Below.setCell ?_ (by first | (simp; done) | (simp; omega)) _ | with_reducible refine below_alloc ?_ _ | with_reducible refine below_drewN ?_ _ | with_reducible refine Below.drew ?_ | with_reducible refine below_step ?_ (by assumption)))⟩
    rw [HX.out, Bool.eq_iff_iff]
    simp
  · have HX : Hid (Bt.validRoot q l = (Bt.validP q && decide (0 ≤ l) && decide (l ≤ 8))) := Lib.hid (by simp [Bt.validRoot, hq])
    have hp : peq q.line q.gen 0 0 = false := by rw [peq_nil]; simp [hq]
    clear hq
    rcases hv : Bt.validP q with _ | _
    all_goals
      have HV := Lib.hid hv
      clear hv
      go_enter Tryz.func41, Tryz.ntmps41
      go_wp2_with (go_at_call 75; refine (Valid_any _ _ _).mono ?_; rintro e w1 ⟨rfl, hb⟩; rw [HV.out]; ((obtain ⟨hc1, hf1⟩ := below_rules hb; have hs1 := Below.size hb; try simp only [size_alloc, size_setCell, size_drew, size_drewN] at hs1 hc1 hf1); (try have z1_w_0 : w.heap.size < w1.heap.size := by omega)))
      all_goals go_ret
    · exact ⟨ret_bool (by rw [HX.out, HV.out]; rfl), by (repeat (first | with_reducible exact Below.refl _ _ | with_reducible assumption | with_reducible refine Below.setCell ?_ (by first | (simp; done) | (simp; omega)) _ | with_reducible refine below_alloc ?_ _ | with_reducible refine below_drewN ?_ _ | with_reducible refine Below.drew ?_ | with_reducible refine below_step ?_ (by assumption)))⟩
    all_goals
      refine ⟨ret_bool ?_, by (repeat (first | with_reducible exact Below.refl _ _ | with_reducible assumption | with_reducible refine Below.setCell ?_ (by first | (simp; done) | (simp; omega)) _ | with_reducible refine below_alloc ?_ _ | with_reducible refine below_drewN ?_ _ | with_reducible refine Below.drew ?_ | with_reducible refine below_step ?_ (by assumption)))⟩
      rw [HX.out, HV.out]
      go_light
      first | (simp [*]; done) | (simp; omega)

def RootPost (p : Bt.Page) (w : World) (e : Ending) (w' : World) : Prop :=
  (match Bt.readRoot p with
  | none => e = .returned (.tuple #[.agg Bt.nilP.cells, .int .i64 0, .int .i64 14])
  | some (q, l) => e = .returned (.tuple #[.agg q.cells, .int .i64 l, .int .i64 0])) ∧ Below w.heap.size w w'

set_option maxRecDepth 10000 in
set_option maxHeartbeats 1000000 in
theorem ReadRoot_any (p : Bt.Page) (hp : p.Ok) (hl : p.line = 96) (w : World) (hg : NoneAt w) : Calls Tryz.prog 15 #[.agg p.cells] w (RootPost p w) := by
  have Hg := Lib.hid hg
  obtain ⟨g0, g1, gl⟩ := hg
  have hpd := hp.d0
  have bl : (p.line != 96) = false := by simp [hl]
  have e5 : IntKind.u32.wrap p.d0 = p.d0 % 4294967296 := by rw [IntKind.wrap_u32]
  have e6 : IntKind.i64.wrap (p.d0 / 4294967296) = p.d0 / 4294967296 := IntWalk.i64_in _ (by omega)
  have hq : Bt.unpack (p.d0 % 4294967296) = ⟨p.d0 % 256, p.d0 % 4294967296 / 256⟩ := by unfold Bt.unpack; congr 1; omega
  rcases hv : Bt.validRoot (Bt.unpack (p.d0 % 4294967296)) (p.d0 / 4294967296) with _ | _
  · have HX : Hid (Bt.readRoot p = none) := Lib.hid (by simp [Bt.readRoot, hv])
    rw [hq] at hv
    have HV := Lib.hid hv
    clear hv hq hl
    unfold Bt.Page.cells
    go_enter Tryz.func15, Tryz.ntmps15
    go_wp2_with fail
    refine wp_region_held_drew (S := SteadyBut (w.heap.size + 1) _) (by kernel_rfl) (SteadyBut.of (Below.refl _ _).drew) ?_
    intro hSt
    refine wpAnyH_seq (is := [0, 1, 2, 3, 5, 6, 7, 8, 9]) (by kernel_rfl) (by kernel_rfl) (fun _ _ d _ _ h => by cases d <;> exact h) (by assumption) ?_
    iterate 9 (first | (refine TakeSeq.step (v := undef) rfl (Or.inr ⟨by rfl, rfl⟩) ?_; simp only [Act.put, List.setIfInBounds_toArray, List.set_cons_zero, List.set_cons_succ, List.getElem_toArray, List.getElem_cons_zero, List.getElem_cons_succ]) | (refine TakeSeq.step (v := ?_) rfl (Or.inl ⟨by rfl, ?_⟩) ?_; rotate_left 1; (focus (intro wq hSq; have hrd := hSq.rule; go_simp; with_reducible rfl)); simp only [Act.put, List.setIfInBounds_toArray, List.set_cons_zero, List.set_cons_succ, List.getElem_toArray, List.getElem_cons_zero, List.getElem_cons_succ]))
    refine TakeSeq.done ?_
    refine wpAnyH_ready (rs := [4]) (by kernel_rfl) (by simp) ?_
    refine AllReadyH.cons rfl (fun K hK => ?_) (AllReadyH.nil)
    rw [if_pos (by rfl)]
    go_simp
    go_at_call 40; refine (Unpack_any _ (by omega) (by omega) _).mono ?_; rintro e w1 ⟨rfl, hb⟩; ((obtain ⟨hc1, hf1⟩ := below_rules hb; have hs1 := Below.size hb; try simp only [size_alloc, size_setCell, size_drew, size_drewN] at hs1 hc1 hf1); (try have z1_w_0 : w.heap.size < w1.heap.size := by omega); (try have z1_w_1 : w.heap.size + 1 < w1.heap.size := by omega))
    go_wp2_with fail
    refine hK.out _ _ (SteadyBut.of (by (repeat (first | with_reducible exact Below.refl _ _ | with_reducible assumption | with_reducible refine Below.setCell ?_ (by first | (simp; done) | (simp; omega)) _ | with_reducible refine below_alloc ?_ _ | with_reducible refine below_drewN ?_ _ | with_reducible refine Below.drew ?_ | with_reducible refine below_step ?_ (by assumption))))) (fun hHeld => ?_)
    clear hK K
    refine wpAnyH_ready (rs := [10]) (by kernel_rfl) (by simp) ?_
    refine AllReadyH.cons rfl (fun K hK => ?_) (AllReadyH.nil)
    rw [if_pos (by rfl)]
    go_simp
    refine hK.out _ _ ((by repeat (first | with_reducible refine SteadyBut.set ?_ _ _ | exact SteadyBut.of (by (repeat (first | with_reducible exact Below.refl _ _ | with_reducible assumption | with_reducible refine Below.setCell ?_ (by first | (simp; done) | (simp; omega)) _ | with_reducible refine below_alloc ?_ _ | with_reducible refine below_drewN ?_ _ | with_reducible refine Below.drew ?_ | with_reducible refine below_step ?_ (by assumption))))))) (fun hHeld => ?_)
    clear hK K
    refine wpAnyH_seq (is := [11]) (by kernel_rfl) (by kernel_rfl) (fun _ _ d _ _ h => by cases d <;> exact h) (by assumption) ?_
    iterate 1 (first | (refine TakeSeq.step (v := undef) rfl (Or.inr ⟨by rfl, rfl⟩) ?_; simp only [Act.put, List.setIfInBounds_toArray, List.set_cons_zero, List.set_cons_succ, List.getElem_toArray, List.getElem_cons_zero, List.getElem_cons_succ]) | (refine TakeSeq.step (v := ?_) rfl (Or.inl ⟨by rfl, ?_⟩) ?_; rotate_left 1; (focus (intro wq hSq; have hrd := hSq.rule; go_simp; with_reducible rfl)); simp only [Act.put, List.setIfInBounds_toArray, List.set_cons_zero, List.set_cons_succ, List.getElem_toArray, List.getElem_cons_zero, List.getElem_cons_succ]))
    refine TakeSeq.done ?_
    refine wpAnyH_done (by kernel_rfl) ?_ _
    go_wp2_with fail
    go_at_call 41; refine (validRoot_any ⟨p.d0 % 256, p.d0 % 4294967296 / 256⟩ _ _ ?hng).mono ?_
    case hng => exact Hg.out.below (by (repeat (first | with_reducible exact Below.refl _ _ | with_reducible assumption | with_reducible refine Below.setCell ?_ (by first | (simp; done) | (simp; omega)) _ | with_reducible refine below_alloc ?_ _ | with_reducible refine below_drewN ?_ _ | with_reducible refine Below.drew ?_ | with_reducible refine below_step ?_ (by assumption))))
    rintro e w2 ⟨rfl, hb2⟩; rw [HV.out]; ((obtain ⟨hc2, hf2⟩ := below_rules hb2; have hs2 := Below.size hb2; try simp only [size_alloc, size_setCell, size_drew, size_drewN] at hs2 hc2 hf2); (try have z2_w_0 : w.heap.size < w2.heap.size := by omega); (try have z2_w_1 : w.heap.size + 1 < w2.heap.size := by omega))
    have gl1 : 0 < w1.heap.size := by omega
    have gl2 : 0 < w2.heap.size := by omega
    go_wp2_with fail
    have B := ((made22 w (t := 27) (cs := #[.int .i64 0, .int .i64 0])).drew.kept hb)
    have B2 := (B.all2 (.int .i64 (p.d0 % 256)) (.int .i64 (p.d0 % 4294967296 / 256))).kept hb2
    (refine bodyPost_ret (results_btt rfl _ _ (w.heap.size + 1) _ _ _ rfl (by (repeat (first | with_reducible exact B2 | with_reducible apply Blk.put | with_reducible apply Blk.alloc | (with_reducible apply Blk.aside; (case hp => first | (simp; done) | (simp; omega))) | with_reducible apply Blk.drew))) Tryz.underlying27 rfl (by kernel_rfl)) rfl ⟨?_, ?_⟩)
    · rw [HX.out, set2]; rfl
    · (repeat (first | with_reducible exact Below.refl _ _ | with_reducible assumption | with_reducible refine Below.setCell ?_ (by first | (simp; done) | (simp; omega)) _ | with_reducible refine below_alloc ?_ _ | with_reducible refine below_drewN ?_ _ | with_reducible refine Below.drew ?_ | with_reducible refine below_step ?_ (by assumption)))
  · have HX : Hid (Bt.readRoot p = some (⟨p.d0 % 256, p.d0 % 4294967296 / 256⟩, p.d0 / 4294967296)) := Lib.hid (by rw [hq] at hv; simp [Bt.readRoot, hq, hv])
    rw [hq] at hv
    have HV := Lib.hid hv
    clear hv hq hl
    unfold Bt.Page.cells
    go_enter Tryz.func15, Tryz.ntmps15
    go_wp2_with fail
    refine wp_region_held_drew (S := SteadyBut (w.heap.size + 1) _) (by kernel_rfl) (SteadyBut.of (Below.refl _ _).drew) ?_
    intro hSt
    refine wpAnyH_seq (is := [0, 1, 2, 3, 5, 6, 7, 8, 9]) (by kernel_rfl) (by kernel_rfl) (fun _ _ d _ _ h => by cases d <;> exact h) (by assumption) ?_
    iterate 9 (first | (refine TakeSeq.step (v := undef) rfl (Or.inr ⟨by rfl, rfl⟩) ?_; simp only [Act.put, List.setIfInBounds_toArray, List.set_cons_zero, List.set_cons_succ, List.getElem_toArray, List.getElem_cons_zero, List.getElem_cons_succ]) | (refine TakeSeq.step (v := ?_) rfl (Or.inl ⟨by rfl, ?_⟩) ?_; rotate_left 1; (focus (intro wq hSq; have hrd := hSq.rule; go_simp; with_reducible rfl)); simp only [Act.put, List.setIfInBounds_toArray, List.set_cons_zero, List.set_cons_succ, List.getElem_toArray, List.getElem_cons_zero, List.getElem_cons_succ]))
    refine TakeSeq.done ?_
    refine wpAnyH_ready (rs := [4]) (by kernel_rfl) (by simp) ?_
    refine AllReadyH.cons rfl (fun K hK => ?_) (AllReadyH.nil)
    rw [if_pos (by rfl)]
    go_simp
    go_at_call 40; refine (Unpack_any _ (by omega) (by omega) _).mono ?_; rintro e w1 ⟨rfl, hb⟩; ((obtain ⟨hc1, hf1⟩ := below_rules hb; have hs1 := Below.size hb; try simp only [size_alloc, size_setCell, size_drew, size_drewN] at hs1 hc1 hf1); (try have z1_w_0 : w.heap.size < w1.heap.size := by omega); (try have z1_w_1 : w.heap.size + 1 < w1.heap.size := by omega))
    go_wp2_with fail
    refine hK.out _ _ (SteadyBut.of (by (repeat (first | with_reducible exact Below.refl _ _ | with_reducible assumption | with_reducible refine Below.setCell ?_ (by first | (simp; done) | (simp; omega)) _ | with_reducible refine below_alloc ?_ _ | with_reducible refine below_drewN ?_ _ | with_reducible refine Below.drew ?_ | with_reducible refine below_step ?_ (by assumption))))) (fun hHeld => ?_)
    clear hK K
    refine wpAnyH_ready (rs := [10]) (by kernel_rfl) (by simp) ?_
    refine AllReadyH.cons rfl (fun K hK => ?_) (AllReadyH.nil)
    rw [if_pos (by rfl)]
    go_simp
    refine hK.out _ _ ((by repeat (first | with_reducible refine SteadyBut.set ?_ _ _ | exact SteadyBut.of (by (repeat (first | with_reducible exact Below.refl _ _ | with_reducible assumption | with_reducible refine Below.setCell ?_ (by first | (simp; done) | (simp; omega)) _ | with_reducible refine below_alloc ?_ _ | with_reducible refine below_drewN ?_ _ | with_reducible refine Below.drew ?_ | with_reducible refine below_step ?_ (by assumption))))))) (fun hHeld => ?_)
    clear hK K
    refine wpAnyH_seq (is := [11]) (by kernel_rfl) (by kernel_rfl) (fun _ _ d _ _ h => by cases d <;> exact h) (by assumption) ?_
    iterate 1 (first | (refine TakeSeq.step (v := undef) rfl (Or.inr ⟨by rfl, rfl⟩) ?_; simp only [Act.put, List.setIfInBounds_toArray, List.set_cons_zero, List.set_cons_succ, List.getElem_toArray, List.getElem_cons_zero, List.getElem_cons_succ]) | (refine TakeSeq.step (v := ?_) rfl (Or.inl ⟨by rfl, ?_⟩) ?_; rotate_left 1; (focus (intro wq hSq; have hrd := hSq.rule; go_simp; with_reducible rfl)); simp only [Act.put, List.setIfInBounds_toArray, List.set_cons_zero, List.set_cons_succ, List.getElem_toArray, List.getElem_cons_zero, List.getElem_cons_succ]))
    refine TakeSeq.done ?_
    refine wpAnyH_done (by kernel_rfl) ?_ _
    go_wp2_with fail
    go_at_call 41; refine (validRoot_any ⟨p.d0 % 256, p.d0 % 4294967296 / 256⟩ _ _ ?hng).mono ?_
    case hng => exact Hg.out.below (by (repeat (first | with_reducible exact Below.refl _ _ | with_reducible assumption | with_reducible refine Below.setCell ?_ (by first | (simp; done) | (simp; omega)) _ | with_reducible refine below_alloc ?_ _ | with_reducible refine below_drewN ?_ _ | with_reducible refine Below.drew ?_ | with_reducible refine below_step ?_ (by assumption))))
    rintro e w2 ⟨rfl, hb2⟩; rw [HV.out]; ((obtain ⟨hc2, hf2⟩ := below_rules hb2; have hs2 := Below.size hb2; try simp only [size_alloc, size_setCell, size_drew, size_drewN] at hs2 hc2 hf2); (try have z2_w_0 : w.heap.size < w2.heap.size := by omega); (try have z2_w_1 : w.heap.size + 1 < w2.heap.size := by omega))
    have gl1 : 0 < w1.heap.size := by omega
    have gl2 : 0 < w2.heap.size := by omega
    go_wp2_with fail
    have B := ((made22 w (t := 27) (cs := #[.int .i64 0, .int .i64 0])).drew.kept hb)
    have B2 := (B.all2 (.int .i64 (p.d0 % 256)) (.int .i64 (p.d0 % 4294967296 / 256))).kept hb2
    (refine bodyPost_ret (results_btt rfl _ _ (w.heap.size + 1) _ _ _ rfl (by (repeat (first | with_reducible exact B2 | with_reducible apply Blk.put | with_reducible apply Blk.alloc | (with_reducible apply Blk.aside; (case hp => first | (simp; done) | (simp; omega))) | with_reducible apply Blk.drew))) Tryz.underlying27 rfl (by kernel_rfl)) rfl ⟨?_, ?_⟩)
    · rw [HX.out, set2]; rfl
    · (repeat (first | with_reducible exact Below.refl _ _ | with_reducible assumption | with_reducible refine Below.setCell ?_ (by first | (simp; done) | (simp; omega)) _ | with_reducible refine below_alloc ?_ _ | with_reducible refine below_drewN ?_ _ | with_reducible refine Below.drew ?_ | with_reducible refine below_step ?_ (by assumption)))
end Go.Proofs.YtjmpekanlmepmaaGreatDoor
namespace Go.Proofs.YtjmpekanlmepmaaGreatDoor
open Go.RowKit

theorem ReadRoot_off (p : Bt.Page) (hl : p.line ≠ 96) (w : World) (hg : NoneAt w) : Calls Tryz.prog 15 #[.agg p.cells] w
    fun e w' => e = .returned (.tuple #[.agg Bt.nilP.cells, .int .i64 0, .int .i64 1]) ∧ Below w.heap.size w w' := by
  obtain ⟨g0, g1, gl⟩ := hg
  have bl : (p.line != 96) = true := by simp [hl]
  clear hl
  unfold Bt.Page.cells
  go_enter Tryz.func15, Tryz.ntmps15
  go_wp2_with fail
  simp [bodyPost, results, Tryz.results15, go_sem]
  exact ⟨rfl, by (repeat (first | with_reducible exact Below.refl _ _ | with_reducible assumption | with_reducible refine Below.setCell ?_ (by first | (simp; done) | (simp; omega)) _ | with_reducible refine below_alloc ?_ _ | with_reducible refine below_drewN ?_ _ | with_reducible refine Below.drew ?_ | with_reducible refine below_step ?_ (by assumption)))⟩

theorem word_conv (q : Bt.Ptr) (l : Int) (hl : 0 ≤ l ∧ l < 4294967296) : bits .or .u64 (Bt.pack q) (l * 4294967296) = Bt.pack q + l * 4294967296 := word_or (Bt.pack q) l (pack_bound q) hl

set_option maxRecDepth 10000 in
set_option maxHeartbeats 1000000 in
theorem WriteRoot_any (p : Bt.Page) (q : Bt.Ptr) (l : Int) (hl : p.line = 96) (hv : Bt.validRoot q l = true) (w : World) (hg : NoneAt w) :
    Calls Tryz.prog 17 #[.agg p.cells, .agg q.cells, .int .i64 l] w fun e w' => e = .returned (.tuple #[.agg (Bt.writeRoot p q l).cells, .int .i64 0]) ∧ Below w.heap.size w w' := by
  have Hg := Lib.hid hg
  have bl : (p.line != 96) = false := by simp [hl]
  have hlv : 0 ≤ l ∧ l ≤ 8 := by
    unfold Bt.validRoot at hv
    split at hv
    · simp at hv; omega
    · simp at hv; omega
  have hpk := pack_bound q
  have e1 := word_conv q l (by omega)
  have HV := Lib.hid hv
  clear hv hl
  unfold Bt.Page.cells
  have hqc : q.cells = #[.int .i64 q.line, .int .i64 q.gen] := rfl
  rw [hqc]
  clear hqc
  go_enter Tryz.func17, Tryz.ntmps17
  go_wp2_with fail
  go_at_call 41; refine (validRoot_any q _ _ ?hng).mono ?_
  case hng => exact Hg.out.below (by (repeat (first | with_reducible exact Below.refl _ _ | with_reducible assumption | with_reducible refine Below.setCell ?_ (by first | (simp; done) | (simp; omega)) _ | with_reducible refine below_alloc ?_ _ | with_reducible refine below_drewN ?_ _ | with_reducible refine Below.drew ?_ | with_reducible refine below_step ?_ (by assumption))))
  rintro e w1 ⟨rfl, hb⟩; rw [HV.out]; ((obtain ⟨hc1, hf1⟩ := below_rules hb; have hs1 := Below.size hb; try simp only [size_alloc, size_setCell, size_drew, size_drewN] at hs1 hc1 hf1); (try have z1_w_0 : w.heap.size < w1.heap.size := by omega); (try have z1_w_1 : w.heap.size + 1 < w1.heap.size := by omega); (try have z1_w_2 : w.heap.size + 1 + 1 < w1.heap.size := by omega))
  go_wp2_with fail
  go_at_call 44; refine (Pack_any q.line q.gen _).mono ?_; rintro e w2 ⟨rfl, hb2⟩; ((obtain ⟨hc2, hf2⟩ := below_rules hb2; have hs2 := Below.size hb2; try simp only [size_alloc, size_setCell, size_drew, size_drewN] at hs2 hc2 hf2); (try have z2_w_0 : w.heap.size < w2.heap.size := by omega); (try have z2_w_1 : w.heap.size + 1 < w2.heap.size := by omega); (try have z2_w_2 : w.heap.size + 1 + 1 < w2.heap.size := by omega))
  have hx : ∀ u, (w2.setCell ⟨w.heap.size, 2, none⟩ u).cell? ⟨w.heap.size, 2, none⟩ = some u := fun u => (((((made1 w (t := 25) (cs := p.cells)).alloc _).alloc _).kept hb).kept hb2).put 2 u |>.cell 2
  go_wp2_with fail
  have B := ((made33 w (t := 25) (cs := Bt.zeroPage.cells)).kept hb).kept hb2
  rw [zeroPage_cells] at B
  (refine bodyPost_ret (results_bt rfl _ _ (w.heap.size + 1 + 1) _ _ _ rfl (by (repeat (first | with_reducible exact B | with_reducible apply Blk.put | with_reducible apply Blk.alloc | (with_reducible apply Blk.aside; (case hp => first | (simp; done) | (simp; omega))) | with_reducible apply Blk.drew))) Tryz.underlying25 rfl (by kernel_rfl)) rfl ⟨?_, ?_⟩)
  · rw [set9]
    have a2 : IntKind.u64.wrap (Bt.pack ⟨q.line, q.gen⟩) = Bt.pack q := by show IntKind.u64.wrap (Bt.pack q) = _; rw [IntKind.wrap_u64]; omega
    rw [a2, e1]
    rfl
  · (repeat (first | with_reducible exact Below.refl _ _ | with_reducible assumption | with_reducible refine Below.setCell ?_ (by first | (simp; done) | (simp; omega)) _ | with_reducible refine below_alloc ?_ _ | with_reducible refine below_drewN ?_ _ | with_reducible refine Below.drew ?_ | with_reducible refine below_step ?_ (by assumption)))

set_option maxRecDepth 10000 in
set_option maxHeartbeats 1000000 in
theorem WriteRoot_bad (p : Bt.Page) (q : Bt.Ptr) (l : Int) (h : p.line ≠ 96 ∨ Bt.validRoot q l = false) (w : World) (hg : NoneAt w) :
    Calls Tryz.prog 17 #[.agg p.cells, .agg q.cells, .int .i64 l] w fun e w' => e = .returned (.tuple #[.agg Bt.zeroPage.cells, .int .i64 1]) ∧ Below w.heap.size w w' := by
  have Hg := Lib.hid hg
  unfold Bt.Page.cells
  have hqc : q.cells = #[.int .i64 q.line, .int .i64 q.gen] := rfl
  rw [hqc]
  clear hqc
  by_cases hl : p.line = 96
  · have bl : (p.line != 96) = false := by simp [hl]
    have HV : Hid (Bt.validRoot q l = false) := Lib.hid (by rcases h with h | h; exact absurd hl h; exact h)
    clear h hl
    go_enter Tryz.func17, Tryz.ntmps17
    go_wp2_with fail
    go_at_call 41; refine (validRoot_any q _ _ ?hng).mono ?_
    case hng => exact Hg.out.below (by (repeat (first | with_reducible exact Below.refl _ _ | with_reducible assumption | with_reducible refine Below.setCell ?_ (by first | (simp; done) | (simp; omega)) _ | with_reducible refine below_alloc ?_ _ | with_reducible refine below_drewN ?_ _ | with_reducible refine Below.drew ?_ | with_reducible refine below_step ?_ (by assumption))))
    rintro e w1 ⟨rfl, hb⟩; rw [HV.out]; ((obtain ⟨hc1, hf1⟩ := below_rules hb; have hs1 := Below.size hb; try simp only [size_alloc, size_setCell, size_drew, size_drewN] at hs1 hc1 hf1); (try have z1_w_0 : w.heap.size < w1.heap.size := by omega); (try have z1_w_1 : w.heap.size + 1 < w1.heap.size := by omega); (try have z1_w_2 : w.heap.size + 1 + 1 < w1.heap.size := by omega))
    go_wp2_with fail
    have B := ((made33 w (t := 25) (cs := Bt.zeroPage.cells)).kept hb)
    rw [zeroPage_cells] at B
    (refine bodyPost_ret (results_bt rfl _ _ (w.heap.size + 1 + 1) _ _ _ rfl (by (repeat (first | with_reducible exact B | with_reducible apply Blk.put | with_reducible apply Blk.alloc | (with_reducible apply Blk.aside; (case hp => first | (simp; done) | (simp; omega))) | with_reducible apply Blk.drew))) Tryz.underlying25 rfl (by kernel_rfl)) rfl ⟨?_, ?_⟩)
    · rw [set9]; rfl
    · (repeat (first | with_reducible exact Below.refl _ _ | with_reducible assumption | with_reducible refine Below.setCell ?_ (by first | (simp; done) | (simp; omega)) _ | with_reducible refine below_alloc ?_ _ | with_reducible refine below_drewN ?_ _ | with_reducible refine Below.drew ?_ | with_reducible refine below_step ?_ (by assumption)))
  · have bl : (p.line != 96) = true := by simp [hl]
    clear h hl
    go_enter Tryz.func17, Tryz.ntmps17
    go_wp2_with fail
    simp [bodyPost, results, Tryz.results17, go_sem]
    first | exact ⟨rfl, by (repeat (first | with_reducible exact Below.refl _ _ | with_reducible assumption | with_reducible refine Below.setCell ?_ (by first | (simp; done) | (simp; omega)) _ | with_reducible refine below_alloc ?_ _ | with_reducible refine below_drewN ?_ _ | with_reducible refine Below.drew ?_ | with_reducible refine below_step ?_ (by assumption)))⟩ | exact ⟨zeroPage_cells.symm, by (repeat (first | with_reducible exact Below.refl _ _ | with_reducible assumption | with_reducible refine Below.setCell ?_ (by first | (simp; done) | (simp; omega)) _ | with_reducible refine below_alloc ?_ _ | with_reducible refine below_drewN ?_ _ | with_reducible refine Below.drew ?_ | with_reducible refine below_step ?_ (by assumption)))⟩ | exact ⟨by simp [Bt.zeroPage], by (repeat (first | with_reducible exact Below.refl _ _ | with_reducible assumption | with_reducible refine Below.setCell ?_ (by first | (simp; done) | (simp; omega)) _ | with_reducible refine below_alloc ?_ _ | with_reducible refine below_drewN ?_ _ | with_reducible refine Below.drew ?_ | with_reducible refine below_step ?_ (by assumption)))⟩

def WritePost (p : Bt.Page) (n : Bt.Node) (w : World) (e : Ending) (w' : World) : Prop :=
  e = .returned (.tuple #[.agg ((Bt.writeNode p n).getD Bt.zeroPage).cells, .int .i64 (if (Bt.writeNode p n).isSome then 0 else 1)]) ∧ Below w.heap.size w w'

theorem valid_nodeOk (n : Bt.Node) (hh : 0 ≤ n.high ∧ n.high < 4294967296) (hv : n.valid = true) : NodeOk n := by
  unfold Bt.Node.valid at hv
  split at hv
  · cases hv
  · rename_i h
    exact ⟨by omega, hh, by omega⟩
theorem field_tag0 (x y z : Value) (w : World) : (Instr.field 122 (.agg #[x, y, z]) 0).run Tryz.prog w = .ok x w := by kernel_rfl

set_option maxRecDepth 10000 in
set_option maxHeartbeats 1000000 in
theorem WriteNode_any (p : Bt.Page) (n : Bt.Node) (v : Value) (hp : p.Ok) (hh : 0 ≤ n.high ∧ n.high < 4294967296) (w : World) (he : EntRow w v n.entries) (hg : NoneAt w) :
    Calls Tryz.prog 36 #[.agg p.cells, .agg (nodeCells n v)] w (WritePost p n w) := by
  have Hg := Lib.hid hg
  have He := Lib.hid he
  have Hp := Lib.hid hp
  have hpd := hp.d0
  have ft := field_tag0
  by_cases hk : Bt.tagKind p.d0 = 4
  · have b1 : (Bt.tagKind p.d0 != 4) = false := by simp [hk]
    rcases hv : n.valid with _ | _
    · have HX : Hid (Bt.writeNode p n = none) := Lib.hid (by simp [Bt.writeNode, hv])
      have HV := Lib.hid hv
      clear hk hv hp he hg
      unfold Bt.Page.cells nodeCells
      go_enter Tryz.func36, Tryz.ntmps36
      go_wp2_with fail
      go_at_call 62; refine (UnpackTag_any p.d0 hpd.1 hpd.2 _).mono ?_; rintro e w1 ⟨rfl, hb⟩; ((obtain ⟨hc1, hf1⟩ := below_rules hb; have hs1 := Below.size hb; try simp only [size_alloc, size_setCell, size_drew, size_drewN] at hs1 hc1 hf1); (try have z1_w_0 : w.heap.size < w1.heap.size := by omega); (try have z1_w_1 : w.heap.size + 1 < w1.heap.size := by omega); (try have z1_w_2 : w.heap.size + 1 + 1 < w1.heap.size := by omega))
      go_wp2_with fail
      go_at_call 63; refine (valid_any n v _ ?hpg ?hng).mono ?_
      case hpg => exact He.out.below (by (repeat (first | with_reducible exact Below.refl _ _ | with_reducible assumption | with_reducible refine Below.setCell ?_ (by first | (simp; done) | (simp; omega)) _ | with_reducible refine below_alloc ?_ _ | with_reducible refine below_drewN ?_ _ | with_reducible refine Below.drew ?_ | with_reducible refine below_step ?_ (by assumption))))
      case hng => exact Hg.out.below (by (repeat (first | with_reducible exact Below.refl _ _ | with_reducible assumption | with_reducible refine Below.setCell ?_ (by first | (simp; done) | (simp; omega)) _ | with_reducible refine below_alloc ?_ _ | with_reducible refine below_drewN ?_ _ | with_reducible refine Below.drew ?_ | with_reducible refine below_step ?_ (by assumption))))
      rintro e w2 ⟨rfl, hb2⟩; rw [HV.out]; ((obtain ⟨hc2, hf2⟩ := below_rules hb2; have hs2 := Below.size hb2; try simp only [size_alloc, size_setCell, size_drew, size_drewN] at hs2 hc2 hf2); (try have z2_w_0 : w.heap.size < w2.heap.size := by omega); (try have z2_w_1 : w.heap.size + 1 < w2.heap.size := by omega); (try have z2_w_2 : w.heap.size + 1 + 1 < w2.heap.size := by omega))
      go_wp2_with fail
      have B := ((made33 w (t := 25) (cs := Bt.zeroPage.cells)).kept hb).kept hb2
      rw [zeroPage_cells] at B
      (refine bodyPost_ret (results_bt rfl _ _ (w.heap.size + 1 + 1) _ _ _ rfl (by (repeat (first | with_reducible exact B | with_reducible apply Blk.put | with_reducible apply Blk.alloc | (with_reducible apply Blk.aside; (case hp => first | (simp; done) | (simp; omega))) | with_reducible apply Blk.drew))) Tryz.underlying25 rfl (by kernel_rfl)) rfl ⟨?_, ?_⟩)
      · rw [HX.out, set9]; rfl
      · (repeat (first | with_reducible exact Below.refl _ _ | with_reducible assumption | with_reducible refine Below.setCell ?_ (by first | (simp; done) | (simp; omega)) _ | with_reducible refine below_alloc ?_ _ | with_reducible refine below_drewN ?_ _ | with_reducible refine Below.drew ?_ | with_reducible refine below_step ?_ (by assumption)))
    · have HX : Hid (Bt.writeNode p n = some (n.fill p)) := Lib.hid (by simp [Bt.writeNode, hv, hk])
      have HV := Lib.hid hv
      have HNO := Lib.hid (valid_nodeOk n hh hv)
      have HFC : Hid ((n.fill p).cells = #[.int .i64 (n.fill p).line, .int .u64 (n.fill p).head, .int .u64 (n.fill p).d0, .int .u64 (n.fill p).d1, .int .u64 (n.fill p).d2, .int .u64 (n.fill p).d3, .int .u64 (n.fill p).d4, .int .u64 (n.fill p).d5, .int .u64 (n.fill p).d6]) := Lib.hid rfl
      clear hk hv hp he hg
      unfold Bt.Page.cells nodeCells
      go_enter Tryz.func36, Tryz.ntmps36
      go_wp2_with fail
      go_at_call 62; refine (UnpackTag_any p.d0 hpd.1 hpd.2 _).mono ?_; rintro e w1 ⟨rfl, hb⟩; ((obtain ⟨hc1, hf1⟩ := below_rules hb; have hs1 := Below.size hb; try simp only [size_alloc, size_setCell, size_drew, size_drewN] at hs1 hc1 hf1); (try have z1_w_0 : w.heap.size < w1.heap.size := by omega); (try have z1_w_1 : w.heap.size + 1 < w1.heap.size := by omega); (try have z1_w_2 : w.heap.size + 1 + 1 < w1.heap.size := by omega))
      go_wp2_with fail
      go_at_call 63; refine (valid_any n v _ ?hpg ?hng).mono ?_
      case hpg => exact He.out.below (by (repeat (first | with_reducible exact Below.refl _ _ | with_reducible assumption | with_reducible refine Below.setCell ?_ (by first | (simp; done) | (simp; omega)) _ | with_reducible refine below_alloc ?_ _ | with_reducible refine below_drewN ?_ _ | with_reducible refine Below.drew ?_ | with_reducible refine below_step ?_ (by assumption))))
      case hng => exact Hg.out.below (by (repeat (first | with_reducible exact Below.refl _ _ | with_reducible assumption | with_reducible refine Below.setCell ?_ (by first | (simp; done) | (simp; omega)) _ | with_reducible refine below_alloc ?_ _ | with_reducible refine below_drewN ?_ _ | with_reducible refine Below.drew ?_ | with_reducible refine below_step ?_ (by assumption))))
      rintro e w2 ⟨rfl, hb2⟩; rw [HV.out]; ((obtain ⟨hc2, hf2⟩ := below_rules hb2; have hs2 := Below.size hb2; try simp only [size_alloc, size_setCell, size_drew, size_drewN] at hs2 hc2 hf2); (try have z2_w_0 : w.heap.size < w2.heap.size := by omega); (try have z2_w_1 : w.heap.size + 1 < w2.heap.size := by omega); (try have z2_w_2 : w.heap.size + 1 + 1 < w2.heap.size := by omega))
      go_wp2_with fail
      go_at_call 64; refine (fill_any n v p Hp.out HNO.out _ ?hpf).mono ?_
      case hpf => exact He.out.below (by (repeat (first | with_reducible exact Below.refl _ _ | with_reducible assumption | with_reducible refine Below.setCell ?_ (by first | (simp; done) | (simp; omega)) _ | with_reducible refine below_alloc ?_ _ | with_reducible refine below_drewN ?_ _ | with_reducible refine Below.drew ?_ | with_reducible refine below_step ?_ (by assumption))))
      rintro e w3 ⟨rfl, hb3⟩; rw [HFC.out]; ((obtain ⟨hc3, hf3⟩ := below_rules hb3; have hs3 := Below.size hb3; try simp only [size_alloc, size_setCell, size_drew, size_drewN] at hs3 hc3 hf3); (try have z3_w_0 : w.heap.size < w3.heap.size := by omega); (try have z3_w_1 : w.heap.size + 1 < w3.heap.size := by omega); (try have z3_w_2 : w.heap.size + 1 + 1 < w3.heap.size := by omega))
      go_wp2_with fail
      have B := (((made33 w (t := 25) (cs := Bt.zeroPage.cells)).kept hb).kept hb2).kept hb3
      rw [zeroPage_cells] at B
      (refine bodyPost_ret (results_bt rfl _ _ (w.heap.size + 1 + 1) _ _ _ rfl (by (repeat (first | with_reducible exact B | with_reducible apply Blk.put | with_reducible apply Blk.alloc | (with_reducible apply Blk.aside; (case hp => first | (simp; done) | (simp; omega))) | with_reducible apply Blk.drew))) Tryz.underlying25 rfl (by kernel_rfl)) rfl ⟨?_, ?_⟩)
      · rw [HX.out, set9]; rfl
      · (repeat (first | with_reducible exact Below.refl _ _ | with_reducible assumption | with_reducible refine Below.setCell ?_ (by first | (simp; done) | (simp; omega)) _ | with_reducible refine below_alloc ?_ _ | with_reducible refine below_drewN ?_ _ | with_reducible refine Below.drew ?_ | with_reducible refine below_step ?_ (by assumption)))
  · have b1 : (Bt.tagKind p.d0 != 4) = true := by simp [hk]
    have HX : Hid (Bt.writeNode p n = none) := Lib.hid (by simp [Bt.writeNode, hk])
    clear hk hp he hg
    unfold Bt.Page.cells nodeCells
    go_enter Tryz.func36, Tryz.ntmps36
    go_wp2_with fail
    go_at_call 62; refine (UnpackTag_any p.d0 hpd.1 hpd.2 _).mono ?_; rintro e w1 ⟨rfl, hb⟩; ((obtain ⟨hc1, hf1⟩ := below_rules hb; have hs1 := Below.size hb; try simp only [size_alloc, size_setCell, size_drew, size_drewN] at hs1 hc1 hf1); (try have z1_w_0 : w.heap.size < w1.heap.size := by omega); (try have z1_w_1 : w.heap.size + 1 < w1.heap.size := by omega); (try have z1_w_2 : w.heap.size + 1 + 1 < w1.heap.size := by omega))
    go_wp2_with fail
    have B := ((made33 w (t := 25) (cs := Bt.zeroPage.cells)).kept hb)
    rw [zeroPage_cells] at B
    (refine bodyPost_ret (results_bt rfl _ _ (w.heap.size + 1 + 1) _ _ _ rfl (by (repeat (first | with_reducible exact B | with_reducible apply Blk.put | with_reducible apply Blk.alloc | (with_reducible apply Blk.aside; (case hp => first | (simp; done) | (simp; omega))) | with_reducible apply Blk.drew))) Tryz.underlying25 rfl (by kernel_rfl)) rfl ⟨?_, ?_⟩)
    · rw [HX.out, set9]; rfl
    · (repeat (first | with_reducible exact Below.refl _ _ | with_reducible assumption | with_reducible refine Below.setCell ?_ (by first | (simp; done) | (simp; omega)) _ | with_reducible refine below_alloc ?_ _ | with_reducible refine below_drewN ?_ _ | with_reducible refine Below.drew ?_ | with_reducible refine below_step ?_ (by assumption)))
end Go.Proofs.YtjmpekanlmepmaaGreatDoor
