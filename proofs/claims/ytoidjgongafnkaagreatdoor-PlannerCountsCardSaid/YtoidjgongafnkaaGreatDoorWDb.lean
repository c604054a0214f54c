/- Package commit: Next. -/
import Derived.Test.YtoidjgongafnkaaGreatDoorWDa
import Derived.Test.YtoidjgongafnkaaGreatDoorWCj
set_option linter.unusedVariables false
set_option linter.unusedSimpArgs false
set_option linter.unusedSectionVars false
set_option linter.constructorNameAsVariable false
namespace Go.Proofs.YtoidjgongafnkaaGreatDoor
open Go.RowKit

theorem talkNew_ok (p : Option Addr) (n c : Nat) (w : World) : Calls Tryz.prog 17 #[.slice p n c] w fun e w' => e = .returned (.pointer (some ⟨w.heap.size, 0, none⟩)) ∧ w' = w.alloc (.cells #[.slice p n c, .slice none 0 0, .bool false] 119) := by
  go_enter Tryz.func17, Tryz.ntmps17
  go_wp2_with fail
  refine bodyPost_ret (results_tmp rfl _ _ _) rfl ⟨rfl, rfl⟩
theorem primary_ok (m g cm lo : Nat) (w : World) (hm : 1 ≤ m) (h : w.ownsRow lo 75 3 (.slice (some ⟨g, 0, none⟩) m cm) m (memCells m)) :
    Calls Tryz.prog 18 #[.agg #[.int .i64 0, .slice (some ⟨g, 0, none⟩) m cm]] w fun e w' => e = .returned (.tuple #[.agg #[.int .i64 0, .int .i64 1, .bool true], .bool true]) ∧ Below w.heap.size w w' := by
  obtain ⟨c0, c1, c2⟩ := mem_cell h 0 (by omega)
  have lg := (own_lt h).2
  have b1 : ((m : Int) == 0) = false := by simp; omega
  have b2 : (0 : Int) < m := by omega
  go_enter Tryz.func18, Tryz.ntmps18
  go_wp2_with fail
  refine bodyPost_ret (results_bt rfl _ _ (w.heap.size + 1) _ _ _ rfl (Blk.made' (by simp)) Tryz.underlying75 rfl (by kernel_rfl)) rfl ⟨rfl, by (repeat (first | with_reducible exact Below.refl _ _ | with_reducible assumption | with_reducible refine Below.setCell ?_ (by first | (simp; done) | (simp; omega)) _ | with_reducible refine below_alloc ?_ _ | with_reducible refine below_drewN ?_ _ | with_reducible refine Below.drew ?_ | with_reducible refine below_step ?_ (by assumption)))⟩
theorem asking_ok (t : Nat) (vg : Value) (qa : Option Addr) (na ca : Nat) (bad : Bool) (w : World) (h : Blk w t 119 #[vg, .slice qa na ca, .bool bad]) :
    Calls Tryz.prog 20 #[.pointer (some ⟨t, 0, none⟩)] w fun e w' => e = .returned (.tuple #[.slice qa na ca, .bool (decide (0 < na))]) ∧ Below w.heap.size w w' := by
  have kt := h.cell
  have lt := h.lt
  go_enter Tryz.func20, Tryz.ntmps20
  go_wp2_with fail
  refine wp_region_held_drew (S := SteadyAll _) (by kernel_rfl) (SteadyAll.of (Below.refl _ _).drew) ?_
  intro hSt
  refine wpAnyH_seq (is := [0, 1, 2, 3, 4, 5, 6, 7, 8, 9, 10, 11]) (by kernel_rfl) (by kernel_rfl) (fun _ _ d _ _ h => by cases d <;> exact h) (by assumption) ?_
  iterate 12 (first | (refine TakeSeq.step (v := undef) rfl (Or.inr ⟨by rfl, rfl⟩) ?_; simp only [Act.put, List.setIfInBounds_toArray, List.set_cons_zero, List.set_cons_succ, List.getElem_toArray, List.getElem_cons_zero, List.getElem_cons_succ]) | (refine TakeSeq.step (v := ?_) rfl (Or.inl ⟨by rfl, ?_⟩) ?_; rotate_left 1; (focus (intro wq hSq; have hrd := hSq.rule; go_simp; with_reducible rfl)); simp only [Act.put, List.setIfInBounds_toArray, List.set_cons_zero, List.set_cons_succ, List.getElem_toArray, List.getElem_cons_zero, List.getElem_cons_succ]))
  refine TakeSeq.done ?_
  refine wpAnyH_done (by kernel_rfl) ?_ _
  go_wp2_with fail
  refine bodyPost_ret (results_tmp2 rfl _ _ _) rfl ⟨rfl, by (repeat (first | with_reducible exact Below.refl _ _ | with_reducible assumption | with_reducible refine Below.setCell ?_ (by first | (simp; done) | (simp; omega)) _ | with_reducible refine below_alloc ?_ _ | with_reducible refine below_drewN ?_ _ | with_reducible refine Below.drew ?_ | with_reducible refine below_step ?_ (by assumption)))⟩
theorem mismatch_ok (t : Nat) (p : Option Addr) (n c : Nat) (va : Value) (w : World) (h : Blk w t 119 #[.slice p n c, va, .bool false]) :
    Calls Tryz.prog 21 #[.pointer (some ⟨t, 0, none⟩)] w fun e w' => e = .returned (.bool (decide (0 < n))) ∧ Below w.heap.size w w' := by
  have kt := h.cell
  have lt := h.lt
  go_enter Tryz.func21, Tryz.ntmps21
  go_wp2_with fail
  refine bodyPost_ret (results_tmp rfl _ _ _) rfl ⟨rfl, by (repeat (first | with_reducible exact Below.refl _ _ | with_reducible assumption | with_reducible refine Below.setCell ?_ (by first | (simp; done) | (simp; omega)) _ | with_reducible refine below_alloc ?_ _ | with_reducible refine below_drewN ?_ _ | with_reducible refine Below.drew ?_ | with_reducible refine below_step ?_ (by assumption)))⟩
/-- What a job asks next: the batch that waits, or the outcome. -/
def NextPost (m k r : Nat) (gs : List (List (List Int))) (w : World) (e : Ending) (w' : World) : Prop :=
  Below w.heap.size w w' ∧ ∃ ck, (∃ l v gs', goAll (fiveAsks m k r ck) gs = (gs', some l) ∧ l ≠ [] ∧ e = .returned (.tuple #[v, .agg #[.int .i64 0, .int .i64 0], .bool false]) ∧ AsksAt w' 0 v l)
    ∨ (goAll (fiveAsks m k r ck) gs = ([], none) ∧ e = .returned (.tuple #[.slice none 0 0, .agg #[.int .i64 0, .int .i64 3], .bool true]))

set_option maxRecDepth 10000 in
set_option maxHeartbeats 4000000 in
theorem cNext_ok (lo2 m r k : Nat) (vm vr vw vg : Value) (gs : List (List (List Int))) (w : World) (hj : JobAt w lo2 (m + 1) r k vm vr vw) (hg : GotAt w 0 vg gs) (hlw2 : lo2 ≤ w.heap.size)
    (hf : ∀ ck, FitsAll (fiveAsks m k r ck) gs) (hx : ∀ ck gs', goAll (fiveAsks m k r ck) gs = (gs', none) → gs' = []) :
    Calls Tryz.prog 8 #[.agg (jobCells vm vr vw), vg] w (NextPost m k r gs w) := by
  obtain ⟨vs, hvl, hvr, hvd⟩ := id hg
  obtain ⟨pg, cg, rfl⟩ := hvr.shape
  obtain ⟨gm, cm, rfl⟩ := own_form hj.mem (by omega)
  have HV : Hid (∀ W, Below w.heap.size w W → Calls Tryz.prog 16 #[.agg (jobCells (.slice (some ⟨gm, 0, none⟩) (m + 1) cm) vr vw)] W fun e w' => e = .returned (.int .i64 0) ∧ Below W.heap.size W w') := Lib.hid (fun W hb => commitValid_ok lo2 (m + 1) r k _ vr vw W (hj.below hb))
  have HP : Hid (∀ W, Below w.heap.size w W → Calls Tryz.prog 18 #[.agg #[.int .i64 0, .slice (some ⟨gm, 0, none⟩) (m + 1) cm]] W fun e w' => e = .returned (.tuple #[.agg #[.int .i64 0, .int .i64 1, .bool true], .bool true]) ∧ Below W.heap.size W w') := Lib.hid (fun W hb => primary_ok (m + 1) gm cm lo2 W (by omega) (own_below hj.mem hb))
  have HJ := Lib.hid (And.intro hj (And.intro hg hf))
  obtain ⟨gr, cr, rfl⟩ := own_shape hj.reads
  obtain ⟨gw, cw, rfl⟩ := own_shape hj.writes
  unfold jobCells at HV ⊢
  clear hvd hvr hvl vs hj hg hf
  go_enter Tryz.func8, Tryz.ntmps8
  go_wp2_with fail
  go_at_call 16
  refine (HV.out _ (by (repeat (first | with_reducible exact Below.refl _ _ | with_reducible assumption | with_reducible refine Below.setCell ?_ (by first | (simp; done) | (simp; omega)) _ | with_reducible refine below_alloc ?_ _ | with_reducible refine below_drewN ?_ _ | with_reducible refine Below.drew ?_ | with_reducible refine below_step ?_ (by assumption))))).mono ?_
  rintro e w1 ⟨rfl, hb⟩
  have B0 : Blk w1 w.heap.size 32 #[.int .i64 0, .int .i64 1, .int .i64 108, .int .i64 0, .slice (some ⟨gm, 0, none⟩) (m + 1) cm, .slice gr r cr, .slice gw k cw] := made12 w |>.kept hb
  have B1 : Blk w1 (w.heap.size + 1) 43 #[.int .i64 0, .int .i64 0] := Blk.kept (Blk.made' (by simp)) hb
  have hb1 : Below w.heap.size w w1 := by (repeat (first | with_reducible exact Below.refl _ _ | with_reducible assumption | with_reducible refine Below.setCell ?_ (by first | (simp; done) | (simp; omega)) _ | with_reducible refine below_alloc ?_ _ | with_reducible refine below_drewN ?_ _ | with_reducible refine Below.drew ?_ | with_reducible refine below_step ?_ (by assumption)))
  have kj := B0.cell
  have lj := B0.lt
  have HB := Lib.hid (And.intro B0 (And.intro B1 hb1))
  clear B0 B1 hb1 hb
  go_wp2_with fail
  refine wp_region_held_drew (S := SteadyAll _) (by kernel_rfl) (SteadyAll.of (Below.refl _ _).drew) ?_
  intro hSt
  refine wpAnyH_seq (is := [0, 1]) (by kernel_rfl) (by kernel_rfl) (fun _ _ d _ _ h => by cases d <;> exact h) (by assumption) ?_
  iterate 2 (first | (refine TakeSeq.step (v := undef) rfl (Or.inr ⟨by rfl, rfl⟩) ?_; simp only [Act.put, List.setIfInBounds_toArray, List.set_cons_zero, List.set_cons_succ, List.getElem_toArray, List.getElem_cons_zero, List.getElem_cons_succ]) | (refine TakeSeq.step (v := ?_) rfl (Or.inl ⟨by rfl, ?_⟩) ?_; rotate_left 1; (focus (intro wq hSq; have hrd := hSq.rule; go_simp; with_reducible rfl)); simp only [Act.put, List.setIfInBounds_toArray, List.set_cons_zero, List.set_cons_succ, List.getElem_toArray, List.getElem_cons_zero, List.getElem_cons_succ]))
  refine TakeSeq.done ?_
  refine wpAnyH_ready (rs := [2]) (by kernel_rfl) (by simp) ?_
  refine AllReadyH.cons rfl (fun K hK => ?_) (AllReadyH.nil)
  rw [if_pos (by rfl)]
  go_simp
  go_at_call 17; refine (talkNew_ok _ _ _ _).mono ?_; rintro e w2 ⟨rfl, rfl⟩
  go_wp2_with fail
  refine hK.out _ _ (SteadyAll.of (by (repeat (first | with_reducible exact Below.refl _ _ | with_reducible assumption | with_reducible refine Below.setCell ?_ (by first | (simp; done) | (simp; omega)) _ | with_reducible refine below_alloc ?_ _ | with_reducible refine below_drewN ?_ _ | with_reducible refine Below.drew ?_ | with_reducible refine below_step ?_ (by assumption))))) (fun hHeld => ?_)
  clear hK K
  refine wpAnyH_seq (is := [3]) (by kernel_rfl) (by kernel_rfl) (fun _ _ d _ _ h => by cases d <;> exact h) (by assumption) ?_
  iterate 1 (first | (refine TakeSeq.step (v := undef) rfl (Or.inr ⟨by rfl, rfl⟩) ?_; simp only [Act.put, List.setIfInBounds_toArray, List.set_cons_zero, List.set_cons_succ, List.getElem_toArray, List.getElem_cons_zero, List.getElem_cons_succ]) | (refine TakeSeq.step (v := ?_) rfl (Or.inl ⟨by rfl, ?_⟩) ?_; rotate_left 1; (focus (intro wq hSq; have hrd := hSq.rule; go_simp; with_reducible rfl)); simp only [Act.put, List.setIfInBounds_toArray, List.set_cons_zero, List.set_cons_succ, List.getElem_toArray, List.getElem_cons_zero, List.getElem_cons_succ]))
  refine TakeSeq.done ?_
  refine wpAnyH_ready (rs := [4]) (by kernel_rfl) (by simp) ?_
  refine AllReadyH.cons rfl (fun K hK => ?_) (AllReadyH.nil)
  rw [if_pos (by rfl)]
  go_simp
  refine hK.out _ _ (SteadyAll.of (by (repeat (first | with_reducible exact Below.refl _ _ | with_reducible assumption | with_reducible refine Below.setCell ?_ (by first | (simp; done) | (simp; omega)) _ | with_reducible refine below_alloc ?_ _ | with_reducible refine below_drewN ?_ _ | with_reducible refine Below.drew ?_ | with_reducible refine below_step ?_ (by assumption))))) (fun hHeld => ?_)
  clear hK K
  refine wpAnyH_seq (is := [5]) (by kernel_rfl) (by kernel_rfl) (fun _ _ d _ _ h => by cases d <;> exact h) (by assumption) ?_
  iterate 1 (first | (refine TakeSeq.step (v := undef) rfl (Or.inr ⟨by rfl, rfl⟩) ?_; simp only [Act.put, List.setIfInBounds_toArray, List.set_cons_zero, List.set_cons_succ, List.getElem_toArray, List.getElem_cons_zero, List.getElem_cons_succ]) | (refine TakeSeq.step (v := ?_) rfl (Or.inl ⟨by rfl, ?_⟩) ?_; rotate_left 1; (focus (intro wq hSq; have hrd := hSq.rule; go_simp; with_reducible rfl)); simp only [Act.put, List.setIfInBounds_toArray, List.set_cons_zero, List.set_cons_succ, List.getElem_toArray, List.getElem_cons_zero, List.getElem_cons_succ]))
  refine TakeSeq.done ?_
  refine wpAnyH_done (by kernel_rfl) ?_ _
  have BT : Blk ((w1.alloc (.cells #[.slice pg gs.length cg, .slice none 0 0, .bool false] 119)).alloc (.cells #[.int .i64 0, .int .i64 1, .int .i64 108, .int .i64 0, .slice (some ⟨gm, 0, none⟩) (m + 1) cm, .slice gr r cr, .slice gw k cw, .pointer (some ⟨w1.heap.size, 0, none⟩), .int .i64 0, .int .i64 0, .bool false] 77)) w1.heap.size 119 #[.slice pg gs.length cg, .slice none 0 0, .bool false] := made12 w1
  have BC : Blk ((w1.alloc (.cells #[.slice pg gs.length cg, .slice none 0 0, .bool false] 119)).alloc (.cells #[.int .i64 0, .int .i64 1, .int .i64 108, .int .i64 0, .slice (some ⟨gm, 0, none⟩) (m + 1) cm, .slice gr r cr, .slice gw k cw, .pointer (some ⟨w1.heap.size, 0, none⟩), .int .i64 0, .int .i64 0, .bool false] 77)) (w1.heap.size + 1) 77 #[.int .i64 0, .int .i64 1, .int .i64 108, .int .i64 0, .slice (some ⟨gm, 0, none⟩) (m + 1) cm, .slice gr r cr, .slice gw k cw, .pointer (some ⟨w1.heap.size, 0, none⟩), .int .i64 0, .int .i64 0, .bool false] := Blk.made' (by simp)
  have hb2 : Below w1.heap.size w1 ((w1.alloc (.cells #[.slice pg gs.length cg, .slice none 0 0, .bool false] 119)).alloc (.cells #[.int .i64 0, .int .i64 1, .int .i64 108, .int .i64 0, .slice (some ⟨gm, 0, none⟩) (m + 1) cm, .slice gr r cr, .slice gw k cw, .pointer (some ⟨w1.heap.size, 0, none⟩), .int .i64 0, .int .i64 0, .bool false] 77)) := by (repeat (first | with_reducible exact Below.refl _ _ | with_reducible assumption | with_reducible refine Below.setCell ?_ (by first | (simp; done) | (simp; omega)) _ | with_reducible refine below_alloc ?_ _ | with_reducible refine below_drewN ?_ _ | with_reducible refine Below.drew ?_ | with_reducible refine below_step ?_ (by assumption)))
  generalize hw2 : World.alloc (World.alloc _ _) _ = w2 at *
  clear hw2 kj lj
  have kj2 := (HB.out.1.kept hb2).cell
  have lj2 := (HB.out.1.kept hb2).lt
  have HB2 := Lib.hid (And.intro BT (And.intro BC hb2))
  clear BT BC hb2
  go_wp2_with fail
  go_at_call 18
  refine (HP.out _ (by have h1 := HB.out.2.2; have h2 := HB2.out.2.2; (repeat (first | with_reducible exact Below.refl _ _ | with_reducible assumption | with_reducible refine Below.setCell ?_ (by first | (simp; done) | (simp; omega)) _ | with_reducible refine below_alloc ?_ _ | with_reducible refine below_drewN ?_ _ | with_reducible refine Below.drew ?_ | with_reducible refine below_step ?_ (by assumption))))).mono ?_
  rintro e w3 ⟨rfl, hb3⟩
  have BT := (Blk.drew HB2.out.1).kept hb3
  have BC := (Blk.drew HB2.out.2.1).kept hb3
  have hb4 : Below w1.heap.size w1 w3 := by have h2 := HB2.out.2.2; (repeat (first | with_reducible exact Below.refl _ _ | with_reducible assumption | with_reducible refine Below.setCell ?_ (by first | (simp; done) | (simp; omega)) _ | with_reducible refine below_alloc ?_ _ | with_reducible refine below_drewN ?_ _ | with_reducible refine Below.drew ?_ | with_reducible refine below_step ?_ (by assumption)))
  have HB3 := Lib.hid (And.intro BT (And.intro BC hb4))
  have kc := BC.cell
  have fc := BC.free
  have lc := BC.lt
  clear BT BC hb4 hb3
  go_wp2_with fail
  go_at_call 19
  have hov : Over (w1.heap.size + 1) w3 (((w3.setCell ⟨w1.heap.size + 1, 8, none⟩ (.int .i64 0)).setCell ⟨w1.heap.size + 1, 9, none⟩ (.int .i64 1)).setCell ⟨w1.heap.size + 1, 10, none⟩ (.bool true)) := (((Over.refl _ _).put _ _).put _ _).put _ _
  have BC4 : Blk (((w3.setCell ⟨w1.heap.size + 1, 8, none⟩ (.int .i64 0)).setCell ⟨w1.heap.size + 1, 9, none⟩ (.int .i64 1)).setCell ⟨w1.heap.size + 1, 10, none⟩ (.bool true)) (w1.heap.size + 1) 77 (cmtCells w1.heap.size (.slice (some ⟨gm, 0, none⟩) (m + 1) cm) (.slice gr r cr) (.slice gw k cw)) := ((((HB3.out.2.1.put 8 (.int .i64 0)).put 9 (.int .i64 1)).put 10 (.bool true))).cast rfl
  have hbw : Below w.heap.size w w3 := below_step HB.out.2.2 HB3.out.2.2
  have hc4 : CAt (((w3.setCell ⟨w1.heap.size + 1, 8, none⟩ (.int .i64 0)).setCell ⟨w1.heap.size + 1, 9, none⟩ (.int .i64 1)).setCell ⟨w1.heap.size + 1, 10, none⟩ (.bool true)) lo2 (w1.heap.size + 1) w1.heap.size (m + 1) r k (.slice (some ⟨gm, 0, none⟩) (m + 1) cm) (.slice gr r cr) (.slice gw k cw) := ⟨BC4, (HJ.out.1.below hbw).over hov HB3.out.2.1 (by decide) (by decide) (by decide)⟩
  have ht4 : TkAt (((w3.setCell ⟨w1.heap.size + 1, 8, none⟩ (.int .i64 0)).setCell ⟨w1.heap.size + 1, 9, none⟩ (.int .i64 1)).setCell ⟨w1.heap.size + 1, 10, none⟩ (.bool true)) w1.heap.size 0 gs none := TkAt.over ⟨_, none, 0, 0, HB3.out.1, HJ.out.2.1.below hbw, .inl ⟨rfl, rfl⟩⟩ hov HB3.out.2.1 (by decide) (by decide) (by decide) (by decide) (by decide)
  have B14 := ((HB.out.2.1.kept HB3.out.2.2)).grown hov (fun e => by injection e with e; have := HB.out.2.1.lt; omega)
  have hs4 : w.heap.size ≤ w3.heap.size := hbw.size
  have hs1 := HB.out.2.2.size
  have hbW4 : Below w.heap.size w (((w3.setCell ⟨w1.heap.size + 1, 8, none⟩ (.int .i64 0)).setCell ⟨w1.heap.size + 1, 9, none⟩ (.int .i64 1)).setCell ⟨w1.heap.size + 1, 10, none⟩ (.bool true)) := below_grown (w := w) (w1 := w3) hbw hov (fun j hj => by injection hj with hj; omega)
  generalize hW4 : ((w3.setCell ⟨w1.heap.size + 1, 8, none⟩ (.int .i64 0)).setCell ⟨w1.heap.size + 1, 9, none⟩ (.int .i64 1)).setCell ⟨w1.heap.size + 1, 10, none⟩ (.bool true) = W4 at *
  clear hW4 hov kc fc lc
  refine (cRun_ok 0 lo2 (w1.heap.size + 1) w1.heap.size m r k _ _ _ gs W4 hc4 ht4 trivial (by omega) (Nat.le_trans hlw2 hbW4.size) HJ.out.2.2).mono ?_
  rintro e w5 ⟨ck, ⟨o, rfl, ho3⟩, htk, ho⟩
  obtain ⟨⟨gs', pd⟩, hga⟩ : ∃ q, q = goAll (fiveAsks m k r ck) gs := ⟨_, rfl⟩
  rw [← hga] at ho3 htk
  obtain ⟨vg, qa, na, ca, h1, h2, h3⟩ := htk
  have hl1 := HB.out.2.1.lt
  have BR := B14.grown ho (fun e => by injection e with e; omega)
  have BC5 := BC4.grown ho (fun e => by injection e with e; omega)
  unfold cmtCells at BC5
  have hb5 : Below w.heap.size w w5 := below_grown (w := w) (w1 := W4) hbW4 ho (fun j hj => by injection hj with hj; omega)
  have kr := BR.cell
  have fr := BR.free
  have lr := BR.lt
  have kc := BC5.cell
  have lc := BC5.lt
  have HG := Lib.hid (And.intro h1 (And.intro h2 (And.intro hga.symm (And.intro ho3 (And.intro BR hb5)))))
  have HH := Lib.hid h3
  have lne : w.heap.size + 1 < w1.heap.size := hl1
  clear h1 h2 h3 hga ho3 BC4 hc4 ht4 B14 hbW4 BR BC5 hb5 ho
  go_wp2_with fail
  have ho6 : Over (w.heap.size + 1) w5 ((w5.setCell ⟨w.heap.size + 1, 0, none⟩ (.int .i64 0)).setCell ⟨w.heap.size + 1, 1, none⟩ (.int .i64 o)) := ((Over.refl _ _).put _ _).put _ _
  have hg := HG.out
  have T6 := hg.1.grown ho6 (fun e => by injection e with e; omega)
  have B6 := Blk.all2 hg.2.2.2.2.1 (.int .i64 0) (.int .i64 o)
  have hb6 : Below w.heap.size w ((w5.setCell ⟨w.heap.size + 1, 0, none⟩ (.int .i64 0)).setCell ⟨w.heap.size + 1, 1, none⟩ (.int .i64 o)) := below_grown (w := w) (w1 := w5) hg.2.2.2.2.2 ho6 (fun j hj => by injection hj with hj; omega)
  have C6 : ∀ i, (((w5.setCell ⟨w.heap.size + 1, 0, none⟩ (.int .i64 0)).setCell ⟨w.heap.size + 1, 1, none⟩ (.int .i64 o))).cell? ⟨w1.heap.size + 1, i, none⟩ = w5.cell? ⟨w1.heap.size + 1, i, none⟩ := fun i => by
    rw [World.cell?_setCell_other _ _ _ _ (by intro e; injection e with e1; omega), World.cell?_setCell_other _ _ _ _ (by intro e; injection e with e1; omega)]
  have HH6 : Hid ((pd = none ∧ na = 0) ∨ ∃ l, pd = some l ∧ l ≠ [] ∧ AsksAt ((w5.setCell ⟨w.heap.size + 1, 0, none⟩ (.int .i64 0)).setCell ⟨w.heap.size + 1, 1, none⟩ (.int .i64 o)) 0 (.slice qa na ca) l) := Lib.hid (by
    rcases HH.out with h | ⟨l, h1, h2, h3⟩
    · exact .inl h
    · exact .inr ⟨l, h1, h2, h3.over ho6 hg.2.2.2.2.1 (by decide) (by decide)⟩)
  generalize hw6 : (w5.setCell ⟨w.heap.size + 1, 0, none⟩ (.int .i64 0)).setCell ⟨w.heap.size + 1, 1, none⟩ (.int .i64 o) = w6 at *
  clear hw6
  have HZ := Lib.hid (And.intro T6 (And.intro B6 hb6))
  have C7 := (C6 7).trans (kc 7)
  have lc6 : w1.heap.size + 1 < w6.heap.size := Nat.lt_of_lt_of_le lc ho6.size
  clear T6 B6 hb6 ho6 kr fr lr kc lc hg C6
  refine (asking_ok w1.heap.size vg qa na ca false w6 HZ.out.1).mono ?_
  rintro e w7 ⟨rfl, hb7⟩
  have BR := HZ.out.2.1.kept hb7
  have BT := HZ.out.1.kept hb7
  have x7 := (hb7.cell (p := ⟨w1.heap.size + 1, 7, none⟩) lc6).trans C7
  have lx7 := Nat.lt_of_lt_of_le lc6 hb7.size
  have kr := BR.cell
  have fr := BR.free
  have lr := BR.lt
  have HY := Lib.hid (And.intro BR (And.intro BT (And.intro hb7 (below_step HZ.out.2.2 hb7))))
  clear BR BT hb7 C7 lc6
  rcases HH6.out with ⟨rfl, rfl⟩ | ⟨l, rfl, hl0, hal⟩
  · obtain rfl : o = 3 := HG.out.2.2.2.1 rfl
    obtain rfl : gs' = [] := hx ck gs' HG.out.2.2.1
    obtain ⟨pv, cv, hpv⟩ : ∃ pv cv, vg = .slice pv 0 cv := by
      obtain ⟨vs, _, h, _⟩ := HG.out.2.1
      exact h.shape
    subst hpv
    go_wp2_with fail
    go_at_call 21
    refine (mismatch_ok w1.heap.size pv 0 cv _ w7 HY.out.2.1).mono ?_
    rintro e w8 ⟨rfl, hb8⟩
    have BR := HY.out.1.kept hb8
    have hb9 := below_step HY.out.2.2.2 hb8
    have HX := Lib.hid (And.intro BR hb9)
    have k8 := BR.cell
    have f8 := BR.free
    have l8 := BR.lt
    clear BR hb8 hb9 kr fr lr x7 lx7
    go_wp2_with fail
    refine wp_region_held_drew (S := KeepBlk (w.heap.size + 1) 43 #[.int .i64 0, .int .i64 3]) (by kernel_rfl) ⟨HX.out.1.drew⟩ ?_
    intro hSt
    refine wpAnyH_seq (is := [0, 1]) (by kernel_rfl) (by kernel_rfl) (fun _ _ d _ _ h => by cases d <;> exact h) (by assumption) ?_
    iterate 2 (first | (refine TakeSeq.step (v := undef) rfl (Or.inr ⟨by rfl, rfl⟩) ?_; simp only [Act.put, List.setIfInBounds_toArray, List.set_cons_zero, List.set_cons_succ, List.getElem_toArray, List.getElem_cons_zero, List.getElem_cons_succ]) | (refine TakeSeq.step (v := ?_) rfl (Or.inl ⟨by rfl, ?_⟩) ?_; rotate_left 1; (focus (intro wq hSq; have hrd := hSq.rule; go_simp; with_reducible rfl)); simp only [Act.put, List.setIfInBounds_toArray, List.set_cons_zero, List.set_cons_succ, List.getElem_toArray, List.getElem_cons_zero, List.getElem_cons_succ]))
    refine TakeSeq.done ?_
    refine wpAnyH_ready (rs := [2]) (by kernel_rfl) (by simp) ?_
    refine AllReadyH.cons rfl (fun K hK => ?_) (AllReadyH.nil)
    rw [if_pos (by rfl)]
    go_simp
    refine hK.out _ _ (⟨Blk.all2 HX.out.1.drew _ _⟩) (fun hHeld => ?_)
    clear hK K
    refine wpAnyH_seq (is := [3]) (by kernel_rfl) (by kernel_rfl) (fun _ _ d _ _ h => by cases d <;> exact h) (by assumption) ?_
    iterate 1 (first | (refine TakeSeq.step (v := undef) rfl (Or.inr ⟨by rfl, rfl⟩) ?_; simp only [Act.put, List.setIfInBounds_toArray, List.set_cons_zero, List.set_cons_succ, List.getElem_toArray, List.getElem_cons_zero, List.getElem_cons_succ]) | (refine TakeSeq.step (v := ?_) rfl (Or.inl ⟨by rfl, ?_⟩) ?_; rotate_left 1; (focus (intro wq hSq; have hrd := hSq.rule; go_simp; with_reducible rfl)); simp only [Act.put, List.setIfInBounds_toArray, List.set_cons_zero, List.set_cons_succ, List.getElem_toArray, List.getElem_cons_zero, List.getElem_cons_succ]))
    refine TakeSeq.done ?_
    refine wpAnyH_done (by kernel_rfl) ?_ _
    go_wp2_with fail
    have hz : Below w.heap.size w ((w8.drew.setCell ⟨w.heap.size + 1, 0, none⟩ (.int .i64 0)).setCell ⟨w.heap.size + 1, 1, none⟩ (.int .i64 3)) :=
      below_grown (w := w) (w1 := w8) HX.out.2 (show Over (w.heap.size + 1) w8 _ from ((((Over.refl _ _).drew).put _ _).put _ _)) (fun j hj => by injection hj with hj; omega)
    refine bodyPost_ret (results_tbt rfl _ _ (w.heap.size + 1) _ _ _ rfl (Blk.all2 HX.out.1.drew _ _) Tryz.underlying43 rfl (by kernel_rfl)) rfl ⟨hz, ck, .inr ⟨HG.out.2.2.1, rfl⟩⟩
  · have hna : 0 < na := by
      obtain ⟨p, c, hp⟩ := hal.shape
      simp only [Value.slice.injEq] at hp
      have : l.length ≠ 0 := fun h => hl0 (List.eq_nil_of_length_eq_zero h)
      omega
    have b1 : decide (0 < na) = true := by simp [hna]
    have HL := Lib.hid (And.intro hl0 hal)
    clear hal hl0
    go_wp2_with fail
    have ho8 : Over (w.heap.size + 1) w7 ((w7.setCell ⟨w.heap.size + 1, 0, none⟩ (.int .i64 0)).setCell ⟨w.heap.size + 1, 1, none⟩ (.int .i64 0)) := ((Over.refl _ _).put _ _).put _ _
    have hz : Below w.heap.size w ((w7.setCell ⟨w.heap.size + 1, 0, none⟩ (.int .i64 0)).setCell ⟨w.heap.size + 1, 1, none⟩ (.int .i64 0)) :=
      below_grown (w := w) (w1 := w7) HY.out.2.2.2 ho8 (fun j hj => by injection hj with hj; omega)
    refine bodyPost_ret (results_tbt rfl _ _ (w.heap.size + 1) _ _ _ rfl (Blk.all2 HY.out.1 _ _) Tryz.underlying43 rfl (by kernel_rfl)) rfl ⟨hz, ck, .inl ⟨l, _, gs', HG.out.2.2.1, HL.out.1, rfl, (HL.out.2.below HY.out.2.2.1).over ho8 HY.out.1 (by decide) (by decide)⟩⟩
end Go.Proofs.YtoidjgongafnkaaGreatDoor
