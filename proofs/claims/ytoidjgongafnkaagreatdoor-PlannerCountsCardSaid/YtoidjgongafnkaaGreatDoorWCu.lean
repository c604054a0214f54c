/- Package commit: the clock's verb. -/
import Derived.Test.YtoidjgongafnkaaGreatDoorQf
set_option linter.unusedVariables false
set_option linter.unusedSimpArgs false
set_option linter.unusedSectionVars false
set_option linter.constructorNameAsVariable false
namespace Go.Proofs.YtoidjgongafnkaaGreatDoor
open Go.RowKit

def clockVb (i : Nat) : Cm.Vb := ⟨2, i, 32, 0, 0, 0, [1]⟩
set_option maxRecDepth 10000 in
set_option maxHeartbeats 1000000 in
theorem cClock_ok (lo2 c t m r k i : Nat) (vm vr vw : Value) (fl : Bool) (w : World) (hc : CAt w lo2 c t m r k vm vr vw) (hlw2 : lo2 ≤ w.heap.size) :
    Calls Tryz.prog 78 #[.pointer (some ⟨c, 0, none⟩), .agg #[.int .i64 i, .int .i64 1, .bool fl]] w (AddrPost (clockVb i) w) := by
  obtain ⟨pm, cm, rfl⟩ := own_shape hc.job.mem
  have HA : Hid (∀ W b, Below w.heap.size w W → Blk W b 33 #[.int .u64 1] → Calls Tryz.prog 70 #[.pointer (some ⟨c, 0, none⟩), .agg #[.int .i64 i, .int .i64 1, .bool fl], .agg (rawArr (clockVb i) (.slice (some ⟨b, 0, none⟩) 1 1))] W (AddrPost (clockVb i) W)) :=
    Lib.hid (fun W b hb hB => cAddress_ok (clockVb i) 0 c t pm m cm vr vw (some ⟨b, 0, none⟩) 1 fl W (hc.blk.kept hb) (RowAt.lit (cs := [.int .u64 1]) hB (by omega) rfl) (.inr (by simp [clockVb])) (by simp [clockVb]))
  have k0 : w.cell? ⟨c, 0, none⟩ = some (.int .i64 0) := hc.blk.cell 0
  have k1 : w.cell? ⟨c, 1, none⟩ = some (.int .i64 1) := hc.blk.cell 1
  have lc := hc.blk.lt
  clear hc
  unfold rawArr at HA
  simp only [clockVb] at HA
  go_enter Tryz.func78, Tryz.ntmps78
  go_wp2_with fail
  generalize hW : World.alloc _ _ = W
  have BM : Blk W w.heap.size 75 #[.int .i64 i, .int .i64 1, .bool fl] := by rw [← hW]; exact (Blk.made w _ _).alloc _
  have BR : Blk W (w.heap.size + 1) 147 #[.int .i64 0, .int .i64 0, .int .i64 0, .int .i64 0, .int .u64 0, .int .u64 0, .slice none 0 0, .int .u64 0, .int .i64 0] := by rw [← hW]; exact Blk.made' (by simp)
  have hbW : Below w.heap.size w W := by rw [← hW]; (repeat (first | with_reducible exact Below.refl _ _ | with_reducible assumption | with_reducible refine Below.setCell ?_ (by first | (simp; done) | (simp; omega)) _ | with_reducible refine below_alloc ?_ _ | with_reducible refine below_drewN ?_ _ | with_reducible refine Below.drew ?_ | with_reducible refine below_step ?_ (by assumption)))
  have x0 : W.cell? ⟨c, 0, none⟩ = some (.int .i64 0) := (hbW.cell (p := ⟨c, 0, none⟩) lc).trans k0
  have x1 : W.cell? ⟨c, 1, none⟩ = some (.int .i64 1) := (hbW.cell (p := ⟨c, 1, none⟩) lc).trans k1
  have km := BM.cell
  have lm := BM.lt
  have lcW : c < W.heap.size := Nat.lt_of_lt_of_le lc hbW.size
  have l0 : w.heap.size < w.heap.size + 1 := by omega
  have l2 : c < w.heap.size + 1 := by omega
  have HBR := Lib.hid (And.intro BR hbW)
  clear k0 k1 hW BM BR hbW
  refine wp_region_held_drew (S := SteadyBut (w.heap.size + 1) _) (by kernel_rfl) (SteadyBut.of (Below.refl _ _).drew) ?_
  intro hSt
  refine wpAnyH_seq (is := [0, 1, 2, 3, 4, 5, 6, 8, 9, 10, 11, 12, 13]) (by kernel_rfl) (by kernel_rfl) (fun _ _ d _ _ h => by cases d <;> exact h) (by assumption) ?_
  iterate 13 (first | (refine TakeSeq.step (v := undef) rfl (Or.inr ⟨by rfl, rfl⟩) ?_; simp only [Act.put, List.setIfInBounds_toArray, List.set_cons_zero, List.set_cons_succ, List.getElem_toArray, List.getElem_cons_zero, List.getElem_cons_succ]) | (refine TakeSeq.step (v := ?_) rfl (Or.inl ⟨by rfl, ?_⟩) ?_; rotate_left 1; (focus (intro wq hSq; have hrd := hSq.rule; go_simp; with_reducible rfl)); simp only [Act.put, List.setIfInBounds_toArray, List.set_cons_zero, List.set_cons_succ, List.getElem_toArray, List.getElem_cons_zero, List.getElem_cons_succ]))
  refine TakeSeq.done ?_
  refine wpAnyH_ready (rs := [7, 14]) (by kernel_rfl) (by simp) ?_
  refine AllReadyH.cons rfl (fun K hK => ?_) (AllReadyH.cons rfl (fun K hK => ?_) (AllReadyH.nil))
  · skip
    rw [if_pos (by rfl)]
    go_simp
    go_at_call 129; refine (clock0 _).mono ?_; rintro e w1 ⟨rfl, hb1⟩
    go_wp2_with fail
    refine hK.out _ _ (SteadyBut.of (by (repeat (first | with_reducible exact Below.refl _ _ | with_reducible assumption | with_reducible refine Below.setCell ?_ (by first | (simp; done) | (simp; omega)) _ | with_reducible refine below_alloc ?_ _ | with_reducible refine below_drewN ?_ _ | with_reducible refine Below.drew ?_ | with_reducible refine below_step ?_ (by assumption))))) (fun hHeld => ?_)
    clear hK K
    refine wpAnyH_ready (rs := [14]) (by kernel_rfl) (by simp) ?_
    refine AllReadyH.cons rfl (fun K hK => ?_) (AllReadyH.nil)
    rw [if_pos (by rfl)]
    go_simp
    refine hK.out _ _ (SteadyBut.of (by (repeat (first | with_reducible exact Below.refl _ _ | with_reducible assumption | with_reducible refine Below.setCell ?_ (by first | (simp; done) | (simp; omega)) _ | with_reducible refine below_alloc ?_ _ | with_reducible refine below_drewN ?_ _ | with_reducible refine Below.drew ?_ | with_reducible refine below_step ?_ (by assumption))))) (fun hHeld => ?_)
    clear hK K
    refine wpAnyH_seq (is := [15]) (by kernel_rfl) (by kernel_rfl) (fun _ _ d _ _ h => by cases d <;> exact h) (by assumption) ?_
    iterate 1 (first | (refine TakeSeq.step (v := undef) rfl (Or.inr ⟨by rfl, rfl⟩) ?_; simp only [Act.put, List.setIfInBounds_toArray, List.set_cons_zero, List.set_cons_succ, List.getElem_toArray, List.getElem_cons_zero, List.getElem_cons_succ]) | (refine TakeSeq.step (v := ?_) rfl (Or.inl ⟨by rfl, ?_⟩) ?_; rotate_left 1; (focus (intro wq hSq; have hrd := hSq.rule; go_simp; with_reducible rfl)); simp only [Act.put, List.setIfInBounds_toArray, List.set_cons_zero, List.set_cons_succ, List.getElem_toArray, List.getElem_cons_zero, List.getElem_cons_succ]))
    refine TakeSeq.done ?_
    have hs1 := hb1.size
    simp only [size_drew] at hs1
    have BR2 : Blk (w1.alloc (.cells #[.int .u64 1] 33)) (w.heap.size + 1) 147 _ := (Blk.kept (Blk.drew HBR.out.1) hb1).alloc _
    have hwy : Below w.heap.size w (w1.alloc (.cells #[.int .u64 1] 33)) := by have := HBR.out.2; (repeat (first | with_reducible exact Below.refl _ _ | with_reducible assumption | with_reducible refine Below.setCell ?_ (by first | (simp; done) | (simp; omega)) _ | with_reducible refine below_alloc ?_ _ | with_reducible refine below_drewN ?_ _ | with_reducible refine Below.drew ?_ | with_reducible refine below_step ?_ (by assumption)))
    refine wpAnyH_ready (rs := [16]) (by kernel_rfl) (by simp) ?_
    refine AllReadyH.cons rfl (fun K hK => ?_) (AllReadyH.nil)
    rw [if_pos (by rfl)]
    go_simp
    go_at_call 70; refine (HA.out _ w1.heap.size hwy (Blk.made _ _ _)).mono ?_; rintro e w3 ⟨⟨v, rfl, hwv⟩, hb3⟩
    go_wp2_with fail
    refine hK.out _ _ (SteadyBut.of (by (repeat (first | with_reducible exact Below.refl _ _ | with_reducible assumption | with_reducible refine Below.setCell ?_ (by first | (simp; done) | (simp; omega)) _ | with_reducible refine below_alloc ?_ _ | with_reducible refine below_drewN ?_ _ | with_reducible refine Below.drew ?_ | with_reducible refine below_step ?_ (by assumption))))) (fun hHeld => ?_)
    clear hK K
    obtain ⟨pv, cv, rfl⟩ := RowAt.shape hwv
    have B1 : Blk w3 (w.heap.size + 1) 147 _ := Blk.kept BR2 hb3
    have hw1 : WordsAt w3 w.heap.size (.slice pv 1 cv) [1] := RowAt.low hwv hwy.size
    have hb4 : Below w.heap.size w w3 := by (repeat (first | with_reducible exact Below.refl _ _ | with_reducible assumption | with_reducible refine Below.setCell ?_ (by first | (simp; done) | (simp; omega)) _ | with_reducible refine below_alloc ?_ _ | with_reducible refine below_drewN ?_ _ | with_reducible refine Below.drew ?_ | with_reducible refine below_step ?_ (by assumption)))
    have HB1 := Lib.hid (And.intro B1 (And.intro hw1 hb4))
    have ky := B1.cell
    have fy := B1.free
    clear B1 hw1 hb4 hwv hwy BR2 km x0 x1
    simp only [vbArr, clockVb]
    refine wpAnyH_ready (rs := [17]) (by kernel_rfl) (by simp) ?_
    refine AllReadyH.cons rfl (fun K hK => ?_) (AllReadyH.nil)
    rw [if_pos (by rfl)]
    go_simp
    refine hK.out _ _ (SteadyBut.over (by (repeat (first | with_reducible exact Over.refl _ _ | with_reducible assumption | with_reducible refine Over.put ?_ _ _ | with_reducible refine Over.alloc ?_ _ | with_reducible refine Over.drew ?_ | with_reducible refine Over.own ?_ (by first | (simp; done) | (simp; omega)) _ | with_reducible refine Over.trans ?_ (by assumption) | with_reducible refine Over.then_below ?_ (by assumption))))) (fun hHeld => ?_)
    clear hK K
    refine wpAnyH_done (by kernel_rfl) ?_ _
    go_wp2_with fail
    have B9 := Blk.all9 HB1.out.1 (.int .i64 2) (.int .i64 i) (.int .i64 (32 : Nat)) (.int .i64 0) (.int .u64 0) (.int .u64 0) (.slice pv 1 cv) (.int .u64 1) (.int .i64 1)
    have ho9 : Over (w.heap.size + 1) w3 _ := (((((((((Over.refl (w.heap.size + 1) w3).put 0 (.int .i64 2)).put 1 (.int .i64 i)).put 2 (.int .i64 (32 : Nat))).put 3 (.int .i64 0)).put 4 (.int .u64 0)).put 5 (.int .u64 0)).put 6 (.slice pv 1 cv)).put 7 (.int .u64 1)).put 8 (.int .i64 1)
    have hw9 := WordsAt.mod (S := fun b => b = w.heap.size + 1) HB1.out.2.1 ((Mod.refl _ _).over ho9 (.inl rfl)) (fun b hb => .inr ⟨_, _, hb ▸ HB1.out.1, by decide⟩)
    have hb9 : Below w.heap.size w _ := below_grown HB1.out.2.2 ho9 (fun j hj => by injection hj with hj; omega)
    refine bodyPost_ret (results_b rfl _ _ (w.heap.size + 1) _ _ _ rfl B9 Tryz.underlying147 rfl (by kernel_rfl)) rfl ⟨⟨_, rfl, hw9⟩, hb9⟩
  · skip
    rw [if_pos (by rfl)]
    go_simp
    refine hK.out _ _ (SteadyBut.of (by (repeat (first | with_reducible exact Below.refl _ _ | with_reducible assumption | with_reducible refine Below.setCell ?_ (by first | (simp; done) | (simp; omega)) _ | with_reducible refine below_alloc ?_ _ | with_reducible refine below_drewN ?_ _ | with_reducible refine Below.drew ?_ | with_reducible refine below_step ?_ (by assumption))))) (fun hHeld => ?_)
    clear hK K
    refine wpAnyH_ready (rs := [7]) (by kernel_rfl) (by simp) ?_
    refine AllReadyH.cons rfl (fun K hK => ?_) (AllReadyH.nil)
    rw [if_pos (by rfl)]
    go_simp
    go_at_call 129; refine (clock0 _).mono ?_; rintro e w1 ⟨rfl, hb1⟩
    go_wp2_with fail
    refine hK.out _ _ (SteadyBut.of (by (repeat (first | with_reducible exact Below.refl _ _ | with_reducible assumption | with_reducible refine Below.setCell ?_ (by first | (simp; done) | (simp; omega)) _ | with_reducible refine below_alloc ?_ _ | with_reducible refine below_drewN ?_ _ | with_reducible refine Below.drew ?_ | with_reducible refine below_step ?_ (by assumption))))) (fun hHeld => ?_)
    clear hK K
    refine wpAnyH_seq (is := [15]) (by kernel_rfl) (by kernel_rfl) (fun _ _ d _ _ h => by cases d <;> exact h) (by assumption) ?_
    iterate 1 (first | (refine TakeSeq.step (v := undef) rfl (Or.inr ⟨by rfl, rfl⟩) ?_; simp only [Act.put, List.setIfInBounds_toArray, List.set_cons_zero, List.set_cons_succ, List.getElem_toArray, List.getElem_cons_zero, List.getElem_cons_succ]) | (refine TakeSeq.step (v := ?_) rfl (Or.inl ⟨by rfl, ?_⟩) ?_; rotate_left 1; (focus (intro wq hSq; have hrd := hSq.rule; go_simp; with_reducible rfl)); simp only [Act.put, List.setIfInBounds_toArray, List.set_cons_zero, List.set_cons_succ, List.getElem_toArray, List.getElem_cons_zero, List.getElem_cons_succ]))
    refine TakeSeq.done ?_
    have hs1 := hb1.size
    simp only [size_drew, size_alloc] at hs1
    have BR2 : Blk w1 (w.heap.size + 1) 147 _ := Blk.kept ((Blk.drew HBR.out.1).alloc _) hb1
    have BS2 : Blk w1 W.heap.size 33 #[.int .u64 1] := Blk.kept (Blk.made W.drew 33 #[.int .u64 1]) hb1
    have HWY : Hid (Below w.heap.size w w1) := Lib.hid (by have := HBR.out.2; (repeat (first | with_reducible exact Below.refl _ _ | with_reducible assumption | with_reducible refine Below.setCell ?_ (by first | (simp; done) | (simp; omega)) _ | with_reducible refine below_alloc ?_ _ | with_reducible refine below_drewN ?_ _ | with_reducible refine Below.drew ?_ | with_reducible refine below_step ?_ (by assumption))))
    refine wpAnyH_ready (rs := [16]) (by kernel_rfl) (by simp) ?_
    refine AllReadyH.cons rfl (fun K hK => ?_) (AllReadyH.nil)
    rw [if_pos (by rfl)]
    go_simp
    go_at_call 70; refine (HA.out _ W.heap.size HWY.out BS2).mono ?_; rintro e w3 ⟨⟨v, rfl, hwv⟩, hb3⟩
    go_wp2_with fail
    refine hK.out _ _ (SteadyBut.of (by (repeat (first | with_reducible exact Below.refl _ _ | with_reducible assumption | with_reducible refine Below.setCell ?_ (by first | (simp; done) | (simp; omega)) _ | with_reducible refine below_alloc ?_ _ | with_reducible refine below_drewN ?_ _ | with_reducible refine Below.drew ?_ | with_reducible refine below_step ?_ (by assumption))))) (fun hHeld => ?_)
    clear hK K
    have hwy := HWY.out
    obtain ⟨pv, cv, rfl⟩ := RowAt.shape hwv
    have B1 : Blk w3 (w.heap.size + 1) 147 _ := Blk.kept BR2 hb3
    have hw1 : WordsAt w3 w.heap.size (.slice pv 1 cv) [1] := RowAt.low hwv hwy.size
    have hb4 : Below w.heap.size w w3 := by (repeat (first | with_reducible exact Below.refl _ _ | with_reducible assumption | with_reducible refine Below.setCell ?_ (by first | (simp; done) | (simp; omega)) _ | with_reducible refine below_alloc ?_ _ | with_reducible refine below_drewN ?_ _ | with_reducible refine Below.drew ?_ | with_reducible refine below_step ?_ (by assumption)))
    have HB1 := Lib.hid (And.intro B1 (And.intro hw1 hb4))
    have ky := B1.cell
    have fy := B1.free
    clear B1 hw1 hb4 hwv hwy BR2 km x0 x1
    simp only [vbArr, clockVb]
    refine wpAnyH_ready (rs := [17]) (by kernel_rfl) (by simp) ?_
    refine AllReadyH.cons rfl (fun K hK => ?_) (AllReadyH.nil)
    rw [if_pos (by rfl)]
    go_simp
    refine hK.out _ _ (SteadyBut.over (by (repeat (first | with_reducible exact Over.refl _ _ | with_reducible assumption | with_reducible refine Over.put ?_ _ _ | with_reducible refine Over.alloc ?_ _ | with_reducible refine Over.drew ?_ | with_reducible refine Over.own ?_ (by first | (simp; done) | (simp; omega)) _ | with_reducible refine Over.trans ?_ (by assumption) | with_reducible refine Over.then_below ?_ (by assumption))))) (fun hHeld => ?_)
    clear hK K
    refine wpAnyH_done (by kernel_rfl) ?_ _
    go_wp2_with fail
    have B9 := Blk.all9 HB1.out.1 (.int .i64 2) (.int .i64 i) (.int .i64 (32 : Nat)) (.int .i64 0) (.int .u64 0) (.int .u64 0) (.slice pv 1 cv) (.int .u64 1) (.int .i64 1)
    have ho9 : Over (w.heap.size + 1) w3 _ := (((((((((Over.refl (w.heap.size + 1) w3).put 0 (.int .i64 2)).put 1 (.int .i64 i)).put 2 (.int .i64 (32 : Nat))).put 3 (.int .i64 0)).put 4 (.int .u64 0)).put 5 (.int .u64 0)).put 6 (.slice pv 1 cv)).put 7 (.int .u64 1)).put 8 (.int .i64 1)
    have hw9 := WordsAt.mod (S := fun b => b = w.heap.size + 1) HB1.out.2.1 ((Mod.refl _ _).over ho9 (.inl rfl)) (fun b hb => .inr ⟨_, _, hb ▸ HB1.out.1, by decide⟩)
    have hb9 : Below w.heap.size w _ := below_grown HB1.out.2.2 ho9 (fun j hj => by injection hj with hj; omega)
    refine bodyPost_ret (results_b rfl _ _ (w.heap.size + 1) _ _ _ rfl B9 Tryz.underlying147 rfl (by kernel_rfl)) rfl ⟨⟨_, rfl, hw9⟩, hb9⟩
end Go.Proofs.YtoidjgongafnkaaGreatDoor
