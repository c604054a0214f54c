/- The reference's fabric: what a verb is, when it is valid. -/
import Derived.Test.YtoidjgongafnkaaGreatDoorWCn
set_option linter.unusedVariables false
set_option linter.unusedSimpArgs false
set_option linter.unusedSectionVars false
set_option linter.constructorNameAsVariable false
namespace Go.Proofs.YtoidjgongafnkaaGreatDoor
open Go.RowKit

/-- A verb that the fabric takes. -/
structure Cm.Vb.Ok (x : Cm.Vb) : Prop where
  kind : x.kind = 1 ∨ x.kind = 2 ∨ x.kind = 3
  nn : x.kind = 1 → 1 ≤ x.n
  c1 : 1 ≤ x.count
  c2 : x.count ≤ 100
  a1 : 32 ≤ x.at_
  a2 : x.at_ + x.count ≤ 864

theorem count_ok (x : Cm.Vb) (p : Option Addr) (c : Nat) (w : World) (h : x.Ok) :
    Calls Tryz.prog 110 #[.agg (vbArr x (.slice p x.words.length c))] w fun e w' => e = .returned (.int .i64 (x.count : Int)) ∧ Below w.heap.size w w' := by
  obtain ⟨h1, h2, _, _, _, _⟩ := h
  obtain ⟨kd, nd, at', n, old, new, ws⟩ := x
  simp only [vbArr, Cm.Vb.count] at *
  rcases h1 with rfl | rfl | rfl
  · have hn : ((n.toNat : Nat) : Int) = n := by have := h2 rfl; omega
    go_enter Tryz.func110, Tryz.ntmps110
    go_wp2_with fail
    refine bodyPost_ret (results_tmp rfl _ _ _) rfl ⟨by simp [hn], by (repeat (first | with_reducible exact Below.refl _ _ | with_reducible assumption | with_reducible refine Below.setCell ?_ (by first | (simp; done) | (simp; omega)) _ | with_reducible refine below_alloc ?_ _ | with_reducible refine below_drewN ?_ _ | with_reducible refine Below.drew ?_ | with_reducible refine below_step ?_ (by assumption)))⟩
  · go_enter Tryz.func110, Tryz.ntmps110
    go_wp2_with fail
    refine bodyPost_ret (results_tmp rfl _ _ _) rfl ⟨by simp, by (repeat (first | with_reducible exact Below.refl _ _ | with_reducible assumption | with_reducible refine Below.setCell ?_ (by first | (simp; done) | (simp; omega)) _ | with_reducible refine below_alloc ?_ _ | with_reducible refine below_drewN ?_ _ | with_reducible refine Below.drew ?_ | with_reducible refine below_step ?_ (by assumption)))⟩
  · go_enter Tryz.func110, Tryz.ntmps110
    go_wp2_with fail
    refine bodyPost_ret (results_tmp rfl _ _ _) rfl ⟨by simp, by (repeat (first | with_reducible exact Below.refl _ _ | with_reducible assumption | with_reducible refine Below.setCell ?_ (by first | (simp; done) | (simp; omega)) _ | with_reducible refine below_alloc ?_ _ | with_reducible refine below_drewN ?_ _ | with_reducible refine Below.drew ?_ | with_reducible refine below_step ?_ (by assumption)))⟩

set_option maxRecDepth 10000 in
set_option maxHeartbeats 2000000 in
theorem refValid_ok (x : Cm.Vb) (p : Option Addr) (c N : Nat) (w : World) (h : x.Ok) (hN : N ≤ 5) (hn : x.node < N) :
    Calls Tryz.prog 53 #[.agg (vbArr x (.slice p x.words.length c)), .int .i64 N, .int .i64 108] w fun e w' => e = .returned (.int .i64 0) ∧ Below w.heap.size w w' := by
  have HC : Hid (∀ W, Calls Tryz.prog 110 #[.agg (vbArr x (.slice p x.words.length c))] W fun e w' => e = .returned (.int .i64 (x.count : Int)) ∧ Below W.heap.size W w') := Lib.hid (fun W => count_ok x p c W h)
  obtain ⟨h1, h2, hc1, hc2, ha1, ha2⟩ := h
  obtain ⟨cn, hcn⟩ : ∃ cn, cn = x.count := ⟨_, rfl⟩
  rw [← hcn] at HC hc1 hc2 ha2
  obtain ⟨kd, nd, at', n, old, new, ws⟩ := x
  simp only [vbArr] at *
  have hcn' := Lib.hid hcn
  clear hcn
  have bN1 : decide ((N : Int) < 1) = false := by simp; omega
  have bN5 : decide ((5 : Int) < N) = false := by simp; omega
  have bn0 : decide ((nd : Int) < 0) = false := by simp
  have bnN : decide ((N : Int) ≤ nd) = false := by simp; omega
  have ba0 : decide ((at' : Int) < 0) = false := by simp
  have baM : decide ((864 : Int) ≤ at') = false := by simp; omega
  have bcM : decide ((1024 : Int) < cn) = false := by simp; omega
  have bzM : decide ((108 : Int) ≤ ((at' : Int) + cn - 1) / 8) = false := by simp; omega
  have bzD : decide ((128 : Int) < ((at' : Int) + cn - 1) / 8 - (at' : Int) / 8 + 1) = false := by simp; omega
  have bl3 : decide ((at' : Int) / 8 < 3) = false := by simp; omega
  have bl4 : decide ((at' : Int) / 8 ≤ 3) = false := by simp; omega
  rcases h1 with rfl | rfl | rfl
  · have bk : decide (n < 1) = false := by simp; have := h2 rfl; omega
    go_enter Tryz.func53, Tryz.ntmps53
    go_wp2_with fail
    go_at_call 110
    refine (HC.out _).mono ?_
    rintro e w1 ⟨rfl, hb⟩
    have BX := (Blk.made w 147 #[.int .i64 1, .int .i64 nd, .int .i64 at', .int .i64 n, .int .u64 old, .int .u64 new, .slice p ws.length c, .int .u64 1, .int .i64 1]).kept hb
    have kb := BX.cell
    have lb := BX.lt
    have HB : Hid (Below w.heap.size w w1) := Lib.hid (by (repeat (first | with_reducible exact Below.refl _ _ | with_reducible assumption | with_reducible refine Below.setCell ?_ (by first | (simp; done) | (simp; omega)) _ | with_reducible refine below_alloc ?_ _ | with_reducible refine below_drewN ?_ _ | with_reducible refine Below.drew ?_ | with_reducible refine below_step ?_ (by assumption))))
    clear hb BX
    go_wp2_with fail
    refine wp_region_held_drew (S := SteadyAll _) (by kernel_rfl) (SteadyAll.of (Below.refl _ _).drew) ?_
    intro hSt
    refine wpAnyH_seq (is := [0, 1, 2, 3, 4, 5, 6, 7, 8, 9, 10]) (by kernel_rfl) (by kernel_rfl) (fun _ _ d _ _ h => by cases d <;> exact h) (by assumption) ?_
    iterate 11 (first | (refine TakeSeq.step (v := undef) rfl (Or.inr ⟨by rfl, rfl⟩) ?_; simp only [Act.put, List.setIfInBounds_toArray, List.set_cons_zero, List.set_cons_succ, List.getElem_toArray, List.getElem_cons_zero, List.getElem_cons_succ]) | (refine TakeSeq.step (v := ?_) rfl (Or.inl ⟨by rfl, ?_⟩) ?_; rotate_left 1; (focus (intro wq hSq; have hrd := hSq.rule; go_simp; with_reducible rfl)); simp only [Act.put, List.setIfInBounds_toArray, List.set_cons_zero, List.set_cons_succ, List.getElem_toArray, List.getElem_cons_zero, List.getElem_cons_succ]))
    refine TakeSeq.done ?_
    refine wpAnyH_done (by kernel_rfl) ?_ _
    go_wp2_with fail
    refine bodyPost_ret (results_tmp rfl _ _ _) rfl ⟨rfl, by have := HB.out; (repeat (first | with_reducible exact Below.refl _ _ | with_reducible assumption | with_reducible refine Below.setCell ?_ (by first | (simp; done) | (simp; omega)) _ | with_reducible refine below_alloc ?_ _ | with_reducible refine below_drewN ?_ _ | with_reducible refine Below.drew ?_ | with_reducible refine below_step ?_ (by assumption)))⟩
  · have bk : decide ((ws.length : Int) < 1) = false := by have h3 := hcn'.out; simp [Cm.Vb.count] at h3; simp; omega
    go_enter Tryz.func53, Tryz.ntmps53
    go_wp2_with fail
    go_at_call 110
    refine (HC.out _).mono ?_
    rintro e w1 ⟨rfl, hb⟩
    have BX := (Blk.made w 147 #[.int .i64 2, .int .i64 nd, .int .i64 at', .int .i64 n, .int .u64 old, .int .u64 new, .slice p ws.length c, .int .u64 1, .int .i64 1]).kept hb
    have kb := BX.cell
    have lb := BX.lt
    have HB : Hid (Below w.heap.size w w1) := Lib.hid (by (repeat (first | with_reducible exact Below.refl _ _ | with_reducible assumption | with_reducible refine Below.setCell ?_ (by first | (simp; done) | (simp; omega)) _ | with_reducible refine below_alloc ?_ _ | with_reducible refine below_drewN ?_ _ | with_reducible refine Below.drew ?_ | with_reducible refine below_step ?_ (by assumption))))
    clear hb BX
    go_wp2_with fail
    refine wp_region_held_drew (S := SteadyAll _) (by kernel_rfl) (SteadyAll.of (Below.refl _ _).drew) ?_
    intro hSt
    refine wpAnyH_seq (is := [0, 1, 2, 3, 4, 5, 6, 7, 8, 9, 10]) (by kernel_rfl) (by kernel_rfl) (fun _ _ d _ _ h => by cases d <;> exact h) (by assumption) ?_
    iterate 11 (first | (refine TakeSeq.step (v := undef) rfl (Or.inr ⟨by rfl, rfl⟩) ?_; simp only [Act.put, List.setIfInBounds_toArray, List.set_cons_zero, List.set_cons_succ, List.getElem_toArray, List.getElem_cons_zero, List.getElem_cons_succ]) | (refine TakeSeq.step (v := ?_) rfl (Or.inl ⟨by rfl, ?_⟩) ?_; rotate_left 1; (focus (intro wq hSq; have hrd := hSq.rule; go_simp; with_reducible rfl)); simp only [Act.put, List.setIfInBounds_toArray, List.set_cons_zero, List.set_cons_succ, List.getElem_toArray, List.getElem_cons_zero, List.getElem_cons_succ]))
    refine TakeSeq.done ?_
    refine wpAnyH_done (by kernel_rfl) ?_ _
    go_wp2_with fail
    refine bodyPost_ret (results_tmp rfl _ _ _) rfl ⟨rfl, by have := HB.out; (repeat (first | with_reducible exact Below.refl _ _ | with_reducible assumption | with_reducible refine Below.setCell ?_ (by first | (simp; done) | (simp; omega)) _ | with_reducible refine below_alloc ?_ _ | with_reducible refine below_drewN ?_ _ | with_reducible refine Below.drew ?_ | with_reducible refine below_step ?_ (by assumption)))⟩
  · go_enter Tryz.func53, Tryz.ntmps53
    go_wp2_with fail
    go_at_call 110
    refine (HC.out _).mono ?_
    rintro e w1 ⟨rfl, hb⟩
    have BX := (Blk.made w 147 #[.int .i64 3, .int .i64 nd, .int .i64 at', .int .i64 n, .int .u64 old, .int .u64 new, .slice p ws.length c, .int .u64 1, .int .i64 1]).kept hb
    have kb := BX.cell
    have lb := BX.lt
    have HB : Hid (Below w.heap.size w w1) := Lib.hid (by (repeat (first | with_reducible exact Below.refl _ _ | with_reducible assumption | with_reducible refine Below.setCell ?_ (by first | (simp; done) | (simp; omega)) _ | with_reducible refine below_alloc ?_ _ | with_reducible refine below_drewN ?_ _ | with_reducible refine Below.drew ?_ | with_reducible refine below_step ?_ (by assumption))))
    clear hb BX
    go_wp2_with fail
    refine wp_region_held_drew (S := SteadyAll _) (by kernel_rfl) (SteadyAll.of (Below.refl _ _).drew) ?_
    intro hSt
    refine wpAnyH_seq (is := [0, 1, 2, 3, 4, 5, 6, 7, 8, 9, 10]) (by kernel_rfl) (by kernel_rfl) (fun _ _ d _ _ h => by cases d <;> exact h) (by assumption) ?_
    iterate 11 (first | (refine TakeSeq.step (v := undef) rfl (Or.inr ⟨by rfl, rfl⟩) ?_; simp only [Act.put, List.setIfInBounds_toArray, List.set_cons_zero, List.set_cons_succ, List.getElem_toArray, List.getElem_cons_zero, List.getElem_cons_succ]) | (refine TakeSeq.step (v := ?_) rfl (Or.inl ⟨by rfl, ?_⟩) ?_; rotate_left 1; (focus (intro wq hSq; have hrd := hSq.rule; go_simp; with_reducible rfl)); simp only [Act.put, List.setIfInBounds_toArray, List.set_cons_zero, List.set_cons_succ, List.getElem_toArray, List.getElem_cons_zero, List.getElem_cons_succ]))
    refine TakeSeq.done ?_
    refine wpAnyH_done (by kernel_rfl) ?_ _
    go_wp2_with fail
    refine bodyPost_ret (results_tmp rfl _ _ _) rfl ⟨rfl, by have := HB.out; (repeat (first | with_reducible exact Below.refl _ _ | with_reducible assumption | with_reducible refine Below.setCell ?_ (by first | (simp; done) | (simp; omega)) _ | with_reducible refine below_alloc ?_ _ | with_reducible refine below_drewN ?_ _ | with_reducible refine Below.drew ?_ | with_reducible refine below_step ?_ (by assumption)))⟩

set_option maxRecDepth 10000 in
set_option maxHeartbeats 2000000 in
theorem control_ok (x : Cm.Vb) (p : Option Addr) (c : Nat) (w : World) (h : x.Ok) :
    Calls Tryz.prog 187 #[.agg (vbArr x (.slice p x.words.length c))] w fun e w' => e = .returned (.bool false) ∧ Below w.heap.size w w' := by
  have HC : Hid (∀ W, Calls Tryz.prog 110 #[.agg (vbArr x (.slice p x.words.length c))] W fun e w' => e = .returned (.int .i64 (x.count : Int)) ∧ Below W.heap.size W w') := Lib.hid (fun W => count_ok x p c W h)
  obtain ⟨h1, h2, hc1, hc2, ha1, ha2⟩ := h
  obtain ⟨cn, hcn⟩ : ∃ cn, cn = x.count := ⟨_, rfl⟩
  rw [← hcn] at HC hc1 hc2 ha2
  obtain ⟨kd, nd, at', n, old, new, ws⟩ := x
  simp only [vbArr] at *
  clear hcn h1
  have baM : decide ((864 : Int) ≤ at') = false := by simp; omega
  have bcM : decide ((1024 : Int) < cn) = false := by simp; omega
  have bl3 : decide (((at' : Int) + cn - 1) / 8 < 3) = false := by simp; omega
  have bl4 : decide (((at' : Int) + cn - 1) / 8 = 3) = false := by simp; omega
  have bl5 : (((at' : Int) + cn - 1) / 8 == 3) = false := by simp; omega
  go_enter Tryz.func187, Tryz.ntmps187
  go_wp2_with fail
  have BX := Blk.made w 147 #[.int .i64 kd, .int .i64 nd, .int .i64 at', .int .i64 n, .int .u64 old, .int .u64 new, .slice p ws.length c, .int .u64 1, .int .i64 1]
  have hb0 := below_alloc (Below.refl w.heap.size w) (.cells #[.int .i64 kd, .int .i64 nd, .int .i64 at', .int .i64 n, .int .u64 old, .int .u64 new, .slice p ws.length c, .int .u64 1, .int .i64 1] 147)
  generalize hw1 : World.alloc w _ = w1 at *
  have HB := Lib.hid (And.intro BX hb0)
  have kb := BX.cell
  have lb := BX.lt
  clear hw1 BX hb0
  refine wp_region_held_drew (S := SteadyAll _) (by kernel_rfl) (SteadyAll.of (Below.refl _ _).drew) ?_
  intro hSt
  refine wpAnyH_seq (is := [0, 1, 2]) (by kernel_rfl) (by kernel_rfl) (fun _ _ d _ _ h => by cases d <;> exact h) (by assumption) ?_
  iterate 3 (first | (refine TakeSeq.step (v := undef) rfl (Or.inr ⟨by rfl, rfl⟩) ?_; simp only [Act.put, List.setIfInBounds_toArray, List.set_cons_zero, List.set_cons_succ, List.getElem_toArray, List.getElem_cons_zero, List.getElem_cons_succ]) | (refine TakeSeq.step (v := ?_) rfl (Or.inl ⟨by rfl, ?_⟩) ?_; rotate_left 1; (focus (intro wq hSq; have hrd := hSq.rule; go_simp; with_reducible rfl)); simp only [Act.put, List.setIfInBounds_toArray, List.set_cons_zero, List.set_cons_succ, List.getElem_toArray, List.getElem_cons_zero, List.getElem_cons_succ]))
  refine TakeSeq.done ?_
  refine wpAnyH_ready (rs := [3]) (by kernel_rfl) (by simp) ?_
  refine AllReadyH.cons rfl (fun K hK => ?_) (AllReadyH.nil)
  rw [if_pos (by rfl)]
  go_simp
  go_at_call 110; refine (HC.out _).mono ?_; rintro e w2 ⟨rfl, hb⟩
  go_wp2_with fail
  refine hK.out _ _ (SteadyAll.of (by (repeat (first | with_reducible exact Below.refl _ _ | with_reducible assumption | with_reducible refine Below.setCell ?_ (by first | (simp; done) | (simp; omega)) _ | with_reducible refine below_alloc ?_ _ | with_reducible refine below_drewN ?_ _ | with_reducible refine Below.drew ?_ | with_reducible refine below_step ?_ (by assumption))))) (fun hHeld => ?_)
  clear hK K
  refine wpAnyH_seq (is := [4, 5, 6, 7]) (by kernel_rfl) (by kernel_rfl) (fun _ _ d _ _ h => by cases d <;> exact h) (by assumption) ?_
  iterate 4 (first | (refine TakeSeq.step (v := undef) rfl (Or.inr ⟨by rfl, rfl⟩) ?_; simp only [Act.put, List.setIfInBounds_toArray, List.set_cons_zero, List.set_cons_succ, List.getElem_toArray, List.getElem_cons_zero, List.getElem_cons_succ]) | (refine TakeSeq.step (v := ?_) rfl (Or.inl ⟨by rfl, ?_⟩) ?_; rotate_left 1; (focus (intro wq hSq; have hrd := hSq.rule; go_simp; with_reducible rfl)); simp only [Act.put, List.setIfInBounds_toArray, List.set_cons_zero, List.set_cons_succ, List.getElem_toArray, List.getElem_cons_zero, List.getElem_cons_succ]))
  refine TakeSeq.done ?_
  refine wpAnyH_done (by kernel_rfl) ?_ _
  have BX2 := HB.out.1.drew.kept hb
  have HB2 : Hid (Below w.heap.size w w2) := Lib.hid (by have := HB.out.2; (repeat (first | with_reducible exact Below.refl _ _ | with_reducible assumption | with_reducible refine Below.setCell ?_ (by first | (simp; done) | (simp; omega)) _ | with_reducible refine below_alloc ?_ _ | with_reducible refine below_drewN ?_ _ | with_reducible refine Below.drew ?_ | with_reducible refine below_step ?_ (by assumption))))
  have kb := BX2.cell
  have lb := BX2.lt
  clear BX2 hb
  rcases Classical.em (kd = 1) with rfl | hk
  · go_wp2_with fail
    refine bodyPost_ret (results_tmp rfl _ _ _) rfl ⟨rfl, HB2.out⟩
  · have bk : (kd == 1) = false := by simpa using hk
    have bk' : decide (kd = 1) = false := by simpa using hk
    go_wp2_with fail
    refine bodyPost_ret (results_tmp rfl _ _ _) rfl ⟨rfl, HB2.out⟩
end Go.Proofs.YtoidjgongafnkaaGreatDoor
