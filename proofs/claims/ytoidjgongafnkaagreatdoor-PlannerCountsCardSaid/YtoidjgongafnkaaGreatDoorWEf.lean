/- The reference's fabric: a verb goes one piece on. -/
import Derived.Test.YtoidjgongafnkaaGreatDoorWEg
set_option linter.unusedVariables false
set_option linter.unusedSimpArgs false
set_option linter.unusedSectionVars false
set_option linter.constructorNameAsVariable false
namespace Go.Proofs.YtoidjgongafnkaaGreatDoor
open Go.RowKit

set_option maxRecDepth 10000 in
set_option maxHeartbeats 4000000 in
theorem pairStep_ok (lo br o bn on b : Nat) (cs : Array Value) (vq : Value) (x : Cm.Pend) (rest : List Cm.Pend) (m : Cm.Mem) (pc : Nat × Nat) (w : World) (hok : x.v.Ok) (hn : x.v.node < 5) (hql : rest.length ≤ 100) (hgl : x.got.length ≤ 100) (hwl : x.v.words.length ≤ 100)
    (hpc : x.v.pieces[x.exec]? = some pc) (hpc2 : x.v.kind = 3 → pc.2 = 1) (hpc3 : 1 ≤ pc.2 ∧ pc.1 + pc.2 ≤ 864) (hpc4 : x.v.kind = 2 → x.v.at_ ≤ pc.1 ∧ pc.1 + pc.2 ≤ x.v.at_ + x.v.words.length)
    (hlo : lo ≤ w.heap.size) (hbr : br < lo) (hbl : b < lo) (hbn : bn < lo) (hbb : bn ≠ b) (hp : Blk w br 107 cs) (h0 : cs[o]? = some (.int .i64 0)) (h1 : cs[o + 1]? = some (.int .i64 1)) (h3 : cs[o + 3]? = some vq) (hq : QueueAt w lo vq (x :: rest))
    (hm : MemAt w b m) (hm0 : m 0 = 1) (hm1 : m 1 = 1) (hm24 : m 24 = 1) (hnode : w.cell? ⟨bn, on, none⟩ = some (.slice (some ⟨b, 0, none⟩) 864 864)) (hup : w.cell? ⟨bn, on + 1, none⟩ = some (.bool true)) :
    Calls Tryz.prog 55 #[.pointer (some ⟨br, o, none⟩), .pointer (some ⟨bn, on, none⟩)] w (PStep br o b lo cs x rest m pc w) := by
  obtain ⟨j0, hj, hy0, hy1, hy2⟩ := info_parts infoU64
  obtain ⟨i0, hi, hz0, hz1, hz2⟩ := info_parts infoPend
  obtain ⟨pq, cq, rfl⟩ := hq.shape
  obtain ⟨al, hal, hq0, hqr, hqw⟩ := id hq
  rcases al with _ | ⟨⟨x', vw, gw⟩, al⟩
  · simp at hal
  simp only [List.map_cons, List.cons.injEq] at hal
  obtain ⟨rfl, hal⟩ := hal
  obtain ⟨bq, oq, cq2, hvq, hloq, hltq, hcq⟩ := hqr.form (by simp)
  simp only [Value.slice.injEq] at hvq
  obtain ⟨rfl, -, rfl⟩ := hvq
  have HX := Lib.hid (And.intro hp (And.intro hq (And.intro hm (hqw _ (List.mem_cons_self ..)))))
  have hq12 : ∀ i, i < 12 → w.cell? ⟨bq, oq + i, none⟩ = (pdArr x' vw gw)[i]? := fun i hi => by
    have e : (pdArr x' vw gw)[i]? = some ((pdArr x' vw gw)[i]'(by simpa [pdArr] using hi)) := Array.getElem?_eq_getElem _
    rw [e]
    refine hcq i _ ?_
    unfold pdCells
    rw [List.flatMap_cons, List.getElem?_append_left (by simpa [pdArr] using hi), ← e]
    simp
  obtain ⟨pv, cv, hpv⟩ := (hqw _ (List.mem_cons_self ..)).1.1.shape
  obtain ⟨pg, cg, hpg⟩ := (hqw _ (List.mem_cons_self ..)).2.1.shape
  simp only at hpv hpg
  subst hpv hpg
  have c0 : w.cell? ⟨bq, oq, none⟩ = some (.int .i64 x'.v.kind) := hq12 0 (by omega)
  have c1 : w.cell? ⟨bq, oq + 1, none⟩ = some (.int .i64 x'.v.node) := hq12 1 (by omega)
  have c2 : w.cell? ⟨bq, oq + 2, none⟩ = some (.int .i64 x'.v.at_) := hq12 2 (by omega)
  have c3 : w.cell? ⟨bq, oq + 3, none⟩ = some (.int .i64 x'.v.n) := hq12 3 (by omega)
  have c4 : w.cell? ⟨bq, oq + 4, none⟩ = some (.int .u64 x'.v.old) := hq12 4 (by omega)
  have c5 : w.cell? ⟨bq, oq + 5, none⟩ = some (.int .u64 x'.v.new) := hq12 5 (by omega)
  have c6 : w.cell? ⟨bq, oq + 6, none⟩ = some (.slice pv x'.v.words.length cv) := hq12 6 (by omega)
  have c7 : w.cell? ⟨bq, oq + 7, none⟩ = some (.int .u64 1) := hq12 7 (by omega)
  have c8 : w.cell? ⟨bq, oq + 8, none⟩ = some (.int .i64 1) := hq12 8 (by omega)
  have c9 : w.cell? ⟨bq, oq + 9, none⟩ = some (.int .i64 x'.exec) := hq12 9 (by omega)
  have c10 : w.cell? ⟨bq, oq + 10, none⟩ = some (.slice pg x'.got.length cg) := hq12 10 (by omega)
  have c11 : w.cell? ⟨bq, oq + 11, none⟩ = some (.int .i64 x'.slot) := hq12 11 (by omega)
  have y0 : w.cell? ⟨br, o, none⟩ = some (.int .i64 0) := (hp.cell _).trans h0
  have y1 : w.cell? ⟨br, o + 1, none⟩ = some (.int .i64 1) := (hp.cell _).trans h1
  have y3 : w.cell? ⟨br, o + 3, none⟩ = some (.slice (some ⟨bq, oq, none⟩) (rest.length + 1) cq) := (hp.cell _).trans (by simpa using h3)
  have lr := hp.lt
  have lb := hm.lt
  have lbn : bn < w.heap.size := by omega
  clear hq hqr hqw hq12 hcq hp hm hq0
  have HVa : Hid (∀ W, Calls Tryz.prog 53 #[.agg #[.int .i64 x'.v.kind, .int .i64 x'.v.node, .int .i64 x'.v.at_, .int .i64 x'.v.n, .int .u64 x'.v.old, .int .u64 x'.v.new, .slice pv x'.v.words.length cv, .int .u64 1, .int .i64 1], .int .i64 (5 : Nat), .int .i64 (108 : Nat)] W fun e w' => e = .returned (.int .i64 0) ∧ Below W.heap.size W w') := Lib.hid (fun W => refValid_ok x'.v pv cv 5 W hok (by omega) hn)
  have HCh : Hid (∀ W, Calls Tryz.prog 111 #[.agg #[.int .i64 x'.v.kind, .int .i64 x'.v.node, .int .i64 x'.v.at_, .int .i64 x'.v.n, .int .u64 x'.v.old, .int .u64 x'.v.new, .slice pv x'.v.words.length cv, .int .u64 1, .int .i64 1], .int .i64 1, .int .u64 1, .int .u64 1, .int .u64 1] W fun e w' => e = .returned (.int .i64 0) ∧ Below W.heap.size W w') := Lib.hid (fun W => check_ok x'.v pv cv W hok)
  have HPi : Hid (∀ W, Calls Tryz.prog 113 #[.agg #[.int .i64 x'.v.kind, .int .i64 x'.v.node, .int .i64 x'.v.at_, .int .i64 x'.v.n, .int .u64 x'.v.old, .int .u64 x'.v.new, .slice pv x'.v.words.length cv, .int .u64 1, .int .i64 1]] W fun e w' => (∃ v, e = .returned v ∧ w'.ownsRow W.heap.size 215 2 v x'.v.pieces.length (pcCells x'.v.pieces)) ∧ Below W.heap.size W w') := Lib.hid (fun W => pieces_ok x'.v pv cv W hok)
  go_enter Tryz.func55, Tryz.ntmps55
  go_wp2_with fail
  have BR : Blk ((w.alloc (.cells #[.int .i64 0, .slice none 0 0] 151)).alloc (.cells #[.int .i64 x'.v.kind, .int .i64 x'.v.node, .int .i64 x'.v.at_, .int .i64 x'.v.n, .int .u64 x'.v.old, .int .u64 x'.v.new, .slice pv x'.v.words.length cv, .int .u64 1, .int .i64 1, .int .i64 x'.exec, .slice pg x'.got.length cg, .int .i64 x'.slot] 208)) w.heap.size 151 #[.int .i64 0, .slice none 0 0] := made12 w
  have BX : Blk ((w.alloc (.cells #[.int .i64 0, .slice none 0 0] 151)).alloc (.cells #[.int .i64 x'.v.kind, .int .i64 x'.v.node, .int .i64 x'.v.at_, .int .i64 x'.v.n, .int .u64 x'.v.old, .int .u64 x'.v.new, .slice pv x'.v.words.length cv, .int .u64 1, .int .i64 1, .int .i64 x'.exec, .slice pg x'.got.length cg, .int .i64 x'.slot] 208)) (w.heap.size + 1) 208 #[.int .i64 x'.v.kind, .int .i64 x'.v.node, .int .i64 x'.v.at_, .int .i64 x'.v.n, .int .u64 x'.v.old, .int .u64 x'.v.new, .slice pv x'.v.words.length cv, .int .u64 1, .int .i64 1, .int .i64 x'.exec, .slice pg x'.got.length cg, .int .i64 x'.slot] := Blk.made' (by simp)
  have hbW : Below w.heap.size w ((w.alloc (.cells #[.int .i64 0, .slice none 0 0] 151)).alloc (.cells #[.int .i64 x'.v.kind, .int .i64 x'.v.node, .int .i64 x'.v.at_, .int .i64 x'.v.n, .int .u64 x'.v.old, .int .u64 x'.v.new, .slice pv x'.v.words.length cv, .int .u64 1, .int .i64 1, .int .i64 x'.exec, .slice pg x'.got.length cg, .int .i64 x'.slot] 208)) := by (repeat (first | with_reducible exact Below.refl _ _ | with_reducible assumption | with_reducible refine Below.setCell ?_ (by first | (simp; done) | (simp; omega)) _ | with_reducible refine below_alloc ?_ _ | with_reducible refine below_drewN ?_ _ | with_reducible refine Below.drew ?_ | with_reducible refine below_step ?_ (by assumption)))
  generalize hW : World.alloc (World.alloc w _) _ = W at *
  clear hW
  have z0 := (hbW.cell (p := ⟨br, o, none⟩) lr).trans y0
  have z1 := (hbW.cell (p := ⟨br, o + 1, none⟩) lr).trans y1
  have z3 := (hbW.cell (p := ⟨br, o + 3, none⟩) lr).trans y3
  have zn := (hbW.cell (p := ⟨bn, on, none⟩) lbn).trans hnode
  have kx := BX.cell
  have lx := BX.lt
  have lr2 := Nat.lt_of_lt_of_le lr hbW.size
  have lbn2 := Nat.lt_of_lt_of_le lbn hbW.size
  have lb2 := Nat.lt_of_lt_of_le lb hbW.size
  have hMW := HX.out.2.2.1.below hbW
  have m0 : W.cell? ⟨b, 0, none⟩ = some (.int .u64 1) := (hMW.cell 0 (by omega)).trans (by rw [hm0])
  have m1 : W.cell? ⟨b, 1, none⟩ = some (.int .u64 1) := (hMW.cell 1 (by omega)).trans (by rw [hm1])
  have m24 : W.cell? ⟨b, 24, none⟩ = some (.int .u64 1) := (hMW.cell 24 (by omega)).trans (by rw [hm24])
  have HAt : Hid (∀ w2, Below W.heap.size W w2 → ∀ k, k = 0 ∨ k = 1 ∨ k = 24 → Calls Tryz.prog 112 #[.pointer (some ⟨bn, on, none⟩), .int .i64 (k : Nat)] w2 fun e w' => e = .returned (.int .u64 1) ∧ w2 = w') := Lib.hid (fun w2 h k hk => by
    refine refAt_ok bn on b k 864 1 w2 (by omega) ((h.cell (p := ⟨bn, on, none⟩) lbn2).trans zn) (Nat.lt_of_lt_of_le lbn2 h.size) ?_ (Nat.lt_of_lt_of_le lb2 h.size)
    refine (h.cell (p := ⟨b, k, none⟩) lb2).trans ?_
    rcases hk with rfl | rfl | rfl
    · exact m0
    · exact m1
    · exact m24)
  have HB := Lib.hid (And.intro BR (And.intro BX (And.intro hbW hMW)))
  clear c0 c1 c2 c3 c4 c5 c6 c7 c8 c9 c10 c11 y0 y1 y3 BR BX hMW m0 m1 m24 hnode hup lr lb lbn hbW
  refine wp_region_held_drew (S := SteadyAll _) (by kernel_rfl) (SteadyAll.of (Below.refl _ _).drew) ?_
  intro hSt
  refine wpAnyH_seq (is := [0, 1, 2, 3, 4, 5, 6, 7]) (by kernel_rfl) (by kernel_rfl) (fun _ _ d _ _ h => by cases d <;> exact h) (by assumption) ?_
  iterate 8 (first | (refine TakeSeq.step (v := undef) rfl (Or.inr ⟨by rfl, rfl⟩) ?_; simp only [Act.put, List.setIfInBounds_toArray, List.set_cons_zero, List.set_cons_succ, List.getElem_toArray, List.getElem_cons_zero, List.getElem_cons_succ]) | (refine TakeSeq.step (v := ?_) rfl (Or.inl ⟨by rfl, ?_⟩) ?_; rotate_left 1; (focus (intro wq hSq; have hrd := hSq.rule; go_simp; with_reducible rfl)); simp only [Act.put, List.setIfInBounds_toArray, List.set_cons_zero, List.set_cons_succ, List.getElem_toArray, List.getElem_cons_zero, List.getElem_cons_succ]))
  refine TakeSeq.done ?_
  refine wpAnyH_ready (rs := [8]) (by kernel_rfl) (by simp) ?_
  refine AllReadyH.cons rfl (fun K hK => ?_) (AllReadyH.nil)
  rw [if_pos (by rfl)]
  go_simp
  go_at_call 53; refine (HVa.out _).mono ?_; rintro e w1 ⟨rfl, hb1⟩
  go_wp2_with fail
  refine hK.out _ _ (SteadyAll.of (by (repeat (first | with_reducible exact Below.refl _ _ | with_reducible assumption | with_reducible refine Below.setCell ?_ (by first | (simp; done) | (simp; omega)) _ | with_reducible refine below_alloc ?_ _ | with_reducible refine below_drewN ?_ _ | with_reducible refine Below.drew ?_ | with_reducible refine below_step ?_ (by assumption))))) (fun hHeld => ?_)
  clear hK K
  refine wpAnyH_seq (is := [9, 10]) (by kernel_rfl) (by kernel_rfl) (fun _ _ d _ _ h => by cases d <;> exact h) (by assumption) ?_
  iterate 2 (first | (refine TakeSeq.step (v := undef) rfl (Or.inr ⟨by rfl, rfl⟩) ?_; simp only [Act.put, List.setIfInBounds_toArray, List.set_cons_zero, List.set_cons_succ, List.getElem_toArray, List.getElem_cons_zero, List.getElem_cons_succ]) | (refine TakeSeq.step (v := ?_) rfl (Or.inl ⟨by rfl, ?_⟩) ?_; rotate_left 1; (focus (intro wq hSq; have hrd := hSq.rule; go_simp; with_reducible rfl)); simp only [Act.put, List.setIfInBounds_toArray, List.set_cons_zero, List.set_cons_succ, List.getElem_toArray, List.getElem_cons_zero, List.getElem_cons_succ]))
  refine TakeSeq.done ?_
  refine wpAnyH_done (by kernel_rfl) ?_ _
  have hw1 : Below W.heap.size W w1 := by (repeat (first | with_reducible exact Below.refl _ _ | with_reducible assumption | with_reducible refine Below.setCell ?_ (by first | (simp; done) | (simp; omega)) _ | with_reducible refine below_alloc ?_ _ | with_reducible refine below_drewN ?_ _ | with_reducible refine Below.drew ?_ | with_reducible refine below_step ?_ (by assumption)))
  have BX1 := HB.out.2.1.kept hw1
  have z01 := (hw1.cell (p := ⟨br, o, none⟩) lr2).trans z0
  have z11 := (hw1.cell (p := ⟨br, o + 1, none⟩) lr2).trans z1
  have lr3 := Nat.lt_of_lt_of_le lr2 hw1.size
  have kx1 := BX1.cell
  have lx1 := BX1.lt
  have HW1 := Lib.hid hw1
  clear BX1 kx lx hb1 hw1 hSt
  go_wp2_with fail
  refine wp_region_held_drew (S := SteadyAll _) (by kernel_rfl) (SteadyAll.of (Below.refl _ _).drew) ?_
  intro hSt
  refine wpAnyH_seq (is := [0, 1, 2, 3, 4, 5, 6, 7, 8, 9, 10, 13, 15]) (by kernel_rfl) (by kernel_rfl) (fun _ _ d _ _ h => by cases d <;> exact h) (by assumption) ?_
  iterate 13 (first | (refine TakeSeq.step (v := undef) rfl (Or.inr ⟨by rfl, rfl⟩) ?_; simp only [Act.put, List.setIfInBounds_toArray, List.set_cons_zero, List.set_cons_succ, List.getElem_toArray, List.getElem_cons_zero, List.getElem_cons_succ]) | (refine TakeSeq.step (v := ?_) rfl (Or.inl ⟨by rfl, ?_⟩) ?_; rotate_left 1; (focus (intro wq hSq; have hrd := hSq.rule; go_simp; with_reducible rfl)); simp only [Act.put, List.setIfInBounds_toArray, List.set_cons_zero, List.set_cons_succ, List.getElem_toArray, List.getElem_cons_zero, List.getElem_cons_succ]))
  refine TakeSeq.done ?_
  refine wpAnyH_ready (rs := [11]) (by kernel_rfl) (by simp) ?_
  refine AllReadyH.cons rfl (fun K hK => ?_) (AllReadyH.nil)
  rw [if_pos (by rfl)]
  go_simp
  go_at_call 32; refine (refDoor0 _).mono ?_; rintro e w4 ⟨rfl, rfl⟩
  go_wp2_with fail
  refine hK.out _ _ (SteadyAll.of (by (repeat (first | with_reducible exact Below.refl _ _ | with_reducible assumption | with_reducible refine Below.setCell ?_ (by first | (simp; done) | (simp; omega)) _ | with_reducible refine below_alloc ?_ _ | with_reducible refine below_drewN ?_ _ | with_reducible refine Below.drew ?_ | with_reducible refine below_step ?_ (by assumption))))) (fun hHeld => ?_)
  clear hK K
  refine wpAnyH_ready (rs := [12]) (by kernel_rfl) (by simp) ?_
  refine AllReadyH.cons rfl (fun K hK => ?_) (AllReadyH.nil)
  rw [if_pos (by rfl)]
  go_simp
  go_at_call 112; refine (HAt.out _ (by have := HW1.out; (repeat (first | with_reducible exact Below.refl _ _ | with_reducible assumption | with_reducible refine Below.setCell ?_ (by first | (simp; done) | (simp; omega)) _ | with_reducible refine below_alloc ?_ _ | with_reducible refine below_drewN ?_ _ | with_reducible refine Below.drew ?_ | with_reducible refine below_step ?_ (by assumption)))) 24 (by omega)).mono ?_; rintro e w4 ⟨rfl, rfl⟩
  go_wp2_with fail
  refine hK.out _ _ (SteadyAll.of (by (repeat (first | with_reducible exact Below.refl _ _ | with_reducible assumption | with_reducible refine Below.setCell ?_ (by first | (simp; done) | (simp; omega)) _ | with_reducible refine below_alloc ?_ _ | with_reducible refine below_drewN ?_ _ | with_reducible refine Below.drew ?_ | with_reducible refine below_step ?_ (by assumption))))) (fun hHeld => ?_)
  clear hK K
  refine wpAnyH_ready (rs := [14]) (by kernel_rfl) (by simp) ?_
  refine AllReadyH.cons rfl (fun K hK => ?_) (AllReadyH.nil)
  rw [if_pos (by rfl)]
  go_simp
  go_at_call 112; refine (HAt.out _ (by have := HW1.out; (repeat (first | with_reducible exact Below.refl _ _ | with_reducible assumption | with_reducible refine Below.setCell ?_ (by first | (simp; done) | (simp; omega)) _ | with_reducible refine below_alloc ?_ _ | with_reducible refine below_drewN ?_ _ | with_reducible refine Below.drew ?_ | with_reducible refine below_step ?_ (by assumption)))) 0 (by omega)).mono ?_; rintro e w4 ⟨rfl, rfl⟩
  go_wp2_with fail
  refine hK.out _ _ (SteadyAll.of (by (repeat (first | with_reducible exact Below.refl _ _ | with_reducible assumption | with_reducible refine Below.setCell ?_ (by first | (simp; done) | (simp; omega)) _ | with_reducible refine below_alloc ?_ _ | with_reducible refine below_drewN ?_ _ | with_reducible refine Below.drew ?_ | with_reducible refine below_step ?_ (by assumption))))) (fun hHeld => ?_)
  clear hK K
  refine wpAnyH_ready (rs := [16]) (by kernel_rfl) (by simp) ?_
  refine AllReadyH.cons rfl (fun K hK => ?_) (AllReadyH.nil)
  rw [if_pos (by rfl)]
  go_simp
  go_at_call 112; refine (HAt.out _ (by have := HW1.out; (repeat (first | with_reducible exact Below.refl _ _ | with_reducible assumption | with_reducible refine Below.setCell ?_ (by first | (simp; done) | (simp; omega)) _ | with_reducible refine below_alloc ?_ _ | with_reducible refine below_drewN ?_ _ | with_reducible refine Below.drew ?_ | with_reducible refine below_step ?_ (by assumption)))) 1 (by omega)).mono ?_; rintro e w4 ⟨rfl, rfl⟩
  go_wp2_with fail
  refine hK.out _ _ (SteadyAll.of (by (repeat (first | with_reducible exact Below.refl _ _ | with_reducible assumption | with_reducible refine Below.setCell ?_ (by first | (simp; done) | (simp; omega)) _ | with_reducible refine below_alloc ?_ _ | with_reducible refine below_drewN ?_ _ | with_reducible refine Below.drew ?_ | with_reducible refine below_step ?_ (by assumption))))) (fun hHeld => ?_)
  clear hK K
  refine wpAnyH_ready (rs := [17]) (by kernel_rfl) (by simp) ?_
  refine AllReadyH.cons rfl (fun K hK => ?_) (AllReadyH.nil)
  rw [if_pos (by rfl)]
  go_simp
  go_at_call 111; refine (HCh.out _).mono ?_; rintro e w2 ⟨rfl, hb2⟩
  go_wp2_with fail
  refine hK.out _ _ (SteadyAll.of (by (repeat (first | with_reducible exact Below.refl _ _ | with_reducible assumption | with_reducible refine Below.setCell ?_ (by first | (simp; done) | (simp; omega)) _ | with_reducible refine below_alloc ?_ _ | with_reducible refine below_drewN ?_ _ | with_reducible refine Below.drew ?_ | with_reducible refine below_step ?_ (by assumption))))) (fun hHeld => ?_)
  clear hK K
  refine wpAnyH_seq (is := [18]) (by kernel_rfl) (by kernel_rfl) (fun _ _ d _ _ h => by cases d <;> exact h) (by assumption) ?_
  iterate 1 (first | (refine TakeSeq.step (v := undef) rfl (Or.inr ⟨by rfl, rfl⟩) ?_; simp only [Act.put, List.setIfInBounds_toArray, List.set_cons_zero, List.set_cons_succ, List.getElem_toArray, List.getElem_cons_zero, List.getElem_cons_succ]) | (refine TakeSeq.step (v := ?_) rfl (Or.inl ⟨by rfl, ?_⟩) ?_; rotate_left 1; (focus (intro wq hSq; have hrd := hSq.rule; go_simp; with_reducible rfl)); simp only [Act.put, List.setIfInBounds_toArray, List.set_cons_zero, List.set_cons_succ, List.getElem_toArray, List.getElem_cons_zero, List.getElem_cons_succ]))
  refine TakeSeq.done ?_
  refine wpAnyH_done (by kernel_rfl) ?_ _
  have hw2 : Below W.heap.size W w2 := by have := HW1.out; (repeat (first | with_reducible exact Below.refl _ _ | with_reducible assumption | with_reducible refine Below.setCell ?_ (by first | (simp; done) | (simp; omega)) _ | with_reducible refine below_alloc ?_ _ | with_reducible refine below_drewN ?_ _ | with_reducible refine Below.drew ?_ | with_reducible refine below_step ?_ (by assumption)))
  have BX2 := HB.out.2.1.kept hw2
  have kx2 := BX2.cell
  have lx2 := BX2.lt
  have HW2 := Lib.hid hw2
  clear BX2 kx1 lx1 hw2 hb2 hSt z01 z11 lr3
  go_wp2_with fail
  go_at_call 113
  refine (HPi.out _).mono ?_
  rintro e w5 ⟨⟨v5, rfl, hown5⟩, hb5⟩
  have hlen : x'.exec < x'.v.pieces.length := by
    have := List.getElem?_eq_some_iff.1 hpc
    exact this.1
  have hw5 : Below W.heap.size W w5 := by have := HW2.out; (repeat (first | with_reducible exact Below.refl _ _ | with_reducible assumption | with_reducible refine Below.setCell ?_ (by first | (simp; done) | (simp; omega)) _ | with_reducible refine below_alloc ?_ _ | with_reducible refine below_drewN ?_ _ | with_reducible refine Below.drew ?_ | with_reducible refine below_step ?_ (by assumption)))
  obtain ⟨gp, cp, hv5⟩ := own_form hown5 (by omega)
  subst hv5
  have hpl : x'.v.pieces.length ≤ 100 := Nat.le_trans (pieces_len _ _ _ (Nat.le_refl _)) hok.c2
  obtain ⟨pn, hpn⟩ : ∃ pn, pn = x'.v.pieces.length := ⟨_, rfl⟩
  have p0 : w5.cell? ⟨gp, x'.exec * 2, none⟩ = some (.int .i64 pc.1) := (pcCells_at hown5 _ pc hpc).1
  have p1 : w5.cell? ⟨gp, x'.exec * 2 + 1, none⟩ = some (.int .i64 pc.2) := (pcCells_at hown5 _ pc hpc).2
  have lp := (own_lt hown5).2
  have BX5 := HB.out.2.1.kept hw5
  have kx5 := BX5.cell
  have lx5 := BX5.lt
  have ix0 : (0 : Int) ≤ x'.exec := by omega
  have ix1 : (x'.exec : Int) < pn := by omega
  rw [← hpn]
  have HP5 := Lib.hid (And.intro hown5 (And.intro hw5 hpn))
  clear BX5 hown5 hb5 hw5 kx2 lx2
  go_wp2_with fail
  have hbx : b < w.heap.size + 1 := by omega
  have hgb : b < gp := by
    have h1 := (own_row_ge HP5.out.1 gp rfl)
    have h2 := HW2.out.size
    have h3 := HB.out.2.2.1.size
    omega
  refine wp_region_late (S := SteadyBut b w5) (last := 14) (by kernel_rfl) (by kernel_rfl) (SteadyBut.of (by (repeat (first | with_reducible exact Below.refl _ _ | with_reducible assumption | with_reducible refine Below.setCell ?_ (by first | (simp; done) | (simp; omega)) _ | with_reducible refine below_alloc ?_ _ | with_reducible refine below_drewN ?_ _ | with_reducible refine Below.drew ?_ | with_reducible refine below_step ?_ (by assumption))))) ?_
  intro hSt
  refine wpAnyL_seq (is := [0, 1, 3, 4, 5, 6, 7, 8, 9, 10]) (by kernel_rfl) (by kernel_rfl) (fun _ _ d _ _ h => by cases d <;> exact h) (by assumption) ?_
  iterate 10 (first | (refine TakeSeqL.step (v := undef) rfl (Or.inr ⟨by rfl, rfl⟩) ?_; simp only [Act.put, List.setIfInBounds_toArray, List.set_cons_zero, List.set_cons_succ, List.getElem_toArray, List.getElem_cons_zero, List.getElem_cons_succ]) | (refine TakeSeqL.step (v := ?_) rfl (Or.inl ⟨by rfl, ?_⟩) ?_; rotate_left 1; (focus (intro wq hSq; have hrd := hSq.rule; go_simp; with_reducible rfl)); simp only [Act.put, List.setIfInBounds_toArray, List.set_cons_zero, List.set_cons_succ, List.getElem_toArray, List.getElem_cons_zero, List.getElem_cons_succ]))
  refine TakeSeqL.done ?_
  have hbw5 : Below w.heap.size w w5 := below_step HB.out.2.2.1 HP5.out.2.1
  have hW0g := (HX.out.2.2.2.2.below hbw5)
  refine wpAnyL_ready (rs := [2]) (by kernel_rfl) (by simp) ?_
  refine AllReadyL.cons rfl (by decide) (fun K hK => ?_) (AllReadyL.nil)
  rw [if_pos (by rfl)]
  refine wp_append_nil (.const (.slice none 0 0)) (.tmp 79) 59 rfl w5.heap.size 33 j0 _ 1 8 Tryz.underlying59 hj hy0 hy1 hy2 rfl (by decide) (.slice none 0 0) 0 [] rfl
    (World.ownsRow_nil _ _ _ _) (.slice pg x'.got.length cg) x'.got.length (u64s x'.got) rfl hW0g.src (by simp [u64s]) (by unfold maxLen; omega) (by omega) (by simp) ?_
  intro v6 w6 hown6 hg6 hnil6
  have hb6 : Below w5.heap.size w5 w6 := below_grown (w := w5) (w1 := w5.drew) (by (repeat (first | with_reducible exact Below.refl _ _ | with_reducible assumption | with_reducible refine Below.setCell ?_ (by first | (simp; done) | (simp; omega)) _ | with_reducible refine below_alloc ?_ _ | with_reducible refine below_drewN ?_ _ | with_reducible refine Below.drew ?_ | with_reducible refine below_step ?_ (by assumption)))) hg6 (fun j hj => by simp [Value.ownBlock] at hj)
  have HV6 := Lib.hid (And.intro hown6 (And.intro hnil6 hb6))
  refine hK.out _ _ (SteadyBut.of hb6) (fun hHeld => ?_)
  clear hK K hown6 hg6 hnil6
  simp only [Act.put, List.setIfInBounds_toArray, List.set_cons_zero, List.set_cons_succ, List.getElem_toArray, List.getElem_cons_zero, List.getElem_cons_succ]
  have HEx : Hid (Calls Tryz.prog 114 #[.pointer (some ⟨bn, on, none⟩), .agg (vbArr x'.v (.slice pv x'.v.words.length cv)), .agg #[.int .i64 pc.1, .int .i64 pc.2]] w6 (ExecPost x'.v (pc.1, pc.2) b m w6)) := Lib.hid (by
    have hb5w6 : Below W.heap.size W w6 := by have := HP5.out.2.1; (repeat (first | with_reducible exact Below.refl _ _ | with_reducible assumption | with_reducible refine Below.setCell ?_ (by first | (simp; done) | (simp; omega)) _ | with_reducible refine below_alloc ?_ _ | with_reducible refine below_drewN ?_ _ | with_reducible refine Below.drew ?_ | with_reducible refine below_step ?_ (by assumption)))
    refine execute_ok x'.v pv cv lo pc.1 pc.2 bn on b m w6 hok.kind hpc2 hpc3.1 hpc3.2 hpc4 ((HX.out.2.2.2.1.below hbw5).below hb6).1 hbl (by omega) (by have := hok.a2; omega) (Nat.lt_of_lt_of_le lbn2 hb5w6.size) hbb ((hb5w6.cell (p := ⟨bn, on, none⟩) lbn2).trans zn) (HB.out.2.2.2.below hb5w6))
  unfold vbArr at HEx
  refine wpAnyL_ready (rs := [11]) (by kernel_rfl) (by simp) ?_
  refine AllReadyL.cons rfl (by decide) (fun K hK => ?_) (AllReadyL.nil)
  rw [if_pos (by rfl)]
  go_simp
  go_at_call 114; refine HEx.out.mono ?_; rintro e w7 ⟨⟨v7, rfl, hwx, hxn⟩, hm7, ho7⟩
  go_wp2_with fail
  refine hK.out _ _ (SteadyBut.over ((Over.of_below hb6).trans ho7)) (fun hHeld => ?_)
  clear hK K
  have hb56 := hb6.size
  have hbw6 : b < w5.heap.size := by have := hbw5.size; omega
  have hown7 := own_held HV6.out.1 ho7 (fun c hc hh => by
    have h1 := own_row_ge HV6.out.1 c hc
    injection hh with hh
    omega)
  have hwsl : (x'.v.exec m (pc.1, pc.2)).1.length ≤ 864 := by
    unfold Cm.Vb.exec
    split
    · simp; omega
    · split <;> simp
  have hW7 : W0 w7 w6.heap.size v7 (x'.v.exec m (pc.1, pc.2)).1 := ⟨hwx, hxn⟩
  refine wpAnyL_ready (rs := [12]) (by kernel_rfl) (by simp) ?_
  refine AllReadyL.cons rfl (by decide) (fun K hK => ?_) (AllReadyL.nil)
  rw [if_pos (by rfl)]
  refine wp_append_nil (.tmp 80) (.tmp 89) 59 rfl w5.heap.size 33 j0 _ 1 8 Tryz.underlying59 hj hy0 hy1 hy2 rfl (by decide) v6 (0 + x'.got.length) ([] ++ u64s x'.got) rfl
    hown7 v7 _ _ rfl hW7.src (by simp [u64s]) (by unfold maxLen; omega) (by omega) (by have := ho7.size; omega) ?_
  intro v8 w8 hown8 hg8 hnil8
  have hb78 : Below w5.heap.size w7 w8 := (Below.refl _ w7).grown hg8 (by have := ho7.size; omega) (fun j hj => own_row_ge hown7 j hj)
  have ho57 : Over b w5 w7 := (Over.of_below hb6).trans ho7
  have ho58 : Over b w5 w8 := ⟨hb78.os.trans ho57.os, hb78.tape.trans ho57.tape, hb78.output.trans ho57.output, Nat.le_trans ho57.size hb78.size, fun k hk hn => (hb78.block k hk).trans (ho57.block k hk hn)⟩
  refine hK.out _ _ (SteadyBut.over ho58) (fun hHeld => ?_)
  clear hK K
  simp only [Act.put, List.setIfInBounds_toArray, List.set_cons_zero, List.set_cons_succ, List.getElem_toArray, List.getElem_cons_zero, List.getElem_cons_succ]
  have BX8 := (HB.out.2.1.kept HP5.out.2.1).grown ho58 (fun e => by injection e with e; omega)
  have kx8 := BX8.cell
  have fx8 := BX8.free
  have lx8 := BX8.lt
  obtain ⟨p8, c8, rfl⟩ := own_shape hown8
  refine wpAnyL_seq (is := [13]) (by kernel_rfl) (by kernel_rfl) (fun _ _ d _ _ h => by cases d <;> exact h) (by assumption) ?_
  iterate 1 (first | (refine TakeSeqL.step (v := undef) rfl (Or.inr ⟨by rfl, rfl⟩) ?_; simp only [Act.put, List.setIfInBounds_toArray, List.set_cons_zero, List.set_cons_succ, List.getElem_toArray, List.getElem_cons_zero, List.getElem_cons_succ]) | (refine TakeSeqL.step (v := ?_) rfl (Or.inl ⟨by rfl, ?_⟩) ?_; rotate_left 1; (focus (intro wq hSq; have hrd := hSq.rule; go_simp; with_reducible rfl)); simp only [Act.put, List.setIfInBounds_toArray, List.set_cons_zero, List.set_cons_succ, List.getElem_toArray, List.getElem_cons_zero, List.getElem_cons_succ]))
  refine TakeSeqL.done ?_
  refine wpAnyL_ready (rs := [14]) (by kernel_rfl) (by simp) ?_
  refine AllReadyL.final rfl (fun K hK => ?_)
  rw [if_pos (by rfl)]
  go_simp
  refine hK.out _ _ ?_
  clear hK K
  refine wpAnyL_done (by kernel_rfl) ?_ _
  obtain ⟨ws, hws⟩ : ∃ ws, ws = (x'.v.exec m (pc.1, pc.2)).1 := ⟨_, rfl⟩
  obtain ⟨gl, hgl2⟩ : ∃ gl, gl = x'.got.length + ws.length := ⟨_, rfl⟩
  have HWS : Hid ((x'.v.exec m pc).1 = ws) := Lib.hid hws.symm
  rw [← hws] at hown8 hnil8 hW7 hxn ⊢
  rw [← hgl2]
  have hne : br ≠ b := by
    intro e
    subst e
    obtain ⟨cs2, h2, _⟩ := HX.out.2.2.1
    exact absurd (HX.out.1.type h2).1 (by decide)
  have BR8 : Blk w8 br 107 cs := (HX.out.1.kept hbw5).grown ho58 (fun e => by injection e with e; omega)
  have BD8 := (HB.out.1.kept HP5.out.2.1).grown ho58 (fun e => by injection e with e; omega)
  have hm8 : MemAt w8 b (x'.v.exec m (pc.1, pc.2)).2 := by
    obtain ⟨cs2, h2, h3⟩ := hm7
    exact ⟨cs2, (hb78.block b hbw6).trans h2, h3⟩
  have hs58 := ho58.size
  have hsz5 := hbw5.size
  have hM8 : Mod (fun k => k = br ∨ k = b) w w8 := (Mod.of_below hbw5).over ho58 (.inl (.inr rfl))
  have hG8 : W0 w8 w5.heap.size (.slice p8 gl c8) (x'.got ++ ws) := by
    refine ⟨RowAt.cast (n' := (x'.got ++ ws).length) (xs' := u64s (x'.got ++ ws)) ?_ rfl rfl, fun e => ?_⟩
    · have e : 0 + x'.got.length + ws.length = gl := by omega
      rw [e] at hown8
      exact RowAt.cast (RowAt.of_own hown8) (by simp; omega) (by simp [u64s])
    · have e0 : 0 + x'.got.length + ws.length = gl := by omega
      rw [e0] at hnil8
      have e1 : x'.got = [] := (List.append_eq_nil_iff.1 e).1
      have e2 : ws = [] := (List.append_eq_nil_iff.1 e).2
      rw [hnil8 (hxn e2)]
      exact HV6.out.2.1 (HX.out.2.2.2.2.2 e1)
  have lw1 := HB.out.2.1.lt
  have hbr1 : br < w.heap.size + 1 := by omega
  have hbr0 : br < w.heap.size := by omega
  have hb0 : b < w.heap.size := by omega
  have ho9 : Over (w.heap.size + 1) w8 (w8.setCell ⟨w.heap.size + 1, 10, none⟩ (.slice p8 gl c8)) := (Over.refl _ _).put _ _
  have BX9 : Blk (w8.setCell ⟨w.heap.size + 1, 10, none⟩ (.slice p8 gl c8)) (w.heap.size + 1) 208 #[.int .i64 x'.v.kind, .int .i64 x'.v.node, .int .i64 x'.v.at_, .int .i64 x'.v.n, .int .u64 x'.v.old, .int .u64 x'.v.new, .slice pv x'.v.words.length cv, .int .u64 1, .int .i64 1, .int .i64 x'.exec, .slice p8 gl c8, .int .i64 x'.slot] := (BX8.put 10 _).cast rfl
  have BR9 : Blk (w8.setCell ⟨w.heap.size + 1, 10, none⟩ (.slice p8 gl c8)) br 107 cs := BR8.aside (by simp; omega) _
  have BD9 : Blk (w8.setCell ⟨w.heap.size + 1, 10, none⟩ (.slice p8 gl c8)) w.heap.size 151 #[.int .i64 0, .slice none 0 0] := BD8.aside (by simp) _
  have hM9 : Mod (fun k => k = br ∨ k = b) w (w8.setCell ⟨w.heap.size + 1, 10, none⟩ (.slice p8 gl c8)) := hM8.put (.inr (by simp)) _
  have hm9 : MemAt (w8.setCell ⟨w.heap.size + 1, 10, none⟩ (.slice p8 gl c8)) b (x'.v.exec m (pc.1, pc.2)).2 := hm8.mod (S := fun k => k = w.heap.size + 1) ((Mod.refl _ _).over ho9 (.inl rfl)) (by omega)
  have hG9 : W0 (w8.setCell ⟨w.heap.size + 1, 10, none⟩ (.slice p8 gl c8)) w5.heap.size (.slice p8 gl c8) (x'.got ++ ws) := hG8.mod (S := fun k => k = w.heap.size + 1) ((Mod.refl _ _).over ho9 (.inl rfl)) (fun k hk => .inr ⟨_, _, hk ▸ BX8, by decide⟩)
  generalize hW9 : w8.setCell ⟨w.heap.size + 1, 10, none⟩ (.slice p8 gl c8) = W9 at *
  obtain ⟨e1, he1⟩ : ∃ e1, e1 = x'.exec + 1 := ⟨_, rfl⟩
  have ew : IntKind.i64.wrap ((x'.exec : Int) + 1) = (e1 : Int) := by rw [IntKind.wrap_i64]; omega
  have y9 : W9.cell? ⟨br, o + 3, none⟩ = some (.slice (some ⟨bq, oq, none⟩) (rest.length + 1) cq) := (BR9.cell _).trans (by simpa using h3)
  have kx9 := BX9.cell
  have fx9 := BX9.free
  have lx9 := BX9.lt
  have lr9 := BR9.lt
  have H9 := Lib.hid (And.intro BR9 (And.intro BD9 (And.intro hM9 (And.intro hm9 (And.intro hG9 (And.intro BX9 (And.intro he1 hgl2)))))))
  clear hW9 ho9 BX9 BR9 BD9 hM9 hm9 hG9 hG8 hM8 hm8 BR8 BD8 BX8 kx8 fx8 lx8 hnil8 hown8 hg8 hb78 ho58 ho57 hown7 hm7 ho7 hW7 hwx hxn hSt hHeld hW0g hbw5 he1 hgl2 hws hwsl
  have hlS : ∀ k, (k = br ∨ k = b) → k < lo := fun k hk => by rcases hk with rfl | rfl <;> omega
  by_cases hmore : e1 < pn
  · have bt : decide ((e1 : Int) < pn) = true := by simp; omega
    go_wp2_with (at_builtin; refine halt ?_)
    refine unhalt ?_
    have hM10 : Mod (fun k => k = br ∨ k = b) w (W9.setCell ⟨w.heap.size + 1, 9, none⟩ (.int .i64 e1)) := H9.out.2.2.1.put (.inr (by simp)) _
    obtain ⟨al9, hal9, hsrc, hws9⟩ := (HX.out.2.1.mod hM10 (fun k hk => .inl (hlS k hk))).src
    have hall : al9.length = rest.length + 1 := by
      have := congrArg List.length hal9
      simpa using this
    refine wpList_append_nil rfl (.const (.slice none 0 0)) (.tmp 104) 105 rfl W9.heap.size 208 i0 _ 12 128 Tryz.underlying105 hi hz0 hz1 hz2 rfl (by decide) (.slice none 0 0) 0 [] rfl
      (World.ownsRow_nil _ _ _ _) (.slice (some ⟨bq, oq, none⟩) (rest.length + 1) cq) al9.length (pdCells al9) rfl hsrc (pdCells_len al9) (by unfold maxLen; omega) (by omega) (by simp) ?_
    intro v11 w11 hown11 hg11 _
    replace hown11 := own_cast hown11 (show 0 + al9.length = rest.length + 1 by omega) (show [] ++ pdCells al9 = pdCells al9 by simp)
    obtain ⟨g11, c11, rfl⟩ := own_form hown11 (by omega)
    obtain ⟨hg11b, hc11, cur, BG11, hcs11, hcur⟩ := own_blk hown11
    have hb11 : Below (W9.setCell ⟨w.heap.size + 1, 9, none⟩ (.int .i64 e1)).heap.size (W9.setCell ⟨w.heap.size + 1, 9, none⟩ (.int .i64 e1)) w11 := below_grown (w := W9.setCell ⟨w.heap.size + 1, 9, none⟩ (.int .i64 e1)) (w1 := W9.setCell ⟨w.heap.size + 1, 9, none⟩ (.int .i64 e1)) (Below.refl _ _) hg11 (fun j hj => by simp [Value.ownBlock] at hj)
    have hM11 := hM10.then_below hb11
    have BX11 : Blk w11 (w.heap.size + 1) 208 #[.int .i64 x'.v.kind, .int .i64 x'.v.node, .int .i64 x'.v.at_, .int .i64 x'.v.n, .int .u64 x'.v.old, .int .u64 x'.v.new, .slice pv x'.v.words.length cv, .int .u64 1, .int .i64 1, .int .i64 e1, .slice p8 gl c8, .int .i64 x'.slot] := ((H9.out.2.2.2.2.2.1.put 9 (.int .i64 e1)).cast rfl).kept hb11
    have BR11 : Blk w11 br 107 cs := (H9.out.1.aside (by simp; omega) _).kept hb11
    have BD11 : Blk w11 w.heap.size 151 #[.int .i64 0, .slice none 0 0] := (H9.out.2.1.aside (by simp) _).kept hb11
    have hm11 : MemAt w11 b (x'.v.exec m (pc.1, pc.2)).2 := (H9.out.2.2.2.1.mod (S := fun k => k = w.heap.size + 1) ((Mod.refl (fun k => k = w.heap.size + 1) W9).put (p := ⟨w.heap.size + 1, 9, none⟩) (.inl rfl) (.int .i64 e1)) (by omega)).below hb11
    have hV11 := HX.out.2.2.2.1.mod hM11 (fun k hk => .inl (hlS k hk))
    have hG11 : W0 w11 w5.heap.size (.slice p8 gl c8) (x'.got ++ ws) := (H9.out.2.2.2.2.1.mod (S := fun k => k = w.heap.size + 1) ((Mod.refl (fun k => k = w.heap.size + 1) W9).put (p := ⟨w.heap.size + 1, 9, none⟩) (.inl rfl) (.int .i64 e1)) (fun k hk => .inr ⟨_, _, hk ▸ H9.out.2.2.2.2.2.1, by decide⟩)).below hb11
    have hws11 : ∀ t ∈ al9, W0 w11 lo t.2.1 t.1.v.words ∧ W0 w11 lo t.2.2 t.1.got := fun t ht => ⟨(hws9 t ht).1.below hb11, (hws9 t ht).2.below hb11⟩
    have kx11 := BX11.cell
    have lx11 := BX11.lt
    have fG := BG11.free
    have lG := BG11.lt
    have hbg : br < g11 := by omega
    have hwg : w.heap.size + 1 < g11 := by omega
    have H11 := Lib.hid (And.intro BR11 (And.intro BD11 (And.intro hM11 (And.intro hm11 (And.intro hV11 (And.intro hG11 (And.intro hws11 (And.intro BG11 (And.intro hcur (And.intro hal9 (And.intro hcs11 BX11)))))))))))
    clear BX11 BR11 BD11 hM11 hm11 hV11 hG11 hws11 BG11 hcur hal9 hcs11 hown11 hg11 hb11 hsrc hws9 hM10 kx9 fx9 lx9 y9
    go_upto_region 18 with (fail)
    iterate 10 go_step
    obtain ⟨BR11, BD11, hM11, hm11, hV11, hG11, hws11, BG11, hcur, hal9, hcs11, BX11⟩ := H11.out
    have hcells : (#[.int .i64 x'.v.kind, .int .i64 x'.v.node, .int .i64 x'.v.at_, .int .i64 x'.v.n, .int .u64 x'.v.old, .int .u64 x'.v.new, .slice pv x'.v.words.length cv, .int .u64 1, .int .i64 1, .int .i64 e1, .slice p8 gl c8, .int .i64 x'.slot] : Array Value) = pdArr (stepNext x' ws) (.slice pv x'.v.words.length cv) (.slice p8 gl c8) := by rw [H9.out.2.2.2.2.2.2.1]; rfl
    refine wpList_store_mid rfl 208 (.tmp 108) (.tmp 107) rfl g11 0 (pdArr (stepNext x' ws) (.slice pv x'.v.words.length cv) (.slice p8 gl c8)) rfl (by rw [← hcells]; rfl) (fun j hj => ⟨by
      rw [Nat.zero_add, BG11.cell, Array.getElem?_eq_getElem (by simp [pdArr] at hj; omega)]; rfl, fG _⟩) (by kernel_rfl) (by simp [pdArr, Value.oneCell']) ?_
    rcases al9 with _ | ⟨t9, al9⟩
    · simp at hall
    simp only [List.map_cons, List.cons.injEq] at hal9
    have hal9l : al9.length = rest.length := by simpa using hall
    obtain ⟨cur', BG12, hrow⟩ := row_set BG11 (pdArr (stepNext x' ws) (.slice pv x'.v.words.length cv) (.slice p8 gl c8)).toList (pdCells al9) (pdArr t9.1 t9.2.1 t9.2.2).toList (by simp [pdArr]; omega) (by
      have e : pdCells (t9 :: al9) = (pdArr t9.1 t9.2.1 t9.2.2).toList ++ pdCells al9 := by simp [pdCells]
      rw [← e]; exact hcur) (by simp [pdArr])
    have ho12 := (setCells_cut (pdArr (stepNext x' ws) (.slice pv x'.v.words.length cv) (.slice p8 gl c8)).toList 0 w11 _ BG11).2
    have hS12 : Mod (fun k => k = g11) w11 (w11.setCells g11 0 (pdArr (stepNext x' ws) (.slice pv x'.v.words.length cv) (.slice p8 gl c8)).toList) := (Mod.refl _ _).over ho12 (.inl rfl)
    have BR12 := hS12.blk BR11 (by omega)
    have BD12 := hS12.blk BD11 (by omega)
    have hM12 := hM11.over ho12 (.inr (by omega))
    have hm12 := hm11.mod hS12 (by omega)
    have hV12 := hV11.mod hS12 (fun k hk => .inr ⟨_, _, hk ▸ BG11, by decide⟩)
    have hG12 := hG11.mod hS12 (fun k hk => .inr ⟨_, _, hk ▸ BG11, by decide⟩)
    have hws12 := fun t ht => And.intro ((hws11 t (List.mem_cons_of_mem _ ht)).1.mod hS12 (fun k hk => .inr ⟨_, _, hk ▸ BG11, by decide⟩)) ((hws11 t (List.mem_cons_of_mem _ ht)).2.mod hS12 (fun k hk => .inr ⟨_, _, hk ▸ BG11, by decide⟩))
    have hloG : lo ≤ w5.heap.size := by omega
    generalize hW12 : w11.setCells g11 0 _ = w12 at *
    have hQ12 : QueueAt w12 lo (.slice (some ⟨g11, 0, none⟩) (rest.length + 1) c11) (stepNext x' ws :: rest) := by
      refine ⟨(stepNext x' ws, .slice pv x'.v.words.length cv, .slice p8 gl c8) :: al9, by simp [hal9.2], by simp, ⟨pdCells_len _, .inr ⟨g11, 0, c11, cur', by simp [hal9l], by omega, by simp [hal9l]; omega, BG12, ?_⟩⟩, fun t ht => ?_⟩
      · have e : pdCells ((stepNext x' ws, Value.slice pv x'.v.words.length cv, Value.slice p8 gl c8) :: al9) = (pdArr (stepNext x' ws) (.slice pv x'.v.words.length cv) (.slice p8 gl c8)).toList ++ pdCells al9 := by simp [pdCells]
        rw [e]
        exact hrow
      · rcases List.mem_cons.1 ht with h | h
        · subst h
          exact ⟨hV12, hG12.low hloG⟩
        · exact hws12 t h
    have y12 := (BR12.cell (o + 3)).trans h3
    have fr12 := BR12.free
    have lr12 := BR12.lt
    have kd12 := BD12.cell
    have fd12 := BD12.free
    have ld12 := BD12.lt
    have H12 := Lib.hid (And.intro BR12 (And.intro BD12 (And.intro hM12 (And.intro hm12 hQ12))))
    clear hW12 hcells hrow BG12 BG11 hcur ho12 hS12 BR12 BD12 hM12 hm12 hV12 hG12 hws12 hQ12 BR11 BD11 hM11 hm11 hV11 hG11 hws11 hal9 hcs11 BX11 kx11 lx11 fG lG H11
    go_wp2_with fail
    obtain ⟨BR12, BD12, hM12, hm12, hQ12⟩ := H12.out
    have he1 := H9.out.2.2.2.2.2.2.1
    have hpn := HP5.out.2.2
    refine bodyPost_ret (results_bttt rfl _ _ w.heap.size _ _ _ rfl (Blk.all2 (BD12.aside (by simp; omega) _) _ _) Tryz.underlying151 rfl (by kernel_rfl)) rfl ⟨⟨_, ((BR12.put (o + 3) _).aside (by simp; omega) _).aside (by simp; omega) _, .inl ⟨by omega, rfl, ?_⟩⟩, ?_, ?_⟩
    · rw [HWS.out]
      refine hQ12.mod (S := fun k => k = br ∨ k = w.heap.size) ?_ (fun k hk => by
        rcases hk with rfl | rfl
        · exact .inl hbr
        · exact .inr ⟨_, _, BD12, by decide, by decide⟩)
      exact (((Mod.refl _ _).put (p := ⟨br, o + 3, none⟩) (.inl (.inl rfl)) _).put (p := ⟨w.heap.size, 0, none⟩) (.inl (.inr rfl)) _).put (p := ⟨w.heap.size, 1, none⟩) (.inl (.inr rfl)) _
    · exact hm12.mod (S := fun k => k = br ∨ k = w.heap.size) (((Mod.refl _ _).put (p := ⟨br, o + 3, none⟩) (.inl (.inl rfl)) _).put (p := ⟨w.heap.size, 0, none⟩) (.inl (.inr rfl)) _ |>.put (p := ⟨w.heap.size, 1, none⟩) (.inl (.inr rfl)) _) (fun h => by
        rcases h with h | h
        · exact hne h.symm
        · omega)
    · exact ((hM12.put (p := ⟨br, o + 3, none⟩) (.inl (.inl rfl)) _).put (p := ⟨w.heap.size, 0, none⟩) (.inr (Nat.le_refl _)) _).put (p := ⟨w.heap.size, 1, none⟩) (.inr (Nat.le_refl _)) _
  · have bt : ¬ e1 < pn := hmore
    have hM10 : Mod (fun k => k = br ∨ k = b) w (W9.setCell ⟨w.heap.size + 1, 9, none⟩ (.int .i64 e1)) := H9.out.2.2.1.put (.inr (by simp)) _
    obtain ⟨al9, hal9, -, hrow9, hws9⟩ := HX.out.2.1.mod hM10 (fun k hk => .inl (hlS k hk))
    rcases al9 with _ | ⟨t9, al10⟩
    · simp at hal9
    simp only [List.map_cons, List.cons.injEq] at hal9
    have hal10 : al10.map (·.1) = rest := hal9.2
    have hal10l : al10.length = rest.length := by rw [← hal10]; simp
    have hws10 : ∀ t ∈ al10, W0 (W9.setCell ⟨w.heap.size + 1, 9, none⟩ (.int .i64 e1)) lo t.2.1 t.1.v.words ∧ W0 (W9.setCell ⟨w.heap.size + 1, 9, none⟩ (.int .i64 e1)) lo t.2.2 t.1.got := fun t ht => hws9 t (List.mem_cons_of_mem _ ht)
    have hone10 : ∀ u ∈ pdCells al10, u.oneCell' = true := pdCells_one hws10
    have HROW : Hid (rest.length + 1 ≤ cq ∧ (1 ≤ rest.length → RowAt (W9.setCell ⟨w.heap.size + 1, 9, none⟩ (.int .i64 e1)) lo (.slice (some ⟨bq, oq + 12, none⟩) rest.length (cq - 1)) 208 12 rest.length (pdCells al10))) := Lib.hid (by
      have hc : rest.length + 1 ≤ cq := by
        obtain ⟨b', o', cap', hv, hcap, -⟩ := hrow9.drop 0 (by simp)
        simp only [Value.slice.injEq] at hv
        simp only [List.length_cons] at hcap
        omega
      refine ⟨hc, fun h1 => ?_⟩
      obtain ⟨b', o', cap', hv, hcap, hr⟩ := hrow9.drop 1 (by simp; omega)
      simp only [Value.slice.injEq, Option.some.injEq, Addr.mk.injEq, and_true] at hv
      obtain ⟨⟨rfl, rfl⟩, -, rfl⟩ := hv
      have e : (pdCells (t9 :: al10)).drop (1 * 12) = pdCells al10 := by
        have e2 : pdCells (t9 :: al10) = (pdArr t9.1 t9.2.1 t9.2.2).toList ++ pdCells al10 := by simp [pdCells]
        rw [e2, List.drop_append_of_le_length (by simp [pdArr])]
        simp [pdArr]
      rw [e] at hr
      have e3 : (t9 :: al10).length - 1 = rest.length := by simp [hal10l]
      rw [e3] at hr
      exact hr)
    clear hrow9 hws9 hal9
    go_wp2_with (at_builtin; refine halt ?_)
    all_goals refine unhalt ?_
    · refine wpList_append_row rfl (.const (.slice none 0 0)) (.tmp 119) 105 rfl W9.heap.size 208 i0 _ 12 128 Tryz.underlying105 hi hz0 hz1 hz2 rfl (by decide) (.slice none 0 0) 0 [] rfl
        (World.ownsRow_nil _ _ _ _) _ rest.length lo (pdCells al10) rfl ?hsrc hone10 (by unfold maxLen; omega) (by omega) (by simp) ?_
      case hsrc =>
        have h1 := HROW.out.1
        have h2 : rest.length = 0 := by omega
        have h3' : al10 = [] := List.length_eq_zero_iff.1 (by omega)
        subst h3'
        rw [h2]
        exact ⟨rfl, .inl ⟨rfl, _, _, rfl⟩⟩
      intro v11 w11 hown11 hg11 hnil11
      replace hown11 := own_cast hown11 (show 0 + rest.length = rest.length by omega) (show [] ++ pdCells al10 = pdCells al10 by simp)
      obtain ⟨p11, c11, rfl⟩ := own_shape hown11
      have hb11 : Below (W9.setCell ⟨w.heap.size + 1, 9, none⟩ (.int .i64 e1)).heap.size (W9.setCell ⟨w.heap.size + 1, 9, none⟩ (.int .i64 e1)) w11 := below_grown (w := W9.setCell ⟨w.heap.size + 1, 9, none⟩ (.int .i64 e1)) (w1 := W9.setCell ⟨w.heap.size + 1, 9, none⟩ (.int .i64 e1)) (Below.refl _ _) hg11 (fun j hj => by simp [Value.ownBlock] at hj)
      have hM11 := hM10.then_below hb11
      have BX11 : Blk w11 (w.heap.size + 1) 208 #[.int .i64 x'.v.kind, .int .i64 x'.v.node, .int .i64 x'.v.at_, .int .i64 x'.v.n, .int .u64 x'.v.old, .int .u64 x'.v.new, .slice pv x'.v.words.length cv, .int .u64 1, .int .i64 1, .int .i64 e1, .slice p8 gl c8, .int .i64 x'.slot] := ((H9.out.2.2.2.2.2.1.put 9 (.int .i64 e1)).cast rfl).kept hb11
      have BR11 : Blk w11 br 107 cs := (H9.out.1.aside (by simp; omega) _).kept hb11
      have BD11 : Blk w11 w.heap.size 151 #[.int .i64 0, .slice none 0 0] := (H9.out.2.1.aside (by simp) _).kept hb11
      have hm11 : MemAt w11 b (x'.v.exec m (pc.1, pc.2)).2 := (H9.out.2.2.2.1.mod (S := fun k => k = w.heap.size + 1) ((Mod.refl (fun k => k = w.heap.size + 1) W9).put (p := ⟨w.heap.size + 1, 9, none⟩) (.inl rfl) (.int .i64 e1)) (by omega)).below hb11
      have hG11 : W0 w11 w5.heap.size (.slice p8 gl c8) (x'.got ++ ws) := (H9.out.2.2.2.2.1.mod (S := fun k => k = w.heap.size + 1) ((Mod.refl (fun k => k = w.heap.size + 1) W9).put (p := ⟨w.heap.size + 1, 9, none⟩) (.inl rfl) (.int .i64 e1)) (fun k hk => .inr ⟨_, _, hk ▸ H9.out.2.2.2.2.2.1, by decide⟩)).below hb11
      have hsz9 : W9.heap.size ≤ w11.heap.size := by have := hb11.size; simpa using this
      have hloW9 : lo ≤ W9.heap.size := by omega
      have hQ11 : QueueAt w11 lo (.slice p11 rest.length c11) rest := ⟨al10, hal10, fun e => hnil11 (by rw [e]; rfl), RowAt.low (RowAt.cast (RowAt.of_own hown11) hal10l.symm rfl) hloW9, fun t ht => ⟨(hws10 t ht).1.below hb11, (hws10 t ht).2.below hb11⟩⟩
      have y11 := (BR11.cell (o + 3)).trans h3
      have fr11 := BR11.free
      have lr11 := BR11.lt
      have hS12 : Mod (fun k => k = br) w11 (w11.setCell ⟨br, o + 3, none⟩ (.slice p11 rest.length c11)) := (Mod.refl (fun k => k = br) w11).put (p := ⟨br, o + 3, none⟩) (.inl rfl) _
      have hloG : lo ≤ w5.heap.size := by omega
      have H12 : Hid (∀ w12, w12 = w11.setCell ⟨br, o + 3, none⟩ (.slice p11 rest.length c11) → Blk w12 br 107 (cs.setIfInBounds (o + 3) (.slice p11 rest.length c11)) ∧ Blk w12 w.heap.size 151 #[.int .i64 0, .slice none 0 0] ∧ Mod (fun k => k = br ∨ k = b) w w12 ∧ MemAt w12 b (x'.v.exec m (pc.1, pc.2)).2 ∧ QueueAt w12 lo (.slice p11 rest.length c11) rest ∧ W0 w12 lo (.slice p8 gl c8) (x'.got ++ ws) ∧
          Blk w12 (w.heap.size + 1) 208 #[.int .i64 x'.v.kind, .int .i64 x'.v.node, .int .i64 x'.v.at_, .int .i64 x'.v.n, .int .u64 x'.v.old, .int .u64 x'.v.new, .slice pv x'.v.words.length cv, .int .u64 1, .int .i64 1, .int .i64 e1, .slice p8 gl c8, .int .i64 x'.slot]) := Lib.hid (fun w12 e => by
        subst e
        exact ⟨BR11.put (o + 3) _, hS12.blk BD11 (show ¬ w.heap.size = br by omega), hM11.put (p := ⟨br, o + 3, none⟩) (.inl (.inl rfl)) _, hm11.mod hS12 (fun e => hne e.symm), hQ11.mod hS12 (fun k hk => .inl (by omega)), (hG11.low hloG).mod hS12 (fun k hk => .inl (by omega)), hS12.blk BX11 (show ¬ w.heap.size + 1 = br by omega)⟩)
      clear hS12 hQ11 hG11 hm11 BD11 BR11 BX11 hM11 hb11 hnil11 hg11 hown11 hws10 hM10 hone10 hal10 kx9 fx9 lx9 y9 lr9
      go_upto_region 22 with (fail)
      obtain ⟨w12, hw12⟩ : ∃ w12, w12 = w11.setCell ⟨br, o + 3, none⟩ (.slice p11 rest.length c11) := ⟨_, rfl⟩
      rw [← hw12]
      have H13 := Lib.hid (H12.out w12 hw12)
      have kd12 := H13.out.2.1.cell
      have fd12 := H13.out.2.1.free
      have ld12 := H13.out.2.1.lt
      have kx12 := H13.out.2.2.2.2.2.2.cell
      have lx12 := H13.out.2.2.2.2.2.2.lt
      clear hw12 H12 y11 fr11 lr11
      refine wp_region_held_drew (S := SteadyBut (w.heap.size) _) (by kernel_rfl) (SteadyBut.of (Below.refl _ _).drew) ?_
      intro hSt
      refine wpAnyH_seq (is := [0, 1, 2, 3, 4]) (by kernel_rfl) (by kernel_rfl) (fun _ _ d _ _ h => by cases d <;> exact h) (by assumption) ?_
      iterate 5 (first | (refine TakeSeq.step (v := undef) rfl (Or.inr ⟨by rfl, rfl⟩) ?_; simp only [Act.put, List.setIfInBounds_toArray, List.set_cons_zero, List.set_cons_succ, List.getElem_toArray, List.getElem_cons_zero, List.getElem_cons_succ]) | (refine TakeSeq.step (v := ?_) rfl (Or.inl ⟨by rfl, ?_⟩) ?_; rotate_left 1; (focus (intro wq hSq; have hrd := hSq.rule; go_simp; with_reducible rfl)); simp only [Act.put, List.setIfInBounds_toArray, List.set_cons_zero, List.set_cons_succ, List.getElem_toArray, List.getElem_cons_zero, List.getElem_cons_succ]))
      refine TakeSeq.done ?_
      refine wpAnyH_ready (rs := [5]) (by kernel_rfl) (by simp) ?_
      refine AllReadyH.cons rfl (fun K hK => ?_) (AllReadyH.nil)
      rw [if_pos (by rfl)]
      go_simp
      refine hK.out _ _ (SteadyBut.over (by (repeat (first | with_reducible exact Over.refl _ _ | with_reducible assumption | with_reducible refine Over.put ?_ _ _ | with_reducible refine Over.alloc ?_ _ | with_reducible refine Over.drew ?_ | with_reducible refine Over.own ?_ (by first | (simp; done) | (simp; omega)) _ | with_reducible refine Over.trans ?_ (by assumption) | with_reducible refine Over.then_below ?_ (by assumption))))) (fun hHeld => ?_)
      clear hK K
      refine wpAnyH_seq (is := [6, 7, 8]) (by kernel_rfl) (by kernel_rfl) (fun _ _ d _ _ h => by cases d <;> exact h) (by assumption) ?_
      iterate 3 (first | (refine TakeSeq.step (v := undef) rfl (Or.inr ⟨by rfl, rfl⟩) ?_; simp only [Act.put, List.setIfInBounds_toArray, List.set_cons_zero, List.set_cons_succ, List.getElem_toArray, List.getElem_cons_zero, List.getElem_cons_succ]) | (refine TakeSeq.step (v := ?_) rfl (Or.inl ⟨by rfl, ?_⟩) ?_; rotate_left 1; (focus (intro wq hSq; have hrd := hSq.rule; go_simp; with_reducible rfl)); simp only [Act.put, List.setIfInBounds_toArray, List.set_cons_zero, List.set_cons_succ, List.getElem_toArray, List.getElem_cons_zero, List.getElem_cons_succ]))
      refine TakeSeq.done ?_
      refine wpAnyH_done (by kernel_rfl) ?_ _
      go_wp2_with fail
      obtain ⟨BR12, BD12, hM12, hm12, hQ12, hG12, BX12⟩ := H13.out
      have he1 := H9.out.2.2.2.2.2.2.1
      have hpn := HP5.out.2.2
      refine bodyPost_ret (results_bttt rfl _ _ w.heap.size _ _ _ rfl (Blk.all2 BD12 _ _) Tryz.underlying151 rfl (by kernel_rfl)) rfl ⟨⟨_, (BR12.aside (by simp; omega) _).aside (by simp; omega) _, .inr ⟨by omega, _, rfl, ?_, ?_⟩⟩, ?_, ?_⟩
      · rw [HWS.out]
        refine hG12.mod (S := fun k => k = w.heap.size) ?_ (fun k hk => .inr ⟨_, _, hk ▸ BD12, by decide⟩)
        exact (((Mod.refl (fun k => k = w.heap.size) w12).put (p := ⟨w.heap.size, 0, none⟩) (.inl rfl) _).put (p := ⟨w.heap.size, 1, none⟩) (.inl rfl) _).drew
      · refine hQ12.mod (S := fun k => k = w.heap.size) ?_ (fun k hk => .inr ⟨_, _, hk ▸ BD12, by decide, by decide⟩)
        exact (((Mod.refl (fun k => k = w.heap.size) w12).put (p := ⟨w.heap.size, 0, none⟩) (.inl rfl) _).put (p := ⟨w.heap.size, 1, none⟩) (.inl rfl) _).drew
      · refine hm12.mod (S := fun k => k = w.heap.size) ?_ (show ¬ b = w.heap.size by omega)
        exact (((Mod.refl (fun k => k = w.heap.size) w12).put (p := ⟨w.heap.size, 0, none⟩) (.inl rfl) _).put (p := ⟨w.heap.size, 1, none⟩) (.inl rfl) _).drew
      · exact ((hM12.put (p := ⟨w.heap.size, 0, none⟩) (.inr (Nat.le_refl _)) _).put (p := ⟨w.heap.size, 1, none⟩) (.inr (Nat.le_refl _)) _).drew
    · refine wpList_append_row rfl (.const (.slice none 0 0)) (.tmp 119) 105 rfl W9.heap.size 208 i0 _ 12 128 Tryz.underlying105 hi hz0 hz1 hz2 rfl (by decide) (.slice none 0 0) 0 [] rfl
        (World.ownsRow_nil _ _ _ _) _ rest.length lo (pdCells al10) rfl ?hsrc hone10 (by unfold maxLen; omega) (by omega) (by simp) ?_
      case hsrc =>
        rcases Nat.eq_zero_or_pos rest.length with h2 | h2
        · have h3' : al10 = [] := List.length_eq_zero_iff.1 (by omega)
          subst h3'
          rw [h2]
          exact ⟨rfl, .inl ⟨rfl, _, _, rfl⟩⟩
        · exact HROW.out.2 h2
      intro v11 w11 hown11 hg11 hnil11
      replace hown11 := own_cast hown11 (show 0 + rest.length = rest.length by omega) (show [] ++ pdCells al10 = pdCells al10 by simp)
      obtain ⟨p11, c11, rfl⟩ := own_shape hown11
      have hb11 : Below (W9.setCell ⟨w.heap.size + 1, 9, none⟩ (.int .i64 e1)).heap.size (W9.setCell ⟨w.heap.size + 1, 9, none⟩ (.int .i64 e1)) w11 := below_grown (w := W9.setCell ⟨w.heap.size + 1, 9, none⟩ (.int .i64 e1)) (w1 := W9.setCell ⟨w.heap.size + 1, 9, none⟩ (.int .i64 e1)) (Below.refl _ _) hg11 (fun j hj => by simp [Value.ownBlock] at hj)
      have hM11 := hM10.then_below hb11
      have BX11 : Blk w11 (w.heap.size + 1) 208 #[.int .i64 x'.v.kind, .int .i64 x'.v.node, .int .i64 x'.v.at_, .int .i64 x'.v.n, .int .u64 x'.v.old, .int .u64 x'.v.new, .slice pv x'.v.words.length cv, .int .u64 1, .int .i64 1, .int .i64 e1, .slice p8 gl c8, .int .i64 x'.slot] := ((H9.out.2.2.2.2.2.1.put 9 (.int .i64 e1)).cast rfl).kept hb11
      have BR11 : Blk w11 br 107 cs := (H9.out.1.aside (by simp; omega) _).kept hb11
      have BD11 : Blk w11 w.heap.size 151 #[.int .i64 0, .slice none 0 0] := (H9.out.2.1.aside (by simp) _).kept hb11
      have hm11 : MemAt w11 b (x'.v.exec m (pc.1, pc.2)).2 := (H9.out.2.2.2.1.mod (S := fun k => k = w.heap.size + 1) ((Mod.refl (fun k => k = w.heap.size + 1) W9).put (p := ⟨w.heap.size + 1, 9, none⟩) (.inl rfl) (.int .i64 e1)) (by omega)).below hb11
      have hG11 : W0 w11 w5.heap.size (.slice p8 gl c8) (x'.got ++ ws) := (H9.out.2.2.2.2.1.mod (S := fun k => k = w.heap.size + 1) ((Mod.refl (fun k => k = w.heap.size + 1) W9).put (p := ⟨w.heap.size + 1, 9, none⟩) (.inl rfl) (.int .i64 e1)) (fun k hk => .inr ⟨_, _, hk ▸ H9.out.2.2.2.2.2.1, by decide⟩)).below hb11
      have hsz9 : W9.heap.size ≤ w11.heap.size := by have := hb11.size; simpa using this
      have hloW9 : lo ≤ W9.heap.size := by omega
      have hQ11 : QueueAt w11 lo (.slice p11 rest.length c11) rest := ⟨al10, hal10, fun e => hnil11 (by rw [e]; rfl), RowAt.low (RowAt.cast (RowAt.of_own hown11) hal10l.symm rfl) hloW9, fun t ht => ⟨(hws10 t ht).1.below hb11, (hws10 t ht).2.below hb11⟩⟩
      have y11 := (BR11.cell (o + 3)).trans h3
      have fr11 := BR11.free
      have lr11 := BR11.lt
      have hS12 : Mod (fun k => k = br) w11 (w11.setCell ⟨br, o + 3, none⟩ (.slice p11 rest.length c11)) := (Mod.refl (fun k => k = br) w11).put (p := ⟨br, o + 3, none⟩) (.inl rfl) _
      have hloG : lo ≤ w5.heap.size := by omega
      have H12 : Hid (∀ w12, w12 = w11.setCell ⟨br, o + 3, none⟩ (.slice p11 rest.length c11) → Blk w12 br 107 (cs.setIfInBounds (o + 3) (.slice p11 rest.length c11)) ∧ Blk w12 w.heap.size 151 #[.int .i64 0, .slice none 0 0] ∧ Mod (fun k => k = br ∨ k = b) w w12 ∧ MemAt w12 b (x'.v.exec m (pc.1, pc.2)).2 ∧ QueueAt w12 lo (.slice p11 rest.length c11) rest ∧ W0 w12 lo (.slice p8 gl c8) (x'.got ++ ws) ∧
          Blk w12 (w.heap.size + 1) 208 #[.int .i64 x'.v.kind, .int .i64 x'.v.node, .int .i64 x'.v.at_, .int .i64 x'.v.n, .int .u64 x'.v.old, .int .u64 x'.v.new, .slice pv x'.v.words.length cv, .int .u64 1, .int .i64 1, .int .i64 e1, .slice p8 gl c8, .int .i64 x'.slot]) := Lib.hid (fun w12 e => by
        subst e
        exact ⟨BR11.put (o + 3) _, hS12.blk BD11 (show ¬ w.heap.size = br by omega), hM11.put (p := ⟨br, o + 3, none⟩) (.inl (.inl rfl)) _, hm11.mod hS12 (fun e => hne e.symm), hQ11.mod hS12 (fun k hk => .inl (by omega)), (hG11.low hloG).mod hS12 (fun k hk => .inl (by omega)), hS12.blk BX11 (show ¬ w.heap.size + 1 = br by omega)⟩)
      clear hS12 hQ11 hG11 hm11 BD11 BR11 BX11 hM11 hb11 hnil11 hg11 hown11 hws10 hM10 hone10 hal10 kx9 fx9 lx9 y9 lr9
      go_upto_region 22 with (fail)
      obtain ⟨w12, hw12⟩ : ∃ w12, w12 = w11.setCell ⟨br, o + 3, none⟩ (.slice p11 rest.length c11) := ⟨_, rfl⟩
      rw [← hw12]
      have H13 := Lib.hid (H12.out w12 hw12)
      have kd12 := H13.out.2.1.cell
      have fd12 := H13.out.2.1.free
      have ld12 := H13.out.2.1.lt
      have kx12 := H13.out.2.2.2.2.2.2.cell
      have lx12 := H13.out.2.2.2.2.2.2.lt
      clear hw12 H12 y11 fr11 lr11
      refine wp_region_held_drew (S := SteadyBut (w.heap.size) _) (by kernel_rfl) (SteadyBut.of (Below.refl _ _).drew) ?_
      intro hSt
      refine wpAnyH_seq (is := [0, 1, 2, 3, 4]) (by kernel_rfl) (by kernel_rfl) (fun _ _ d _ _ h => by cases d <;> exact h) (by assumption) ?_
      iterate 5 (first | (refine TakeSeq.step (v := undef) rfl (Or.inr ⟨by rfl, rfl⟩) ?_; simp only [Act.put, List.setIfInBounds_toArray, List.set_cons_zero, List.set_cons_succ, List.getElem_toArray, List.getElem_cons_zero, List.getElem_cons_succ]) | (refine TakeSeq.step (v := ?_) rfl (Or.inl ⟨by rfl, ?_⟩) ?_; rotate_left 1; (focus (intro wq hSq; have hrd := hSq.rule; go_simp; with_reducible rfl)); simp only [Act.put, List.setIfInBounds_toArray, List.set_cons_zero, List.set_cons_succ, List.getElem_toArray, List.getElem_cons_zero, List.getElem_cons_succ]))
      refine TakeSeq.done ?_
      refine wpAnyH_ready (rs := [5]) (by kernel_rfl) (by simp) ?_
      refine AllReadyH.cons rfl (fun K hK => ?_) (AllReadyH.nil)
      rw [if_pos (by rfl)]
      go_simp
      refine hK.out _ _ (SteadyBut.over (by (repeat (first | with_reducible exact Over.refl _ _ | with_reducible assumption | with_reducible refine Over.put ?_ _ _ | with_reducible refine Over.alloc ?_ _ | with_reducible refine Over.drew ?_ | with_reducible refine Over.own ?_ (by first | (simp; done) | (simp; omega)) _ | with_reducible refine Over.trans ?_ (by assumption) | with_reducible refine Over.then_below ?_ (by assumption))))) (fun hHeld => ?_)
      clear hK K
      refine wpAnyH_seq (is := [6, 7, 8]) (by kernel_rfl) (by kernel_rfl) (fun _ _ d _ _ h => by cases d <;> exact h) (by assumption) ?_
      iterate 3 (first | (refine TakeSeq.step (v := undef) rfl (Or.inr ⟨by rfl, rfl⟩) ?_; simp only [Act.put, List.setIfInBounds_toArray, List.set_cons_zero, List.set_cons_succ, List.getElem_toArray, List.getElem_cons_zero, List.getElem_cons_succ]) | (refine TakeSeq.step (v := ?_) rfl (Or.inl ⟨by rfl, ?_⟩) ?_; rotate_left 1; (focus (intro wq hSq; have hrd := hSq.rule; go_simp; with_reducible rfl)); simp only [Act.put, List.setIfInBounds_toArray, List.set_cons_zero, List.set_cons_succ, List.getElem_toArray, List.getElem_cons_zero, List.getElem_cons_succ]))
      refine TakeSeq.done ?_
      refine wpAnyH_done (by kernel_rfl) ?_ _
      go_wp2_with fail
      obtain ⟨BR12, BD12, hM12, hm12, hQ12, hG12, BX12⟩ := H13.out
      have he1 := H9.out.2.2.2.2.2.2.1
      have hpn := HP5.out.2.2
      refine bodyPost_ret (results_bttt rfl _ _ w.heap.size _ _ _ rfl (Blk.all2 BD12 _ _) Tryz.underlying151 rfl (by kernel_rfl)) rfl ⟨⟨_, (BR12.aside (by simp; omega) _).aside (by simp; omega) _, .inr ⟨by omega, _, rfl, ?_, ?_⟩⟩, ?_, ?_⟩
      · rw [HWS.out]
        refine hG12.mod (S := fun k => k = w.heap.size) ?_ (fun k hk => .inr ⟨_, _, hk ▸ BD12, by decide⟩)
        exact (((Mod.refl (fun k => k = w.heap.size) w12).put (p := ⟨w.heap.size, 0, none⟩) (.inl rfl) _).put (p := ⟨w.heap.size, 1, none⟩) (.inl rfl) _).drew
      · refine hQ12.mod (S := fun k => k = w.heap.size) ?_ (fun k hk => .inr ⟨_, _, hk ▸ BD12, by decide, by decide⟩)
        exact (((Mod.refl (fun k => k = w.heap.size) w12).put (p := ⟨w.heap.size, 0, none⟩) (.inl rfl) _).put (p := ⟨w.heap.size, 1, none⟩) (.inl rfl) _).drew
      · refine hm12.mod (S := fun k => k = w.heap.size) ?_ (show ¬ b = w.heap.size by omega)
        exact (((Mod.refl (fun k => k = w.heap.size) w12).put (p := ⟨w.heap.size, 0, none⟩) (.inl rfl) _).put (p := ⟨w.heap.size, 1, none⟩) (.inl rfl) _).drew
      · exact ((hM12.put (p := ⟨w.heap.size, 0, none⟩) (.inr (Nat.le_refl _)) _).put (p := ⟨w.heap.size, 1, none⟩) (.inr (Nat.le_refl _)) _).drew
end Go.Proofs.YtoidjgongafnkaaGreatDoor
