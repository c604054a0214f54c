/- Package btree: nodes: what can be stored: the walks behind the first tests (printed by valid_gen.py). -/
import Derived.Test.YtjmpekanlmepmaaGreatDoorQc
import Derived.Deep.Light
set_option linter.unusedVariables false
set_option linter.unusedSimpArgs false
set_option linter.unusedSectionVars false
set_option linter.constructorNameAsVariable false
namespace Go.Proofs.YtjmpekanlmepmaaGreatDoor
open Go.RowKit

theorem lastKey_get (es : List Bt.Entry) (k : Nat) (hk : k + 1 = es.length) : Bt.lastKey es = es[k].key := by
  induction es generalizing k with
  | nil => simp at hk
  | cons e es ih =>
    cases es with
    | nil => simp at hk; subst hk; rfl
    | cons e2 es =>
      cases k with
      | zero => simp at hk
      | succ k => simp only [Bt.lastKey, List.getElem_cons_succ]; exact ih k (by simpa using hk)

set_option maxRecDepth 100000 in
set_option maxHeartbeats 1000000 in
theorem valid_d1p (n : Bt.Node) (v : Value) (w : World) (he : EntRow w v n.entries) (hg : NoneAt w) (h : ¬ (n.level < 0 ∨ 8 < n.level ∨ 5 < n.entries.length ∨ Bt.rising n.entries = false ∨ n.high = 0))
    (h1 : n.right = Bt.nilP) (h2 : n.high = 4294967295) (hL : 0 < n.level) (hD : n.dead = true) (hv : v = .slice none 0 0) (hes : n.entries = []) :
    Calls Tryz.prog 63 #[.agg (nodeCells n v)] w fun e w' => e = .returned (.bool n.valid) ∧ Below w.heap.size w w' := by
  have HX : Hid (n.valid = if 0 < n.level then !n.dead && decide (Bt.lastKey n.entries = n.high) else if n.dead = true ∧ (0 < n.entries.length ∨ n.leftmost = true ∨ n.right = Bt.nilP) then false else decide (Bt.lastKey n.entries ≤ n.high) && decide (Bt.lastKey n.entries ≤ Bt.maxKey)) :=
    Lib.hid (by simp only [Bt.Node.valid]; rw [if_neg h, if_neg (by simp [Bt.maxHigh, h1, h2])])
  have He := Lib.hid he
  obtain ⟨g0, g1, gl⟩ := hg
  have hlen := he.len
  unfold maxLen at hlen
  unfold nodeCells
  have a1 : decide (n.level < 0) = false := by simp; omega
  have a2 : decide (8 < n.level) = false := by simp; omega
  have a3 : decide (5 < (n.entries.length : Int)) = false := by simp; omega
  have a4 : (n.high == 0) = false := by simp; omega
  have HR : Hid (Bt.rising n.entries = true) := Lib.hid (by cases hr : Bt.rising n.entries <;> simp_all)
  have hp : peq n.right.line n.right.gen 0 0 = true := by rw [peq_nil]; simp [h1]
  have hm : (n.high == 4294967295) = true := by simp [h2]
  have HN : Hid (n.right = Bt.nilP) := Lib.hid h1
  have aL : decide (0 < n.level) = true := by simp; omega
  have HL0 : Hid (0 < n.level) := Lib.hid hL
  have HD := Lib.hid hD
  subst hv
  have H0 := Lib.hid hes
  have l0 : n.entries.length = 0 := by rw [hes]; rfl
  have L0 := Lib.hid l0
  clear hes l0
  clear h h1 h2 he hL
  have ne := neq_ptr
  have eq := eql_ptr
  go_enter Tryz.func63, Tryz.ntmps63
  go_wp2_with fail
  go_at_call 98; refine (rising_any n.entries _ _ ?hpg).mono ?_; (case hpg => exact He.out.below (by (repeat (first | with_reducible exact Below.refl _ _ | with_reducible assumption | with_reducible refine Below.setCell ?_ (by first | (simp; done) | (simp; omega)) _ | with_reducible refine below_alloc ?_ _ | with_reducible refine below_drewN ?_ _ | with_reducible refine Below.drew ?_ | with_reducible refine below_step ?_ (by assumption))))); rintro e w1 ⟨rfl, hb⟩; rw [HR.out]; ((obtain ⟨hc1, hf1⟩ := below_rules hb; have hs1 := Below.size hb; try simp only [size_alloc, size_setCell, size_drew, size_drewN] at hs1 hc1 hf1); (try have z1_w_0 : w.heap.size < w1.heap.size := by omega))
  have gl1 : 0 < w1.heap.size := by omega
  go_wp2_with fail
  refine wp_region_held_drew (S := SteadyAll _) (by kernel_rfl) (SteadyAll.of (Below.refl _ _).drew) ?_
  intro hSt
  refine wpAnyH_seq (is := [0, 1, 2, 3, 4, 5, 6, 7, 8, 9, 10, 11, 12, 13, 14, 15, 16, 17, 18, 19]) (by kernel_rfl) (by kernel_rfl) (fun _ _ d _ _ h => by cases d <;> exact h) (by assumption) ?_
  iterate 20 (first | (refine TakeSeq.step (v := undef) rfl (Or.inr ⟨by rfl, rfl⟩) ?_; simp only [Act.put, List.setIfInBounds_toArray, List.set_cons_zero, List.set_cons_succ, List.getElem_toArray, List.getElem_cons_zero, List.getElem_cons_succ]) | (refine TakeSeq.step (v := ?_) rfl (Or.inl ⟨by rfl, ?_⟩) ?_; rotate_left 1; (focus (intro wq hSq; have hrd := hSq.rule; go_simp; with_reducible rfl)); simp only [Act.put, List.setIfInBounds_toArray, List.set_cons_zero, List.set_cons_succ, List.getElem_toArray, List.getElem_cons_zero, List.getElem_cons_succ]))
  refine TakeSeq.done ?_
  refine wpAnyH_done (by kernel_rfl) ?_ _
  go_wp2_with fail
  all_goals
    go_ret
    refine ⟨ret_bool ?_, by (repeat (first | with_reducible exact Below.refl _ _ | with_reducible assumption | with_reducible refine Below.setCell ?_ (by first | (simp; done) | (simp; omega)) _ | with_reducible refine below_alloc ?_ _ | with_reducible refine below_drewN ?_ _ | with_reducible refine Below.drew ?_ | with_reducible refine below_step ?_ (by assumption)))⟩
    rw [HX.out]
    go_light
    have hz := H0.out
    have hl := congrArg Bt.lastKey hz
    have hn := congrArg List.length hz
    simp only [Bt.lastKey, List.length_nil] at hl hn
    clear hz
    have hni := HN.out
    have hL := HL0.out
    have hD := HD.out
    have hL2 : ¬ (n.level ≤ 0) ∨ ¬ (0 < n.level) := by omega
    first | (rw [if_pos hL]) | (rw [if_neg (by omega)])
    rw [Bool.eq_iff_iff]
    first | (simp [hD, hl, hn, hni, Bt.maxKey, *]; done) | (simp [hD, hl, hn, hni, Bt.maxKey, *]; omega) | skip

set_option maxRecDepth 100000 in
set_option maxHeartbeats 1000000 in
theorem valid_d1q (n : Bt.Node) (v : Value) (w : World) (he : EntRow w v n.entries) (hg : NoneAt w) (h : ¬ (n.level < 0 ∨ 8 < n.level ∨ 5 < n.entries.length ∨ Bt.rising n.entries = false ∨ n.high = 0))
    (h1 : n.right = Bt.nilP) (h2 : n.high = 4294967295) (hL : 0 < n.level) (hD : n.dead = false) (hv : v = .slice none 0 0) (hes : n.entries = []) :
    Calls Tryz.prog 63 #[.agg (nodeCells n v)] w fun e w' => e = .returned (.bool n.valid) ∧ Below w.heap.size w w' := by
  have HX : Hid (n.valid = if 0 < n.level then !n.dead && decide (Bt.lastKey n.entries = n.high) else if n.dead = true ∧ (0 < n.entries.length ∨ n.leftmost = true ∨ n.right = Bt.nilP) then false else decide (Bt.lastKey n.entries ≤ n.high) && decide (Bt.lastKey n.entries ≤ Bt.maxKey)) :=
    Lib.hid (by simp only [Bt.Node.valid]; rw [if_neg h, if_neg (by simp [Bt.maxHigh, h1, h2])])
  have He := Lib.hid he
  obtain ⟨g0, g1, gl⟩ := hg
  have hlen := he.len
  unfold maxLen at hlen
  unfold nodeCells
  have a1 : decide (n.level < 0) = false := by simp; omega
  have a2 : decide (8 < n.level) = false := by simp; omega
  have a3 : decide (5 < (n.entries.length : Int)) = false := by simp; omega
  have a4 : (n.high == 0) = false := by simp; omega
  have HR : Hid (Bt.rising n.entries = true) := Lib.hid (by cases hr : Bt.rising n.entries <;> simp_all)
  have hp : peq n.right.line n.right.gen 0 0 = true := by rw [peq_nil]; simp [h1]
  have hm : (n.high == 4294967295) = true := by simp [h2]
  have HN : Hid (n.right = Bt.nilP) := Lib.hid h1
  have aL : decide (0 < n.level) = true := by simp; omega
  have HL0 : Hid (0 < n.level) := Lib.hid hL
  have HD := Lib.hid hD
  subst hv
  have H0 := Lib.hid hes
  have l0 : n.entries.length = 0 := by rw [hes]; rfl
  have L0 := Lib.hid l0
  clear hes l0
  clear h h1 h2 he hL
  have ne := neq_ptr
  have eq := eql_ptr
  go_enter Tryz.func63, Tryz.ntmps63
  go_wp2_with fail
  go_at_call 98; refine (rising_any n.entries _ _ ?hpg).mono ?_; (case hpg => exact He.out.below (by (repeat (first | with_reducible exact Below.refl _ _ | with_reducible assumption | with_reducible refine Below.setCell ?_ (by first | (simp; done) | (simp; omega)) _ | with_reducible refine below_alloc ?_ _ | with_reducible refine below_drewN ?_ _ | with_reducible refine Below.drew ?_ | with_reducible refine below_step ?_ (by assumption))))); rintro e w1 ⟨rfl, hb⟩; rw [HR.out]; ((obtain ⟨hc1, hf1⟩ := below_rules hb; have hs1 := Below.size hb; try simp only [size_alloc, size_setCell, size_drew, size_drewN] at hs1 hc1 hf1); (try have z1_w_0 : w.heap.size < w1.heap.size := by omega))
  have gl1 : 0 < w1.heap.size := by omega
  go_wp2_with fail
  refine wp_region_held_drew (S := SteadyAll _) (by kernel_rfl) (SteadyAll.of (Below.refl _ _).drew) ?_
  intro hSt
  refine wpAnyH_seq (is := [0, 1, 2, 3, 4, 5, 6, 7, 8, 9, 10, 11, 12, 13, 14, 15, 16, 17, 18, 19]) (by kernel_rfl) (by kernel_rfl) (fun _ _ d _ _ h => by cases d <;> exact h) (by assumption) ?_
  iterate 20 (first | (refine TakeSeq.step (v := undef) rfl (Or.inr ⟨by rfl, rfl⟩) ?_; simp only [Act.put, List.setIfInBounds_toArray, List.set_cons_zero, List.set_cons_succ, List.getElem_toArray, List.getElem_cons_zero, List.getElem_cons_succ]) | (refine TakeSeq.step (v := ?_) rfl (Or.inl ⟨by rfl, ?_⟩) ?_; rotate_left 1; (focus (intro wq hSq; have hrd := hSq.rule; go_simp; with_reducible rfl)); simp only [Act.put, List.setIfInBounds_toArray, List.set_cons_zero, List.set_cons_succ, List.getElem_toArray, List.getElem_cons_zero, List.getElem_cons_succ]))
  refine TakeSeq.done ?_
  refine wpAnyH_done (by kernel_rfl) ?_ _
  go_wp2_with fail
  all_goals
    go_ret
    refine ⟨ret_bool ?_, by (repeat (first | with_reducible exact Below.refl _ _ | with_reducible assumption | with_reducible refine Below.setCell ?_ (by first | (simp; done) | (simp; omega)) _ | with_reducible refine below_alloc ?_ _ | with_reducible refine below_drewN ?_ _ | with_reducible refine Below.drew ?_ | with_reducible refine below_step ?_ (by assumption)))⟩
    rw [HX.out]
    go_light
    have hz := H0.out
    have hl := congrArg Bt.lastKey hz
    have hn := congrArg List.length hz
    simp only [Bt.lastKey, List.length_nil] at hl hn
    clear hz
    have hni := HN.out
    have hL := HL0.out
    have hD := HD.out
    have hL2 : ¬ (n.level ≤ 0) ∨ ¬ (0 < n.level) := by omega
    first | (rw [if_pos hL]) | (rw [if_neg (by omega)])
    rw [Bool.eq_iff_iff]
    first | (simp [hD, hl, hn, hni, Bt.maxKey, *]; done) | (simp [hD, hl, hn, hni, Bt.maxKey, *]; omega) | skip

set_option maxRecDepth 100000 in
set_option maxHeartbeats 1000000 in
theorem valid_d1r (n : Bt.Node) (v : Value) (w : World) (he : EntRow w v n.entries) (hg : NoneAt w) (h : ¬ (n.level < 0 ∨ 8 < n.level ∨ 5 < n.entries.length ∨ Bt.rising n.entries = false ∨ n.high = 0))
    (h1 : n.right = Bt.nilP) (h2 : n.high = 4294967295) (hL : n.level ≤ 0) (hD : n.dead = true) (hv : v = .slice none 0 0) (hes : n.entries = []) :
    Calls Tryz.prog 63 #[.agg (nodeCells n v)] w fun e w' => e = .returned (.bool n.valid) ∧ Below w.heap.size w w' := by
  have HX : Hid (n.valid = if 0 < n.level then !n.dead && decide (Bt.lastKey n.entries = n.high) else if n.dead = true ∧ (0 < n.entries.length ∨ n.leftmost = true ∨ n.right = Bt.nilP) then false else decide (Bt.lastKey n.entries ≤ n.high) && decide (Bt.lastKey n.entries ≤ Bt.maxKey)) :=
    Lib.hid (by simp only [Bt.Node.valid]; rw [if_neg h, if_neg (by simp [Bt.maxHigh, h1, h2])])
  have He := Lib.hid he
  obtain ⟨g0, g1, gl⟩ := hg
  have hlen := he.len
  unfold maxLen at hlen
  unfold nodeCells
  have a1 : decide (n.level < 0) = false := by simp; omega
  have a2 : decide (8 < n.level) = false := by simp; omega
  have a3 : decide (5 < (n.entries.length : Int)) = false := by simp; omega
  have a4 : (n.high == 0) = false := by simp; omega
  have HR : Hid (Bt.rising n.entries = true) := Lib.hid (by cases hr : Bt.rising n.entries <;> simp_all)
  have hp : peq n.right.line n.right.gen 0 0 = true := by rw [peq_nil]; simp [h1]
  have hm : (n.high == 4294967295) = true := by simp [h2]
  have HN : Hid (n.right = Bt.nilP) := Lib.hid h1
  have aL : decide (0 < n.level) = false := by simp; omega
  have HL0 : Hid (n.level ≤ 0) := Lib.hid hL
  have HD := Lib.hid hD
  subst hv
  have H0 := Lib.hid hes
  have l0 : n.entries.length = 0 := by rw [hes]; rfl
  have L0 := Lib.hid l0
  clear hes l0
  clear h h1 h2 he hL
  have ne := neq_ptr
  have eq := eql_ptr
  go_enter Tryz.func63, Tryz.ntmps63
  go_wp2_with fail
  go_at_call 98; refine (rising_any n.entries _ _ ?hpg).mono ?_; (case hpg => exact He.out.below (by (repeat (first | with_reducible exact Below.refl _ _ | with_reducible assumption | with_reducible refine Below.setCell ?_ (by first | (simp; done) | (simp; omega)) _ | with_reducible refine below_alloc ?_ _ | with_reducible refine below_drewN ?_ _ | with_reducible refine Below.drew ?_ | with_reducible refine below_step ?_ (by assumption))))); rintro e w1 ⟨rfl, hb⟩; rw [HR.out]; ((obtain ⟨hc1, hf1⟩ := below_rules hb; have hs1 := Below.size hb; try simp only [size_alloc, size_setCell, size_drew, size_drewN] at hs1 hc1 hf1); (try have z1_w_0 : w.heap.size < w1.heap.size := by omega))
  have gl1 : 0 < w1.heap.size := by omega
  go_wp2_with fail
  refine wp_region_held_drew (S := SteadyAll _) (by kernel_rfl) (SteadyAll.of (Below.refl _ _).drew) ?_
  intro hSt
  refine wpAnyH_seq (is := [0, 1, 2, 3, 4, 5, 6, 7, 8, 9, 10, 11, 12, 13, 14, 15, 16, 17, 18, 19]) (by kernel_rfl) (by kernel_rfl) (fun _ _ d _ _ h => by cases d <;> exact h) (by assumption) ?_
  iterate 20 (first | (refine TakeSeq.step (v := undef) rfl (Or.inr ⟨by rfl, rfl⟩) ?_; simp only [Act.put, List.setIfInBounds_toArray, List.set_cons_zero, List.set_cons_succ, List.getElem_toArray, List.getElem_cons_zero, List.getElem_cons_succ]) | (refine TakeSeq.step (v := ?_) rfl (Or.inl ⟨by rfl, ?_⟩) ?_; rotate_left 1; (focus (intro wq hSq; have hrd := hSq.rule; go_simp; with_reducible rfl)); simp only [Act.put, List.setIfInBounds_toArray, List.set_cons_zero, List.set_cons_succ, List.getElem_toArray, List.getElem_cons_zero, List.getElem_cons_succ]))
  refine TakeSeq.done ?_
  refine wpAnyH_done (by kernel_rfl) ?_ _
  go_wp2_with fail
  all_goals
    go_ret
    refine ⟨ret_bool ?_, by (repeat (first | with_reducible exact Below.refl _ _ | with_reducible assumption | with_reducible refine Below.setCell ?_ (by first | (simp; done) | (simp; omega)) _ | with_reducible refine below_alloc ?_ _ | with_reducible refine below_drewN ?_ _ | with_reducible refine Below.drew ?_ | with_reducible refine below_step ?_ (by assumption)))⟩
    rw [HX.out]
    go_light
    have hz := H0.out
    have hl := congrArg Bt.lastKey hz
    have hn := congrArg List.length hz
    simp only [Bt.lastKey, List.length_nil] at hl hn
    clear hz
    have hni := HN.out
    have hL := HL0.out
    have hD := HD.out
    have hL2 : ¬ (n.level ≤ 0) ∨ ¬ (0 < n.level) := by omega
    first | (rw [if_pos hL]) | (rw [if_neg (by omega)])
    rw [Bool.eq_iff_iff]
    first | (simp [hD, hl, hn, hni, Bt.maxKey, *]; done) | (simp [hD, hl, hn, hni, Bt.maxKey, *]; omega) | skip

set_option maxRecDepth 100000 in
set_option maxHeartbeats 1000000 in
theorem valid_d1s (n : Bt.Node) (v : Value) (w : World) (he : EntRow w v n.entries) (hg : NoneAt w) (h : ¬ (n.level < 0 ∨ 8 < n.level ∨ 5 < n.entries.length ∨ Bt.rising n.entries = false ∨ n.high = 0))
    (h1 : n.right = Bt.nilP) (h2 : n.high = 4294967295) (hL : n.level ≤ 0) (hD : n.dead = false) (hv : v = .slice none 0 0) (hes : n.entries = []) :
    Calls Tryz.prog 63 #[.agg (nodeCells n v)] w fun e w' => e = .returned (.bool n.valid) ∧ Below w.heap.size w w' := by
  have HX : Hid (n.valid = if 0 < n.level then !n.dead && decide (Bt.lastKey n.entries = n.high) else if n.dead = true ∧ (0 < n.entries.length ∨ n.leftmost = true ∨ n.right = Bt.nilP) then false else decide (Bt.lastKey n.entries ≤ n.high) && decide (Bt.lastKey n.entries ≤ Bt.maxKey)) :=
    Lib.hid (by simp only [Bt.Node.valid]; rw [if_neg h, if_neg (by simp [Bt.maxHigh, h1, h2])])
  have He := Lib.hid he
  obtain ⟨g0, g1, gl⟩ := hg
  have hlen := he.len
  unfold maxLen at hlen
  unfold nodeCells
  have a1 : decide (n.level < 0) = false := by simp; omega
  have a2 : decide (8 < n.level) = false := by simp; omega
  have a3 : decide (5 < (n.entries.length : Int)) = false := by simp; omega
  have a4 : (n.high == 0) = false := by simp; omega
  have HR : Hid (Bt.rising n.entries = true) := Lib.hid (by cases hr : Bt.rising n.entries <;> simp_all)
  have hp : peq n.right.line n.right.gen 0 0 = true := by rw [peq_nil]; simp [h1]
  have hm : (n.high == 4294967295) = true := by simp [h2]
  have HN : Hid (n.right = Bt.nilP) := Lib.hid h1
  have aL : decide (0 < n.level) = false := by simp; omega
  have HL0 : Hid (n.level ≤ 0) := Lib.hid hL
  have HD := Lib.hid hD
  subst hv
  have H0 := Lib.hid hes
  have l0 : n.entries.length = 0 := by rw [hes]; rfl
  have L0 := Lib.hid l0
  clear hes l0
  clear h h1 h2 he hL
  have ne := neq_ptr
  have eq := eql_ptr
  go_enter Tryz.func63, Tryz.ntmps63
  go_wp2_with fail
  go_at_call 98; refine (rising_any n.entries _ _ ?hpg).mono ?_; (case hpg => exact He.out.below (by (repeat (first | with_reducible exact Below.refl _ _ | with_reducible assumption | with_reducible refine Below.setCell ?_ (by first | (simp; done) | (simp; omega)) _ | with_reducible refine below_alloc ?_ _ | with_reducible refine below_drewN ?_ _ | with_reducible refine Below.drew ?_ | with_reducible refine below_step ?_ (by assumption))))); rintro e w1 ⟨rfl, hb⟩; rw [HR.out]; ((obtain ⟨hc1, hf1⟩ := below_rules hb; have hs1 := Below.size hb; try simp only [size_alloc, size_setCell, size_drew, size_drewN] at hs1 hc1 hf1); (try have z1_w_0 : w.heap.size < w1.heap.size := by omega))
  have gl1 : 0 < w1.heap.size := by omega
  go_wp2_with fail
  refine wp_region_held_drew (S := SteadyAll _) (by kernel_rfl) (SteadyAll.of (Below.refl _ _).drew) ?_
  intro hSt
  refine wpAnyH_seq (is := [0, 1, 2, 3, 4, 5, 6, 7, 8, 9, 10, 11, 12, 13, 14, 15, 16, 17, 18, 19]) (by kernel_rfl) (by kernel_rfl) (fun _ _ d _ _ h => by cases d <;> exact h) (by assumption) ?_
  iterate 20 (first | (refine TakeSeq.step (v := undef) rfl (Or.inr ⟨by rfl, rfl⟩) ?_; simp only [Act.put, List.setIfInBounds_toArray, List.set_cons_zero, List.set_cons_succ, List.getElem_toArray, List.getElem_cons_zero, List.getElem_cons_succ]) | (refine TakeSeq.step (v := ?_) rfl (Or.inl ⟨by rfl, ?_⟩) ?_; rotate_left 1; (focus (intro wq hSq; have hrd := hSq.rule; go_simp; with_reducible rfl)); simp only [Act.put, List.setIfInBounds_toArray, List.set_cons_zero, List.set_cons_succ, List.getElem_toArray, List.getElem_cons_zero, List.getElem_cons_succ]))
  refine TakeSeq.done ?_
  refine wpAnyH_done (by kernel_rfl) ?_ _
  go_wp2_with fail
  all_goals
    go_ret
    refine ⟨ret_bool ?_, by (repeat (first | with_reducible exact Below.refl _ _ | with_reducible assumption | with_reducible refine Below.setCell ?_ (by first | (simp; done) | (simp; omega)) _ | with_reducible refine below_alloc ?_ _ | with_reducible refine below_drewN ?_ _ | with_reducible refine Below.drew ?_ | with_reducible refine below_step ?_ (by assumption)))⟩
    rw [HX.out]
    go_light
    have hz := H0.out
    have hl := congrArg Bt.lastKey hz
    have hn := congrArg List.length hz
    simp only [Bt.lastKey, List.length_nil] at hl hn
    clear hz
    have hni := HN.out
    have hL := HL0.out
    have hD := HD.out
    have hL2 : ¬ (n.level ≤ 0) ∨ ¬ (0 < n.level) := by omega
    first | (rw [if_pos hL]) | (rw [if_neg (by omega)])
    rw [Bool.eq_iff_iff]
    first | (simp [hD, hl, hn, hni, Bt.maxKey, *]; done) | (simp [hD, hl, hn, hni, Bt.maxKey, *]; omega) | skip

set_option maxRecDepth 100000 in
set_option maxHeartbeats 1000000 in
theorem valid_d2p (n : Bt.Node) (v : Value) (w : World) (he : EntRow w v n.entries) (hg : NoneAt w) (h : ¬ (n.level < 0 ∨ 8 < n.level ∨ 5 < n.entries.length ∨ Bt.rising n.entries = false ∨ n.high = 0))
    (h1 : n.right = Bt.nilP) (h2 : n.high = 4294967295) (hL : 0 < n.level) (hD : n.dead = true) (b off cap : Nat) (hv : v = .slice (some ⟨b, off, none⟩) n.entries.length cap) (hes : n.entries = []) :
    Calls Tryz.prog 63 #[.agg (nodeCells n v)] w fun e w' => e = .returned (.bool n.valid) ∧ Below w.heap.size w w' := by
  have HX : Hid (n.valid = if 0 < n.level then !n.dead && decide (Bt.lastKey n.entries = n.high) else if n.dead = true ∧ (0 < n.entries.length ∨ n.leftmost = true ∨ n.right = Bt.nilP) then false else decide (Bt.lastKey n.entries ≤ n.high) && decide (Bt.lastKey n.entries ≤ Bt.maxKey)) :=
    Lib.hid (by simp only [Bt.Node.valid]; rw [if_neg h, if_neg (by simp [Bt.maxHigh, h1, h2])])
  have He := Lib.hid he
  obtain ⟨g0, g1, gl⟩ := hg
  have hlen := he.len
  unfold maxLen at hlen
  unfold nodeCells
  have a1 : decide (n.level < 0) = false := by simp; omega
  have a2 : decide (8 < n.level) = false := by simp; omega
  have a3 : decide (5 < (n.entries.length : Int)) = false := by simp; omega
  have a4 : (n.high == 0) = false := by simp; omega
  have HR : Hid (Bt.rising n.entries = true) := Lib.hid (by cases hr : Bt.rising n.entries <;> simp_all)
  have hp : peq n.right.line n.right.gen 0 0 = true := by rw [peq_nil]; simp [h1]
  have hm : (n.high == 4294967295) = true := by simp [h2]
  have HN : Hid (n.right = Bt.nilP) := Lib.hid h1
  have aL : decide (0 < n.level) = true := by simp; omega
  have HL0 : Hid (0 < n.level) := Lib.hid hL
  have HD := Lib.hid hD
  rw [hes] at hv
  subst hv
  have H0 := Lib.hid hes
  have l0 : n.entries.length = 0 := by rw [hes]; rfl
  have L0 := Lib.hid l0
  clear hes l0
  clear h h1 h2 he hL
  have ne := neq_ptr
  have eq := eql_ptr
  go_enter Tryz.func63, Tryz.ntmps63
  go_wp2_with fail
  go_at_call 98; refine (rising_any n.entries _ _ ?hpg).mono ?_; (case hpg => exact He.out.below (by (repeat (first | with_reducible exact Below.refl _ _ | with_reducible assumption | with_reducible refine Below.setCell ?_ (by first | (simp; done) | (simp; omega)) _ | with_reducible refine below_alloc ?_ _ | with_reducible refine below_drewN ?_ _ | with_reducible refine Below.drew ?_ | with_reducible refine below_step ?_ (by assumption))))); rintro e w1 ⟨rfl, hb⟩; rw [HR.out]; ((obtain ⟨hc1, hf1⟩ := below_rules hb; have hs1 := Below.size hb; try simp only [size_alloc, size_setCell, size_drew, size_drewN] at hs1 hc1 hf1); (try have z1_w_0 : w.heap.size < w1.heap.size := by omega))
  have gl1 : 0 < w1.heap.size := by omega
  go_wp2_with fail
  refine wp_region_held_drew (S := SteadyAll _) (by kernel_rfl) (SteadyAll.of (Below.refl _ _).drew) ?_
  intro hSt
  refine wpAnyH_seq (is := [0, 1, 2, 3, 4, 5, 6, 7, 8, 9, 10, 11, 12, 13, 14, 15, 16, 17, 18, 19]) (by kernel_rfl) (by kernel_rfl) (fun _ _ d _ _ h => by cases d <;> exact h) (by assumption) ?_
  iterate 20 (first | (refine TakeSeq.step (v := undef) rfl (Or.inr ⟨by rfl, rfl⟩) ?_; simp only [Act.put, List.setIfInBounds_toArray, List.set_cons_zero, List.set_cons_succ, List.getElem_toArray, List.getElem_cons_zero, List.getElem_cons_succ]) | (refine TakeSeq.step (v := ?_) rfl (Or.inl ⟨by rfl, ?_⟩) ?_; rotate_left 1; (focus (intro wq hSq; have hrd := hSq.rule; go_simp; with_reducible rfl)); simp only [Act.put, List.setIfInBounds_toArray, List.set_cons_zero, List.set_cons_succ, List.getElem_toArray, List.getElem_cons_zero, List.getElem_cons_succ]))
  refine TakeSeq.done ?_
  refine wpAnyH_done (by kernel_rfl) ?_ _
  go_wp2_with fail
  all_goals
    go_ret
    refine ⟨ret_bool ?_, by (repeat (first | with_reducible exact Below.refl _ _ | with_reducible assumption | with_reducible refine Below.setCell ?_ (by first | (simp; done) | (simp; omega)) _ | with_reducible refine below_alloc ?_ _ | with_reducible refine below_drewN ?_ _ | with_reducible refine Below.drew ?_ | with_reducible refine below_step ?_ (by assumption)))⟩
    rw [HX.out]
    go_light
    have hz := H0.out
    have hl := congrArg Bt.lastKey hz
    have hn := congrArg List.length hz
    simp only [Bt.lastKey, List.length_nil] at hl hn
    clear hz
    have hni := HN.out
    have hL := HL0.out
    have hD := HD.out
    have hL2 : ¬ (n.level ≤ 0) ∨ ¬ (0 < n.level) := by omega
    first | (rw [if_pos hL]) | (rw [if_neg (by omega)])
    rw [Bool.eq_iff_iff]
    first | (simp [hD, hl, hn, hni, Bt.maxKey, *]; done) | (simp [hD, hl, hn, hni, Bt.maxKey, *]; omega) | skip

set_option maxRecDepth 100000 in
set_option maxHeartbeats 1000000 in
theorem valid_d2q (n : Bt.Node) (v : Value) (w : World) (he : EntRow w v n.entries) (hg : NoneAt w) (h : ¬ (n.level < 0 ∨ 8 < n.level ∨ 5 < n.entries.length ∨ Bt.rising n.entries = false ∨ n.high = 0))
    (h1 : n.right = Bt.nilP) (h2 : n.high = 4294967295) (hL : 0 < n.level) (hD : n.dead = false) (b off cap : Nat) (hv : v = .slice (some ⟨b, off, none⟩) n.entries.length cap) (hes : n.entries = []) :
    Calls Tryz.prog 63 #[.agg (nodeCells n v)] w fun e w' => e = .returned (.bool n.valid) ∧ Below w.heap.size w w' := by
  have HX : Hid (n.valid = if 0 < n.level then !n.dead && decide (Bt.lastKey n.entries = n.high) else if n.dead = true ∧ (0 < n.entries.length ∨ n.leftmost = true ∨ n.right = Bt.nilP) then false else decide (Bt.lastKey n.entries ≤ n.high) && decide (Bt.lastKey n.entries ≤ Bt.maxKey)) :=
    Lib.hid (by simp only [Bt.Node.valid]; rw [if_neg h, if_neg (by simp [Bt.maxHigh, h1, h2])])
  have He := Lib.hid he
  obtain ⟨g0, g1, gl⟩ := hg
  have hlen := he.len
  unfold maxLen at hlen
  unfold nodeCells
  have a1 : decide (n.level < 0) = false := by simp; omega
  have a2 : decide (8 < n.level) = false := by simp; omega
  have a3 : decide (5 < (n.entries.length : Int)) = false := by simp; omega
  have a4 : (n.high == 0) = false := by simp; omega
  have HR : Hid (Bt.rising n.entries = true) := Lib.hid (by cases hr : Bt.rising n.entries <;> simp_all)
  have hp : peq n.right.line n.right.gen 0 0 = true := by rw [peq_nil]; simp [h1]
  have hm : (n.high == 4294967295) = true := by simp [h2]
  have HN : Hid (n.right = Bt.nilP) := Lib.hid h1
  have aL : decide (0 < n.level) = true := by simp; omega
  have HL0 : Hid (0 < n.level) := Lib.hid hL
  have HD := Lib.hid hD
  rw [hes] at hv
  subst hv
  have H0 := Lib.hid hes
  have l0 : n.entries.length = 0 := by rw [hes]; rfl
  have L0 := Lib.hid l0
  clear hes l0
  clear h h1 h2 he hL
  have ne := neq_ptr
  have eq := eql_ptr
  go_enter Tryz.func63, Tryz.ntmps63
  go_wp2_with fail
  go_at_call 98; refine (rising_any n.entries _ _ ?hpg).mono ?_; (case hpg => exact He.out.below (by (repeat (first | with_reducible exact Below.refl _ _ | with_reducible assumption | with_reducible refine Below.setCell ?_ (by first | (simp; done) | (simp; omega)) _ | with_reducible refine below_alloc ?_ _ | with_reducible refine below_drewN ?_ _ | with_reducible refine Below.drew ?_ | with_reducible refine below_step ?_ (by assumption))))); rintro e w1 ⟨rfl, hb⟩; rw [HR.out]; ((obtain ⟨hc1, hf1⟩ := below_rules hb; have hs1 := Below.size hb; try simp only [size_alloc, size_setCell, size_drew, size_drewN] at hs1 hc1 hf1); (try have z1_w_0 : w.heap.size < w1.heap.size := by omega))
  have gl1 : 0 < w1.heap.size := by omega
  go_wp2_with fail
  refine wp_region_held_drew (S := SteadyAll _) (by kernel_rfl) (SteadyAll.of (Below.refl _ _).drew) ?_
  intro hSt
  refine wpAnyH_seq (is := [0, 1, 2, 3, 4, 5, 6, 7, 8, 9, 10, 11, 12, 13, 14, 15, 16, 17, 18, 19]) (by kernel_rfl) (by kernel_rfl) (fun _ _ d _ _ h => by cases d <;> exact h) (by assumption) ?_
  iterate 20 (first | (refine TakeSeq.step (v := undef) rfl (Or.inr ⟨by rfl, rfl⟩) ?_; simp only [Act.put, List.setIfInBounds_toArray, List.set_cons_zero, List.set_cons_succ, List.getElem_toArray, List.getElem_cons_zero, List.getElem_cons_succ]) | (refine TakeSeq.step (v := ?_) rfl (Or.inl ⟨by rfl, ?_⟩) ?_; rotate_left 1; (focus (intro wq hSq; have hrd := hSq.rule; go_simp; with_reducible rfl)); simp only [Act.put, List.setIfInBounds_toArray, List.set_cons_zero, List.set_cons_succ, List.getElem_toArray, List.getElem_cons_zero, List.getElem_cons_succ]))
  refine TakeSeq.done ?_
  refine wpAnyH_done (by kernel_rfl) ?_ _
  go_wp2_with fail
  all_goals
    go_ret
    refine ⟨ret_bool ?_, by (repeat (first | with_reducible exact Below.refl _ _ | with_reducible assumption | with_reducible refine Below.setCell ?_ (by first | (simp; done) | (simp; omega)) _ | with_reducible refine below_alloc ?_ _ | with_reducible refine below_drewN ?_ _ | with_reducible refine Below.drew ?_ | with_reducible refine below_step ?_ (by assumption)))⟩
    rw [HX.out]
    go_light
    have hz := H0.out
    have hl := congrArg Bt.lastKey hz
    have hn := congrArg List.length hz
    simp only [Bt.lastKey, List.length_nil] at hl hn
    clear hz
    have hni := HN.out
    have hL := HL0.out
    have hD := HD.out
    have hL2 : ¬ (n.level ≤ 0) ∨ ¬ (0 < n.level) := by omega
    first | (rw [if_pos hL]) | (rw [if_neg (by omega)])
    rw [Bool.eq_iff_iff]
    first | (simp [hD, hl, hn, hni, Bt.maxKey, *]; done) | (simp [hD, hl, hn, hni, Bt.maxKey, *]; omega) | skip

set_option maxRecDepth 100000 in
set_option maxHeartbeats 1000000 in
theorem valid_d2r (n : Bt.Node) (v : Value) (w : World) (he : EntRow w v n.entries) (hg : NoneAt w) (h : ¬ (n.level < 0 ∨ 8 < n.level ∨ 5 < n.entries.length ∨ Bt.rising n.entries = false ∨ n.high = 0))
    (h1 : n.right = Bt.nilP) (h2 : n.high = 4294967295) (hL : n.level ≤ 0) (hD : n.dead = true) (b off cap : Nat) (hv : v = .slice (some ⟨b, off, none⟩) n.entries.length cap) (hes : n.entries = []) :
    Calls Tryz.prog 63 #[.agg (nodeCells n v)] w fun e w' => e = .returned (.bool n.valid) ∧ Below w.heap.size w w' := by
  have HX : Hid (n.valid = if 0 < n.level then !n.dead && decide (Bt.lastKey n.entries = n.high) else if n.dead = true ∧ (0 < n.entries.length ∨ n.leftmost = true ∨ n.right = Bt.nilP) then false else decide (Bt.lastKey n.entries ≤ n.high) && decide (Bt.lastKey n.entries ≤ Bt.maxKey)) :=
    Lib.hid (by simp only [Bt.Node.valid]; rw [if_neg h, if_neg (by simp [Bt.maxHigh, h1, h2])])
  have He := Lib.hid he
  obtain ⟨g0, g1, gl⟩ := hg
  have hlen := he.len
  unfold maxLen at hlen
  unfold nodeCells
  have a1 : decide (n.level < 0) = false := by simp; omega
  have a2 : decide (8 < n.level) = false := by simp; omega
  have a3 : decide (5 < (n.entries.length : Int)) = false := by simp; omega
  have a4 : (n.high == 0) = false := by simp; omega
  have HR : Hid (Bt.rising n.entries = true) := Lib.hid (by cases hr : Bt.rising n.entries <;> simp_all)
  have hp : peq n.right.line n.right.gen 0 0 = true := by rw [peq_nil]; simp [h1]
  have hm : (n.high == 4294967295) = true := by simp [h2]
  have HN : Hid (n.right = Bt.nilP) := Lib.hid h1
  have aL : decide (0 < n.level) = false := by simp; omega
  have HL0 : Hid (n.level ≤ 0) := Lib.hid hL
  have HD := Lib.hid hD
  rw [hes] at hv
  subst hv
  have H0 := Lib.hid hes
  have l0 : n.entries.length = 0 := by rw [hes]; rfl
  have L0 := Lib.hid l0
  clear hes l0
  clear h h1 h2 he hL
  have ne := neq_ptr
  have eq := eql_ptr
  go_enter Tryz.func63, Tryz.ntmps63
  go_wp2_with fail
  go_at_call 98; refine (rising_any n.entries _ _ ?hpg).mono ?_; (case hpg => exact He.out.below (by (repeat (first | with_reducible exact Below.refl _ _ | with_reducible assumption | with_reducible refine Below.setCell ?_ (by first | (simp; done) | (simp; omega)) _ | with_reducible refine below_alloc ?_ _ | with_reducible refine below_drewN ?_ _ | with_reducible refine Below.drew ?_ | with_reducible refine below_step ?_ (by assumption))))); rintro e w1 ⟨rfl, hb⟩; rw [HR.out]; ((obtain ⟨hc1, hf1⟩ := below_rules hb; have hs1 := Below.size hb; try simp only [size_alloc, size_setCell, size_drew, size_drewN] at hs1 hc1 hf1); (try have z1_w_0 : w.heap.size < w1.heap.size := by omega))
  have gl1 : 0 < w1.heap.size := by omega
  go_wp2_with fail
  refine wp_region_held_drew (S := SteadyAll _) (by kernel_rfl) (SteadyAll.of (Below.refl _ _).drew) ?_
  intro hSt
  refine wpAnyH_seq (is := [0, 1, 2, 3, 4, 5, 6, 7, 8, 9, 10, 11, 12, 13, 14, 15, 16, 17, 18, 19]) (by kernel_rfl) (by kernel_rfl) (fun _ _ d _ _ h => by cases d <;> exact h) (by assumption) ?_
  iterate 20 (first | (refine TakeSeq.step (v := undef) rfl (Or.inr ⟨by rfl, rfl⟩) ?_; simp only [Act.put, List.setIfInBounds_toArray, List.set_cons_zero, List.set_cons_succ, List.getElem_toArray, List.getElem_cons_zero, List.getElem_cons_succ]) | (refine TakeSeq.step (v := ?_) rfl (Or.inl ⟨by rfl, ?_⟩) ?_; rotate_left 1; (focus (intro wq hSq; have hrd := hSq.rule; go_simp; with_reducible rfl)); simp only [Act.put, List.setIfInBounds_toArray, List.set_cons_zero, List.set_cons_succ, List.getElem_toArray, List.getElem_cons_zero, List.getElem_cons_succ]))
  refine TakeSeq.done ?_
  refine wpAnyH_done (by kernel_rfl) ?_ _
  go_wp2_with fail
  all_goals
    go_ret
    refine ⟨ret_bool ?_, by (repeat (first | with_reducible exact Below.refl _ _ | with_reducible assumption | with_reducible refine Below.setCell ?_ (by first | (simp; done) | (simp; omega)) _ | with_reducible refine below_alloc ?_ _ | with_reducible refine below_drewN ?_ _ | with_reducible refine Below.drew ?_ | with_reducible refine below_step ?_ (by assumption)))⟩
    rw [HX.out]
    go_light
    have hz := H0.out
    have hl := congrArg Bt.lastKey hz
    have hn := congrArg List.length hz
    simp only [Bt.lastKey, List.length_nil] at hl hn
    clear hz
    have hni := HN.out
    have hL := HL0.out
    have hD := HD.out
    have hL2 : ¬ (n.level ≤ 0) ∨ ¬ (0 < n.level) := by omega
    first | (rw [if_pos hL]) | (rw [if_neg (by omega)])
    rw [Bool.eq_iff_iff]
    first | (simp [hD, hl, hn, hni, Bt.maxKey, *]; done) | (simp [hD, hl, hn, hni, Bt.maxKey, *]; omega) | skip

set_option maxRecDepth 100000 in
set_option maxHeartbeats 1000000 in
theorem valid_d2s (n : Bt.Node) (v : Value) (w : World) (he : EntRow w v n.entries) (hg : NoneAt w) (h : ¬ (n.level < 0 ∨ 8 < n.level ∨ 5 < n.entries.length ∨ Bt.rising n.entries = false ∨ n.high = 0))
    (h1 : n.right = Bt.nilP) (h2 : n.high = 4294967295) (hL : n.level ≤ 0) (hD : n.dead = false) (b off cap : Nat) (hv : v = .slice (some ⟨b, off, none⟩) n.entries.length cap) (hes : n.entries = []) :
    Calls Tryz.prog 63 #[.agg (nodeCells n v)] w fun e w' => e = .returned (.bool n.valid) ∧ Below w.heap.size w w' := by
  have HX : Hid (n.valid = if 0 < n.level then !n.dead && decide (Bt.lastKey n.entries = n.high) else if n.dead = true ∧ (0 < n.entries.length ∨ n.leftmost = true ∨ n.right = Bt.nilP) then false else decide (Bt.lastKey n.entries ≤ n.high) && decide (Bt.lastKey n.entries ≤ Bt.maxKey)) :=
    Lib.hid (by simp only [Bt.Node.valid]; rw [if_neg h, if_neg (by simp [Bt.maxHigh, h1, h2])])
  have He := Lib.hid he
  obtain ⟨g0, g1, gl⟩ := hg
  have hlen := he.len
  unfold maxLen at hlen
  unfold nodeCells
  have a1 : decide (n.level < 0) = false := by simp; omega
  have a2 : decide (8 < n.level) = false := by simp; omega
  have a3 : decide (5 < (n.entries.length : Int)) = false := by simp; omega
  have a4 : (n.high == 0) = false := by simp; omega
  have HR : Hid (Bt.rising n.entries = true) := Lib.hid (by cases hr : Bt.rising n.entries <;> simp_all)
  have hp : peq n.right.line n.right.gen 0 0 = true := by rw [peq_nil]; simp [h1]
  have hm : (n.high == 4294967295) = true := by simp [h2]
  have HN : Hid (n.right = Bt.nilP) := Lib.hid h1
  have aL : decide (0 < n.level) = false := by simp; omega
  have HL0 : Hid (n.level ≤ 0) := Lib.hid hL
  have HD := Lib.hid hD
  rw [hes] at hv
  subst hv
  have H0 := Lib.hid hes
  have l0 : n.entries.length = 0 := by rw [hes]; rfl
  have L0 := Lib.hid l0
  clear hes l0
  clear h h1 h2 he hL
  have ne := neq_ptr
  have eq := eql_ptr
  go_enter Tryz.func63, Tryz.ntmps63
  go_wp2_with fail
  go_at_call 98; refine (rising_any n.entries _ _ ?hpg).mono ?_; (case hpg => exact He.out.below (by (repeat (first | with_reducible exact Below.refl _ _ | with_reducible assumption | with_reducible refine Below.setCell ?_ (by first | (simp; done) | (simp; omega)) _ | with_reducible refine below_alloc ?_ _ | with_reducible refine below_drewN ?_ _ | with_reducible refine Below.drew ?_ | with_reducible refine below_step ?_ (by assumption))))); rintro e w1 ⟨rfl, hb⟩; rw [HR.out]; ((obtain ⟨hc1, hf1⟩ := below_rules hb; have hs1 := Below.size hb; try simp only [size_alloc, size_setCell, size_drew, size_drewN] at hs1 hc1 hf1); (try have z1_w_0 : w.heap.size < w1.heap.size := by omega))
  have gl1 : 0 < w1.heap.size := by omega
  go_wp2_with fail
  refine wp_region_held_drew (S := SteadyAll _) (by kernel_rfl) (SteadyAll.of (Below.refl _ _).drew) ?_
  intro hSt
  refine wpAnyH_seq (is := [0, 1, 2, 3, 4, 5, 6, 7, 8, 9, 10, 11, 12, 13, 14, 15, 16, 17, 18, 19]) (by kernel_rfl) (by kernel_rfl) (fun _ _ d _ _ h => by cases d <;> exact h) (by assumption) ?_
  iterate 20 (first | (refine TakeSeq.step (v := undef) rfl (Or.inr ⟨by rfl, rfl⟩) ?_; simp only [Act.put, List.setIfInBounds_toArray, List.set_cons_zero, List.set_cons_succ, List.getElem_toArray, List.getElem_cons_zero, List.getElem_cons_succ]) | (refine TakeSeq.step (v := ?_) rfl (Or.inl ⟨by rfl, ?_⟩) ?_; rotate_left 1; (focus (intro wq hSq; have hrd := hSq.rule; go_simp; with_reducible rfl)); simp only [Act.put, List.setIfInBounds_toArray, List.set_cons_zero, List.set_cons_succ, List.getElem_toArray, List.getElem_cons_zero, List.getElem_cons_succ]))
  refine TakeSeq.done ?_
  refine wpAnyH_done (by kernel_rfl) ?_ _
  go_wp2_with fail
  all_goals
    go_ret
    refine ⟨ret_bool ?_, by (repeat (first | with_reducible exact Below.refl _ _ | with_reducible assumption | with_reducible refine Below.setCell ?_ (by first | (simp; done) | (simp; omega)) _ | with_reducible refine below_alloc ?_ _ | with_reducible refine below_drewN ?_ _ | with_reducible refine Below.drew ?_ | with_reducible refine below_step ?_ (by assumption)))⟩
    rw [HX.out]
    go_light
    have hz := H0.out
    have hl := congrArg Bt.lastKey hz
    have hn := congrArg List.length hz
    simp only [Bt.lastKey, List.length_nil] at hl hn
    clear hz
    have hni := HN.out
    have hL := HL0.out
    have hD := HD.out
    have hL2 : ¬ (n.level ≤ 0) ∨ ¬ (0 < n.level) := by omega
    first | (rw [if_pos hL]) | (rw [if_neg (by omega)])
    rw [Bool.eq_iff_iff]
    first | (simp [hD, hl, hn, hni, Bt.maxKey, *]; done) | (simp [hD, hl, hn, hni, Bt.maxKey, *]; omega) | skip

set_option maxRecDepth 100000 in
set_option maxHeartbeats 1000000 in
theorem valid_d3p (n : Bt.Node) (v : Value) (w : World) (he : EntRow w v n.entries) (hg : NoneAt w) (h : ¬ (n.level < 0 ∨ 8 < n.level ∨ 5 < n.entries.length ∨ Bt.rising n.entries = false ∨ n.high = 0))
    (h1 : n.right = Bt.nilP) (h2 : n.high = 4294967295) (hL : 0 < n.level) (hD : n.dead = true) (b off cap : Nat) (hv : v = .slice (some ⟨b, off, none⟩) n.entries.length cap) (hlt : b < w.heap.size) (hes : 0 < n.entries.length) (hcells : ∀ (i : Nat) (p : Bt.Entry), n.entries[i]? = some p → ∀ (j : Nat) (u : Value), p.cells[j]? = some u → w.cell? ⟨b, off + i * 3 + j, none⟩ = some u) :
    Calls Tryz.prog 63 #[.agg (nodeCells n v)] w fun e w' => e = .returned (.bool n.valid) ∧ Below w.heap.size w w' := by
  have HX : Hid (n.valid = if 0 < n.level then !n.dead && decide (Bt.lastKey n.entries = n.high) else if n.dead = true ∧ (0 < n.entries.length ∨ n.leftmost = true ∨ n.right = Bt.nilP) then false else decide (Bt.lastKey n.entries ≤ n.high) && decide (Bt.lastKey n.entries ≤ Bt.maxKey)) :=
    Lib.hid (by simp only [Bt.Node.valid]; rw [if_neg h, if_neg (by simp [Bt.maxHigh, h1, h2])])
  have He := Lib.hid he
  obtain ⟨g0, g1, gl⟩ := hg
  have hlen := he.len
  unfold maxLen at hlen
  unfold nodeCells
  have a1 : decide (n.level < 0) = false := by simp; omega
  have a2 : decide (8 < n.level) = false := by simp; omega
  have a3 : decide (5 < (n.entries.length : Int)) = false := by simp; omega
  have a4 : (n.high == 0) = false := by simp; omega
  have HR : Hid (Bt.rising n.entries = true) := Lib.hid (by cases hr : Bt.rising n.entries <;> simp_all)
  have hp : peq n.right.line n.right.gen 0 0 = true := by rw [peq_nil]; simp [h1]
  have hm : (n.high == 4294967295) = true := by simp [h2]
  have HN : Hid (n.right = Bt.nilP) := Lib.hid h1
  have aL : decide (0 < n.level) = true := by simp; omega
  have HL0 : Hid (0 < n.level) := Lib.hid hL
  have HD := Lib.hid hD
  subst hv
  obtain ⟨k, hk⟩ : ∃ k, k + 1 = n.entries.length := ⟨n.entries.length - 1, by omega⟩
  have hk2 : k < n.entries.length := by omega
  obtain ⟨c0, c1, c2⟩ := three hcells hk2
  have hix : (n.entries.length : Int) - 1 = (k : Int) := by omega
  have HL : Hid (Bt.lastKey n.entries = n.entries[k].key) := Lib.hid (lastKey_get n.entries k hk)
  have hpos : decide (0 < (n.entries.length : Int)) = true := by simp; omega
  have hk3 : (k : Int) < (n.entries.length : Int) := by omega
  clear hcells c1 c2
  generalize hpk : n.entries[k].key = pk at c0 HL
  clear hpk hk
  clear h h1 h2 he hL
  have ne := neq_ptr
  have eq := eql_ptr
  go_enter Tryz.func63, Tryz.ntmps63
  go_wp2_with fail
  go_at_call 98; refine (rising_any n.entries _ _ ?hpg).mono ?_; (case hpg => exact He.out.below (by (repeat (first | with_reducible exact Below.refl _ _ | with_reducible assumption | with_reducible refine Below.setCell ?_ (by first | (simp; done) | (simp; omega)) _ | with_reducible refine below_alloc ?_ _ | with_reducible refine below_drewN ?_ _ | with_reducible refine Below.drew ?_ | with_reducible refine below_step ?_ (by assumption))))); rintro e w1 ⟨rfl, hb⟩; rw [HR.out]; ((obtain ⟨hc1, hf1⟩ := below_rules hb; have hs1 := Below.size hb; try simp only [size_alloc, size_setCell, size_drew, size_drewN] at hs1 hc1 hf1); (try have z1_w_0 : w.heap.size < w1.heap.size := by omega))
  have hlt1 : b < w1.heap.size := by omega
  have gl1 : 0 < w1.heap.size := by omega
  go_wp2_with fail
  refine wp_region_held_drew (S := SteadyAll _) (by kernel_rfl) (SteadyAll.of (Below.refl _ _).drew) ?_
  intro hSt
  refine wpAnyH_seq (is := [0, 1, 2, 3, 4, 5, 6, 7, 8, 9, 10, 11, 12, 13, 14, 15, 16, 17, 18, 19]) (by kernel_rfl) (by kernel_rfl) (fun _ _ d _ _ h => by cases d <;> exact h) (by assumption) ?_
  iterate 20 (first | (refine TakeSeq.step (v := undef) rfl (Or.inr ⟨by rfl, rfl⟩) ?_; simp only [Act.put, List.setIfInBounds_toArray, List.set_cons_zero, List.set_cons_succ, List.getElem_toArray, List.getElem_cons_zero, List.getElem_cons_succ]) | (refine TakeSeq.step (v := ?_) rfl (Or.inl ⟨by rfl, ?_⟩) ?_; rotate_left 1; (focus (intro wq hSq; have hrd := hSq.rule; go_simp; with_reducible rfl)); simp only [Act.put, List.setIfInBounds_toArray, List.set_cons_zero, List.set_cons_succ, List.getElem_toArray, List.getElem_cons_zero, List.getElem_cons_succ]))
  refine TakeSeq.done ?_
  refine wpAnyH_done (by kernel_rfl) ?_ _
  go_wp2_with fail
  all_goals
    go_ret
    refine ⟨ret_bool ?_, by (repeat (first | with_reducible exact Below.refl _ _ | with_reducible assumption | with_reducible refine Below.setCell ?_ (by first | (simp; done) | (simp; omega)) _ | with_reducible refine below_alloc ?_ _ | with_reducible refine below_drewN ?_ _ | with_reducible refine Below.drew ?_ | with_reducible refine below_step ?_ (by assumption)))⟩
    rw [HX.out]
    go_light
    have hl := HL.out
    have hn : 0 < n.entries.length := by omega
    have hni := HN.out
    have hL := HL0.out
    have hD := HD.out
    have hL2 : ¬ (n.level ≤ 0) ∨ ¬ (0 < n.level) := by omega
    first | (rw [if_pos hL]) | (rw [if_neg (by omega)])
    rw [Bool.eq_iff_iff]
    first | (simp [hD, hl, hn, hni, Bt.maxKey, *]; done) | (simp [hD, hl, hn, hni, Bt.maxKey, *]; omega) | skip

set_option maxRecDepth 100000 in
set_option maxHeartbeats 1000000 in
theorem valid_d3q (n : Bt.Node) (v : Value) (w : World) (he : EntRow w v n.entries) (hg : NoneAt w) (h : ¬ (n.level < 0 ∨ 8 < n.level ∨ 5 < n.entries.length ∨ Bt.rising n.entries = false ∨ n.high = 0))
    (h1 : n.right = Bt.nilP) (h2 : n.high = 4294967295) (hL : 0 < n.level) (hD : n.dead = false) (b off cap : Nat) (hv : v = .slice (some ⟨b, off, none⟩) n.entries.length cap) (hlt : b < w.heap.size) (hes : 0 < n.entries.length) (hcells : ∀ (i : Nat) (p : Bt.Entry), n.entries[i]? = some p → ∀ (j : Nat) (u : Value), p.cells[j]? = some u → w.cell? ⟨b, off + i * 3 + j, none⟩ = some u) :
    Calls Tryz.prog 63 #[.agg (nodeCells n v)] w fun e w' => e = .returned (.bool n.valid) ∧ Below w.heap.size w w' := by
  have HX : Hid (n.valid = if 0 < n.level then !n.dead && decide (Bt.lastKey n.entries = n.high) else if n.dead = true ∧ (0 < n.entries.length ∨ n.leftmost = true ∨ n.right = Bt.nilP) then false else decide (Bt.lastKey n.entries ≤ n.high) && decide (Bt.lastKey n.entries ≤ Bt.maxKey)) :=
    Lib.hid (by simp only [Bt.Node.valid]; rw [if_neg h, if_neg (by simp [Bt.maxHigh, h1, h2])])
  have He := Lib.hid he
  obtain ⟨g0, g1, gl⟩ := hg
  have hlen := he.len
  unfold maxLen at hlen
  unfold nodeCells
  have a1 : decide (n.level < 0) = false := by simp; omega
  have a2 : decide (8 < n.level) = false := by simp; omega
  have a3 : decide (5 < (n.entries.length : Int)) = false := by simp; omega
  have a4 : (n.high == 0) = false := by simp; omega
  have HR : Hid (Bt.rising n.entries = true) := Lib.hid (by cases hr : Bt.rising n.entries <;> simp_all)
  have hp : peq n.right.line n.right.gen 0 0 = true := by rw [peq_nil]; simp [h1]
  have hm : (n.high == 4294967295) = true := by simp [h2]
  have HN : Hid (n.right = Bt.nilP) := Lib.hid h1
  have aL : decide (0 < n.level) = true := by simp; omega
  have HL0 : Hid (0 < n.level) := Lib.hid hL
  have HD := Lib.hid hD
  subst hv
  obtain ⟨k, hk⟩ : ∃ k, k + 1 = n.entries.length := ⟨n.entries.length - 1, by omega⟩
  have hk2 : k < n.entries.length := by omega
  obtain ⟨c0, c1, c2⟩ := three hcells hk2
  have hix : (n.entries.length : Int) - 1 = (k : Int) := by omega
  have HL : Hid (Bt.lastKey n.entries = n.entries[k].key) := Lib.hid (lastKey_get n.entries k hk)
  have hpos : decide (0 < (n.entries.length : Int)) = true := by simp; omega
  have hk3 : (k : Int) < (n.entries.length : Int) := by omega
  clear hcells c1 c2
  generalize hpk : n.entries[k].key = pk at c0 HL
  clear hpk hk
  clear h h1 h2 he hL
  have ne := neq_ptr
  have eq := eql_ptr
  go_enter Tryz.func63, Tryz.ntmps63
  go_wp2_with fail
  go_at_call 98; refine (rising_any n.entries _ _ ?hpg).mono ?_; (case hpg => exact He.out.below (by (repeat (first | with_reducible exact Below.refl _ _ | with_reducible assumption | with_reducible refine Below.setCell ?_ (by first | (simp; done) | (simp; omega)) _ | with_reducible refine below_alloc ?_ _ | with_reducible refine below_drewN ?_ _ | with_reducible refine Below.drew ?_ | with_reducible refine below_step ?_ (by assumption))))); rintro e w1 ⟨rfl, hb⟩; rw [HR.out]; ((obtain ⟨hc1, hf1⟩ := below_rules hb; have hs1 := Below.size hb; try simp only [size_alloc, size_setCell, size_drew, size_drewN] at hs1 hc1 hf1); (try have z1_w_0 : w.heap.size < w1.heap.size := by omega))
  have hlt1 : b < w1.heap.size := by omega
  have gl1 : 0 < w1.heap.size := by omega
  go_wp2_with fail
  refine wp_region_held_drew (S := SteadyAll _) (by kernel_rfl) (SteadyAll.of (Below.refl _ _).drew) ?_
  intro hSt
  refine wpAnyH_seq (is := [0, 1, 2, 3, 4, 5, 6, 7, 8, 9, 10, 11, 12, 13, 14, 15, 16, 17, 18, 19]) (by kernel_rfl) (by kernel_rfl) (fun _ _ d _ _ h => by cases d <;> exact h) (by assumption) ?_
  iterate 20 (first | (refine TakeSeq.step (v := undef) rfl (Or.inr ⟨by rfl, rfl⟩) ?_; simp only [Act.put, List.setIfInBounds_toArray, List.set_cons_zero, List.set_cons_succ, List.getElem_toArray, List.getElem_cons_zero, List.getElem_cons_succ]) | (refine TakeSeq.step (v := ?_) rfl (Or.inl ⟨by rfl, ?_⟩) ?_; rotate_left 1; (focus (intro wq hSq; have hrd := hSq.rule; go_simp; with_reducible rfl)); simp only [Act.put, List.setIfInBounds_toArray, List.set_cons_zero, List.set_cons_succ, List.getElem_toArray, List.getElem_cons_zero, List.getElem_cons_succ]))
  refine TakeSeq.done ?_
  refine wpAnyH_done (by kernel_rfl) ?_ _
  go_wp2_with fail
  all_goals
    go_ret
    refine ⟨ret_bool ?_, by (repeat (first | with_reducible exact Below.refl _ _ | with_reducible assumption | with_reducible refine Below.setCell ?_ (by first | (simp; done) | (simp; omega)) _ | with_reducible refine below_alloc ?_ _ | with_reducible refine below_drewN ?_ _ | with_reducible refine Below.drew ?_ | with_reducible refine below_step ?_ (by assumption)))⟩
    rw [HX.out]
    go_light
    have hl := HL.out
    have hn : 0 < n.entries.length := by omega
    have hni := HN.out
    have hL := HL0.out
    have hD := HD.out
    have hL2 : ¬ (n.level ≤ 0) ∨ ¬ (0 < n.level) := by omega
    first | (rw [if_pos hL]) | (rw [if_neg (by omega)])
    rw [Bool.eq_iff_iff]
    first | (simp [hD, hl, hn, hni, Bt.maxKey, *]; done) | (simp [hD, hl, hn, hni, Bt.maxKey, *]; omega) | skip

set_option maxRecDepth 100000 in
set_option maxHeartbeats 1000000 in
theorem valid_d3r (n : Bt.Node) (v : Value) (w : World) (he : EntRow w v n.entries) (hg : NoneAt w) (h : ¬ (n.level < 0 ∨ 8 < n.level ∨ 5 < n.entries.length ∨ Bt.rising n.entries = false ∨ n.high = 0))
    (h1 : n.right = Bt.nilP) (h2 : n.high = 4294967295) (hL : n.level ≤ 0) (hD : n.dead = true) (b off cap : Nat) (hv : v = .slice (some ⟨b, off, none⟩) n.entries.length cap) (hlt : b < w.heap.size) (hes : 0 < n.entries.length) (hcells : ∀ (i : Nat) (p : Bt.Entry), n.entries[i]? = some p → ∀ (j : Nat) (u : Value), p.cells[j]? = some u → w.cell? ⟨b, off + i * 3 + j, none⟩ = some u) :
    Calls Tryz.prog 63 #[.agg (nodeCells n v)] w fun e w' => e = .returned (.bool n.valid) ∧ Below w.heap.size w w' := by
  have HX : Hid (n.valid = if 0 < n.level then !n.dead && decide (Bt.lastKey n.entries = n.high) else if n.dead = true ∧ (0 < n.entries.length ∨ n.leftmost = true ∨ n.right = Bt.nilP) then false else decide (Bt.lastKey n.entries ≤ n.high) && decide (Bt.lastKey n.entries ≤ Bt.maxKey)) :=
    Lib.hid (by simp only [Bt.Node.valid]; rw [if_neg h, if_neg (by simp [Bt.maxHigh, h1, h2])])
  have He := Lib.hid he
  obtain ⟨g0, g1, gl⟩ := hg
  have hlen := he.len
  unfold maxLen at hlen
  unfold nodeCells
  have a1 : decide (n.level < 0) = false := by simp; omega
  have a2 : decide (8 < n.level) = false := by simp; omega
  have a3 : decide (5 < (n.entries.length : Int)) = false := by simp; omega
  have a4 : (n.high == 0) = false := by simp; omega
  have HR : Hid (Bt.rising n.entries = true) := Lib.hid (by cases hr : Bt.rising n.entries <;> simp_all)
  have hp : peq n.right.line n.right.gen 0 0 = true := by rw [peq_nil]; simp [h1]
  have hm : (n.high == 4294967295) = true := by simp [h2]
  have HN : Hid (n.right = Bt.nilP) := Lib.hid h1
  have aL : decide (0 < n.level) = false := by simp; omega
  have HL0 : Hid (n.level ≤ 0) := Lib.hid hL
  have HD := Lib.hid hD
  subst hv
  obtain ⟨k, hk⟩ : ∃ k, k + 1 = n.entries.length := ⟨n.entries.length - 1, by omega⟩
  have hk2 : k < n.entries.length := by omega
  obtain ⟨c0, c1, c2⟩ := three hcells hk2
  have hix : (n.entries.length : Int) - 1 = (k : Int) := by omega
  have HL : Hid (Bt.lastKey n.entries = n.entries[k].key) := Lib.hid (lastKey_get n.entries k hk)
  have hpos : decide (0 < (n.entries.length : Int)) = true := by simp; omega
  have hk3 : (k : Int) < (n.entries.length : Int) := by omega
  clear hcells c1 c2
  generalize hpk : n.entries[k].key = pk at c0 HL
  clear hpk hk
  clear h h1 h2 he hL
  have ne := neq_ptr
  have eq := eql_ptr
  go_enter Tryz.func63, Tryz.ntmps63
  go_wp2_with fail
  go_at_call 98; refine (rising_any n.entries _ _ ?hpg).mono ?_; (case hpg => exact He.out.below (by (repeat (first | with_reducible exact Below.refl _ _ | with_reducible assumption | with_reducible refine Below.setCell ?_ (by first | (simp; done) | (simp; omega)) _ | with_reducible refine below_alloc ?_ _ | with_reducible refine below_drewN ?_ _ | with_reducible refine Below.drew ?_ | with_reducible refine below_step ?_ (by assumption))))); rintro e w1 ⟨rfl, hb⟩; rw [HR.out]; ((obtain ⟨hc1, hf1⟩ := below_rules hb; have hs1 := Below.size hb; try simp only [size_alloc, size_setCell, size_drew, size_drewN] at hs1 hc1 hf1); (try have z1_w_0 : w.heap.size < w1.heap.size := by omega))
  have hlt1 : b < w1.heap.size := by omega
  have gl1 : 0 < w1.heap.size := by omega
  go_wp2_with fail
  refine wp_region_held_drew (S := SteadyAll _) (by kernel_rfl) (SteadyAll.of (Below.refl _ _).drew) ?_
  intro hSt
  refine wpAnyH_seq (is := [0, 1, 2, 3, 4, 5, 6, 7, 8, 9, 10, 11, 12, 13, 14, 15, 16, 17, 18, 19]) (by kernel_rfl) (by kernel_rfl) (fun _ _ d _ _ h => by cases d <;> exact h) (by assumption) ?_
  iterate 20 (first | (refine TakeSeq.step (v := undef) rfl (Or.inr ⟨by rfl, rfl⟩) ?_; simp only [Act.put, List.setIfInBounds_toArray, List.set_cons_zero, List.set_cons_succ, List.getElem_toArray, List.getElem_cons_zero, List.getElem_cons_succ]) | (refine TakeSeq.step (v := ?_) rfl (Or.inl ⟨by rfl, ?_⟩) ?_; rotate_left 1; (focus (intro wq hSq; have hrd := hSq.rule; go_simp; with_reducible rfl)); simp only [Act.put, List.setIfInBounds_toArray, List.set_cons_zero, List.set_cons_succ, List.getElem_toArray, List.getElem_cons_zero, List.getElem_cons_succ]))
  refine TakeSeq.done ?_
  refine wpAnyH_done (by kernel_rfl) ?_ _
  go_wp2_with fail
  all_goals
    go_ret
    refine ⟨ret_bool ?_, by (repeat (first | with_reducible exact Below.refl _ _ | with_reducible assumption | with_reducible refine Below.setCell ?_ (by first | (simp; done) | (simp; omega)) _ | with_reducible refine below_alloc ?_ _ | with_reducible refine below_drewN ?_ _ | with_reducible refine Below.drew ?_ | with_reducible refine below_step ?_ (by assumption)))⟩
    rw [HX.out]
    go_light
    have hl := HL.out
    have hn : 0 < n.entries.length := by omega
    have hni := HN.out
    have hL := HL0.out
    have hD := HD.out
    have hL2 : ¬ (n.level ≤ 0) ∨ ¬ (0 < n.level) := by omega
    first | (rw [if_pos hL]) | (rw [if_neg (by omega)])
    rw [Bool.eq_iff_iff]
    first | (simp [hD, hl, hn, hni, Bt.maxKey, *]; done) | (simp [hD, hl, hn, hni, Bt.maxKey, *]; omega) | skip

set_option maxRecDepth 100000 in
set_option maxHeartbeats 1000000 in
theorem valid_d3s (n : Bt.Node) (v : Value) (w : World) (he : EntRow w v n.entries) (hg : NoneAt w) (h : ¬ (n.level < 0 ∨ 8 < n.level ∨ 5 < n.entries.length ∨ Bt.rising n.entries = false ∨ n.high = 0))
    (h1 : n.right = Bt.nilP) (h2 : n.high = 4294967295) (hL : n.level ≤ 0) (hD : n.dead = false) (b off cap : Nat) (hv : v = .slice (some ⟨b, off, none⟩) n.entries.length cap) (hlt : b < w.heap.size) (hes : 0 < n.entries.length) (hcells : ∀ (i : Nat) (p : Bt.Entry), n.entries[i]? = some p → ∀ (j : Nat) (u : Value), p.cells[j]? = some u → w.cell? ⟨b, off + i * 3 + j, none⟩ = some u) :
    Calls Tryz.prog 63 #[.agg (nodeCells n v)] w fun e w' => e = .returned (.bool n.valid) ∧ Below w.heap.size w w' := by
  have HX : Hid (n.valid = if 0 < n.level then !n.dead && decide (Bt.lastKey n.entries = n.high) else if n.dead = true ∧ (0 < n.entries.length ∨ n.leftmost = true ∨ n.right = Bt.nilP) then false else decide (Bt.lastKey n.entries ≤ n.high) && decide (Bt.lastKey n.entries ≤ Bt.maxKey)) :=
    Lib.hid (by simp only [Bt.Node.valid]; rw [if_neg h, if_neg (by simp [Bt.maxHigh, h1, h2])])
  have He := Lib.hid he
  obtain ⟨g0, g1, gl⟩ := hg
  have hlen := he.len
  unfold maxLen at hlen
  unfold nodeCells
  have a1 : decide (n.level < 0) = false := by simp; omega
  have a2 : decide (8 < n.level) = false := by simp; omega
  have a3 : decide (5 < (n.entries.length : Int)) = false := by simp; omega
  have a4 : (n.high == 0) = false := by simp; omega
  have HR : Hid (Bt.rising n.entries = true) := Lib.hid (by cases hr : Bt.rising n.entries <;> simp_all)
  have hp : peq n.right.line n.right.gen 0 0 = true := by rw [peq_nil]; simp [h1]
  have hm : (n.high == 4294967295) = true := by simp [h2]
  have HN : Hid (n.right = Bt.nilP) := Lib.hid h1
  have aL : decide (0 < n.level) = false := by simp; omega
  have HL0 : Hid (n.level ≤ 0) := Lib.hid hL
  have HD := Lib.hid hD
  subst hv
  obtain ⟨k, hk⟩ : ∃ k, k + 1 = n.entries.length := ⟨n.entries.length - 1, by omega⟩
  have hk2 : k < n.entries.length := by omega
  obtain ⟨c0, c1, c2⟩ := three hcells hk2
  have hix : (n.entries.length : Int) - 1 = (k : Int) := by omega
  have HL : Hid (Bt.lastKey n.entries = n.entries[k].key) := Lib.hid (lastKey_get n.entries k hk)
  have hpos : decide (0 < (n.entries.length : Int)) = true := by simp; omega
  have hk3 : (k : Int) < (n.entries.length : Int) := by omega
  clear hcells c1 c2
  generalize hpk : n.entries[k].key = pk at c0 HL
  clear hpk hk
  clear h h1 h2 he hL
  have ne := neq_ptr
  have eq := eql_ptr
  go_enter Tryz.func63, Tryz.ntmps63
  go_wp2_with fail
  go_at_call 98; refine (rising_any n.entries _ _ ?hpg).mono ?_; (case hpg => exact He.out.below (by (repeat (first | with_reducible exact Below.refl _ _ | with_reducible assumption | with_reducible refine Below.setCell ?_ (by first | (simp; done) | (simp; omega)) _ | with_reducible refine below_alloc ?_ _ | with_reducible refine below_drewN ?_ _ | with_reducible refine Below.drew ?_ | with_reducible refine below_step ?_ (by assumption))))); rintro e w1 ⟨rfl, hb⟩; rw [HR.out]; ((obtain ⟨hc1, hf1⟩ := below_rules hb; have hs1 := Below.size hb; try simp only [size_alloc, size_setCell, size_drew, size_drewN] at hs1 hc1 hf1); (try have z1_w_0 : w.heap.size < w1.heap.size := by omega))
  have hlt1 : b < w1.heap.size := by omega
  have gl1 : 0 < w1.heap.size := by omega
  go_wp2_with fail
  refine wp_region_held_drew (S := SteadyAll _) (by kernel_rfl) (SteadyAll.of (Below.refl _ _).drew) ?_
  intro hSt
  refine wpAnyH_seq (is := [0, 1, 2, 3, 4, 5, 6, 7, 8, 9, 10, 11, 12, 13, 14, 15, 16, 17, 18, 19]) (by kernel_rfl) (by kernel_rfl) (fun _ _ d _ _ h => by cases d <;> exact h) (by assumption) ?_
  iterate 20 (first | (refine TakeSeq.step (v := undef) rfl (Or.inr ⟨by rfl, rfl⟩) ?_; simp only [Act.put, List.setIfInBounds_toArray, List.set_cons_zero, List.set_cons_succ, List.getElem_toArray, List.getElem_cons_zero, List.getElem_cons_succ]) | (refine TakeSeq.step (v := ?_) rfl (Or.inl ⟨by rfl, ?_⟩) ?_; rotate_left 1; (focus (intro wq hSq; have hrd := hSq.rule; go_simp; with_reducible rfl)); simp only [Act.put, List.setIfInBounds_toArray, List.set_cons_zero, List.set_cons_succ, List.getElem_toArray, List.getElem_cons_zero, List.getElem_cons_succ]))
  refine TakeSeq.done ?_
  refine wpAnyH_done (by kernel_rfl) ?_ _
  go_wp2_with fail
  all_goals
    go_ret
    refine ⟨ret_bool ?_, by (repeat (first | with_reducible exact Below.refl _ _ | with_reducible assumption | with_reducible refine Below.setCell ?_ (by first | (simp; done) | (simp; omega)) _ | with_reducible refine below_alloc ?_ _ | with_reducible refine below_drewN ?_ _ | with_reducible refine Below.drew ?_ | with_reducible refine below_step ?_ (by assumption)))⟩
    rw [HX.out]
    go_light
    have hl := HL.out
    have hn : 0 < n.entries.length := by omega
    have hni := HN.out
    have hL := HL0.out
    have hD := HD.out
    have hL2 : ¬ (n.level ≤ 0) ∨ ¬ (0 < n.level) := by omega
    first | (rw [if_pos hL]) | (rw [if_neg (by omega)])
    rw [Bool.eq_iff_iff]
    first | (simp [hD, hl, hn, hni, Bt.maxKey, *]; done) | (simp [hD, hl, hn, hni, Bt.maxKey, *]; omega) | skip

end Go.Proofs.YtjmpekanlmepmaaGreatDoor
