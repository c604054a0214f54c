/- The references' small functions: numbers in range, pointers. The references' small functions: pointers packed and converted. The reference's root page; two pages compared. -/
import Derived.Test.YtjmpekanlmepmaaGreatDoorQa
import Derived.Test.YtjmpekanlmepmaaGreatDoorQe
set_option linter.unusedVariables false
set_option linter.unusedSimpArgs false
set_option linter.unusedSectionVars false
set_option linter.constructorNameAsVariable false
namespace Go.Proofs.YtjmpekanlmepmaaGreatDoor
open Go.RowKit

def pick (n k : Int) : Int := n % k
theorem Pick_any (n k : Int) (hn : -9223372036854775808 ≤ n ∧ n ≤ 9223372036854775807) (hk : 1 ≤ k ∧ k ≤ 1000000) (w : World) : Calls Tryz.prog 13 #[.int .i64 n, .int .i64 k] w fun e w' => e = .returned (.int .i64 (pick n k)) ∧ w = w' := by
  have b1 : decide (k < 1) = false := by simp; omega
  have b2 : (k == 0) = false := by simp; omega
  have h1 := Int.tmod_lt_of_pos n (show 0 < k by omega)
  have h2 := Int.lt_tmod_of_pos n (show 0 < k by omega)
  have w1 : wrap64 (n.tmod k + k) = n.tmod k + k := by unfold wrap64; omega
  have w2 : wrap64 (n.tmod k) = n.tmod k := by unfold wrap64; omega
  have e1 : (n.tmod k + k).tmod k = n % k := by
    rw [Int.tmod_eq_emod_of_nonneg (by omega), Int.add_emod_right, tmod_emod_self]
  have h3 := Int.emod_lt_of_pos n (show 0 < k by omega)
  have h4 := Int.emod_nonneg n (show k ≠ 0 by omega)
  go_enter Tryz.func13, Tryz.ntmps13
  go_wp2
  go_ret
  refine ⟨ret_int ?_, rfl⟩
  unfold pick
  first | exact e1 | (rw [e1]; done) | (simp [*]; done)

theorem heapLine_any (l : Int) (w : World) : Calls Tryz.prog 76 #[.int .i64 l] w fun e w' => e = .returned (.bool (Bt.inHeap l)) ∧ w = w' := by
  go_enter Tryz.func76, Tryz.ntmps76
  go_wp2
  all_goals go_ret
  all_goals
    refine ⟨ret_bool ?_, rfl⟩
    unfold Bt.inHeap
    first | (simp [*]; done) | (simp; omega)

theorem ValidPointer_any (l g : Int) (w : World) : Calls Tryz.prog 43 #[.agg #[.int .i64 l, .int .i64 g]] w fun e w' => e = .returned (.bool (Bt.validP ⟨l, g⟩)) ∧ Below w.heap.size w w' := by
  go_enter Tryz.func43, Tryz.ntmps43
  go_wp2_with fail
  go_at_call 76; refine (heapLine_any l _).mono ?_; rintro e w1 ⟨rfl, rfl⟩
  rcases h : Bt.inHeap l with _ | _
  all_goals
    go_wp2
    all_goals go_ret
    all_goals
      refine ⟨ret_bool ?_, by (repeat (first | with_reducible exact Below.refl _ _ | with_reducible assumption | with_reducible refine Below.setCell ?_ (by first | (simp; done) | (simp; omega)) _ | with_reducible refine below_alloc ?_ _ | with_reducible refine below_drewN ?_ _ | with_reducible refine Below.drew ?_ | with_reducible refine below_step ?_ (by assumption)))⟩
      unfold Bt.validP
      first | (simp [*]; done) | (simp [h]; omega)
end Go.Proofs.YtjmpekanlmepmaaGreatDoor
namespace Go.Proofs.YtjmpekanlmepmaaGreatDoor
open Go.RowKit

theorem refPack_any (l g : Int) (w : World) : Calls Tryz.prog 45 #[.agg #[.int .i64 l, .int .i64 g]] w fun e w' => e = .returned (.int .u32 (Bt.pack ⟨l, g⟩)) ∧ Below w.heap.size w w' := by
  rcases h : Bt.validP ⟨l, g⟩ with _ | _
  · go_enter Tryz.func45, Tryz.ntmps45
    go_wp2_with fail
    go_at_call 43; refine (ValidPointer_any l g _).mono ?_; rintro e w1 ⟨rfl, hb⟩; rw [h]; ((obtain ⟨hc1, hf1⟩ := below_rules hb; have hs1 := Below.size hb; try simp only [size_alloc, size_setCell, size_drew, size_drewN] at hs1 hc1 hf1); (try have z1_w_0 : w.heap.size < w1.heap.size := by omega))
    go_wp2
    go_ret
    exact ⟨by simp [Bt.pack, h], by (repeat (first | with_reducible exact Below.refl _ _ | with_reducible assumption | with_reducible refine Below.setCell ?_ (by first | (simp; done) | (simp; omega)) _ | with_reducible refine below_alloc ?_ _ | with_reducible refine below_drewN ?_ _ | with_reducible refine Below.drew ?_ | with_reducible refine below_step ?_ (by assumption)))⟩
  · have hv : 104 ≤ l ∧ l < 256 ∧ 1 ≤ g ∧ g ≤ 16777215 := by
      simp only [Bt.validP, Bt.inHeap, Bool.and_eq_true, decide_eq_true_eq] at h
      omega
    have e1 : IntKind.u32.wrap l = l := by rw [IntKind.wrap_u32]; omega
    have e2 : IntKind.u32.wrap g = g := by rw [IntKind.wrap_u32]; omega
    have e3 : IntKind.u32.wrap (256 * g) = 256 * g := by rw [IntKind.wrap_u32]; omega
    have e4 : IntKind.u32.wrap (l + 256 * g) = l + 256 * g := by rw [IntKind.wrap_u32]; omega
    go_enter Tryz.func45, Tryz.ntmps45
    go_wp2_with fail
    go_at_call 43; refine (ValidPointer_any l g _).mono ?_; rintro e w1 ⟨rfl, hb⟩; rw [h]; ((obtain ⟨hc1, hf1⟩ := below_rules hb; have hs1 := Below.size hb; try simp only [size_alloc, size_setCell, size_drew, size_drewN] at hs1 hc1 hf1); (try have z1_w_0 : w.heap.size < w1.heap.size := by omega))
    go_wp2
    go_ret
    refine ⟨ret_int ?_, by (repeat (first | with_reducible exact Below.refl _ _ | with_reducible assumption | with_reducible refine Below.setCell ?_ (by first | (simp; done) | (simp; omega)) _ | with_reducible refine below_alloc ?_ _ | with_reducible refine below_drewN ?_ _ | with_reducible refine Below.drew ?_ | with_reducible refine below_step ?_ (by assumption)))⟩
    simp only [Bt.pack, h, if_true]
    first | omega | (simp [*]; omega)

theorem refUnpack_any (x : Int) (h0 : 0 ≤ x) (h1 : x < 4294967296) (w : World) : Calls Tryz.prog 42 #[.int .u32 x] w fun e w' => e = .returned (.agg (Bt.unpack x).cells) ∧ Below w.heap.size w w' := by
  have e1 : x.tmod 256 = x % 256 := Int.tmod_eq_emod_of_nonneg h0
  have e2 : x.tdiv 256 = x / 256 := Int.tdiv_eq_ediv_of_nonneg h0
  go_enter Tryz.func42, Tryz.ntmps42
  go_wp2
  simp [bodyPost, results, Tryz.results42, go_sem]
  exact ⟨rfl, by (repeat (first | with_reducible exact Below.refl _ _ | with_reducible assumption | with_reducible refine Below.setCell ?_ (by first | (simp; done) | (simp; omega)) _ | with_reducible refine below_alloc ?_ _ | with_reducible refine below_drewN ?_ _ | with_reducible refine Below.drew ?_ | with_reducible refine below_step ?_ (by assumption)))⟩

theorem ref_any (p : Bt.Ptr) (w : World) : Calls Tryz.prog 19 #[.agg p.cells] w fun e w' => e = .returned (.agg p.cells) ∧ Below w.heap.size w w' := by
  unfold Bt.Ptr.cells
  go_enter Tryz.func19, Tryz.ntmps19
  go_wp2
  simp [bodyPost, results, Tryz.results19, go_sem]
  (repeat (first | with_reducible exact Below.refl _ _ | with_reducible assumption | with_reducible refine Below.setCell ?_ (by first | (simp; done) | (simp; omega)) _ | with_reducible refine below_alloc ?_ _ | with_reducible refine below_drewN ?_ _ | with_reducible refine Below.drew ?_ | with_reducible refine below_step ?_ (by assumption)))

theorem SteadyBut.drew' {r : Nat} {w1 wx : World} (h : SteadyBut r w1 wx) : SteadyBut r w1 wx.drew := ⟨h.rule⟩
theorem SteadyBut.realloc {r : Nat} {w1 : World} (o o' : Obj) (hr : r = w1.heap.size) : SteadyBut r (w1.alloc o) (w1.alloc o') :=
  ⟨fun b i hb h => by
    simp only [size_alloc] at hb
    have e1 := Below.heap_alloc w1 o b (by omega)
    have e2 := Below.heap_alloc w1 o' b (by omega)
    simp only [World.cell?, e1, e2]⟩
theorem aim_nil (p : Bt.Ptr) (w : World) (h : p.gen.tmod 7 = 0) : Calls Tryz.prog 14 #[.agg p.cells] w fun e w' => e = .returned (.agg Bt.nilP.cells) ∧ Below w.heap.size w w' := by
  have b1 : (p.gen.tmod 7 == 0) = true := by simp [h]
  unfold Bt.Ptr.cells
  go_enter Tryz.func14, Tryz.ntmps14
  go_wp2
  simp [bodyPost, results, Tryz.results14, go_sem]
  exact ⟨⟨rfl, rfl⟩, by (repeat (first | with_reducible exact Below.refl _ _ | with_reducible assumption | with_reducible refine Below.setCell ?_ (by first | (simp; done) | (simp; omega)) _ | with_reducible refine below_alloc ?_ _ | with_reducible refine below_drewN ?_ _ | with_reducible refine Below.drew ?_ | with_reducible refine below_step ?_ (by assumption)))⟩
theorem aim_some (p : Bt.Ptr) (w : World) (h : p.gen.tmod 7 ≠ 0) (hl : -9223372036854775808 ≤ p.line ∧ p.line ≤ 9223372036854775807) (hg : -9223372036854775808 ≤ p.gen ∧ p.gen ≤ 9223372036854775807) :
    Calls Tryz.prog 14 #[.agg p.cells] w fun e w' => e = .returned (.agg (⟨103 + pick p.line 154, pick p.gen 8⟩ : Bt.Ptr).cells) ∧ Below w.heap.size w w' := by
  have b1 : (p.gen.tmod 7 == 0) = false := by simp [h]
  have e1 : IntKind.i64.wrap (103 + pick p.line 154) = 103 + pick p.line 154 := by
    have h3 := Int.emod_lt_of_pos p.line (show (0 : Int) < 154 by omega)
    have h4 := Int.emod_nonneg p.line (show (154 : Int) ≠ 0 by omega)
    unfold pick
    rw [IntKind.wrap_i64]; omega
  unfold Bt.Ptr.cells
  go_enter Tryz.func14, Tryz.ntmps14
  go_wp2_with fail
  refine wp_region_held_drew (S := SteadyBut (w.heap.size + 1) _) (by kernel_rfl) (SteadyBut.of (Below.refl _ _).drew) ?_
  intro hSt
  refine wpAnyH_seq (is := [0, 1, 4, 5]) (by kernel_rfl) (by kernel_rfl) (fun _ _ d _ _ h => by cases d <;> exact h) (by assumption) ?_
  iterate 4 (first | (refine TakeSeq.step (v := undef) rfl (Or.inr ⟨by rfl, rfl⟩) ?_; simp only [Act.put, List.setIfInBounds_toArray, List.set_cons_zero, List.set_cons_succ, List.getElem_toArray, List.getElem_cons_zero, List.getElem_cons_succ]) | (refine TakeSeq.step (v := ?_) rfl (Or.inl ⟨by rfl, ?_⟩) ?_; rotate_left 1; (focus (intro wq hSq; have hrd := hSq.rule; go_simp; with_reducible rfl)); simp only [Act.put, List.setIfInBounds_toArray, List.set_cons_zero, List.set_cons_succ, List.getElem_toArray, List.getElem_cons_zero, List.getElem_cons_succ]))
  refine TakeSeq.done ?_
  refine wpAnyH_ready (rs := [2]) (by kernel_rfl) (by simp) ?_
  refine AllReadyH.cons rfl (fun K hK => ?_) (AllReadyH.nil)
  rw [if_pos (by rfl)]
  go_simp
  go_at_call 13; refine (Pick_any p.line 154 hl (by omega) _).mono ?_; rintro e2 w2 ⟨rfl, rfl⟩
  go_wp2_with fail
  refine hK.out _ _ (SteadyBut.of (by (repeat (first | with_reducible exact Below.refl _ _ | with_reducible assumption | with_reducible refine Below.setCell ?_ (by first | (simp; done) | (simp; omega)) _ | with_reducible refine below_alloc ?_ _ | with_reducible refine below_drewN ?_ _ | with_reducible refine Below.drew ?_ | with_reducible refine below_step ?_ (by assumption))))) (fun hHeld => ?_)
  clear hK K
  refine wpAnyH_seq (is := [3]) (by kernel_rfl) (by kernel_rfl) (fun _ _ d _ _ h => by cases d <;> exact h) (by assumption) ?_
  iterate 1 (first | (refine TakeSeq.step (v := undef) rfl (Or.inr ⟨by rfl, rfl⟩) ?_; simp only [Act.put, List.setIfInBounds_toArray, List.set_cons_zero, List.set_cons_succ, List.getElem_toArray, List.getElem_cons_zero, List.getElem_cons_succ]) | (refine TakeSeq.step (v := ?_) rfl (Or.inl ⟨by rfl, ?_⟩) ?_; rotate_left 1; (focus (intro wq hSq; have hrd := hSq.rule; go_simp; with_reducible rfl)); simp only [Act.put, List.setIfInBounds_toArray, List.set_cons_zero, List.set_cons_succ, List.getElem_toArray, List.getElem_cons_zero, List.getElem_cons_succ]))
  refine TakeSeq.done ?_
  refine wpAnyH_ready (rs := [6]) (by kernel_rfl) (by simp) ?_
  refine AllReadyH.cons rfl (fun K hK => ?_) (AllReadyH.nil)
  rw [if_pos (by rfl)]
  go_simp
  go_at_call 13; refine (Pick_any p.gen 8 hg (by omega) _).mono ?_; rintro e3 w3 ⟨rfl, rfl⟩
  go_wp2_with fail
  refine hK.out _ _ (SteadyBut.of (by (repeat (first | with_reducible exact Below.refl _ _ | with_reducible assumption | with_reducible refine Below.setCell ?_ (by first | (simp; done) | (simp; omega)) _ | with_reducible refine below_alloc ?_ _ | with_reducible refine below_drewN ?_ _ | with_reducible refine Below.drew ?_ | with_reducible refine below_step ?_ (by assumption))))) (fun hHeld => ?_)
  clear hK K
  refine wpAnyH_seq (is := [7]) (by kernel_rfl) (by kernel_rfl) (fun _ _ d _ _ h => by cases d <;> exact h) (by assumption) ?_
  iterate 1 (first | (refine TakeSeq.step (v := undef) rfl (Or.inr ⟨by rfl, rfl⟩) ?_; simp only [Act.put, List.setIfInBounds_toArray, List.set_cons_zero, List.set_cons_succ, List.getElem_toArray, List.getElem_cons_zero, List.getElem_cons_succ]) | (refine TakeSeq.step (v := ?_) rfl (Or.inl ⟨by rfl, ?_⟩) ?_; rotate_left 1; (focus (intro wq hSq; have hrd := hSq.rule; go_simp; with_reducible rfl)); simp only [Act.put, List.setIfInBounds_toArray, List.set_cons_zero, List.set_cons_succ, List.getElem_toArray, List.getElem_cons_zero, List.getElem_cons_succ]))
  refine TakeSeq.done ?_
  refine wpAnyH_ready (rs := [8]) (by kernel_rfl) (by simp) ?_
  refine AllReadyH.cons rfl (fun K hK => ?_) (AllReadyH.nil)
  rw [if_pos (by rfl)]
  go_simp
  refine hK.out _ _ (SteadyBut.drew' (SteadyBut.realloc _ _ (by simp))) (fun hHeld => ?_)
  clear hK K
  refine wpAnyH_done (by kernel_rfl) ?_ _
  go_wp2_with fail
  refine bodyPost_ret (results_b rfl _ _ (w.heap.size + 1) _ _ _ rfl (by repeat (first | exact made22 _ | with_reducible apply Blk.drew)) Tryz.underlying27 rfl (by kernel_rfl)) rfl ⟨rfl, by (repeat (first | with_reducible exact Below.refl _ _ | with_reducible assumption | with_reducible refine Below.setCell ?_ (by first | (simp; done) | (simp; omega)) _ | with_reducible refine below_alloc ?_ _ | with_reducible refine below_drewN ?_ _ | with_reducible refine Below.drew ?_ | with_reducible refine below_step ?_ (by assumption)))⟩
end Go.Proofs.YtjmpekanlmepmaaGreatDoor
namespace Go.Proofs.YtjmpekanlmepmaaGreatDoor
open Go.RowKit

/-- What reading the root page gives: the root, its level, the code. -/
def rootRes (p : Bt.Page) : Bt.Ptr × Int × Int :=
  if p.line = 96 then (match Bt.readRoot p with | some (q, l) => (q, l, 0) | none => (Bt.nilP, 0, 14)) else (Bt.nilP, 0, 1)
theorem rootRes_off (p : Bt.Page) (h : p.line ≠ 96) : rootRes p = (Bt.nilP, 0, 1) := by simp [rootRes, h]
theorem rootRes_zero (p : Bt.Page) (h : p.line = 96) (h0 : p.d0 = 0) : rootRes p = (Bt.nilP, 0, 0) := by
  have : Bt.readRoot p = some (Bt.nilP, 0) := by
    unfold Bt.readRoot
    rw [h0]
    rfl
  simp [rootRes, h, this]
theorem rootRes_bad (p : Bt.Page) (hp : p.Ok) (h : p.line = 96) (h0 : p.d0 ≠ 0) (hv : Bt.validP (Bt.unpack (p.d0 % 4294967296)) = false ∨ 38654705664 ≤ p.d0) : rootRes p = (Bt.nilP, 0, 14) := by
  have hd := hp.d0
  have : Bt.readRoot p = none := by
    unfold Bt.readRoot
    rw [if_neg]
    unfold Bt.validRoot
    intro hx
    split at hx
    · rename_i hn
      simp only [Bt.unpack, Bt.nilP, Bt.Ptr.mk.injEq] at hn
      simp only [decide_eq_true_eq] at hx
      omega
    · simp only [Bool.and_eq_true, decide_eq_true_eq] at hx
      rcases hv with hv | hv
      · rw [hv] at hx; simp at hx
      · omega
  simp [rootRes, h, this]
theorem rootRes_good (p : Bt.Page) (hp : p.Ok) (h : p.line = 96) (hv : Bt.validP (Bt.unpack (p.d0 % 4294967296)) = true) (hl : p.d0 < 38654705664) : rootRes p = (Bt.unpack (p.d0 % 4294967296), p.d0 / 4294967296, 0) := by
  have hd := hp.d0
  have : Bt.readRoot p = some (Bt.unpack (p.d0 % 4294967296), p.d0 / 4294967296) := by
    unfold Bt.readRoot
    rw [if_pos]
    unfold Bt.validRoot
    rw [if_neg (fun hn => by rw [hn] at hv; cases hv), hv]
    simp only [Bool.true_and, Bool.and_eq_true, decide_eq_true_eq]
    omega
  simp [rootRes, h, this]

set_option maxRecDepth 10000 in
set_option maxHeartbeats 1000000 in
theorem refReadRoot_any (p : Bt.Page) (hp : p.Ok) (w : World) : Calls Tryz.prog 16 #[.agg p.cells] w
    fun e w' => e = .returned (.tuple #[.agg (rootRes p).1.cells, .int .i64 (rootRes p).2.1, .int .i64 (rootRes p).2.2]) ∧ Below w.heap.size w w' := by
  have hpd := hp.d0
  unfold Bt.Page.cells
  by_cases hl : p.line = 96
  · have bl : (p.line != 96) = false := by simp [hl]
    by_cases h0 : p.d0 = 0
    · have HX := Lib.hid (rootRes_zero p hl h0)
      have b0 : (p.d0 == 0) = true := by simp [h0]
      clear hl h0
      go_enter Tryz.func16, Tryz.ntmps16
      go_wp2_with fail
      rw [HX.out]
      refine bodyPost_ret (results_btt rfl _ _ (w.heap.size + 1) _ _ _ rfl (by (repeat (first | with_reducible exact made22 w | with_reducible apply Blk.put | with_reducible apply Blk.alloc | (with_reducible apply Blk.aside; (case hp => first | (simp; done) | (simp; omega))) | with_reducible apply Blk.drew | with_reducible refine Blk.kept ?_ (by assumption)))) Tryz.underlying34 rfl (by kernel_rfl)) rfl ⟨?_, by (repeat (first | with_reducible exact Below.refl _ _ | with_reducible assumption | with_reducible refine Below.setCell ?_ (by first | (simp; done) | (simp; omega)) _ | with_reducible refine below_alloc ?_ _ | with_reducible refine below_drewN ?_ _ | with_reducible refine Below.drew ?_ | with_reducible refine below_step ?_ (by assumption)))⟩
      rfl
    · have b0 : (p.d0 == 0) = false := by simp [h0]
      have e32 : IntKind.u32.wrap p.d0 = p.d0 % 4294967296 := by rw [IntKind.wrap_u32]
      rcases hv : Bt.validP (Bt.unpack (p.d0 % 4294967296)) with _ | _
      · have HX := Lib.hid (rootRes_bad p hp hl h0 (.inl hv))
        have HV := Lib.hid hv
        clear hl h0 hv
        go_enter Tryz.func16, Tryz.ntmps16
        go_wp2_with fail
        go_at_call 42; refine (refUnpack_any (p.d0 % 4294967296) (by omega) (by omega) _).mono ?_; rintro e w1 ⟨rfl, hb1⟩; simp only [Bt.Ptr.cells]; ((obtain ⟨hc1, hf1⟩ := below_rules hb1; have hs1 := Below.size hb1; try simp only [size_alloc, size_setCell, size_drew, size_drewN] at hs1 hc1 hf1); (try have z1_w_0 : w.heap.size < w1.heap.size := by omega); (try have z1_w_1 : w.heap.size + 1 < w1.heap.size := by omega))
        go_wp2_with fail
        go_at_call 43; refine (ValidPointer_any _ _ _).mono ?_; rintro e w2 ⟨rfl, hb2⟩; rw [HV.out]; ((obtain ⟨hc2, hf2⟩ := below_rules hb2; have hs2 := Below.size hb2; try simp only [size_alloc, size_setCell, size_drew, size_drewN] at hs2 hc2 hf2); (try have z2_w_0 : w.heap.size < w2.heap.size := by omega); (try have z2_w_1 : w.heap.size + 1 < w2.heap.size := by omega); (try have z2_w1_0 : w1.heap.size < w2.heap.size := by omega))
        go_wp2_with fail
        rw [HX.out]
        have BR := Blk.kept (Blk.alloc (Blk.kept (b := w.heap.size + 1) (made22 w) hb1) _) hb2
        refine bodyPost_ret (results_btt rfl _ _ (w.heap.size + 1) _ _ _ rfl (by (repeat (first | with_reducible exact BR | with_reducible apply Blk.put | with_reducible apply Blk.alloc | (with_reducible apply Blk.aside; (case hp => first | (simp; done) | (simp; omega))) | with_reducible apply Blk.drew))) Tryz.underlying34 rfl (by kernel_rfl)) rfl ⟨?_, by (repeat (first | with_reducible exact Below.refl _ _ | with_reducible assumption | with_reducible refine Below.setCell ?_ (by first | (simp; done) | (simp; omega)) _ | with_reducible refine below_alloc ?_ _ | with_reducible refine below_drewN ?_ _ | with_reducible refine Below.drew ?_ | with_reducible refine below_step ?_ (by assumption)))⟩
        rfl
      · by_cases hg : 38654705664 ≤ p.d0
        · have HX := Lib.hid (rootRes_bad p hp hl h0 (.inr hg))
          have HV := Lib.hid hv
          have bg : decide (38654705664 ≤ p.d0) = true := by simp [hg]
          clear hl h0 hv
          go_enter Tryz.func16, Tryz.ntmps16
          go_wp2_with fail
          go_at_call 42; refine (refUnpack_any (p.d0 % 4294967296) (by omega) (by omega) _).mono ?_; rintro e w1 ⟨rfl, hb1⟩; simp only [Bt.Ptr.cells]; ((obtain ⟨hc1, hf1⟩ := below_rules hb1; have hs1 := Below.size hb1; try simp only [size_alloc, size_setCell, size_drew, size_drewN] at hs1 hc1 hf1); (try have z1_w_0 : w.heap.size < w1.heap.size := by omega); (try have z1_w_1 : w.heap.size + 1 < w1.heap.size := by omega))
          go_wp2_with fail
          go_at_call 43; refine (ValidPointer_any _ _ _).mono ?_; rintro e w2 ⟨rfl, hb2⟩; rw [HV.out]; ((obtain ⟨hc2, hf2⟩ := below_rules hb2; have hs2 := Below.size hb2; try simp only [size_alloc, size_setCell, size_drew, size_drewN] at hs2 hc2 hf2); (try have z2_w_0 : w.heap.size < w2.heap.size := by omega); (try have z2_w_1 : w.heap.size + 1 < w2.heap.size := by omega); (try have z2_w1_0 : w1.heap.size < w2.heap.size := by omega))
          go_wp2_with fail
          rw [HX.out]
          have BR := Blk.kept (Blk.alloc (Blk.kept (b := w.heap.size + 1) (made22 w) hb1) _) hb2
          refine bodyPost_ret (results_btt rfl _ _ (w.heap.size + 1) _ _ _ rfl (by (repeat (first | with_reducible exact BR | with_reducible apply Blk.put | with_reducible apply Blk.alloc | (with_reducible apply Blk.aside; (case hp => first | (simp; done) | (simp; omega))) | with_reducible apply Blk.drew))) Tryz.underlying34 rfl (by kernel_rfl)) rfl ⟨?_, by (repeat (first | with_reducible exact Below.refl _ _ | with_reducible assumption | with_reducible refine Below.setCell ?_ (by first | (simp; done) | (simp; omega)) _ | with_reducible refine below_alloc ?_ _ | with_reducible refine below_drewN ?_ _ | with_reducible refine Below.drew ?_ | with_reducible refine below_step ?_ (by assumption)))⟩
          rfl
        · have HX := Lib.hid (rootRes_good p hp hl hv (by omega))
          have HV := Lib.hid hv
          have bg : decide (38654705664 ≤ p.d0) = false := by simp; omega
          have e64 : IntKind.i64.wrap (p.d0 / 4294967296) = p.d0 / 4294967296 := by rw [IntKind.wrap_i64]; omega
          clear hl h0 hv hg
          go_enter Tryz.func16, Tryz.ntmps16
          go_wp2_with fail
          go_at_call 42; refine (refUnpack_any (p.d0 % 4294967296) (by omega) (by omega) _).mono ?_; rintro e w1 ⟨rfl, hb1⟩; simp only [Bt.Ptr.cells]; ((obtain ⟨hc1, hf1⟩ := below_rules hb1; have hs1 := Below.size hb1; try simp only [size_alloc, size_setCell, size_drew, size_drewN] at hs1 hc1 hf1); (try have z1_w_0 : w.heap.size < w1.heap.size := by omega); (try have z1_w_1 : w.heap.size + 1 < w1.heap.size := by omega))
          have HB1 := Lib.hid hb1
          go_wp2_with fail
          go_at_call 43; refine (ValidPointer_any _ _ _).mono ?_; rintro e w2 ⟨rfl, hb2⟩; rw [HV.out]; ((obtain ⟨hc2, hf2⟩ := below_rules hb2; have hs2 := Below.size hb2; try simp only [size_alloc, size_setCell, size_drew, size_drewN] at hs2 hc2 hf2); (try have z2_w_0 : w.heap.size < w2.heap.size := by omega); (try have z2_w_1 : w.heap.size + 1 < w2.heap.size := by omega); (try have z2_w1_0 : w1.heap.size < w2.heap.size := by omega))
          have HB2 := Lib.hid hb2
          clear hb1 hb2
          go_wp2_with fail
          refine wp_region_held_drew (S := SteadyBut (w.heap.size + 1) _) (by kernel_rfl) (SteadyBut.of (Below.refl _ _).drew) ?_
          intro hSt
          refine wpAnyH_seq (is := [0, 1, 2, 3, 4, 5]) (by kernel_rfl) (by kernel_rfl) (fun _ _ d _ _ h => by cases d <;> exact h) (by assumption) ?_
          iterate 6 (first | (refine TakeSeq.step (v := undef) rfl (Or.inr ⟨by rfl, rfl⟩) ?_; simp only [Act.put, List.setIfInBounds_toArray, List.set_cons_zero, List.set_cons_succ, List.getElem_toArray, List.getElem_cons_zero, List.getElem_cons_succ]) | (refine TakeSeq.step (v := ?_) rfl (Or.inl ⟨by rfl, ?_⟩) ?_; rotate_left 1; (focus (intro wq hSq; have hrd := hSq.rule; go_simp; with_reducible rfl)); simp only [Act.put, List.setIfInBounds_toArray, List.set_cons_zero, List.set_cons_succ, List.getElem_toArray, List.getElem_cons_zero, List.getElem_cons_succ]))
          refine TakeSeq.done ?_
          refine wpAnyH_ready (rs := [6]) (by kernel_rfl) (by simp) ?_
          refine AllReadyH.cons rfl (fun K hK => ?_) (AllReadyH.nil)
          rw [if_pos (by rfl)]
          go_simp
          refine hK.out _ _ (SteadyBut.drew' (SteadyBut.set (SteadyBut.set ⟨fun _ _ _ _ => rfl⟩ _ _) _ _)) (fun hHeld => ?_)
          clear hK K
          refine wpAnyH_seq (is := [7, 8]) (by kernel_rfl) (by kernel_rfl) (fun _ _ d _ _ h => by cases d <;> exact h) (by assumption) ?_
          iterate 2 (first | (refine TakeSeq.step (v := undef) rfl (Or.inr ⟨by rfl, rfl⟩) ?_; simp only [Act.put, List.setIfInBounds_toArray, List.set_cons_zero, List.set_cons_succ, List.getElem_toArray, List.getElem_cons_zero, List.getElem_cons_succ]) | (refine TakeSeq.step (v := ?_) rfl (Or.inl ⟨by rfl, ?_⟩) ?_; rotate_left 1; (focus (intro wq hSq; have hrd := hSq.rule; go_simp; with_reducible rfl)); simp only [Act.put, List.setIfInBounds_toArray, List.set_cons_zero, List.set_cons_succ, List.getElem_toArray, List.getElem_cons_zero, List.getElem_cons_succ]))
          refine TakeSeq.done ?_
          refine wpAnyH_done (by kernel_rfl) ?_ _
          go_wp2_with fail
          rw [HX.out]
          have hb1 := HB1.out
          have hb2 := HB2.out
          have BR := Blk.kept (Blk.alloc (Blk.kept (b := w.heap.size + 1) (made22 w) hb1) _) hb2
          refine bodyPost_ret (results_btt rfl _ _ (w.heap.size + 1) _ _ _ rfl (by (repeat (first | with_reducible exact BR | with_reducible apply Blk.put | with_reducible apply Blk.alloc | (with_reducible apply Blk.aside; (case hp => first | (simp; done) | (simp; omega))) | with_reducible apply Blk.drew))) Tryz.underlying34 rfl (by kernel_rfl)) rfl ⟨?_, by (repeat (first | with_reducible exact Below.refl _ _ | with_reducible assumption | with_reducible refine Below.setCell ?_ (by first | (simp; done) | (simp; omega)) _ | with_reducible refine below_alloc ?_ _ | with_reducible refine below_drewN ?_ _ | with_reducible refine Below.drew ?_ | with_reducible refine below_step ?_ (by assumption)))⟩
          rfl
  · have bl : (p.line != 96) = true := by simp [hl]
    have HX := Lib.hid (rootRes_off p hl)
    clear hl
    go_enter Tryz.func16, Tryz.ntmps16
    go_wp2_with fail
    rw [HX.out]
    refine bodyPost_ret (results_btt rfl _ _ (w.heap.size + 1) _ _ _ rfl (by (repeat (first | with_reducible exact made22 w | with_reducible apply Blk.put | with_reducible apply Blk.alloc | (with_reducible apply Blk.aside; (case hp => first | (simp; done) | (simp; omega))) | with_reducible apply Blk.drew | with_reducible refine Blk.kept ?_ (by assumption)))) Tryz.underlying34 rfl (by kernel_rfl)) rfl ⟨?_, by (repeat (first | with_reducible exact Below.refl _ _ | with_reducible assumption | with_reducible refine Below.setCell ?_ (by first | (simp; done) | (simp; omega)) _ | with_reducible refine below_alloc ?_ _ | with_reducible refine below_drewN ?_ _ | with_reducible refine Below.drew ?_ | with_reducible refine below_step ?_ (by assumption)))⟩
    rfl
end Go.Proofs.YtjmpekanlmepmaaGreatDoor
