/- hashindex.Root.valid and WriteRoot in the example. -/
import Derived.Test.YtcoiehgcfjfhaaaGreatDoorQ21
import Derived.Test.YtcoiehgcfjfhaaaGreatDoorQ05
set_option linter.all false
set_option maxRecDepth 20000
set_option maxHeartbeats 8000000
open Go.Lib (hid)
namespace Go.Proofs.YtcoiehgcfjfhaaaGreatDoor
open Go.RowKit
theorem validP_any (l : Int) (hl : 105 ≤ l ∧ l ≤ 108) (w : World) : Calls Tryz.prog 136 #[.agg #[.int .i64 l, .int .i64 1]] w fun e w' => e = .returned (.bool true) ∧ Below w.heap.size w w' := by
  have h := Valid_any l 1 w
  rw [show Bt.validP ⟨l, 1⟩ = true by simp [Bt.validP, Bt.inHeap]; omega] at h
  exact h
theorem hiIsField_107 (w : World) (hn : HNone w) : Calls Tryz.prog 310 #[.agg #[.int .i64 107, .int .i64 1]] w fun e w' => e = .returned (.bool true) ∧ Below w.heap.size w w' := by
  have HV := hid (fun W => validP_any 107 (by omega) W)
  obtain ⟨c0, c1, lt⟩ := hn
  have ne := neq_ptr
  have eq := eql_ptr
  have e1 : peq 107 1 0 0 = false := rfl
  go_enter Tryz.func310, Tryz.ntmps310
  go_wp2_with fail
  go_at_call 136; refine (HV.out _).mono ?_; rintro e w1 ⟨rfl, hb1⟩; ((obtain ⟨hc1, hf1, hs1⟩ := qR hb1); (try have z1_w_0 := qN0 w w1))
  go_wp2_with fail
  refine bodyPost_ret (results_tmp rfl _ _ _) rfl ⟨rfl, qL⟩
theorem hiRootValid (w : World) (hn : HNone w) : Calls Tryz.prog 293 #[.agg #[.int .i64 106, .int .i64 1, .int .i64 0, .int .i64 107, .int .i64 1, .int .i64 0, .int .i64 0, .int .i64 0, .int .i64 0, .int .i64 0, .int .i64 0]] w fun e w' => e = .returned (.bool true) ∧ Below w.heap.size w w' := by
  have HV := hid (fun W => validP_any 106 (by omega) W)
  have HF0 := hid (fun W h => hiIsField_0 W h)
  have HF := hid (fun W h => hiIsField_107 W h)
  have HPO := hid (fun W => hiPagesOf_0 W)
  have HN := hid hn
  have eq := eql_ptr
  have p1 : peq 106 1 0 0 = false := rfl
  have p2 : peq 107 1 0 0 = false := rfl
  have p3 : peq 0 0 0 0 = true := rfl
  have c0 := hn.c0
  have c1 := hn.c1
  have lt := hn.lt
  go_enter Tryz.func293, Tryz.ntmps293
  go_wp2_with fail
  go_at_call 136; refine (HV.out _).mono ?_; rintro e w1 ⟨rfl, hb1⟩; ((obtain ⟨hc1, hf1, hs1⟩ := qR hb1); (try have z1_w_0 := qN0 w w1))
  go_wp2_with fail
  refine wp_name (fun W => Below w.heap.size w W ∧ Blk W w.heap.size 335 #[.int .i64 106, .int .i64 1, .int .i64 0, .int .i64 107, .int .i64 1, .int .i64 0, .int .i64 0, .int .i64 0, .int .i64 0, .int .i64 0, .int .i64 0]) ⟨qL, (Blk.made w 335 #[.int .i64 106, .int .i64 1, .int .i64 0, .int .i64 107, .int .i64 1, .int .i64 0, .int .i64 0, .int .i64 0, .int .i64 0, .int .i64 0, .int .i64 0]).kept hb1⟩ (fun v0 V0 => ?_)
  clear hb1 hc1 hf1 hs1 z1_w_0 c0 c1 lt
  have x0 : ∀ W, (Instr.index 333 (.agg #[.int .i64 107, .int .i64 1, .int .i64 0, .int .i64 0, .int .i64 0, .int .i64 0, .int .i64 0, .int .i64 0]) (.int .i64 0)).run Tryz.prog W = .ok (.agg #[.int .i64 107, .int .i64 1]) W := fun W => by kernel_rfl
  have x1 : ∀ W, (Instr.index 333 (.agg #[.int .i64 107, .int .i64 1, .int .i64 0, .int .i64 0, .int .i64 0, .int .i64 0, .int .i64 0, .int .i64 0]) (.int .i64 1)).run Tryz.prog W = .ok (.agg #[.int .i64 0, .int .i64 0]) W := fun W => by kernel_rfl
  have x2 : ∀ W, (Instr.index 333 (.agg #[.int .i64 107, .int .i64 1, .int .i64 0, .int .i64 0, .int .i64 0, .int .i64 0, .int .i64 0, .int .i64 0]) (.int .i64 2)).run Tryz.prog W = .ok (.agg #[.int .i64 0, .int .i64 0]) W := fun W => by kernel_rfl
  have x3 : ∀ W, (Instr.index 333 (.agg #[.int .i64 107, .int .i64 1, .int .i64 0, .int .i64 0, .int .i64 0, .int .i64 0, .int .i64 0, .int .i64 0]) (.int .i64 3)).run Tryz.prog W = .ok (.agg #[.int .i64 0, .int .i64 0]) W := fun W => by kernel_rfl
  refine wp_loop_rounds 5 ?_
  rw [rounds_succ]
  have hn0 := HN.out.below V0.out.1
  have kr := V0.out.2.cell
  have lr := V0.out.2.lt
  have c0 := hn0.c0
  have c1 := hn0.c1
  have lt := hn0.lt
  have hN0 := hid hn0
  clear hn0
  go_wp2_with fail
  go_at_call 310; refine (HF.out _ (hN0.out.below qL)).mono ?_; rintro e a0 ⟨rfl, hba⟩; ((obtain ⟨hc9, hf9, hs9⟩ := qR hba); (try have z9_v0_0 := qN0 v0 a0))
  have lt2 : 2 < a0.heap.size := by omega
  have lr2 : w.heap.size < a0.heap.size := by omega
  go_wp2_with fail
  have B0 := (V0.out.2.alloc (.cells #[.int .i64 107, .int .i64 1] 154)).kept hba
  refine wp_name (fun W => Below w.heap.size w W ∧ Blk W w.heap.size 335 #[.int .i64 106, .int .i64 1, .int .i64 0, .int .i64 107, .int .i64 1, .int .i64 0, .int .i64 0, .int .i64 0, .int .i64 0, .int .i64 0, .int .i64 0]) ⟨by have h := V0.out.1; exact qL, by (have B := B0; exact qK)⟩ (fun v1 V1 => ?_)
  clear V0 hN0 hba hc9 hf9 hs9 c0 c1 lt lt2 z9_v0_0 kr lr lr2 B0
  have hn1 := HN.out.below V1.out.1
  have kr := V1.out.2.cell
  have lr := V1.out.2.lt
  have c0 := hn1.c0
  have c1 := hn1.c1
  have lt := hn1.lt
  have hN1 := hid hn1
  clear hn1
  go_wp2_with fail
  go_at_call 310; refine (HF0.out _ (hN1.out.below qL)).mono ?_; rintro e a1 ⟨rfl, hba⟩; ((obtain ⟨hc9, hf9, hs9⟩ := qR hba); (try have z9_v1_0 := qN0 v1 a1))
  have lt2 : 2 < a1.heap.size := by omega
  have lr2 : w.heap.size < a1.heap.size := by omega
  go_wp2_with fail
  go_at_call 311; refine (HPO.out _).mono ?_; rintro e b1 ⟨rfl, hw⟩; obtain rfl := hw
  go_wp2_with fail
  have B0 := (V1.out.2.alloc (.cells #[.int .i64 0, .int .i64 0] 154)).kept hba
  refine wp_name (fun W => Below w.heap.size w W ∧ Blk W w.heap.size 335 #[.int .i64 106, .int .i64 1, .int .i64 0, .int .i64 107, .int .i64 1, .int .i64 0, .int .i64 0, .int .i64 0, .int .i64 0, .int .i64 0, .int .i64 0]) ⟨by have h := V1.out.1; exact qL, by (have B := B0; exact qK)⟩ (fun v2 V2 => ?_)
  clear V1 hN1 hba hc9 hf9 hs9 c0 c1 lt lt2 z9_v1_0 kr lr lr2 B0
  have hn2 := HN.out.below V2.out.1
  have kr := V2.out.2.cell
  have lr := V2.out.2.lt
  have c0 := hn2.c0
  have c1 := hn2.c1
  have lt := hn2.lt
  have hN2 := hid hn2
  clear hn2
  go_wp2_with fail
  go_at_call 310; refine (HF0.out _ (hN2.out.below qL)).mono ?_; rintro e a2 ⟨rfl, hba⟩; ((obtain ⟨hc9, hf9, hs9⟩ := qR hba); (try have z9_v2_0 := qN0 v2 a2))
  have lt2 : 2 < a2.heap.size := by omega
  have lr2 : w.heap.size < a2.heap.size := by omega
  go_wp2_with fail
  go_at_call 311; refine (HPO.out _).mono ?_; rintro e b2 ⟨rfl, hw⟩; obtain rfl := hw
  go_wp2_with fail
  have B0 := (V2.out.2.alloc (.cells #[.int .i64 0, .int .i64 0] 154)).kept hba
  refine wp_name (fun W => Below w.heap.size w W ∧ Blk W w.heap.size 335 #[.int .i64 106, .int .i64 1, .int .i64 0, .int .i64 107, .int .i64 1, .int .i64 0, .int .i64 0, .int .i64 0, .int .i64 0, .int .i64 0, .int .i64 0]) ⟨by have h := V2.out.1; exact qL, by (have B := B0; exact qK)⟩ (fun v3 V3 => ?_)
  clear V2 hN2 hba hc9 hf9 hs9 c0 c1 lt lt2 z9_v2_0 kr lr lr2 B0
  have hn3 := HN.out.below V3.out.1
  have kr := V3.out.2.cell
  have lr := V3.out.2.lt
  have c0 := hn3.c0
  have c1 := hn3.c1
  have lt := hn3.lt
  have hN3 := hid hn3
  clear hn3
  go_wp2_with fail
  go_at_call 310; refine (HF0.out _ (hN3.out.below qL)).mono ?_; rintro e a3 ⟨rfl, hba⟩; ((obtain ⟨hc9, hf9, hs9⟩ := qR hba); (try have z9_v3_0 := qN0 v3 a3))
  have lt2 : 2 < a3.heap.size := by omega
  have lr2 : w.heap.size < a3.heap.size := by omega
  go_wp2_with fail
  go_at_call 311; refine (HPO.out _).mono ?_; rintro e b3 ⟨rfl, hw⟩; obtain rfl := hw
  go_wp2_with fail
  have B0 := (V3.out.2.alloc (.cells #[.int .i64 0, .int .i64 0] 154)).kept hba
  refine wp_name (fun W => Below w.heap.size w W ∧ Blk W w.heap.size 335 #[.int .i64 106, .int .i64 1, .int .i64 0, .int .i64 107, .int .i64 1, .int .i64 0, .int .i64 0, .int .i64 0, .int .i64 0, .int .i64 0, .int .i64 0]) ⟨by have h := V3.out.1; exact qL, by (have B := B0; exact qK)⟩ (fun v4 V4 => ?_)
  clear V3 hN3 hba hc9 hf9 hs9 c0 c1 lt lt2 z9_v3_0 kr lr lr2 B0
  go_wp2_with fail
  refine bodyPost_ret (results_tmp rfl _ _ _) rfl ⟨rfl, V4.out.1⟩
def rootPage2 : Bt.Page := ⟨96, 256, 0, 362, 363, 0, 0, 0, 0⟩
theorem hiWriteRoot (w : World) (hn : HNone w) : Calls Tryz.prog 270 #[.agg zRootP.cells, .agg #[.int .i64 106, .int .i64 1, .int .i64 0, .int .i64 107, .int .i64 1, .int .i64 0, .int .i64 0, .int .i64 0, .int .i64 0, .int .i64 0, .int .i64 0]] w fun e w' => e = .returned (.tuple #[.agg rootPage2.cells, .int .i64 0]) ∧ Below w.heap.size w w' := by
  have HV := hid (fun W h => hiRootValid W h)
  have HP0 := hid (fun W => pack_nil W)
  have HP6 := hid (fun W => pack_106 W)
  have HP7 := hid (fun W => pack_107 W)
  have HN := hid hn
  clear hn
  unfold zRootP rootPage2 Bt.Page.cells
  simp only
  go_enter Tryz.func270, Tryz.ntmps270
  go_wp2_with fail
  go_at_call 293; refine (HV.out _ (HN.out.below qL)).mono ?_; rintro e w1 ⟨rfl, hb1⟩; ((obtain ⟨hc1, hf1, hs1⟩ := qR hb1); (try have z1_w_0 := qN0 w w1); (try have z1_w_1 := qN1 w w1); (try have z1_w_2 := qN2 w w1))
  have P0 := (((Blk.made w 75 #[.int .i64 96, .int .u64 256, .int .u64 0, .int .u64 0, .int .u64 0, .int .u64 0, .int .u64 0, .int .u64 0, .int .u64 0]).alloc (.cells #[.int .i64 106, .int .i64 1, .int .i64 0, .int .i64 107, .int .i64 1, .int .i64 0, .int .i64 0, .int .i64 0, .int .i64 0, .int .i64 0, .int .i64 0] 335)).alloc (.cells #[.int .i64 0, .int .u64 0, .int .u64 0, .int .u64 0, .int .u64 0, .int .u64 0, .int .u64 0, .int .u64 0, .int .u64 0] 75)).kept hb1
  have R0 := ((Blk.made' (w := w.alloc (.cells #[.int .i64 96, .int .u64 256, .int .u64 0, .int .u64 0, .int .u64 0, .int .u64 0, .int .u64 0, .int .u64 0, .int .u64 0] 75)) (t := 335) (cs := #[.int .i64 106, .int .i64 1, .int .i64 0, .int .i64 107, .int .i64 1, .int .i64 0, .int .i64 0, .int .i64 0, .int .i64 0, .int .i64 0, .int .i64 0]) rfl).alloc (.cells #[.int .i64 0, .int .u64 0, .int .u64 0, .int .u64 0, .int .u64 0, .int .u64 0, .int .u64 0, .int .u64 0, .int .u64 0] 75)).kept hb1
  have Z0 := (Blk.made' (w := (w.alloc (.cells #[.int .i64 96, .int .u64 256, .int .u64 0, .int .u64 0, .int .u64 0, .int .u64 0, .int .u64 0, .int .u64 0, .int .u64 0] 75)).alloc (.cells #[.int .i64 106, .int .i64 1, .int .i64 0, .int .i64 107, .int .i64 1, .int .i64 0, .int .i64 0, .int .i64 0, .int .i64 0, .int .i64 0, .int .i64 0] 335)) (t := 75) (cs := #[.int .i64 0, .int .u64 0, .int .u64 0, .int .u64 0, .int .u64 0, .int .u64 0, .int .u64 0, .int .u64 0, .int .u64 0]) rfl).kept hb1
  simp only [size_alloc] at R0 Z0
  have hbw : Below w.heap.size w w1 := qL
  go_upto_region 3 with (fail)
  refine wp_name (fun W => Blk W w.heap.size 75 #[.int .i64 96, .int .u64 256, .int .u64 0, .int .u64 0, .int .u64 0, .int .u64 0, .int .u64 0, .int .u64 0, .int .u64 0] ∧ Blk W (w.heap.size + 1) 335 #[.int .i64 106, .int .i64 1, .int .i64 0, .int .i64 107, .int .i64 1, .int .i64 0, .int .i64 0, .int .i64 0, .int .i64 0, .int .i64 0, .int .i64 0] ∧ Blk W (w.heap.size + 1 + 1) 75 #[.int .i64 0, .int .u64 0, .int .u64 0, .int .u64 0, .int .u64 0, .int .u64 0, .int .u64 0, .int .u64 0, .int .u64 0] ∧ Below w.heap.size w W) ⟨P0, R0, Z0, hbw⟩ (fun v0 V0 => ?_)
  clear P0 R0 Z0 hbw hb1 hc1 hf1 hs1 z1_w_0 z1_w_1 z1_w_2
  have wi0 : IntKind.i64.wrap 0 = 0 := by rw [IntKind.wrap_i64]; omega
  have wi1 : IntKind.i64.wrap 1 = 1 := by rw [IntKind.wrap_i64]; omega
  have wi2 : IntKind.i64.wrap 2 = 2 := by rw [IntKind.wrap_i64]; omega
  have wi3 : IntKind.i64.wrap 3 = 3 := by rw [IntKind.wrap_i64]; omega
  have wu0 : IntKind.u64.wrap 0 = 0 := by rw [IntKind.wrap_u64]; omega
  have wu362 : IntKind.u64.wrap 362 = 362 := by rw [IntKind.wrap_u64]; omega
  have wu363 : IntKind.u64.wrap 363 = 363 := by rw [IntKind.wrap_u64]; omega
  have o362_0 : bits BinOp.or IntKind.u64 362 0 = 362 := by kernel_rfl
  have o363_0 : bits BinOp.or IntKind.u64 363 0 = 363 := by kernel_rfl
  have o0_0 : bits BinOp.or IntKind.u64 0 0 = 0 := by kernel_rfl
  have kp := V0.out.1.cell
  have fp := V0.out.1.free
  have lp := V0.out.1.lt
  have kr := V0.out.2.1.cell
  have lr := V0.out.2.1.lt
  have lz := V0.out.2.2.1.lt
  refine wp_region_late (S := SteadyAll _) (last := 11) (by kernel_rfl) (by kernel_rfl) (SteadyAll.of (Below.refl _ _).drew) ?_
  intro hSt
  refine wpAnyL_seq (is := [0, 1, 4, 5, 6, 7, 9]) (by kernel_rfl) (by kernel_rfl) (fun _ _ d _ _ h => by cases d <;> exact h) (by assumption) ?_
  iterate 7 (refine qU ?_; simp only [Act.put, qY])
  refine TakeSeqL.done ?_
  refine qHL 2 fun K hK => ?_
  go_simp
  go_at_call 207; refine (HP6.out _).mono ?_; rintro e3 w3 ⟨rfl, hb3⟩; ((obtain ⟨hc3, hf3, hs3⟩ := qR hb3); (try have z3_w_0 := qN0 w w3); (try have z3_w_1 := qN1 w w3); (try have z3_w_2 := qN2 w w3); (try have := qN0 v0 w3))
  go_wp2_with fail
  refine hK.out _ _ (SteadyAll.of qL) (fun hHeld => ?_)
  clear hK K
  refine wpAnyL_seq (is := [3, 8, 10]) (by kernel_rfl) (by kernel_rfl) (fun _ _ d _ _ h => by cases d <;> exact h) (by assumption) ?_
  iterate 3 (refine qU ?_; simp only [Act.put, qY])
  refine TakeSeqL.done ?_
  refine wpAnyL_ready (rs := [11]) (by kernel_rfl) (by simp) ?_
  refine AllReadyL.final rfl (fun K hK => ?_)
  rw [if_pos (by rfl)]
  go_simp
  refine hK.out _ _ ?_
  clear hK K
  refine wpAnyL_done (by kernel_rfl) ?_ _
  have hbv : Below v0.heap.size v0 w3 := qL
  go_wp2_with fail
  refine wp_name (fun W => Blk W w.heap.size 75 #[.int .i64 96, .int .u64 256, .int .u64 0, .int .u64 362, .int .u64 0, .int .u64 0, .int .u64 0, .int .u64 0, .int .u64 0] ∧ Blk W (w.heap.size + 1) 335 #[.int .i64 106, .int .i64 1, .int .i64 0, .int .i64 107, .int .i64 1, .int .i64 0, .int .i64 0, .int .i64 0, .int .i64 0, .int .i64 0, .int .i64 0] ∧ Blk W (w.heap.size + 1 + 1) 75 #[.int .i64 0, .int .u64 0, .int .u64 0, .int .u64 0, .int .u64 0, .int .u64 0, .int .u64 0, .int .u64 0, .int .u64 0] ∧ Below w.heap.size w W) ⟨?_, ?_, ?_, ?_⟩ (fun v1 V1 => ?_)
  · have B := V0.out.1.kept hbv
    apply Blk.cast
    · (repeat (first | with_reducible exact B | with_reducible apply Blk.put | with_reducible apply Blk.alloc | (with_reducible apply Blk.aside; (case hp => first | (simp; done) | (simp; omega))) | with_reducible apply Blk.drew))
    · kernel_rfl
  · have B := V0.out.2.1.kept hbv
    (repeat (first | with_reducible exact B | with_reducible apply Blk.put | with_reducible apply Blk.alloc | (with_reducible apply Blk.aside; (case hp => first | (simp; done) | (simp; omega))) | with_reducible apply Blk.drew))
  · have B := V0.out.2.2.1.kept hbv
    (repeat (first | with_reducible exact B | with_reducible apply Blk.put | with_reducible apply Blk.alloc | (with_reducible apply Blk.aside; (case hp => first | (simp; done) | (simp; omega))) | with_reducible apply Blk.drew))
  · have h := V0.out.2.2.2
    have h2 := below_step h hbv
    exact qL
  clear V0 kp fp lp kr lr lz hb3 hc3 hf3 hs3 hbv z3_w_0 z3_w_1 z3_w_2
  refine wp_loop_rounds 3 ?_
  rw [rounds_succ]
  have kp := V1.out.1.cell
  have fp := V1.out.1.free
  have lp := V1.out.1.lt
  have kr := V1.out.2.1.cell
  have lr := V1.out.2.1.lt
  have lz := V1.out.2.2.1.lt
  go_upto_region 7 with (fail)
  refine wp_region_late (S := SteadyAll _) (last := 20) (by kernel_rfl) (by kernel_rfl) (SteadyAll.of (Below.refl _ _).drew) ?_
  intro hSt
  refine wpAnyL_seq (is := [0, 1, 2, 3, 4, 5, 6, 9, 10, 11, 12, 13, 18]) (by kernel_rfl) (by kernel_rfl) (fun _ _ d _ _ h => by cases d <;> exact h) (by assumption) ?_
  iterate 13 (refine qU ?_; simp only [Act.put, qY])
  refine TakeSeqL.done ?_
  refine qHL 7 fun K hK => ?_
  go_simp
  go_at_call 207; refine (HP7.out _).mono ?_; rintro e3 w3 ⟨rfl, hb3⟩; ((obtain ⟨hc3, hf3, hs3⟩ := qR hb3); (try have z3_w_0 := qN0 w w3); (try have z3_w_1 := qN1 w w3); (try have z3_w_2 := qN2 w w3); (try have := qN0 v1 w3))
  go_wp2_with fail
  refine hK.out _ _ (SteadyAll.of qL) (fun hHeld => ?_)
  clear hK K
  refine wpAnyL_seq (is := [8]) (by kernel_rfl) (by kernel_rfl) (fun _ _ d _ _ h => by cases d <;> exact h) (by assumption) ?_
  refine qU ?_; simp only [Act.put, qY]
  refine TakeSeqL.done ?_
  refine qHL 14 fun K hK => ?_
  go_simp
  go_at_call 207; refine (HP0.out _).mono ?_; rintro e4 w4 ⟨rfl, hb4⟩; ((obtain ⟨hc4, hf4, hs4⟩ := qR hb4); (try have z4_w_0 := qN0 w w4); (try have z4_w_1 := qN1 w w4); (try have z4_w_2 := qN2 w w4); (try have := qN0 v1 w4); (try have := qN0 w3 w4))
  go_wp2_with fail
  refine hK.out _ _ (SteadyAll.of qL) (fun hHeld => ?_)
  clear hK K
  refine wpAnyL_seq (is := [15, 16, 17, 19]) (by kernel_rfl) (by kernel_rfl) (fun _ _ d _ _ h => by cases d <;> exact h) (by assumption) ?_
  iterate 4 (refine qU ?_; simp only [Act.put, qY])
  refine TakeSeqL.done ?_
  refine wpAnyL_ready (rs := [20]) (by kernel_rfl) (by simp) ?_
  refine AllReadyL.final rfl (fun K hK => ?_)
  rw [if_pos (by rfl)]
  go_simp
  refine hK.out _ _ ?_
  clear hK K
  refine wpAnyL_done (by kernel_rfl) ?_ _
  have hbv : Below v1.heap.size v1 w4 := ((Below.refl _ _).drew.trans hb3).trans (hb4.mono (by have := hb3.size; simpa using this))
  go_wp2_with fail
  refine wp_name (fun W => Blk W w.heap.size 75 #[.int .i64 96, .int .u64 256, .int .u64 0, .int .u64 362, .int .u64 363, .int .u64 0, .int .u64 0, .int .u64 0, .int .u64 0] ∧ Blk W (w.heap.size + 1) 335 #[.int .i64 106, .int .i64 1, .int .i64 0, .int .i64 107, .int .i64 1, .int .i64 0, .int .i64 0, .int .i64 0, .int .i64 0, .int .i64 0, .int .i64 0] ∧ Blk W (w.heap.size + 1 + 1) 75 #[.int .i64 0, .int .u64 0, .int .u64 0, .int .u64 0, .int .u64 0, .int .u64 0, .int .u64 0, .int .u64 0, .int .u64 0] ∧ Below w.heap.size w W) ⟨?_, ?_, ?_, ?_⟩ (fun v2 V2 => ?_)
  · have B := V1.out.1.kept hbv
    apply Blk.cast
    · (repeat (first | with_reducible exact B | with_reducible apply Blk.put | with_reducible apply Blk.alloc | (with_reducible apply Blk.aside; (case hp => first | (simp; done) | (simp; omega))) | with_reducible apply Blk.drew))
    · kernel_rfl
  · have B := V1.out.2.1.kept hbv
    (repeat (first | with_reducible exact B | with_reducible apply Blk.put | with_reducible apply Blk.alloc | (with_reducible apply Blk.aside; (case hp => first | (simp; done) | (simp; omega))) | with_reducible apply Blk.drew))
  · have B := V1.out.2.2.1.kept hbv
    (repeat (first | with_reducible exact B | with_reducible apply Blk.put | with_reducible apply Blk.alloc | (with_reducible apply Blk.aside; (case hp => first | (simp; done) | (simp; omega))) | with_reducible apply Blk.drew))
  · have h := V1.out.2.2.2
    have h2 := below_step h hbv
    exact qL
  clear V1 kp fp lp kr lr lz hb3 hc3 hf3 hs3 hb4 hc4 hf4 hs4 hbv z3_w_0 z3_w_1 z3_w_2 z4_w_0 z4_w_1 z4_w_2
  have kp := V2.out.1.cell
  have fp := V2.out.1.free
  have lp := V2.out.1.lt
  have kr := V2.out.2.1.cell
  have lr := V2.out.2.1.lt
  have lz := V2.out.2.2.1.lt
  go_upto_region 7 with (fail)
  refine wp_region_late (S := SteadyAll _) (last := 20) (by kernel_rfl) (by kernel_rfl) (SteadyAll.of (Below.refl _ _).drew) ?_
  intro hSt
  refine wpAnyL_seq (is := [0, 1, 2, 3, 4, 5, 6, 9, 10, 11, 12, 13, 18]) (by kernel_rfl) (by kernel_rfl) (fun _ _ d _ _ h => by cases d <;> exact h) (by assumption) ?_
  iterate 13 (refine qU ?_; simp only [Act.put, qY])
  refine TakeSeqL.done ?_
  refine qHL 7 fun K hK => ?_
  go_simp
  go_at_call 207; refine (HP0.out _).mono ?_; rintro e3 w3 ⟨rfl, hb3⟩; ((obtain ⟨hc3, hf3, hs3⟩ := qR hb3); (try have z3_w_0 := qN0 w w3); (try have z3_w_1 := qN1 w w3); (try have z3_w_2 := qN2 w w3); (try have := qN0 v2 w3))
  go_wp2_with fail
  refine hK.out _ _ (SteadyAll.of qL) (fun hHeld => ?_)
  clear hK K
  refine wpAnyL_seq (is := [8]) (by kernel_rfl) (by kernel_rfl) (fun _ _ d _ _ h => by cases d <;> exact h) (by assumption) ?_
  refine qU ?_; simp only [Act.put, qY]
  refine TakeSeqL.done ?_
  refine qHL 14 fun K hK => ?_
  go_simp
  go_at_call 207; refine (HP0.out _).mono ?_; rintro e4 w4 ⟨rfl, hb4⟩; ((obtain ⟨hc4, hf4, hs4⟩ := qR hb4); (try have z4_w_0 := qN0 w w4); (try have z4_w_1 := qN1 w w4); (try have z4_w_2 := qN2 w w4); (try have := qN0 v2 w4); (try have := qN0 w3 w4))
  go_wp2_with fail
  refine hK.out _ _ (SteadyAll.of qL) (fun hHeld => ?_)
  clear hK K
  refine wpAnyL_seq (is := [15, 16, 17, 19]) (by kernel_rfl) (by kernel_rfl) (fun _ _ d _ _ h => by cases d <;> exact h) (by assumption) ?_
  iterate 4 (refine qU ?_; simp only [Act.put, qY])
  refine TakeSeqL.done ?_
  refine wpAnyL_ready (rs := [20]) (by kernel_rfl) (by simp) ?_
  refine AllReadyL.final rfl (fun K hK => ?_)
  rw [if_pos (by rfl)]
  go_simp
  refine hK.out _ _ ?_
  clear hK K
  refine wpAnyL_done (by kernel_rfl) ?_ _
  have hbv : Below v2.heap.size v2 w4 := ((Below.refl _ _).drew.trans hb3).trans (hb4.mono (by have := hb3.size; simpa using this))
  go_wp2_with fail
  refine wp_name (fun W => Blk W w.heap.size 75 #[.int .i64 96, .int .u64 256, .int .u64 0, .int .u64 362, .int .u64 363, .int .u64 0, .int .u64 0, .int .u64 0, .int .u64 0] ∧ Blk W (w.heap.size + 1) 335 #[.int .i64 106, .int .i64 1, .int .i64 0, .int .i64 107, .int .i64 1, .int .i64 0, .int .i64 0, .int .i64 0, .int .i64 0, .int .i64 0, .int .i64 0] ∧ Blk W (w.heap.size + 1 + 1) 75 #[.int .i64 0, .int .u64 0, .int .u64 0, .int .u64 0, .int .u64 0, .int .u64 0, .int .u64 0, .int .u64 0, .int .u64 0] ∧ Below w.heap.size w W) ⟨?_, ?_, ?_, ?_⟩ (fun v3 V3 => ?_)
  · have B := V2.out.1.kept hbv
    apply Blk.cast
    · (repeat (first | with_reducible exact B | with_reducible apply Blk.put | with_reducible apply Blk.alloc | (with_reducible apply Blk.aside; (case hp => first | (simp; done) | (simp; omega))) | with_reducible apply Blk.drew))
    · kernel_rfl
  · have B := V2.out.2.1.kept hbv
    (repeat (first | with_reducible exact B | with_reducible apply Blk.put | with_reducible apply Blk.alloc | (with_reducible apply Blk.aside; (case hp => first | (simp; done) | (simp; omega))) | with_reducible apply Blk.drew))
  · have B := V2.out.2.2.1.kept hbv
    (repeat (first | with_reducible exact B | with_reducible apply Blk.put | with_reducible apply Blk.alloc | (with_reducible apply Blk.aside; (case hp => first | (simp; done) | (simp; omega))) | with_reducible apply Blk.drew))
  · have h := V2.out.2.2.2
    have h2 := below_step h hbv
    exact qL
  clear V2 kp fp lp kr lr lz hb3 hc3 hf3 hs3 hb4 hc4 hf4 hs4 hbv z3_w_0 z3_w_1 z3_w_2 z4_w_0 z4_w_1 z4_w_2
  have kp := V3.out.1.cell
  have lp := V3.out.1.lt
  have kz := V3.out.2.2.1.cell
  have fz := V3.out.2.2.1.free
  have lz := V3.out.2.2.1.lt
  go_wp2_with fail
  have B := V3.out.2.2.1
  have hb9 := V3.out.2.2.2
  have hl : w.heap.size ≤ w.heap.size + 1 + 1 := by omega
  refine bodyPost_ret (results_bt rfl _ _ (w.heap.size + 1 + 1) _ _ _ rfl (Blk.cast (((((((((B.put 0 _).put 1 _).put 2 _).put 3 _).put 4 _).put 5 _).put 6 _).put 7 _).put 8 _) (by kernel_rfl)) Tryz.underlying75 rfl (by kernel_rfl)) rfl ⟨rfl, (((((((((hb9.setCell hl _).setCell hl _).setCell hl _).setCell hl _).setCell hl _).setCell hl _).setCell hl _).setCell hl _).setCell hl _)⟩
end Go.Proofs.YtcoiehgcfjfhaaaGreatDoor
