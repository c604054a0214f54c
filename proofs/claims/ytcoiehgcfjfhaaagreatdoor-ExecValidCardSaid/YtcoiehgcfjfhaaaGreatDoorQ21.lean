/- hashindex.fillSlots in the example. -/
import Derived.Test.YtcoiehgcfjfhaaaGreatDoorQ20
set_option linter.all false
set_option maxRecDepth 20000
set_option maxHeartbeats 8000000
open Go.Lib (hid)
namespace Go.Proofs.YtcoiehgcfjfhaaaGreatDoor
open Go.RowKit
def dirTag : Bt.Page := ⟨107, 256, 259, 0, 0, 0, 0, 0, 0⟩
def dirPage : Bt.Page := ⟨107, 256, 259, 362, 0, 0, 0, 0, 0⟩
def slotCells : Array Value := #[.int .i64 106, .int .i64 1, .int .i64 0, .int .i64 0, .int .i64 0, .int .i64 0, .int .i64 0, .int .i64 0, .int .i64 0, .int .i64 0, .int .i64 0, .int .i64 0, .int .i64 0, .int .i64 0, .int .i64 0, .int .i64 0]
theorem pack_106 (w : World) : Calls Tryz.prog 207 #[.agg #[.int .i64 106, .int .i64 1]] w fun e w' => e = .returned (.int .u32 362) ∧ Below w.heap.size w w' := Pack_any 106 1 w
theorem pack_107 (w : World) : Calls Tryz.prog 207 #[.agg #[.int .i64 107, .int .i64 1]] w fun e w' => e = .returned (.int .u32 363) ∧ Below w.heap.size w w' := Pack_any 107 1 w
theorem hiFillSlots (w : World) : Calls Tryz.prog 268 #[.agg dirTag.cells, .agg slotCells] w fun e w' => e = .returned (.agg dirPage.cells) ∧ Below w.heap.size w w' := by
  have HU : Hid (∀ W, Calls Tryz.prog 160 #[.int .u64 259] W fun e w' => e = .returned (.agg #[.int .i64 3, .int .i64 1, .int .u32 0]) ∧ Below W.heap.size W w') := hid (fun W => UnpackTag_any 259 (by omega) (by omega) W)
  have HT : Hid (∀ W, Calls Tryz.prog 208 #[.agg #[.int .i64 3, .int .i64 1, .int .u32 0]] W fun e w' => e = .returned (.int .u64 259) ∧ Below W.heap.size W w') := hid (fun W => PackTag_any 3 1 0 (by omega) (by omega) (by omega) W)
  have HP0 := hid (fun W => pack_nil W)
  have HP := hid (fun W => pack_106 W)
  unfold dirTag dirPage Bt.Page.cells slotCells
  simp only
  go_enter Tryz.func268, Tryz.ntmps268
  go_wp2_with fail
  go_at_call 160; refine (HU.out _).mono ?_; rintro e1 w1 ⟨rfl, hb1⟩; ((obtain ⟨hc1, hf1, hs1⟩ := qR hb1); (try have z1_w_0 := qN0 w w1); (try have z1_w_1 := qN1 w w1); (try have z1_w_2 := qN2 w w1))
  go_wp2_with fail
  go_at_call 208; refine (HT.out _).mono ?_; rintro e2 w2 ⟨rfl, hb2⟩; ((obtain ⟨hc2, hf2, hs2⟩ := qR hb2); (try have z2_w_0 := qN0 w w2); (try have z2_w_1 := qN1 w w2); (try have z2_w_2 := qN2 w w2); (try have z2_w1_0 := qN0 w1 w2))
  have P0 := ((((Blk.made w 75 #[.int .i64 107, .int .u64 256, .int .u64 259, .int .u64 0, .int .u64 0, .int .u64 0, .int .u64 0, .int .u64 0, .int .u64 0]).alloc (.cells #[.int .i64 106, .int .i64 1, .int .i64 0, .int .i64 0, .int .i64 0, .int .i64 0, .int .i64 0, .int .i64 0, .int .i64 0, .int .i64 0, .int .i64 0, .int .i64 0, .int .i64 0, .int .i64 0, .int .i64 0, .int .i64 0] 396)).alloc (.cells #[.int .i64 0, .int .u64 0, .int .u64 0, .int .u64 0, .int .u64 0, .int .u64 0, .int .u64 0, .int .u64 0, .int .u64 0] 75)).kept hb1)
  have Z0 := (Blk.made' (w := (w.alloc (.cells #[.int .i64 107, .int .u64 256, .int .u64 259, .int .u64 0, .int .u64 0, .int .u64 0, .int .u64 0, .int .u64 0, .int .u64 0] 75)).alloc (.cells #[.int .i64 106, .int .i64 1, .int .i64 0, .int .i64 0, .int .i64 0, .int .i64 0, .int .i64 0, .int .i64 0, .int .i64 0, .int .i64 0, .int .i64 0, .int .i64 0, .int .i64 0, .int .i64 0, .int .i64 0, .int .i64 0] 396)) (t := 75) (cs := #[.int .i64 0, .int .u64 0, .int .u64 0, .int .u64 0, .int .u64 0, .int .u64 0, .int .u64 0, .int .u64 0, .int .u64 0]) rfl).kept hb1
  simp only [size_alloc] at Z0
  have HB := hid (And.intro P0 Z0)
  clear P0 Z0
  go_wp2_with fail
  refine wp_name (fun W => Blk W w.heap.size 75 #[.int .i64 107, .int .u64 256, .int .u64 259, .int .u64 0, .int .u64 0, .int .u64 0, .int .u64 0, .int .u64 0, .int .u64 0] ∧ Blk W (w.heap.size + 1 + 1) 75 #[.int .i64 0, .int .u64 0, .int .u64 0, .int .u64 0, .int .u64 0, .int .u64 0, .int .u64 0, .int .u64 0, .int .u64 0] ∧ Below w.heap.size w W) ⟨?_, ?_, ?_⟩ (fun v0 V0 => ?_)
  · have B := (HB.out.1.alloc (.cells #[.int .i64 3, .int .i64 1, .int .u32 0] 278)).kept hb2
    apply Blk.cast
    · (repeat (first | with_reducible exact B | with_reducible apply Blk.put | with_reducible apply Blk.alloc | (with_reducible apply Blk.aside; (case hp => first | (simp; done) | (simp; omega))) | with_reducible apply Blk.drew))
    · kernel_rfl
  · have B := (HB.out.2.alloc (.cells #[.int .i64 3, .int .i64 1, .int .u32 0] 278)).kept hb2
    (repeat (first | with_reducible exact B | with_reducible apply Blk.put | with_reducible apply Blk.alloc | (with_reducible apply Blk.aside; (case hp => first | (simp; done) | (simp; omega))) | with_reducible apply Blk.drew))
  · exact qL
  clear HB HU HT hb1 hc1 hf1 hs1 hb2 hc2 hf2 hs2 z1_w_0 z1_w_1 z1_w_2 z2_w_0 z2_w_1 z2_w_2 z2_w1_0
  have x0 : ∀ W, (Instr.index 396 (.agg #[.int .i64 106, .int .i64 1, .int .i64 0, .int .i64 0, .int .i64 0, .int .i64 0, .int .i64 0, .int .i64 0, .int .i64 0, .int .i64 0, .int .i64 0, .int .i64 0, .int .i64 0, .int .i64 0, .int .i64 0, .int .i64 0]) (.int .i64 0)).run Tryz.prog W = .ok (.agg #[.int .i64 106, .int .i64 1]) W := fun W => by kernel_rfl
  have x1 : ∀ W, (Instr.index 396 (.agg #[.int .i64 106, .int .i64 1, .int .i64 0, .int .i64 0, .int .i64 0, .int .i64 0, .int .i64 0, .int .i64 0, .int .i64 0, .int .i64 0, .int .i64 0, .int .i64 0, .int .i64 0, .int .i64 0, .int .i64 0, .int .i64 0]) (.int .i64 1)).run Tryz.prog W = .ok (.agg #[.int .i64 0, .int .i64 0]) W := fun W => by kernel_rfl
  have x2 : ∀ W, (Instr.index 396 (.agg #[.int .i64 106, .int .i64 1, .int .i64 0, .int .i64 0, .int .i64 0, .int .i64 0, .int .i64 0, .int .i64 0, .int .i64 0, .int .i64 0, .int .i64 0, .int .i64 0, .int .i64 0, .int .i64 0, .int .i64 0, .int .i64 0]) (.int .i64 2)).run Tryz.prog W = .ok (.agg #[.int .i64 0, .int .i64 0]) W := fun W => by kernel_rfl
  have x3 : ∀ W, (Instr.index 396 (.agg #[.int .i64 106, .int .i64 1, .int .i64 0, .int .i64 0, .int .i64 0, .int .i64 0, .int .i64 0, .int .i64 0, .int .i64 0, .int .i64 0, .int .i64 0, .int .i64 0, .int .i64 0, .int .i64 0, .int .i64 0, .int .i64 0]) (.int .i64 3)).run Tryz.prog W = .ok (.agg #[.int .i64 0, .int .i64 0]) W := fun W => by kernel_rfl
  have x4 : ∀ W, (Instr.index 396 (.agg #[.int .i64 106, .int .i64 1, .int .i64 0, .int .i64 0, .int .i64 0, .int .i64 0, .int .i64 0, .int .i64 0, .int .i64 0, .int .i64 0, .int .i64 0, .int .i64 0, .int .i64 0, .int .i64 0, .int .i64 0, .int .i64 0]) (.int .i64 4)).run Tryz.prog W = .ok (.agg #[.int .i64 0, .int .i64 0]) W := fun W => by kernel_rfl
  have x5 : ∀ W, (Instr.index 396 (.agg #[.int .i64 106, .int .i64 1, .int .i64 0, .int .i64 0, .int .i64 0, .int .i64 0, .int .i64 0, .int .i64 0, .int .i64 0, .int .i64 0, .int .i64 0, .int .i64 0, .int .i64 0, .int .i64 0, .int .i64 0, .int .i64 0]) (.int .i64 5)).run Tryz.prog W = .ok (.agg #[.int .i64 0, .int .i64 0]) W := fun W => by kernel_rfl
  have x6 : ∀ W, (Instr.index 396 (.agg #[.int .i64 106, .int .i64 1, .int .i64 0, .int .i64 0, .int .i64 0, .int .i64 0, .int .i64 0, .int .i64 0, .int .i64 0, .int .i64 0, .int .i64 0, .int .i64 0, .int .i64 0, .int .i64 0, .int .i64 0, .int .i64 0]) (.int .i64 6)).run Tryz.prog W = .ok (.agg #[.int .i64 0, .int .i64 0]) W := fun W => by kernel_rfl
  have x7 : ∀ W, (Instr.index 396 (.agg #[.int .i64 106, .int .i64 1, .int .i64 0, .int .i64 0, .int .i64 0, .int .i64 0, .int .i64 0, .int .i64 0, .int .i64 0, .int .i64 0, .int .i64 0, .int .i64 0, .int .i64 0, .int .i64 0, .int .i64 0, .int .i64 0]) (.int .i64 7)).run Tryz.prog W = .ok (.agg #[.int .i64 0, .int .i64 0]) W := fun W => by kernel_rfl
  have wi0 : IntKind.i64.wrap 0 = 0 := by rw [IntKind.wrap_i64]; omega
  have wi1 : IntKind.i64.wrap 1 = 1 := by rw [IntKind.wrap_i64]; omega
  have wi2 : IntKind.i64.wrap 2 = 2 := by rw [IntKind.wrap_i64]; omega
  have wi3 : IntKind.i64.wrap 3 = 3 := by rw [IntKind.wrap_i64]; omega
  have wi4 : IntKind.i64.wrap 4 = 4 := by rw [IntKind.wrap_i64]; omega
  have wi32 : IntKind.i64.wrap 32 = 32 := by rw [IntKind.wrap_i64]; omega
  have wu0 : IntKind.u64.wrap 0 = 0 := by rw [IntKind.wrap_u64]; omega
  have wu32 : IntKind.u64.wrap 32 = 32 := by rw [IntKind.wrap_u64]; omega
  have wu362 : IntKind.u64.wrap 362 = 362 := by rw [IntKind.wrap_u64]; omega
  have wu4294967296 : IntKind.u64.wrap 4294967296 = 4294967296 := by rw [IntKind.wrap_u64]; omega
  have o0_362 : bits BinOp.or IntKind.u64 0 362 = 362 := by kernel_rfl
  have o362_0 : bits BinOp.or IntKind.u64 362 0 = 362 := by kernel_rfl
  have o0_0 : bits BinOp.or IntKind.u64 0 0 = 0 := by kernel_rfl
  refine wp_loop_rounds 9 ?_
  rw [rounds_succ]
  have kp := V0.out.1.cell
  have fp := V0.out.1.free
  have lp := V0.out.1.lt
  have lz := V0.out.2.1.lt
  go_upto_region 7 with (fail)
  refine wp_region_late (S := SteadyAll _) (last := 17) (by kernel_rfl) (by kernel_rfl) (SteadyAll.of (Below.refl _ _).drew) ?_
  intro hSt
  refine wpAnyL_seq (is := [0, 1, 2, 3, 4, 5, 6, 9, 10, 11, 12, 15]) (by kernel_rfl) (by kernel_rfl) (fun _ _ d _ _ h => by cases d <;> exact h) (by assumption) ?_
  iterate 12 (refine qU ?_; simp only [Act.put, qY])
  refine TakeSeqL.done ?_
  refine qHL 7 fun K hK => ?_
  go_simp
  go_at_call 207; refine (HP.out _).mono ?_; rintro e3 w3 ⟨rfl, hb3⟩; ((obtain ⟨hc3, hf3, hs3⟩ := qR hb3); (try have z3_w_0 := qN0 w w3); (try have z3_w_1 := qN1 w w3); (try have z3_w_2 := qN2 w w3); (try have z3_v0_0 := qN0 v0 w3))
  go_wp2_with fail
  refine hK.out _ _ (SteadyAll.of qL) (fun hHeld => ?_)
  clear hK K
  refine wpAnyL_seq (is := [8, 13, 14, 16]) (by kernel_rfl) (by kernel_rfl) (fun _ _ d _ _ h => by cases d <;> exact h) (by assumption) ?_
  iterate 4 (refine qU ?_; simp only [Act.put, qY])
  refine TakeSeqL.done ?_
  refine wpAnyL_ready (rs := [17]) (by kernel_rfl) (by simp) ?_
  refine AllReadyL.final rfl (fun K hK => ?_)
  rw [if_pos (by rfl)]
  go_simp
  refine hK.out _ _ ?_
  clear hK K
  refine wpAnyL_done (by kernel_rfl) ?_ _
  have hb40 : Below v0.heap.size v0 w3 := qL
  go_wp2_with fail
  refine wp_name (fun W => Blk W w.heap.size 75 #[.int .i64 107, .int .u64 256, .int .u64 259, .int .u64 362, .int .u64 0, .int .u64 0, .int .u64 0, .int .u64 0, .int .u64 0] ∧ Blk W (w.heap.size + 1 + 1) 75 #[.int .i64 0, .int .u64 0, .int .u64 0, .int .u64 0, .int .u64 0, .int .u64 0, .int .u64 0, .int .u64 0, .int .u64 0] ∧ Below w.heap.size w W) ⟨?_, ?_, ?_⟩ (fun v1 V1 => ?_)
  · have B := V0.out.1.kept hb40
    apply Blk.cast
    · (repeat (first | with_reducible exact B | with_reducible apply Blk.put | with_reducible apply Blk.alloc | (with_reducible apply Blk.aside; (case hp => first | (simp; done) | (simp; omega))) | with_reducible apply Blk.drew))
    · kernel_rfl
  · have B := V0.out.2.1.kept hb40
    (repeat (first | with_reducible exact B | with_reducible apply Blk.put | with_reducible apply Blk.alloc | (with_reducible apply Blk.aside; (case hp => first | (simp; done) | (simp; omega))) | with_reducible apply Blk.drew))
  · have h := V0.out.2.2
    have h2 : Below w.heap.size w w3 := below_step h hb40
    exact qL
  clear V0 kp fp lp lz hb3 hc3 hf3 hs3 hb40 z3_w_0 z3_w_1 z3_w_2 z3_v0_0
  have kp := V1.out.1.cell
  have fp := V1.out.1.free
  have lp := V1.out.1.lt
  have lz := V1.out.2.1.lt
  go_upto_region 7 with (fail)
  refine wp_region_late (S := SteadyAll _) (last := 17) (by kernel_rfl) (by kernel_rfl) (SteadyAll.of (Below.refl _ _).drew) ?_
  intro hSt
  refine wpAnyL_seq (is := [0, 1, 2, 3, 4, 5, 6, 9, 10, 11, 12, 15]) (by kernel_rfl) (by kernel_rfl) (fun _ _ d _ _ h => by cases d <;> exact h) (by assumption) ?_
  iterate 12 (refine qU ?_; simp only [Act.put, qY])
  refine TakeSeqL.done ?_
  refine qHL 7 fun K hK => ?_
  go_simp
  go_at_call 207; refine (HP0.out _).mono ?_; rintro e3 w3 ⟨rfl, hb3⟩; ((obtain ⟨hc3, hf3, hs3⟩ := qR hb3); (try have z3_w_0 := qN0 w w3); (try have z3_w_1 := qN1 w w3); (try have z3_w_2 := qN2 w w3); (try have z3_v1_0 := qN0 v1 w3))
  go_wp2_with fail
  refine hK.out _ _ (SteadyAll.of qL) (fun hHeld => ?_)
  clear hK K
  refine wpAnyL_seq (is := [8, 13, 14, 16]) (by kernel_rfl) (by kernel_rfl) (fun _ _ d _ _ h => by cases d <;> exact h) (by assumption) ?_
  iterate 4 (refine qU ?_; simp only [Act.put, qY])
  refine TakeSeqL.done ?_
  refine wpAnyL_ready (rs := [17]) (by kernel_rfl) (by simp) ?_
  refine AllReadyL.final rfl (fun K hK => ?_)
  rw [if_pos (by rfl)]
  go_simp
  refine hK.out _ _ ?_
  clear hK K
  refine wpAnyL_done (by kernel_rfl) ?_ _
  have hb41 : Below v1.heap.size v1 w3 := qL
  go_wp2_with fail
  refine wp_name (fun W => Blk W w.heap.size 75 #[.int .i64 107, .int .u64 256, .int .u64 259, .int .u64 362, .int .u64 0, .int .u64 0, .int .u64 0, .int .u64 0, .int .u64 0] ∧ Blk W (w.heap.size + 1 + 1) 75 #[.int .i64 0, .int .u64 0, .int .u64 0, .int .u64 0, .int .u64 0, .int .u64 0, .int .u64 0, .int .u64 0, .int .u64 0] ∧ Below w.heap.size w W) ⟨?_, ?_, ?_⟩ (fun v2 V2 => ?_)
  · have B := V1.out.1.kept hb41
    apply Blk.cast
    · (repeat (first | with_reducible exact B | with_reducible apply Blk.put | with_reducible apply Blk.alloc | (with_reducible apply Blk.aside; (case hp => first | (simp; done) | (simp; omega))) | with_reducible apply Blk.drew))
    · kernel_rfl
  · have B := V1.out.2.1.kept hb41
    (repeat (first | with_reducible exact B | with_reducible apply Blk.put | with_reducible apply Blk.alloc | (with_reducible apply Blk.aside; (case hp => first | (simp; done) | (simp; omega))) | with_reducible apply Blk.drew))
  · have h := V1.out.2.2
    have h2 : Below w.heap.size w w3 := below_step h hb41
    exact qL
  clear V1 kp fp lp lz hb3 hc3 hf3 hs3 hb41 z3_w_0 z3_w_1 z3_w_2 z3_v1_0
  have kp := V2.out.1.cell
  have fp := V2.out.1.free
  have lp := V2.out.1.lt
  have lz := V2.out.2.1.lt
  go_upto_region 7 with (fail)
  refine wp_region_late (S := SteadyAll _) (last := 17) (by kernel_rfl) (by kernel_rfl) (SteadyAll.of (Below.refl _ _).drew) ?_
  intro hSt
  refine wpAnyL_seq (is := [0, 1, 2, 3, 4, 5, 6, 9, 10, 11, 12, 15]) (by kernel_rfl) (by kernel_rfl) (fun _ _ d _ _ h => by cases d <;> exact h) (by assumption) ?_
  iterate 12 (refine qU ?_; simp only [Act.put, qY])
  refine TakeSeqL.done ?_
  refine qHL 7 fun K hK => ?_
  go_simp
  go_at_call 207; refine (HP0.out _).mono ?_; rintro e3 w3 ⟨rfl, hb3⟩; ((obtain ⟨hc3, hf3, hs3⟩ := qR hb3); (try have z3_w_0 := qN0 w w3); (try have z3_w_1 := qN1 w w3); (try have z3_w_2 := qN2 w w3); (try have z3_v2_0 := qN0 v2 w3))
  go_wp2_with fail
  refine hK.out _ _ (SteadyAll.of qL) (fun hHeld => ?_)
  clear hK K
  refine wpAnyL_seq (is := [8, 13, 14, 16]) (by kernel_rfl) (by kernel_rfl) (fun _ _ d _ _ h => by cases d <;> exact h) (by assumption) ?_
  iterate 4 (refine qU ?_; simp only [Act.put, qY])
  refine TakeSeqL.done ?_
  refine wpAnyL_ready (rs := [17]) (by kernel_rfl) (by simp) ?_
  refine AllReadyL.final rfl (fun K hK => ?_)
  rw [if_pos (by rfl)]
  go_simp
  refine hK.out _ _ ?_
  clear hK K
  refine wpAnyL_done (by kernel_rfl) ?_ _
  have hb42 : Below v2.heap.size v2 w3 := qL
  go_wp2_with fail
  refine wp_name (fun W => Blk W w.heap.size 75 #[.int .i64 107, .int .u64 256, .int .u64 259, .int .u64 362, .int .u64 0, .int .u64 0, .int .u64 0, .int .u64 0, .int .u64 0] ∧ Blk W (w.heap.size + 1 + 1) 75 #[.int .i64 0, .int .u64 0, .int .u64 0, .int .u64 0, .int .u64 0, .int .u64 0, .int .u64 0, .int .u64 0, .int .u64 0] ∧ Below w.heap.size w W) ⟨?_, ?_, ?_⟩ (fun v3 V3 => ?_)
  · have B := V2.out.1.kept hb42
    apply Blk.cast
    · (repeat (first | with_reducible exact B | with_reducible apply Blk.put | with_reducible apply Blk.alloc | (with_reducible apply Blk.aside; (case hp => first | (simp; done) | (simp; omega))) | with_reducible apply Blk.drew))
    · kernel_rfl
  · have B := V2.out.2.1.kept hb42
    (repeat (first | with_reducible exact B | with_reducible apply Blk.put | with_reducible apply Blk.alloc | (with_reducible apply Blk.aside; (case hp => first | (simp; done) | (simp; omega))) | with_reducible apply Blk.drew))
  · have h := V2.out.2.2
    have h2 : Below w.heap.size w w3 := below_step h hb42
    exact qL
  clear V2 kp fp lp lz hb3 hc3 hf3 hs3 hb42 z3_w_0 z3_w_1 z3_w_2 z3_v2_0
  have kp := V3.out.1.cell
  have fp := V3.out.1.free
  have lp := V3.out.1.lt
  have lz := V3.out.2.1.lt
  go_upto_region 7 with (fail)
  refine wp_region_late (S := SteadyAll _) (last := 17) (by kernel_rfl) (by kernel_rfl) (SteadyAll.of (Below.refl _ _).drew) ?_
  intro hSt
  refine wpAnyL_seq (is := [0, 1, 2, 3, 4, 5, 6, 9, 10, 11, 12, 15]) (by kernel_rfl) (by kernel_rfl) (fun _ _ d _ _ h => by cases d <;> exact h) (by assumption) ?_
  iterate 12 (refine qU ?_; simp only [Act.put, qY])
  refine TakeSeqL.done ?_
  refine qHL 7 fun K hK => ?_
  go_simp
  go_at_call 207; refine (HP0.out _).mono ?_; rintro e3 w3 ⟨rfl, hb3⟩; ((obtain ⟨hc3, hf3, hs3⟩ := qR hb3); (try have z3_w_0 := qN0 w w3); (try have z3_w_1 := qN1 w w3); (try have z3_w_2 := qN2 w w3); (try have z3_v3_0 := qN0 v3 w3))
  go_wp2_with fail
  refine hK.out _ _ (SteadyAll.of qL) (fun hHeld => ?_)
  clear hK K
  refine wpAnyL_seq (is := [8, 13, 14, 16]) (by kernel_rfl) (by kernel_rfl) (fun _ _ d _ _ h => by cases d <;> exact h) (by assumption) ?_
  iterate 4 (refine qU ?_; simp only [Act.put, qY])
  refine TakeSeqL.done ?_
  refine wpAnyL_ready (rs := [17]) (by kernel_rfl) (by simp) ?_
  refine AllReadyL.final rfl (fun K hK => ?_)
  rw [if_pos (by rfl)]
  go_simp
  refine hK.out _ _ ?_
  clear hK K
  refine wpAnyL_done (by kernel_rfl) ?_ _
  have hb43 : Below v3.heap.size v3 w3 := qL
  go_wp2_with fail
  refine wp_name (fun W => Blk W w.heap.size 75 #[.int .i64 107, .int .u64 256, .int .u64 259, .int .u64 362, .int .u64 0, .int .u64 0, .int .u64 0, .int .u64 0, .int .u64 0] ∧ Blk W (w.heap.size + 1 + 1) 75 #[.int .i64 0, .int .u64 0, .int .u64 0, .int .u64 0, .int .u64 0, .int .u64 0, .int .u64 0, .int .u64 0, .int .u64 0] ∧ Below w.heap.size w W) ⟨?_, ?_, ?_⟩ (fun v4 V4 => ?_)
  · have B := V3.out.1.kept hb43
    apply Blk.cast
    · (repeat (first | with_reducible exact B | with_reducible apply Blk.put | with_reducible apply Blk.alloc | (with_reducible apply Blk.aside; (case hp => first | (simp; done) | (simp; omega))) | with_reducible apply Blk.drew))
    · kernel_rfl
  · have B := V3.out.2.1.kept hb43
    (repeat (first | with_reducible exact B | with_reducible apply Blk.put | with_reducible apply Blk.alloc | (with_reducible apply Blk.aside; (case hp => first | (simp; done) | (simp; omega))) | with_reducible apply Blk.drew))
  · have h := V3.out.2.2
    have h2 : Below w.heap.size w w3 := below_step h hb43
    exact qL
  clear V3 kp fp lp lz hb3 hc3 hf3 hs3 hb43 z3_w_0 z3_w_1 z3_w_2 z3_v3_0
  have kp := V4.out.1.cell
  have fp := V4.out.1.free
  have lp := V4.out.1.lt
  have lz := V4.out.2.1.lt
  go_upto_region 7 with (fail)
  refine wp_region_late (S := SteadyAll _) (last := 17) (by kernel_rfl) (by kernel_rfl) (SteadyAll.of (Below.refl _ _).drew) ?_
  intro hSt
  refine wpAnyL_seq (is := [0, 1, 2, 3, 4, 5, 6, 9, 10, 11, 12, 15]) (by kernel_rfl) (by kernel_rfl) (fun _ _ d _ _ h => by cases d <;> exact h) (by assumption) ?_
  iterate 12 (refine qU ?_; simp only [Act.put, qY])
  refine TakeSeqL.done ?_
  refine qHL 7 fun K hK => ?_
  go_simp
  go_at_call 207; refine (HP0.out _).mono ?_; rintro e3 w3 ⟨rfl, hb3⟩; ((obtain ⟨hc3, hf3, hs3⟩ := qR hb3); (try have z3_w_0 := qN0 w w3); (try have z3_w_1 := qN1 w w3); (try have z3_w_2 := qN2 w w3); (try have z3_v4_0 := qN0 v4 w3))
  go_wp2_with fail
  refine hK.out _ _ (SteadyAll.of qL) (fun hHeld => ?_)
  clear hK K
  refine wpAnyL_seq (is := [8, 13, 14, 16]) (by kernel_rfl) (by kernel_rfl) (fun _ _ d _ _ h => by cases d <;> exact h) (by assumption) ?_
  iterate 4 (refine qU ?_; simp only [Act.put, qY])
  refine TakeSeqL.done ?_
  refine wpAnyL_ready (rs := [17]) (by kernel_rfl) (by simp) ?_
  refine AllReadyL.final rfl (fun K hK => ?_)
  rw [if_pos (by rfl)]
  go_simp
  refine hK.out _ _ ?_
  clear hK K
  refine wpAnyL_done (by kernel_rfl) ?_ _
  have hb44 : Below v4.heap.size v4 w3 := qL
  go_wp2_with fail
  refine wp_name (fun W => Blk W w.heap.size 75 #[.int .i64 107, .int .u64 256, .int .u64 259, .int .u64 362, .int .u64 0, .int .u64 0, .int .u64 0, .int .u64 0, .int .u64 0] ∧ Blk W (w.heap.size + 1 + 1) 75 #[.int .i64 0, .int .u64 0, .int .u64 0, .int .u64 0, .int .u64 0, .int .u64 0, .int .u64 0, .int .u64 0, .int .u64 0] ∧ Below w.heap.size w W) ⟨?_, ?_, ?_⟩ (fun v5 V5 => ?_)
  · have B := V4.out.1.kept hb44
    apply Blk.cast
    · (repeat (first | with_reducible exact B | with_reducible apply Blk.put | with_reducible apply Blk.alloc | (with_reducible apply Blk.aside; (case hp => first | (simp; done) | (simp; omega))) | with_reducible apply Blk.drew))
    · kernel_rfl
  · have B := V4.out.2.1.kept hb44
    (repeat (first | with_reducible exact B | with_reducible apply Blk.put | with_reducible apply Blk.alloc | (with_reducible apply Blk.aside; (case hp => first | (simp; done) | (simp; omega))) | with_reducible apply Blk.drew))
  · have h := V4.out.2.2
    have h2 : Below w.heap.size w w3 := below_step h hb44
    exact qL
  clear V4 kp fp lp lz hb3 hc3 hf3 hs3 hb44 z3_w_0 z3_w_1 z3_w_2 z3_v4_0
  have kp := V5.out.1.cell
  have fp := V5.out.1.free
  have lp := V5.out.1.lt
  have lz := V5.out.2.1.lt
  go_upto_region 7 with (fail)
  refine wp_region_late (S := SteadyAll _) (last := 17) (by kernel_rfl) (by kernel_rfl) (SteadyAll.of (Below.refl _ _).drew) ?_
  intro hSt
  refine wpAnyL_seq (is := [0, 1, 2, 3, 4, 5, 6, 9, 10, 11, 12, 15]) (by kernel_rfl) (by kernel_rfl) (fun _ _ d _ _ h => by cases d <;> exact h) (by assumption) ?_
  iterate 12 (refine qU ?_; simp only [Act.put, qY])
  refine TakeSeqL.done ?_
  refine qHL 7 fun K hK => ?_
  go_simp
  go_at_call 207; refine (HP0.out _).mono ?_; rintro e3 w3 ⟨rfl, hb3⟩; ((obtain ⟨hc3, hf3, hs3⟩ := qR hb3); (try have z3_w_0 := qN0 w w3); (try have z3_w_1 := qN1 w w3); (try have z3_w_2 := qN2 w w3); (try have z3_v5_0 := qN0 v5 w3))
  go_wp2_with fail
  refine hK.out _ _ (SteadyAll.of qL) (fun hHeld => ?_)
  clear hK K
  refine wpAnyL_seq (is := [8, 13, 14, 16]) (by kernel_rfl) (by kernel_rfl) (fun _ _ d _ _ h => by cases d <;> exact h) (by assumption) ?_
  iterate 4 (refine qU ?_; simp only [Act.put, qY])
  refine TakeSeqL.done ?_
  refine wpAnyL_ready (rs := [17]) (by kernel_rfl) (by simp) ?_
  refine AllReadyL.final rfl (fun K hK => ?_)
  rw [if_pos (by rfl)]
  go_simp
  refine hK.out _ _ ?_
  clear hK K
  refine wpAnyL_done (by kernel_rfl) ?_ _
  have hb45 : Below v5.heap.size v5 w3 := qL
  go_wp2_with fail
  refine wp_name (fun W => Blk W w.heap.size 75 #[.int .i64 107, .int .u64 256, .int .u64 259, .int .u64 362, .int .u64 0, .int .u64 0, .int .u64 0, .int .u64 0, .int .u64 0] ∧ Blk W (w.heap.size + 1 + 1) 75 #[.int .i64 0, .int .u64 0, .int .u64 0, .int .u64 0, .int .u64 0, .int .u64 0, .int .u64 0, .int .u64 0, .int .u64 0] ∧ Below w.heap.size w W) ⟨?_, ?_, ?_⟩ (fun v6 V6 => ?_)
  · have B := V5.out.1.kept hb45
    apply Blk.cast
    · (repeat (first | with_reducible exact B | with_reducible apply Blk.put | with_reducible apply Blk.alloc | (with_reducible apply Blk.aside; (case hp => first | (simp; done) | (simp; omega))) | with_reducible apply Blk.drew))
    · kernel_rfl
  · have B := V5.out.2.1.kept hb45
    (repeat (first | with_reducible exact B | with_reducible apply Blk.put | with_reducible apply Blk.alloc | (with_reducible apply Blk.aside; (case hp => first | (simp; done) | (simp; omega))) | with_reducible apply Blk.drew))
  · have h := V5.out.2.2
    have h2 : Below w.heap.size w w3 := below_step h hb45
    exact qL
  clear V5 kp fp lp lz hb3 hc3 hf3 hs3 hb45 z3_w_0 z3_w_1 z3_w_2 z3_v5_0
  have kp := V6.out.1.cell
  have fp := V6.out.1.free
  have lp := V6.out.1.lt
  have lz := V6.out.2.1.lt
  go_upto_region 7 with (fail)
  refine wp_region_late (S := SteadyAll _) (last := 17) (by kernel_rfl) (by kernel_rfl) (SteadyAll.of (Below.refl _ _).drew) ?_
  intro hSt
  refine wpAnyL_seq (is := [0, 1, 2, 3, 4, 5, 6, 9, 10, 11, 12, 15]) (by kernel_rfl) (by kernel_rfl) (fun _ _ d _ _ h => by cases d <;> exact h) (by assumption) ?_
  iterate 12 (refine qU ?_; simp only [Act.put, qY])
  refine TakeSeqL.done ?_
  refine qHL 7 fun K hK => ?_
  go_simp
  go_at_call 207; refine (HP0.out _).mono ?_; rintro e3 w3 ⟨rfl, hb3⟩; ((obtain ⟨hc3, hf3, hs3⟩ := qR hb3); (try have z3_w_0 := qN0 w w3); (try have z3_w_1 := qN1 w w3); (try have z3_w_2 := qN2 w w3); (try have z3_v6_0 := qN0 v6 w3))
  go_wp2_with fail
  refine hK.out _ _ (SteadyAll.of qL) (fun hHeld => ?_)
  clear hK K
  refine wpAnyL_seq (is := [8, 13, 14, 16]) (by kernel_rfl) (by kernel_rfl) (fun _ _ d _ _ h => by cases d <;> exact h) (by assumption) ?_
  iterate 4 (refine qU ?_; simp only [Act.put, qY])
  refine TakeSeqL.done ?_
  refine wpAnyL_ready (rs := [17]) (by kernel_rfl) (by simp) ?_
  refine AllReadyL.final rfl (fun K hK => ?_)
  rw [if_pos (by rfl)]
  go_simp
  refine hK.out _ _ ?_
  clear hK K
  refine wpAnyL_done (by kernel_rfl) ?_ _
  have hb46 : Below v6.heap.size v6 w3 := qL
  go_wp2_with fail
  refine wp_name (fun W => Blk W w.heap.size 75 #[.int .i64 107, .int .u64 256, .int .u64 259, .int .u64 362, .int .u64 0, .int .u64 0, .int .u64 0, .int .u64 0, .int .u64 0] ∧ Blk W (w.heap.size + 1 + 1) 75 #[.int .i64 0, .int .u64 0, .int .u64 0, .int .u64 0, .int .u64 0, .int .u64 0, .int .u64 0, .int .u64 0, .int .u64 0] ∧ Below w.heap.size w W) ⟨?_, ?_, ?_⟩ (fun v7 V7 => ?_)
  · have B := V6.out.1.kept hb46
    apply Blk.cast
    · (repeat (first | with_reducible exact B | with_reducible apply Blk.put | with_reducible apply Blk.alloc | (with_reducible apply Blk.aside; (case hp => first | (simp; done) | (simp; omega))) | with_reducible apply Blk.drew))
    · kernel_rfl
  · have B := V6.out.2.1.kept hb46
    (repeat (first | with_reducible exact B | with_reducible apply Blk.put | with_reducible apply Blk.alloc | (with_reducible apply Blk.aside; (case hp => first | (simp; done) | (simp; omega))) | with_reducible apply Blk.drew))
  · have h := V6.out.2.2
    have h2 : Below w.heap.size w w3 := below_step h hb46
    exact qL
  clear V6 kp fp lp lz hb3 hc3 hf3 hs3 hb46 z3_w_0 z3_w_1 z3_w_2 z3_v6_0
  have kp := V7.out.1.cell
  have fp := V7.out.1.free
  have lp := V7.out.1.lt
  have lz := V7.out.2.1.lt
  go_upto_region 7 with (fail)
  refine wp_region_late (S := SteadyAll _) (last := 17) (by kernel_rfl) (by kernel_rfl) (SteadyAll.of (Below.refl _ _).drew) ?_
  intro hSt
  refine wpAnyL_seq (is := [0, 1, 2, 3, 4, 5, 6, 9, 10, 11, 12, 15]) (by kernel_rfl) (by kernel_rfl) (fun _ _ d _ _ h => by cases d <;> exact h) (by assumption) ?_
  iterate 12 (refine qU ?_; simp only [Act.put, qY])
  refine TakeSeqL.done ?_
  refine qHL 7 fun K hK => ?_
  go_simp
  go_at_call 207; refine (HP0.out _).mono ?_; rintro e3 w3 ⟨rfl, hb3⟩; ((obtain ⟨hc3, hf3, hs3⟩ := qR hb3); (try have z3_w_0 := qN0 w w3); (try have z3_w_1 := qN1 w w3); (try have z3_w_2 := qN2 w w3); (try have z3_v7_0 := qN0 v7 w3))
  go_wp2_with fail
  refine hK.out _ _ (SteadyAll.of qL) (fun hHeld => ?_)
  clear hK K
  refine wpAnyL_seq (is := [8, 13, 14, 16]) (by kernel_rfl) (by kernel_rfl) (fun _ _ d _ _ h => by cases d <;> exact h) (by assumption) ?_
  iterate 4 (refine qU ?_; simp only [Act.put, qY])
  refine TakeSeqL.done ?_
  refine wpAnyL_ready (rs := [17]) (by kernel_rfl) (by simp) ?_
  refine AllReadyL.final rfl (fun K hK => ?_)
  rw [if_pos (by rfl)]
  go_simp
  refine hK.out _ _ ?_
  clear hK K
  refine wpAnyL_done (by kernel_rfl) ?_ _
  have hb47 : Below v7.heap.size v7 w3 := qL
  go_wp2_with fail
  refine wp_name (fun W => Blk W w.heap.size 75 #[.int .i64 107, .int .u64 256, .int .u64 259, .int .u64 362, .int .u64 0, .int .u64 0, .int .u64 0, .int .u64 0, .int .u64 0] ∧ Blk W (w.heap.size + 1 + 1) 75 #[.int .i64 0, .int .u64 0, .int .u64 0, .int .u64 0, .int .u64 0, .int .u64 0, .int .u64 0, .int .u64 0, .int .u64 0] ∧ Below w.heap.size w W) ⟨?_, ?_, ?_⟩ (fun v8 V8 => ?_)
  · have B := V7.out.1.kept hb47
    apply Blk.cast
    · (repeat (first | with_reducible exact B | with_reducible apply Blk.put | with_reducible apply Blk.alloc | (with_reducible apply Blk.aside; (case hp => first | (simp; done) | (simp; omega))) | with_reducible apply Blk.drew))
    · kernel_rfl
  · have B := V7.out.2.1.kept hb47
    (repeat (first | with_reducible exact B | with_reducible apply Blk.put | with_reducible apply Blk.alloc | (with_reducible apply Blk.aside; (case hp => first | (simp; done) | (simp; omega))) | with_reducible apply Blk.drew))
  · have h := V7.out.2.2
    have h2 : Below w.heap.size w w3 := below_step h hb47
    exact qL
  clear V7 kp fp lp lz hb3 hc3 hf3 hs3 hb47 z3_w_0 z3_w_1 z3_w_2 z3_v7_0
  have kp := V8.out.1.cell
  have lp := V8.out.1.lt
  have kz := V8.out.2.1.cell
  have fz := V8.out.2.1.free
  have lz := V8.out.2.1.lt
  go_wp2_with fail
  have B := V8.out.2.1
  have hb9 := V8.out.2.2
  have hl : w.heap.size ≤ w.heap.size + 1 + 1 := by omega
  refine bodyPost_ret (results_b rfl _ _ (w.heap.size + 1 + 1) _ _ _ rfl (Blk.cast (((((((((B.put 0 _).put 1 _).put 2 _).put 3 _).put 4 _).put 5 _).put 6 _).put 7 _).put 8 _) (by kernel_rfl)) Tryz.underlying75 rfl (by kernel_rfl)) rfl ⟨rfl, (((((((((hb9.setCell hl _).setCell hl _).setCell hl _).setCell hl _).setCell hl _).setCell hl _).setCell hl _).setCell hl _).setCell hl _)⟩
end Go.Proofs.YtcoiehgcfjfhaaaGreatDoor
