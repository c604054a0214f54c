/- Package record: the example's row is written; pointer.Allocate of the example's pages. -/
import Derived.Test.YtcoiehgcfjfhaaaGreatDoorQ18
set_option linter.all false
set_option maxRecDepth 20000
set_option maxHeartbeats 8000000
open Go.Lib (hid)
namespace Go.Proofs.YtcoiehgcfjfhaaaGreatDoor
open Go.RowKit
theorem recStamp (w : World) : Calls Tryz.prog 157 #[.int .i64 0, .int .i64 1] w fun e w' => e = .returned (.int .u64 257) ∧ w = w' := by
  have a0 : bits BinOp.or IntKind.u64 256 1 = 257 := by kernel_rfl
  go_enter Tryz.func157, Tryz.ntmps157
  go_wp2
  refine bodyPost_ret (results_tmp rfl _ _ _) rfl ⟨rfl, rfl⟩
theorem recOrigin (w : World) : Calls Tryz.prog 198 #[.int .u64 257] w fun e w' => e = .returned (.tuple #[.int .i64 0, .int .i64 1, .bool true]) ∧ w = w' := by
  have HS := hid (fun W => recStamp W)
  have a0 : bits BinOp.and IntKind.u64 257 255 = 1 := by kernel_rfl
  go_enter Tryz.func198, Tryz.ntmps198
  go_wp2_with fail
  go_at_call 157; refine (HS.out _).mono ?_; rintro e w1 ⟨rfl, hw⟩; obtain rfl := hw
  go_wp2_with fail
  refine bodyPost_ret (results_tmp3 rfl _ _ _) rfl ⟨rfl, rfl⟩
def verCells : Array Value := #[.int .u32 5, .int .i64 1, .int .i64 2, .int .i64 3, .bool false, .int .u32 0, .int .u64 257, .int .i64 0, .int .i64 0]
theorem recValid (w : World) : Calls Tryz.prog 159 #[.agg verCells] w fun e w' => e = .returned (.bool true) ∧ Below w.heap.size w w' := by
  have HO := hid (fun W => recOrigin W)
  have ne := neq_ptr
  have e1 : peq 0 0 0 0 = true := rfl
  unfold verCells
  go_enter Tryz.func159, Tryz.ntmps159
  go_wp2_with fail
  go_at_call 198; refine (HO.out _).mono ?_; rintro e w1 ⟨rfl, hw⟩; obtain rfl := hw
  go_wp2_with fail
  refine bodyPost_ret (results_tmp rfl _ _ _) rfl ⟨rfl, qL⟩
def recTag : Bt.Page := ⟨105, 256, 257, 0, 0, 0, 0, 0, 0⟩
def recPage : Bt.Page := ⟨105, 256, 257, 5, 1, 2, 3, 257, 0⟩
theorem unpackTag_257 (w : World) : Calls Tryz.prog 160 #[.int .u64 257] w fun e w' => e = .returned (.agg #[.int .i64 1, .int .i64 1, .int .u32 0]) ∧ Below w.heap.size w w' := UnpackTag_any 257 (by omega) (by omega) w
theorem packTag_257 (w : World) : Calls Tryz.prog 208 #[.agg #[.int .i64 1, .int .i64 1, .int .u32 0]] w fun e w' => e = .returned (.int .u64 257) ∧ Below w.heap.size w w' := PackTag_any 1 1 0 (by omega) (by omega) (by omega) w
theorem pack_nil (w : World) : Calls Tryz.prog 207 #[.agg #[.int .i64 0, .int .i64 0]] w fun e w' => e = .returned (.int .u32 0) ∧ Below w.heap.size w w' := Pack_any 0 0 w
theorem recFill (w : World) : Calls Tryz.prog 161 #[.agg recTag.cells, .agg verCells] w fun e w' => e = .returned (.agg recPage.cells) ∧ Below w.heap.size w w' := by
  have HU := hid (fun W => unpackTag_257 W)
  have HT := hid (fun W => packTag_257 W)
  have HP := hid (fun W => pack_nil W)
  unfold verCells recTag recPage Bt.Page.cells
  go_enter Tryz.func161, Tryz.ntmps161
  go_wp2_with fail
  go_at_call 160; refine (HU.out _).mono ?_; rintro e w1 ⟨rfl, hb1⟩; ((obtain ⟨hc1, hf1, hs1⟩ := qR hb1); (try have z1_w_0 := qN0 w w1); (try have z1_w_1 := qN1 w w1); (try have z1_w_2 := qN2 w w1))
  go_upto_region 4 with (fail)
  have hx : w.heap.size + 1 + 1 < w1.heap.size := by omega
  have P0 := (((Blk.made w 75 #[.int .i64 105, .int .u64 256, .int .u64 257, .int .u64 0, .int .u64 0, .int .u64 0, .int .u64 0, .int .u64 0, .int .u64 0]).alloc (.cells #[.int .u32 5, .int .i64 1, .int .i64 2, .int .i64 3, .bool false, .int .u32 0, .int .u64 257, .int .i64 0, .int .i64 0] 177)).alloc (.cells #[.int .i64 0, .int .u64 0, .int .u64 0, .int .u64 0, .int .u64 0, .int .u64 0, .int .u64 0, .int .u64 0, .int .u64 0] 75)).kept hb1
  have V0 := ((Blk.made' (w := w.alloc (.cells #[.int .i64 105, .int .u64 256, .int .u64 257, .int .u64 0, .int .u64 0, .int .u64 0, .int .u64 0, .int .u64 0, .int .u64 0] 75)) (t := 177) (cs := #[.int .u32 5, .int .i64 1, .int .i64 2, .int .i64 3, .bool false, .int .u32 0, .int .u64 257, .int .i64 0, .int .i64 0]) rfl).alloc (.cells #[.int .i64 0, .int .u64 0, .int .u64 0, .int .u64 0, .int .u64 0, .int .u64 0, .int .u64 0, .int .u64 0, .int .u64 0] 75)).kept hb1
  have Z0 := (Blk.made' (w := (w.alloc (.cells #[.int .i64 105, .int .u64 256, .int .u64 257, .int .u64 0, .int .u64 0, .int .u64 0, .int .u64 0, .int .u64 0, .int .u64 0] 75)).alloc (.cells #[.int .u32 5, .int .i64 1, .int .i64 2, .int .i64 3, .bool false, .int .u32 0, .int .u64 257, .int .i64 0, .int .i64 0] 177)) (t := 75) (cs := #[.int .i64 0, .int .u64 0, .int .u64 0, .int .u64 0, .int .u64 0, .int .u64 0, .int .u64 0, .int .u64 0, .int .u64 0]) rfl).kept hb1
  simp only [size_alloc] at V0 Z0
  have T0 := Blk.made w1 278 #[.int .i64 1, .int .i64 1, .int .u32 0]
  obtain ⟨x1, hx1⟩ : ∃ x, w1.heap.size = x := ⟨_, rfl⟩
  refine wp_name (fun W => Blk W w.heap.size 75 #[.int .i64 105, .int .u64 256, .int .u64 0, .int .u64 0, .int .u64 0, .int .u64 0, .int .u64 0, .int .u64 0, .int .u64 0] ∧ Blk W (w.heap.size + 1) 177 #[.int .u32 5, .int .i64 1, .int .i64 2, .int .i64 3, .bool false, .int .u32 0, .int .u64 257, .int .i64 0, .int .i64 0] ∧ Blk W (w.heap.size + 1 + 1) 75 #[.int .i64 0, .int .u64 0, .int .u64 0, .int .u64 0, .int .u64 0, .int .u64 0, .int .u64 0, .int .u64 0, .int .u64 0] ∧ Blk W x1 278 #[.int .i64 1, .int .i64 1, .int .u32 0] ∧ Below w.heap.size w W) ⟨?_, ?_, ?_, ?_, ?_⟩ (fun w2 H2 => ?_)
  · apply Blk.cast
    · (repeat (first | with_reducible exact P0 | with_reducible apply Blk.put | with_reducible apply Blk.alloc | (with_reducible apply Blk.aside; (case hp => first | (simp; done) | (simp; omega))) | with_reducible apply Blk.drew))
    · kernel_rfl
  · (repeat (first | with_reducible exact V0 | with_reducible apply Blk.put | with_reducible apply Blk.alloc | (with_reducible apply Blk.aside; (case hp => first | (simp; done) | (simp; omega))) | with_reducible apply Blk.drew))
  · (repeat (first | with_reducible exact Z0 | with_reducible apply Blk.put | with_reducible apply Blk.alloc | (with_reducible apply Blk.aside; (case hp => first | (simp; done) | (simp; omega))) | with_reducible apply Blk.drew))
  · rw [← hx1]
    simpa using (Blk.made (((((((w1.setCell ⟨w.heap.size, 2, none⟩ (.int .u64 0)).setCell ⟨w.heap.size, 3, none⟩ (.int .u64 0)).setCell ⟨w.heap.size, 4, none⟩ (.int .u64 0)).setCell ⟨w.heap.size, 5, none⟩ (.int .u64 0)).setCell ⟨w.heap.size, 6, none⟩ (.int .u64 0)).setCell ⟨w.heap.size, 7, none⟩ (.int .u64 0)).setCell ⟨w.heap.size, 8, none⟩ (.int .u64 0)) 278 #[.int .i64 1, .int .i64 1, .int .u32 0])
  · exact qL
  rw [hx1] at hx ⊢
  clear P0 V0 Z0 T0 hb1 hc1 hf1 hs1 hx1 z1_w_0 z1_w_1 z1_w_2
  have kp := H2.out.1.cell
  have fp := H2.out.1.free
  have lp := H2.out.1.lt
  have kv := H2.out.2.1.cell
  have lv := H2.out.2.1.lt
  have kz := H2.out.2.2.1.cell
  have fz := H2.out.2.2.1.free
  have lz := H2.out.2.2.1.lt
  have kt := H2.out.2.2.2.1.cell
  have ft := H2.out.2.2.2.1.free
  have lt := H2.out.2.2.2.1.lt
  refine qB (w.heap.size) fun hSt => ?_
  refine qS [0, 1, 2, 3, 4, 5, 10] ?_
  iterate 7 (refine qT ?_; simp only [Act.put, qY])
  refine TakeSeq.done ?_
  refine qH 6 fun K hK => ?_
  go_simp
  go_at_call 207; refine (HP.out _).mono ?_; rintro e w3 ⟨rfl, hb3⟩; ((obtain ⟨hc3, hf3, hs3⟩ := qR hb3); (try have z3_w_0 := qN0 w w3); (try have z3_w_1 := qN1 w w3); (try have z3_w_2 := qN2 w w3); (try have := qN0 w2 w3))
  go_wp2_with fail
  refine hK.out _ _ (SteadyBut.of qL) (fun hHeld => ?_)
  clear hK K
  have ao : bits BinOp.or IntKind.u64 (IntKind.u64.wrap 5) (IntKind.u64.wrap (IntKind.u64.wrap 0 * 4294967296)) = 5 := by kernel_rfl
  refine qS [7, 8, 9, 11] ?_
  iterate 4 (refine qT ?_; simp only [Act.put, qY])
  refine TakeSeq.done ?_
  clear ao
  refine qH 12 fun K hK => ?_
  go_simp
  refine hK.out _ _ (SteadyBut.set (SteadyBut.of qL) _ _) (fun hHeld => ?_)
  clear hK K
  refine qD ?_ _
  go_upto_region 5 with (fail)
  have hb23 : Below w2.heap.size w2 w3 := (Below.refl _ _).drew.trans hb3
  refine wp_name (fun W => Blk W w.heap.size 75 #[.int .i64 105, .int .u64 256, .int .u64 0, .int .u64 5, .int .u64 0, .int .u64 0, .int .u64 0, .int .u64 0, .int .u64 0] ∧ Blk W (w.heap.size + 1) 177 #[.int .u32 5, .int .i64 1, .int .i64 2, .int .i64 3, .bool false, .int .u32 0, .int .u64 257, .int .i64 0, .int .i64 0] ∧ Blk W (w.heap.size + 1 + 1) 75 #[.int .i64 0, .int .u64 0, .int .u64 0, .int .u64 0, .int .u64 0, .int .u64 0, .int .u64 0, .int .u64 0, .int .u64 0] ∧ Blk W x1 278 #[.int .i64 1, .int .i64 1, .int .u32 0] ∧ Below w.heap.size w W) ⟨?_, ?_, ?_, ?_, ?_⟩ (fun w4 H4 => ?_)
  · have B := H2.out.1.kept hb23
    apply Blk.cast
    · (repeat (first | with_reducible exact B | with_reducible apply Blk.put | with_reducible apply Blk.alloc | (with_reducible apply Blk.aside; (case hp => first | (simp; done) | (simp; omega))) | with_reducible apply Blk.drew))
    · kernel_rfl
  · have B := H2.out.2.1.kept hb23
    (repeat (first | with_reducible exact B | with_reducible apply Blk.put | with_reducible apply Blk.alloc | (with_reducible apply Blk.aside; (case hp => first | (simp; done) | (simp; omega))) | with_reducible apply Blk.drew))
  · have B := H2.out.2.2.1.kept hb23
    (repeat (first | with_reducible exact B | with_reducible apply Blk.put | with_reducible apply Blk.alloc | (with_reducible apply Blk.aside; (case hp => first | (simp; done) | (simp; omega))) | with_reducible apply Blk.drew))
  · have B := H2.out.2.2.2.1.kept hb23
    (repeat (first | with_reducible exact B | with_reducible apply Blk.put | with_reducible apply Blk.alloc | (with_reducible apply Blk.aside; (case hp => first | (simp; done) | (simp; omega))) | with_reducible apply Blk.drew))
  · have h := H2.out.2.2.2.2
    have h2 : Below w.heap.size w w3 := qL
    exact qL
  clear H2 hb3 hc3 hf3 hs3 hb23 z3_w_0 z3_w_1 z3_w_2 kp fp lp kv lv kz fz lz kt ft lt
  have kp := H4.out.1.cell
  have fp := H4.out.1.free
  have lp := H4.out.1.lt
  have kv := H4.out.2.1.cell
  have lv := H4.out.2.1.lt
  have kz := H4.out.2.2.1.cell
  have fz := H4.out.2.2.1.free
  have lz := H4.out.2.2.1.lt
  have kt := H4.out.2.2.2.1.cell
  have ft := H4.out.2.2.2.1.free
  have lt := H4.out.2.2.2.1.lt
  have w1' : IntKind.u64.wrap 1 = 1 := by rw [IntKind.wrap_u64]; omega
  have w2' : IntKind.u64.wrap 2 = 2 := by rw [IntKind.wrap_u64]; omega
  have w3' : IntKind.u64.wrap 3 = 3 := by rw [IntKind.wrap_u64]; omega
  have x0 : ∀ W, (Instr.index 50 (.agg #[.int .i64 1, .int .i64 2, .int .i64 3]) (.int .i64 0)).run Tryz.prog W = .ok (.int .i64 1) W := fun W => by kernel_rfl
  have x1' : ∀ W, (Instr.index 50 (.agg #[.int .i64 1, .int .i64 2, .int .i64 3]) (.int .i64 1)).run Tryz.prog W = .ok (.int .i64 2) W := fun W => by kernel_rfl
  have x2 : ∀ W, (Instr.index 50 (.agg #[.int .i64 1, .int .i64 2, .int .i64 3]) (.int .i64 2)).run Tryz.prog W = .ok (.int .i64 3) W := fun W => by kernel_rfl
  go_wp2_with fail
  refine wp_loop_rounds 4 ?_
  iterate 3
    rw [rounds_succ]
    go_wp2_with fail
  rw [rounds_succ]
  go_wp2_with fail
  go_at_call 208; refine (HT.out _).mono ?_; rintro e w5 ⟨rfl, hb5⟩
  have Q0 := Blk.cast (cs' := #[.int .i64 105, .int .u64 256, .int .u64 0, .int .u64 5, .int .u64 1, .int .u64 2, .int .u64 3, .int .u64 0, .int .u64 0]) ((((H4.out.1.put 4 (.int .u64 1)).put 5 (.int .u64 2)).put 6 (.int .u64 3)).kept hb5) (by kernel_rfl)
  have V0 := ((((H4.out.2.1.aside (p := ⟨w.heap.size, 4, none⟩) (by simp) (.int .u64 1)).aside (p := ⟨w.heap.size, 5, none⟩) (by simp) (.int .u64 2)).aside (p := ⟨w.heap.size, 6, none⟩) (by simp) (.int .u64 3)).kept hb5)
  have Z0 := ((((H4.out.2.2.1.aside (p := ⟨w.heap.size, 4, none⟩) (by simp; omega) (.int .u64 1)).aside (p := ⟨w.heap.size, 5, none⟩) (by simp; omega) (.int .u64 2)).aside (p := ⟨w.heap.size, 6, none⟩) (by simp; omega) (.int .u64 3)).kept hb5)
  have hl0 : w.heap.size ≤ w.heap.size := Nat.le_refl _
  have hb45 : Below w.heap.size w w5 := ((((H4.out.2.2.2.2).setCell hl0 _).setCell hl0 _).setCell hl0 _).trans (hb5.mono (by have := H4.out.2.2.2.2.size; simpa using this))
  have H5 := hid (And.intro Q0 (And.intro V0 (And.intro Z0 hb45)))
  clear H4 Q0 V0 Z0 hb45 hb5 kp fp lp kv lv kz fz lz kt ft lt x0 x1' x2
  have kp := H5.out.1.cell
  have fp := H5.out.1.free
  have lp := H5.out.1.lt
  have kv := H5.out.2.1.cell
  have lv := H5.out.2.1.lt
  have kz := H5.out.2.2.1.cell
  have fz := H5.out.2.2.1.free
  have lz := H5.out.2.2.1.lt
  go_wp2_with fail
  have B := ((H5.out.2.2.1.aside (p := ⟨w.heap.size, 2, none⟩) (by simp; omega) (.int .u64 257)).aside (p := ⟨w.heap.size, 7, none⟩) (by simp; omega) (.int .u64 257))
  have hb5 : Below w.heap.size w ((w5.setCell ⟨w.heap.size, 2, none⟩ (.int .u64 257)).setCell ⟨w.heap.size, 7, none⟩ (.int .u64 257)) := (H5.out.2.2.2.setCell hl0 _).setCell hl0 _
  have hl : w.heap.size ≤ w.heap.size + 1 + 1 := by omega
  refine bodyPost_ret (results_b rfl _ _ (w.heap.size + 1 + 1) _ _ _ rfl (Blk.cast (((((((((B.put 0 _).put 1 _).put 2 _).put 3 _).put 4 _).put 5 _).put 6 _).put 7 _).put 8 _) (by kernel_rfl)) Tryz.underlying75 rfl (by kernel_rfl)) rfl ⟨rfl, (((((((((hb5.setCell hl _).setCell hl _).setCell hl _).setCell hl _).setCell hl _).setCell hl _).setCell hl _).setCell hl _).setCell hl _)⟩
theorem ptrAlloc (l k : Int) (hl : 105 ≤ l ∧ l ≤ 108) (hk : k = 1 ∨ k = 2 ∨ k = 3) (w : World) : Calls Tryz.prog 108 #[.agg (freeP l).cells, .int .i64 k, .int .u32 0] w fun e w' => e = .returned (.tuple #[.agg (⟨l, 256, k + 256, 0, 0, 0, 0, 0, 0⟩ : Bt.Page).cells, .int .i64 0]) ∧ Below w.heap.size w w' := by
  have okP : (freeP l).Ok := ⟨by simp [freeP], by simp [freeP], by simp [freeP], by simp [freeP], by simp [freeP], by simp [freeP], by simp [freeP], by simp [freeP]⟩
  have HTO := hid (fun W => tagOf_any (freeP l) okP W)
  have HIN : Hid (∀ W, Calls Tryz.prog 164 #[.int .i64 l] W fun e w' => e = .returned (.bool true) ∧ W = w') := hid (fun W => by
    have h := inHeap_any l W
    rw [show Bt.inHeap l = true by simp [Bt.inHeap]; omega] at h
    exact h)
  have HLK : Hid (∀ W, Calls Tryz.prog 62 #[.agg (freeP l).cells] W fun e w' => e = .returned (.bool false) ∧ Below W.heap.size W w') := hid (fun W => Locked_any (freeP l) okP W)
  have HTG : Hid (∀ W, Calls Tryz.prog 165 #[.agg (freeP l).cells, .agg #[.int .i64 k, .int .i64 1, .int .u32 0]] W fun e w' => e = .returned (.agg (⟨l, 256, k + 256, 0, 0, 0, 0, 0, 0⟩ : Bt.Page).cells) ∧ Below W.heap.size W w') := hid (fun W => by
    have h := tagged_any (freeP l) k 1 0 (by omega) (by omega) (by omega) W
    rw [show Bt.packTag k 1 0 = k + 256 by rcases hk with rfl | rfl | rfl <;> rfl] at h
    exact h)
  have t0 : Bt.tagKind (freeP l).d0 = 0 := rfl
  have t1 : Bt.tagGen (freeP l).d0 = 0 := rfl
  have t2 : Bt.tagAux (freeP l).d0 = 0 := rfl
  rw [t0, t1, t2] at HTO
  have b1 : decide (k < 1) = false := by simp; omega
  have b2 : decide (4 < k) = false := by simp; omega
  obtain ⟨K, hK⟩ : ∃ K, k + 256 = K := ⟨_, rfl⟩
  rw [hK] at HTG ⊢
  clear okP t0 t1 t2 hl hk hK
  unfold freeP Bt.Page.cells at HTO HLK HTG ⊢
  simp only at HTO HLK HTG ⊢
  go_enter Tryz.func108, Tryz.ntmps108
  go_wp2_with fail
  go_at_call 163; refine (HTO.out _).mono ?_; rintro e w1 ⟨rfl, hb1⟩; ((obtain ⟨hc1, hf1, hs1⟩ := qR hb1); (try have z1_w_0 := qN0 w w1); (try have z1_w_1 := qN1 w w1))
  go_wp2_with fail
  go_at_call 164; refine (HIN.out _).mono ?_; rintro e w2 ⟨rfl, hw⟩; obtain rfl := hw
  go_wp2_with fail
  go_at_call 62; refine (HLK.out _).mono ?_; rintro e w2 ⟨rfl, hb2⟩; ((obtain ⟨hc2, hf2, hs2⟩ := qR hb2); (try have := qN0 w w2); (try have := qN1 w w2); (try have := qN0 w1 w2))
  go_wp2_with fail
  go_at_call 165; refine (HTG.out _).mono ?_; rintro e w3 ⟨rfl, hb3⟩; ((obtain ⟨hc3, hf3, hs3⟩ := qR hb3); (try have z3_w_0 := qN0 w w3); (try have z3_w_1 := qN1 w w3); (try have := qN0 w1 w3); (try have := qN0 w2 w3))
  have B := ((((Blk.made' (w := w.alloc (.cells #[.int .i64 l, .int .u64 256, .int .u64 0, .int .u64 0, .int .u64 0, .int .u64 0, .int .u64 0, .int .u64 0, .int .u64 0] 75)) (t := 75) (cs := #[.int .i64 0, .int .u64 0, .int .u64 0, .int .u64 0, .int .u64 0, .int .u64 0, .int .u64 0, .int .u64 0, .int .u64 0]) rfl).kept hb1).alloc (.cells #[.int .i64 0, .int .i64 0, .int .u32 0] 278)).kept hb2).kept hb3
  rw [size_alloc] at B
  have HB := hid B
  clear B
  go_wp2_with fail
  have B := HB.out
  have hb5 : Below w.heap.size w w3 := qL
  have hl : w.heap.size ≤ w.heap.size + 1 := by omega
  refine bodyPost_ret (results_bt rfl _ _ (w.heap.size + 1) _ _ _ rfl (Blk.cast (((((((((B.put 0 _).put 1 _).put 2 _).put 3 _).put 4 _).put 5 _).put 6 _).put 7 _).put 8 _) (by kernel_rfl)) Tryz.underlying75 rfl (by kernel_rfl)) rfl ⟨rfl, (((((((((hb5.setCell hl _).setCell hl _).setCell hl _).setCell hl _).setCell hl _).setCell hl _).setCell hl _).setCell hl _).setCell hl _)⟩
theorem recWrite (w : World) : Calls Tryz.prog 106 #[.agg recTag.cells, .agg verCells] w fun e w' => e = .returned (.tuple #[.agg recPage.cells, .int .i64 0]) ∧ Below w.heap.size w w' := by
  have HV := hid (fun W => recValid W)
  have HU := hid (fun W => unpackTag_257 W)
  have HF := hid (fun W => recFill W)
  have ft : ∀ W, (Instr.field 278 (.agg #[.int .i64 1, .int .i64 1, .int .u32 0]) 0).run Tryz.prog W = .ok (.int .i64 1) W := fun W => by kernel_rfl
  unfold verCells recTag recPage Bt.Page.cells at HF
  unfold verCells at HV
  unfold verCells recTag recPage Bt.Page.cells
  simp only at HF ⊢
  go_enter Tryz.func106, Tryz.ntmps106
  go_wp2_with fail
  go_at_call 159; refine (HV.out _).mono ?_; rintro e w1 ⟨rfl, hb1⟩; ((obtain ⟨hc1, hf1, hs1⟩ := qR hb1); (try have z1_w_0 := qN0 w w1); (try have z1_w_1 := qN1 w w1); (try have z1_w_2 := qN2 w w1))
  go_wp2_with fail
  go_at_call 160; refine (HU.out _).mono ?_; rintro e w2 ⟨rfl, hb2⟩; ((obtain ⟨hc2, hf2, hs2⟩ := qR hb2); (try have := qN0 w w2); (try have := qN1 w w2); (try have := qN2 w w2); (try have := qN0 w1 w2))
  go_wp2_with fail
  go_at_call 161; refine (HF.out _).mono ?_; rintro e w3 ⟨rfl, hb3⟩; ((obtain ⟨hc3, hf3, hs3⟩ := qR hb3); (try have z3_w_0 := qN0 w w3); (try have z3_w_1 := qN1 w w3); (try have z3_w_2 := qN2 w w3); (try have := qN0 w1 w3); (try have := qN0 w2 w3))
  have B := (((Blk.made' (w := (w.alloc (.cells #[.int .i64 105, .int .u64 256, .int .u64 257, .int .u64 0, .int .u64 0, .int .u64 0, .int .u64 0, .int .u64 0, .int .u64 0] 75)).alloc (.cells #[.int .u32 5, .int .i64 1, .int .i64 2, .int .i64 3, .bool false, .int .u32 0, .int .u64 257, .int .i64 0, .int .i64 0] 177)) (t := 75) (cs := #[.int .i64 0, .int .u64 0, .int .u64 0, .int .u64 0, .int .u64 0, .int .u64 0, .int .u64 0, .int .u64 0, .int .u64 0]) rfl).kept hb1).kept hb2).kept hb3
  simp only [size_alloc] at B
  have HB := hid B
  clear B
  go_wp2_with fail
  have B := HB.out
  have hb5 : Below w.heap.size w w3 := qL
  have hl : w.heap.size ≤ w.heap.size + 1 + 1 := by omega
  refine bodyPost_ret (results_bt rfl _ _ (w.heap.size + 1 + 1) _ _ _ rfl (Blk.cast (((((((((B.put 0 _).put 1 _).put 2 _).put 3 _).put 4 _).put 5 _).put 6 _).put 7 _).put 8 _) (by kernel_rfl)) Tryz.underlying75 rfl (by kernel_rfl)) rfl ⟨rfl, (((((((((hb5.setCell hl _).setCell hl _).setCell hl _).setCell hl _).setCell hl _).setCell hl _).setCell hl _).setCell hl _).setCell hl _)⟩
end Go.Proofs.YtcoiehgcfjfhaaaGreatDoor
