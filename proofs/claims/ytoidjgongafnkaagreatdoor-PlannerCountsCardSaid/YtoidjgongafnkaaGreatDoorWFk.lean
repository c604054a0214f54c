/- A formatted node's words. -/
import Derived.Test.YtoidjgongafnkaaGreatDoorWFd
set_option linter.unusedVariables false
set_option linter.unusedSimpArgs false
set_option linter.unusedSectionVars false
set_option linter.constructorNameAsVariable false
namespace Go.Proofs.YtoidjgongafnkaaGreatDoor
open Go.RowKit

theorem infoNode : (Tryz.prog.info? 61).map (fun i => (i.zero, i.size, i.bytes)) = some (some (.agg #[.slice none 0 0, .bool false]), 2, 32) := by kernel_rfl
theorem make_words (W : World) (L : Nat) (hL : L ≤ 1000) : (Instr.makeSlice 59 (.int .i64 (L : Int)) (.int .i64 (L : Int))).run Tryz.prog W = .ok (.slice (some ⟨W.heap.size, 0, none⟩) L L) (W.alloc (.cells (madeCells #[.int .u64 0] L) 33)) := by
  obtain ⟨i0, hi, hz0, hz1, hz2⟩ := info_parts infoU64
  have := run_make (P := Tryz.prog) W 59 33 i0 _ Tryz.underlying59 hi hz0 .i64 .i64 L L (by omega) (by omega) (by rw [hz2]; omega) (by omega)
  rw [hz1] at this
  simpa [Value.cells] using this
/-- A new node. -/
theorem newNode_ok (w : World) : Calls Tryz.prog 12 #[.int .i64 108] w fun e w' => (∃ p n c, e = .returned (.agg #[.slice p n c, .bool true])) ∧ Below w.heap.size w w' := by
  have hmk : ∀ W : World, (Instr.makeSlice 59 (.int .i64 864) (.int .i64 864)).run Tryz.prog W = .ok (.slice (some ⟨W.heap.size, 0, none⟩) 864 864) (W.alloc (.cells (madeCells #[.int .u64 0] 864) 33)) := fun W => make_words W 864 (by omega)
  go_enter Tryz.func12, Tryz.ntmps12
  go_wp2_with fail
  refine bodyPost_ret (results_b rfl _ _ w.heap.size _ _ _ rfl ((Blk.made w _ _).alloc _) Tryz.underlying61 rfl (by kernel_rfl)) rfl ⟨⟨_, _, _, rfl⟩, by (repeat (first | with_reducible exact Below.refl _ _ | with_reducible assumption | with_reducible refine Below.setCell ?_ (by first | (simp; done) | (simp; omega)) _ | with_reducible refine below_alloc ?_ _ | with_reducible refine below_drewN ?_ _ | with_reducible refine Below.drew ?_ | with_reducible refine below_step ?_ (by assumption)))⟩
theorem initVal_one (w : World) : Calls Tryz.prog 30 #[.int .i64 1] w fun e w' => e = .returned (.tuple #[.int .u64 (bits BinOp.or IntKind.u64 549755813888 7), .int .i64 0]) ∧ w = w' := by
  go_enter Tryz.func30, Tryz.ntmps30
  go_wp2_with fail
  refine wp_loop_rounds 2 ?_
  rw [rounds_succ]
  go_wp2_with fail
  rw [rounds_succ]
  go_wp2_with fail
  refine bodyPost_ret (results_tmp2 rfl _ _ _) rfl ⟨rfl, rfl⟩
theorem initVal_two (w : World) : Calls Tryz.prog 30 #[.int .i64 2] w fun e w' => e = .returned (.tuple #[.int .u64 (bits BinOp.or IntKind.u64 (bits BinOp.or IntKind.u64 549755813888 7) 896), .int .i64 0]) ∧ w = w' := by
  go_enter Tryz.func30, Tryz.ntmps30
  go_wp2_with fail
  refine wp_loop_rounds 3 ?_
  rw [rounds_succ]
  go_wp2_with fail
  rw [rounds_succ]
  go_wp2_with fail
  rw [rounds_succ]
  go_wp2_with fail
  refine bodyPost_ret (results_tmp2 rfl _ _ _) rfl ⟨rfl, rfl⟩
theorem initVal_three (w : World) : Calls Tryz.prog 30 #[.int .i64 3] w fun e w' => e = .returned (.tuple #[.int .u64 (bits BinOp.or IntKind.u64 (bits BinOp.or IntKind.u64 (bits BinOp.or IntKind.u64 549755813888 7) 896) 114688), .int .i64 0]) ∧ w = w' := by
  go_enter Tryz.func30, Tryz.ntmps30
  go_wp2_with fail
  refine wp_loop_rounds 4 ?_
  rw [rounds_succ]
  go_wp2_with fail
  rw [rounds_succ]
  go_wp2_with fail
  rw [rounds_succ]
  go_wp2_with fail
  rw [rounds_succ]
  go_wp2_with fail
  refine bodyPost_ret (results_tmp2 rfl _ _ _) rfl ⟨rfl, rfl⟩
theorem initVal_four (w : World) : Calls Tryz.prog 30 #[.int .i64 4] w fun e w' => e = .returned (.tuple #[.int .u64 (bits BinOp.or IntKind.u64 (bits BinOp.or IntKind.u64 (bits BinOp.or IntKind.u64 (bits BinOp.or IntKind.u64 549755813888 7) 896) 114688) 14680064), .int .i64 0]) ∧ w = w' := by
  go_enter Tryz.func30, Tryz.ntmps30
  go_wp2_with fail
  refine wp_loop_rounds 5 ?_
  rw [rounds_succ]
  go_wp2_with fail
  rw [rounds_succ]
  go_wp2_with fail
  rw [rounds_succ]
  go_wp2_with fail
  rw [rounds_succ]
  go_wp2_with fail
  rw [rounds_succ]
  go_wp2_with fail
  refine bodyPost_ret (results_tmp2 rfl _ _ _) rfl ⟨rfl, rfl⟩
theorem initVal_any (m : Nat) (hm : m < 4) : ∃ x : Int, ∀ w, Calls Tryz.prog 30 #[.int .i64 ((m + 1 : Nat) : Int)] w fun e w' => e = .returned (.tuple #[.int .u64 x, .int .i64 0]) ∧ w = w' := by
  rcases (by omega : m = 0 ∨ m = 1 ∨ m = 2 ∨ m = 3) with rfl | rfl | rfl | rfl
  · exact ⟨_, initVal_one⟩
  · exact ⟨_, initVal_two⟩
  · exact ⟨_, initVal_three⟩
  · exact ⟨_, initVal_four⟩
theorem refClient_ok (c : Nat) (hc : c < 6) (w : World) : Calls Tryz.prog 57 #[.int .i64 c] w fun e w' => e = .returned (.bool true) ∧ w = w' := by
  have i0 : (0 : Int) ≤ c := by omega
  have i1 : c < 6 := hc
  go_enter Tryz.func57, Tryz.ntmps57
  go_wp2_with fail
  refine bodyPost_ret (results_tmp rfl _ _ _) rfl ⟨?_, rfl⟩
  first | rfl | (simp [i0]; done) | (simp [i0]; omega)
theorem refDoor_ok (c : Nat) (hc : c < 6) (w : World) : Calls Tryz.prog 32 #[.int .i64 c] w fun e w' => e = .returned (.int .i64 ((24 + c : Nat) : Int)) ∧ w = w' := by
  have hw : IntKind.i64.wrap (24 + (c : Int)) = ((24 + c : Nat) : Int) := by rw [IntKind.wrap_i64]; omega
  go_enter Tryz.func32, Tryz.ntmps32
  go_wp2_with fail
  go_at_call 57
  refine (refClient_ok c hc _).mono ?_
  rintro e w1 ⟨rfl, rfl⟩
  go_wp2_with fail
  refine bodyPost_ret (results_tmp rfl _ _ _) rfl ⟨rfl, rfl⟩

theorem MemAt.congr {w : World} {b : Nat} {m m' : Cm.Mem} (h : MemAt w b m) (he : ∀ k, k < 864 → m k = m' k) : MemAt w b m' := by
  obtain ⟨cs, h1, h2, h3⟩ := h
  exact ⟨cs, h1, h2, fun k hk => by rw [h3 k hk, he k hk]⟩
def FmLoop1 (b : Nat) (m : Cm.Mem) (W : World) (iv : Value) (wr : World) : Prop :=
  ∃ j : Nat, j ≤ 6 ∧ iv = .int .i64 j ∧ Hid (MemAt wr b (fun k => if 24 ≤ k ∧ k < 24 + j then 1 else m k) ∧ Over b W wr)
def FmLoop2 (b : Nat) (m : Cm.Mem) (W : World) (iv : Value) (wr : World) : Prop :=
  ∃ j : Nat, j ≤ 12 ∧ iv = .int .i64 ((96 + j : Nat) : Int) ∧ Hid (MemAt wr b (fun k => if 768 ≤ k ∧ k < 768 + 8 * j ∧ k % 8 = 0 then 256 else m k) ∧ Over b W wr)

set_option maxRecDepth 10000 in
set_option maxHeartbeats 2000000 in
theorem formatted_ok (n : Nat) (x : Int) (w : World) (hx : ∀ w, Calls Tryz.prog 30 #[.int .i64 n] w fun e w' => e = .returned (.tuple #[.int .u64 x, .int .i64 0]) ∧ w = w') :
    Calls Tryz.prog 14 #[.int .i64 n, .int .i64 108] w fun e w' => (∃ b, e = .returned (.slice (some ⟨b, 0, none⟩) 864 864) ∧ w.heap.size ≤ b ∧ MemAt w' b (Cm.formatted (bits BinOp.or IntKind.u64 4504699138998272 x))) ∧ Below w.heap.size w w' := by
  have hmk : ∀ W : World, (Instr.makeSlice 59 (.int .i64 864) (.int .i64 864)).run Tryz.prog W = .ok (.slice (some ⟨W.heap.size, 0, none⟩) 864 864) (W.alloc (.cells (madeCells #[.int .u64 0] 864) 33)) := fun W => make_words W 864 (by omega)
  go_enter Tryz.func14, Tryz.ntmps14
  go_upto_region 2 with (fail)
  have hM0 : MemAt (w.alloc (.cells (madeCells #[.int .u64 0] 864) 33)) w.heap.size (fun _ => 0) := ⟨_, Blk.made _ _ _, size_madeCells _ _, fun k hk => by rw [made_cells _ _ _ hk]; simp [Nat.mod_one]⟩
  have hb0 : Below w.heap.size w (w.alloc (.cells (madeCells #[.int .u64 0] 864) 33)) := by (repeat (first | with_reducible exact Below.refl _ _ | with_reducible assumption | with_reducible refine Below.setCell ?_ (by first | (simp; done) | (simp; omega)) _ | with_reducible refine below_alloc ?_ _ | with_reducible refine below_drewN ?_ _ | with_reducible refine Below.drew ?_ | with_reducible refine below_step ?_ (by assumption)))
  generalize hW : World.alloc w _ = W at *
  have c0 := hM0.cell 0 (by omega)
  have c1 := hM0.cell 1 (by omega)
  have f0 := hM0.free
  have l0 := hM0.lt
  have HB0 := Lib.hid (And.intro hM0 hb0)
  clear hM0 hb0 hW hmk
  go_wp2_with fail
  go_at_call 30
  refine (hx _).mono ?_
  rintro e w1 ⟨rfl, rfl⟩
  have hM1 : MemAt ((W.setCell ⟨w.heap.size, 0, none⟩ (.int .u64 1)).setCell ⟨w.heap.size, 1, none⟩ (.int .u64 1)) w.heap.size (Cm.Mem.set (Cm.Mem.set (fun _ => 0) 0 1) 1 1) := (HB0.out.1.put 0 1).put 1 1
  have ho1 : Over w.heap.size W ((W.setCell ⟨w.heap.size, 0, none⟩ (.int .u64 1)).setCell ⟨w.heap.size, 1, none⟩ (.int .u64 1)) := ((Over.refl _ _).put 0 _).put 1 _
  generalize hW1 : World.setCell (World.setCell W _ _) _ _ = W1 at *
  have c8 : W1.cell? ⟨w.heap.size, 8, none⟩ = some (.int .u64 0) := hM1.cell 8 (by omega)
  have f1 := hM1.free
  have l1 := hM1.lt
  have HB1 := Lib.hid (And.intro hM1 ho1)
  clear hM1 ho1 hW1 c0 c1 f0 l0
  go_wp2_with fail
  go_at_call 31
  refine (refCons0 _).mono ?_
  rintro e w2 ⟨rfl, rfl⟩
  go_wp2_with fail
  have hM2 : MemAt (W1.setCell ⟨w.heap.size, 8, none⟩ (.int .u64 (bits BinOp.or IntKind.u64 4504699138998272 x))) w.heap.size (Cm.Mem.set (Cm.Mem.set (Cm.Mem.set (fun _ => 0) 0 1) 1 1) 8 (bits BinOp.or IntKind.u64 4504699138998272 x)) := HB1.out.1.put 8 _
  have ho2 : Over w.heap.size W (W1.setCell ⟨w.heap.size, 8, none⟩ (.int .u64 (bits BinOp.or IntKind.u64 4504699138998272 x))) := HB1.out.2.put 8 _
  generalize hW2 : World.setCell W1 _ _ = W2 at *
  have HB2 := Lib.hid (And.intro hM2 ho2)
  clear hM2 ho2 hW2 c8 f1 l1
  obtain ⟨m2, hm2⟩ : ∃ m2, m2 = Cm.Mem.set (Cm.Mem.set (Cm.Mem.set (fun _ => 0) 0 1) 1 1) 8 (bits BinOp.or IntKind.u64 4504699138998272 x) := ⟨_, rfl⟩
  rw [← hm2] at HB2
  have HM2 := Lib.hid hm2
  clear hm2
  go_loopw [8] (fun iv wr => FmLoop1 w.heap.size m2 W2 iv wr) (fun iv _ => ((6 : Int) - intOf iv).toNat)
  case atStart => exact ⟨0, by omega, rfl, Lib.hid ⟨HB2.out.1.congr (fun k hk => by rw [if_neg (by omega)]), Over.refl _ _⟩⟩
  case round =>
    obtain ⟨j, hj, rfl, H⟩ := hrel
    by_cases hj2 : j < 6
    · have hD := refDoor_ok j hj2
      have cj := H.out.1.cell (24 + j) (by omega)
      have fj := H.out.1.free
      have lj := H.out.1.lt
      have iz0 : (0 : Int) ≤ ((24 + j : Nat) : Int) := by omega
      have iz1 : ((24 + j : Nat) : Int) < 864 := by omega
      obtain ⟨aj, haj⟩ : ∃ aj, aj = 24 + j := ⟨_, rfl⟩
      rw [← haj] at cj iz0 iz1 hD
      have HA := Lib.hid haj
      clear haj
      go_wp2_with fail
      go_at_call 32
      refine (hD _).mono ?_
      rintro e w3 ⟨rfl, rfl⟩
      go_wp2_with fail
      refine ⟨⟨j + 1, by omega, by simp, Lib.hid ⟨(H.out.1.put aj 1).congr (fun k hk => ?_), H.out.2.put aj _⟩⟩, by simp [intOf]; omega⟩
      have := HA.out
      unfold Cm.Mem.set
      by_cases hka : k = aj
      · rw [if_pos hka, if_pos (by omega)]
      · rw [if_neg hka]
        dsimp only
        by_cases hk2 : 24 ≤ k ∧ k < 24 + j
        · rw [if_pos hk2, if_pos (by omega)]
        · rw [if_neg hk2, if_neg (by omega)]
    · obtain rfl : j = 6 := by omega
      obtain ⟨W3, hW3, H3⟩ : ∃ W3, W3 = wr ∧ Hid (MemAt W3 w.heap.size (fun k => if 24 ≤ k ∧ k < 24 + 6 then 1 else m2 k) ∧ Over w.heap.size W2 W3) := ⟨wr, rfl, H⟩
      subst hW3
      obtain ⟨m3, hm3⟩ : ∃ m3 : Cm.Mem, m3 = (fun k => if 24 ≤ k ∧ k < 24 + 6 then 1 else m2 k) := ⟨_, rfl⟩
      rw [← hm3] at H3
      have HM3 := Lib.hid hm3
      clear hm3 H
      go_wp2_with fail
      go_loopw [9] (fun iv wr => FmLoop2 w.heap.size m3 W3 iv wr) (fun iv _ => ((108 : Int) - intOf iv).toNat)
      case atStart => exact ⟨0, by omega, rfl, Lib.hid ⟨H3.out.1.congr (fun k hk => by rw [if_neg (by omega)]), Over.refl _ _⟩⟩
      case round =>
        obtain ⟨j, hj, rfl, H⟩ := hrel
        obtain ⟨aj, haj⟩ : ∃ aj, aj = 96 + j := ⟨_, rfl⟩
        rw [← haj]
        have HA := Lib.hid haj
        clear haj
        by_cases hj2 : j < 12
        · have b1 : decide ((aj : Int) < 108) = true := by have := HA.out; simp; omega
          obtain ⟨al, hal⟩ : ∃ al, al = aj * 8 := ⟨_, rfl⟩
          have cj := H.out.1.cell al (by have := HA.out; omega)
          have fj := H.out.1.free
          have lj := H.out.1.lt
          have hw8 : IntKind.i64.wrap ((aj : Int) * 8) = (al : Int) := by have := HA.out; rw [IntKind.wrap_i64]; omega
          have hw1 : IntKind.i64.wrap ((aj : Int) + 1) = ((aj + 1 : Nat) : Int) := by have := HA.out; rw [IntKind.wrap_i64]; omega
          have iz0 : (0 : Int) ≤ (al : Int) := by omega
          have iz1 : (al : Int) < 864 := by have := HA.out; omega
          have HAl := Lib.hid hal
          clear hal
          go_wp2_with fail
          refine ⟨⟨j + 1, by omega, by congr 1; have := HA.out; omega, Lib.hid ⟨(H.out.1.put al 256).congr (fun k hk => ?_), H.out.2.put al _⟩⟩, by have := HA.out; simp [intOf]; omega⟩
          have h1 := HA.out
          have h2 := HAl.out
          unfold Cm.Mem.set
          by_cases hka : k = al
          · rw [if_pos hka, if_pos (by omega)]
          · rw [if_neg hka]
            dsimp only
            by_cases hk2 : 768 ≤ k ∧ k < 768 + 8 * j ∧ k % 8 = 0
            · rw [if_pos hk2, if_pos (by omega)]
            · rw [if_neg hk2, if_neg (by omega)]
        · have b1 : decide ((aj : Int) < 108) = false := by have := HA.out; simp; omega
          go_wp2_with fail
          refine bodyPost_ret (results_tmp rfl _ _ _) rfl ⟨⟨w.heap.size, rfl, Nat.le_refl _, H.out.1.congr (fun k hk => ?_)⟩, ?_⟩
          · obtain rfl : j = 12 := by omega
            rw [HM3.out, HM2.out]
            simp only [Cm.formatted, Cm.Mem.set]
            repeat' split
            all_goals first | rfl | (exfalso; omega)
          · have h1 := (HB2.out.2.trans H3.out.2).trans H.out.2
            have h2 := (Over.of_below HB0.out.2).trans h1
            exact ⟨h2.os, h2.tape, h2.output, h2.size, fun k hk => h2.block k hk (fun e => by injection e with e; omega)⟩
end Go.Proofs.YtoidjgongafnkaaGreatDoor
