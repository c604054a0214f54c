/- executor.run.point: the insertion of chapter 31's example. -/
import Derived.Test.YtcoiehgcfjfhaaaGreatDoorQ32
import Derived.Test.YtcoiehgcfjfhaaaGreatDoorQ12
import Derived.Shelf.SlIterI.Nil
import Derived.Test.YtcoiehgcfjfhaaaGreatDoorProg
import Derived.Test.YtcoiehgcfjfhaaaGreatDoorQ10
import Derived.Test.YtcoiehgcfjfhaaaGreatDoorQ01
import Derived.Test.YtcoiehgcfjfhaaaGreatDoorQ11
import Derived.Test.YtcoiehgcfjfhaaaGreatDoorQ36
import Derived.Test.YtcoiehgcfjfhaaaGreatDoorQ13
set_option linter.all false
set_option maxRecDepth 20000
set_option maxHeartbeats 8000000
open Go.Lib (hid)
namespace Go.Proofs.YtcoiehgcfjfhaaaGreatDoor
open Go.RowKit
def stm5 : Array Value := #[.int .i64 1, .int .u32 5, .int .u32 0, .int .i64 1, .int .i64 2, .int .i64 3, .int .i64 0, .int .i64 0, .int .i64 0, .int .i64 0, .int .i64 0, .int .i64 0]
theorem exPoint (r m : Nat) (vp va vk vw : Value) (K : List Bt.Page) (w : World) (h : ExAt r m vp va vk vw K [] 0 (.map []) w) (hok : CreateOk K []) (hz : Bt.latest (Rf.merge K []) 96 = some zRootP) (hno : NoneAt w) (hnr : 1 ≠ r) (hnm : 1 ≠ m) :
    Calls Tryz.prog 34 #[.pointer (some ⟨r, 0, none⟩), .agg stm5, .int .i64 1] w fun e w' => e = .returned (.tuple #[.agg #[.slice none 0 0, .int .i64 0], .bool true]) ∧ (∃ vw', ExAt r m vp va vk vw' K (cW6 []) 1 relD w') ∧ ExFr r m w w' := by
  have HLO := hid (fun W' (hx : ExAt r m vp va vk vw K [] 0 (.map []) W') => exLocate r m vp va vk vw K W' hx hok.hK hz)
  have HCR := hid (fun vw2 W' (hx : ExAt r m vp va vk vw2 K [] 1 relD W') (hn : NoneAt W') => exCreate r m vp va vk vw2 K [] 1 relD W' hx hok hn hnr hnm)
  have hkb : ∀ c a d, vk = .slice (some ⟨c, 0, none⟩) a d → c < w.heap.size := fun c a d hv => by
    rcases h.known.form with ⟨h1, _⟩ | ⟨c2, cap, h1, h2, _⟩
    · rw [h1] at hv; simp at hv
    · rw [h1] at hv; simp at hv; omega
  have HKB := hid (And.intro hkb h.hn.lt)
  have HNO := hid (And.intro hno (And.intro hnr hnm))
  clear hkb
  have HX := hid h
  have lr := h.blk.lt
  have lm := h.rel.lt
  clear h hok hz hno hnr hnm
  unfold stm5
  go_enter Tryz.func34, Tryz.ntmps34
  go_upto_region 1 with (fail)
  refine wp_name (fun W' => Blk W' w.heap.size 54 stm5 ∧ Blk W' (w.heap.size + 1) 104 #[.slice none 0 0, .int .i64 0] ∧ Below w.heap.size w W') ⟨(Blk.made w _ _).alloc _, Blk.made' (by simp), qL⟩ (fun wx H1 => ?_)
  have ks := H1.out.1.cell
  have ls := H1.out.1.lt
  have ls1 := H1.out.2.1.lt
  unfold stm5 at ks
  go_wp2_with fail
  go_at_call 71; refine (HLO.out _ (HX.out.below H1.out.2.2)).mono ?_; rintro e w1 ⟨rfl, ⟨vw1, hx1⟩, hf1⟩
  have S1 := hf1.blk H1.out.1 (by omega) (by omega)
  have T1 := hf1.blk H1.out.2.1 (by omega) (by omega)
  have F1 := (ExFr.of_below (r := r) (m := m) H1.out.2.2).trans hf1
  have H2 := hid (And.intro S1 (And.intro T1 (And.intro hx1 F1)))
  have hlt : w.heap.size + 1 < w1.heap.size := T1.lt
  clear S1 T1 F1 hx1 hf1 H1 ks ls ls1
  unfold rowCells0
  dsimp only
  iterate 13 go_step
  refine wpList_store_self rfl 179 (.tmp 8) (.tmp 17) rfl w1.heap.size _ rfl rfl _ (Blk.made w1 _ _) (by kernel_rfl) (by kernel_rfl) ?_
  go_upto_region 4 with (fail)
  have hbz : Below w1.heap.size w1 (w1.alloc (.cells rowCells0 179)) := below_alloc (Below.refl _ _) _
  refine wp_name (fun W' => Blk W' w1.heap.size 179 rowCells0 ∧ Blk W' w.heap.size 54 stm5 ∧ Blk W' (w.heap.size + 1) 104 #[.slice none 0 0, .int .i64 0] ∧ ExAt r m vp va vk vw1 K [] 1 relD W' ∧ ExFr r m w W') ⟨Blk.made w1 _ _, H2.out.1.kept hbz, H2.out.2.1.kept hbz, H2.out.2.2.1.below hbz, H2.out.2.2.2.trans (ExFr.of_below hbz)⟩ (fun w2 H3 => ?_)
  clear hbz H2
  have kx := H3.out.1.cell
  have lx := H3.out.1.lt
  have ks := H3.out.2.1.cell
  have ls := H3.out.2.1.lt
  unfold rowCells0 at kx
  unfold stm5 at ks
  go_upto_region 11 with (fail)
  refine wp_name (fun W' => Blk W' w2.heap.size 177 #[.int .u32 0, .int .i64 0, .int .i64 0, .int .i64 0, .bool false, .int .u32 0, .int .u64 0, .int .i64 0, .int .i64 0] ∧ Below w2.heap.size w2 W') ⟨Blk.made w2 _ _, below_alloc (Below.refl _ _) _⟩ (fun w3 H4 => ?_)
  have kv := H4.out.1.cell
  have fv := H4.out.1.free
  have lv := H4.out.1.lt
  clear kx lx ks ls
  have S4 := H3.out.2.1.kept H4.out.2
  have X4 := H3.out.1.kept H4.out.2
  have ks := S4.cell
  have ls := S4.lt
  have kx := X4.cell
  have lx := X4.lt
  have lx2 := H3.out.1.lt
  unfold rowCells0 at kx
  unfold stm5 at ks
  clear S4 X4
  go_upto_region 16 with (fail)
  have hb4 := H4.out.2
  have V4 := H4.out.1
  have hll : w2.heap.size ≤ w2.heap.size := Nat.le_refl _
  have hB : Below w2.heap.size w2 ((((w3.setCell ⟨w2.heap.size, 0, none⟩ (.int .u32 5)).setCell ⟨w2.heap.size, 1, none⟩ (.int .i64 1)).setCell ⟨w2.heap.size, 2, none⟩ (.int .i64 2)).setCell ⟨w2.heap.size, 3, none⟩ (.int .i64 3)) := ((((hb4.setCell hll _).setCell hll _).setCell hll _).setCell hll _)
  refine wp_name (fun W' => Blk W' w2.heap.size 177 ver0 ∧ Blk W' (w.heap.size + 1) 104 #[.slice none 0 0, .int .i64 0] ∧ ExAt r m vp va vk vw1 K [] 1 relD W' ∧ ExFr r m w W') ⟨Blk.cast ((((V4.put 0 _).put 1 _).put 2 _).put 3 _) (by kernel_rfl), H3.out.2.2.1.kept hB, H3.out.2.2.2.1.below hB, H3.out.2.2.2.2.trans (ExFr.of_below hB)⟩ (fun w4 H5 => ?_)
  clear hB hll V4 hb4 kv fv lv ks ls kx lx lx2 H4 H3
  have kv := H5.out.1.cell
  have lv := H5.out.1.lt
  have lt := H5.out.2.1.lt
  unfold ver0 at kv
  go_wp2_with fail
  go_at_call 73; refine (HCR.out vw1 _ H5.out.2.2.1 (HNO.out.1.frame H5.out.2.2.2 HNO.out.2.1 HNO.out.2.2)).mono ?_; rintro e w5 ⟨rfl, ⟨vw5, hx5⟩, hf5⟩
  have T6 := hf5.blk H5.out.2.1 (by omega) (by omega)
  have F6 := H5.out.2.2.2.trans hf5
  have H6 := hid (And.intro T6 (And.intro hx5 F6))
  clear kv lv lt T6 hx5 hf5 F6 H5
  have ft := H6.out.1.free
  have kt := H6.out.1.cell
  have lt := H6.out.1.lt
  go_wp2_with fail
  have BT := H6.out.1
  have hO : Over (w.heap.size + 1) w5 ((w5.setCell ⟨w.heap.size + 1, 0, none⟩ (.slice none 0 0)).setCell ⟨w.heap.size + 1, 1, none⟩ (.int .i64 0)) := qV
  refine bodyPost_ret (results_bt rfl _ _ (w.heap.size + 1) _ _ _ rfl ((BT.same 0 _ (by kernel_rfl)).same 1 _ (by kernel_rfl)) Tryz.underlying104 rfl (by kernel_rfl)) rfl ⟨rfl, ⟨vw5, H6.out.2.1.far_over hO (by omega) (by omega) BT (fun c a d hv => by have := HKB.out.1 c a d hv; omega) (by have := HKB.out.2; omega)⟩, H6.out.2.2.trans2 hO (by omega)⟩
structure SteadyRun (r m : Nat) (va : Value) (w1 wx : World) : Prop where
  rule : (∀ b o, b < w1.heap.size → (b < r ∨ r < b) → (b < m ∨ m < b) → wx.cell? ⟨b, o, none⟩ = w1.cell? ⟨b, o, none⟩) ∧ wx.cell? ⟨r, 4, none⟩ = some va
theorem SteadyRun.of {r m : Nat} {vp va vk vw : Value} {K W : List Bt.Page} {n : Nat} {D : DataW Value} {w1 wx : World} (h : ExFr r m w1 wx) (hx : ExAt r m vp va vk vw K W n D wx) : SteadyRun r m va w1 wx :=
  ⟨h.steady.rule, hx.blk.cell 4⟩
theorem cell_same {wx : World} {p : Addr} {v : Value} (hp : wx.cell? p = some v) (b o : Nat) (hn : p.spot = none := by rfl) : (wx.setCell p v).cell? ⟨b, o, none⟩ = wx.cell? ⟨b, o, none⟩ := by
  by_cases e : p = ⟨b, o, none⟩
  · subst e
    rw [World.cell?_setCell_same' _ _ _ (by rw [hp]; rfl), hp]
  · rw [World.cell?_setCell_other _ _ _ _ (fun e2 => e e2)]
theorem SteadyRun.same {r m : Nat} {va : Value} {w1 wx : World} (h : SteadyRun r m va w1 wx) {p : Addr} {v : Value} (hp : wx.cell? p = some v) (hn : p.spot = none := by rfl) : SteadyRun r m va w1 (wx.setCell p v) :=
  ⟨fun b o hb hr hm => (cell_same hp b o hn).trans (h.rule.1 b o hb hr hm), (cell_same hp r 4 hn).trans h.rule.2⟩
theorem infoResult : (Tryz.prog.info? 104).map (fun i => (i.zero, i.size, i.bytes)) = some (some (.agg #[.slice none 0 0, .int .i64 0]), 2, 32) := by kernel_rfl
def st1 : Sq.St := ⟨1, 5, 0, 1, 2, 3, 0, 0, 0, 0, 0, 0⟩
theorem exExecute (r m p cp a ca : Nat) (vk vw : Value) (K : List Bt.Page) (w : World) (h : ExAt r m (.slice (some ⟨p, 0, none⟩) 1 cp) (.slice (some ⟨a, 0, none⟩) 1 ca) vk vw K [] 0 (.map []) w) (hok : CreateOk K []) (hz : Bt.latest (Rf.merge K []) 96 = some zRootP) (hno : NoneAt w) (hnr : 1 ≠ r) (hnm : 1 ≠ m)
    (hp : Blk w p 54 stm5) (ha : Blk w a 3 #[.int .i64 1]) (hpm : p ≠ r ∧ p ≠ m ∧ a ≠ r ∧ a ≠ m) (hl6 : (cW6 []).length ≤ 12) :
    Calls Tryz.prog 19 #[.pointer (some ⟨r, 0, none⟩)] w fun e w' => e = .returned (.bool true) ∧ (∃ vw' g c, Blk w' r 82 (exCells (.slice (some ⟨p, 0, none⟩) 1 cp) (.slice (some ⟨a, 0, none⟩) 1 ca) vk vw' m (.slice (some ⟨g, 0, none⟩) 1 c)) ∧ w'.ownsRow 0 75 9 vw' (cW6 []).length (pageCells (cW6 [])) ∧ w'.ownsMap Tryz.prog 3 heldR m 1 relD) ∧ ExFr r m w w' := by
  obtain ⟨i1, hi1, hy0, hy1, hy2⟩ := info_parts infoResult
  have HPT := hid (fun W' (hx : ExAt r m (.slice (some ⟨p, 0, none⟩) 1 cp) (.slice (some ⟨a, 0, none⟩) 1 ca) vk vw K [] 0 (.map []) W') (hn : NoneAt W') => exPoint r m _ _ vk vw K W' hx hok hz hn hnr hnm)
  have HIR : Hid (∀ W, Calls Tryz.prog 17 #[.agg stm5] W fun e w' => e = .returned (.bool false) ∧ Below W.heap.size W w') := hid (fun W => exIsRange st1 W)
  have hkb : ∀ c a d, vk = .slice (some ⟨c, 0, none⟩) a d → c < w.heap.size := fun c a d hv => by
    rcases h.known.form with ⟨h1, _⟩ | ⟨c2, cap, h1, h2, _⟩
    · rw [h1] at hv; simp at hv
    · rw [h1] at hv; simp at hv; omega
  have HKB := hid (And.intro hkb h.hn.lt)
  have HNO := hid (And.intro hno (And.intro hnr hnm))
  have HL6 := hid hl6
  clear hkb
  have HX := hid h
  have HP := hid (And.intro hp ha)
  have lr := h.blk.lt
  have lm := h.rel.lt
  have lp := hp.lt
  have la := ha.lt
  have kr := h.blk.cell
  have fr := h.blk.free
  have kp := hp.cell
  obtain ⟨q1, q2, q3, q4⟩ := hpm
  clear h hok hz hno hnr hnm hp ha hl6
  unfold exCells at kr
  unfold stm5 at kp
  have kr17 : w.cell? ⟨r, 17, none⟩ = some (.int .i64 0) := kr 17
  go_enter Tryz.func19, Tryz.ntmps19
  go_wp2_with fail
  refine wp_loop_rounds 2 ?_
  rw [rounds_succ]
  go_upto_region 7 with (fail)
  have hO : Over r w (w.setCell ⟨r, 17, none⟩ (.int .i64 0)) := (Over.refl _ _).put 17 _
  have BX := HX.out.blk
  have hX1 := HX.out.reblk hO (BX.same 17 _ rfl)
  have hbz : Below (w.setCell ⟨r, 17, none⟩ (.int .i64 0)).heap.size (w.setCell ⟨r, 17, none⟩ (.int .i64 0)) ((w.setCell ⟨r, 17, none⟩ (.int .i64 0)).alloc (.cells stm5 54)) := below_alloc (Below.refl _ _) _
  refine wp_name (fun W' => Blk W' w.heap.size 54 stm5 ∧ ExAt r m (.slice (some ⟨p, 0, none⟩) 1 cp) (.slice (some ⟨a, 0, none⟩) 1 ca) vk vw K [] 0 (.map []) W' ∧ ExFr r m w W') ⟨Blk.made' (by simp), hX1.below hbz, (ExFr.of_over hO).trans (ExFr.of_below hbz)⟩ (fun w1 H1 => ?_)
  clear hO BX hX1 hbz kr fr kp kr17
  have ks := H1.out.1.cell
  have ls := H1.out.1.lt
  unfold stm5 at ks
  go_upto_region 9 with (fail)
  refine wp_name (fun W' => Blk W' w1.heap.size 104 #[.slice none 0 0, .int .i64 0] ∧ Below w1.heap.size w1 W') ⟨Blk.made w1 _ _, below_alloc (Below.refl _ _) _⟩ (fun w2 H2 => ?_)
  have S2 := H1.out.1.kept H2.out.2
  have HS2 := hid S2
  clear ks ls
  have ks := S2.cell
  have ls := S2.lt
  clear S2
  unfold stm5 at ks
  go_wp2_with fail
  go_at_call 17; refine (HIR.out _).mono ?_; rintro e w3 ⟨rfl, hb3⟩
  have B13 := H2.out.2.trans (hb3.mono H2.out.2.size)
  have H3 := hid (And.intro (H1.out.1.kept B13) (And.intro (H2.out.1.kept hb3) (And.intro (H1.out.2.1.below B13) (H1.out.2.2.trans (ExFr.of_below B13)))))
  have l1 : w.heap.size < w1.heap.size := H1.out.1.lt
  clear ks ls HS2 B13 hb3 H2 H1
  have ks := H3.out.1.cell
  have ls := H3.out.1.lt
  have lt := H3.out.2.1.lt
  have kr := H3.out.2.2.1.blk.cell
  have lr3 := H3.out.2.2.1.blk.lt
  have A3 := H3.out.2.2.2.blk HP.out.2 q3 q4
  have ka := A3.cell
  have la3 := A3.lt
  unfold stm5 at ks
  unfold exCells at kr
  clear A3
  have hnn : NoneAt w3 := HNO.out.1.frame H3.out.2.2.2 HNO.out.2.1 HNO.out.2.2
  have HN3 := hid hnn
  clear hnn
  go_upto_region 11 with (fail)
  have qa : a < r ∨ r < a := by omega
  have qb : a < m ∨ m < a := by omega
  refine wp_region_held_drew (S := SteadyRun r m (.slice (some ⟨a, 0, none⟩) 1 ca) _) (by kernel_rfl) (SteadyRun.of (ExFr.of_below (Below.refl _ _).drew) (H3.out.2.2.1.below (Below.refl _ _).drew)) ?_
  intro hSt
  refine qS [0, 1, 2, 3, 4, 5, 6, 7, 8, 9] ?_
  iterate 10 (refine qT ?_; simp only [Act.put, qY])
  refine TakeSeq.done ?_
  refine qH 10 fun K hK => ?_
  go_simp
  go_at_call 34; refine (HPT.out _ (H3.out.2.2.1.below (Below.refl _ _).drew) (HN3.out.below (Below.refl _ _).drew)).mono ?_; rintro e w4 ⟨rfl, ⟨vw4, hx4⟩, hf4⟩
  go_wp2_with fail
  refine hK.out _ _ (SteadyRun.of ((ExFr.of_below (Below.refl _ _).drew).trans hf4) hx4) (fun hHeld => ?_)
  clear hK K
  have S4 := hf4.blk (H3.out.1.kept (Below.refl _ _).drew) (by omega) (by omega)
  have T4 := hf4.blk (H3.out.2.1.kept (Below.refl _ _).drew) (by omega) (by omega)
  have F4 := (H3.out.2.2.2.trans (ExFr.of_below (Below.refl _ _).drew)).trans hf4
  have SR := SteadyRun.of ((ExFr.of_below (r := r) (m := m) (Below.refl _ _).drew).trans hf4) hx4
  have H4 := hid (And.intro T4 (And.intro hx4 (And.intro F4 SR)))
  have hlt4 : w1.heap.size < w4.heap.size := T4.lt
  clear SR S4 T4 F4 hx4 hf4 HN3 ks ls lt kr lr3 ka la3 qa qb H3
  have ft := H4.out.1.free
  have kt := H4.out.1.cell
  have lt := H4.out.1.lt
  refine qS [11, 12, 13] ?_
  iterate 3 (refine qT ?_; simp only [Act.put, qY])
  refine TakeSeq.done ?_
  have t0 : w4.cell? ⟨w1.heap.size, 0, none⟩ = some (.slice none 0 0) := kt 0
  have t1 : (w4.setCell ⟨w1.heap.size, 0, none⟩ (.slice none 0 0)).cell? ⟨w1.heap.size, 1, none⟩ = some (.int .i64 0) := (cell_same t0 _ _).trans (kt 1)
  refine qH 14 fun K hK => ?_
  go_simp
  refine hK.out _ _ ((H4.out.2.2.2.same t0).same t1) (fun hHeld => ?_)
  clear hK K
  refine qS [15] ?_
  refine qT ?_; simp only [Act.put, qY]
  refine TakeSeq.done ?_
  refine qD ?_ _
  have hO : Over w1.heap.size w4 ((w4.setCell ⟨w1.heap.size, 0, none⟩ (.slice none 0 0)).setCell ⟨w1.heap.size, 1, none⟩ (.int .i64 0)) := ((Over.refl _ _).put 0 _).put 1 _
  have BT := H4.out.1
  have l1 : w.heap.size < w1.heap.size := by omega
  go_upto_region 14 with (fail)
  refine wp_name (fun W' => Blk W' w1.heap.size 104 #[.slice none 0 0, .int .i64 0] ∧ ExAt r m (.slice (some ⟨p, 0, none⟩) 1 cp) (.slice (some ⟨a, 0, none⟩) 1 ca) vk vw4 K (cW6 []) 1 relD W' ∧ ExFr r m w W') ⟨((BT.same 0 _ (by kernel_rfl)).same 1 _ (by kernel_rfl)), H4.out.2.1.far_over hO (by omega) (by omega) BT (fun c a d hv => by have := HKB.out.1 c a d hv; omega) (by have := HKB.out.2; omega), H4.out.2.2.1.trans2 hO (by omega)⟩ (fun w5 H5 => ?_)
  clear hO BT t0 t1 ft kt lt H4
  obtain ⟨pw, cw, hvw⟩ := own_shape H5.out.2.1.writ
  obtain ⟨N, hN⟩ : ∃ N, (cW6 []).length = N := ⟨_, rfl⟩
  have kr := H5.out.2.1.blk.cell
  have fr := H5.out.2.1.blk.free
  have lr5 := H5.out.2.1.blk.lt
  have kt := H5.out.1.cell
  have lt := H5.out.1.lt
  have hN12 : ¬ ((12 : Int) < (N : Int)) := by have := HL6.out; omega
  rw [hN] at hvw
  rw [hvw] at kr
  unfold exCells at kr
  go_upto_region 16 with (fail)
  refine wp_region_late (S := SteadyAll _) (last := 12) (by kernel_rfl) (by kernel_rfl) (SteadyAll.of (Below.refl _ _).drew) ?_
  intro hSt
  refine wpAnyL_seq (is := [0, 1, 2, 3, 4, 5, 6]) (by kernel_rfl) (by kernel_rfl) (fun _ _ d _ _ h => by cases d <;> exact h) (by assumption) ?_
  iterate 7 (refine qU ?_; simp only [Act.put, qY])
  refine TakeSeqL.done ?_
  refine qHL 7 fun K hK => ?_
  go_simp
  refine hK.out _ _ (SteadyAll.of qL) (fun hHeld => ?_)
  clear hK K
  refine qHL 8 fun K hK => ?_
  refine wp_append_mine (.tmp 70) (.tmp 72) 43 rfl w5.heap.size 104 i1 _ 2 32 Tryz.underlying43 hi1 hy0 hy1 hy2 rfl (by decide) (.slice none 0 0) 0 [] rfl
    (World.ownsRow_nil _ _ _ _) ⟨w5.heap.size, 0, none⟩ 1 1 (#[.slice none 0 0, .int .i64 0] : Array Value).toList rfl rfl (nine_news (cs := #[.slice none 0 0, .int .i64 0]) (Blk.drew (Blk.made _ _ _)))
    (by intro u hu; simp at hu; rcases hu with rfl | rfl <;> rfl) (by omega) (by unfold maxLen; omega) (by omega) (by simp) ?_
  intro g6 c6 w6 hown6 hg6
  have hb6 : Below w5.heap.size w5 w6 := below_grown (w := w5) qL hg6 (fun j hj => by cases hj)
  have H6 := hid (And.intro (H5.out.2.1.below hb6) (H5.out.2.2.trans (ExFr.of_below hb6)))
  refine hK.out _ _ (SteadyAll.of hb6) (fun hHeld => ?_)
  clear hK K hown6 hg6 hb6 kr fr lr5 kt lt H5
  have kr := H6.out.1.blk.cell
  have fr := H6.out.1.blk.free
  have lr6 := H6.out.1.blk.lt
  rw [hvw] at kr
  unfold exCells at kr
  refine wpAnyL_seq (is := [9, 10, 11]) (by kernel_rfl) (by kernel_rfl) (fun _ _ d _ _ h => by cases d <;> exact h) (by assumption) ?_
  iterate 3 (refine qU ?_; simp only [Act.put, qY])
  refine TakeSeqL.done ?_
  refine wpAnyL_ready (rs := [12]) (by kernel_rfl) (by simp) ?_
  refine AllReadyL.final rfl (fun K hK => ?_)
  rw [if_pos (by rfl)]
  go_simp
  refine hK.out _ _ ?_
  clear hK K
  refine wpAnyL_done (by kernel_rfl) ?_ _
  have BR := Blk.cast (cs' := exCells (.slice (some ⟨p, 0, none⟩) 1 cp) (.slice (some ⟨a, 0, none⟩) 1 ca) vk vw4 m (.slice (some ⟨g6, 0, none⟩) 1 c6)) (H6.out.1.blk.put 19 (.slice (some ⟨g6, 0, none⟩) 1 c6)) (by kernel_rfl)
  have hO : Over r w6 (w6.setCell ⟨r, 19, none⟩ (.slice (some ⟨g6, 0, none⟩) 1 c6)) := (Over.refl _ _).put 19 _
  have hW := H6.out.1.writ.kept hO (.inr (blk_ne_row H6.out.1.blk H6.out.1.writ (by decide)))
  have hM := H6.out.1.rel.kept hO (fun e => map_ne H6.out.1.rel H6.out.1.blk (by cases e; rfl))
  have hF := H6.out.2.trans (ExFr.of_over hO)
  go_wp2_with fail
  rw [rounds_succ]
  go_wp2_with fail
  refine bodyPost_ret (results_tmp rfl _ _ _) rfl ⟨rfl, ⟨vw4, g6, c6, BR, hW, hM⟩, hF⟩
end Go.Proofs.YtcoiehgcfjfhaaaGreatDoor
namespace Go.Proofs
open Go.Shelf
def Tryz.keysA_ren : Go.Shelf.Ren := ⟨fun | 7 => 21 | 10 => 38 | n => n, fun | 23 => 80 | 26 => 3 | 3 => 4 | 28 => 85 | 0 => 0 | 27 => 84 | 33 => 110 | 4 => 4 | n => n, fun | n => n⟩
theorem Tryz.keysA : Go.Proofs.SlLaysZI.n7 Tryz.prog Tryz.keysA_ren := {
  mixed := by kernel_rfl
  f7 := ⟨Tryz.f21.name, by decide, Tryz.func21.trans (congrArg some (by kernel_rfl))⟩
  f10 := ⟨Tryz.f38.name, by decide, Tryz.func38.trans (congrArg some (by kernel_rfl))⟩
  t0 := Tryz.underlying0
  a0 := Tryz.isAgg0
  z0 := Tryz.sizeOf0
  v0 := Tryz.zeroValue0
  t4 := Tryz.underlying4
  a4 := Tryz.isAgg4
  z4 := Tryz.sizeOf4
  v4 := Tryz.zeroValue4
  t23 := Tryz.underlying80
  a23 := Tryz.isAgg80
  z23 := Tryz.sizeOf80
  v23 := Tryz.zeroValue80
  t26 := Tryz.underlying3
  a26 := Tryz.isAgg3
  z26 := Tryz.sizeOf3
  v26 := Tryz.zeroValue3
  t27 := Tryz.underlying84
  a27 := Tryz.isAgg84
  z27 := Tryz.sizeOf84
  v27 := Tryz.zeroValue84
  t28 := Tryz.underlying85
  a28 := Tryz.isAgg85
  z28 := Tryz.sizeOf85
  v28 := Tryz.zeroValue85
  t33 := Tryz.underlying110
  a33 := Tryz.isAgg110
  z33 := Tryz.sizeOf110
  v33 := Tryz.zeroValue110 }
def Tryz.sortedA_ren : Go.Shelf.Ren := ⟨fun | 6 => 20 | 8 => 36 | 9 => 37 | 11 => 75 | 13 => 77 | 12 => 76 | 23 => 123 | 24 => 124 | 14 => 114 | 15 => 115 | 16 => 116 | 17 => 117 | 18 => 118 | 19 => 119 | 20 => 120 | 21 => 121 | 22 => 122 | 25 => 167 | 26 => 168 | 27 => 169 | 28 => 170 | 29 => 171 | 30 => 172 | 31 => 228 | n => n, fun | 26 => 3 | 28 => 85 | 24 => 23 | 0 => 0 | 3 => 3 | 37 => 58 | 48 => 49 | 50 => 24 | 4 => 4 | 40 => 243 | 39 => 242 | 45 => 247 | 5 => 5 | 9 => 9 | 51 => 294 | 55 => 297 | 57 => 358 | 58 => 359 | 33 => 110 | n => n, fun | n => n⟩
theorem Tryz.sortedA : Go.Proofs.SlLaysZI.n6 Tryz.prog Tryz.sortedA_ren := {
  mixed := by kernel_rfl
  f6 := ⟨Tryz.f20.name, by decide, Tryz.func20.trans (congrArg some (by kernel_rfl))⟩
  f8 := ⟨Tryz.f36.name, by decide, Tryz.func36.trans (congrArg some (by kernel_rfl))⟩
  f11 := ⟨Tryz.f75.name, by decide, Tryz.func75.trans (congrArg some (by kernel_rfl))⟩
  t0 := Tryz.underlying0
  a0 := Tryz.isAgg0
  z0 := Tryz.sizeOf0
  v0 := Tryz.zeroValue0
  t24 := Tryz.underlying23
  a24 := Tryz.isAgg23
  z24 := Tryz.sizeOf23
  v24 := Tryz.zeroValue23
  t26 := Tryz.underlying3
  a26 := Tryz.isAgg3
  z26 := Tryz.sizeOf3
  v26 := Tryz.zeroValue3
  t28 := Tryz.underlying85
  a28 := Tryz.isAgg85
  z28 := Tryz.sizeOf85
  v28 := Tryz.zeroValue85
  i26 := by kernel_rfl }
end Go.Proofs
namespace Go.Proofs.YtcoiehgcfjfhaaaGreatDoor
open Go.RowKit Go.Maps Go.Sort Go.Shelf
theorem sortsA (m : Nat) : AnyZI.SortsIn Tryz.prog Tryz.sortedA_ren Fence.wide m :=
  ⟨fun blk off cap ss W hH hblk hsz => callsIn_wide.2 (Tryz.slices_Sort_int blk off cap ss W hH hblk hsz), fun p cap W => callsIn_wide.2 (Tryz.slices_Sort_int_none p cap W)⟩
theorem keysOf (mb : Option Nat) (w : World) : Calls Tryz.prog 21 #[.map mb] w fun e w' => e = .returned (.func (.func 38) #[] #[.pointer (some ⟨w.heap.size, 0, none⟩)]) ∧ w' = w.alloc (.cells #[.map mb] 80) :=
  (callsIn_wide (n := 5)).1 (AnyZI.keys_in Tryz.keysA Fence.wide 5 trivial rfl mb w)
theorem sortedNone (Bm b nn : Nat) (w : World) (hB : Bm < w.heap.size) (hm : w.cell? ⟨Bm, 0, none⟩ = some (.map (some b))) (hown : w.ownsMap Tryz.prog 3 heldR b nn (.map [])) :
    Calls Tryz.prog 20 #[.func (.func 38) #[] #[.pointer (some ⟨Bm, 0, none⟩)]] w fun e w' => e = .returned (.slice none 0 0) ∧ Below w.heap.size w w' := by
  have hseq : SeqGives Fence.wide 2 Tryz.prog 38 #[.pointer (some ⟨Bm, 0, none⟩)] encZ (fun ss => ss.Perm (intKeys (.map [] : DataW Value))) (Maps.size (.map [] : DataW Value)) w :=
    AnyZI.keys_gives (ρ := Tryz.keysA_ren) { Tryz.keysA with } Fence.wide _ trivial rfl (by omega) Bm b nn _ _ hB hm hown
  have cS := AnyZI.sorted_in Tryz.sortedA Fence.wide 5 trivial trivial trivial trivial rfl (by omega) (sortsA _) (enters_of Tryz.func37 (by kernel_rfl) rfl) 38 #[.pointer (some ⟨Bm, 0, none⟩)] trivial (enters_of Tryz.func38 (by kernel_rfl) rfl) _ _ (by decide) (by decide) _ hseq
  refine ((callsIn_wide (n := 5)).1 cS).mono ?_
  rintro e w' ⟨v, ss, rfl, hS, _, hnil, hb⟩
  have h0 : ss = [] := by simpa [intKeys] using hS
  rw [hnil.2 h0]
  exact ⟨rfl, hb⟩
end Go.Proofs.YtcoiehgcfjfhaaaGreatDoor
namespace Go.Proofs.YtcoiehgcfjfhaaaGreatDoor
open Go.RowKit
def delD (l : List Bt.Page) (D : DataW Value) : DataW Value := l.foldl (fun D p => D.del (.int .i64 p.line)) D
theorem delD_snoc (l : List Bt.Page) (p : Bt.Page) (D : DataW Value) : delD (l ++ [p]) D = (delD l D).del (.int .i64 p.line) := by simp [delD, List.foldl_append]
theorem ExFr.below {r m b : Nat} {w w1 w2 : World} (h0 : Below b w w1) (h : ExFr r m w1 w2) (hb : b ≤ w.heap.size) (hr : b ≤ r) (hm : b ≤ m) : Below b w w2 :=
  ⟨h.os.trans h0.os, h.tape.trans h0.tape, h.output.trans h0.output, Nat.le_trans h0.size h.size, fun k hk => (h.block k (Nat.lt_of_lt_of_le hk (Nat.le_trans hb h0.size)) (by omega) (by omega)).trans (h0.block k hk)⟩
def jobCells (vp va : Value) : Array Value := #[.int .i64 0, .int .i64 1, .int .i64 256, vp, va, .bool false, .int .u64 0, .int .u64 0, .int .u64 0, .int .u64 0, .int .u64 0, .int .u64 0]
def outCells0 (vr : Value) : Array Value := #[.int .i64 0, .int .i64 0, .int .i64 0, vr, .slice none 0 0, .bool false, .bool false, .bool false, .bool false]
theorem exNext (p cp a ca : Nat) (vk : Value) (K : List Bt.Page) (w : World) (hk : PgRow w vk K) (hok : CreateOk K []) (hz : Bt.latest (Rf.merge K []) 96 = some zRootP) (hno : NoneAt w) (hn : HNone w)
    (hp : Blk w p 54 stm5) (ha : Blk w a 3 #[.int .i64 1]) (hl6 : (cW6 []).length = 6) (hd6 : delD (cW6 []) relD = .map []) (hp6 : POk (cW6 []))
    (HV : ∀ W', Below w.heap.size w W' → Calls Tryz.prog 9 #[.agg (jobCells (.slice (some ⟨p, 0, none⟩) 1 cp) (.slice (some ⟨a, 0, none⟩) 1 ca))] W' fun e w' => e = .returned (.int .i64 0) ∧ Below W'.heap.size W' w') :
    Calls Tryz.prog 10 #[.agg (jobCells (.slice (some ⟨p, 0, none⟩) 1 cp) (.slice (some ⟨a, 0, none⟩) 1 ca)), vk] w fun e w' => ∃ g c gr cr, e = .returned (.tuple #[.slice none 0 0, .slice (some ⟨g, 0, none⟩) 6 c, .agg (outCells0 (.slice (some ⟨gr, 0, none⟩) 1 cr)), .bool true]) ∧ PgRow w' (.slice (some ⟨g, 0, none⟩) 6 c) (cW6 []) ∧ Below w.heap.size w w' := by
  obtain ⟨pk, ck, rfl⟩ := hk.slice
  have hmm := @run_makeMap Tryz.prog
  have HVV := hid HV
  have HEX := hid (fun r m vw W' (hx : ExAt r m (.slice (some ⟨p, 0, none⟩) 1 cp) (.slice (some ⟨a, 0, none⟩) 1 ca) (.slice pk K.length ck) vw K [] 0 (.map []) W') (hn1 : NoneAt W') (h1 : 1 ≠ r) (h2 : 1 ≠ m) (h3 : Blk W' p 54 stm5) (h4 : Blk W' a 3 #[.int .i64 1]) (h5 : p ≠ r ∧ p ≠ m ∧ a ≠ r ∧ a ≠ m) => exExecute r m p cp a ca (.slice pk K.length ck) vw K W' hx hok hz hn1 h1 h2 h3 h4 h5 (by omega))
  have HK := hid (And.intro hk (And.intro hno (And.intro hn (And.intro hp ha))))
  have H6 := hid (And.intro hl6 (And.intro hd6 hp6))
  have lp := hp.lt
  have la := ha.lt
  clear HV hk hok hz hno hn hp ha hl6 hd6 hp6
  unfold jobCells at HVV ⊢
  go_enter Tryz.func10, Tryz.ntmps10
  go_upto_region 1 with (fail)
  refine wp_name (fun W' => Blk W' w.heap.size 28 (jobCells (.slice (some ⟨p, 0, none⟩) 1 cp) (.slice (some ⟨a, 0, none⟩) 1 ca)) ∧ Blk W' (w.heap.size + 1) 45 (outCells0 (.slice none 0 0)) ∧ Below w.heap.size w W') ⟨(Blk.made w _ _).alloc _, Blk.made' (by simp), qL⟩ (fun w1 H1 => ?_)
  have kj := H1.out.1.cell
  have lj := H1.out.1.lt
  unfold jobCells at kj
  go_wp2_with fail
  go_at_call 9; refine (HVV.out _ H1.out.2.2).mono ?_; rintro e w2 ⟨rfl, hb2⟩
  have H2 := hid (And.intro (H1.out.1.kept hb2) (And.intro (H1.out.2.1.kept hb2) (H1.out.2.2.trans (hb2.mono H1.out.2.2.size))))
  clear kj lj hb2 H1
  have kj := H2.out.1.cell
  have lj := H2.out.1.lt
  have lo := H2.out.2.1.lt
  unfold jobCells at kj
  go_upto_region 5 with (fail)
  have hM0 := World.ownsMap_made w2 Tryz.prog 3 heldR
  have hbm : Below w2.heap.size w2 (w2.alloc (.map #[] 0)) := below_alloc (Below.refl _ _) _
  have hbr : Below (w2.alloc (.map #[] 0)).heap.size (w2.alloc (.map #[] 0)) ((w2.alloc (.map #[] 0)).alloc (.cells (exCells (.slice (some ⟨p, 0, none⟩) 1 cp) (.slice (some ⟨a, 0, none⟩) 1 ca) (.slice pk K.length ck) (.slice none 0 0) w2.heap.size (.slice none 0 0)) 82)) := below_alloc (Below.refl _ _) _
  have hbw := hbm.trans (hbr.mono hbm.size)
  have hbww := H2.out.2.2.trans (hbw.mono H2.out.2.2.size)
  have hsz := H2.out.2.2.size
  have hkf : ∀ b a c, (Value.slice pk K.length ck) = .slice (some ⟨b, 0, none⟩) a c → b < w.heap.size := fun c a d hv => by
    rcases HK.out.1.form with ⟨h1, _⟩ | ⟨c2, cap, h1, h2, _⟩
    · rw [h1] at hv; simp at hv
    · rw [h1] at hv; simp at hv; omega
  have hnl := HK.out.2.2.1.lt
  have hnl2 := HK.out.2.1.lt
  refine wp_name (fun W' => ExAt (w2.heap.size + 1) w2.heap.size (.slice (some ⟨p, 0, none⟩) 1 cp) (.slice (some ⟨a, 0, none⟩) 1 ca) (.slice pk K.length ck) (.slice none 0 0) K [] 0 (.map []) W' ∧ Blk W' (w.heap.size + 1) 45 (outCells0 (.slice none 0 0)) ∧ Below w.heap.size w W' ∧ NoneAt W' ∧ Blk W' p 54 stm5 ∧ Blk W' a 3 #[.int .i64 1])
    ⟨⟨Blk.made' (by simp), HK.out.1.below hbww, fun b a c hv => by have := hkf b a c hv; omega, own_none _ _ _ _, (ownsMap_below hM0 hbr hM0.lt), HK.out.2.2.1.below hbww, by omega, by omega⟩, H2.out.2.1.kept hbw, hbww, HK.out.2.1.below hbww, HK.out.2.2.2.1.kept hbww, HK.out.2.2.2.2.kept hbww⟩ (fun w3 H3 => ?_)
  clear hM0 hbm hbr hbw hbww hkf kj lj lo
  obtain ⟨m, hm⟩ : ∃ m, w2.heap.size = m := ⟨_, rfl⟩
  obtain ⟨r, hr⟩ : ∃ r, m + 1 = r := ⟨_, rfl⟩
  have hOm : w.heap.size + 1 < m := by rw [← hm]; exact H2.out.2.1.lt
  rw [hm] at H3 ⊢
  rw [hr] at H3 ⊢
  clear H2 hm hsz
  go_wp2_with fail
  go_at_call 19; refine (HEX.out r m _ _ H3.out.1 H3.out.2.2.2.1 (by omega) (by omega) H3.out.2.2.2.2.1 H3.out.2.2.2.2.2 ⟨by omega, by omega, by omega, by omega⟩).mono ?_; rintro e w4 ⟨rfl, ⟨vw4, g4, q4, hB4, hW4, hM4⟩, hf4⟩
  have O4 := hf4.blk H3.out.2.1 (by omega) (by omega)
  have B4 := ExFr.below H3.out.2.2.1 hf4 (Nat.le_refl _) (by omega) (by omega)
  obtain ⟨L, hL⟩ : ∃ L, cW6 [] = L := ⟨_, rfl⟩
  rw [hL] at hW4
  rw [hL] at H6
  have HLL := hid hL
  rw [H6.out.1] at hW4
  obtain ⟨pw, cw, rfl⟩ := own_shape hW4
  have H4 := hid (And.intro hB4 (And.intro hW4 (And.intro hM4 (And.intro O4 B4))))
  have lr4 := hB4.lt
  have lo4 := O4.lt
  clear hB4 hW4 hM4 hf4 O4 B4 H3 hL
  have kr := H4.out.1.cell
  have ko := H4.out.2.2.2.1.cell
  have fo := H4.out.2.2.2.1.free
  unfold exCells at kr
  unfold outCells0 at ko
  go_wp2_with fail
  have hO : Over (w.heap.size + 1) w4 ((((((((((w4.setCell ⟨w.heap.size + 1, 0, none⟩ (.int .i64 0)).setCell ⟨w.heap.size + 1, 1, none⟩ (.int .i64 0)).setCell ⟨w.heap.size + 1, 2, none⟩ (.int .i64 0)).setCell ⟨w.heap.size + 1, 3, none⟩ (.slice (some ⟨g4, 0, none⟩) 1 q4)).setCell ⟨w.heap.size + 1, 4, none⟩ (.slice none 0 0)).setCell ⟨w.heap.size + 1, 5, none⟩ (.bool false)).setCell ⟨w.heap.size + 1, 6, none⟩ (.bool false)).setCell ⟨w.heap.size + 1, 7, none⟩ (.bool false)).setCell ⟨w.heap.size + 1, 8, none⟩ (.bool false)).setCell ⟨w.heap.size + 1, 1, none⟩ (.int .i64 0)) := qV
  have hbb := H4.out.2.2.2.2
  have hll : w.heap.size ≤ w.heap.size + 1 := by omega
  have hB : Below w.heap.size w ((((((((((w4.setCell ⟨w.heap.size + 1, 0, none⟩ (.int .i64 0)).setCell ⟨w.heap.size + 1, 1, none⟩ (.int .i64 0)).setCell ⟨w.heap.size + 1, 2, none⟩ (.int .i64 0)).setCell ⟨w.heap.size + 1, 3, none⟩ (.slice (some ⟨g4, 0, none⟩) 1 q4)).setCell ⟨w.heap.size + 1, 4, none⟩ (.slice none 0 0)).setCell ⟨w.heap.size + 1, 5, none⟩ (.bool false)).setCell ⟨w.heap.size + 1, 6, none⟩ (.bool false)).setCell ⟨w.heap.size + 1, 7, none⟩ (.bool false)).setCell ⟨w.heap.size + 1, 8, none⟩ (.bool false)).setCell ⟨w.heap.size + 1, 1, none⟩ (.int .i64 0)) := ((((((((((hbb.setCell hll _).setCell hll _).setCell hll _).setCell hll _).setCell hll _).setCell hll _).setCell hll _).setCell hll _).setCell hll _)).setCell hll _
  have BO := H4.out.2.2.2.1
  refine wp_name (fun W' => Blk W' (w.heap.size + 1) 45 (outCells0 (.slice (some ⟨g4, 0, none⟩) 1 q4)) ∧ Blk W' r 82 (exCells (.slice (some ⟨p, 0, none⟩) 1 cp) (.slice (some ⟨a, 0, none⟩) 1 ca) (.slice pk K.length ck) (.slice pw 6 cw) m (.slice (some ⟨g4, 0, none⟩) 1 q4)) ∧ W'.ownsRow 0 75 9 (.slice pw 6 cw) 6 (pageCells L) ∧ W'.ownsMap Tryz.prog 3 heldR m 1 relD ∧ Below w.heap.size w W')
    ⟨Blk.cast (((((((((((BO.put 0 _).put 1 _).put 2 _).put 3 _).put 4 _).put 5 _).put 6 _).put 7 _).put 8 _)).put 1 _) (by kernel_rfl), blk_over H4.out.1 hO (by omega), H4.out.2.1.kept hO (.inr (blk_ne_row BO H4.out.2.1 (by decide))), H4.out.2.2.1.kept hO (fun e => map_ne H4.out.2.2.1 BO (by cases e; rfl)), hB⟩ (fun w5 H5 => ?_)
  clear hO hB BO kr ko fo lr4 lo4 H4
  go_loopw [50] (fun x wr => ∃ (k : Nat), x = .int .i64 k ∧ k ≤ 6 ∧ Hid (Blk wr (w.heap.size + 1) 45 (outCells0 (.slice (some ⟨g4, 0, none⟩) 1 q4)) ∧ Blk wr r 82 (exCells (.slice (some ⟨p, 0, none⟩) 1 cp) (.slice (some ⟨a, 0, none⟩) 1 ca) (.slice pk K.length ck) (.slice pw 6 cw) m (.slice (some ⟨g4, 0, none⟩) 1 q4)) ∧ wr.ownsRow 0 75 9 (.slice pw 6 cw) 6 (pageCells L) ∧ wr.ownsMap Tryz.prog 3 heldR m 1 (delD (L.take k) relD) ∧ Below w.heap.size w wr)) (fun x _ => ((6 : Int) - intOf x).toNat)
  case atStart => exact ⟨0, rfl, by omega, hid ⟨H5.out.1, H5.out.2.1, H5.out.2.2.1, by simpa [delD] using H5.out.2.2.2.1, H5.out.2.2.2.2⟩⟩
  case round =>
    clear H5
    obtain ⟨k, rfl, hk, HR⟩ := hrel
    by_cases hkn : k < 6
    · have b1 : decide ((k : Int) < 6) = true := by simp; omega
      have wk : IntKind.i64.wrap ((k : Int) + 1) = (k : Int) + 1 := by rw [IntKind.wrap_i64]; omega
      have hkl : k < L.length := by have := H6.out.1; omega
      obtain ⟨g, c, hv, hg1, hg2, hrow⟩ := own_page HR.out.2.2.1 H6.out.1.symm hkn
      simp only [Value.slice.injEq, true_and] at hv
      obtain ⟨rfl, rfl⟩ := hv
      obtain ⟨x, hx⟩ : ∃ x, L[k] = x := ⟨_, rfl⟩
      rw [hx] at hrow
      obtain ⟨c0, c1, c2, c3, c4, c5, c6, c7, c8⟩ := nine hrow
      have HX : Hid (L.take (k + 1) = L.take k ++ [x] ∧ 0 ≤ x.line ∧ x.line < 1000) := hid ⟨by rw [List.take_succ_eq_append_getElem hkl, hx], H6.out.2.2.2.2 x (by rw [← hx]; exact List.getElem_mem hkl)⟩
      have j2 : decide ((k : Int) < 0) = false := by simp
      have j4 : (0 : Int) ≤ k := by omega
      have j5 : (k : Int) < 6 := by omega
      clear hx hrow
      go_upto_region 14 with (fail)
      have hbz : Below wr.heap.size wr (wr.alloc (.cells x.cells 75)) := below_alloc (Below.refl _ _) _
      refine wp_name (fun W' => Blk W' wr.heap.size 75 x.cells ∧ Below wr.heap.size wr W') ⟨Blk.made wr _ _, hbz⟩ (fun wy HY => ?_)
      clear hbz c0 c1 c2 c3 c4 c5 c6 c7 c8
      have kx := HY.out.1.cell
      have lx := HY.out.1.lt
      have RY := HR.out.2.1.kept HY.out.2
      have kr := RY.cell
      have lr := RY.lt
      unfold Bt.Page.cells at kx
      unfold exCells at kr
      have hkey := Maps.keyOf_int_mk Tryz.underlying3 (show (Lit.int .i64 x.line).wf = true from WalkArith.wf_i64 (by have := HX.out; constructor <;> omega))
      obtain ⟨w6, hrun6, hown6, hturn6⟩ := (ownsMap_below HR.out.2.2.2.1 HY.out.2 HR.out.2.2.2.1.lt).drew.drop law_int Tryz.underlying80 hkey 0
      have hO6 : Over m wy w6 := ((Over.refl _ _).drew).trans hturn6.grown
      have H7 : Hid (Blk w6 (w.heap.size + 1) 45 (outCells0 (.slice (some ⟨g4, 0, none⟩) 1 q4)) ∧ Blk w6 r 82 (exCells (.slice (some ⟨p, 0, none⟩) 1 cp) (.slice (some ⟨a, 0, none⟩) 1 ca) (.slice pk K.length ck) (.slice (some ⟨g, 0, none⟩) 6 cw) m (.slice (some ⟨g4, 0, none⟩) 1 q4)) ∧ w6.ownsRow 0 75 9 (.slice (some ⟨g, 0, none⟩) 6 cw) 6 (pageCells L) ∧ w6.ownsMap Tryz.prog 3 heldR m 1 (delD (L.take (k + 1)) relD) ∧ Below w.heap.size w w6) := hid ⟨blk_over (HR.out.1.kept HY.out.2) hO6 (by omega), blk_over RY hO6 (by omega), (own_below HR.out.2.2.1 HY.out.2).kept hO6 (.inr (map_ne_row (ownsMap_below HR.out.2.2.2.1 HY.out.2 HR.out.2.2.2.1.lt) (own_below HR.out.2.2.1 HY.out.2))), by rw [HX.out.1, delD_snoc]; exact hown6, ExFr.below (r := m) (m := m) (HR.out.2.2.2.2.trans (HY.out.2.mono HR.out.2.2.2.2.size)) (ExFr.of_map hO6) (Nat.le_refl _) (by omega) (by omega)⟩
      have hS6 := SteadyBut.over hO6
      have hq1 : m < r := by omega
      have hq2 : m < wr.heap.size := HR.out.2.2.2.1.lt
      clear RY hown6 hturn6 hO6 hkey
      refine qB (m) fun hSt => ?_
      refine qS [0, 1, 2, 3, 4, 5] ?_
      iterate 6 (refine qT ?_; simp only [Act.put, qY])
      refine TakeSeq.done ?_
      refine qH 6 fun K hK => ?_
      go_simp
      refine hK.out _ _ (hS6) (fun hHeld => ?_)
      clear hK K
      refine qD ?_ _
      clear hS6 kx lx kr lr hrun6
      go_wp2_with fail
      exact ⟨⟨k + 1, by simp, hkn, H7⟩, by simp [intOf]; omega⟩
    · have b1 : decide ((k : Int) < 6) = false := by simp; omega
      have hk6 : k = 6 := by omega
      have HM : Hid (wr.ownsMap Tryz.prog 3 heldR m 1 (.map [])) := hid (by
        have h1 := HR.out.2.2.2.1
        rw [hk6, List.take_of_length_le (by have := H6.out.1; omega), H6.out.2.1] at h1
        exact h1)
      have kr := HR.out.2.1.cell
      have lr := HR.out.2.1.lt
      have lo := HR.out.1.lt
      unfold exCells at kr
      clear hk6
      go_wp2_with fail
      go_at_call 21; refine (keysOf _ _).mono ?_; rintro e w6 ⟨rfl, hw6⟩
      have hb6 : Below wr.heap.size wr w6 := hw6 ▸ below_alloc (Below.refl _ _) _
      have hs6 : wr.heap.size < w6.heap.size := by rw [hw6]; simp
      have hc6 : w6.cell? ⟨wr.heap.size, 0, none⟩ = some (.map (some m)) := by rw [hw6]; exact (Blk.made wr 80 #[.map (some m)]).cell 0
      clear hw6
      have HS := hid (sortedNone wr.heap.size m 1 w6 hs6 hc6 (ownsMap_below HM.out hb6 HM.out.lt))
      clear hs6 hc6
      go_wp2_with fail
      go_at_call 20; refine HS.out.mono ?_; rintro e w7 ⟨rfl, hb7⟩
      have B7 := hb6.trans (hb7.mono hb6.size)
      have H8 := hid (And.intro (HR.out.1.kept B7) (And.intro (HR.out.2.1.kept B7) (And.intro (own_below HR.out.2.2.1 B7) (HR.out.2.2.2.2.trans (B7.mono HR.out.2.2.2.2.size)))))
      clear HS HM hb6 hb7 B7 kr lr lo HR
      have fo := H8.out.1.free
      have ko := H8.out.1.cell
      have lo := H8.out.1.lt
      unfold outCells0 at ko
      go_upto_region 17 with (fail)
      have BO := H8.out.1
      have hO : Over (w.heap.size + 1) w7 (w7.setCell ⟨w.heap.size + 1, 4, none⟩ (.slice none 0 0)) := (Over.refl _ _).put 4 _
      have hll : w.heap.size ≤ w.heap.size + 1 := by omega
      refine wp_name (fun W' => Blk W' (w.heap.size + 1) 45 (outCells0 (.slice (some ⟨g4, 0, none⟩) 1 q4)) ∧ Blk W' r 82 (exCells (.slice (some ⟨p, 0, none⟩) 1 cp) (.slice (some ⟨a, 0, none⟩) 1 ca) (.slice pk K.length ck) (.slice pw 6 cw) m (.slice (some ⟨g4, 0, none⟩) 1 q4)) ∧ W'.ownsRow 0 75 9 (.slice pw 6 cw) 6 (pageCells L) ∧ Below w.heap.size w W')
        ⟨BO.same 4 _ rfl, blk_over H8.out.2.1 hO (by omega), H8.out.2.2.1.kept hO (.inr (blk_ne_row BO H8.out.2.2.1 (by decide))), H8.out.2.2.2.setCell hll _⟩ (fun w9 H9 => ?_)
      clear fo ko lo BO hO H8
      have fo := H9.out.1.free
      have ko := H9.out.1.cell
      have lo := H9.out.1.lt
      have kr := H9.out.2.1.cell
      have lr := H9.out.2.1.lt
      unfold outCells0 at ko
      unfold exCells at kr
      have hq1 : w.heap.size + 1 < r := by omega
      refine qB (w.heap.size + 1) fun hSt => ?_
      refine qS [0, 1, 2, 3, 5, 6] ?_
      iterate 6 (refine qT ?_; simp only [Act.put, qY])
      refine TakeSeq.done ?_
      refine qH 4 fun K hK => ?_
      go_simp
      refine hK.out _ _ (SteadyBut.of qL) (fun hHeld => ?_)
      clear hK K
      refine qH 7 fun K hK => ?_
      go_simp
      refine hK.out _ _ ((by repeat (first | with_reducible exact sb_self _ _ | with_reducible refine sb_drew ?_ | with_reducible refine SteadyBut.set ?_ _ _))) (fun hHeld => ?_)
      clear hK K
      refine qS [8] ?_
      refine qT ?_; simp only [Act.put, qY]
      refine TakeSeq.done ?_
      refine qD ?_ _
      go_wp2_with fail
      have BO := H9.out.1
      have hbb := H9.out.2.2.2
      have hO : Over (w.heap.size + 1) w9 (((((((((w9.setCell ⟨w.heap.size + 1, 0, none⟩ (.int .i64 0)).setCell ⟨w.heap.size + 1, 1, none⟩ (.int .i64 0)).setCell ⟨w.heap.size + 1, 2, none⟩ (.int .i64 0)).setCell ⟨w.heap.size + 1, 3, none⟩ (.slice (some ⟨g4, 0, none⟩) 1 q4)).setCell ⟨w.heap.size + 1, 4, none⟩ (.slice none 0 0)).setCell ⟨w.heap.size + 1, 5, none⟩ (.bool false)).setCell ⟨w.heap.size + 1, 6, none⟩ (.bool false)).setCell ⟨w.heap.size + 1, 7, none⟩ (.bool false)).setCell ⟨w.heap.size + 1, 8, none⟩ (.bool false)).drew := qV
      have hpg := H9.out.2.2.1
      rcases own_some hpg with ⟨h0, _⟩ | ⟨g, c, hv⟩
      · omega
      simp only [Value.slice.injEq, true_and] at hv
      obtain ⟨rfl, rfl⟩ := hv
      have hpgr := pgrow_own (l := L) (show w9.ownsRow 0 75 9 (.slice (some ⟨g, 0, none⟩) 6 cw) L.length (pageCells L) by rw [H6.out.1]; exact hpg) H6.out.2.2.2.1 (by rw [H6.out.1]; unfold maxLen; omega)
      refine bodyPost_ret (results_ttbt rfl _ _ (w.heap.size + 1) _ _ _ rfl (((((((((BO.same 0 _ (by kernel_rfl)).same 1 _ (by kernel_rfl)).same 2 _ (by kernel_rfl)).same 3 _ (by kernel_rfl)).same 4 _ (by kernel_rfl)).same 5 _ (by kernel_rfl)).same 6 _ (by kernel_rfl)).same 7 _ (by kernel_rfl)).same 8 _ (by kernel_rfl)).drew Tryz.underlying45 rfl (by kernel_rfl)) rfl ⟨g, cw, g4, q4, rfl, ?_, ?_⟩
      · rw [HLL.out]
        exact pgrow_frame hpgr hO.size (fun b n c hv hlt => hO.block b hlt (by have h2 := blk_ne_row BO hpg (by decide); simp at hv; obtain ⟨rfl, _, _⟩ := hv; simpa [Value.ownBlock, eq_comm] using h2))
      · exact (((((((((hbb.setCell hll _).setCell hll _).setCell hll _).setCell hll _).setCell hll _).setCell hll _).setCell hll _).setCell hll _).setCell hll _).drew
def inR (x m : Int) : Bool := decide (0 ≤ x) && decide (x < m)
theorem inR_of {x m : Int} (h : inR x m = true) : 0 ≤ x ∧ x < m := by simpa [inR] using h
def okB (p : Bt.Page) : Bool := inR p.head 18446744073709551616 && inR p.d0 18446744073709551616 && inR p.d1 18446744073709551616 && inR p.d2 18446744073709551616 && inR p.d3 18446744073709551616 && inR p.d4 18446744073709551616 && inR p.d5 18446744073709551616 && inR p.d6 18446744073709551616
theorem okB_of {p : Bt.Page} (h : okB p = true) : p.Ok := by
  simp only [okB, Bool.and_eq_true] at h
  obtain ⟨⟨⟨⟨⟨⟨⟨h0, h1⟩, h2⟩, h3⟩, h4⟩, h5⟩, h6⟩, h7⟩ := h
  exact ⟨inR_of h0, inR_of h1, inR_of h2, inR_of h3, inR_of h4, inR_of h5, inR_of h6, inR_of h7⟩
def pokB (l : List Bt.Page) : Bool := decide (l.length ≤ 400) && (l.all okB && l.all (fun p => inR p.line 1000))
theorem pokB_of {l : List Bt.Page} (h : pokB l = true) : POk l := by
  simp only [pokB, Bool.and_eq_true, decide_eq_true_eq, List.all_eq_true] at h
  exact ⟨h.1, fun p hp => okB_of (h.2.1 p hp), fun p hp => inR_of (h.2.2 p hp)⟩
set_option maxRecDepth 100000 in
theorem create0 : CreateOk V0 [] :=
  ⟨pokB_of (by kernel_rfl), pokB_of (by kernel_rfl), ⟨by kernel_rfl, by kernel_rfl⟩, by kernel_rfl, pokB_of (by kernel_rfl), pokB_of (by kernel_rfl), pokB_of (by kernel_rfl), by kernel_rfl, ⟨by kernel_rfl, by kernel_rfl⟩, by kernel_rfl, by kernel_rfl,
    pokB_of (by kernel_rfl), by kernel_rfl, pokB_of (by kernel_rfl), pokB_of (by kernel_rfl), by kernel_rfl, ⟨by kernel_rfl, by kernel_rfl⟩, by kernel_rfl, pokB_of (by kernel_rfl), by kernel_rfl, pokB_of (by kernel_rfl)⟩
theorem zero0 : Bt.latest (Rf.merge V0 []) 96 = some zRootP := by kernel_rfl
theorem six0 : (cW6 []).length = 6 := by kernel_rfl
theorem del0 : delD (cW6 []) relD = .map [] := by kernel_rfl
theorem pok6 : POk (cW6 []) := pokB_of (by kernel_rfl)
theorem line0 : ((cW6 [])[0]?).map (·.line) = some 96 := by kernel_rfl
theorem line1 : ((cW6 [])[1]?).map (·.line) = some 104 := by kernel_rfl
theorem line5 : ((cW6 [])[5]?).map (·.line) = some 108 := by kernel_rfl
def jb1 : Jb := ⟨0, 1, 256, [st1], [1], false, 0, 0, 0, 0, 0, 0⟩
theorem st1_typed : st1.Typed := ⟨by unfold i64ok st1; decide, by unfold st1; decide, by unfold st1; decide, by unfold i64ok st1; decide, by unfold i64ok st1; decide, by unfold i64ok st1; decide, by unfold i64ok st1; decide, by unfold i64ok st1; decide, by unfold i64ok st1; decide, by unfold i64ok st1; decide, by unfold i64ok st1; decide, by unfold i64ok st1; decide⟩
theorem jb1_ok : okCode jb1.ok = 0 := by kernel_rfl
theorem valid1 (p a cp ca : Nat) (w : World) (hp : Blk w p 54 stm5) (ha : Blk w a 3 #[.int .i64 1]) :
    Calls Tryz.prog 9 #[.agg (jobCells (.slice (some ⟨p, 0, none⟩) 1 cp) (.slice (some ⟨a, 0, none⟩) 1 ca))] w fun e w' => e = .returned (.int .i64 0) ∧ Below w.heap.size w w' := by
  have h := exValid jb1 (some ⟨p, 0, none⟩) (some ⟨a, 0, none⟩) cp ca 1 1 rfl rfl (by unfold maxLen; omega) (by unfold maxLen; omega) w
    ⟨by intro s hs; simp [jb1] at hs; subst hs; exact st1_typed, .inr ⟨p, 0, rfl, hp.lt, fun i s hi j u hu => by
      rcases i with _ | i
      · simp [jb1] at hi
        subst hi
        have h1 := hp.cell j
        rw [show (0 + 0 * 12 + j) = j by omega, h1]
        exact hu
      · simp [jb1] at hi⟩⟩
    ⟨by intro s hs; simp [jb1] at hs; subst hs; unfold i64ok; omega, .inr ⟨a, 0, rfl, ha.lt, fun i x hi => by
      rcases i with _ | i
      · simp [jb1] at hi
        subst hi
        exact ha.cell 0
      · simp [jb1] at hi⟩⟩
  unfold VjPost at h
  rw [jb1_ok] at h
  exact h
theorem row_line {w : World} {g n c : Nat} {l : List Bt.Page} (h : PgRow w (.slice (some ⟨g, 0, none⟩) n c) l) {i : Nat} {x : Int} (hl : (l[i]?).map (·.line) = some x) : w.cell? ⟨g, i * 9, none⟩ = some (.int .i64 x) := by
  rcases hi : l[i]? with _ | p
  · rw [hi] at hl; cases hl
  · rw [hi] at hl
    simp at hl
    subst hl
    rcases h.form with ⟨h1, _⟩ | ⟨b, cap, hv, hlt, hc⟩
    · cases h1
    · simp at hv
      obtain ⟨rfl, _⟩ := hv
      have := hc i p hi 0 (.int .i64 p.line) rfl
      simpa using this
theorem awake_ok (w : World) (hno : NoneAt w) (hn : HNone w) : Calls Tryz.prog 8 #[] w fun e w' => e = .returned (.bool true) ∧ Below w.heap.size w w' := by
  have HNEW : Hid (∀ W, Calls Tryz.prog 14 #[.int .i64 256] W fun e w' => ∃ v, e = .returned (.pointer (some ⟨W.heap.size, 0, none⟩)) ∧ NewAt W 160 160 v w') := hid (fun W => heapNew 160 (by omega) W)
  have HRM : Hid (∀ hb P cap W, HeapIn hb P cap 160 (newPages 160) W → Calls Tryz.prog 15 #[.pointer (some ⟨hb, 0, none⟩), .int .i64 0] W fun e w' => e = .returned (.tuple #[]) ∧ HeapIn hb P cap 160 V0 w' ∧ Over P W w') :=
    hid (fun hb P cap W h => heapRoom hb P cap 160 (newPages 160) V1 V2 V0 256 512 768 256 256 0 hdF sgF sgF W h bare0 rfl (by rw [len1]; simp [newPages]) ok1 ready1 rfl (by rw [len2, len1]) ok2 ready2 rfl (by rw [len0, len2]) ok0 ready0)
  have HNX := hid (fun p cp a ca vk W hk h1 h2 hp ha HV => exNext p cp a ca vk V0 W hk create0 zero0 h1 h2 hp ha six0 del0 pok6 HV)
  have HNO := hid (And.intro hno hn)
  clear hno hn
  go_enter Tryz.func8, Tryz.ntmps8
  go_wp2_with fail
  go_at_call 14
  refine (HNEW.out _).mono ?_
  rintro e w1 ⟨v, rfl, hnew⟩
  have HN1 := hid hnew
  obtain ⟨P, cap, rfl, hPge, hIN⟩ : ∃ P cap, v = .slice (some ⟨P, 0, none⟩) 160 cap ∧ w.heap.size + 1 ≤ P ∧ HeapIn w.heap.size P cap 160 (newPages 160) w1 := by
    have hown := hnew.own
    rcases hown.2 with ⟨_, h0⟩ | ⟨g, c, cur, hv, hge, _⟩
    · simp at h0
    · subst hv
      refine ⟨g, c, rfl, hge, ?_⟩
      have hl : (newPages 160).length = 160 := by simp [newPages]
      exact ⟨PRow.of_own (by rw [hl]; exact hown), hl.symm, by omega, new_ok 160 (by omega), hnew.blk.cell 0, hnew.blk.cell 1, by omega, hnew.blk.lt⟩
  have HIN := hid hIN
  clear hnew hIN
  go_wp2_with fail
  go_at_call 15
  refine (HRM.out _ _ _ _ HIN.out).mono ?_
  rintro e w2 ⟨rfl, hh2, ho2⟩
  have hb2 : Below w.heap.size w w2 := over_below ((Over.of_below (b := P) HN1.out.below).trans ho2) (by omega)
  have HH2 := hid (And.intro hh2 hb2)
  have c0 := hh2.pages
  have lh := hh2.lt
  clear hh2 hb2 ho2
  go_upto_region 4 with (fail)
  refine wp_name (fun W' => Blk W' w2.heap.size 54 stm5 ∧ Blk W' (w2.heap.size + 1) 3 #[.int .i64 1] ∧ Blk W' (w2.heap.size + 1 + 1) 28 (jobCells (.slice (some ⟨w2.heap.size, 0, none⟩) 1 1) (.slice (some ⟨w2.heap.size + 1, 0, none⟩) 1 1)) ∧ Below w2.heap.size w2 W')
    ⟨((Blk.made w2 _ _).alloc _).alloc _, (Blk.made' (by simp)).alloc _, Blk.made' (by simp), qL⟩ (fun w3 H3 => ?_)
  have kj := H3.out.2.2.1.cell
  have lj := H3.out.2.2.1.lt
  unfold jobCells at kj
  have hs3 : w2.heap.size ≤ w3.heap.size := H3.out.2.2.2.size
  have c03 : w3.cell? ⟨w.heap.size, 0, none⟩ = some (.slice (some ⟨P, 0, none⟩) 160 cap) := (H3.out.2.2.2.cell (p := ⟨w.heap.size, 0, none⟩) lh).trans c0
  have lh3 : w.heap.size < w3.heap.size := by omega
  have HN3 : Hid (∀ W, Below w3.heap.size w3 W → Calls Tryz.prog 10 #[.agg (jobCells (.slice (some ⟨w2.heap.size, 0, none⟩) 1 1) (.slice (some ⟨w2.heap.size + 1, 0, none⟩) 1 1)), .slice (some ⟨P, 0, none⟩) 160 cap] W fun e w' => ∃ g c gr cr, e = .returned (.tuple #[.slice none 0 0, .slice (some ⟨g, 0, none⟩) 6 c, .agg (outCells0 (.slice (some ⟨gr, 0, none⟩) 1 cr)), .bool true]) ∧ PgRow w' (.slice (some ⟨g, 0, none⟩) 6 c) (cW6 []) ∧ Below W.heap.size W w') :=
    hid (fun W hb => by
      have hb2 : Below w2.heap.size w2 W := by have h1 := H3.out.2.2.2; exact qL
      have hbw : Below w.heap.size w W := by have h1 := HH2.out.2; exact qL
      exact HNX.out w2.heap.size 1 (w2.heap.size + 1) 1 _ W ((HH2.out.1.row.pg HH2.out.1.len HH2.out.1.ok HH2.out.1.small).below hb2) (HNO.out.1.below hbw) (HNO.out.2.below hbw) (H3.out.1.kept hb) (H3.out.2.1.kept hb)
        (fun W' hb' => valid1 _ _ _ _ W' ((H3.out.1.kept hb).kept hb') ((H3.out.2.1.kept hb).kept hb')))
  unfold jobCells outCells0 at HN3
  clear c0
  go_cut [3, 4, 5, 6] from 15 to 25 (fun x y z o wx => ∃ g c gr cr b5, x = .slice none 0 0 ∧ y = .slice (some ⟨g, 0, none⟩) 6 c ∧ z = .pointer (some ⟨b5, 0, none⟩) ∧ o = .bool true ∧ Hid (Blk wx b5 45 (outCells0 (.slice (some ⟨gr, 0, none⟩) 1 cr)) ∧ PgRow wx (.slice (some ⟨g, 0, none⟩) 6 c) (cW6 []) ∧ Below w.heap.size w wx))
  case first =>
    go_upto_region 4 with (fail)
    refine qA fun hSt => ?_
    refine qS [0, 1, 2, 3, 4] ?_
    iterate 5 (refine qT ?_; simp only [Act.put, qY])
    refine TakeSeq.done ?_
    refine wpAnyH_ready (rs := [5, 11]) (by kernel_rfl) (by simp) ?_
    refine AllReadyH.cons rfl (fun K hK => ?_) (AllReadyH.cons rfl (fun K hK => ?_) (AllReadyH.nil))
    · skip
      rw [if_pos (by rfl)]
      go_simp
      go_at_call 10; refine (HN3.out _ qL).mono ?_; rintro e w4 ⟨g, c, gr, cr, rfl, hpg, hb4⟩
      go_wp2_with fail
      refine hK.out _ _ (SteadyAll.of qL) (fun hHeld => ?_)
      clear hK K
      refine qS [6, 7, 8, 9, 10] ?_
      iterate 5 (refine qT ?_; simp only [Act.put, qY])
      refine TakeSeq.done ?_
      refine qH 11 fun K hK => ?_
      go_simp
      refine hK.out _ _ (SteadyAll.of qL) (fun hHeld => ?_)
      clear hK K
      refine qS [12, 13] ?_
      iterate 2 (refine qT ?_; simp only [Act.put, qY])
      refine TakeSeq.done ?_
      refine qH 14 fun K hK => ?_
      go_simp
      refine hK.out _ _ (SteadyAll.of qL) (fun hHeld => ?_)
      clear hK K
      refine qS [15] ?_
      refine qT ?_; simp only [Act.put, qY]
      refine TakeSeq.done ?_
      refine qD ?_ _
      go_wp2_with fail
      go_meet
      have hb3 := H3.out.2.2.2
      have hb2 := HH2.out.2
      exact ⟨g, c, gr, cr, w4.heap.size, rfl, rfl, rfl, rfl, hid ⟨Blk.made _ _ _, hpg.below (below_alloc (Below.refl _ _) _), qL⟩⟩
    · skip
      rw [if_pos (by rfl)]
      go_simp
      refine hK.out _ _ (SteadyAll.of qL) (fun hHeld => ?_)
      clear hK K
      refine qH 5 fun K hK => ?_
      go_simp
      go_at_call 10; refine (HN3.out _ qL).mono ?_; rintro e w4 ⟨g, c, gr, cr, rfl, hpg, hb4⟩
      go_wp2_with fail
      refine hK.out _ _ (SteadyAll.of qL) (fun hHeld => ?_)
      clear hK K
      have B7 : Blk w4 w3.heap.size 45 #[.int .i64 0, .int .i64 0, .int .i64 0, .slice none 0 0, .slice none 0 0, .bool false, .bool false, .bool false, .bool false] := (Blk.made w3.drew _ _).kept hb4
      have hg : g ≠ w3.heap.size := by
        intro e
        have h1 := row_line hpg line0
        rw [e, show (0 * 9) = 0 by rfl, B7.cell] at h1
        simp at h1
      have k7 := B7.cell
      have f7 := B7.free
      have l7 := B7.lt
      have HX := hid (And.intro hpg (And.intro B7 hb4))
      clear hpg B7
      refine qS [6, 7, 8, 9, 10, 12, 13] ?_
      iterate 7 (refine qT ?_; simp only [Act.put, qY])
      refine TakeSeq.done ?_
      refine qH 14 fun K hK => ?_
      go_simp
      refine hK.out _ _ (SteadyAll.of qL) (fun hHeld => ?_)
      clear hK K
      refine qS [15] ?_
      refine qT ?_; simp only [Act.put, qY]
      refine TakeSeq.done ?_
      refine qD ?_ _
      go_wp2_with fail
      go_meet
      have hb3 := H3.out.2.2.2
      have hb2 := HH2.out.2
      have hb4 := HX.out.2.2
      have hs2 : w.heap.size ≤ w2.heap.size := hb2.size
      exact ⟨g, c, gr, cr, w3.heap.size, rfl, rfl, rfl, rfl, hid ⟨Blk.cast (((((((((HX.out.2.1.put 0 _).put 1 _).put 2 _).put 3 _).put 4 _).put 5 _).put 6 _).put 7 _).put 8 _) (by kernel_rfl), (pgrow_put (pgrow_put (pgrow_put (pgrow_put (pgrow_put (pgrow_put (pgrow_put (pgrow_put (pgrow_put HX.out.1 (fun b' n' c' h => by simp at h; omega) 0 _) (fun b' n' c' h => by simp at h; omega) 1 _) (fun b' n' c' h => by simp at h; omega) 2 _) (fun b' n' c' h => by simp at h; omega) 3 _) (fun b' n' c' h => by simp at h; omega) 4 _) (fun b' n' c' h => by simp at h; omega) 5 _) (fun b' n' c' h => by simp at h; omega) 6 _) (fun b' n' c' h => by simp at h; omega) 7 _) (fun b' n' c' h => by simp at h; omega) 8 _), qL⟩⟩
  case rest =>
    obtain ⟨g, c, gr, cr, b5, rfl, rfl, rfl, rfl, HX⟩ := hcut
    have k5 := HX.out.1.cell
    have l5 := HX.out.1.lt
    unfold outCells0 at k5
    have p0 : wc.cell? ⟨g, 0, none⟩ = some (.int .i64 96) := row_line HX.out.2.1 line0
    have p1 : wc.cell? ⟨g, 9, none⟩ = some (.int .i64 104) := row_line HX.out.2.1 line1
    have p5 : wc.cell? ⟨g, 45, none⟩ = some (.int .i64 108) := row_line HX.out.2.1 line5
    go_wp2_with fail
    exact bodyPost_ret (results_tmp rfl _ _ _) rfl ⟨rfl, HX.out.2.2⟩
end Go.Proofs.YtcoiehgcfjfhaaaGreatDoor
