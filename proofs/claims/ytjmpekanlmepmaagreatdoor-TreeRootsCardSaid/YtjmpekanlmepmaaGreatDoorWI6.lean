/- Package btree: the first leaf is planted: with a fresh page. -/
import Derived.Test.YtjmpekanlmepmaaGreatDoorQj
set_option linter.unusedVariables false
set_option linter.unusedSimpArgs false
set_option linter.unusedSectionVars false
set_option linter.constructorNameAsVariable false
namespace Go.Proofs.YtjmpekanlmepmaaGreatDoor
open Go.RowKit

theorem Over.sz {b : Nat} {w w' : World} (h : Over b w w') : w.heap.size ≤ w'.heap.size := h.size
theorem SteadyBut.over {r : Nat} {w1 wx : World} (h : Over r w1 wx) : SteadyBut r w1 wx := ⟨fun b o hb hr => (over_rules h).1 b o hb hr⟩

theorem own_pages2 (w : World) (base : Nat) (R F : Bt.Page) (hb : base ≤ w.heap.size) : (w.alloc (.cells #[.int .i64 R.line, .int .u64 R.head, .int .u64 R.d0, .int .u64 R.d1, .int .u64 R.d2, .int .u64 R.d3, .int .u64 R.d4, .int .u64 R.d5, .int .u64 R.d6, .int .i64 F.line, .int .u64 F.head, .int .u64 F.d0, .int .u64 F.d1, .int .u64 F.d2, .int .u64 F.d3, .int .u64 F.d4, .int .u64 F.d5, .int .u64 F.d6] 25)).ownsRow base 25 9 (.slice (some ⟨w.heap.size, 0, none⟩) 2 2) 2 (pageCells [R, F]) :=
  ⟨rfl, .inr ⟨w.heap.size, 2, _, rfl, hb, Blk.made' rfl, Nat.le_refl _, by unfold maxLen; omega, rfl, rfl⟩⟩
theorem own_pages1 (w : World) (base : Nat) (R : Bt.Page) (hb : base ≤ w.heap.size) : (w.alloc (.cells #[.int .i64 R.line, .int .u64 R.head, .int .u64 R.d0, .int .u64 R.d1, .int .u64 R.d2, .int .u64 R.d3, .int .u64 R.d4, .int .u64 R.d5, .int .u64 R.d6] 25)).ownsRow base 25 9 (.slice (some ⟨w.heap.size, 0, none⟩) 1 1) 1 (pageCells [R]) :=
  ⟨rfl, .inr ⟨w.heap.size, 1, _, rfl, hb, Blk.made' rfl, Nat.le_refl _, by unfold maxLen; omega, rfl, rfl⟩⟩

def PlantCut (R q : Bt.Page) (e : Bt.Entry) (w2 : World) (s7 : Value) (wx : World) : Prop :=
  ∃ G : Nat, s7 = .pointer (some ⟨G, 0, none⟩) ∧ w2.heap.size ≤ G ∧ Blk wx G 25 R.cells ∧ Blk wx w2.heap.size 25 q.cells ∧ Blk wx (w2.heap.size + 1) 69 e.cells ∧
    Blk wx (w2.heap.size + 1 + 1) 73 (nodeCells (plantLeaf e) (.slice (some ⟨w2.heap.size + 1, 0, none⟩) 1 1)) ∧ Below w2.heap.size w2 wx

set_option maxRecDepth 10000 in
set_option maxHeartbeats 2000000 in
theorem plant_one (A : Nat → Prop) (op : Bt.Op) (known : List Bt.Page) (vf vk : Value) (s : Bt.St) (b : Nat) (e : Bt.Entry) (w : World) (h : IsRun A op known vf vk s b w) (hA : ∀ c, A c → c < w.heap.size)
    (hrp : s.rootPage.Ok) (hlk : Bt.locked s.rootPage = false) (hrl : s.rootPage.line = 96)
    (p q : Bt.Page) (rest : List Bt.Page) (hf : op.fresh = p :: rest) (hpo : p.Ok) (ha : Bt.allocate p 4 0 = (q, 0)) (hek : 0 ≤ e.key ∧ e.key < 4294967296) :
    Calls Tryz.prog 85 #[.pointer (some ⟨b, 0, none⟩), .agg e.cells] w (RunPost A op known vf vk (s.plant op e) b (.tuple #[]) w) := by
  have HX : Hid (s.plant op e = s.finish [Bt.writeRoot s.rootPage (Bt.at_ q) 0, (plantLeaf e).fill q] []) := Lib.hid (by simp [Bt.St.plant, hlk, Bt.St.fresh, hf, ha, plantLeaf])
  obtain ⟨hqo, hqv, hql, hqh, hqd⟩ := alloc_good hpo ha
  have HQ : Hid (q.cells = #[.int .i64 q.line, .int .u64 q.head, .int .u64 q.d0, .int .u64 q.d1, .int .u64 q.d2, .int .u64 q.d3, .int .u64 q.d4, .int .u64 q.d5, .int .u64 q.d6]) := Lib.hid rfl
  have HRC : ∀ r : Bt.Page, Hid (r.cells = #[.int .i64 r.line, .int .u64 r.head, .int .u64 r.d0, .int .u64 r.d1, .int .u64 r.d2, .int .u64 r.d3, .int .u64 r.d4, .int .u64 r.d5, .int .u64 r.d6]) := fun r => Lib.hid rfl
  have HVR : Hid (Bt.validRoot (Bt.at_ q) 0 = true) := Lib.hid (by simp [Bt.validRoot, hqv])
  have HQO := Lib.hid hqo
  have HA := Lib.hid ha
  have HRL := Lib.hid hrl
  have HNO : Hid (NodeOk (plantLeaf e)) := Lib.hid ⟨by simp [plantLeaf], by simp [plantLeaf, Bt.maxHigh], by simp [plantLeaf]⟩
  have HNA : Hid (NoneAt w) := Lib.hid (by obtain ⟨vn, vw, ve, vc, hr, _⟩ := h; exact hr.none)
  have HR := Lib.hid h
  have HF := Lib.hid hf
  have HRP := Lib.hid hrp
  have HLK := Lib.hid hlk
  have hlt := h.lt
  have hlt1 : b < w.heap.size + 1 := by omega
  obtain ⟨vn, vw, ve, vc, hc⟩ := h.cells
  have k25 : w.cell? ⟨b, 25, none⟩ = some (.int .i64 s.rootPage.line) := hc 25
  have k26 : w.cell? ⟨b, 26, none⟩ = some (.int .u64 s.rootPage.head) := hc 26
  have k27 : w.cell? ⟨b, 27, none⟩ = some (.int .u64 s.rootPage.d0) := hc 27
  have k28 : w.cell? ⟨b, 28, none⟩ = some (.int .u64 s.rootPage.d1) := hc 28
  have k29 : w.cell? ⟨b, 29, none⟩ = some (.int .u64 s.rootPage.d2) := hc 29
  have k30 : w.cell? ⟨b, 30, none⟩ = some (.int .u64 s.rootPage.d3) := hc 30
  have k31 : w.cell? ⟨b, 31, none⟩ = some (.int .u64 s.rootPage.d4) := hc 31
  have k32 : w.cell? ⟨b, 32, none⟩ = some (.int .u64 s.rootPage.d5) := hc 32
  have k33 : w.cell? ⟨b, 33, none⟩ = some (.int .u64 s.rootPage.d6) := hc 33
  clear h hc hf hrp hlk hqo hqv hql hqh hqd ha hrl
  unfold Bt.Entry.cells
  go_enter Tryz.func85, Tryz.ntmps85
  go_wp2_with fail
  go_at_call 80; refine (Locked_any s.rootPage HRP.out _).mono ?_; rintro e w1 ⟨rfl, hb⟩; rw [HLK.out]; ((obtain ⟨hc1, hf1⟩ := below_rules hb; have hs1 := Below.size hb; try simp only [size_alloc, size_setCell, size_drew, size_drewN] at hs1 hc1 hf1); (try have z1_w_0 : w.heap.size < w1.heap.size := by omega); (try have z1_w_1 : w.heap.size + 1 < w1.heap.size := by omega))
  have HB := Lib.hid hb
  go_wp2_with fail
  go_at_call 93; refine (fresh_one A op known vf vk s b _ [] _ ?hrun ?hlow p q rest HF.out HA.out (by simp) (World.ownsRow_nil _ _ _ _)).mono ?_
  case hrun => exact HR.out.below (by (repeat (first | with_reducible exact Below.refl _ _ | with_reducible assumption | with_reducible refine Below.setCell ?_ (by first | (simp; done) | (simp; omega)) _ | with_reducible refine below_alloc ?_ _ | with_reducible refine below_drewN ?_ _ | with_reducible refine Below.drew ?_ | with_reducible refine below_step ?_ (by assumption))))
  case hlow => exact fun c hc => by have := hA c hc; omega
  rintro e1 w2 ⟨hrun2, ho2, rfl⟩
  have HR2 := Lib.hid hrun2
  clear hrun2
  ((obtain ⟨hc2, hf2⟩ := over_rules ho2; have hs2 := World.grownBy.size ho2; try simp only [size_alloc, size_setCell, size_drew, size_drewN] at hs2 hc2 hf2); (try have z2_w_0 : w.heap.size < w2.heap.size := by omega); (try have z2_w_1 : w.heap.size + 1 < w2.heap.size := by omega); (try have z2_w1_0 : w1.heap.size < w2.heap.size := by omega))
  simp only [Option.getD_some, Option.isSome_some, HQ.out]
  obtain ⟨un, uw, ue, uc, hc⟩ := HR2.out.cells
  have j25 : w2.cell? ⟨b, 25, none⟩ = some (.int .i64 s.rootPage.line) := hc 25
  have j26 : w2.cell? ⟨b, 26, none⟩ = some (.int .u64 s.rootPage.head) := hc 26
  have j27 : w2.cell? ⟨b, 27, none⟩ = some (.int .u64 s.rootPage.d0) := hc 27
  have j28 : w2.cell? ⟨b, 28, none⟩ = some (.int .u64 s.rootPage.d1) := hc 28
  have j29 : w2.cell? ⟨b, 29, none⟩ = some (.int .u64 s.rootPage.d2) := hc 29
  have j30 : w2.cell? ⟨b, 30, none⟩ = some (.int .u64 s.rootPage.d3) := hc 30
  have j31 : w2.cell? ⟨b, 31, none⟩ = some (.int .u64 s.rootPage.d4) := hc 31
  have j32 : w2.cell? ⟨b, 32, none⟩ = some (.int .u64 s.rootPage.d5) := hc 32
  have j33 : w2.cell? ⟨b, 33, none⟩ = some (.int .u64 s.rootPage.d6) := hc 33
  have hq0 : b < w2.heap.size := by omega
  have hq1 : b < w2.heap.size + 1 := by omega
  have hq2 : b < w2.heap.size + 1 + 1 := by omega
  have hq3 : b < w2.heap.size + 1 + 1 + 1 := by omega
  clear hc
  have HN2 : Hid (NoneAt w2) := Lib.hid (by obtain ⟨vn, vw, ve, vc, hr, _⟩ := HR2.out; exact hr.none)
  have HWC := HRC (Bt.writeRoot s.rootPage (Bt.at_ q) 0)
  go_wp2_with fail
  go_cut [7] (PlantCut (Bt.writeRoot s.rootPage (Bt.at_ q) 0) q e w2)
  case first =>
    refine wp_region_held_drew (S := SteadyAll _) (by kernel_rfl) (SteadyAll.of (Below.refl _ _).drew) ?_
    intro hSt
    refine wpAnyH_seq (is := [0, 1, 2, 3, 4]) (by kernel_rfl) (by kernel_rfl) (fun _ _ d _ _ h => by cases d <;> exact h) (by assumption) ?_
    iterate 5 (first | (refine TakeSeq.step (v := undef) rfl (Or.inr ⟨by rfl, rfl⟩) ?_; simp only [Act.put, List.setIfInBounds_toArray, List.set_cons_zero, List.set_cons_succ, List.getElem_toArray, List.getElem_cons_zero, List.getElem_cons_succ]) | (refine TakeSeq.step (v := ?_) rfl (Or.inl ⟨by rfl, ?_⟩) ?_; rotate_left 1; (focus (intro wq hSq; have hrd := hSq.rule; go_simp; with_reducible rfl)); simp only [Act.put, List.setIfInBounds_toArray, List.set_cons_zero, List.set_cons_succ, List.getElem_toArray, List.getElem_cons_zero, List.getElem_cons_succ]))
    refine TakeSeq.done ?_
    refine wpAnyH_ready (rs := [5, 10]) (by kernel_rfl) (by simp) ?_
    refine AllReadyH.cons rfl (fun K hK => ?_) (AllReadyH.cons rfl (fun K hK => ?_) (AllReadyH.nil))
    · skip
      rw [if_pos (by rfl)]
      go_simp
      go_at_call 33; refine (At_any q HQO.out _).mono ?_; rintro e3 w3 ⟨rfl, hb3⟩; ((obtain ⟨hc3, hf3⟩ := below_rules hb3; have hs3 := Below.size hb3; try simp only [size_alloc, size_setCell, size_drew, size_drewN] at hs3 hc3 hf3); (try have z3_w2_0 : w2.heap.size < w3.heap.size := by omega); (try have z3_w2_1 : w2.heap.size + 1 < w3.heap.size := by omega); (try have z3_w2_2 : w2.heap.size + 1 + 1 < w3.heap.size := by omega); (try have z3_w2_3 : w2.heap.size + 1 + 1 + 1 < w3.heap.size := by omega))
      go_wp2_with fail
      refine hK.out _ _ (SteadyAll.of (by (repeat (first | with_reducible exact Below.refl _ _ | with_reducible assumption | with_reducible refine Below.setCell ?_ (by first | (simp; done) | (simp; omega)) _ | with_reducible refine below_alloc ?_ _ | with_reducible refine below_drewN ?_ _ | with_reducible refine Below.drew ?_ | with_reducible refine below_step ?_ (by assumption))))) (fun hHeld => ?_)
      clear hK K
      refine wpAnyH_ready (rs := [6, 10]) (by kernel_rfl) (by simp) ?_
      refine AllReadyH.cons rfl (fun K hK => ?_) (AllReadyH.cons rfl (fun K hK => ?_) (AllReadyH.nil))
      · skip
        rw [if_pos (by rfl)]
        go_simp
        go_at_call 17; refine (WriteRoot_any s.rootPage (Bt.at_ q) 0 HRL.out HVR.out _ ?hng).mono ?_; (case hng => exact HN2.out.below (by (repeat (first | with_reducible exact Below.refl _ _ | with_reducible assumption | with_reducible refine Below.setCell ?_ (by first | (simp; done) | (simp; omega)) _ | with_reducible refine below_alloc ?_ _ | with_reducible refine below_drewN ?_ _ | with_reducible refine Below.drew ?_ | with_reducible refine below_step ?_ (by assumption))))); rintro e4 w4 ⟨rfl, hb4⟩; rw [HWC.out]; ((obtain ⟨hc4, hf4⟩ := below_rules hb4; have hs4 := Below.size hb4; try simp only [size_alloc, size_setCell, size_drew, size_drewN] at hs4 hc4 hf4); (try have z4_w2_0 : w2.heap.size < w4.heap.size := by omega); (try have z4_w2_1 : w2.heap.size + 1 < w4.heap.size := by omega); (try have z4_w2_2 : w2.heap.size + 1 + 1 < w4.heap.size := by omega); (try have z4_w2_3 : w2.heap.size + 1 + 1 + 1 < w4.heap.size := by omega); (try have z4_w3_0 : w3.heap.size < w4.heap.size := by omega))
        go_wp2_with fail
        refine hK.out _ _ (SteadyAll.of (by (repeat (first | with_reducible exact Below.refl _ _ | with_reducible assumption | with_reducible refine Below.setCell ?_ (by first | (simp; done) | (simp; omega)) _ | with_reducible refine below_alloc ?_ _ | with_reducible refine below_drewN ?_ _ | with_reducible refine Below.drew ?_ | with_reducible refine below_step ?_ (by assumption))))) (fun hHeld => ?_)
        clear hK K
        refine wpAnyH_seq (is := [7, 8, 9]) (by kernel_rfl) (by kernel_rfl) (fun _ _ d _ _ h => by cases d <;> exact h) (by assumption) ?_
        iterate 3 (first | (refine TakeSeq.step (v := undef) rfl (Or.inr ⟨by rfl, rfl⟩) ?_; simp only [Act.put, List.setIfInBounds_toArray, List.set_cons_zero, List.set_cons_succ, List.getElem_toArray, List.getElem_cons_zero, List.getElem_cons_succ]) | (refine TakeSeq.step (v := ?_) rfl (Or.inl ⟨by rfl, ?_⟩) ?_; rotate_left 1; (focus (intro wq hSq; have hrd := hSq.rule; go_simp; with_reducible rfl)); simp only [Act.put, List.setIfInBounds_toArray, List.set_cons_zero, List.set_cons_succ, List.getElem_toArray, List.getElem_cons_zero, List.getElem_cons_succ]))
        refine TakeSeq.done ?_
        refine wpAnyH_ready (rs := [10]) (by kernel_rfl) (by simp) ?_
        refine AllReadyH.cons rfl (fun K hK => ?_) (AllReadyH.nil)
        rw [if_pos (by rfl)]
        go_simp
        refine hK.out _ _ (SteadyAll.of (by (repeat (first | with_reducible exact Below.refl _ _ | with_reducible assumption | with_reducible refine Below.setCell ?_ (by first | (simp; done) | (simp; omega)) _ | with_reducible refine below_alloc ?_ _ | with_reducible refine below_drewN ?_ _ | with_reducible refine Below.drew ?_ | with_reducible refine below_step ?_ (by assumption))))) (fun hHeld => ?_)
        clear hK K
        refine wpAnyH_ready (rs := [11]) (by kernel_rfl) (by simp) ?_
        refine AllReadyH.cons rfl (fun K hK => ?_) (AllReadyH.nil)
        rw [if_pos (by rfl)]
        go_simp
        refine hK.out _ _ (SteadyAll.of (by (repeat (first | with_reducible exact Below.refl _ _ | with_reducible assumption | with_reducible refine Below.setCell ?_ (by first | (simp; done) | (simp; omega)) _ | with_reducible refine below_alloc ?_ _ | with_reducible refine below_drewN ?_ _ | with_reducible refine Below.drew ?_ | with_reducible refine below_step ?_ (by assumption))))) (fun hHeld => ?_)
        clear hK K
        refine wpAnyH_seq (is := [12]) (by kernel_rfl) (by kernel_rfl) (fun _ _ d _ _ h => by cases d <;> exact h) (by assumption) ?_
        iterate 1 (first | (refine TakeSeq.step (v := undef) rfl (Or.inr ⟨by rfl, rfl⟩) ?_; simp only [Act.put, List.setIfInBounds_toArray, List.set_cons_zero, List.set_cons_succ, List.getElem_toArray, List.getElem_cons_zero, List.getElem_cons_succ]) | (refine TakeSeq.step (v := ?_) rfl (Or.inl ⟨by rfl, ?_⟩) ?_; rotate_left 1; (focus (intro wq hSq; have hrd := hSq.rule; go_simp; with_reducible rfl)); simp only [Act.put, List.setIfInBounds_toArray, List.set_cons_zero, List.set_cons_succ, List.getElem_toArray, List.getElem_cons_zero, List.getElem_cons_succ]))
        refine TakeSeq.done ?_
        refine wpAnyH_done (by kernel_rfl) ?_ _
        go_wp2_with fail
        have BQ : Blk (w2.alloc (.cells #[.int .i64 q.line, .int .u64 q.head, .int .u64 q.d0, .int .u64 q.d1, .int .u64 q.d2, .int .u64 q.d3, .int .u64 q.d4, .int .u64 q.d5, .int .u64 q.d6] 25)) w2.heap.size 25 q.cells := Blk.made _ _ _
        have BE : Blk ((w2.alloc (.cells #[.int .i64 q.line, .int .u64 q.head, .int .u64 q.d0, .int .u64 q.d1, .int .u64 q.d2, .int .u64 q.d3, .int .u64 q.d4, .int .u64 q.d5, .int .u64 q.d6] 25)).alloc (.cells #[.int .u32 e.key, .int .i64 e.to.line, .int .i64 e.to.gen] 69)) (w2.heap.size + 1) 69 e.cells := made22 _
        have BN : Blk (((w2.alloc (.cells #[.int .i64 q.line, .int .u64 q.head, .int .u64 q.d0, .int .u64 q.d1, .int .u64 q.d2, .int .u64 q.d3, .int .u64 q.d4, .int .u64 q.d5, .int .u64 q.d6] 25)).alloc (.cells #[.int .u32 e.key, .int .i64 e.to.line, .int .i64 e.to.gen] 69)).alloc (.cells #[.int .i64 0, .bool true, .bool false, .int .u32 4294967295, .int .i64 0, .int .i64 0, .slice (some ⟨w2.heap.size + 1, 0, none⟩) 1 1] 73)) (w2.heap.size + 1 + 1) 73 (nodeCells (plantLeaf e) (.slice (some ⟨w2.heap.size + 1, 0, none⟩) 1 1)) := made33 _
        go_meet
        exact ⟨_, rfl, by omega, Blk.made _ _ _, by (repeat (first | with_reducible exact BQ | with_reducible apply Blk.put | with_reducible apply Blk.alloc | (with_reducible apply Blk.aside; (case hp => first | (simp; done) | (simp; omega))) | with_reducible apply Blk.drew | with_reducible refine Blk.kept ?_ (by assumption))), by (repeat (first | with_reducible exact BE | with_reducible apply Blk.put | with_reducible apply Blk.alloc | (with_reducible apply Blk.aside; (case hp => first | (simp; done) | (simp; omega))) | with_reducible apply Blk.drew | with_reducible refine Blk.kept ?_ (by assumption))), by (repeat (first | with_reducible exact BN | with_reducible apply Blk.put | with_reducible apply Blk.alloc | (with_reducible apply Blk.aside; (case hp => first | (simp; done) | (simp; omega))) | with_reducible apply Blk.drew | with_reducible refine Blk.kept ?_ (by assumption))), by (repeat (first | with_reducible exact Below.refl _ _ | with_reducible assumption | with_reducible refine Below.setCell ?_ (by first | (simp; done) | (simp; omega)) _ | with_reducible refine below_alloc ?_ _ | with_reducible refine below_drewN ?_ _ | with_reducible refine Below.drew ?_ | with_reducible refine below_step ?_ (by assumption)))⟩
      · skip
        rw [if_pos (by rfl)]
        go_simp
        refine hK.out _ _ (SteadyAll.of (by (repeat (first | with_reducible exact Below.refl _ _ | with_reducible assumption | with_reducible refine Below.setCell ?_ (by first | (simp; done) | (simp; omega)) _ | with_reducible refine below_alloc ?_ _ | with_reducible refine below_drewN ?_ _ | with_reducible refine Below.drew ?_ | with_reducible refine below_step ?_ (by assumption))))) (fun hHeld => ?_)
        clear hK K
        refine wpAnyH_ready (rs := [6]) (by kernel_rfl) (by simp) ?_
        refine AllReadyH.cons rfl (fun K hK => ?_) (AllReadyH.nil)
        rw [if_pos (by rfl)]
        go_simp
        go_at_call 17; refine (WriteRoot_any s.rootPage (Bt.at_ q) 0 HRL.out HVR.out _ ?hng).mono ?_; (case hng => exact HN2.out.below (by (repeat (first | with_reducible exact Below.refl _ _ | with_reducible assumption | with_reducible refine Below.setCell ?_ (by first | (simp; done) | (simp; omega)) _ | with_reducible refine below_alloc ?_ _ | with_reducible refine below_drewN ?_ _ | with_reducible refine Below.drew ?_ | with_reducible refine below_step ?_ (by assumption))))); rintro e4 w4 ⟨rfl, hb4⟩; rw [HWC.out]; ((obtain ⟨hc4, hf4⟩ := below_rules hb4; have hs4 := Below.size hb4; try simp only [size_alloc, size_setCell, size_drew, size_drewN] at hs4 hc4 hf4); (try have z4_w2_0 : w2.heap.size < w4.heap.size := by omega); (try have z4_w2_1 : w2.heap.size + 1 < w4.heap.size := by omega); (try have z4_w2_2 : w2.heap.size + 1 + 1 < w4.heap.size := by omega); (try have z4_w2_3 : w2.heap.size + 1 + 1 + 1 < w4.heap.size := by omega); (try have z4_w3_0 : w3.heap.size < w4.heap.size := by omega))
        go_wp2_with fail
        refine hK.out _ _ (SteadyAll.of (by (repeat (first | with_reducible exact Below.refl _ _ | with_reducible assumption | with_reducible refine Below.setCell ?_ (by first | (simp; done) | (simp; omega)) _ | with_reducible refine below_alloc ?_ _ | with_reducible refine below_drewN ?_ _ | with_reducible refine Below.drew ?_ | with_reducible refine below_step ?_ (by assumption))))) (fun hHeld => ?_)
        clear hK K
        refine wpAnyH_seq (is := [7, 8, 9]) (by kernel_rfl) (by kernel_rfl) (fun _ _ d _ _ h => by cases d <;> exact h) (by assumption) ?_
        iterate 3 (first | (refine TakeSeq.step (v := undef) rfl (Or.inr ⟨by rfl, rfl⟩) ?_; simp only [Act.put, List.setIfInBounds_toArray, List.set_cons_zero, List.set_cons_succ, List.getElem_toArray, List.getElem_cons_zero, List.getElem_cons_succ]) | (refine TakeSeq.step (v := ?_) rfl (Or.inl ⟨by rfl, ?_⟩) ?_; rotate_left 1; (focus (intro wq hSq; have hrd := hSq.rule; go_simp; with_reducible rfl)); simp only [Act.put, List.setIfInBounds_toArray, List.set_cons_zero, List.set_cons_succ, List.getElem_toArray, List.getElem_cons_zero, List.getElem_cons_succ]))
        refine TakeSeq.done ?_
        refine wpAnyH_ready (rs := [11]) (by kernel_rfl) (by simp) ?_
        refine AllReadyH.cons rfl (fun K hK => ?_) (AllReadyH.nil)
        rw [if_pos (by rfl)]
        go_simp
        refine hK.out _ _ (SteadyAll.of (by (repeat (first | with_reducible exact Below.refl _ _ | with_reducible assumption | with_reducible refine Below.setCell ?_ (by first | (simp; done) | (simp; omega)) _ | with_reducible refine below_alloc ?_ _ | with_reducible refine below_drewN ?_ _ | with_reducible refine Below.drew ?_ | with_reducible refine below_step ?_ (by assumption))))) (fun hHeld => ?_)
        clear hK K
        refine wpAnyH_seq (is := [12]) (by kernel_rfl) (by kernel_rfl) (fun _ _ d _ _ h => by cases d <;> exact h) (by assumption) ?_
        iterate 1 (first | (refine TakeSeq.step (v := undef) rfl (Or.inr ⟨by rfl, rfl⟩) ?_; simp only [Act.put, List.setIfInBounds_toArray, List.set_cons_zero, List.set_cons_succ, List.getElem_toArray, List.getElem_cons_zero, List.getElem_cons_succ]) | (refine TakeSeq.step (v := ?_) rfl (Or.inl ⟨by rfl, ?_⟩) ?_; rotate_left 1; (focus (intro wq hSq; have hrd := hSq.rule; go_simp; with_reducible rfl)); simp only [Act.put, List.setIfInBounds_toArray, List.set_cons_zero, List.set_cons_succ, List.getElem_toArray, List.getElem_cons_zero, List.getElem_cons_succ]))
        refine TakeSeq.done ?_
        refine wpAnyH_done (by kernel_rfl) ?_ _
        go_wp2_with fail
        have BQ : Blk (w2.alloc (.cells #[.int .i64 q.line, .int .u64 q.head, .int .u64 q.d0, .int .u64 q.d1, .int .u64 q.d2, .int .u64 q.d3, .int .u64 q.d4, .int .u64 q.d5, .int .u64 q.d6] 25)) w2.heap.size 25 q.cells := Blk.made _ _ _
        have BE : Blk ((w2.alloc (.cells #[.int .i64 q.line, .int .u64 q.head, .int .u64 q.d0, .int .u64 q.d1, .int .u64 q.d2, .int .u64 q.d3, .int .u64 q.d4, .int .u64 q.d5, .int .u64 q.d6] 25)).alloc (.cells #[.int .u32 e.key, .int .i64 e.to.line, .int .i64 e.to.gen] 69)) (w2.heap.size + 1) 69 e.cells := made22 _
        have BN : Blk (((w2.alloc (.cells #[.int .i64 q.line, .int .u64 q.head, .int .u64 q.d0, .int .u64 q.d1, .int .u64 q.d2, .int .u64 q.d3, .int .u64 q.d4, .int .u64 q.d5, .int .u64 q.d6] 25)).alloc (.cells #[.int .u32 e.key, .int .i64 e.to.line, .int .i64 e.to.gen] 69)).alloc (.cells #[.int .i64 0, .bool true, .bool false, .int .u32 4294967295, .int .i64 0, .int .i64 0, .slice (some ⟨w2.heap.size + 1, 0, none⟩) 1 1] 73)) (w2.heap.size + 1 + 1) 73 (nodeCells (plantLeaf e) (.slice (some ⟨w2.heap.size + 1, 0, none⟩) 1 1)) := made33 _
        have BG0 := (Blk.made w3 25 #[.int .i64 0, .int .u64 0, .int .u64 0, .int .u64 0, .int .u64 0, .int .u64 0, .int .u64 0, .int .u64 0, .int .u64 0]).kept hb4
        go_meet
        exact ⟨_, rfl, by omega, Blk.cast (by (repeat (first | with_reducible exact BG0 | with_reducible apply Blk.put | with_reducible apply Blk.alloc | (with_reducible apply Blk.aside; (case hp => first | (simp; done) | (simp; omega))) | with_reducible apply Blk.drew))) (by rw [set9]; rfl), by (repeat (first | with_reducible exact BQ | with_reducible apply Blk.put | with_reducible apply Blk.alloc | (with_reducible apply Blk.aside; (case hp => first | (simp; done) | (simp; omega))) | with_reducible apply Blk.drew | with_reducible refine Blk.kept ?_ (by assumption))), by (repeat (first | with_reducible exact BE | with_reducible apply Blk.put | with_reducible apply Blk.alloc | (with_reducible apply Blk.aside; (case hp => first | (simp; done) | (simp; omega))) | with_reducible apply Blk.drew | with_reducible refine Blk.kept ?_ (by assumption))), by (repeat (first | with_reducible exact BN | with_reducible apply Blk.put | with_reducible apply Blk.alloc | (with_reducible apply Blk.aside; (case hp => first | (simp; done) | (simp; omega))) | with_reducible apply Blk.drew | with_reducible refine Blk.kept ?_ (by assumption))), by (repeat (first | with_reducible exact Below.refl _ _ | with_reducible assumption | with_reducible refine Below.setCell ?_ (by first | (simp; done) | (simp; omega)) _ | with_reducible refine below_alloc ?_ _ | with_reducible refine below_drewN ?_ _ | with_reducible refine Below.drew ?_ | with_reducible refine below_step ?_ (by assumption)))⟩
    · skip
      rw [if_pos (by rfl)]
      go_simp
      refine hK.out _ _ (SteadyAll.of (by (repeat (first | with_reducible exact Below.refl _ _ | with_reducible assumption | with_reducible refine Below.setCell ?_ (by first | (simp; done) | (simp; omega)) _ | with_reducible refine below_alloc ?_ _ | with_reducible refine below_drewN ?_ _ | with_reducible refine Below.drew ?_ | with_reducible refine below_step ?_ (by assumption))))) (fun hHeld => ?_)
      clear hK K
      refine wpAnyH_ready (rs := [5]) (by kernel_rfl) (by simp) ?_
      refine AllReadyH.cons rfl (fun K hK => ?_) (AllReadyH.nil)
      rw [if_pos (by rfl)]
      go_simp
      go_at_call 33; refine (At_any q HQO.out _).mono ?_; rintro e3 w3 ⟨rfl, hb3⟩; ((obtain ⟨hc3, hf3⟩ := below_rules hb3; have hs3 := Below.size hb3; try simp only [size_alloc, size_setCell, size_drew, size_drewN] at hs3 hc3 hf3); (try have z3_w2_0 : w2.heap.size < w3.heap.size := by omega); (try have z3_w2_1 : w2.heap.size + 1 < w3.heap.size := by omega); (try have z3_w2_2 : w2.heap.size + 1 + 1 < w3.heap.size := by omega); (try have z3_w2_3 : w2.heap.size + 1 + 1 + 1 < w3.heap.size := by omega))
      go_wp2_with fail
      refine hK.out _ _ (SteadyAll.of (by (repeat (first | with_reducible exact Below.refl _ _ | with_reducible assumption | with_reducible refine Below.setCell ?_ (by first | (simp; done) | (simp; omega)) _ | with_reducible refine below_alloc ?_ _ | with_reducible refine below_drewN ?_ _ | with_reducible refine Below.drew ?_ | with_reducible refine below_step ?_ (by assumption))))) (fun hHeld => ?_)
      clear hK K
      refine wpAnyH_ready (rs := [6]) (by kernel_rfl) (by simp) ?_
      refine AllReadyH.cons rfl (fun K hK => ?_) (AllReadyH.nil)
      rw [if_pos (by rfl)]
      go_simp
      go_at_call 17; refine (WriteRoot_any s.rootPage (Bt.at_ q) 0 HRL.out HVR.out _ ?hng).mono ?_; (case hng => exact HN2.out.below (by (repeat (first | with_reducible exact Below.refl _ _ | with_reducible assumption | with_reducible refine Below.setCell ?_ (by first | (simp; done) | (simp; omega)) _ | with_reducible refine below_alloc ?_ _ | with_reducible refine below_drewN ?_ _ | with_reducible refine Below.drew ?_ | with_reducible refine below_step ?_ (by assumption))))); rintro e4 w4 ⟨rfl, hb4⟩; rw [HWC.out]; ((obtain ⟨hc4, hf4⟩ := below_rules hb4; have hs4 := Below.size hb4; try simp only [size_alloc, size_setCell, size_drew, size_drewN] at hs4 hc4 hf4); (try have z4_w2_0 : w2.heap.size < w4.heap.size := by omega); (try have z4_w2_1 : w2.heap.size + 1 < w4.heap.size := by omega); (try have z4_w2_2 : w2.heap.size + 1 + 1 < w4.heap.size := by omega); (try have z4_w2_3 : w2.heap.size + 1 + 1 + 1 < w4.heap.size := by omega); (try have z4_w3_0 : w3.heap.size < w4.heap.size := by omega))
      go_wp2_with fail
      refine hK.out _ _ (SteadyAll.of (by (repeat (first | with_reducible exact Below.refl _ _ | with_reducible assumption | with_reducible refine Below.setCell ?_ (by first | (simp; done) | (simp; omega)) _ | with_reducible refine below_alloc ?_ _ | with_reducible refine below_drewN ?_ _ | with_reducible refine Below.drew ?_ | with_reducible refine below_step ?_ (by assumption))))) (fun hHeld => ?_)
      clear hK K
      refine wpAnyH_seq (is := [7, 8, 9]) (by kernel_rfl) (by kernel_rfl) (fun _ _ d _ _ h => by cases d <;> exact h) (by assumption) ?_
      iterate 3 (first | (refine TakeSeq.step (v := undef) rfl (Or.inr ⟨by rfl, rfl⟩) ?_; simp only [Act.put, List.setIfInBounds_toArray, List.set_cons_zero, List.set_cons_succ, List.getElem_toArray, List.getElem_cons_zero, List.getElem_cons_succ]) | (refine TakeSeq.step (v := ?_) rfl (Or.inl ⟨by rfl, ?_⟩) ?_; rotate_left 1; (focus (intro wq hSq; have hrd := hSq.rule; go_simp; with_reducible rfl)); simp only [Act.put, List.setIfInBounds_toArray, List.set_cons_zero, List.set_cons_succ, List.getElem_toArray, List.getElem_cons_zero, List.getElem_cons_succ]))
      refine TakeSeq.done ?_
      refine wpAnyH_ready (rs := [11]) (by kernel_rfl) (by simp) ?_
      refine AllReadyH.cons rfl (fun K hK => ?_) (AllReadyH.nil)
      rw [if_pos (by rfl)]
      go_simp
      refine hK.out _ _ (SteadyAll.of (by (repeat (first | with_reducible exact Below.refl _ _ | with_reducible assumption | with_reducible refine Below.setCell ?_ (by first | (simp; done) | (simp; omega)) _ | with_reducible refine below_alloc ?_ _ | with_reducible refine below_drewN ?_ _ | with_reducible refine Below.drew ?_ | with_reducible refine below_step ?_ (by assumption))))) (fun hHeld => ?_)
      clear hK K
      refine wpAnyH_seq (is := [12]) (by kernel_rfl) (by kernel_rfl) (fun _ _ d _ _ h => by cases d <;> exact h) (by assumption) ?_
      iterate 1 (first | (refine TakeSeq.step (v := undef) rfl (Or.inr ⟨by rfl, rfl⟩) ?_; simp only [Act.put, List.setIfInBounds_toArray, List.set_cons_zero, List.set_cons_succ, List.getElem_toArray, List.getElem_cons_zero, List.getElem_cons_succ]) | (refine TakeSeq.step (v := ?_) rfl (Or.inl ⟨by rfl, ?_⟩) ?_; rotate_left 1; (focus (intro wq hSq; have hrd := hSq.rule; go_simp; with_reducible rfl)); simp only [Act.put, List.setIfInBounds_toArray, List.set_cons_zero, List.set_cons_succ, List.getElem_toArray, List.getElem_cons_zero, List.getElem_cons_succ]))
      refine TakeSeq.done ?_
      refine wpAnyH_done (by kernel_rfl) ?_ _
      go_wp2_with fail
      have BQ : Blk (w2.alloc (.cells #[.int .i64 q.line, .int .u64 q.head, .int .u64 q.d0, .int .u64 q.d1, .int .u64 q.d2, .int .u64 q.d3, .int .u64 q.d4, .int .u64 q.d5, .int .u64 q.d6] 25)) w2.heap.size 25 q.cells := Blk.made _ _ _
      have BE : Blk ((w2.alloc (.cells #[.int .i64 q.line, .int .u64 q.head, .int .u64 q.d0, .int .u64 q.d1, .int .u64 q.d2, .int .u64 q.d3, .int .u64 q.d4, .int .u64 q.d5, .int .u64 q.d6] 25)).alloc (.cells #[.int .u32 e.key, .int .i64 e.to.line, .int .i64 e.to.gen] 69)) (w2.heap.size + 1) 69 e.cells := made22 _
      have BN : Blk (((w2.alloc (.cells #[.int .i64 q.line, .int .u64 q.head, .int .u64 q.d0, .int .u64 q.d1, .int .u64 q.d2, .int .u64 q.d3, .int .u64 q.d4, .int .u64 q.d5, .int .u64 q.d6] 25)).alloc (.cells #[.int .u32 e.key, .int .i64 e.to.line, .int .i64 e.to.gen] 69)).alloc (.cells #[.int .i64 0, .bool true, .bool false, .int .u32 4294967295, .int .i64 0, .int .i64 0, .slice (some ⟨w2.heap.size + 1, 0, none⟩) 1 1] 73)) (w2.heap.size + 1 + 1) 73 (nodeCells (plantLeaf e) (.slice (some ⟨w2.heap.size + 1, 0, none⟩) 1 1)) := made33 _
      have BG0 := (Blk.kept (b := w2.heap.size + 1 + 1 + 1) (t := 25) (cs := #[.int .i64 0, .int .u64 0, .int .u64 0, .int .u64 0, .int .u64 0, .int .u64 0, .int .u64 0, .int .u64 0, .int .u64 0]) (Blk.drew (made44 w2)) hb3).kept hb4
      go_meet
      exact ⟨_, rfl, by omega, Blk.cast (by (repeat (first | with_reducible exact BG0 | with_reducible apply Blk.put | with_reducible apply Blk.alloc | (with_reducible apply Blk.aside; (case hp => first | (simp; done) | (simp; omega))) | with_reducible apply Blk.drew))) (by rw [set9]; rfl), by (repeat (first | with_reducible exact BQ | with_reducible apply Blk.put | with_reducible apply Blk.alloc | (with_reducible apply Blk.aside; (case hp => first | (simp; done) | (simp; omega))) | with_reducible apply Blk.drew | with_reducible refine Blk.kept ?_ (by assumption))), by (repeat (first | with_reducible exact BE | with_reducible apply Blk.put | with_reducible apply Blk.alloc | (with_reducible apply Blk.aside; (case hp => first | (simp; done) | (simp; omega))) | with_reducible apply Blk.drew | with_reducible refine Blk.kept ?_ (by assumption))), by (repeat (first | with_reducible exact BN | with_reducible apply Blk.put | with_reducible apply Blk.alloc | (with_reducible apply Blk.aside; (case hp => first | (simp; done) | (simp; omega))) | with_reducible apply Blk.drew | with_reducible refine Blk.kept ?_ (by assumption))), by (repeat (first | with_reducible exact Below.refl _ _ | with_reducible assumption | with_reducible refine Below.setCell ?_ (by first | (simp; done) | (simp; omega)) _ | with_reducible refine below_alloc ?_ _ | with_reducible refine below_drewN ?_ _ | with_reducible refine Below.drew ?_ | with_reducible refine below_step ?_ (by assumption)))⟩
  case rest =>
    obtain ⟨G, rfl, hG, BG, BQ, BE, BN, hbc⟩ := hcut
    have HBG := Lib.hid BG
    have HBE := Lib.hid BE
    have HBN := Lib.hid BN
    have gG := BG.cell
    rw [HWC.out] at gG
    have gQ := BQ.cell
    rw [HQ.out] at gQ
    have gN : ∀ i, wc.cell? ⟨w2.heap.size + 1 + 1, i, none⟩ = (#[.int .i64 0, .bool true, .bool false, .int .u32 4294967295, .int .i64 0, .int .i64 0, .slice (some ⟨w2.heap.size + 1, 0, none⟩) 1 1] : Array Value)[i]? := BN.cell
    have hGc : G < wc.heap.size := BG.lt
    have hNc : w2.heap.size + 1 + 1 < wc.heap.size := BN.lt
    have hsz2 := hbc.size
    have hQc : w2.heap.size < wc.heap.size := BQ.lt
    have HFC := HRC ((plantLeaf e).fill q)
    have HER : Hid (EntRow wc (.slice (some ⟨w2.heap.size + 1, 0, none⟩) 1 1) (plantLeaf e).entries) := Lib.hid ⟨by intro e1 he1; simp [plantLeaf] at he1; subst he1; exact hek, by simp [plantLeaf, maxLen], .inr ⟨w2.heap.size + 1, 0, 1, rfl, BE.lt, by
      intro i p hi j u hu
      match i with
      | 0 =>
        obtain rfl : e = p := by simpa [plantLeaf] using hi
        rw [BE.cell]
        simpa using hu
      | i + 1 => simp [plantLeaf] at hi⟩⟩
    have hp1 : b < G := by omega
    have hp2 : b < w2.heap.size + 1 + 1 := by omega
    have HBC := Lib.hid hbc
    have hq4 : b < wc.heap.size := by omega
    clear BG BQ BE BN hbc
    have HR2N : Hid (IsRun (New A w) op known vf vk s b w2) := Lib.hid (HR2.out.imp (fun c hc => .inl hc))
    go_wp2_with fail
    refine wp_region_held_drew (S := SteadyBut (b) _) (by kernel_rfl) (SteadyBut.of (Below.refl _ _).drew) ?_
    intro hSt
    refine wpAnyH_seq (is := [0, 1, 2, 3]) (by kernel_rfl) (by kernel_rfl) (fun _ _ d _ _ h => by cases d <;> exact h) (by assumption) ?_
    iterate 4 (first | (refine TakeSeq.step (v := undef) rfl (Or.inr ⟨by rfl, rfl⟩) ?_; simp only [Act.put, List.setIfInBounds_toArray, List.set_cons_zero, List.set_cons_succ, List.getElem_toArray, List.getElem_cons_zero, List.getElem_cons_succ]) | (refine TakeSeq.step (v := ?_) rfl (Or.inl ⟨by rfl, ?_⟩) ?_; rotate_left 1; (focus (intro wq hSq; have hrd := hSq.rule; go_simp; with_reducible rfl)); simp only [Act.put, List.setIfInBounds_toArray, List.set_cons_zero, List.set_cons_succ, List.getElem_toArray, List.getElem_cons_zero, List.getElem_cons_succ]))
    refine TakeSeq.done ?_
    refine wpAnyH_ready (rs := [4]) (by kernel_rfl) (by simp) ?_
    refine AllReadyH.cons rfl (fun K hK => ?_) (AllReadyH.nil)
    rw [if_pos (by rfl)]
    go_simp
    go_at_call 64; refine (fill_any (plantLeaf e) _ q HQO.out HNO.out _ ?hpf).mono ?_; (case hpf => exact HER.out.below (by (repeat (first | with_reducible exact Below.refl _ _ | with_reducible assumption | with_reducible refine Below.setCell ?_ (by first | (simp; done) | (simp; omega)) _ | with_reducible refine below_alloc ?_ _ | with_reducible refine below_drewN ?_ _ | with_reducible refine Below.drew ?_ | with_reducible refine below_step ?_ (by assumption))))); rintro e5 w5 ⟨rfl, hb5⟩; rw [HFC.out]; ((obtain ⟨hc5, hf5⟩ := below_rules hb5; have hs5 := Below.size hb5; try simp only [size_alloc, size_setCell, size_drew, size_drewN] at hs5 hc5 hf5); (try have z5_wc_0 : wc.heap.size < w5.heap.size := by omega))
    go_wp2_with fail
    refine hK.out _ _ (SteadyBut.of (by (repeat (first | with_reducible exact Below.refl _ _ | with_reducible assumption | with_reducible refine Below.setCell ?_ (by first | (simp; done) | (simp; omega)) _ | with_reducible refine below_alloc ?_ _ | with_reducible refine below_drewN ?_ _ | with_reducible refine Below.drew ?_ | with_reducible refine below_step ?_ (by assumption))))) (fun hHeld => ?_)
    clear hK K
    refine wpAnyH_ready (rs := [5]) (by kernel_rfl) (by simp) ?_
    refine AllReadyH.cons rfl (fun K hK => ?_) (AllReadyH.nil)
    rw [if_pos (by rfl)]
    go_simp
    refine hK.out _ _ (SteadyBut.of (by (repeat (first | with_reducible exact Below.refl _ _ | with_reducible assumption | with_reducible refine Below.setCell ?_ (by first | (simp; done) | (simp; omega)) _ | with_reducible refine below_alloc ?_ _ | with_reducible refine below_drewN ?_ _ | with_reducible refine Below.drew ?_ | with_reducible refine below_step ?_ (by assumption))))) (fun hHeld => ?_)
    clear hK K
    refine wpAnyH_ready (rs := [6]) (by kernel_rfl) (by simp) ?_
    refine AllReadyH.cons rfl (fun K hK => ?_) (AllReadyH.nil)
    rw [if_pos (by rfl)]
    go_simp
    have hbc := HBC.out; go_at_call 94; refine (done_none (New A w) op known vf vk s b [Bt.writeRoot s.rootPage (Bt.at_ q) 0, (plantLeaf e).fill q] w5.heap.size 2 2 _ ?hrun ?hw (.inr (by omega))).mono ?_; (case hrun => exact HR2N.out.below (by (repeat (first | with_reducible exact Below.refl _ _ | with_reducible assumption | with_reducible refine Below.setCell ?_ (by first | (simp; done) | (simp; omega)) _ | with_reducible refine below_alloc ?_ _ | with_reducible refine below_drewN ?_ _ | with_reducible refine Below.drew ?_ | with_reducible refine below_step ?_ (by assumption))))); (case hw => exact own_pages2 _ _ _ _ (by omega)); rintro e6 w6 ⟨rfl, hrun6, ho6⟩; have HR6 := Lib.hid hrun6; clear hrun6
    go_wp2_with fail
    refine hK.out _ _ (SteadyBut.over (by (repeat (first | with_reducible exact Over.refl _ _ | with_reducible assumption | with_reducible refine Over.put ?_ _ _ | with_reducible refine Over.alloc ?_ _ | with_reducible refine Over.drew ?_ | with_reducible refine Over.own ?_ (by first | (simp; done) | (simp; omega)) _ | with_reducible refine Over.trans ?_ (by assumption) | with_reducible refine Over.then_below ?_ (by assumption))))) (fun hHeld => ?_)
    clear hK K
    refine wpAnyH_done (by kernel_rfl) ?_ _
    go_wp2_with fail
    have hbc := HBC.out
    have hb := HB.out
    refine bodyPost_end (results_none rfl _ _ _) rfl ⟨rfl, ?_, by (repeat (first | with_reducible exact Over.refl _ _ | with_reducible assumption | with_reducible refine Over.put ?_ _ _ | with_reducible refine Over.alloc ?_ _ | with_reducible refine Over.drew ?_ | with_reducible refine Over.own ?_ (by first | (simp; done) | (simp; omega)) _ | with_reducible refine Over.trans ?_ (by assumption) | with_reducible refine Over.then_below ?_ (by assumption)))⟩
    rw [HX.out]
    refine HR6.out.imp (fun c hc => ?_)
    rcases hc with h1 | h1
    · exact h1
    · exact .inr (by simp at h1; omega)
end Go.Proofs.YtjmpekanlmepmaaGreatDoor
