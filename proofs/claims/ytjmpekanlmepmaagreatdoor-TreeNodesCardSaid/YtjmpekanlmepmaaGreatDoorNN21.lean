/- Package btree: the first leaf is planted: with a fresh page. -/
import Derived.Test.YtjmpekanlmepmaaGreatDoorNN20
set_option linter.all false
set_option maxRecDepth 20000
set_option maxHeartbeats 8000000
open Go.Lib (hid)
namespace Go.Proofs.YtjmpekanlmepmaaGreatDoor
open Go.RowKit
theorem SteadyBut.over {r : Nat} {w1 wx : World} (h : Over r w1 wx) : SteadyBut r w1 wx := ⟨fun b o hb hr => (over_rules h).1 b o hb hr⟩
theorem own_pages2 (w : World) (base : Nat) (R F : Bt.Page) (hb : base ≤ w.heap.size) : (w.alloc (.cells #[.int .i64 R.line, .int .u64 R.head, .int .u64 R.d0, .int .u64 R.d1, .int .u64 R.d2, .int .u64 R.d3, .int .u64 R.d4, .int .u64 R.d5, .int .u64 R.d6, .int .i64 F.line, .int .u64 F.head, .int .u64 F.d0, .int .u64 F.d1, .int .u64 F.d2, .int .u64 F.d3, .int .u64 F.d4, .int .u64 F.d5, .int .u64 F.d6] 25)).ownsRow base 25 9 (.slice (some ⟨w.heap.size, 0, none⟩) 2 2) 2 (pageCells [R, F]) :=
 ⟨rfl, .inr ⟨w.heap.size, 2, _, rfl, hb, Blk.made' rfl, Nat.le_refl _, by unfold maxLen; omega, rfl, rfl⟩⟩
theorem own_pages1 (w : World) (base : Nat) (R : Bt.Page) (hb : base ≤ w.heap.size) : (w.alloc (.cells #[.int .i64 R.line, .int .u64 R.head, .int .u64 R.d0, .int .u64 R.d1, .int .u64 R.d2, .int .u64 R.d3, .int .u64 R.d4, .int .u64 R.d5, .int .u64 R.d6] 25)).ownsRow base 25 9 (.slice (some ⟨w.heap.size, 0, none⟩) 1 1) 1 (pageCells [R]) :=
 ⟨rfl, .inr ⟨w.heap.size, 1, _, rfl, hb, Blk.made' rfl, Nat.le_refl _, by unfold maxLen; omega, rfl, rfl⟩⟩
def PlantCut (R q : Bt.Page) (e : Bt.Entry) (w2 : World) (s7 : Value) (wx : World) : Prop :=
 ∃ G : Nat, s7 = .pointer (some ⟨G, 0, none⟩) ∧ w2.heap.size ≤ G ∧ Blk wx G 25 R.cells ∧ Blk wx w2.heap.size 25 q.cells ∧ Blk wx (w2.heap.size + 1) 69 e.cells ∧
  Blk wx (w2.heap.size + 1 + 1) 73 (nodeCells (plantLeaf e) (.slice (some ⟨w2.heap.size + 1, 0, none⟩) 1 1)) ∧ Below w2.heap.size w2 wx
theorem plant_one (A : Nat → Prop) (op : Bt.Op) (known : List Bt.Page) (vf vk : Value) (s : Bt.St) (b : Nat) (e : Bt.Entry) (w : World) (h : IsRun A op known vf vk s b w) (hA : ∀ c, A c → c < w.heap.size)
 (hrp : s.rootPage.Ok) (hlk : Bt.locked s.rootPage = false) (hrl : s.rootPage.line = 96)
 (p q : Bt.Page) (rest : List Bt.Page) (hf : op.fresh = p :: rest) (hpo : p.Ok) (ha : Bt.allocate p 4 0 = (q, 0)) (hek : 0 ≤ e.key ∧ e.key < 4294967296) :
 Calls Tryz.prog 85 #[.pointer (some ⟨b, 0, none⟩), .agg e.cells] w (RunPost A op known vf vk (s.plant op e) b (.tuple #[]) w) := by
 have HX : Hid (s.plant op e = s.finish [Bt.writeRoot s.rootPage (Bt.at_ q) 0, (plantLeaf e).fill q] []) := hid (by simp [Bt.St.plant, hlk, Bt.St.fresh, hf, ha, plantLeaf])
 obtain ⟨hqo, hqv, hql, hqh, hqd⟩ := alloc_good hpo ha
 have HQ : Hid (q.cells = #[.int .i64 q.line, .int .u64 q.head, .int .u64 q.d0, .int .u64 q.d1, .int .u64 q.d2, .int .u64 q.d3, .int .u64 q.d4, .int .u64 q.d5, .int .u64 q.d6]) := hid rfl
 have HRC : ∀ r : Bt.Page, Hid (r.cells = #[.int .i64 r.line, .int .u64 r.head, .int .u64 r.d0, .int .u64 r.d1, .int .u64 r.d2, .int .u64 r.d3, .int .u64 r.d4, .int .u64 r.d5, .int .u64 r.d6]) := fun r => hid rfl
 have HVR : Hid (Bt.validRoot (Bt.at_ q) 0 = true) := hid (by simp [Bt.validRoot, hqv])
 have HQO := hid hqo
 have HA := hid ha
 have HRL := hid hrl
 have HNO : Hid (NodeOk (plantLeaf e)) := hid ⟨by simp [plantLeaf], by simp [plantLeaf, Bt.maxHigh], by simp [plantLeaf]⟩
 have HNA : Hid (NoneAt w) := hid (by obtain ⟨vn, vw, ve, vc, hr, _⟩ := h; exact hr.none)
 have HR := hid h
 have HF := hid hf
 have HRP := hid hrp
 have HLK := hid hlk
 have hlt := h.lt
 have hlt1 : b < w.heap.size + 1 := by omega
 obtain ⟨vn, vw, ve, vc, hc⟩ := h.cells
 have k25 : w.cell? ⟨b, 25, none⟩ = some (.int .i64 s.rootPage.line) := hc 25
 have k26 : w.cell? ⟨b, 26, none⟩ = some (.int .u64 s.rootPage.head) := hc 26
 have k27 : w.cell? ⟨b, 27, none⟩ = some (.int .u64 s.rootPage.d0) := hc 27
 have k28 : w.cell? ⟨b, 28, none⟩ = some (.int .u64 s.rootPage.d1) := hc 28
 have k29 : w.cell? ⟨b, 29, none⟩ = some (.int .u64 s.rootPage.d2) := hc 29
 have k30 : w.cell? ⟨b, 30, none⟩ = some (.int .u64 s.rootPage.d3) := hc 30
 have k31 : w.cell? ⟨b, 31, none⟩ = some (.int .u64 s.rootPage.d4) := hc 31
 have k32 : w.cell? ⟨b, 32, none⟩ = some (.int .u64 s.rootPage.d5) := hc 32
 have k33 : w.cell? ⟨b, 33, none⟩ = some (.int .u64 s.rootPage.d6) := hc 33
 clear h hc hf hrp hlk hqo hqv hql hqh hqd ha hrl
 unfold Bt.Entry.cells
 go_enter Tryz.func85, Tryz.ntmps85
 go_wp2_with fail
 go_at_call 80; refine (Locked_any s.rootPage HRP.out _).mono ?_; rintro e w1 ⟨rfl, hb⟩; rw [HLK.out]; ((obtain ⟨hc1, hf1, hs1⟩ := qR hb); (try have := qN0 w w1); (try have := qN1 w w1))
 have HB := hid hb
 go_wp2_with fail
 go_at_call 93; refine (fresh_one A op known vf vk s b _ [] _ ?hrun ?hlow p q rest HF.out HA.out (by simp) (World.ownsRow_nil _ _ _ _)).mono ?_
 case hrun => exact HR.out.below qL
 case hlow => exact fun c hc => by have := hA c hc; omega
 rintro e1 w2 ⟨hrun2, ho2, rfl⟩
 have HR2 := hid hrun2
 clear hrun2
 ((obtain ⟨hc2, hf2, hs2⟩ := qO ho2); (try have := qN0 w w2); (try have := qN1 w w2); (try have := qN0 w1 w2))
 simp only [Option.getD_some, Option.isSome_some, HQ.out]
 obtain ⟨un, uw, ue, uc, hc⟩ := HR2.out.cells
 have j25 : w2.cell? ⟨b, 25, none⟩ = some (.int .i64 s.rootPage.line) := hc 25
 have j26 : w2.cell? ⟨b, 26, none⟩ = some (.int .u64 s.rootPage.head) := hc 26
 have j27 : w2.cell? ⟨b, 27, none⟩ = some (.int .u64 s.rootPage.d0) := hc 27
 have j28 : w2.cell? ⟨b, 28, none⟩ = some (.int .u64 s.rootPage.d1) := hc 28
 have j29 : w2.cell? ⟨b, 29, none⟩ = some (.int .u64 s.rootPage.d2) := hc 29
 have j30 : w2.cell? ⟨b, 30, none⟩ = some (.int .u64 s.rootPage.d3) := hc 30
 have j31 : w2.cell? ⟨b, 31, none⟩ = some (.int .u64 s.rootPage.d4) := hc 31
 have j32 : w2.cell? ⟨b, 32, none⟩ = some (.int .u64 s.rootPage.d5) := hc 32
 have j33 : w2.cell? ⟨b, 33, none⟩ = some (.int .u64 s.rootPage.d6) := hc 33
 have hq0 : b < w2.heap.size := by omega
 have hq1 : b < w2.heap.size + 1 := by omega
 have hq2 : b < w2.heap.size + 1 + 1 := by omega
 have hq3 : b < w2.heap.size + 1 + 1 + 1 := by omega
 clear hc
 have HN2 : Hid (NoneAt w2) := hid (by obtain ⟨vn, vw, ve, vc, hr, _⟩ := HR2.out; exact hr.none)
 have HWC := HRC (Bt.writeRoot s.rootPage (Bt.at_ q) 0)
 go_wp2_with fail
 go_cut [7] (PlantCut (Bt.writeRoot s.rootPage (Bt.at_ q) 0) q e w2)
 case first =>
  refine qA fun hSt => ?_
  refine qS [0, 1, 2, 3, 4] ?_
  iterate 5 (refine qT ?_; simp only [Act.put, qY])
  refine TakeSeq.done ?_
  refine wpAnyH_ready (rs := [5, 10]) (by kernel_rfl) (by simp) ?_
  refine AllReadyH.cons rfl (fun K hK => ?_) (AllReadyH.cons rfl (fun K hK => ?_) (AllReadyH.nil))
  ·skip
   rw [if_pos (by rfl)]
   go_simp
   go_at_call 33; refine (At_any q HQO.out _).mono ?_; rintro e3 w3 ⟨rfl, hb3⟩; ((obtain ⟨hc3, hf3, hs3⟩ := qR hb3); (try have := qN0 w2 w3); (try have := qN1 w2 w3); (try have := qN2 w2 w3); (try have := qN3 w2 w3))
   go_wp2_with fail
   refine hK.out _ _ (SteadyAll.of qL) (fun hHeld => ?_)
   clear hK K
   refine wpAnyH_ready (rs := [6, 10]) (by kernel_rfl) (by simp) ?_
   refine AllReadyH.cons rfl (fun K hK => ?_) (AllReadyH.cons rfl (fun K hK => ?_) (AllReadyH.nil))
   ·skip
    rw [if_pos (by rfl)]
    go_simp
    go_at_call 17; refine (WriteRoot_any s.rootPage (Bt.at_ q) 0 HRL.out HVR.out _ ?hng).mono ?_; (case hng => exact HN2.out.below qL); rintro e4 w4 ⟨rfl, hb4⟩; rw [HWC.out]; ((obtain ⟨hc4, hf4, hs4⟩ := qR hb4); (try have := qN0 w2 w4); (try have := qN1 w2 w4); (try have := qN2 w2 w4); (try have := qN3 w2 w4); (try have := qN0 w3 w4))
    go_wp2_with fail
    refine hK.out _ _ (SteadyAll.of qL) (fun hHeld => ?_)
    clear hK K
    refine qS [7, 8, 9] ?_
    iterate 3 (refine qT ?_; simp only [Act.put, qY])
    refine TakeSeq.done ?_
    refine qH 10 fun K hK => ?_
    go_simp
    refine hK.out _ _ (SteadyAll.of qL) (fun hHeld => ?_)
    clear hK K
    refine qH 11 fun K hK => ?_
    go_simp
    refine hK.out _ _ (SteadyAll.of qL) (fun hHeld => ?_)
    clear hK K
    refine qS [12] ?_
    refine qT ?_; simp only [Act.put, qY]
    refine TakeSeq.done ?_
    refine qD ?_ _
    go_wp2_with fail
    have BQ : Blk (w2.alloc (.cells #[.int .i64 q.line, .int .u64 q.head, .int .u64 q.d0, .int .u64 q.d1, .int .u64 q.d2, .int .u64 q.d3, .int .u64 q.d4, .int .u64 q.d5, .int .u64 q.d6] 25)) w2.heap.size 25 q.cells := Blk.made _ _ _
    have BE : Blk ((w2.alloc (.cells #[.int .i64 q.line, .int .u64 q.head, .int .u64 q.d0, .int .u64 q.d1, .int .u64 q.d2, .int .u64 q.d3, .int .u64 q.d4, .int .u64 q.d5, .int .u64 q.d6] 25)).alloc (.cells #[.int .u32 e.key, .int .i64 e.to.line, .int .i64 e.to.gen] 69)) (w2.heap.size + 1) 69 e.cells := made22 _
    have BN : Blk (((w2.alloc (.cells #[.int .i64 q.line, .int .u64 q.head, .int .u64 q.d0, .int .u64 q.d1, .int .u64 q.d2, .int .u64 q.d3, .int .u64 q.d4, .int .u64 q.d5, .int .u64 q.d6] 25)).alloc (.cells #[.int .u32 e.key, .int .i64 e.to.line, .int .i64 e.to.gen] 69)).alloc (.cells #[.int .i64 0, .bool true, .bool false, .int .u32 4294967295, .int .i64 0, .int .i64 0, .slice (some ⟨w2.heap.size + 1, 0, none⟩) 1 1] 73)) (w2.heap.size + 1 + 1) 73 (nodeCells (plantLeaf e) (.slice (some ⟨w2.heap.size + 1, 0, none⟩) 1 1)) := made33 _
    go_meet
    exact ⟨_, rfl, by omega, Blk.made _ _ _, by (repeat (first | with_reducible exact BQ | with_reducible apply Blk.put | with_reducible apply Blk.alloc | (with_reducible apply Blk.aside; (case hp => first | (simp; done) | (simp; omega))) | with_reducible apply Blk.drew | with_reducible refine Blk.kept ?_ (by assumption))), by (repeat (first | with_reducible exact BE | with_reducible apply Blk.put | with_reducible apply Blk.alloc | (with_reducible apply Blk.aside; (case hp => first | (simp; done) | (simp; omega))) | with_reducible apply Blk.drew | with_reducible refine Blk.kept ?_ (by assumption))), by (repeat (first | with_reducible exact BN | with_reducible apply Blk.put | with_reducible apply Blk.alloc | (with_reducible apply Blk.aside; (case hp => first | (simp; done) | (simp; omega))) | with_reducible apply Blk.drew | with_reducible refine Blk.kept ?_ (by assumption))), qL⟩
   ·skip
    rw [if_pos (by rfl)]
    go_simp
    refine hK.out _ _ (SteadyAll.of qL) (fun hHeld => ?_)
    clear hK K
    refine qH 6 fun K hK => ?_
    go_simp
    go_at_call 17; refine (WriteRoot_any s.rootPage (Bt.at_ q) 0 HRL.out HVR.out _ ?hng).mono ?_; (case hng => exact HN2.out.below qL); rintro e4 w4 ⟨rfl, hb4⟩; rw [HWC.out]; ((obtain ⟨hc4, hf4, hs4⟩ := qR hb4); (try have := qN0 w2 w4); (try have := qN1 w2 w4); (try have := qN2 w2 w4); (try have := qN3 w2 w4); (try have := qN0 w3 w4))
    go_wp2_with fail
    refine hK.out _ _ (SteadyAll.of qL) (fun hHeld => ?_)
    clear hK K
    refine qS [7, 8, 9] ?_
    iterate 3 (refine qT ?_; simp only [Act.put, qY])
    refine TakeSeq.done ?_
    refine qH 11 fun K hK => ?_
    go_simp
    refine hK.out _ _ (SteadyAll.of qL) (fun hHeld => ?_)
    clear hK K
    refine qS [12] ?_
    refine qT ?_; simp only [Act.put, qY]
    refine TakeSeq.done ?_
    refine qD ?_ _
    go_wp2_with fail
    have BQ : Blk (w2.alloc (.cells #[.int .i64 q.line, .int .u64 q.head, .int .u64 q.d0, .int .u64 q.d1, .int .u64 q.d2, .int .u64 q.d3, .int .u64 q.d4, .int .u64 q.d5, .int .u64 q.d6] 25)) w2.heap.size 25 q.cells := Blk.made _ _ _
    have BE : Blk ((w2.alloc (.cells #[.int .i64 q.line, .int .u64 q.head, .int .u64 q.d0, .int .u64 q.d1, .int .u64 q.d2, .int .u64 q.d3, .int .u64 q.d4, .int .u64 q.d5, .int .u64 q.d6] 25)).alloc (.cells #[.int .u32 e.key, .int .i64 e.to.line, .int .i64 e.to.gen] 69)) (w2.heap.size + 1) 69 e.cells := made22 _
    have BN : Blk (((w2.alloc (.cells #[.int .i64 q.line, .int .u64 q.head, .int .u64 q.d0, .int .u64 q.d1, .int .u64 q.d2, .int .u64 q.d3, .int .u64 q.d4, .int .u64 q.d5, .int .u64 q.d6] 25)).alloc (.cells #[.int .u32 e.key, .int .i64 e.to.line, .int .i64 e.to.gen] 69)).alloc (.cells #[.int .i64 0, .bool true, .bool false, .int .u32 4294967295, .int .i64 0, .int .i64 0, .slice (some ⟨w2.heap.size + 1, 0, none⟩) 1 1] 73)) (w2.heap.size + 1 + 1) 73 (nodeCells (plantLeaf e) (.slice (some ⟨w2.heap.size + 1, 0, none⟩) 1 1)) := made33 _
    have BG0 := (Blk.made w3 25 #[.int .i64 0, .int .u64 0, .int .u64 0, .int .u64 0, .int .u64 0, .int .u64 0, .int .u64 0, .int .u64 0, .int .u64 0]).kept hb4
    go_meet
    exact ⟨_, rfl, by omega, Blk.cast (by have B := BG0; exact qK) (by rw [set9]; rfl), by (repeat (first | with_reducible exact BQ | with_reducible apply Blk.put | with_reducible apply Blk.alloc | (with_reducible apply Blk.aside; (case hp => first | (simp; done) | (simp; omega))) | with_reducible apply Blk.drew | with_reducible refine Blk.kept ?_ (by assumption))), by (repeat (first | with_reducible exact BE | with_reducible apply Blk.put | with_reducible apply Blk.alloc | (with_reducible apply Blk.aside; (case hp => first | (simp; done) | (simp; omega))) | with_reducible apply Blk.drew | with_reducible refine Blk.kept ?_ (by assumption))), by (repeat (first | with_reducible exact BN | with_reducible apply Blk.put | with_reducible apply Blk.alloc | (with_reducible apply Blk.aside; (case hp => first | (simp; done) | (simp; omega))) | with_reducible apply Blk.drew | with_reducible refine Blk.kept ?_ (by assumption))), qL⟩
  ·skip
   rw [if_pos (by rfl)]
   go_simp
   refine hK.out _ _ (SteadyAll.of qL) (fun hHeld => ?_)
   clear hK K
   refine qH 5 fun K hK => ?_
   go_simp
   go_at_call 33; refine (At_any q HQO.out _).mono ?_; rintro e3 w3 ⟨rfl, hb3⟩; ((obtain ⟨hc3, hf3, hs3⟩ := qR hb3); (try have := qN0 w2 w3); (try have := qN1 w2 w3); (try have := qN2 w2 w3); (try have := qN3 w2 w3))
   go_wp2_with fail
   refine hK.out _ _ (SteadyAll.of qL) (fun hHeld => ?_)
   clear hK K
   refine qH 6 fun K hK => ?_
   go_simp
   go_at_call 17; refine (WriteRoot_any s.rootPage (Bt.at_ q) 0 HRL.out HVR.out _ ?hng).mono ?_; (case hng => exact HN2.out.below qL); rintro e4 w4 ⟨rfl, hb4⟩; rw [HWC.out]; ((obtain ⟨hc4, hf4, hs4⟩ := qR hb4); (try have := qN0 w2 w4); (try have := qN1 w2 w4); (try have := qN2 w2 w4); (try have := qN3 w2 w4); (try have := qN0 w3 w4))
   go_wp2_with fail
   refine hK.out _ _ (SteadyAll.of qL) (fun hHeld => ?_)
   clear hK K
   refine qS [7, 8, 9] ?_
   iterate 3 (refine qT ?_; simp only [Act.put, qY])
   refine TakeSeq.done ?_
   refine qH 11 fun K hK => ?_
   go_simp
   refine hK.out _ _ (SteadyAll.of qL) (fun hHeld => ?_)
   clear hK K
   refine qS [12] ?_
   refine qT ?_; simp only [Act.put, qY]
   refine TakeSeq.done ?_
   refine qD ?_ _
   go_wp2_with fail
   have BQ : Blk (w2.alloc (.cells #[.int .i64 q.line, .int .u64 q.head, .int .u64 q.d0, .int .u64 q.d1, .int .u64 q.d2, .int .u64 q.d3, .int .u64 q.d4, .int .u64 q.d5, .int .u64 q.d6] 25)) w2.heap.size 25 q.cells := Blk.made _ _ _
   have BE : Blk ((w2.alloc (.cells #[.int .i64 q.line, .int .u64 q.head, .int .u64 q.d0, .int .u64 q.d1, .int .u64 q.d2, .int .u64 q.d3, .int .u64 q.d4, .int .u64 q.d5, .int .u64 q.d6] 25)).alloc (.cells #[.int .u32 e.key, .int .i64 e.to.line, .int .i64 e.to.gen] 69)) (w2.heap.size + 1) 69 e.cells := made22 _
   have BN : Blk (((w2.alloc (.cells #[.int .i64 q.line, .int .u64 q.head, .int .u64 q.d0, .int .u64 q.d1, .int .u64 q.d2, .int .u64 q.d3, .int .u64 q.d4, .int .u64 q.d5, .int .u64 q.d6] 25)).alloc (.cells #[.int .u32 e.key, .int .i64 e.to.line, .int .i64 e.to.gen] 69)).alloc (.cells #[.int .i64 0, .bool true, .bool false, .int .u32 4294967295, .int .i64 0, .int .i64 0, .slice (some ⟨w2.heap.size + 1, 0, none⟩) 1 1] 73)) (w2.heap.size + 1 + 1) 73 (nodeCells (plantLeaf e) (.slice (some ⟨w2.heap.size + 1, 0, none⟩) 1 1)) := made33 _
   have BG0 := (Blk.kept (b := w2.heap.size + 1 + 1 + 1) (t := 25) (cs := #[.int .i64 0, .int .u64 0, .int .u64 0, .int .u64 0, .int .u64 0, .int .u64 0, .int .u64 0, .int .u64 0, .int .u64 0]) (Blk.drew (made44 w2)) hb3).kept hb4
   go_meet
   exact ⟨_, rfl, by omega, Blk.cast (by have B := BG0; exact qK) (by rw [set9]; rfl), by (repeat (first | with_reducible exact BQ | with_reducible apply Blk.put | with_reducible apply Blk.alloc | (with_reducible apply Blk.aside; (case hp => first | (simp; done) | (simp; omega))) | with_reducible apply Blk.drew | with_reducible refine Blk.kept ?_ (by assumption))), by (repeat (first | with_reducible exact BE | with_reducible apply Blk.put | with_reducible apply Blk.alloc | (with_reducible apply Blk.aside; (case hp => first | (simp; done) | (simp; omega))) | with_reducible apply Blk.drew | with_reducible refine Blk.kept ?_ (by assumption))), by (repeat (first | with_reducible exact BN | with_reducible apply Blk.put | with_reducible apply Blk.alloc | (with_reducible apply Blk.aside; (case hp => first | (simp; done) | (simp; omega))) | with_reducible apply Blk.drew | with_reducible refine Blk.kept ?_ (by assumption))), qL⟩
 case rest =>
  obtain ⟨G, rfl, hG, BG, BQ, BE, BN, hbc⟩ := hcut
  have HBG := hid BG
  have HBE := hid BE
  have HBN := hid BN
  have gG := BG.cell
  rw [HWC.out] at gG
  have gQ := BQ.cell
  rw [HQ.out] at gQ
  have gN : ∀ i, wc.cell? ⟨w2.heap.size + 1 + 1, i, none⟩ = (#[.int .i64 0, .bool true, .bool false, .int .u32 4294967295, .int .i64 0, .int .i64 0, .slice (some ⟨w2.heap.size + 1, 0, none⟩) 1 1] : Array Value)[i]? := BN.cell
  have hGc : G < wc.heap.size := BG.lt
  have hNc : w2.heap.size + 1 + 1 < wc.heap.size := BN.lt
  have hsz2 := hbc.size
  have hQc : w2.heap.size < wc.heap.size := BQ.lt
  have HFC := HRC ((plantLeaf e).fill q)
  have HER : Hid (EntRow wc (.slice (some ⟨w2.heap.size + 1, 0, none⟩) 1 1) (plantLeaf e).entries) := hid ⟨by intro e1 he1; simp [plantLeaf] at he1; subst he1; exact hek, by simp [plantLeaf, maxLen], .inr ⟨w2.heap.size + 1, 0, 1, rfl, BE.lt, by
   intro i p hi j u hu
   match i with
   | 0 =>
     obtain rfl : e = p := by simpa [plantLeaf] using hi
     rw [BE.cell]
     simpa using hu
   | i + 1 => simp [plantLeaf] at hi⟩⟩
  have hp1 : b < G := by omega
  have hp2 : b < w2.heap.size + 1 + 1 := by omega
  have HBC := hid hbc
  have hq4 : b < wc.heap.size := by omega
  clear BG BQ BE BN hbc
  have HR2N : Hid (IsRun (New A w) op known vf vk s b w2) := hid (HR2.out.imp (fun c hc => .inl hc))
  go_wp2_with fail
  refine qB (b) fun hSt => ?_
  refine qS [0, 1, 2, 3] ?_
  iterate 4 (refine qT ?_; simp only [Act.put, qY])
  refine TakeSeq.done ?_
  refine qH 4 fun K hK => ?_
  go_simp
  go_at_call 64; refine (fill_any (plantLeaf e) _ q HQO.out HNO.out _ ?hpf).mono ?_; (case hpf => exact HER.out.below qL); rintro e5 w5 ⟨rfl, hb5⟩; rw [HFC.out]; ((obtain ⟨hc5, hf5, hs5⟩ := qR hb5); (try have := qN0 wc w5))
  go_wp2_with fail
  refine hK.out _ _ (SteadyBut.of qL) (fun hHeld => ?_)
  clear hK K
  refine qH 5 fun K hK => ?_
  go_simp
  refine hK.out _ _ (SteadyBut.of qL) (fun hHeld => ?_)
  clear hK K
  refine qH 6 fun K hK => ?_
  go_simp
  have hbc := HBC.out; go_at_call 94; refine (done_none (New A w) op known vf vk s b [Bt.writeRoot s.rootPage (Bt.at_ q) 0, (plantLeaf e).fill q] w5.heap.size 2 2 _ ?hrun ?hw (.inr (by omega))).mono ?_; (case hrun => exact HR2N.out.below qL); (case hw => exact own_pages2 _ _ _ _ (by omega)); rintro e6 w6 ⟨rfl, hrun6, ho6⟩; have HR6 := hid hrun6; clear hrun6
  go_wp2_with fail
  refine hK.out _ _ (SteadyBut.over qV) (fun hHeld => ?_)
  clear hK K
  refine qD ?_ _
  go_wp2_with fail
  have hbc := HBC.out
  have hb := HB.out
  refine bodyPost_end (results_none rfl _ _ _) rfl ⟨rfl, ?_, qV⟩
  rw [HX.out]
  refine HR6.out.imp (fun c hc => ?_)
  rcases hc with h1 | h1
  ·exact h1
  ·exact .inr (by simp at h1; omega)
end Go.Proofs.YtjmpekanlmepmaaGreatDoor
