/- Package btree: a node is looked at that must not be locked (XH1's last theorem with pointer.Open). -/
import Derived.Test.YtjmpekanlmepmaaGreatDoorNN16
set_option linter.all false
set_option maxRecDepth 20000
set_option maxHeartbeats 8000000
open Go.Lib (hid)
namespace Go.Proofs.YtjmpekanlmepmaaGreatDoor
open Go.RowKit
theorem look_open (A : Nat → Prop) (op : Bt.Op) (known : List Bt.Page) (vf vk : Value) (s : Bt.St) (b : Nat) (q : Bt.Ptr) (w : World) (h : IsRun A op known vf vk s b w) (hA : ∀ c, A c → c < w.heap.size) :
 Calls Tryz.prog 92 #[.pointer (some ⟨b, 0, none⟩), .agg q.cells, lockFn true] w (LookRes A op known vf vk b (s.look known q true) w) := by
 have HR := hid h
 have hlt := h.lt
 have k8 : w.cell? ⟨b, 8, none⟩ = some vk := by obtain ⟨vn, vw, ve, vc, hr, _⟩ := h; exact hr.blk.cell 8
 have HK : Hid (PgRow w vk known) := hid (by obtain ⟨vn, vw, ve, vc, hr, _⟩ := h; exact hr.known)
 have hlt1 : b < w.heap.size + 1 := by omega
 have hlt2 : b < w.heap.size + 1 + 1 := by omega
 clear h
 unfold Bt.Ptr.cells lockFn
 go_enter Tryz.func92, Tryz.ntmps92
 go_wp2_with fail
 go_cut [8, 9, 10] (LookCut (Bt.lookup known q 4 true) ((w.alloc (.cells #[.int .i64 q.line, .int .i64 q.gen] 27)).alloc (.cells #[.int .i64 0, .int .u64 0, .int .u64 0, .int .u64 0, .int .u64 0, .int .u64 0, .int .u64 0, .int .u64 0, .int .u64 0, .int .i64 0, .bool false, .bool false, .int .u32 0, .int .i64 0, .int .i64 0, .slice none 0 0] 145)))
 case first =>
  refine qA fun hSt => ?_
  refine qS [0, 1, 2, 3, 4, 5] ?_
  iterate 6 (refine qT ?_; simp only [Act.put, qY])
  refine TakeSeq.done ?_
  refine wpAnyH_ready (rs := [6, 11]) (by kernel_rfl) (by simp) ?_
  refine AllReadyH.cons rfl (fun K hK => ?_) (AllReadyH.cons rfl (fun K hK => ?_) (AllReadyH.nil))
  ·skip
   rw [if_pos (by rfl)]
   go_simp
   go_at_call 32; refine (Open_any known vk q _ _ ?hpg).mono ?_; (case hpg => exact HK.out.below qL); rintro e w1 ⟨rfl, hb⟩; simp only [Bt.Page.cells]; ((obtain ⟨hc1, hf1, hs1⟩ := qR hb); (try have := qN0 w w1); (try have := qN1 w w1))
   go_wp2_with fail
   refine hK.out _ _ (SteadyAll.of qL) (fun hHeld => ?_)
   clear hK K
   refine qS [7, 8, 9, 10] ?_
   iterate 4 (refine qT ?_; simp only [Act.put, qY])
   refine TakeSeq.done ?_
   refine qH 11 fun K hK => ?_
   go_simp
   refine hK.out _ _ (SteadyAll.of qL) (fun hHeld => ?_)
   clear hK K
   refine qH 12 fun K hK => ?_
   go_simp
   refine hK.out _ _ (SteadyAll.of qL) (fun hHeld => ?_)
   clear hK K
   refine qS [13, 14] ?_
   iterate 2 (refine qT ?_; simp only [Act.put, qY])
   refine TakeSeq.done ?_
   refine qD ?_ _
   go_wp2_with fail
   go_meet
   exact ⟨_, rfl, by simp; omega, Blk.made _ _ _, rfl, rfl, qL⟩
  ·skip
   rw [if_pos (by rfl)]
   go_simp
   refine hK.out _ _ (SteadyAll.of qL) (fun hHeld => ?_)
   clear hK K
   refine qH 6 fun K hK => ?_
   go_simp
   go_at_call 32; refine (Open_any known vk q _ _ ?hpg2).mono ?_; (case hpg2 => exact HK.out.below qL); rintro e w1 ⟨rfl, hb⟩; simp only [Bt.Page.cells]; ((obtain ⟨hc1, hf1, hs1⟩ := qR hb); (try have := qN0 w w1); (try have := qN1 w w1))
   go_wp2_with fail
   refine hK.out _ _ (SteadyAll.of qL) (fun hHeld => ?_)
   clear hK K
   refine qS [7, 8, 9, 10] ?_
   iterate 4 (refine qT ?_; simp only [Act.put, qY])
   refine TakeSeq.done ?_
   refine qH 12 fun K hK => ?_
   go_simp
   refine hK.out _ _ (SteadyAll.of qL) (fun hHeld => ?_)
   clear hK K
   refine qS [13, 14] ?_
   iterate 2 (refine qT ?_; simp only [Act.put, qY])
   refine TakeSeq.done ?_
   refine qD ?_ _
   go_wp2_with fail
   have BN := ((made33 w (t := 25) (cs := #[.int .i64 0, .int .u64 0, .int .u64 0, .int .u64 0, .int .u64 0, .int .u64 0, .int .u64 0, .int .u64 0, .int .u64 0])).drew).kept hb
   go_meet
   exact ⟨_, rfl, by simp, BN.all9 _ _ _ _ _ _ _ _ _, rfl, rfl, qL⟩
 case rest =>
  obtain ⟨g, rfl, hg, BG, rfl, rfl, hbc⟩ := hcut
  have HBG := hid BG
  have HBC := hid hbc
  clear BG
  ((obtain ⟨hc5, hf5, hs5⟩ := qR hbc); (try have := qN0 w wc); (try have := qN1 w wc))
  have hzb : b < wc.heap.size := by omega
  have HRC := hid (HR.out.below (w' := wc) qL)
  have HNA : Hid (¬ New A wc (w.heap.size + 1)) := hid (by
   rintro (h1 | h1)
   ·have := hA _ h1; omega
   ·omega)
  have HIM : Hid (∀ c, New A wc c → New A w c) := hid (fun c hc => by
   rcases hc with h1 | h1
   ·exact .inl h1
   ·exact .inr (by omega))
  rcases hL : Bt.lookup known q 4 true with page | _ | c
  ·have HP := hid (HK.out.ok page (lookup_found_ok hL))
   have HLL := hid hL
   have e1 : (Bt.Look.found page).code = 0 := rfl
   have e2 : (Bt.Look.found page).have_ = true := rfl
   have kg : ∀ i, wc.cell? ⟨g, i, none⟩ = (#[.int .i64 page.line, .int .u64 page.head, .int .u64 page.d0, .int .u64 page.d1, .int .u64 page.d2, .int .u64 page.d3, .int .u64 page.d4, .int .u64 page.d5, .int .u64 page.d6] : Array Value)[i]? := by
    have := HBG.out.cell
    rw [hL] at this
    exact this
   have hgw : g < wc.heap.size := HBG.out.lt
   rw [e1, e2]
   clear hL e1 e2
   have HNW : Hid (NoneAt wc) := hid (by obtain ⟨vn, vw, ve, vc, hr, _⟩ := HRC.out; exact hr.none)
   go_wp2_with fail
   go_at_call 28; refine (ReadNode_any page HP.out _ HNW.out).mono ?_
   rintro e w2 (⟨hrn, rfl, hb2⟩ | ⟨v, hrn, rfl, hown, hb2⟩)
   ·have HX : Hid (s.look known q true = (s.fail 14 [], none)) := hid (by simp only [Bt.St.look, HLL.out, hrn])
    clear hrn
    ((obtain ⟨hc2, hf2, hs2⟩ := qR hb2); (try have := qN0 w w2); (try have := qN1 w w2); (try have := qN0 wc w2))
    have hg2 : g < w2.heap.size := by omega
    simp only [nodeCells]
    go_wp2_with fail
    go_at_call 81; refine (fail_none A op known vf vk s b 14 _ ?hrun).mono ?_
    case hrun => exact HRC.out.below qL
    rintro e w3 ⟨rfl, hrun3, ho3⟩
    have HR3 := hid hrun3
    clear hrun3
    ((obtain ⟨hc3, hf3, hs3⟩ := qO ho3); (try have := qN0 w w3); (try have := qN1 w w3); (try have := qN0 wc w3))
    go_wp2_with fail
    have BF := ((((made22 w (o := .cells #[.int .i64 q.line, .int .i64 q.gen] 27) (t := 145) (cs := #[.int .i64 0, .int .u64 0, .int .u64 0, .int .u64 0, .int .u64 0, .int .u64 0, .int .u64 0, .int .u64 0, .int .u64 0, .int .i64 0, .bool false, .bool false, .int .u32 0, .int .i64 0, .int .i64 0, .slice none 0 0])).kept HBC.out).kept hb2).alloc _).grown ho3 (by simp; omega)
    refine bodyPost_ret (results_bt rfl _ _ (w.heap.size + 1) _ _ _ rfl (by have B := BF; exact qK) Tryz.underlying145 rfl (by kernel_rfl)) rfl ?_
    rw [HX.out]
    have hna : ¬ New A (w2.alloc (.cells #[.int .i64 Bt.zeroNode.level, .bool Bt.zeroNode.leftmost, .bool Bt.zeroNode.dead, .int .u32 Bt.zeroNode.high, .int .i64 Bt.zeroNode.right.line, .int .i64 Bt.zeroNode.right.gen, .slice none 0 0] 73)) (w.heap.size + 1) := by
     rintro (h1 | h1)
     ·have := hA _ h1; omega
     ·simp at h1; omega
    refine ⟨(HR3.out.put16 (by omega) hna _ _ _ _ _ _ _ _ _ _ _ _ _ _ _ _).imp (fun c hc => by
     rcases hc with h1 | h1
     ·exact .inl h1
     ·exact .inr (by simp at h1; omega)), qV, ?_⟩
    rw [set16]
    rfl
   ·have HX : Hid (s.look known q true = (s, some (page, page.node))) := hid (by simp only [Bt.St.look, HLL.out, hrn])
    have HOWN := hid hown
    have hsv := qSt hown
    clear hrn hown
    ((obtain ⟨hc2, hf2, hs2⟩ := qR hb2); (try have := qN0 w w2); (try have := qN1 w w2); (try have := qN0 wc w2))
    have hg2 : g < w2.heap.size := by omega
    simp only [nodeCells]
    go_wp2_with fail
    have BF := ((made22 w (o := .cells #[.int .i64 q.line, .int .i64 q.gen] 27) (t := 145) (cs := #[.int .i64 0, .int .u64 0, .int .u64 0, .int .u64 0, .int .u64 0, .int .u64 0, .int .u64 0, .int .u64 0, .int .u64 0, .int .i64 0, .bool false, .bool false, .int .u32 0, .int .i64 0, .int .i64 0, .slice none 0 0])).kept HBC.out).kept hb2
    refine bodyPost_ret (results_bt rfl _ _ (w.heap.size + 1) _ _ _ rfl (by have B := BF; exact qK) Tryz.underlying145 rfl (by kernel_rfl)) rfl ?_
    rw [HX.out]
    have hna : ¬ A (w.heap.size + 1) := fun h1 => by have := hA _ h1; omega
    refine ⟨(((HRC.out.below hb2).put16 (by omega) hna _ _ _ _ _ _ _ _ _ _ _ _ _ _ _ _).below (below_alloc (Below.refl _ _) _)), qV, v, ?_, own_below (own_put16 (own_base HOWN.out (by omega)) (own_not HOWN.out (by omega)) _ _ _ _ _ _ _ _ _ _ _ _ _ _ _ _) (below_alloc (Below.refl _ _) _)⟩
    rw [set16]
    rfl
  ·have HX : Hid (s.look known q true = (s.wait q.line, none)) := hid (by simp only [Bt.St.look, hL])
   have e1 : Bt.Look.missing.code = 0 := rfl
   have e2 : Bt.Look.missing.have_ = false := rfl
   rw [e1, e2]
   clear hL e1 e2
   go_wp2_with fail
   go_at_call 79; refine (wait_any A op known vf vk s b q.line _ HRC.out).mono ?_
   rintro e w2 ⟨rfl, hrun2, ho2⟩
   have HR2 := hid hrun2
   clear hrun2
   ((obtain ⟨hc2, hf2, hs2⟩ := qO ho2); (try have := qN0 w w2); (try have := qN1 w w2); (try have := qN0 wc w2))
   go_wp2_with fail
   have BF := ((made22 w (o := .cells #[.int .i64 q.line, .int .i64 q.gen] 27) (t := 145) (cs := #[.int .i64 0, .int .u64 0, .int .u64 0, .int .u64 0, .int .u64 0, .int .u64 0, .int .u64 0, .int .u64 0, .int .u64 0, .int .i64 0, .bool false, .bool false, .int .u32 0, .int .i64 0, .int .i64 0, .slice none 0 0])).kept HBC.out).grown ho2 (by simp; omega)
   refine bodyPost_ret (results_bt rfl _ _ (w.heap.size + 1) _ _ _ rfl (by have B := BF; exact qK) Tryz.underlying145 rfl (by kernel_rfl)) rfl ?_
   rw [HX.out]
   refine ⟨(HR2.out.put16 (by omega) HNA.out _ _ _ _ _ _ _ _ _ _ _ _ _ _ _ _).imp HIM.out, qV, ?_⟩
   rw [set16]
   rfl
  ·have hc := lookup_code hL
   have bc : (c != 0) = true := by simp; omega
   have HX : Hid (s.look known q true = (s.fail c [], none)) := hid (by simp only [Bt.St.look, hL])
   have e1 : (Bt.Look.bad c).code = c := rfl
   rw [e1]
   clear hL hc e1
   go_wp2_with fail
   go_at_call 81; refine (fail_none A op known vf vk s b c _ HRC.out).mono ?_
   rintro e w2 ⟨rfl, hrun2, ho2⟩
   have HR2 := hid hrun2
   clear hrun2
   ((obtain ⟨hc2, hf2, hs2⟩ := qO ho2); (try have := qN0 w w2); (try have := qN1 w w2); (try have := qN0 wc w2))
   go_wp2_with fail
   have BF := ((made22 w (o := .cells #[.int .i64 q.line, .int .i64 q.gen] 27) (t := 145) (cs := #[.int .i64 0, .int .u64 0, .int .u64 0, .int .u64 0, .int .u64 0, .int .u64 0, .int .u64 0, .int .u64 0, .int .u64 0, .int .i64 0, .bool false, .bool false, .int .u32 0, .int .i64 0, .int .i64 0, .slice none 0 0])).kept HBC.out).grown ho2 (by simp; omega)
   refine bodyPost_ret (results_bt rfl _ _ (w.heap.size + 1) _ _ _ rfl (by have B := BF; exact qK) Tryz.underlying145 rfl (by kernel_rfl)) rfl ?_
   rw [HX.out]
   refine ⟨(HR2.out.put16 (by omega) HNA.out _ _ _ _ _ _ _ _ _ _ _ _ _ _ _ _).imp HIM.out, qV, ?_⟩
   rw [set16]
   rfl
end Go.Proofs.YtjmpekanlmepmaaGreatDoor
