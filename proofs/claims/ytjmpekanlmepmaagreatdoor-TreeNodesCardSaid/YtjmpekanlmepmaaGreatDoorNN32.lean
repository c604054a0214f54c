/- Package btree: the tree is raised, with a fresh page. -/
import Derived.Test.YtjmpekanlmepmaaGreatDoorNN31
set_option linter.all false
set_option maxRecDepth 20000
set_option maxHeartbeats 8000000
open Go.Lib (hid)
namespace Go.Proofs.YtjmpekanlmepmaaGreatDoor
open Go.RowKit
theorem own_line1 (w : World) (base : Nat) (l : Int) (hb : base ≤ w.heap.size) : (w.alloc (.cells #[.int .i64 l] 3)).ownsRow base 3 1 (.slice (some ⟨w.heap.size, 0, none⟩) 1 1) 1 (intCells [l]) :=
 ⟨rfl, .inr ⟨w.heap.size, 1, _, rfl, hb, Blk.made' rfl, Nat.le_refl _, by unfold maxLen; omega, rfl, rfl⟩⟩
theorem own_line1' {w : World} {base n : Nat} {l : Int} (hn : n = w.heap.size) (hb : base ≤ n) : (w.alloc (.cells #[.int .i64 l] 3)).ownsRow base 3 1 (.slice (some ⟨n, 0, none⟩) 1 1) 1 (intCells [l]) := by
 subst hn
 exact own_line1 w base l hb
theorem own_pages2' {w : World} {base n : Nat} {R F : Bt.Page} (hn : n = w.heap.size) (hb : base ≤ n) : (w.alloc (.cells #[.int .i64 R.line, .int .u64 R.head, .int .u64 R.d0, .int .u64 R.d1, .int .u64 R.d2, .int .u64 R.d3, .int .u64 R.d4, .int .u64 R.d5, .int .u64 R.d6, .int .i64 F.line, .int .u64 F.head, .int .u64 F.d0, .int .u64 F.d1, .int .u64 F.d2, .int .u64 F.d3, .int .u64 F.d4, .int .u64 F.d5, .int .u64 F.d6] 25)).ownsRow base 25 9 (.slice (some ⟨n, 0, none⟩) 2 2) 2 (pageCells [R, F]) := by
 subst hn
 exact own_pages2 w base R F hb
def RaiseCut1 (s : Bt.St) (n : Bt.Node) (w2 : World) (s5 : Value) (wx : World) : Prop :=
 ∃ N G : Nat, s5 = .pointer (some ⟨N, 0, none⟩) ∧ w2.heap.size ≤ N ∧ w2.heap.size ≤ G ∧ Blk wx G 69 #[.int .u32 n.high, .int .i64 s.root.line, .int .i64 s.root.gen, .int .u32 4294967295, .int .i64 n.right.line, .int .i64 n.right.gen] ∧ Blk wx N 73 #[.int .i64 (n.level + 1), .bool true, .bool false, .int .u32 4294967295, .int .i64 0, .int .i64 0, .slice (some ⟨G, 0, none⟩) 2 2] ∧ Below w2.heap.size w2 wx
def RaiseCut2 (R : Bt.Page) (w2 : World) (s6 : Value) (wx : World) : Prop :=
 ∃ G : Nat, s6 = .pointer (some ⟨G, 0, none⟩) ∧ w2.heap.size ≤ G ∧ Blk wx G 25 R.cells ∧ Below w2.heap.size w2 wx
theorem raise_one (A : Nat → Prop) (op : Bt.Op) (known : List Bt.Page) (vf vk : Value) (s : Bt.St) (b : Nat) (page : Bt.Page) (n : Bt.Node) (w : World) (h : IsRun A op known vf vk s b w) (hA : ∀ c, A c → c < w.heap.size)
 (hroot : s.root ≠ Bt.nilP) (hl : s.look known s.root true = (s, some (page, n))) (hright : n.right ≠ Bt.nilP) (hlev : n.level ≠ 8) (hrp : s.rootPage.Ok) (hrl : s.rootPage.line = 96)
 (p q : Bt.Page) (rest : List Bt.Page) (hf : op.fresh = p :: rest) (hpo : p.Ok) (ha : Bt.allocate p 4 0 = (q, 0)) (hpl : q.line ≠ page.line) :
 Calls Tryz.prog 56 #[.pointer (some ⟨b, 0, none⟩)] w (RunPost A op known vf vk (s.raise op known) b (.tuple #[]) w) := by
 have HX : Hid (s.raise op known = s.finish [Bt.writeRoot s.rootPage (Bt.at_ q) (n.level + 1), (raiseNode s n).fill q] [page.line]) := hid (by simp [Bt.St.raise, hroot, hl, hright, hlev, Bt.St.fresh, hf, ha, hpl, raiseNode])
 obtain ⟨hval, hnode⟩ := readNode_valid (look_known hl).2.2.2
 have hlv := valid_level hval
 have hpok : page.Ok := h.knownRow.ok page (look_known hl).1
 have hnok : NodeOk n := by
  have h5 := (valid_asc n hval).2
  refine ⟨⟨hlv.1, by omega⟩, ?_, h5⟩
  rw [hnode]
  show 0 ≤ page.d1 % 4294967296 ∧ page.d1 % 4294967296 < 4294967296
  omega
 obtain ⟨hqo, hqv, hql, hqh, hqd⟩ := alloc_good hpo ha
 have HRC : ∀ r : Bt.Page, Hid (r.cells = #[.int .i64 r.line, .int .u64 r.head, .int .u64 r.d0, .int .u64 r.d1, .int .u64 r.d2, .int .u64 r.d3, .int .u64 r.d4, .int .u64 r.d5, .int .u64 r.d6]) := fun r => hid rfl
 have HQ := HRC q
 have HQO := hid hqo
 have HAL := hid ha
 have HRP := hid hrp
 have HRL := hid hrl
 have HPL : Hid (q.line ∉ [page.line]) := hid (by simpa using hpl)
 have HVR : Hid (Bt.validRoot (Bt.at_ q) (n.level + 1) = true) := hid (by
  have hne : Bt.at_ q ≠ Bt.nilP := by intro e; rw [e] at hqv; simp [Bt.validP, Bt.nilP, Bt.inHeap] at hqv
  simp [Bt.validRoot, hne, hqv]; omega)
 have HNO : Hid (NodeOk (raiseNode s n)) := hid ⟨by show 0 ≤ n.level + 1 ∧ n.level + 1 ≤ 255; omega, by simp [raiseNode, Bt.maxHigh], by simp [raiseNode]⟩
 have HHI := hid hnok.high
 have hwr : wrap64 (n.level + 1) = n.level + 1 := by unfold wrap64; omega
 have hwk : IntKind.i64.wrap (n.level + 1) = n.level + 1 := by rw [IntKind.wrap_i64]; omega
 have HEC1 : Hid ((raiseNode s n).entries = [⟨n.high, s.root⟩, ⟨Bt.maxHigh, n.right⟩]) := hid rfl
 have HR := hid h
 have HL := hid hl
 have HF := hid hf
 have hlt := h.lt
 have hlt1 : b < w.heap.size + 1 := by omega
 obtain ⟨vn, vw, ve, vc, hc⟩ := h.cells
 have k34 : w.cell? ⟨b, 34, none⟩ = some (.int .i64 s.root.line) := hc 34
 have k35 : w.cell? ⟨b, 35, none⟩ = some (.int .i64 s.root.gen) := hc 35
 have hp : peq s.root.line s.root.gen 0 0 = false := by rw [peq_nil]; simp [hroot]
 have hpr : peq n.right.line n.right.gen 0 0 = false := by rw [peq_nil]; simp [hright]
 have b8 : (n.level == 8) = false := by simp [hlev]
 have eq := eql_ptr
 have hn : NoneAt w := by obtain ⟨vn, vw, ve, vc, hr, _⟩ := h; exact hr.none
 obtain ⟨g0, g1, gl⟩ := hn
 have hgb : 0 < b := by obtain ⟨vn, vw, ve, vc, hr, _⟩ := h; exact hr.pos
 clear h hc hroot hl hright hlev hf hval hnode hlv hpok hnok hqo hqv hql hqh hqd ha hpl hrp hrl
 go_enter Tryz.func56, Tryz.ntmps56
 go_wp2_with fail
 refine qA fun hSt => ?_
 refine qS [0, 1, 2, 3, 4, 5] ?_
 iterate 6 (refine qT ?_; simp only [Act.put, qY])
 refine TakeSeq.done ?_
 refine qD ?_ _
 go_wp2_with fail
 go_at_call 92; refine (look_open A op known vf vk s b s.root _ ?hrun ?hlow).mono ?_
 case hrun => exact HR.out.drew
 case hlow => exact fun c hc => by have := hA c hc; simpa using this
 rw [HL.out]
 rintro e w1 ⟨hrun1, ho1, v, rfl, hown⟩
 have HR1 := hid hrun1
 have hsv := qSt hown
 have hq1 : b < w1.heap.size := hrun1.lt
 have hq2 : b < w1.heap.size + 1 := by omega
 have gl1 : 0 < w1.heap.size := by omega
 have gl2 : 0 < w1.heap.size + 1 := by omega
 clear hrun1 hown
 ((obtain ⟨hc1, hf1, hs1⟩ := qO ho1); (try have := qN0 w w1))
 simp only [foundCells]
 go_wp2_with fail
 go_at_call 93; refine (fresh_one A op known vf vk s b _ [page.line] _ ?hrun2 ?hlow2 p q rest HF.out HAL.out HPL.out ?ht).mono ?_
 case hrun2 => exact HR1.out.below qL
 case hlow2 => exact fun c hc => by have := hA c hc; simp only [size_alloc]; omega
 case ht => exact ⟨rfl, .inr ⟨_, 1, #[.int .i64 page.line], rfl, Nat.zero_le _, Blk.made' (by simp), Nat.le_refl _, by unfold maxLen; omega, rfl, rfl⟩⟩
 rintro e w2 ⟨hrun2, ho2, rfl⟩
 have HR2 := hid hrun2
 obtain ⟨un, uw, ue, uc, hc⟩ := hrun2.cells
 have j25 : w2.cell? ⟨b, 25, none⟩ = some (.int .i64 s.rootPage.line) := hc 25
 have j26 : w2.cell? ⟨b, 26, none⟩ = some (.int .u64 s.rootPage.head) := hc 26
 have j27 : w2.cell? ⟨b, 27, none⟩ = some (.int .u64 s.rootPage.d0) := hc 27
 have j28 : w2.cell? ⟨b, 28, none⟩ = some (.int .u64 s.rootPage.d1) := hc 28
 have j29 : w2.cell? ⟨b, 29, none⟩ = some (.int .u64 s.rootPage.d2) := hc 29
 have j30 : w2.cell? ⟨b, 30, none⟩ = some (.int .u64 s.rootPage.d3) := hc 30
 have j31 : w2.cell? ⟨b, 31, none⟩ = some (.int .u64 s.rootPage.d4) := hc 31
 have j32 : w2.cell? ⟨b, 32, none⟩ = some (.int .u64 s.rootPage.d5) := hc 32
 have j33 : w2.cell? ⟨b, 33, none⟩ = some (.int .u64 s.rootPage.d6) := hc 33
 have j34 : w2.cell? ⟨b, 34, none⟩ = some (.int .i64 s.root.line) := hc 34
 have j35 : w2.cell? ⟨b, 35, none⟩ = some (.int .i64 s.root.gen) := hc 35
 clear hrun2 hc
 ((obtain ⟨hc2, hf2, hs2⟩ := qO ho2); (try have := qN0 w w2); (try have := qN0 w1 w2))
 have x0 : b < w2.heap.size := by omega
 have x1 : b < w2.heap.size + 1 := by omega
 have x2 : w1.heap.size < w2.heap.size + 1 := by omega
 have x3 : w1.heap.size < w1.heap.size + 1 + 1 := by omega
 simp only [Option.getD_some, Option.isSome_some, HQ.out]
 go_wp2_with fail
 go_cut [5] (RaiseCut1 s n (w2.alloc (.cells #[.int .i64 q.line, .int .u64 q.head, .int .u64 q.d0, .int .u64 q.d1, .int .u64 q.d2, .int .u64 q.d3, .int .u64 q.d4, .int .u64 q.d5, .int .u64 q.d6] 25)))
 case first =>
  refine qA fun hSt => ?_
  refine qS [0, 1, 2, 3, 4, 5, 6, 7, 8, 9, 10, 11, 12, 13, 14, 15] ?_
  iterate 16 (refine qT ?_; simp only [Act.put, qY])
  refine TakeSeq.done ?_
  refine wpAnyH_ready (rs := [16, 18]) (by kernel_rfl) (by simp) ?_
  refine AllReadyH.cons rfl (fun K hK => ?_) (AllReadyH.cons rfl (fun K hK => ?_) (AllReadyH.nil))
  ·skip
   rw [if_pos (by rfl)]
   go_simp
   refine hK.out _ _ (SteadyAll.of qL) (fun hHeld => ?_)
   clear hK K
   refine qS [17] ?_
   refine qT ?_; simp only [Act.put, qY]
   refine TakeSeq.done ?_
   refine qH 18 fun K hK => ?_
   go_simp
   refine hK.out _ _ (SteadyAll.of qL) (fun hHeld => ?_)
   clear hK K
   refine qH 19 fun K hK => ?_
   go_simp
   refine hK.out _ _ (SteadyAll.of qL) (fun hHeld => ?_)
   clear hK K
   refine qD ?_ _
   go_wp2_with fail
   go_meet
   exact ⟨_, w2.heap.size + 1, rfl, by simp, by simp, (Blk.made' (by simp)).alloc _, Blk.made' (by simp), qL⟩
  ·skip
   rw [if_pos (by rfl)]
   go_simp
   refine hK.out _ _ (SteadyAll.of qL) (fun hHeld => ?_)
   clear hK K
   refine qH 16 fun K hK => ?_
   go_simp
   refine hK.out _ _ (SteadyAll.of qL) (fun hHeld => ?_)
   clear hK K
   refine qS [17] ?_
   refine qT ?_; simp only [Act.put, qY]
   refine TakeSeq.done ?_
   refine qH 19 fun K hK => ?_
   go_simp
   refine hK.out _ _ (SteadyAll.of qL) (fun hHeld => ?_)
   clear hK K
   refine qD ?_ _
   go_wp2_with fail
   go_meet
   exact ⟨_, w2.heap.size + 1 + 1, rfl, by simp, by simp, Blk.made' (by simp), (Blk.made' (by simp)).alloc _, qL⟩
 case rest =>
  rename World => wd
  obtain ⟨N, G, rfl, hN, hG, BG, BN, hbc⟩ := hcut
  have HBG := hid BG
  have HBN := hid BN
  have HBC := hid hbc
  have gN : ∀ i, wd.cell? ⟨N, i, none⟩ = (#[.int .i64 (n.level + 1), .bool true, .bool false, .int .u32 4294967295, .int .i64 0, .int .i64 0, .slice (some ⟨G, 0, none⟩) 2 2] : Array Value)[i]? := BN.cell
  have hNc : N < wd.heap.size := BN.lt
  have hGc : G < wd.heap.size := BG.lt
  have hn2 : NoneAt w2 := by obtain ⟨vn, vw, ve, vc, hr, _⟩ := HR2.out; exact hr.none
  have HNC : Hid (NoneAt wd) := hid ((hn2.below qL).below hbc)
  have HWC := HRC (Bt.writeRoot s.rootPage (Bt.at_ q) (n.level + 1))
  simp only [size_alloc] at hN hG
  have hQc : w2.heap.size < wd.heap.size := by omega
  have hbwc : b < wd.heap.size := by omega
  have hbN : b < N := by omega
  ((obtain ⟨hc5, hf5, hs5⟩ := qR hbc); (try have := qN0 w2 wd))
  clear BG BN hn2
  go_wp2_with fail
  go_cut [6] (RaiseCut2 (Bt.writeRoot s.rootPage (Bt.at_ q) (n.level + 1)) wd)
  case first =>
   refine qA fun hSt => ?_
   refine qS [0, 1, 2, 3, 4, 6, 7] ?_
   iterate 7 (refine qT ?_; simp only [Act.put, qY])
   refine TakeSeq.done ?_
   refine wpAnyH_ready (rs := [5, 12]) (by kernel_rfl) (by simp) ?_
   refine AllReadyH.cons rfl (fun K hK => ?_) (AllReadyH.cons rfl (fun K hK => ?_) (AllReadyH.nil))
   ·skip
    rw [if_pos (by rfl)]
    go_simp
    go_at_call 33; refine (At_any q HQO.out _).mono ?_; rintro e3 w3 ⟨rfl, hb3⟩; ((obtain ⟨hc3, hf3, hs3⟩ := qR hb3); (try have := qN0 w2 w3); (try have := qN0 wd w3); (try have := qN1 wd w3))
    go_wp2_with fail
    refine hK.out _ _ (SteadyAll.of qL) (fun hHeld => ?_)
    clear hK K
    refine wpAnyH_ready (rs := [8, 12]) (by kernel_rfl) (by simp) ?_
    refine AllReadyH.cons rfl (fun K hK => ?_) (AllReadyH.cons rfl (fun K hK => ?_) (AllReadyH.nil))
    ·skip
     rw [if_pos (by rfl)]
     go_simp
     go_at_call 17; refine (WriteRoot_any s.rootPage (Bt.at_ q) (n.level + 1) HRL.out HVR.out _ ?hng).mono ?_; (case hng => exact HNC.out.below qL); rintro e4 w4 ⟨rfl, hb4⟩; rw [HWC.out]; ((obtain ⟨hc4, hf4, hs4⟩ := qR hb4); (try have := qN0 w2 w4); (try have := qN0 wd w4); (try have := qN1 wd w4); (try have := qN0 w3 w4))
     go_wp2_with fail
     refine hK.out _ _ (SteadyAll.of qL) (fun hHeld => ?_)
     clear hK K
     refine qS [9, 10, 11] ?_
     iterate 3 (refine qT ?_; simp only [Act.put, qY])
     refine TakeSeq.done ?_
     refine qH 12 fun K hK => ?_
     go_simp
     refine hK.out _ _ (SteadyAll.of qL) (fun hHeld => ?_)
     clear hK K
     refine qH 13 fun K hK => ?_
     go_simp
     refine hK.out _ _ (SteadyAll.of qL) (fun hHeld => ?_)
     clear hK K
     refine qS [14] ?_
     refine qT ?_; simp only [Act.put, qY]
     refine TakeSeq.done ?_
     refine qD ?_ _
     go_wp2_with fail
     go_meet
     exact ⟨_, rfl, by omega, Blk.made _ _ _, qL⟩
    ·skip
     rw [if_pos (by rfl)]
     go_simp
     refine hK.out _ _ (SteadyAll.of qL) (fun hHeld => ?_)
     clear hK K
     refine qH 8 fun K hK => ?_
     go_simp
     go_at_call 17; refine (WriteRoot_any s.rootPage (Bt.at_ q) (n.level + 1) HRL.out HVR.out _ ?hng).mono ?_; (case hng => exact HNC.out.below qL); rintro e4 w4 ⟨rfl, hb4⟩; rw [HWC.out]; ((obtain ⟨hc4, hf4, hs4⟩ := qR hb4); (try have := qN0 w2 w4); (try have := qN0 wd w4); (try have := qN1 wd w4); (try have := qN0 w3 w4))
     go_wp2_with fail
     refine hK.out _ _ (SteadyAll.of qL) (fun hHeld => ?_)
     clear hK K
     refine qS [9, 10, 11] ?_
     iterate 3 (refine qT ?_; simp only [Act.put, qY])
     refine TakeSeq.done ?_
     refine qH 13 fun K hK => ?_
     go_simp
     refine hK.out _ _ (SteadyAll.of qL) (fun hHeld => ?_)
     clear hK K
     refine qS [14] ?_
     refine qT ?_; simp only [Act.put, qY]
     refine TakeSeq.done ?_
     refine qD ?_ _
     go_wp2_with fail
     have BG0 := (Blk.made w3 25 #[.int .i64 0, .int .u64 0, .int .u64 0, .int .u64 0, .int .u64 0, .int .u64 0, .int .u64 0, .int .u64 0, .int .u64 0]).kept hb4
     go_meet
     exact ⟨_, rfl, by omega, Blk.cast (by have B := BG0; exact qK) (by rw [set9]; rfl), qL⟩
   ·skip
    rw [if_pos (by rfl)]
    go_simp
    refine hK.out _ _ (SteadyAll.of qL) (fun hHeld => ?_)
    clear hK K
    refine qH 5 fun K hK => ?_
    go_simp
    go_at_call 33; refine (At_any q HQO.out _).mono ?_; rintro e3 w3 ⟨rfl, hb3⟩; ((obtain ⟨hc3, hf3, hs3⟩ := qR hb3); (try have := qN0 w2 w3); (try have := qN0 wd w3); (try have := qN1 wd w3))
    go_wp2_with fail
    refine hK.out _ _ (SteadyAll.of qL) (fun hHeld => ?_)
    clear hK K
    refine qH 8 fun K hK => ?_
    go_simp
    go_at_call 17; refine (WriteRoot_any s.rootPage (Bt.at_ q) (n.level + 1) HRL.out HVR.out _ ?hng).mono ?_; (case hng => exact HNC.out.below qL); rintro e4 w4 ⟨rfl, hb4⟩; rw [HWC.out]; ((obtain ⟨hc4, hf4, hs4⟩ := qR hb4); (try have := qN0 w2 w4); (try have := qN0 wd w4); (try have := qN1 wd w4); (try have := qN0 w3 w4))
    go_wp2_with fail
    refine hK.out _ _ (SteadyAll.of qL) (fun hHeld => ?_)
    clear hK K
    refine qS [9, 10, 11] ?_
    iterate 3 (refine qT ?_; simp only [Act.put, qY])
    refine TakeSeq.done ?_
    refine qH 13 fun K hK => ?_
    go_simp
    refine hK.out _ _ (SteadyAll.of qL) (fun hHeld => ?_)
    clear hK K
    refine qS [14] ?_
    refine qT ?_; simp only [Act.put, qY]
    refine TakeSeq.done ?_
    refine qD ?_ _
    go_wp2_with fail
    have BG0 := (Blk.kept (b := wd.heap.size) (t := 25) (cs := #[.int .i64 0, .int .u64 0, .int .u64 0, .int .u64 0, .int .u64 0, .int .u64 0, .int .u64 0, .int .u64 0, .int .u64 0]) (Blk.drew (Blk.made _ _ _)) hb3).kept hb4
    go_meet
    exact ⟨_, rfl, by omega, Blk.cast (by have B := BG0; exact qK) (by rw [set9]; rfl), qL⟩
  case rest =>
   obtain ⟨G6, rfl, hG6, B6, hbd⟩ := hcut
   have HBD := hid hbd
   have g6 := B6.cell
   rw [HWC.out] at g6
   have lG6 : G6 < wc.heap.size := B6.lt
   have HFC := HRC ((raiseNode s n).fill q)
   have HER : Hid (EntRow wc (.slice (some ⟨G, 0, none⟩) 2 2) (raiseNode s n).entries) := hid (by
    have BGc := HBG.out.kept hbd
    refine ⟨?_, by simp [raiseNode, maxLen], .inr ⟨G, 0, 2, rfl, BGc.lt, fun i p hi j u hu => ?_⟩⟩
    ·intro e he
     simp only [HEC1.out, List.mem_cons, List.not_mem_nil, or_false] at he
     rcases he with rfl | rfl
     ·exact HHI.out
     ·show 0 ≤ Bt.maxHigh ∧ Bt.maxHigh < 4294967296
      unfold Bt.maxHigh; omega
    ·rw [HEC1.out] at hi
     rw [BGc.cell]
     match i with
     | 0 =>
       obtain rfl : _ = p := by simpa using hi
       match j with
       | 0 => exact hu
       | 1 => exact hu
       | 2 => exact hu
       | j + 3 => simp [Bt.Entry.cells] at hu
     | 1 =>
       obtain rfl : _ = p := by simpa using hi
       match j with
       | 0 => exact hu
       | 1 => exact hu
       | 2 => exact hu
       | j + 3 => simp [Bt.Entry.cells] at hu
     | i + 2 => simp at hi)
   have HO2 : Hid (Over b w wd) := hid (by have hbc := HBC.out; exact qV)
   ((obtain ⟨hc8, hf8, hs8⟩ := qR hbd); (try have := qN0 wd wc); (try have := qN0 w2 wc))
   have hNc2 : N < wc.heap.size := by omega
   have hbG : b < G6 := by omega
   have hw1c : w1.heap.size < wc.heap.size := by omega
   have hw1b : b < w1.heap.size := by omega
   have hw2b : b < w2.heap.size := by omega
   have hbwc2 : b < wc.heap.size := by omega
   have hw1d : w1.heap.size < wd.heap.size := by omega
   clear B6
   have HBS := hid (And.intro HBC.out hbd)
   go_wp2_with fail
   refine qB (b) fun hSt => ?_
   refine qS [0, 1, 2, 3, 6, 7, 8] ?_
   iterate 7 (refine qT ?_; simp only [Act.put, qY])
   refine TakeSeq.done ?_
   refine wpAnyH_ready (rs := [4, 9]) (by kernel_rfl) (by simp) ?_
   refine AllReadyH.cons rfl (fun K hK => ?_) (AllReadyH.cons rfl (fun K hK => ?_) (AllReadyH.nil))
   ·skip
    rw [if_pos (by rfl)]
    go_simp
    go_at_call 64; refine (fill_any (raiseNode s n) (.slice (some ⟨G, 0, none⟩) 2 2) q HQO.out HNO.out _ ?hpf).mono ?_; (case hpf => exact HER.out.below qL); rintro e5 w5 ⟨rfl, hb5⟩; rw [HFC.out]; ((obtain ⟨hc6, hf6, hs6⟩ := qR hb5); (try have := qN0 wc w5); (try have := qN1 wc w5); (try have := qN0 w2 w5))
    go_wp2_with fail
    refine hK.out _ _ (SteadyBut.of qL) (fun hHeld => ?_)
    clear hK K
    refine wpAnyH_ready (rs := [5, 9]) (by kernel_rfl) (by simp) ?_
    refine AllReadyH.cons rfl (fun K hK => ?_) (AllReadyH.cons rfl (fun K hK => ?_) (AllReadyH.nil))
    ·skip
     rw [if_pos (by rfl)]
     go_simp
     refine hK.out _ _ (SteadyBut.of qL) (fun hHeld => ?_)
     clear hK K
     refine qH 9 fun K hK => ?_
     go_simp
     refine hK.out _ _ (SteadyBut.of qL) (fun hHeld => ?_)
     clear hK K
     have hbc := HBC.out
     refine qH 10 fun K hK => ?_
     go_simp
     go_at_call 94; refine (done_some (fun c => A c ∨ c = w5.heap.size) op known vf vk s b (w5.heap.size + 1) 1 1 [Bt.writeRoot s.rootPage (Bt.at_ q) (n.level + 1), (raiseNode s n).fill q] [page.line] (w5.heap.size) 2 2 _ ?hrun ?hw (.inr rfl) ?hq rfl (by omega) ?hg).mono ?_; (case hrun => exact (HR2.out.imp (fun c hc => .inl hc)).below qL); (case hw => exact own_below (own_pages2 w5 (b + 1) _ _ (by omega)) (below_alloc (Below.refl _ _) _)); (case hq => exact own_line1' (by simp) (by omega)); (case hg => exact fun h1 => h1.elim (fun h2 => by have := hA _ h2; omega) (fun h2 => by omega)); rintro e7 w7 ⟨rfl, hrun7, ho7⟩; have HR7 := hid hrun7; have HO7 := hid ho7; clear hrun7 ho7
     go_wp2_with fail
     refine hK.out _ _ (SteadyBut.over (Over.two qV HO7.out (by omega))) (fun hHeld => ?_)
     clear hK K
     have hO2 := HO2.out
     refine qD ?_ _
     go_wp2_with fail
     have ho7 : Over b w w7 := Over.two qV HO7.out (by omega)
     refine bodyPost_end (results_none rfl _ _ _) rfl ⟨rfl, ?_, ho7⟩
     rw [HX.out]
     refine HR7.out.imp (fun c hc => ?_)
     rcases hc with (h1 | h1) | h1
     ·exact .inl h1
     ·exact .inr (by omega)
     ·exact .inr (by omega)
    ·skip
     rw [if_pos (by rfl)]
     go_simp
     refine hK.out _ _ (SteadyBut.of qL) (fun hHeld => ?_)
     clear hK K
     refine qH 5 fun K hK => ?_
     go_simp
     refine hK.out _ _ (SteadyBut.of qL) (fun hHeld => ?_)
     clear hK K
     have hbc := HBC.out
     refine qH 10 fun K hK => ?_
     go_simp
     go_at_call 94; refine (done_some (fun c => A c ∨ c = w5.heap.size + 1) op known vf vk s b (w5.heap.size) 1 1 [Bt.writeRoot s.rootPage (Bt.at_ q) (n.level + 1), (raiseNode s n).fill q] [page.line] (w5.heap.size + 1) 2 2 _ ?hrun ?hw (.inr rfl) ?hq rfl (by omega) ?hg).mono ?_; (case hrun => exact (HR2.out.imp (fun c hc => .inl hc)).below qL); (case hw => exact own_pages2' (by simp) (by omega)); (case hq => exact own_below (own_line1 _ _ _ (by omega)) (below_alloc (Below.refl _ _) _)); (case hg => exact fun h1 => h1.elim (fun h2 => by have := hA _ h2; omega) (fun h2 => by omega)); rintro e7 w7 ⟨rfl, hrun7, ho7⟩; have HR7 := hid hrun7; have HO7 := hid ho7; clear hrun7 ho7
     go_wp2_with fail
     refine hK.out _ _ (SteadyBut.over (Over.two qV HO7.out (by omega))) (fun hHeld => ?_)
     clear hK K
     have hO2 := HO2.out
     refine qD ?_ _
     go_wp2_with fail
     have ho7 : Over b w w7 := Over.two qV HO7.out (by omega)
     refine bodyPost_end (results_none rfl _ _ _) rfl ⟨rfl, ?_, ho7⟩
     rw [HX.out]
     refine HR7.out.imp (fun c hc => ?_)
     rcases hc with (h1 | h1) | h1
     ·exact .inl h1
     ·exact .inr (by omega)
     ·exact .inr (by omega)
   ·skip
    rw [if_pos (by rfl)]
    go_simp
    refine hK.out _ _ (SteadyBut.of qL) (fun hHeld => ?_)
    clear hK K
    refine qH 4 fun K hK => ?_
    go_simp
    go_at_call 64; refine (fill_any (raiseNode s n) (.slice (some ⟨G, 0, none⟩) 2 2) q HQO.out HNO.out _ ?hpf).mono ?_; (case hpf => exact HER.out.below qL); rintro e5 w5 ⟨rfl, hb5⟩; rw [HFC.out]; ((obtain ⟨hc6, hf6, hs6⟩ := qR hb5); (try have := qN0 wc w5); (try have := qN1 wc w5); (try have := qN0 w2 w5))
    go_wp2_with fail
    refine hK.out _ _ (SteadyBut.of qL) (fun hHeld => ?_)
    clear hK K
    refine qH 5 fun K hK => ?_
    go_simp
    refine hK.out _ _ (SteadyBut.of qL) (fun hHeld => ?_)
    clear hK K
    have hbc := HBC.out
    refine qH 10 fun K hK => ?_
    go_simp
    go_at_call 94; refine (done_some (fun c => A c ∨ c = w5.heap.size) op known vf vk s b (wc.heap.size) 1 1 [Bt.writeRoot s.rootPage (Bt.at_ q) (n.level + 1), (raiseNode s n).fill q] [page.line] (w5.heap.size) 2 2 _ ?hrun ?hw (.inr rfl) ?hq rfl (by omega) ?hg).mono ?_; (case hrun => exact (HR2.out.imp (fun c hc => .inl hc)).below qL); (case hw => exact own_pages2 _ _ _ _ (by omega)); (case hq => exact own_below (own_line1 _ _ _ (by omega)) qL); (case hg => exact fun h1 => h1.elim (fun h2 => by have := hA _ h2; omega) (fun h2 => by omega)); rintro e7 w7 ⟨rfl, hrun7, ho7⟩; have HR7 := hid hrun7; have HO7 := hid ho7; clear hrun7 ho7
    go_wp2_with fail
    refine hK.out _ _ (SteadyBut.over (Over.two qV HO7.out (by omega))) (fun hHeld => ?_)
    clear hK K
    have hO2 := HO2.out
    refine qD ?_ _
    go_wp2_with fail
    have ho7 : Over b w w7 := Over.two qV HO7.out (by omega)
    refine bodyPost_end (results_none rfl _ _ _) rfl ⟨rfl, ?_, ho7⟩
    rw [HX.out]
    refine HR7.out.imp (fun c hc => ?_)
    rcases hc with (h1 | h1) | h1
    ·exact .inl h1
    ·exact .inr (by omega)
    ·exact .inr (by omega)
end Go.Proofs.YtjmpekanlmepmaaGreatDoor
