/- Package bodegalaw24: an index, one operation with all pages known: it needs a fresh page. (The loop's text is run_plain's.) -/
import Derived.Test.YtjmpekanlmepmaaGreatDoorNN27
set_option linter.all false
set_option maxRecDepth 20000
set_option maxHeartbeats 8000000
open Go.Lib (hid)
namespace Go.Proofs.YtjmpekanlmepmaaGreatDoor
open Go.RowKit
def RunCutL (o : Bt.Out) (op : Bt.Op) (w : World) (s6 s7 s8 s9 : Value) (wx : World) : Prop :=
 ∃ (vw ve vc : Value) (O : Nat), s6 = .slice none 0 0 ∧ vw = s7 ∧ s8 = .pointer (some ⟨O, 0, none⟩) ∧ s9 = .bool true ∧ w.heap.size + 1 < O ∧ Blk wx O 63 (outCells o ve vc) ∧
  wx.ownsRow w.heap.size 25 9 vw 0 (pageCells []) ∧ wx.ownsRow w.heap.size 69 3 ve o.entries.length (entCells o.entries) ∧ wx.ownsRow w.heap.size 3 1 vc o.check.length (intCells o.check) ∧ Blk wx (w.heap.size + 1) 63 #[.int .i64 0, .bool false, .bool false, .bool false, .bool false, .bool false, .bool false, .int .i64 0, .int .i64 0, .slice none 0 0, .slice none 0 0, .int .i64 0, .int .i64 0, .int .i64 0] ∧ Blk wx w.heap.size 67 #[.int .i64 op.kind, .int .u32 op.key, .int .u32 op.last, .int .i64 op.to.line, .int .i64 op.to.gen, .int .i64 op.level, .int .i64 op.limit, .slice none 0 0] ∧ Below w.heap.size w wx
def RunFresh (op : Bt.Op) (f : Bt.Page) (w wd wx : World) : Prop :=
 ∃ F c, Blk wx w.heap.size 67 #[.int .i64 op.kind, .int .u32 op.key, .int .u32 op.last, .int .i64 op.to.line, .int .i64 op.to.gen, .int .i64 op.level, .int .i64 op.limit, .slice (some ⟨F, 0, none⟩) 1 c] ∧ wx.ownsRow wd.heap.size 25 9 (.slice (some ⟨F, 0, none⟩) 1 c) 1 (pageCells [f]) ∧ Over w.heap.size wd wx
theorem PgRow.of_own {w : World} {base F c : Nat} {l : List Bt.Page} (h : w.ownsRow base 25 9 (.slice (some ⟨F, 0, none⟩) l.length c) l.length (pageCells l)) (hok : ∀ p ∈ l, p.Ok) (hl : l.length ≤ maxLen) : PgRow w (.slice (some ⟨F, 0, none⟩) l.length c) l :=
 ⟨hok, hl, .inr ⟨F, c, rfl, (own_lt h).2, fun i p hi j u hu => own_cells h _ _ (pageCells_get l i p hi j u hu)⟩⟩
theorem OverTwo.own {x P : Nat} {w w1 : World} (h : OverTwo x P w w1) {p : Addr} (hp : w.heap.size ≤ p.block) (v : Value) : OverTwo x P w (w1.setCell p v) :=
 ⟨h.os, h.tape, h.output, by simpa [World.setCell] using h.size, fun k hk h1 h2 => (heap_setCell_other w1 p k v (by omega)).trans (h.block k hk h1 h2)⟩
theorem OverTwo.put14 {x P g : Nat} {w w1 : World} (h : OverTwo x P w w1) (hg : w.heap.size ≤ g) (v0 v1 v2 v3 v4 v5 v6 v7 v8 v9 v10 v11 v12 v13 : Value) : OverTwo x P w ((((((((((((((w1.setCell ⟨g, 0, none⟩ v0).setCell ⟨g, 1, none⟩ v1).setCell ⟨g, 2, none⟩ v2).setCell ⟨g, 3, none⟩ v3).setCell ⟨g, 4, none⟩ v4).setCell ⟨g, 5, none⟩ v5).setCell ⟨g, 6, none⟩ v6).setCell ⟨g, 7, none⟩ v7).setCell ⟨g, 8, none⟩ v8).setCell ⟨g, 9, none⟩ v9).setCell ⟨g, 10, none⟩ v10).setCell ⟨g, 11, none⟩ v11).setCell ⟨g, 12, none⟩ v12).setCell ⟨g, 13, none⟩ v13) := (OverTwo.own (OverTwo.own (OverTwo.own (OverTwo.own (OverTwo.own (OverTwo.own (OverTwo.own (OverTwo.own (OverTwo.own (OverTwo.own (OverTwo.own (OverTwo.own (OverTwo.own (OverTwo.own h (p := ⟨g, 0, none⟩) hg v0) (p := ⟨g, 1, none⟩) hg v1) (p := ⟨g, 2, none⟩) hg v2) (p := ⟨g, 3, none⟩) hg v3) (p := ⟨g, 4, none⟩) hg v4) (p := ⟨g, 5, none⟩) hg v5) (p := ⟨g, 6, none⟩) hg v6) (p := ⟨g, 7, none⟩) hg v7) (p := ⟨g, 8, none⟩) hg v8) (p := ⟨g, 9, none⟩) hg v9) (p := ⟨g, 10, none⟩) hg v10) (p := ⟨g, 11, none⟩) hg v11) (p := ⟨g, 12, none⟩) hg v12) (p := ⟨g, 13, none⟩) hg v13)
theorem OverTwo.then_right {x P : Nat} {w w1 w2 : World} (h1 : OverTwo x P w w1) (h2 : Over P w1 w2) : OverTwo x P w w2 :=
 ⟨h2.os.trans h1.os, h2.tape.trans h1.tape, h2.output.trans h1.output, Nat.le_trans h1.size h2.size, fun j hj hx hP => (h2.block j (Nat.lt_of_lt_of_le hj h1.size) (by simpa using hP)).trans (h1.block j hj hx hP)⟩
theorem PagesAt.same {P cap : Nat} {pages : List Bt.Page} {w w' : World} (h : PagesAt P cap pages w) (hb : w'.heap[P]? = w.heap[P]?) (hs : w.heap.size ≤ w'.heap.size) : PagesAt P cap pages w' := by
 exact sG25
theorem NoneAt.grown {w w' : World} {g : Nat} (h : NoneAt w) (hg : Over g w w') (hne : 0 < g) : NoneAt w' := h.over hg hne
theorem Over.putp14 {b : Nat} {w w1 : World} (h : Over b w w1) (v0 v1 v2 v3 v4 v5 v6 v7 v8 v9 v10 v11 v12 v13 : Value) : Over b w ((((((((((((((w1.setCell ⟨b, 0, none⟩ v0).setCell ⟨b, 1, none⟩ v1).setCell ⟨b, 2, none⟩ v2).setCell ⟨b, 3, none⟩ v3).setCell ⟨b, 4, none⟩ v4).setCell ⟨b, 5, none⟩ v5).setCell ⟨b, 6, none⟩ v6).setCell ⟨b, 7, none⟩ v7).setCell ⟨b, 8, none⟩ v8).setCell ⟨b, 9, none⟩ v9).setCell ⟨b, 10, none⟩ v10).setCell ⟨b, 11, none⟩ v11).setCell ⟨b, 12, none⟩ v12).setCell ⟨b, 13, none⟩ v13) := (Over.put (Over.put (Over.put (Over.put (Over.put (Over.put (Over.put (Over.put (Over.put (Over.put (Over.put (Over.put (Over.put (Over.put h 0 v0) 1 v1) 2 v2) 3 v3) 4 v4) 5 v5) 6 v6) 7 v7) 8 v8) 9 v9) 10 v10) 11 v11) 12 v12) 13 v13)
def RunCutS (O B : Nat) (writes : List Bt.Page) (o : Bt.Out) (W : World) (s6 s7 s9 : Value) (wx : World) : Prop :=
 ∃ vw ve vc, s6 = .slice none 0 0 ∧ vw = s7 ∧ s9 = .bool true ∧ Blk wx O 63 (outCells o ve vc) ∧ wx.ownsRow B 25 9 vw writes.length (pageCells writes) ∧ wx.ownsRow B 69 3 ve o.entries.length (entCells o.entries) ∧ wx.ownsRow B 3 1 vc o.check.length (intCells o.check) ∧ Over O W wx
theorem run_limit (x P cap : Nat) (pages : List Bt.Page) (next : Int) (vk vt vg : Value) (op : Bt.Op) (ws : List Bt.Page) (o : Bt.Out) (w : World) (hx : Blk w x 58 (ixCells P pages.length cap next vk vt vg)) (hP : PagesAt P cap pages w) (hn : NoneAt w)
 (hPx : P < x) (hgP : 0 < P) (hgx : 0 < x) (ho : o.code = 0) (hfit : WritesFit pages ws) (hsm : pages.length ≤ 1000000) (hws : ws.length ≤ 2)
 (o1 : Bt.Out) (ho1c : o1.code = 18) (ho1f : o1.fresh = 1) (r : Nat) (f : Bt.Page) (hnx : next = 96 + r) (hnx2 : next < 256) (hfr : pages[r]? = some f)
 (HN1 : Hid (∀ w', PgRow w' (.slice (some ⟨P, 0, none⟩) pages.length cap) pages → NoneAt w' → Calls Tryz.prog 27 #[.agg (opCells op (.slice none 0 0)), .slice (some ⟨P, 0, none⟩) pages.length cap] w' (NextPost [] o1 w')))
 (HN : Hid (∀ w' F c, PgRow w' (.slice (some ⟨F, 0, none⟩) 1 c) [f] → PgRow w' (.slice (some ⟨P, 0, none⟩) pages.length cap) pages → NoneAt w' → Calls Tryz.prog 27 #[.agg (opCells op (.slice (some ⟨F, 0, none⟩) 1 c)), .slice (some ⟨P, 0, none⟩) pages.length cap] w' (NextPost ws o w'))) :
 Calls Tryz.prog 31 #[.pointer (some ⟨x, 0, none⟩), .agg (opCells op (.slice none 0 0))] w (IxPost x P cap (applyWrites pages ws) (next + 1) vk vt vg o w) := by
 obtain ⟨i0, hi, hz0, hz1, hz2⟩ := info_parts infoPage
 have HX := hid hx
 have HPA := hid hP
 have HNO := hid hn
 have HFIT := hid hfit
 have hxlt := hx.lt
 have hPlt := hP.lt
 have kx : ∀ i, w.cell? ⟨x, i, none⟩ = (#[.slice (some ⟨P, 0, none⟩) pages.length cap, .int .i64 next, vk, vt, vg] : Array Value)[i]? := hx.cell
 have b0 : (o.code == 0) = true := by simp [ho]
 have b18 : (o1.code == 18) = true := by simp [ho1c]
 have bf1 : decide ((0 : Int) < o1.fresh) = true := by simp [ho1f]
 have bf2 : decide ((1 : Int) < o1.fresh) = false := by simp [ho1f]
 have bn0 : (o.code != 0) = false := by simp [ho]
 have x1 : x < w.heap.size + 1 := by omega
 have x2 : x < w.heap.size + 1 + 1 := by omega
 clear hx hP hn hfit ho ho1c ho1f
 unfold opCells at HN HN1 ⊢
 go_enter Tryz.func31, Tryz.ntmps31
 go_wp2_with fail
 go_cut [6, 7, 8, 9] (RunCutL o1 op w)
 case first =>
  refine qA fun hSt => ?_
  refine qS [0, 1, 2, 3, 4] ?_
  iterate 5 (refine qT ?_; simp only [Act.put, qY])
  refine TakeSeq.done ?_
  refine wpAnyH_ready (rs := [5, 11]) (by kernel_rfl) (by simp) ?_
  refine AllReadyH.cons rfl (fun K hK => ?_) (AllReadyH.cons rfl (fun K hK => ?_) (AllReadyH.nil))
  ·skip
   rw [if_pos (by rfl)]
   go_simp
   go_at_call 27; refine (HN1.out _ ?hpg ?hng).mono ?_; (case hpg => exact HPA.out.row.below qL); (case hng => exact HNO.out.below qL); rintro e1 w1 ⟨vw, ve, vc, rfl, how, hoe, hoc, hb1⟩; simp only [outCells]; ((obtain ⟨hc1, hf1, hs1⟩ := qR hb1); (try have := qN0 w w1); (try have := qN1 w w1)); have HOW := hid how; have HOE := hid hoe; have HOC := hid hoc; have hse := qSt hoe; have hsc := qSt hoc; clear how hoe hoc
   go_wp2_with fail
   refine hK.out _ _ (SteadyAll.of qL) (fun hHeld => ?_)
   clear hK K
   refine qS [6, 7, 8, 9, 10] ?_
   iterate 5 (refine qT ?_; simp only [Act.put, qY])
   refine TakeSeq.done ?_
   refine qH 11 fun K hK => ?_
   go_simp
   refine hK.out _ _ (SteadyAll.of qL) (fun hHeld => ?_)
   clear hK K
   refine qS [12, 13] ?_
   iterate 2 (refine qT ?_; simp only [Act.put, qY])
   refine TakeSeq.done ?_
   refine qH 14 fun K hK => ?_
   go_simp
   refine hK.out _ _ (SteadyAll.of qL) (fun hHeld => ?_)
   clear hK K
   refine qS [15] ?_
   refine qT ?_; simp only [Act.put, qY]
   refine TakeSeq.done ?_
   refine qD ?_ _
   go_wp2_with fail
   have BB0 := Blk.kept (b := w.heap.size) (t := 67) (cs := #[.int .i64 op.kind, .int .u32 op.key, .int .u32 op.last, .int .i64 op.to.line, .int .i64 op.to.gen, .int .i64 op.level, .int .i64 op.limit, .slice none 0 0]) (Blk.drew (made12 w)) hb1
   have BR0 := Blk.kept (b := w.heap.size + 1) (t := 63) (cs := #[.int .i64 0, .bool false, .bool false, .bool false, .bool false, .bool false, .bool false, .int .i64 0, .int .i64 0, .slice none 0 0, .slice none 0 0, .int .i64 0, .int .i64 0, .int .i64 0]) (Blk.drew (made22 w)) hb1
   go_meet
   exact ⟨vw, ve, vc, _, rfl, rfl, rfl, rfl, by omega, by repeat (first | with_reducible refine Blk.drew ?_ | exact Blk.made _ _ _), own_base (own_below HOW.out qL) (by simp; omega), own_base (own_below HOE.out qL) (by simp; omega), own_base (own_below HOC.out qL) (by simp; omega), by (have B := BR0; exact qK), by (have B := BB0; exact qK), qL⟩
  ·skip
   rw [if_pos (by rfl)]
   go_simp
   refine hK.out _ _ (SteadyAll.of qL) (fun hHeld => ?_)
   clear hK K
   refine qH 5 fun K hK => ?_
   go_simp
   go_at_call 27; refine (HN1.out _ ?hpg ?hng).mono ?_; (case hpg => exact HPA.out.row.below qL); (case hng => exact HNO.out.below qL); rintro e1 w1 ⟨vw, ve, vc, rfl, how, hoe, hoc, hb1⟩; simp only [outCells]; ((obtain ⟨hc1, hf1, hs1⟩ := qR hb1); (try have := qN0 w w1); (try have := qN1 w w1); (try have := qN2 w w1)); have HOW := hid how; have HOE := hid hoe; have HOC := hid hoc; have hse := qSt hoe; have hsc := qSt hoc; clear how hoe hoc
   go_wp2_with fail
   refine hK.out _ _ (SteadyAll.of qL) (fun hHeld => ?_)
   clear hK K
   refine qS [6, 7, 8, 9, 10, 12, 13] ?_
   iterate 7 (refine qT ?_; simp only [Act.put, qY])
   refine TakeSeq.done ?_
   refine qH 14 fun K hK => ?_
   go_simp
   refine hK.out _ _ (SteadyAll.of qL) (fun hHeld => ?_)
   clear hK K
   refine qS [15] ?_
   refine qT ?_; simp only [Act.put, qY]
   refine TakeSeq.done ?_
   refine qD ?_ _
   go_wp2_with fail
   have BG0 := Blk.kept (b := w.heap.size + 1 + 1) (t := 63) (cs := #[.int .i64 0, .bool false, .bool false, .bool false, .bool false, .bool false, .bool false, .int .i64 0, .int .i64 0, .slice none 0 0, .slice none 0 0, .int .i64 0, .int .i64 0, .int .i64 0]) (Blk.drew (made33 w)) hb1
   have BB0 := Blk.kept (b := w.heap.size) (t := 67) (cs := #[.int .i64 op.kind, .int .u32 op.key, .int .u32 op.last, .int .i64 op.to.line, .int .i64 op.to.gen, .int .i64 op.level, .int .i64 op.limit, .slice none 0 0]) (Blk.drew (made13 w)) hb1
   have BR0 := Blk.kept (b := w.heap.size + 1) (t := 63) (cs := #[.int .i64 0, .bool false, .bool false, .bool false, .bool false, .bool false, .bool false, .int .i64 0, .int .i64 0, .slice none 0 0, .slice none 0 0, .int .i64 0, .int .i64 0, .int .i64 0]) (Blk.drew (made23 w)) hb1
   go_meet
   exact ⟨vw, ve, vc, w.heap.size + 1 + 1, rfl, rfl, rfl, rfl, by omega, Blk.cast (by have B := BG0; exact qK) (by rw [set14]; rfl), own_base (own_put14 (base := w.heap.size + 1 + 1 + 1) (own_base HOW.out (by simp)) (by omega) _ _ _ _ _ _ _ _ _ _ _ _ _ _) (by omega), own_base (own_put14 (base := w.heap.size + 1 + 1 + 1) (own_base HOE.out (by simp)) (by omega) _ _ _ _ _ _ _ _ _ _ _ _ _ _) (by omega), own_base (own_put14 (base := w.heap.size + 1 + 1 + 1) (own_base HOC.out (by simp)) (by omega) _ _ _ _ _ _ _ _ _ _ _ _ _ _) (by omega), by (have B := BR0; exact qK), by (have B := BB0; exact qK), qL⟩
 case rest =>
  rename World => wd
  obtain ⟨vw, ve, vc, O, rfl, rfl, rfl, rfl, hO, BO, how, hoe, hoc, BR, BB, hbc⟩ := hcut
  have gO : ∀ i, wd.cell? ⟨O, i, none⟩ = (outCells o1 ve vc)[i]? := BO.cell
  unfold outCells at gO
  have hOl : O < wd.heap.size := BO.lt
  have gx : ∀ i, wd.cell? ⟨x, i, none⟩ = (#[.slice (some ⟨P, 0, none⟩) pages.length cap, .int .i64 next, vk, vt, vg] : Array Value)[i]? := (HX.out.kept hbc).cell
  have hfx := (HX.out.kept hbc).free
  have hxl : x < wd.heap.size := (HX.out.kept hbc).lt
  have hPg : PagesAt P cap pages wd := ⟨HPA.out.row.below hbc, fun i => by rw [hbc.frozen (p := ⟨P, i, none⟩) hPlt]; exact HPA.out.free i, Nat.lt_of_lt_of_le hPlt hbc.size, by obtain ⟨cs, hc⟩ := HPA.out.blk; exact ⟨cs, hc.kept hbc⟩⟩
  have hrl : r < pages.length := (List.getElem?_eq_some_iff.1 hfr).1
  obtain ⟨e0, e1, e2, e3, e4, e5, e6, e7, e8⟩ := nine (hPg.row_at hrl)
  have hrf : pages[r] = f := by rw [List.getElem?_eq_getElem hrl] at hfr; exact Option.some.inj hfr
  have HFOK := hid (show f.Ok from hPg.row.ok f (by rw [← hrf]; exact List.getElem_mem hrl))
  rw [hrf] at e0 e1 e2 e3 e4 e5 e6 e7 e8
  have hPl : P < wd.heap.size := hPg.lt
  have hPw : P < w.heap.size := hPlt
  have wl1 : wrap64 (next - 96) = r := by unfold wrap64; omega
  have wl2 : IntKind.i64.wrap (next - 96) = r := by rw [IntKind.wrap_i64]; omega
  have br0 : (0 : Int) ≤ r := by omega
  have br1 : (r : Int) < pages.length := by omega
  have bnx : decide (next < 256) = true := by simp; omega
  have wn1 : wrap64 (next + 1) = next + 1 := by unfold wrap64; omega
  have gB : ∀ i, wd.cell? ⟨w.heap.size, i, none⟩ = (#[.int .i64 op.kind, .int .u32 op.key, .int .u32 op.last, .int .i64 op.to.line, .int .i64 op.to.gen, .int .i64 op.level, .int .i64 op.limit, .slice none 0 0] : Array Value)[i]? := BB.cell
  have hfB := BB.free
  have hBl : w.heap.size < wd.heap.size := BB.lt
  have HBB := hid BB
  have HBO := hid BO
  have HBR := hid BR
  have HBC := hid hbc
  have HPG := hid hPg
  clear BB BO BR hbc how hoe hoc hPg hfr hrf hnx
  go_wp2_with fail
  refine wp_loop_rounds 2 ?_
  rw [rounds_succ]
  go_wp2_with fail
  go_cut [] (fun wx => RunFresh op f w wd wx)
  case first =>
   refine qB (w.heap.size) fun hSt => ?_
   refine qS [0, 2, 3, 4, 5, 6, 7, 8, 9, 10, 11, 12] ?_
   iterate 12 (refine qT ?_; simp only [Act.put, qY])
   refine TakeSeq.done ?_
   refine wpAnyH_ready (rs := [1, 13]) (by kernel_rfl) (by simp) ?_
   refine AllReadyH.cons rfl (fun K hK => ?_) (AllReadyH.cons rfl (fun K hK => ?_) (AllReadyH.nil))
   ·skip
    rw [if_pos (by rfl)]
    go_simp
    refine hK.out _ _ (SteadyBut.of qL) (fun hHeld => ?_)
    clear hK K
    refine qH 13 fun K hK => ?_
    go_simp
    refine hK.out _ _ (SteadyBut.of qL) (fun hHeld => ?_)
    clear hK K
    refine qH 14 fun K hK => ?_
    refine wp_append_mine (.tmp 44) (.tmp 56) 54 rfl wd.heap.size 25 i0 _ 9 72 Tryz.underlying54 hi hz0 hz1 hz2 rfl (by decide) (.slice none 0 0) 0 [] rfl (World.ownsRow_nil _ _ _ _) ⟨wd.heap.size, 0, none⟩ 1 1
     #[.int .i64 f.line, .int .u64 f.head, .int .u64 f.d0, .int .u64 f.d1, .int .u64 f.d2, .int .u64 f.d3, .int .u64 f.d4, .int .u64 f.d5, .int .u64 f.d6].toList rfl rfl (nine_news (Blk.drew (Blk.made _ _ _))) (by intro u hu; simp at hu; rcases hu with rfl | rfl | rfl | rfl | rfl | rfl | rfl | rfl | rfl <;> rfl) (by omega) (by unfold maxLen; omega) (by omega) (by simp) ?_
    intro g3 cap3 w3 hown3 hg3
    have hb3 : Below wd.heap.size wd w3 := below_grown qL hg3 (fun j hj => by cases hj)
    have HB3 := hid hb3
    have B3 := HBB.out.kept hb3
    have HBB3 := hid B3
    have HW3 := hid hown3
    have j7 : w3.cell? ⟨w.heap.size, 7, none⟩ = some (.slice none 0 0) := B3.cell 7
    have f7 := B3.free
    clear B3 hown3 hg3
    refine hK.out _ _ (SteadyBut.of (Below.mono hb3 (Nat.le_refl _))) (fun hHeld => ?_)
    clear hK K
    simp only [Act.put, qY]
    refine qS [15] ?_
    refine qT ?_; simp only [Act.put, qY]
    refine TakeSeq.done ?_
    refine qH 16 fun K hK => ?_
    go_simp
    refine hK.out _ _ (SteadyBut.set (SteadyBut.of hb3) _ _) (fun hHeld => ?_)
    clear hK K
    refine qD ?_ _
    go_wp2_with fail
    go_meet
    exact ⟨g3, cap3, (HBB3.out.put 7 _).cast rfl, own_aside (base := wd.heap.size) HW3.out (by show w.heap.size < wd.heap.size; omega) _, Over.put (Over.of_below HB3.out) 7 _⟩
   ·skip
    rw [if_pos (by rfl)]
    go_simp
    refine hK.out _ _ (SteadyBut.of qL) (fun hHeld => ?_)
    clear hK K
    refine qH 1 fun K hK => ?_
    go_simp
    refine hK.out _ _ (SteadyBut.of qL) (fun hHeld => ?_)
    clear hK K
    refine qH 14 fun K hK => ?_
    refine wp_append_mine (.tmp 44) (.tmp 56) 54 rfl wd.heap.size 25 i0 _ 9 72 Tryz.underlying54 hi hz0 hz1 hz2 rfl (by decide) (.slice none 0 0) 0 [] rfl (World.ownsRow_nil _ _ _ _) ⟨wd.heap.size, 0, none⟩ 1 1
     #[.int .i64 f.line, .int .u64 f.head, .int .u64 f.d0, .int .u64 f.d1, .int .u64 f.d2, .int .u64 f.d3, .int .u64 f.d4, .int .u64 f.d5, .int .u64 f.d6].toList rfl rfl (nine_news (Blk.drew (Blk.made _ _ _))) (by intro u hu; simp at hu; rcases hu with rfl | rfl | rfl | rfl | rfl | rfl | rfl | rfl | rfl <;> rfl) (by omega) (by unfold maxLen; omega) (by omega) (by simp) ?_
    intro g3 cap3 w3 hown3 hg3
    have hb3 : Below wd.heap.size wd w3 := below_grown qL hg3 (fun j hj => by cases hj)
    have HB3 := hid hb3
    have B3 := HBB.out.kept hb3
    have HBB3 := hid B3
    have HW3 := hid hown3
    have j7 : w3.cell? ⟨w.heap.size, 7, none⟩ = some (.slice none 0 0) := B3.cell 7
    have f7 := B3.free
    clear B3 hown3 hg3
    refine hK.out _ _ (SteadyBut.of (Below.mono hb3 (Nat.le_refl _))) (fun hHeld => ?_)
    clear hK K
    simp only [Act.put, qY]
    refine qS [15] ?_
    refine qT ?_; simp only [Act.put, qY]
    refine TakeSeq.done ?_
    refine qH 16 fun K hK => ?_
    go_simp
    refine hK.out _ _ (SteadyBut.set (SteadyBut.of hb3) _ _) (fun hHeld => ?_)
    clear hK K
    refine qD ?_ _
    go_wp2_with fail
    go_meet
    exact ⟨g3, cap3, (HBB3.out.put 7 _).cast rfl, own_aside (base := wd.heap.size) HW3.out (by show w.heap.size < wd.heap.size; omega) _, Over.put (Over.of_below HB3.out) 7 _⟩
  case rest =>
   obtain ⟨F, c, BF, hof, hov⟩ := hcut
   have BXc := (HX.out.kept HBC.out).grown hov (by simp; omega)
   have BOc := HBO.out.grown hov (by simp; omega)
   have BRc := HBR.out.grown hov (by simp)
   have PGc : PagesAt P cap pages wc := HPG.out.same (hov.block P hPl (by simp; omega)) hov.size
   have NOc : NoneAt wc := (HNO.out.below HBC.out).grown hov (by omega)
   have hOw : O < wc.heap.size := BOc.lt
   have gxc : ∀ i, wc.cell? ⟨x, i, none⟩ = (#[.slice (some ⟨P, 0, none⟩) pages.length cap, .int .i64 next, vk, vt, vg] : Array Value)[i]? := BXc.cell
   have hfxc := BXc.free
   have gOc : ∀ i, wc.cell? ⟨O, i, none⟩ = (outCells o1 ve vc)[i]? := BOc.cell
   unfold outCells at gOc
   have hxlc : x < wc.heap.size := BXc.lt
   have OVc : Over x w wc := Over.grow_new (Over.of_below HBC.out) hov (Nat.le_refl _)
   have HBXq := hid (Blk.cast (BXc.put 1 (.int .i64 (next + 1))) (show _ = #[.slice (some ⟨P, 0, none⟩) pages.length cap, .int .i64 (next + 1), vk, vt, vg] from rfl))
   have HBFq := hid (BF.aside (p := ⟨x, 1, none⟩) (by show w.heap.size ≠ x; omega) (.int .i64 (next + 1)))
   have HBOq := hid (BOc.aside (p := ⟨x, 1, none⟩) (by show O ≠ x; omega) (.int .i64 (next + 1)))
   have HBRq := hid (BRc.aside (p := ⟨x, 1, none⟩) (by show w.heap.size + 1 ≠ x; omega) (.int .i64 (next + 1)))
   have HOFq := hid (own_aside (p := ⟨x, 1, none⟩) hof (by show x < wd.heap.size; omega) (.int .i64 (next + 1)))
   have HPGq := hid (PGc.aside (q := ⟨x, 1, none⟩) (by show P ≠ x; omega) (.int .i64 (next + 1)))
   have HNOq := hid (NOc.aside (q := ⟨x, 1, none⟩) (by show _ < x; omega) (.int .i64 (next + 1)))
   have HOVq := hid (OVc.put 1 (.int .i64 (next + 1)))
   clear BXc BOc BRc PGc NOc BF hof hov OVc gx gO gB hfB e0 e1 e2 e3 e4 e5 e6 e7 e8 kx hfx
   go_wp2_with fail
   rw [rounds_succ]
   go_wp2_with fail
   generalize hwq : World.setCell wc ⟨x, 1, none⟩ (.int .i64 (next + 1)) = wq at *
   clear hwq gxc hfxc gOc hxlc hOw
   have kB := HBFq.out.cell
   have kX := HBXq.out.cell
   have kO := HBOq.out.cell
   have fO := HBOq.out.free
   have lB := HBFq.out.lt
   have lX := HBXq.out.lt
   have lO := HBOq.out.lt
   unfold outCells at kO
   have hO1 : w.heap.size < O := by omega
   have hO2 : x < O := by omega
   go_cut [6, 7, 9] (RunCutS O (w.heap.size + 1 + 1) ws o wq)
   case first =>
    refine qB (O) fun hSt => ?_
    refine qS [0, 1, 2, 3, 4] ?_
    iterate 5 (refine qT ?_; simp only [Act.put, qY])
    refine TakeSeq.done ?_
    refine qH 5 fun K hK => ?_
    go_simp
    go_at_call 27; refine (HN.out _ F c ?hpf ?hpg ?hng).mono ?_; (case hpf => exact (PgRow.of_own (l := [f]) HOFq.out (by intro p hp; simp at hp; subst hp; exact HFOK.out) (by unfold maxLen; simp)).below qL); (case hpg => exact HPGq.out.row.below qL); (case hng => exact HNOq.out.below qL); rintro e1 w1 ⟨vw2, ve2, vc2, rfl, how, hoe, hoc, hb1⟩; simp only [outCells]; ((obtain ⟨hc1, hf1, hs1⟩ := qR hb1); (try have := qN0 wq w1)); have HOW := hid how; have HOE := hid hoe; have HOC := hid hoc; have hse := qSt hoe; have hsc := qSt hoc; have lO1 : O < w1.heap.size := (by omega); clear how hoe hoc
    go_wp2_with fail
    refine hK.out _ _ (SteadyBut.of qL) (fun hHeld => ?_)
    clear hK K
    refine qS [6, 7, 8, 9, 10, 11, 12] ?_
    iterate 7 (refine qT ?_; simp only [Act.put, qY])
    refine TakeSeq.done ?_
    refine qH 13 fun K hK => ?_
    go_simp
    refine hK.out _ _ (by repeat (first | with_reducible refine SteadyBut.set ?_ _ _ | with_reducible refine SteadyBut.drew ?_ | exact SteadyBut.of qL)) (fun hHeld => ?_)
    clear hK K
    refine qS [14] ?_
    refine qT ?_; simp only [Act.put, qY]
    refine TakeSeq.done ?_
    refine qD ?_ _
    go_wp2_with fail
    have BO1 := HBOq.out.kept (w' := w1) qL
    go_meet
    exact ⟨vw2, ve2, vc2, rfl, rfl, rfl, Blk.cast (by have B := BO1; exact qK) (by unfold outCells; rw [set14]), own_base (own_put14 HOW.out lO _ _ _ _ _ _ _ _ _ _ _ _ _ _) (by have := HBRq.out.lt; simp; omega), own_base (own_put14 HOE.out lO _ _ _ _ _ _ _ _ _ _ _ _ _ _) (by have := HBRq.out.lt; simp; omega), own_base (own_put14 HOC.out lO _ _ _ _ _ _ _ _ _ _ _ _ _ _) (by have := HBRq.out.lt; simp; omega), Over.putp14 (Over.of_below qL) _ _ _ _ _ _ _ _ _ _ _ _ _ _⟩
   case rest =>
    rename World => wz
    obtain ⟨vw2, ve2, vc2, rfl, rfl, rfl, BO2, how, hoe, hoc, hov2⟩ := hcut
    have hvw : ∃ a c, vw2 = .slice a ws.length c := by
     rcases own_any how with ⟨h0, rfl⟩ | ⟨g, c, rfl⟩
     ·rw [h0]; exact ⟨_, _, rfl⟩
     ·exact ⟨_, _, rfl⟩
    obtain ⟨va, vcap, rfl⟩ := hvw
    have hPz : P < wq.heap.size := HPGq.out.lt
    have HOT : Hid (OverTwo x P w wz) := hid (OverTwo.of_left (Over.grow_new HOVq.out hov2 (by omega)))
    have HS0 : Hid (RunSt x P cap (w.heap.size + 1) O pages (next + 1) vk vt vg ws o (.slice va ws.length vcap) ve2 vc2 wz 0 wz) := hid ⟨HBXq.out.grown hov2 (by simp; omega), HPGq.out.same (hov2.block P hPz (by simp; omega)) hov2.size, how, BO2, HBRq.out.grown hov2 (by simp; omega), HNOq.out.grown hov2 (by omega), Over.refl _ _, hoe, hoc⟩
    have hse := qSt hoe
    have hsc := qSt hoc
    have gO : ∀ i, wz.cell? ⟨O, i, none⟩ = (outCells o ve2 vc2)[i]? := BO2.cell
    unfold outCells at gO
    clear BO2 how hoe hoc hov2 kB kX kO fO
    go_wp2_with fail
    go_loopw [11] (fun i wr => RunLoop x P cap (w.heap.size + 1) O pages (next + 1) vk vt vg ws o (.slice va ws.length vcap) ve2 vc2 wz i wr) (fun i _ => ((ws.length : Int) - intOf i).toNat)
    case atStart => exact ⟨0, Nat.zero_le _, rfl, HS0⟩
    case round =>
     obtain ⟨k, hk, rfl, HA⟩ := hrel
     by_cases hk2 : k < ws.length
     ·skip
      have hfit := HFIT.out.1 k hk2
      obtain ⟨p, hpk⟩ : ∃ p, p = ws[k] := ⟨_, rfl⟩
      rw [← hpk] at hfit
      obtain ⟨a, ha⟩ : ∃ a : Nat, p.line = 96 + a := ⟨(p.line - 96).toNat, by omega⟩
      obtain ⟨hf1, hf2, ⟨q, hq, hqh⟩, hf4⟩ := hfit
      have haq : (p.line - 96).toNat = a := by omega
      rw [haq] at hq
      have halt : a < pages.length := by omega
      have halt2 : a < (applyWrites pages (ws.take k)).length := by rw [applyWrites_length]; exact halt
      have hqe : (applyWrites pages (ws.take k))[a] = q := by rw [List.getElem?_eq_getElem halt2] at hq; exact Option.some.inj hq
      obtain ⟨e0, e1, e2, e3, e4, e5, e6, e7, e8⟩ := nine (HA.out.pg.row_at halt2)
      rw [hqe] at e0 e1 e2 e3 e4 e5 e6 e7 e8
      rw [hqh] at e1
      have hw := HA.out.own
      obtain ⟨g, c, hv⟩ : ∃ g c, (Value.slice va ws.length vcap) = .slice (some ⟨g, 0, none⟩) ws.length c := by
       rcases own_any hw with ⟨h0, _⟩ | ⟨g, c, hv⟩
       ·omega
       ·exact ⟨g, c, hv⟩
      simp only [Value.slice.injEq, true_and] at hv
      obtain ⟨rfl, rfl⟩ := hv
      obtain ⟨c0, c1, c2, c3, c4, c5, c6, c7, c8⟩ := nine (own_page hw hk2)
      rw [← hpk] at c0 c1 c2 c3 c4 c5 c6 c7 c8
      have hml : pages.length ≤ 1000000 := hsm
      have wl1 : wrap64 (p.line - 96) = a := by unfold wrap64; omega
      have wl2 : IntKind.i64.wrap (p.line - 96) = a := by rw [IntKind.wrap_i64]; omega
      have hgw := own_lt hw
      have HD : Hid (∀ m, k = m + 1 → ∃ l : Int, wr.cell? ⟨g, m * 9, none⟩ = some (.int .i64 l) ∧ l < p.line) := hid (fun m hm => by
       have hm1 : m < ws.length := by omega
       obtain ⟨d0, _⟩ := nine (own_page hw hm1)
       refine ⟨_, d0, ?_⟩
       have := HFIT.out.2 m (by omega)
       subst hm
       rw [hpk]
       exact this)
      have hfP := HA.out.pg.free
      have hPl : P < wr.heap.size := HA.out.pg.lt
      have hPg : P < g := by omega
      have hxl : x < wr.heap.size := HA.out.blkx.lt
      have gx : ∀ i, wr.cell? ⟨x, i, none⟩ = (#[.slice (some ⟨P, 0, none⟩) pages.length cap, .int .i64 (next + 1), vk, vt, vg] : Array Value)[i]? := HA.out.blkx.cell
      have hgl : g < wr.heap.size := hgw.2
      have bk : decide ((k : Int) < ws.length) = true := by simp; omega
      have bk0 : (0 : Int) ≤ k := by omega
      have bk1 : (k : Int) < ws.length := by omega
      have ba0 : (0 : Int) ≤ a := by omega
      have ba1 : (a : Int) < pages.length := by omega
      have ba2 : decide ((a : Int) < 0) = false := by simp
      have ba3 : decide ((pages.length : Int) ≤ a) = false := by simp; omega
      have ba5 : decide (pages.length ≤ a) = false := by simp; omega
      have ba4 : (p.head != p.head) = false := by simp
      have wh1 : IntKind.u64.wrap (p.head + 256) = up p.head := by rw [IntKind.wrap_u64]; rfl
      have HP4 := hid hf4
      have HPK := hid hpk
      have HHA := hid ha
      clear hf1 hf2 hq hqh hqe haq hpk hf4 hw gO ha
      rcases Nat.eq_zero_or_pos k with hkz | hkp
      ·subst hkz
       simp only [Nat.zero_mul, Nat.zero_add] at c0 c1 c2 c3 c4 c5 c6 c7 c8
       have bkz : decide ((0 : Int) < ws.length) = true := by simp; omega
       have bkz1 : (0 : Int) < ws.length := by omega
       clear bk bk0 bk1
       go_wp2_with fail
       go_quiet (fail)
       have HZ : RunSt x P cap (w.heap.size + 1) O pages (next + 1) vk vt vg ws o (.slice (some ⟨g, 0, none⟩) ws.length vcap) ve2 vc2 wz 0 (wr.drewN nq) := HA.out.drewN nq
       have e0' := e0
       change (wr.drewN nq).cell? ⟨P, a * 9, none⟩ = _ at e0'
       have e1' := e1
       change (wr.drewN nq).cell? ⟨P, a * 9 + 1, none⟩ = _ at e1'
       have e2' := e2
       change (wr.drewN nq).cell? ⟨P, a * 9 + 2, none⟩ = _ at e2'
       have e3' := e3
       change (wr.drewN nq).cell? ⟨P, a * 9 + 3, none⟩ = _ at e3'
       have e4' := e4
       change (wr.drewN nq).cell? ⟨P, a * 9 + 4, none⟩ = _ at e4'
       have e5' := e5
       change (wr.drewN nq).cell? ⟨P, a * 9 + 5, none⟩ = _ at e5'
       have e6' := e6
       change (wr.drewN nq).cell? ⟨P, a * 9 + 6, none⟩ = _ at e6'
       have e7' := e7
       change (wr.drewN nq).cell? ⟨P, a * 9 + 7, none⟩ = _ at e7'
       have e8' := e8
       change (wr.drewN nq).cell? ⟨P, a * 9 + 8, none⟩ = _ at e8'
       have c0' := c0
       change (wr.drewN nq).cell? ⟨g, 0, none⟩ = _ at c0'
       have c1' := c1
       change (wr.drewN nq).cell? ⟨g, 1, none⟩ = _ at c1'
       have c2' := c2
       change (wr.drewN nq).cell? ⟨g, 2, none⟩ = _ at c2'
       have c3' := c3
       change (wr.drewN nq).cell? ⟨g, 3, none⟩ = _ at c3'
       have c4' := c4
       change (wr.drewN nq).cell? ⟨g, 4, none⟩ = _ at c4'
       have c5' := c5
       change (wr.drewN nq).cell? ⟨g, 5, none⟩ = _ at c5'
       have c6' := c6
       change (wr.drewN nq).cell? ⟨g, 6, none⟩ = _ at c6'
       have c7' := c7
       change (wr.drewN nq).cell? ⟨g, 7, none⟩ = _ at c7'
       have c8' := c8
       change (wr.drewN nq).cell? ⟨g, 8, none⟩ = _ at c8'
       have gx' : ∀ i, (wr.drewN nq).cell? ⟨x, i, none⟩ = (#[.slice (some ⟨P, 0, none⟩) pages.length cap, .int .i64 (next + 1), vk, vt, vg] : Array Value)[i]? := gx
       have hfP' : ∀ i, (wr.drewN nq).frozen? ⟨P, i, none⟩ = false := hfP
       have hxl' : x < (wr.drewN nq).heap.size := hxl
       have hgl' : g < (wr.drewN nq).heap.size := hgl
       have hPl' : P < (wr.drewN nq).heap.size := hPl
       clear e0 e1 e2 e3 e4 e5 e6 e7 e8 c0 c1 c2 c3 c4 c5 c6 c7 c8 gx hfP hxl hgl hPl
       have HZZ := hid HZ
       clear HZ
       generalize wr.drewN nq = wy at *
       go_wp2_with fail
       refine qB (P) fun hSt => ?_
       refine qS [0, 1, 2, 3, 4, 5, 6, 7, 8, 9] ?_
       iterate 10 (refine qT ?_; simp only [Act.put, qY])
       refine TakeSeq.done ?_
       refine qH 10 fun K hK => ?_
       go_simp
       refine hK.out _ _ qF (fun hHeld => ?_)
       clear hK K
       refine qD ?_ _
       go_wp2_with fail
       exact ⟨⟨0 + 1, by omega, rfl, hid (runSt_step HZZ.out hk2 p HPK.out a HHA.out halt HP4.out hPx (by omega) (by omega) hgP)⟩, by simp [intOf]; omega⟩
      ·obtain ⟨m, hm⟩ : ∃ m, k = m + 1 := ⟨k - 1, by omega⟩
       obtain ⟨l, hl1, hl2⟩ := HD.out m hm
       have bkp : decide ((0 : Int) < k) = true := by simp; omega
       have bkp2 : decide (0 < k) = true := by simp; omega
       have wk1 : IntKind.i64.wrap ((k : Int) - 1) = m := by rw [IntKind.wrap_i64]; omega
       have wk2 : wrap64 ((k : Int) - 1) = m := by unfold wrap64; omega
       have bm0 : (0 : Int) ≤ m := by omega
       have bm1 : (m : Int) < ws.length := by omega
       have bll : decide (p.line ≤ l) = false := by simp; omega
       have HM := hid hm
       have HL2 := hid hl2
       clear hm hl2
       go_wp2_with fail
       go_quiet (fail)
       have HZ : RunSt x P cap (w.heap.size + 1) O pages (next + 1) vk vt vg ws o (.slice (some ⟨g, 0, none⟩) ws.length vcap) ve2 vc2 wz k (wr.drewN nq) := HA.out.drewN nq
       have e0' := e0
       change (wr.drewN nq).cell? ⟨P, a * 9, none⟩ = _ at e0'
       have e1' := e1
       change (wr.drewN nq).cell? ⟨P, a * 9 + 1, none⟩ = _ at e1'
       have e2' := e2
       change (wr.drewN nq).cell? ⟨P, a * 9 + 2, none⟩ = _ at e2'
       have e3' := e3
       change (wr.drewN nq).cell? ⟨P, a * 9 + 3, none⟩ = _ at e3'
       have e4' := e4
       change (wr.drewN nq).cell? ⟨P, a * 9 + 4, none⟩ = _ at e4'
       have e5' := e5
       change (wr.drewN nq).cell? ⟨P, a * 9 + 5, none⟩ = _ at e5'
       have e6' := e6
       change (wr.drewN nq).cell? ⟨P, a * 9 + 6, none⟩ = _ at e6'
       have e7' := e7
       change (wr.drewN nq).cell? ⟨P, a * 9 + 7, none⟩ = _ at e7'
       have e8' := e8
       change (wr.drewN nq).cell? ⟨P, a * 9 + 8, none⟩ = _ at e8'
       have c0' := c0
       change (wr.drewN nq).cell? ⟨g, k * 9, none⟩ = _ at c0'
       have c1' := c1
       change (wr.drewN nq).cell? ⟨g, k * 9 + 1, none⟩ = _ at c1'
       have c2' := c2
       change (wr.drewN nq).cell? ⟨g, k * 9 + 2, none⟩ = _ at c2'
       have c3' := c3
       change (wr.drewN nq).cell? ⟨g, k * 9 + 3, none⟩ = _ at c3'
       have c4' := c4
       change (wr.drewN nq).cell? ⟨g, k * 9 + 4, none⟩ = _ at c4'
       have c5' := c5
       change (wr.drewN nq).cell? ⟨g, k * 9 + 5, none⟩ = _ at c5'
       have c6' := c6
       change (wr.drewN nq).cell? ⟨g, k * 9 + 6, none⟩ = _ at c6'
       have c7' := c7
       change (wr.drewN nq).cell? ⟨g, k * 9 + 7, none⟩ = _ at c7'
       have c8' := c8
       change (wr.drewN nq).cell? ⟨g, k * 9 + 8, none⟩ = _ at c8'
       have gx' : ∀ i, (wr.drewN nq).cell? ⟨x, i, none⟩ = (#[.slice (some ⟨P, 0, none⟩) pages.length cap, .int .i64 (next + 1), vk, vt, vg] : Array Value)[i]? := gx
       have hfP' : ∀ i, (wr.drewN nq).frozen? ⟨P, i, none⟩ = false := hfP
       have hxl' : x < (wr.drewN nq).heap.size := hxl
       have hgl' : g < (wr.drewN nq).heap.size := hgl
       have hPl' : P < (wr.drewN nq).heap.size := hPl
       clear hl1 e0 e1 e2 e3 e4 e5 e6 e7 e8 c0 c1 c2 c3 c4 c5 c6 c7 c8 gx hfP hxl hgl hPl
       have HZZ := hid HZ
       clear HZ
       generalize wr.drewN nq = wy at *
       go_wp2_with fail
       refine qB (P) fun hSt => ?_
       refine qS [0, 1, 2, 3, 4, 5, 6, 7, 8, 9] ?_
       iterate 10 (refine qT ?_; simp only [Act.put, qY])
       refine TakeSeq.done ?_
       refine qH 10 fun K hK => ?_
       go_simp
       refine hK.out _ _ qF (fun hHeld => ?_)
       clear hK K
       refine qD ?_ _
       go_wp2_with fail
       exact ⟨⟨k + 1, by omega, by rw [show ((k : Int) + 1) = ((k + 1 : Nat) : Int) by omega], hid (runSt_step HZZ.out hk2 p HPK.out a HHA.out halt HP4.out hPx (by omega) (by omega) hgP)⟩, by simp [intOf]; omega⟩
     ·have b1 : decide ((k : Int) < ws.length) = false := by simp; omega
      have hkl : k = ws.length := by omega
      have gO2 : ∀ i, wr.cell? ⟨O, i, none⟩ = (outCells o ve2 vc2)[i]? := HA.out.blkO.cell
      unfold outCells at gO2
      have hfR := HA.out.blkR.free
      have gR := HA.out.blkR.cell
      clear gO
      go_wp2_with fail
      have BR := HA.out.blkR
      have BX : Blk wr x 58 (ixCells P pages.length cap (next + 1) vk vt vg) := HA.out.blkx
      have hkt : ws.take k = ws := by rw [hkl, List.take_length]
      have hpg := HA.out.pg
      rw [hkt] at hpg
      refine bodyPost_ret (results_bt rfl _ _ (w.heap.size + 1) _ _ _ rfl (by have B := BR; exact qK) Tryz.underlying63 rfl (by kernel_rfl)) rfl ⟨ve2, vc2, ?_, ?_, ?_, ?_, ?_, ?_, ?_⟩
      ·rw [set14]
       rfl
      ·rw [applyWrites_length]
       exact (by have B := BX; exact qK)
      ·exact PagesAt.put14 hpg (by omega) _ _ _ _ _ _ _ _ _ _ _ _ _ _
      ·exact OverTwo.put14 (OverTwo.then_right HOT.out HA.out.over) (by omega) _ _ _ _ _ _ _ _ _ _ _ _ _ _
      ·exact NoneAt.put14 HA.out.none (by omega) _ _ _ _ _ _ _ _ _ _ _ _ _ _
      ·exact own_base (own_put14 HA.out.rowe (by omega) _ _ _ _ _ _ _ _ _ _ _ _ _ _) (by omega)
      ·exact own_base (own_put14 HA.out.rowc (by omega) _ _ _ _ _ _ _ _ _ _ _ _ _ _) (by omega)
end Go.Proofs.YtjmpekanlmepmaaGreatDoor
