/- Package bodegalaw24: a new key is inserted into an index. (Printed by wip/ins_gen.py out of XN4src.) -/
import Derived.Test.YtjmpekanlmepmaaGreatDoorNN27
set_option linter.all false
set_option maxRecDepth 20000
set_option maxHeartbeats 8000000
open Go.Lib (hid)
namespace Go.Proofs.YtjmpekanlmepmaaGreatDoor
open Go.RowKit
def InsPostIx (x P cap : Nat) (pages : List Bt.Page) (next : Int) (keys : List Int) (tos : List Bt.Ptr) (d : Bool) (w : World) (e : Ending) (w' : World) : Prop :=
 e = .returned (.bool d) ∧ IxAt x P cap pages next keys tos w' ∧ OverTwo x P w w'
def KeyCut (x P n cap : Nat) (next : Int) (vt vg : Value) (keys : List Int) (W wx : World) : Prop :=
 ∃ vk, Blk wx x 58 (ixCells P n cap next vk vt vg) ∧ wx.ownsRow W.heap.size 52 1 vk keys.length (keyCells keys) ∧ Over x W wx
def ToCut (x P n cap : Nat) (next : Int) (vk vg : Value) (tos : List Bt.Ptr) (W wx : World) : Prop :=
 ∃ vt, Blk wx x 58 (ixCells P n cap next vk vt vg) ∧ wx.ownsRow W.heap.size 27 2 vt tos.length (ptrCells tos) ∧ Over x W wx
def insOp (key : Int) (tq : Bt.Ptr) (fr : List Bt.Page) : Bt.Op := ⟨2, key, 0, tq, 0, 0, fr⟩
theorem insert_new (x P cap : Nat) (pages pages' : List Bt.Page) (next next' : Int) (keys : List Int) (tos : List Bt.Ptr) (key : Int) (tq : Bt.Ptr) (o : Bt.Out) (w : World) (h : IxAt x P cap pages next keys tos w) (hth : isThere keys key = false) (hlen : keys.length ≤ 1000) (htl : tos.length = keys.length) (hoc : o.code = 0)
 (HR : Hid (∀ w', IxAt x P cap pages next keys tos w' → Calls Tryz.prog 31 #[.pointer (some ⟨x, 0, none⟩), .agg (opCells (insOp key tq []) (.slice none 0 0))] w' (RunIx x P cap pages' next' keys tos o w'))) :
 Calls Tryz.prog 46 #[.pointer (some ⟨x, 0, none⟩), .int .u32 key, .agg tq.cells] w (InsPostIx x P cap pages' next' (insertK keys (placeOf keys key) key) (insertK tos (placeOf keys key) tq) o.done w) := by
 obtain ⟨i1, hi1, hz10, hz11, hz12⟩ := info_parts infoU32
 obtain ⟨i2, hi2, hz20, hz21, hz22⟩ := info_parts infoPtr
 obtain ⟨vk0, vt0, vg0, hx⟩ := h
 have HX := hid hx
 have HTH := hid hth
 have hxlt := hx.blk.lt
 have b0 : (o.code == 0) = true := by simp [hoc]
 have hpl := placeOf_le keys key
 clear hx hth hoc
 unfold opCells insOp at HR
 unfold Bt.Ptr.cells
 go_enter Tryz.func46, Tryz.ntmps46
 go_wp2_with fail
 go_at_call 48; refine (place_any x (x + 1) (.slice (some ⟨P, 0, none⟩) pages.length cap) vk0 vt0 vg0 next keys key _ ?hb ?hk hlen).mono ?_
 case hb => exact HX.out.blk.alloc _
 case hk => exact own_below HX.out.keys qL
 rintro e1 w1 ⟨rfl, hb1⟩
 rw [HTH.out]
 ((obtain ⟨hc1, hf1, hs1⟩ := qR hb1); (try have := qN0 w w1))
 obtain ⟨at1, hat⟩ : ∃ at1, at1 = placeOf keys key := ⟨_, rfl⟩
 rw [← hat] at hpl ⊢
 have HAT := hid hat
 have HB1 := hid hb1
 clear hat hb1
 go_wp2_with fail
 go_at_call 31; refine (HR.out _ ?hix).mono ?_
 case hix => exact ⟨_, _, _, HX.out.over (by have hb1 := HB1.out; exact qL)⟩
 rintro e2 w2 ⟨ve, vc, rfl, ⟨vk, vt, vg, hx2⟩, ho2, hoe, hoc⟩
 have hse := qSt hoe
 have hsc := qSt hoc
 have HX2 := hid hx2
 have HO2 := hid ho2
 have hx2l : x < w2.heap.size := hx2.blk.lt
 have hs2 : w1.heap.size ≤ w2.heap.size := ho2.size
 have HBK : Hid (Blk w2 w.heap.size 27 #[.int .i64 tq.line, .int .i64 tq.gen]) := hid (by
  have := ((made1 w (t := 27) (cs := #[.int .i64 tq.line, .int .i64 tq.gen])).kept HB1.out)
  exact (ho2.block _ this.lt (by omega) (by have := hx2.hPx; omega)).trans this)
 have HOV : Hid (OverTwo x P w w2) := hid (OverTwo.trans (OverTwo.of_below (by have hb1 := HB1.out; exact qL)) ho2)
 have hwl : w.heap.size < w2.heap.size := by omega
 clear hx2 ho2 hoe hoc
 simp only [outCells]
 go_wp2_with fail
 have HXa := hid (HX2.out.over (below_alloc (Below.refl _ _) (.cells #[.int .i64 o.code, .bool o.found, .bool o.done, .bool o.split, .bool o.unposted, .bool o.dead, .bool o.more, .int .i64 o.to.line, .int .i64 o.to.gen, ve, vc, .int .i64 o.hops, .int .i64 o.fresh, .int .i64 o.height] 63)))
 have HOa := hid (Blk.made w2 63 #[.int .i64 o.code, .bool o.found, .bool o.done, .bool o.split, .bool o.unposted, .bool o.dead, .bool o.more, .int .i64 o.to.line, .int .i64 o.to.gen, ve, vc, .int .i64 o.hops, .int .i64 o.fresh, .int .i64 o.height])
 have HKa := hid (Blk.alloc HBK.out (.cells #[.int .i64 o.code, .bool o.found, .bool o.done, .bool o.split, .bool o.unposted, .bool o.dead, .bool o.more, .int .i64 o.to.line, .int .i64 o.to.gen, ve, vc, .int .i64 o.hops, .int .i64 o.fresh, .int .i64 o.height] 63))
 have HVa := hid (OverTwo.trans HOV.out (OverTwo.of_below (below_alloc (Below.refl _ _) (.cells #[.int .i64 o.code, .bool o.found, .bool o.done, .bool o.split, .bool o.unposted, .bool o.dead, .bool o.more, .int .i64 o.to.line, .int .i64 o.to.gen, ve, vc, .int .i64 o.hops, .int .i64 o.fresh, .int .i64 o.height] 63))))
 generalize hwa : World.alloc w2 _ = wa at *
 clear hwa hs1 hc1 hf1 hse hsc hs2 hwl
 have hxa : x < wa.heap.size := HXa.out.blk.lt
 have hoa : w2.heap.size < wa.heap.size := HOa.out.lt
 have hka : w.heap.size < wa.heap.size := HKa.out.lt
 obtain ⟨u1, u2, hsl1, hsl2, hsrc1⟩ := slice_facts (bytes := 0) HXa.out.keys i1 Tryz.underlying55 elemU32 hi1 hz11 at1 hpl (by intro u hu; simp only [keyCells, List.mem_map] at hu; obtain ⟨y, _, rfl⟩ := hu; rfl)
 have hvl1 : ∀ b, vk.ownBlock = some b → b < wa.heap.size := own_lt' HXa.out.keys
 have hat1 := hpl
 have hxl1 := keyCells_length keys
 have HBX1 := hid HXa.out.blk
 have kxa := HXa.out.blk.cell
 unfold ixCells at kxa
 go_cut [] (KeyCut x P pages'.length cap next' vt vg (insertK keys at1 key) wa)
 case first =>
  refine wp_region_late (S := SteadyAll _) (last := 21) (by kernel_rfl) (by kernel_rfl) (SteadyAll.of (Below.refl _ _).drew) ?_
  intro hSt
  refine wpAnyL_seq (is := [0, 2, 3, 4, 5, 6, 7, 9, 12, 13, 14, 15, 16, 17]) (by kernel_rfl) (by kernel_rfl) (fun _ _ d _ _ h => by cases d <;> exact h) (by assumption) ?_
  iterate 14 (refine qU ?_; simp only [Act.put, qY])
  refine TakeSeqL.done ?_
  refine wpAnyL_ready (rs := [1, 10]) (by kernel_rfl) (by simp) ?_
  refine AllReadyL.cons rfl (by decide) (fun K hK => ?_) (AllReadyL.cons rfl (by decide) (fun K hK => ?_) (AllReadyL.nil))
  ·skip
   rw [if_pos (by rfl)]
   go_simp
   refine hK.out _ _ (SteadyAll.of qL) (fun hHeld => ?_)
   clear hK K
   refine wpAnyL_ready (rs := [8, 10]) (by kernel_rfl) (by simp) ?_
   refine AllReadyL.cons rfl (by decide) (fun K hK => ?_) (AllReadyL.cons rfl (by decide) (fun K hK => ?_) (AllReadyL.nil))
   ·skip
    rw [if_pos (by rfl)]
    refine wp_append_src (.tmp 43) (.tmp 49) 55 rfl (wa).heap.size 52 i1 _ 1 4 Tryz.underlying55 hi1 hz10 hz11 hz12 rfl (by decide) (.slice (some ⟨(wa).heap.size, 0, none⟩) 0 0) (0) ([]) rfl (own_empty rfl (Nat.le_refl _)) (u1) (at1) ((keyCells keys).take (at1 * 1)) rfl ((hsrc1 _ (fun b o hb => Below.cell (show Below (wa).heap.size (wa) _ from qL) (p := ⟨b, o, none⟩) (hvl1 b hb))).1) (by rw [List.length_take, hxl1]; exact Nat.min_eq_left (Nat.mul_le_mul_right _ hat1)) (by unfold maxLen; omega) (by omega) (by simp only [size_alloc, size_drew]; omega) ?_
    intro v1 w1 hown1 hg1
    have hb1 := below_grown (w := wa) qL hg1 (fun j hj => by simp [Value.ownBlock] at hj; omega)
    have hs1 := Below.size hb1
    refine hK.out _ _ (SteadyAll.of hb1) (fun hHeld => ?_)
    clear hK K
    simp only [Act.put, qY]
    refine qHL 10 fun K hK => ?_
    go_simp
    refine hK.out _ _ (SteadyAll.of (below_alloc hb1 _)) (fun hHeld => ?_)
    clear hK K
    have BK := Blk.made w1 52 ([.int .u32 key]).toArray
    have hb1k := below_alloc hb1 (.cells ([.int .u32 key]).toArray 52)
    have hown1k := own_below hown1 (below_alloc (Below.refl _ _) (.cells ([.int .u32 key]).toArray 52))
    refine qHL 11 fun K hK => ?_
    refine wp_append_src (.tmp 50) (.tmp 52) 55 rfl (wa).heap.size 52 i1 _ 1 4 Tryz.underlying55 hi1 hz10 hz11 hz12 rfl (by decide) (v1) (0 + at1) ([] ++ (keyCells keys).take (at1 * 1)) rfl (hown1k) (.slice (some ⟨w1.heap.size, 0, none⟩) 1 1) (1) ([.int .u32 key]) rfl (.inr ⟨_, _, rfl, nine_news  BK, (by intro u hu; simp at hu; subst hu; rfl)⟩) (rfl) (by unfold maxLen; omega) (by omega) (by have := hb1k.size; omega) ?_
    intro v2 w2 hown2 hg2
    have hb2 := below_grown hb1k hg2 (fun j hj => own_row_ge hown1k j hj)
    refine hK.out _ _ (SteadyAll.of hb2) (fun hHeld => ?_)
    clear hK K
    simp only [Act.put, qY]
    refine qHL 18 fun K hK => ?_
    refine wp_append_src (.tmp 53) (.tmp 59) 55 rfl (wa).heap.size 52 i1 _ 1 4 Tryz.underlying55 hi1 hz10 hz11 hz12 rfl (by decide) (v2) (0 + at1 + 1) (([] ++ (keyCells keys).take (at1 * 1)) ++ [.int .u32 key]) rfl (hown2) (u2) (keys.length - at1) ((keyCells keys).drop (at1 * 1)) rfl ((hsrc1 _ (fun b o hb => (Below.cell hb2 (p := ⟨b, o, none⟩) (hvl1 b hb)))).2) (by rw [List.length_drop, hxl1]; simp only [Nat.sub_mul]) (by unfold maxLen; omega) (by omega) (by have := hb2.size; omega) ?_
    intro v3 w3 hown3 hg3
    have hb3 := below_grown hb2 hg3 (fun j hj => own_row_ge hown2 j hj)
    refine hK.out _ _ (SteadyAll.of hb3) (fun hHeld => ?_)
    clear hK K
    simp only [Act.put, qY]
    obtain ⟨g4, cap4, rfl⟩ := own_form hown3 (by omega)
    have BX3 := HBX1.out.kept hb3
    have fx3 := BX3.free
    have kx3 : w3.cell? ⟨x, 2, none⟩ = some vk := BX3.cell 2
    have HX3 := hid BX3
    have HO3 := hid hown3
    have HB3 := hid hb3
    clear BX3 hown1k hown2 hown3 hg2 hg3 hb1k hb2 hb3 BK
    refine wpAnyL_seq (is := [19, 20]) (by kernel_rfl) (by kernel_rfl) (fun _ _ d _ _ h => by cases d <;> exact h) (by assumption) ?_
    iterate 2 (refine qU ?_; simp only [Act.put, qY])
    refine TakeSeqL.done ?_
    refine wpAnyL_ready (rs := [21]) (by kernel_rfl) (by simp) ?_
    refine AllReadyL.final rfl (fun K hK => ?_)
    rw [if_pos (by rfl)]
    go_simp
    refine hK.out _ _ ?_
    clear hK K
    refine wpAnyL_done (by kernel_rfl) ?_ _
    go_wp2_with fail
    go_meet
    have hO4 := own_cast HO3.out (show 0 + at1 + 1 + (keys.length - at1) = (insertK keys at1 key).length by rw [insertK_length _ _ _ hat1]; omega) (keyCells_insert keys key at1)
    simp only [Nat.zero_add] at hO4
    exact ⟨_, (HX3.out.put 2 _).cast rfl, own_aside (p := ⟨x, 2, none⟩) hO4 (by show x < (wa).heap.size; omega) _, Over.put (Over.of_below HB3.out) 2 _⟩
   ·skip
    rw [if_pos (by rfl)]
    go_simp
    refine hK.out _ _ (SteadyAll.of qL) (fun hHeld => ?_)
    clear hK K
    refine qHL 8 fun K hK => ?_
    refine wp_append_src (.tmp 43) (.tmp 49) 55 rfl (wa).heap.size 52 i1 _ 1 4 Tryz.underlying55 hi1 hz10 hz11 hz12 rfl (by decide) (.slice (some ⟨(wa).heap.size, 0, none⟩) 0 0) (0) ([]) rfl (own_below (own_empty rfl (Nat.le_refl _)) qL) (u1) (at1) ((keyCells keys).take (at1 * 1)) rfl ((hsrc1 _ (fun b o hb => Below.cell (show Below (wa).heap.size (wa) _ from qL) (p := ⟨b, o, none⟩) (hvl1 b hb))).1) (by rw [List.length_take, hxl1]; exact Nat.min_eq_left (Nat.mul_le_mul_right _ hat1)) (by unfold maxLen; omega) (by omega) (by simp only [size_alloc, size_drew]; omega) ?_
    intro v1 w1 hown1 hg1
    have hb1k := below_grown (w := wa) qL hg1 (fun j hj => by simp [Value.ownBlock] at hj; omega)
    refine hK.out _ _ (SteadyAll.of hb1k) (fun hHeld => ?_)
    clear hK K
    simp only [Act.put, qY]
    have BK : Blk w1 ((wa).heap.size + 1) 52 ([.int .u32 key]).toArray := Blk.grown (Blk.drew (Blk.made' (by simp))) hg1 (by simp [Value.ownBlock])
    have hown1k := hown1
    refine qHL 11 fun K hK => ?_
    refine wp_append_src (.tmp 50) (.tmp 52) 55 rfl (wa).heap.size 52 i1 _ 1 4 Tryz.underlying55 hi1 hz10 hz11 hz12 rfl (by decide) (v1) (0 + at1) ([] ++ (keyCells keys).take (at1 * 1)) rfl (hown1k) (.slice (some ⟨((wa).heap.size + 1), 0, none⟩) 1 1) (1) ([.int .u32 key]) rfl (.inr ⟨_, _, rfl, nine_news  BK, (by intro u hu; simp at hu; subst hu; rfl)⟩) (rfl) (by unfold maxLen; omega) (by omega) (by have := hb1k.size; omega) ?_
    intro v2 w2 hown2 hg2
    have hb2 := below_grown hb1k hg2 (fun j hj => own_row_ge hown1k j hj)
    refine hK.out _ _ (SteadyAll.of hb2) (fun hHeld => ?_)
    clear hK K
    simp only [Act.put, qY]
    refine qHL 18 fun K hK => ?_
    refine wp_append_src (.tmp 53) (.tmp 59) 55 rfl (wa).heap.size 52 i1 _ 1 4 Tryz.underlying55 hi1 hz10 hz11 hz12 rfl (by decide) (v2) (0 + at1 + 1) (([] ++ (keyCells keys).take (at1 * 1)) ++ [.int .u32 key]) rfl (hown2) (u2) (keys.length - at1) ((keyCells keys).drop (at1 * 1)) rfl ((hsrc1 _ (fun b o hb => (Below.cell hb2 (p := ⟨b, o, none⟩) (hvl1 b hb)))).2) (by rw [List.length_drop, hxl1]; simp only [Nat.sub_mul]) (by unfold maxLen; omega) (by omega) (by have := hb2.size; omega) ?_
    intro v3 w3 hown3 hg3
    have hb3 := below_grown hb2 hg3 (fun j hj => own_row_ge hown2 j hj)
    refine hK.out _ _ (SteadyAll.of hb3) (fun hHeld => ?_)
    clear hK K
    simp only [Act.put, qY]
    obtain ⟨g4, cap4, rfl⟩ := own_form hown3 (by omega)
    have BX3 := HBX1.out.kept hb3
    have fx3 := BX3.free
    have kx3 : w3.cell? ⟨x, 2, none⟩ = some vk := BX3.cell 2
    have HX3 := hid BX3
    have HO3 := hid hown3
    have HB3 := hid hb3
    clear BX3 hown1k hown2 hown3 hg2 hg3 hb1k hb2 hb3 BK
    refine wpAnyL_seq (is := [19, 20]) (by kernel_rfl) (by kernel_rfl) (fun _ _ d _ _ h => by cases d <;> exact h) (by assumption) ?_
    iterate 2 (refine qU ?_; simp only [Act.put, qY])
    refine TakeSeqL.done ?_
    refine wpAnyL_ready (rs := [21]) (by kernel_rfl) (by simp) ?_
    refine AllReadyL.final rfl (fun K hK => ?_)
    rw [if_pos (by rfl)]
    go_simp
    refine hK.out _ _ ?_
    clear hK K
    refine wpAnyL_done (by kernel_rfl) ?_ _
    go_wp2_with fail
    go_meet
    have hO4 := own_cast HO3.out (show 0 + at1 + 1 + (keys.length - at1) = (insertK keys at1 key).length by rw [insertK_length _ _ _ hat1]; omega) (keyCells_insert keys key at1)
    simp only [Nat.zero_add] at hO4
    exact ⟨_, (HX3.out.put 2 _).cast rfl, own_aside (p := ⟨x, 2, none⟩) hO4 (by show x < (wa).heap.size; omega) _, Over.put (Over.of_below HB3.out) 2 _⟩
  ·skip
   rw [if_pos (by rfl)]
   go_simp
   refine hK.out _ _ (SteadyAll.of qL) (fun hHeld => ?_)
   clear hK K
   refine qHL 1 fun K hK => ?_
   go_simp
   refine hK.out _ _ (SteadyAll.of qL) (fun hHeld => ?_)
   clear hK K
   refine qHL 8 fun K hK => ?_
   refine wp_append_src (.tmp 43) (.tmp 49) 55 rfl (wa).heap.size 52 i1 _ 1 4 Tryz.underlying55 hi1 hz10 hz11 hz12 rfl (by decide) (.slice (some ⟨(wa).heap.size + 1, 0, none⟩) 0 0) (0) ([]) rfl (own_empty (by simp) (by simp)) (u1) (at1) ((keyCells keys).take (at1 * 1)) rfl ((hsrc1 _ (fun b o hb => Below.cell (show Below (wa).heap.size (wa) _ from qL) (p := ⟨b, o, none⟩) (hvl1 b hb))).1) (by rw [List.length_take, hxl1]; exact Nat.min_eq_left (Nat.mul_le_mul_right _ hat1)) (by unfold maxLen; omega) (by omega) (by simp only [size_alloc, size_drew]; omega) ?_
   intro v1 w1 hown1 hg1
   have hb1k := below_grown (w := wa) qL hg1 (fun j hj => by simp [Value.ownBlock] at hj; omega)
   refine hK.out _ _ (SteadyAll.of hb1k) (fun hHeld => ?_)
   clear hK K
   simp only [Act.put, qY]
   have BK : Blk w1 ((wa).heap.size) 52 ([.int .u32 key]).toArray := Blk.grown (Blk.drew (Blk.alloc (Blk.made _ _ _) _)) hg1 (by simp [Value.ownBlock])
   have hown1k := hown1
   refine qHL 11 fun K hK => ?_
   refine wp_append_src (.tmp 50) (.tmp 52) 55 rfl (wa).heap.size 52 i1 _ 1 4 Tryz.underlying55 hi1 hz10 hz11 hz12 rfl (by decide) (v1) (0 + at1) ([] ++ (keyCells keys).take (at1 * 1)) rfl (hown1k) (.slice (some ⟨((wa).heap.size), 0, none⟩) 1 1) (1) ([.int .u32 key]) rfl (.inr ⟨_, _, rfl, nine_news  BK, (by intro u hu; simp at hu; subst hu; rfl)⟩) (rfl) (by unfold maxLen; omega) (by omega) (by have := hb1k.size; omega) ?_
   intro v2 w2 hown2 hg2
   have hb2 := below_grown hb1k hg2 (fun j hj => own_row_ge hown1k j hj)
   refine hK.out _ _ (SteadyAll.of hb2) (fun hHeld => ?_)
   clear hK K
   simp only [Act.put, qY]
   refine qHL 18 fun K hK => ?_
   refine wp_append_src (.tmp 53) (.tmp 59) 55 rfl (wa).heap.size 52 i1 _ 1 4 Tryz.underlying55 hi1 hz10 hz11 hz12 rfl (by decide) (v2) (0 + at1 + 1) (([] ++ (keyCells keys).take (at1 * 1)) ++ [.int .u32 key]) rfl (hown2) (u2) (keys.length - at1) ((keyCells keys).drop (at1 * 1)) rfl ((hsrc1 _ (fun b o hb => (Below.cell hb2 (p := ⟨b, o, none⟩) (hvl1 b hb)))).2) (by rw [List.length_drop, hxl1]; simp only [Nat.sub_mul]) (by unfold maxLen; omega) (by omega) (by have := hb2.size; omega) ?_
   intro v3 w3 hown3 hg3
   have hb3 := below_grown hb2 hg3 (fun j hj => own_row_ge hown2 j hj)
   refine hK.out _ _ (SteadyAll.of hb3) (fun hHeld => ?_)
   clear hK K
   simp only [Act.put, qY]
   obtain ⟨g4, cap4, rfl⟩ := own_form hown3 (by omega)
   have BX3 := HBX1.out.kept hb3
   have fx3 := BX3.free
   have kx3 : w3.cell? ⟨x, 2, none⟩ = some vk := BX3.cell 2
   have HX3 := hid BX3
   have HO3 := hid hown3
   have HB3 := hid hb3
   clear BX3 hown1k hown2 hown3 hg2 hg3 hb1k hb2 hb3 BK
   refine wpAnyL_seq (is := [19, 20]) (by kernel_rfl) (by kernel_rfl) (fun _ _ d _ _ h => by cases d <;> exact h) (by assumption) ?_
   iterate 2 (refine qU ?_; simp only [Act.put, qY])
   refine TakeSeqL.done ?_
   refine wpAnyL_ready (rs := [21]) (by kernel_rfl) (by simp) ?_
   refine AllReadyL.final rfl (fun K hK => ?_)
   rw [if_pos (by rfl)]
   go_simp
   refine hK.out _ _ ?_
   clear hK K
   refine wpAnyL_done (by kernel_rfl) ?_ _
   go_wp2_with fail
   go_meet
   have hO4 := own_cast HO3.out (show 0 + at1 + 1 + (keys.length - at1) = (insertK keys at1 key).length by rw [insertK_length _ _ _ hat1]; omega) (keyCells_insert keys key at1)
   simp only [Nat.zero_add] at hO4
   exact ⟨_, (HX3.out.put 2 _).cast rfl, own_aside (p := ⟨x, 2, none⟩) hO4 (by show x < (wa).heap.size; omega) _, Over.put (Over.of_below HB3.out) 2 _⟩
 case rest =>
  rename World => wb
  obtain ⟨vk2, BX, how, hov⟩ := hcut
  have htr : wb.ownsRow (x + 1) 27 2 vt tos.length (ptrCells tos) := own_over HXa.out.tos hov (by omega)
  have hpl2 : at1 ≤ tos.length := by omega
  obtain ⟨u1, u2, hsl1, hsl2, hsrc2⟩ := slice_facts (bytes := 0) htr i2 Tryz.underlying56 elemPtr hi2 hz21 at1 hpl2 (by intro u hu; simp only [ptrCells, List.mem_flatMap] at hu; obtain ⟨y, _, hu⟩ := hu; simp [Bt.Ptr.cells] at hu; rcases hu with rfl | rfl <;> rfl)
  have hvl2 : ∀ b, vt.ownBlock = some b → b < wb.heap.size := own_lt' htr
  have hat2 := hpl2
  have hxl2 := ptrCells_length tos
  have HBX2 := hid BX
  have HKR := hid how
  have HV1 := hid hov
  have HBKb := hid (HKa.out.grown hov (by simp; omega))
  have kxb := BX.cell
  have kbb := HBKb.out.cell
  have hxb : x < wb.heap.size := BX.lt
  have hkb : w.heap.size < wb.heap.size := HBKb.out.lt
  unfold ixCells at kxb
  clear BX how hov htr kxa
  go_wp2_with fail
  go_cut [] (ToCut x P pages'.length cap next' vk2 vg (insertK tos at1 tq) wb)
  case first =>
   refine wp_region_late (S := SteadyAll _) (last := 21) (by kernel_rfl) (by kernel_rfl) (SteadyAll.of (Below.refl _ _).drew) ?_
   intro hSt
   refine wpAnyL_seq (is := [0, 2, 3, 4, 5, 6, 7, 9, 12, 13, 14, 15, 16, 17]) (by kernel_rfl) (by kernel_rfl) (fun _ _ d _ _ h => by cases d <;> exact h) (by assumption) ?_
   iterate 14 (refine qU ?_; simp only [Act.put, qY])
   refine TakeSeqL.done ?_
   refine wpAnyL_ready (rs := [1, 10]) (by kernel_rfl) (by simp) ?_
   refine AllReadyL.cons rfl (by decide) (fun K hK => ?_) (AllReadyL.cons rfl (by decide) (fun K hK => ?_) (AllReadyL.nil))
   ·skip
    rw [if_pos (by rfl)]
    go_simp
    refine hK.out _ _ (SteadyAll.of qL) (fun hHeld => ?_)
    clear hK K
    refine wpAnyL_ready (rs := [8, 10]) (by kernel_rfl) (by simp) ?_
    refine AllReadyL.cons rfl (by decide) (fun K hK => ?_) (AllReadyL.cons rfl (by decide) (fun K hK => ?_) (AllReadyL.nil))
    ·skip
     rw [if_pos (by rfl)]
     refine wp_append_src (.tmp 64) (.tmp 70) 56 rfl (wb).heap.size 27 i2 _ 2 16 Tryz.underlying56 hi2 hz20 hz21 hz22 rfl (by decide) (.slice (some ⟨(wb).heap.size, 0, none⟩) 0 0) (0) ([]) rfl (own_empty rfl (Nat.le_refl _)) (u1) (at1) ((ptrCells tos).take (at1 * 2)) rfl ((hsrc2 _ (fun b o hb => Below.cell (show Below (wb).heap.size (wb) _ from qL) (p := ⟨b, o, none⟩) (hvl2 b hb))).1) (by rw [List.length_take, hxl2]; exact Nat.min_eq_left (Nat.mul_le_mul_right _ hat2)) (by unfold maxLen; omega) (by omega) (by simp only [size_alloc, size_drew]; omega) ?_
     intro v1 w1 hown1 hg1
     have hb1 := below_grown (w := wb) qL hg1 (fun j hj => by simp [Value.ownBlock] at hj; omega)
     have hs1 := Below.size hb1
     refine hK.out _ _ (SteadyAll.of hb1) (fun hHeld => ?_)
     clear hK K
     simp only [Act.put, qY]
     refine qHL 10 fun K hK => ?_
     go_simp
     refine hK.out _ _ (SteadyAll.of (below_alloc hb1 _)) (fun hHeld => ?_)
     clear hK K
     have BK := Blk.made w1 27 ([.int .i64 tq.line, .int .i64 tq.gen]).toArray
     have hb1k := below_alloc hb1 (.cells ([.int .i64 tq.line, .int .i64 tq.gen]).toArray 27)
     have hown1k := own_below hown1 (below_alloc (Below.refl _ _) (.cells ([.int .i64 tq.line, .int .i64 tq.gen]).toArray 27))
     refine qHL 11 fun K hK => ?_
     refine wp_append_src (.tmp 71) (.tmp 73) 56 rfl (wb).heap.size 27 i2 _ 2 16 Tryz.underlying56 hi2 hz20 hz21 hz22 rfl (by decide) (v1) (0 + at1) ([] ++ (ptrCells tos).take (at1 * 2)) rfl (hown1k) (.slice (some ⟨w1.heap.size, 0, none⟩) 1 1) (1) ([.int .i64 tq.line, .int .i64 tq.gen]) rfl (.inr ⟨_, _, rfl, nine_news  BK, (by intro u hu; simp at hu; rcases hu with rfl | rfl <;> rfl)⟩) (rfl) (by unfold maxLen; omega) (by omega) (by have := hb1k.size; omega) ?_
     intro v2 w2 hown2 hg2
     have hb2 := below_grown hb1k hg2 (fun j hj => own_row_ge hown1k j hj)
     refine hK.out _ _ (SteadyAll.of hb2) (fun hHeld => ?_)
     clear hK K
     simp only [Act.put, qY]
     refine qHL 18 fun K hK => ?_
     refine wp_append_src (.tmp 74) (.tmp 80) 56 rfl (wb).heap.size 27 i2 _ 2 16 Tryz.underlying56 hi2 hz20 hz21 hz22 rfl (by decide) (v2) (0 + at1 + 1) (([] ++ (ptrCells tos).take (at1 * 2)) ++ [.int .i64 tq.line, .int .i64 tq.gen]) rfl (hown2) (u2) (tos.length - at1) ((ptrCells tos).drop (at1 * 2)) rfl ((hsrc2 _ (fun b o hb => (Below.cell hb2 (p := ⟨b, o, none⟩) (hvl2 b hb)))).2) (by rw [List.length_drop, hxl2]; simp only [Nat.sub_mul]) (by unfold maxLen; omega) (by omega) (by have := hb2.size; omega) ?_
     intro v3 w3 hown3 hg3
     have hb3 := below_grown hb2 hg3 (fun j hj => own_row_ge hown2 j hj)
     refine hK.out _ _ (SteadyAll.of hb3) (fun hHeld => ?_)
     clear hK K
     simp only [Act.put, qY]
     obtain ⟨g4, cap4, rfl⟩ := own_form hown3 (by omega)
     have BX3 := HBX2.out.kept hb3
     have fx3 := BX3.free
     have kx3 : w3.cell? ⟨x, 3, none⟩ = some vt := BX3.cell 3
     have HX3 := hid BX3
     have HO3 := hid hown3
     have HB3 := hid hb3
     clear BX3 hown1k hown2 hown3 hg2 hg3 hb1k hb2 hb3 BK
     refine wpAnyL_seq (is := [19, 20]) (by kernel_rfl) (by kernel_rfl) (fun _ _ d _ _ h => by cases d <;> exact h) (by assumption) ?_
     iterate 2 (refine qU ?_; simp only [Act.put, qY])
     refine TakeSeqL.done ?_
     refine wpAnyL_ready (rs := [21]) (by kernel_rfl) (by simp) ?_
     refine AllReadyL.final rfl (fun K hK => ?_)
     rw [if_pos (by rfl)]
     go_simp
     refine hK.out _ _ ?_
     clear hK K
     refine wpAnyL_done (by kernel_rfl) ?_ _
     go_wp2_with fail
     go_meet
     have hO4 := own_cast HO3.out (show 0 + at1 + 1 + (tos.length - at1) = (insertK tos at1 tq).length by rw [insertK_length _ _ _ hat2]; omega) (ptrCells_insert tos tq at1 hat2)
     simp only [Nat.zero_add, htl] at hO4
     exact ⟨_, (HX3.out.put 3 _).cast rfl, own_aside (p := ⟨x, 3, none⟩) hO4 (by show x < (wb).heap.size; omega) _, Over.put (Over.of_below HB3.out) 3 _⟩
    ·skip
     rw [if_pos (by rfl)]
     go_simp
     refine hK.out _ _ (SteadyAll.of qL) (fun hHeld => ?_)
     clear hK K
     refine qHL 8 fun K hK => ?_
     refine wp_append_src (.tmp 64) (.tmp 70) 56 rfl (wb).heap.size 27 i2 _ 2 16 Tryz.underlying56 hi2 hz20 hz21 hz22 rfl (by decide) (.slice (some ⟨(wb).heap.size, 0, none⟩) 0 0) (0) ([]) rfl (own_below (own_empty rfl (Nat.le_refl _)) qL) (u1) (at1) ((ptrCells tos).take (at1 * 2)) rfl ((hsrc2 _ (fun b o hb => Below.cell (show Below (wb).heap.size (wb) _ from qL) (p := ⟨b, o, none⟩) (hvl2 b hb))).1) (by rw [List.length_take, hxl2]; exact Nat.min_eq_left (Nat.mul_le_mul_right _ hat2)) (by unfold maxLen; omega) (by omega) (by simp only [size_alloc, size_drew]; omega) ?_
     intro v1 w1 hown1 hg1
     have hb1k := below_grown (w := wb) qL hg1 (fun j hj => by simp [Value.ownBlock] at hj; omega)
     refine hK.out _ _ (SteadyAll.of hb1k) (fun hHeld => ?_)
     clear hK K
     simp only [Act.put, qY]
     have BK : Blk w1 ((wb).heap.size + 1) 27 ([.int .i64 tq.line, .int .i64 tq.gen]).toArray := Blk.grown (Blk.drew (Blk.made' (by simp))) hg1 (by simp [Value.ownBlock])
     have hown1k := hown1
     refine qHL 11 fun K hK => ?_
     refine wp_append_src (.tmp 71) (.tmp 73) 56 rfl (wb).heap.size 27 i2 _ 2 16 Tryz.underlying56 hi2 hz20 hz21 hz22 rfl (by decide) (v1) (0 + at1) ([] ++ (ptrCells tos).take (at1 * 2)) rfl (hown1k) (.slice (some ⟨((wb).heap.size + 1), 0, none⟩) 1 1) (1) ([.int .i64 tq.line, .int .i64 tq.gen]) rfl (.inr ⟨_, _, rfl, nine_news  BK, (by intro u hu; simp at hu; rcases hu with rfl | rfl <;> rfl)⟩) (rfl) (by unfold maxLen; omega) (by omega) (by have := hb1k.size; omega) ?_
     intro v2 w2 hown2 hg2
     have hb2 := below_grown hb1k hg2 (fun j hj => own_row_ge hown1k j hj)
     refine hK.out _ _ (SteadyAll.of hb2) (fun hHeld => ?_)
     clear hK K
     simp only [Act.put, qY]
     refine qHL 18 fun K hK => ?_
     refine wp_append_src (.tmp 74) (.tmp 80) 56 rfl (wb).heap.size 27 i2 _ 2 16 Tryz.underlying56 hi2 hz20 hz21 hz22 rfl (by decide) (v2) (0 + at1 + 1) (([] ++ (ptrCells tos).take (at1 * 2)) ++ [.int .i64 tq.line, .int .i64 tq.gen]) rfl (hown2) (u2) (tos.length - at1) ((ptrCells tos).drop (at1 * 2)) rfl ((hsrc2 _ (fun b o hb => (Below.cell hb2 (p := ⟨b, o, none⟩) (hvl2 b hb)))).2) (by rw [List.length_drop, hxl2]; simp only [Nat.sub_mul]) (by unfold maxLen; omega) (by omega) (by have := hb2.size; omega) ?_
     intro v3 w3 hown3 hg3
     have hb3 := below_grown hb2 hg3 (fun j hj => own_row_ge hown2 j hj)
     refine hK.out _ _ (SteadyAll.of hb3) (fun hHeld => ?_)
     clear hK K
     simp only [Act.put, qY]
     obtain ⟨g4, cap4, rfl⟩ := own_form hown3 (by omega)
     have BX3 := HBX2.out.kept hb3
     have fx3 := BX3.free
     have kx3 : w3.cell? ⟨x, 3, none⟩ = some vt := BX3.cell 3
     have HX3 := hid BX3
     have HO3 := hid hown3
     have HB3 := hid hb3
     clear BX3 hown1k hown2 hown3 hg2 hg3 hb1k hb2 hb3 BK
     refine wpAnyL_seq (is := [19, 20]) (by kernel_rfl) (by kernel_rfl) (fun _ _ d _ _ h => by cases d <;> exact h) (by assumption) ?_
     iterate 2 (refine qU ?_; simp only [Act.put, qY])
     refine TakeSeqL.done ?_
     refine wpAnyL_ready (rs := [21]) (by kernel_rfl) (by simp) ?_
     refine AllReadyL.final rfl (fun K hK => ?_)
     rw [if_pos (by rfl)]
     go_simp
     refine hK.out _ _ ?_
     clear hK K
     refine wpAnyL_done (by kernel_rfl) ?_ _
     go_wp2_with fail
     go_meet
     have hO4 := own_cast HO3.out (show 0 + at1 + 1 + (tos.length - at1) = (insertK tos at1 tq).length by rw [insertK_length _ _ _ hat2]; omega) (ptrCells_insert tos tq at1 hat2)
     simp only [Nat.zero_add, htl] at hO4
     exact ⟨_, (HX3.out.put 3 _).cast rfl, own_aside (p := ⟨x, 3, none⟩) hO4 (by show x < (wb).heap.size; omega) _, Over.put (Over.of_below HB3.out) 3 _⟩
   ·skip
    rw [if_pos (by rfl)]
    go_simp
    refine hK.out _ _ (SteadyAll.of qL) (fun hHeld => ?_)
    clear hK K
    refine qHL 1 fun K hK => ?_
    go_simp
    refine hK.out _ _ (SteadyAll.of qL) (fun hHeld => ?_)
    clear hK K
    refine qHL 8 fun K hK => ?_
    refine wp_append_src (.tmp 64) (.tmp 70) 56 rfl (wb).heap.size 27 i2 _ 2 16 Tryz.underlying56 hi2 hz20 hz21 hz22 rfl (by decide) (.slice (some ⟨(wb).heap.size + 1, 0, none⟩) 0 0) (0) ([]) rfl (own_empty (by simp) (by simp)) (u1) (at1) ((ptrCells tos).take (at1 * 2)) rfl ((hsrc2 _ (fun b o hb => Below.cell (show Below (wb).heap.size (wb) _ from qL) (p := ⟨b, o, none⟩) (hvl2 b hb))).1) (by rw [List.length_take, hxl2]; exact Nat.min_eq_left (Nat.mul_le_mul_right _ hat2)) (by unfold maxLen; omega) (by omega) (by simp only [size_alloc, size_drew]; omega) ?_
    intro v1 w1 hown1 hg1
    have hb1k := below_grown (w := wb) qL hg1 (fun j hj => by simp [Value.ownBlock] at hj; omega)
    refine hK.out _ _ (SteadyAll.of hb1k) (fun hHeld => ?_)
    clear hK K
    simp only [Act.put, qY]
    have BK : Blk w1 ((wb).heap.size) 27 ([.int .i64 tq.line, .int .i64 tq.gen]).toArray := Blk.grown (Blk.drew (Blk.alloc (Blk.made _ _ _) _)) hg1 (by simp [Value.ownBlock])
    have hown1k := hown1
    refine qHL 11 fun K hK => ?_
    refine wp_append_src (.tmp 71) (.tmp 73) 56 rfl (wb).heap.size 27 i2 _ 2 16 Tryz.underlying56 hi2 hz20 hz21 hz22 rfl (by decide) (v1) (0 + at1) ([] ++ (ptrCells tos).take (at1 * 2)) rfl (hown1k) (.slice (some ⟨((wb).heap.size), 0, none⟩) 1 1) (1) ([.int .i64 tq.line, .int .i64 tq.gen]) rfl (.inr ⟨_, _, rfl, nine_news  BK, (by intro u hu; simp at hu; rcases hu with rfl | rfl <;> rfl)⟩) (rfl) (by unfold maxLen; omega) (by omega) (by have := hb1k.size; omega) ?_
    intro v2 w2 hown2 hg2
    have hb2 := below_grown hb1k hg2 (fun j hj => own_row_ge hown1k j hj)
    refine hK.out _ _ (SteadyAll.of hb2) (fun hHeld => ?_)
    clear hK K
    simp only [Act.put, qY]
    refine qHL 18 fun K hK => ?_
    refine wp_append_src (.tmp 74) (.tmp 80) 56 rfl (wb).heap.size 27 i2 _ 2 16 Tryz.underlying56 hi2 hz20 hz21 hz22 rfl (by decide) (v2) (0 + at1 + 1) (([] ++ (ptrCells tos).take (at1 * 2)) ++ [.int .i64 tq.line, .int .i64 tq.gen]) rfl (hown2) (u2) (tos.length - at1) ((ptrCells tos).drop (at1 * 2)) rfl ((hsrc2 _ (fun b o hb => (Below.cell hb2 (p := ⟨b, o, none⟩) (hvl2 b hb)))).2) (by rw [List.length_drop, hxl2]; simp only [Nat.sub_mul]) (by unfold maxLen; omega) (by omega) (by have := hb2.size; omega) ?_
    intro v3 w3 hown3 hg3
    have hb3 := below_grown hb2 hg3 (fun j hj => own_row_ge hown2 j hj)
    refine hK.out _ _ (SteadyAll.of hb3) (fun hHeld => ?_)
    clear hK K
    simp only [Act.put, qY]
    obtain ⟨g4, cap4, rfl⟩ := own_form hown3 (by omega)
    have BX3 := HBX2.out.kept hb3
    have fx3 := BX3.free
    have kx3 : w3.cell? ⟨x, 3, none⟩ = some vt := BX3.cell 3
    have HX3 := hid BX3
    have HO3 := hid hown3
    have HB3 := hid hb3
    clear BX3 hown1k hown2 hown3 hg2 hg3 hb1k hb2 hb3 BK
    refine wpAnyL_seq (is := [19, 20]) (by kernel_rfl) (by kernel_rfl) (fun _ _ d _ _ h => by cases d <;> exact h) (by assumption) ?_
    iterate 2 (refine qU ?_; simp only [Act.put, qY])
    refine TakeSeqL.done ?_
    refine wpAnyL_ready (rs := [21]) (by kernel_rfl) (by simp) ?_
    refine AllReadyL.final rfl (fun K hK => ?_)
    rw [if_pos (by rfl)]
    go_simp
    refine hK.out _ _ ?_
    clear hK K
    refine wpAnyL_done (by kernel_rfl) ?_ _
    go_wp2_with fail
    go_meet
    have hO4 := own_cast HO3.out (show 0 + at1 + 1 + (tos.length - at1) = (insertK tos at1 tq).length by rw [insertK_length _ _ _ hat2]; omega) (ptrCells_insert tos tq at1 hat2)
    simp only [Nat.zero_add, htl] at hO4
    exact ⟨_, (HX3.out.put 3 _).cast rfl, own_aside (p := ⟨x, 3, none⟩) hO4 (by show x < (wb).heap.size; omega) _, Over.put (Over.of_below HB3.out) 3 _⟩
  case rest =>
   rename World => wf
   obtain ⟨vt2, BX, how, hov⟩ := hcut
   have HOf := (HOa.out.grown HV1.out (by simp; omega)).grown hov (by simp; omega)
   have kO := HOf.cell
   have hOf : w2.heap.size < wf.heap.size := HOf.lt
   have HBX3 := hid BX
   have HTR := hid how
   have HV2 := hid hov
   clear BX how hov HOf kxb kbb
   go_wp2_with fail
   have hab : wa.heap.size ≤ wb.heap.size := HV1.out.size
   have hPa : P < wa.heap.size := HXa.out.pg.lt
   have hPx := HXa.out.hPx
   have hgP := HXa.out.hgP
   refine bodyPost_ret (results_tmp rfl _ _ _) rfl ⟨rfl, ⟨vk2, vt2, vg, ?_⟩, ?_⟩
   ·rw [← HAT.out]
    exact ⟨HBX3.out, (HXa.out.pg.two (x := x) (fun j hj => by subst hj; exact HV1.out.block _ hPa (by simp; omega)) hab).two (x := x) (fun j hj => by subst hj; exact HV2.out.block _ (by omega) (by simp; omega)) HV2.out.size, own_base (own_over HKR.out HV2.out (by omega)) (by omega), own_base HTR.out hxb, (HXa.out.none.over HV1.out (by omega)).over HV2.out (by omega), hPx, hgP⟩
   ·exact (HVa.out.trans (OverTwo.of_left HV1.out)).trans (OverTwo.of_left HV2.out)
end Go.Proofs.YtjmpekanlmepmaaGreatDoor
