/- Package bodegalaw24: a move: a key is removed. (Printed by wip/do_gen.py.) -/
import Derived.Test.YtjmpekanlmepmaaGreatDoorB42
set_option linter.all false
namespace Go.Proofs.YtjmpekanlmepmaaGreatDoor
open Go.RowKit
def deleteK {α : Type} (l : List α) (i : Nat) : List α := l.take i ++ l.drop (i + 1)
theorem deleteK_length {α : Type} (l : List α) (i : Nat) (h : i < l.length) : (deleteK l i).length = l.length - 1 := by simp [deleteK]; omega
theorem keyCells_delete (l : List Int) (i : Nat) : (([] ++ (keyCells l).take (i * 1)) ++ (keyCells l).drop ((i + 1) * 1)) = keyCells (deleteK l i) := by
 simp [keyCells, deleteK, List.map_take, List.map_drop]
theorem ptrCells_delete (l : List Bt.Ptr) (i : Nat) (h : i < l.length) : (([] ++ (ptrCells l).take (i * 2)) ++ (ptrCells l).drop ((i + 1) * 2)) = ptrCells (deleteK l i) := by
 have e : ∀ k, k ≤ l.length → (ptrCells l).take (k * 2) = ptrCells (l.take k) ∧ (ptrCells l).drop (k * 2) = ptrCells (l.drop k) := fun k hk => by
  have e : ptrCells l = ptrCells (l.take k) ++ ptrCells (l.drop k) := by rw [← ptrCells_append, List.take_append_drop]
  have hl : (ptrCells (l.take k)).length = k * 2 := by rw [ptrCells_length, List.length_take, Nat.min_eq_left hk]
  exact ⟨by rw [e, ← hl, List.take_left], by rw [e, ← hl, List.drop_left]⟩
 rw [(e i (by omega)).1, (e (i + 1) (by omega)).2]
 simp [deleteK, ptrCells_append]
theorem ptrCells_get (l : List Bt.Ptr) (i : Nat) (p : Bt.Ptr) (h : l[i]? = some p) (j : Nat) (u : Value) (hu : p.cells[j]? = some u) : (ptrCells l)[i * 2 + j]? = some u := by
 induction l generalizing i with
 | nil => simp at h
 | cons x l ih =>
   have hj : j < 2 := by
    have := (Array.getElem?_eq_some_iff.1 hu).1
    simpa [Bt.Ptr.cells] using this
   have e : ptrCells (x :: l) = [Value.int .i64 x.line, .int .i64 x.gen] ++ ptrCells l := by simp [ptrCells, Bt.Ptr.cells]
   rw [e]
   cases i with
   | zero =>
     simp only [List.getElem?_cons_zero, Option.some.injEq] at h
     subst h
     have hj2 : j = 0 ∨ j = 1 := by omega
     rcases hj2 with rfl | rfl
     · simpa [Bt.Ptr.cells] using hu
     · simpa [Bt.Ptr.cells] using hu
   | succ i =>
     rw [List.getElem?_append_right (by simp; omega)]
     have : (i + 1) * 2 + j - [Value.int .i64 x.line, Value.int .i64 x.gen].length = i * 2 + j := by simp; omega
     rw [this]
     exact ih i (by simpa using h)
theorem isThere_lt {keys : List Int} {key : Int} (h : isThere keys key = true) : placeOf keys key < keys.length := by
 unfold isThere at h
 cases hk : keys[placeOf keys key]? with
 | none => rw [hk] at h; simp at h
 | some y => exact (List.getElem?_eq_some_iff.1 hk).1
set_option maxRecDepth 20000 in
theorem sG2 {P : Prop} (h : P := by
 obtain ⟨i1, hi1, hz10, hz11, hz12⟩ := info_parts infoU32
 obtain ⟨i2, hi2, hz20, hz21, hz22⟩ := info_parts infoPtr
 have HMK := Lib.hid hmk
 have HMY := Lib.hid hmy
 have HJ0 := Lib.hid hj
 clear hmk hmy hj
 obtain ⟨vk0, vt0, vg0, hx, hgo⟩ := h
 have HX := Lib.hid hx
 have HGO := Lib.hid hgo
 have hxlt := hx.blk.lt
 have hxlt1 : x < w.heap.size + 1 := by omega
 obtain ⟨key, hky⟩ : ∃ key, keyOf mkey = key := ⟨_, rfl⟩
 have HKY := Lib.hid hky
 (try rw [hky] at hth hot HR ⊢)
 have HTH := Lib.hid hth
 have hpl := placeOf_le keys key
 have hpl2 : placeOf keys key < keys.length := isThere_lt hth
 obtain ⟨at1, hat⟩ : ∃ at1, at1 = placeOf keys key := ⟨_, rfl⟩
 rw [← hat] at hpl hpl2 hot ⊢
 have hatl : at1 < tos.length := by omega
 have ha1 : (0 : Int) ≤ at1 := by omega
 have ha2 : (at1 : Int) < tos.length := by omega
 have hgd : tos.getD at1 default = tos[at1] := by rw [List.getD_eq_getElem?_getD, List.getElem?_eq_getElem hatl]; rfl
 rw [hgd] at hot
 have HOT := Lib.hid hot
 obtain ⟨q, hq⟩ : ∃ q, tos[at1] = q := ⟨_, rfl⟩
 rw [hq] at hot
 have HQ := Lib.hid hq
 have pq : peq o.to.line o.to.gen q.line q.gen = true := by simp [peq, hot]
 have b0 : (o.code == 0) = true := by simp [hoc]
 have HOD := Lib.hid hod
 obtain ⟨at2, hat2⟩ : ∃ at2, at2 = at1 + 1 := ⟨_, rfl⟩
 have hw1 : IntKind.i64.wrap ((at1 : Int) + 1) = (at2 : Int) := by rw [IntKind.wrap_i64]; omega
 have hat1 : at1 ≤ keys.length := hpl
 have h2a : at2 ≤ keys.length := by omega
 have h2b : at2 ≤ tos.length := by omega
 have HAT2 := Lib.hid hat2
 clear hat2
 have eq := eql_ptr
 have HAT := Lib.hid hat
 clear hx hth hoc hgo hky hot hod hq hgd hat
 unfold opCells Bt.nilP at HR
 have hj := HJ0.out
 have HJ := Lib.hid hj
 clear hj
 go_enter Tryz.func23, Tryz.ntmps23
 go_wp2_with fail
 go_at_call 25; refine (Key_any mkey HMY.out _).mono ?_; rintro e0 w0 ⟨rfl, hw0⟩; obtain rfl := hw0.symm; clear hw0
 rw [HKY.out]
 go_wp2_with fail
 go_at_call 13; refine (Pick_any mk 14 HMK.out ⟨by decide, by decide⟩ _).mono ?_; rintro e0 w0 ⟨rfl, hw0⟩; obtain rfl := hw0.symm; clear hw0
 rw [HJ.out]
 go_wp2_with fail
 go_at_call 48; refine (place_any x (x + 1) (.slice (some ⟨P, 0, none⟩) pages.length cap) vk0 vt0 vg0 next keys key _ ?hb ?hk hlen).mono ?_
 case hb => exact HX.out.blk.alloc _
 case hk => exact own_below HX.out.keys qL
 rintro e1 w1 ⟨rfl, hb1⟩
 rw [HTH.out]
 ((obtain ⟨hc1, hf1, hs1⟩ := qR hb1); (try have := qN0 w w1))
 have HB1 := Lib.hid hb1
 clear hb1
 rw [← HAT.out]
 go_wp2_with fail
 go_at_call 31; refine (HR.out _ ?hix).mono ?_
 case hix => exact ⟨_, _, _, HX.out.over (by have hb1 := HB1.out; exact qL), HGO.out.below (by have hb1 := HB1.out; exact qL)⟩
 rintro e2 w2 ⟨ve, vc, rfl, hix2, ho2, hoe, hoc2⟩
 have hse := qSt hoe
 have hsc := qSt hoc2
 obtain ⟨vk, vt, vg, hx2, hg2⟩ := hix2
 have HX2 := Lib.hid hx2
 have HG2 := Lib.hid hg2
 have HO2 := Lib.hid ho2
 have hx2l : x < w2.heap.size := hx2.blk.lt
 have hs2 : w1.heap.size ≤ w2.heap.size := ho2.size
 have HOV : Hid (OverTwo x P w w2) := Lib.hid (OverTwo.trans (OverTwo.of_below (by have hb1 := HB1.out; exact qL)) ho2)
 clear hx2 hg2 ho2 hoe hoc2
 simp only [outCells]
 rw [HOD.out]
 go_wp2_with fail
 have HXa := Lib.hid (HX2.out.over (below_alloc (Below.refl _ _) (.cells #[.int .i64 o.code, .bool o.found, .bool true, .bool o.split, .bool o.unposted, .bool o.dead, .bool o.more, .int .i64 o.to.line, .int .i64 o.to.gen, ve, vc, .int .i64 o.hops, .int .i64 o.fresh, .int .i64 o.height] 63)))
 have HGa := Lib.hid (HG2.out.below (below_alloc (Below.refl _ _) (.cells #[.int .i64 o.code, .bool o.found, .bool true, .bool o.split, .bool o.unposted, .bool o.dead, .bool o.more, .int .i64 o.to.line, .int .i64 o.to.gen, ve, vc, .int .i64 o.hops, .int .i64 o.fresh, .int .i64 o.height] 63)))
 have HOa := Lib.hid (Blk.made w2 63 #[.int .i64 o.code, .bool o.found, .bool true, .bool o.split, .bool o.unposted, .bool o.dead, .bool o.more, .int .i64 o.to.line, .int .i64 o.to.gen, ve, vc, .int .i64 o.hops, .int .i64 o.fresh, .int .i64 o.height])
 have HVa := Lib.hid (OverTwo.trans HOV.out (OverTwo.of_below (below_alloc (Below.refl _ _) (.cells #[.int .i64 o.code, .bool o.found, .bool true, .bool o.split, .bool o.unposted, .bool o.dead, .bool o.more, .int .i64 o.to.line, .int .i64 o.to.gen, ve, vc, .int .i64 o.hops, .int .i64 o.fresh, .int .i64 o.height] 63))))
 generalize hwa : World.alloc w2 _ = wa at *
 clear hwa hs1 hc1 hf1 hse hsc hs2
 have hxa : x < wa.heap.size := HXa.out.blk.lt
 have hoa : w2.heap.size < wa.heap.size := HOa.out.lt
 obtain ⟨gt, ct, rfl⟩ := own_form HXa.out.tos (by omega)
 have HBX := Lib.hid HXa.out.blk
 have kxa := HXa.out.blk.cell
 unfold ixCells at kxa
 have kO := HOa.out.cell
 have hgt := own_lt HXa.out.tos
 have hgt1 : x < gt := hgt.1
 have hgt2 : gt < wa.heap.size := hgt.2
 have tc0 : wa.cell? ⟨gt, at1 * 2, none⟩ = some (.int .i64 q.line) := by rw [← HQ.out]; exact own_cells HXa.out.tos _ _ (ptrCells_get tos at1 _ (List.getElem?_eq_getElem hatl) 0 _ rfl)
 have tc1 : wa.cell? ⟨gt, at1 * 2 + 1, none⟩ = some (.int .i64 q.gen) := by rw [← HQ.out]; exact own_cells HXa.out.tos _ _ (ptrCells_get tos at1 _ (List.getElem?_eq_getElem hatl) 1 _ rfl)
 refine qA fun hSt => ?_
 refine qS [0, 1, 2, 3, 4, 5, 6, 7, 8, 9, 10, 11, 12, 13, 14, 15, 16, 17, 18, 19] ?_
 iterate 20 (refine qT ?_; simp only [Act.put, qY])
 refine TakeSeq.done ?_
 refine qD ?_ _
 go_wp2_with fail
 clear kO tc0 tc1 hgt hgt1 hgt2
 generalize hvt : Value.slice (some ⟨gt, 0, none⟩) tos.length ct = vt at *
 clear hvt
 have HROW := Lib.hid HXa.out.keys
 obtain ⟨u1, u2, hsl1, hsl2, hsrcA⟩ := slice_facts (bytes := 0) HROW.out i1 Tryz.underlying55 elemU32 hi1 hz11 at1 (by omega) (by intro u hu; simp only [keyCells, List.mem_map] at hu; obtain ⟨y, _, rfl⟩ := hu; rfl)
 obtain ⟨u3, u4, hsl3, hsl4, hsrcB⟩ := slice_facts (bytes := 0) HROW.out i1 Tryz.underlying55 elemU32 hi1 hz11 at2 (by omega) (by intro u hu; simp only [keyCells, List.mem_map] at hu; obtain ⟨y, _, rfl⟩ := hu; rfl)
 have hvl : ∀ b, vk.ownBlock = some b → b < wa.heap.size := own_lt' HROW.out
 have hxl := keyCells_length keys
 go_cut [] (KeyCut x P pages'.length cap next' vt vg (deleteK keys at1) wa)
 case first =>
  refine wp_region_late (S := SteadyAll wa) (last := 19) (by kernel_rfl) (by kernel_rfl) (SteadyAll.of qL) ?_
  intro hSt
  refine wpAnyL_seq (is := [0, 2, 3, 4, 5, 6, 7, 9, 10, 11, 12, 13, 14, 15]) (by kernel_rfl) (by kernel_rfl) (fun _ _ d _ _ h => by cases d <;> exact h) (by assumption) ?_
  iterate 14 (refine qU ?_; simp only [Act.put, qY])
  refine TakeSeqL.done ?_
  refine qHL 1 fun K hK => ?_
  go_simp
  refine hK.out _ _ (SteadyAll.of qL) (fun hHeld => ?_)
  clear hK K
  refine qHL 8 fun K hK => ?_
  refine wp_append_src (.tmp 100) (.tmp 106) 55 rfl (wa).heap.size 52 i1 _ 1 4 Tryz.underlying55 hi1 hz10 hz11 hz12 rfl (by decide) (.slice (some ⟨(wa).heap.size, 0, none⟩) 0 0) (0) ([]) rfl (own_empty rfl (Nat.le_refl _)) (u1) (at1) ((keyCells keys).take (at1 * 1)) rfl ((hsrcA _ (fun b o hb => Below.cell (show Below (wa).heap.size (wa) _ from qL) (p := ⟨b, o, none⟩) (hvl b hb))).1) (by rw [List.length_take, hxl]; exact Nat.min_eq_left (Nat.mul_le_mul_right _ (hat1))) (by unfold maxLen; omega) (by omega) (by simp only [size_alloc, size_drew]; omega) ?_
  intro v1 w1 hown1 hg1
  have hb1 := below_grown (w := wa) qL hg1 (fun j hj => by simp [Value.ownBlock] at hj; omega)
  have hs1 := Below.size hb1
  refine hK.out _ _ (SteadyAll.of hb1) (fun hHeld => ?_)
  clear hK K
  simp only [Act.put, qY]
  refine qHL 16 fun K hK => ?_
  refine wp_append_src (.tmp 107) (.tmp 114) 55 rfl (wa).heap.size 52 i1 _ 1 4 Tryz.underlying55 hi1 hz10 hz11 hz12 rfl (by decide) (v1) (0 + at1) ([] ++ (keyCells keys).take (at1 * 1)) rfl (hown1) (u4) (keys.length - at2) ((keyCells keys).drop (at2 * 1)) rfl ((hsrcB _ (fun b o hb => (Below.cell hb1 (p := ⟨b, o, none⟩) (hvl b hb)))).2) (by rw [List.length_drop, hxl]; simp only [Nat.sub_mul]) (by unfold maxLen; omega) (by omega) (by omega) ?_
  intro v2 w2 hown2 hg2
  have hb2 := below_grown hb1 hg2 (fun j hj => own_row_ge hown1 j hj)
  refine hK.out _ _ (SteadyAll.of hb2) (fun hHeld => ?_)
  clear hK K
  simp only [Act.put, qY]
  obtain ⟨a0, n0, c0, rfl⟩ := own_slice hown2
  have BX3 := HBX.out.kept hb2
  have fx3 := BX3.free
  have kx3 : w2.cell? ⟨x, 2, none⟩ = some vk := BX3.cell 2
  have HX3 := Lib.hid BX3
  have HO3 := Lib.hid hown2
  have HB3 := Lib.hid hb2
  clear BX3 hown1 hown2 hg1 hg2 hb1 hb2
  refine wpAnyL_seq (is := [17, 18]) (by kernel_rfl) (by kernel_rfl) (fun _ _ d _ _ h => by cases d <;> exact h) (by assumption) ?_
  iterate 2 (refine qU ?_; simp only [Act.put, qY])
  refine TakeSeqL.done ?_
  refine wpAnyL_ready (rs := [19]) (by kernel_rfl) (by simp) ?_
  refine AllReadyL.final rfl (fun K hK => ?_)
  rw [if_pos (by rfl)]
  go_simp
  refine hK.out _ _ ?_
  clear hK K
  refine wpAnyL_done (by kernel_rfl) ?_ _
  go_wp2_with fail
  go_meet
  have hO4 := own_cast HO3.out (show 0 + at1 + (keys.length - at2) = (deleteK keys at1).length by rw [deleteK_length _ _ hpl2]; have h9 := HAT2.out; omega) (show _ = keyCells (deleteK keys at1) from by rw [HAT2.out]; exact keyCells_delete keys at1)
  exact ⟨_, (HX3.out.put 2 _).cast rfl, own_aside (p := ⟨x, 2, none⟩) hO4 (by show x < (wa).heap.size; omega) _, Over.put (Over.of_below HB3.out) 2 _⟩
 case rest =>
  rename World => wb
  obtain ⟨vk2, BX, how, hov⟩ := hcut
  have htr : wb.ownsRow (x + 1) 27 2 vt tos.length (ptrCells tos) := own_over HXa.out.tos hov (by omega)
  have HROW2 := Lib.hid htr
  have HBX2 := Lib.hid BX
  have HKR := Lib.hid how
  have HV1 := Lib.hid hov
  have kxb := BX.cell
  have hxb : x < wb.heap.size := BX.lt
  unfold ixCells at kxb
  clear BX how hov htr kxa hsl1 hsl2 hsl3 hsl4 hsrcA hsrcB hvl hxl
  obtain ⟨u1, u2, hsl1, hsl2, hsrcA⟩ := slice_facts (bytes := 0) HROW2.out i2 Tryz.underlying56 elemPtr hi2 hz21 at1 (by omega) (by intro u hu; simp only [ptrCells, List.mem_flatMap] at hu; obtain ⟨y, _, hu⟩ := hu; simp [Bt.Ptr.cells] at hu; rcases hu with rfl | rfl <;> rfl)
  obtain ⟨u3, u4, hsl3, hsl4, hsrcB⟩ := slice_facts (bytes := 0) HROW2.out i2 Tryz.underlying56 elemPtr hi2 hz21 at2 (by omega) (by intro u hu; simp only [ptrCells, List.mem_flatMap] at hu; obtain ⟨y, _, hu⟩ := hu; simp [Bt.Ptr.cells] at hu; rcases hu with rfl | rfl <;> rfl)
  have hvl : ∀ b, vt.ownBlock = some b → b < wb.heap.size := own_lt' HROW2.out
  have hxl := ptrCells_length tos
  go_wp2_with fail
  go_cut [] (ToCut x P pages'.length cap next' vk2 vg (deleteK tos at1) wb)
  case first =>
   refine wp_region_late (S := SteadyAll wb) (last := 19) (by kernel_rfl) (by kernel_rfl) (SteadyAll.of qL) ?_
   intro hSt
   refine wpAnyL_seq (is := [0, 2, 3, 4, 5, 6, 7, 9, 10, 11, 12, 13, 14, 15]) (by kernel_rfl) (by kernel_rfl) (fun _ _ d _ _ h => by cases d <;> exact h) (by assumption) ?_
   iterate 14 (refine qU ?_; simp only [Act.put, qY])
   refine TakeSeqL.done ?_
   refine qHL 1 fun K hK => ?_
   go_simp
   refine hK.out _ _ (SteadyAll.of qL) (fun hHeld => ?_)
   clear hK K
   refine qHL 8 fun K hK => ?_
   refine wp_append_src (.tmp 119) (.tmp 125) 56 rfl (wb).heap.size 27 i2 _ 2 16 Tryz.underlying56 hi2 hz20 hz21 hz22 rfl (by decide) (.slice (some ⟨(wb).heap.size, 0, none⟩) 0 0) (0) ([]) rfl (own_empty rfl (Nat.le_refl _)) (u1) (at1) ((ptrCells tos).take (at1 * 2)) rfl ((hsrcA _ (fun b o hb => Below.cell (show Below (wb).heap.size (wb) _ from qL) (p := ⟨b, o, none⟩) (hvl b hb))).1) (by rw [List.length_take, hxl]; exact Nat.min_eq_left (Nat.mul_le_mul_right _ (Nat.le_of_lt hatl))) (by unfold maxLen; omega) (by omega) (by simp only [size_alloc, size_drew]; omega) ?_
   intro v1 w1 hown1 hg1
   have hb1 := below_grown (w := wb) qL hg1 (fun j hj => by simp [Value.ownBlock] at hj; omega)
   have hs1 := Below.size hb1
   refine hK.out _ _ (SteadyAll.of hb1) (fun hHeld => ?_)
   clear hK K
   simp only [Act.put, qY]
   refine qHL 16 fun K hK => ?_
   refine wp_append_src (.tmp 126) (.tmp 133) 56 rfl (wb).heap.size 27 i2 _ 2 16 Tryz.underlying56 hi2 hz20 hz21 hz22 rfl (by decide) (v1) (0 + at1) ([] ++ (ptrCells tos).take (at1 * 2)) rfl (hown1) (u4) (tos.length - at2) ((ptrCells tos).drop (at2 * 2)) rfl ((hsrcB _ (fun b o hb => (Below.cell hb1 (p := ⟨b, o, none⟩) (hvl b hb)))).2) (by rw [List.length_drop, hxl]; simp only [Nat.sub_mul]) (by unfold maxLen; omega) (by omega) (by omega) ?_
   intro v2 w2 hown2 hg2
   have hb2 := below_grown hb1 hg2 (fun j hj => own_row_ge hown1 j hj)
   refine hK.out _ _ (SteadyAll.of hb2) (fun hHeld => ?_)
   clear hK K
   simp only [Act.put, qY]
   obtain ⟨a0, n0, c0, rfl⟩ := own_slice hown2
   have BX3 := HBX2.out.kept hb2
   have fx3 := BX3.free
   have kx3 : w2.cell? ⟨x, 3, none⟩ = some vt := BX3.cell 3
   have HX3 := Lib.hid BX3
   have HO3 := Lib.hid hown2
   have HB3 := Lib.hid hb2
   clear BX3 hown1 hown2 hg1 hg2 hb1 hb2
   refine wpAnyL_seq (is := [17, 18]) (by kernel_rfl) (by kernel_rfl) (fun _ _ d _ _ h => by cases d <;> exact h) (by assumption) ?_
   iterate 2 (refine qU ?_; simp only [Act.put, qY])
   refine TakeSeqL.done ?_
   refine wpAnyL_ready (rs := [19]) (by kernel_rfl) (by simp) ?_
   refine AllReadyL.final rfl (fun K hK => ?_)
   rw [if_pos (by rfl)]
   go_simp
   refine hK.out _ _ ?_
   clear hK K
   refine wpAnyL_done (by kernel_rfl) ?_ _
   go_wp2_with fail
   go_meet
   have hO4 := own_cast HO3.out (show 0 + at1 + (tos.length - at2) = (deleteK tos at1).length by rw [deleteK_length _ _ hatl]; have h9 := HAT2.out; omega) (show _ = ptrCells (deleteK tos at1) from by rw [HAT2.out]; exact ptrCells_delete tos at1 hatl)
   exact ⟨_, (HX3.out.put 3 _).cast rfl, own_aside (p := ⟨x, 3, none⟩) hO4 (by show x < (wb).heap.size; omega) _, Over.put (Over.of_below HB3.out) 3 _⟩
  case rest =>
   rename World => wf
   obtain ⟨vt2, BX, how, hov⟩ := hcut
   have HBX3 := Lib.hid BX
   have HTR := Lib.hid how
   have HV2 := Lib.hid hov
   clear BX how hov kxb
   go_wp2_with fail
   have hab : wa.heap.size ≤ wb.heap.size := HV1.out.size
   have hPa : P < wa.heap.size := HXa.out.pg.lt
   have hPx := HXa.out.hPx
   have hgP := HXa.out.hgP
   refine bodyPost_ret (results_tmp rfl _ _ _) rfl ⟨rfl, ⟨vk2, vt2, vg, ?_, Gone.newTo HGa.out ((HGa.out.over HV1.out).over HV2.out) (fun c hc => Nat.le_trans hab (own_row_ge HTR.out c hc))⟩, ?_⟩
   · exact ⟨HBX3.out, (HXa.out.pg.two (x := x) (fun j hj => by subst hj; exact HV1.out.block _ hPa (by simp; omega)) hab).two (x := x) (fun j hj => by subst hj; exact HV2.out.block _ (by omega) (by simp; omega)) HV2.out.size, own_base (own_over HKR.out HV2.out (by omega)) (by omega), own_base HTR.out hxb, (HXa.out.none.over HV1.out (by omega)).over HV2.out (by omega), hPx, hgP⟩
   · exact (HVa.out.trans (OverTwo.of_left HV1.out)).trans (OverTwo.of_left HV2.out)) : P := h
set_option maxRecDepth 10000 in
set_option maxHeartbeats 4000000 in
theorem do_rem_there6 (x P cap G : Nat) (pages pages' : List Bt.Page) (next next' : Int) (keys : List Int) (tos : List Bt.Ptr) (mk mkey ml n : Int) (hmk : -9223372036854775808 ≤ mk ∧ mk ≤ 9223372036854775807) (hmy : -9223372036854775808 ≤ mkey ∧ mkey ≤ 9223372036854775807) (o : Bt.Out) (w : World) (h : IxG x P cap G pages next keys tos w) (hj : pick mk 14 = 6) (hth : isThere keys (keyOf mkey) = true) (hlen : keys.length ≤ 1000) (htl : tos.length = keys.length) (hoc : o.code = 0) (hod : o.done = true) (hot : o.to = tos.getD (placeOf keys (keyOf mkey)) default)
 (HR : Hid (∀ w', IxG x P cap G pages next keys tos w' → Calls Tryz.prog 31 #[.pointer (some ⟨x, 0, none⟩), .agg (opCells ⟨3, keyOf mkey, 0, Bt.nilP, 0, 0, []⟩ (.slice none 0 0))] w' (RunIxG x P cap G pages' next' keys tos o w'))) :
 Calls Tryz.prog 23 #[.pointer (some ⟨x, 0, none⟩), .agg #[.int .i64 mk, .int .i64 mkey, .int .i64 ml], .int .i64 n] w (InsPostG x P cap G pages' next' (deleteK keys (placeOf keys (keyOf mkey))) (deleteK tos (placeOf keys (keyOf mkey))) true w) := by
 exact sG2
set_option maxRecDepth 10000 in
set_option maxHeartbeats 4000000 in
theorem do_rem_there7 (x P cap G : Nat) (pages pages' : List Bt.Page) (next next' : Int) (keys : List Int) (tos : List Bt.Ptr) (mk mkey ml n : Int) (hmk : -9223372036854775808 ≤ mk ∧ mk ≤ 9223372036854775807) (hmy : -9223372036854775808 ≤ mkey ∧ mkey ≤ 9223372036854775807) (o : Bt.Out) (w : World) (h : IxG x P cap G pages next keys tos w) (hj : pick mk 14 = 7) (hth : isThere keys (keyOf mkey) = true) (hlen : keys.length ≤ 1000) (htl : tos.length = keys.length) (hoc : o.code = 0) (hod : o.done = true) (hot : o.to = tos.getD (placeOf keys (keyOf mkey)) default)
 (HR : Hid (∀ w', IxG x P cap G pages next keys tos w' → Calls Tryz.prog 31 #[.pointer (some ⟨x, 0, none⟩), .agg (opCells ⟨3, keyOf mkey, 0, Bt.nilP, 0, 0, []⟩ (.slice none 0 0))] w' (RunIxG x P cap G pages' next' keys tos o w'))) :
 Calls Tryz.prog 23 #[.pointer (some ⟨x, 0, none⟩), .agg #[.int .i64 mk, .int .i64 mkey, .int .i64 ml], .int .i64 n] w (InsPostG x P cap G pages' next' (deleteK keys (placeOf keys (keyOf mkey))) (deleteK tos (placeOf keys (keyOf mkey))) true w) := by
 exact sG2
set_option maxRecDepth 10000 in
set_option maxHeartbeats 4000000 in
theorem do_rem_there8 (x P cap G : Nat) (pages pages' : List Bt.Page) (next next' : Int) (keys : List Int) (tos : List Bt.Ptr) (mk mkey ml n : Int) (hmk : -9223372036854775808 ≤ mk ∧ mk ≤ 9223372036854775807) (hmy : -9223372036854775808 ≤ mkey ∧ mkey ≤ 9223372036854775807) (o : Bt.Out) (w : World) (h : IxG x P cap G pages next keys tos w) (hj : pick mk 14 = 8) (hth : isThere keys (keyOf mkey) = true) (hlen : keys.length ≤ 1000) (htl : tos.length = keys.length) (hoc : o.code = 0) (hod : o.done = true) (hot : o.to = tos.getD (placeOf keys (keyOf mkey)) default)
 (HR : Hid (∀ w', IxG x P cap G pages next keys tos w' → Calls Tryz.prog 31 #[.pointer (some ⟨x, 0, none⟩), .agg (opCells ⟨3, keyOf mkey, 0, Bt.nilP, 0, 0, []⟩ (.slice none 0 0))] w' (RunIxG x P cap G pages' next' keys tos o w'))) :
 Calls Tryz.prog 23 #[.pointer (some ⟨x, 0, none⟩), .agg #[.int .i64 mk, .int .i64 mkey, .int .i64 ml], .int .i64 n] w (InsPostG x P cap G pages' next' (deleteK keys (placeOf keys (keyOf mkey))) (deleteK tos (placeOf keys (keyOf mkey))) true w) := by
 exact sG2
theorem do_rem_there (x P cap G : Nat) (pages pages' : List Bt.Page) (next next' : Int) (keys : List Int) (tos : List Bt.Ptr) (mk mkey ml n : Int) (hmk : -9223372036854775808 ≤ mk ∧ mk ≤ 9223372036854775807) (hmy : -9223372036854775808 ≤ mkey ∧ mkey ≤ 9223372036854775807) (o : Bt.Out) (w : World) (h : IxG x P cap G pages next keys tos w) (hj : pick mk 14 = 6 ∨ pick mk 14 = 7 ∨ pick mk 14 = 8) (hth : isThere keys (keyOf mkey) = true) (hlen : keys.length ≤ 1000) (htl : tos.length = keys.length) (hoc : o.code = 0) (hod : o.done = true) (hot : o.to = tos.getD (placeOf keys (keyOf mkey)) default)
 (HR : Hid (∀ w', IxG x P cap G pages next keys tos w' → Calls Tryz.prog 31 #[.pointer (some ⟨x, 0, none⟩), .agg (opCells ⟨3, keyOf mkey, 0, Bt.nilP, 0, 0, []⟩ (.slice none 0 0))] w' (RunIxG x P cap G pages' next' keys tos o w'))) :
 Calls Tryz.prog 23 #[.pointer (some ⟨x, 0, none⟩), .agg #[.int .i64 mk, .int .i64 mkey, .int .i64 ml], .int .i64 n] w (InsPostG x P cap G pages' next' (deleteK keys (placeOf keys (keyOf mkey))) (deleteK tos (placeOf keys (keyOf mkey))) true w) := by
 rcases hj with hj | hj | hj
 · exact do_rem_there6 x P cap G pages pages' next next' keys tos mk mkey ml n hmk hmy o w h hj hth hlen htl hoc hod hot HR
 · exact do_rem_there7 x P cap G pages pages' next next' keys tos mk mkey ml n hmk hmy o w h hj hth hlen htl hoc hod hot HR
 · exact do_rem_there8 x P cap G pages pages' next next' keys tos mk mkey ml n hmk hmy o w h hj hth hlen htl hoc hod hot HR
end Go.Proofs.YtjmpekanlmepmaaGreatDoor
