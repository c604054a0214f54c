/- Package bodegalaw24: a move: a key is removed. (Printed by wip/do_gen.py.) -/
import Derived.Test.YtjmpekanlmepmaaGreatDoorBB42
set_option linter.all false
set_option maxRecDepth 20000
set_option maxHeartbeats 8000000
open Go.Lib (hid)
namespace Go.Proofs.YtjmpekanlmepmaaGreatDoor
open Go.RowKit
def Z18 {α : Type} (l : List α) (i : Nat) : List α := l.take i ++ l.drop (i + 1)
theorem Z2m {α : Type} (l : List α) (i : Nat) (h : i < l.length) : (Z18 l i).length = l.length - 1 := by simp [Z18]; omega
theorem Z3t (l : List Int) (i : Nat) : (([] ++ (Z0z l).take (i * 1)) ++ (Z0z l).drop ((i + 1) * 1)) = Z0z (Z18 l i) := by
 simp [Z0z, Z18, List.map_take, List.map_drop]
theorem Z3m (l : List Bt.Ptr) (i : Nat) (h : i < l.length) : (([] ++ (Z0b l).take (i * 2)) ++ (Z0b l).drop ((i + 1) * 2)) = Z0b (Z18 l i) := by
 have e : ∀ k, k ≤ l.length → (Z0b l).take (k * 2) = Z0b (l.take k) ∧ (Z0b l).drop (k * 2) = Z0b (l.drop k) := fun k hk => by
  have e : Z0b l = Z0b (l.take k) ++ Z0b (l.drop k) := by rw [← Z2u, List.take_append_drop]
  have hl : (Z0b (l.take k)).length = k * 2 := by rw [Z27, List.length_take, Nat.min_eq_left hk]
  exact ⟨by rw [e, ← hl, List.take_left], by rw [e, ← hl, List.drop_left]⟩
 rw [(e i (by omega)).1, (e (i + 1) (by omega)).2]
 simp [Z18, Z2u]
theorem Z1C (l : List Bt.Ptr) (i : Nat) (p : Bt.Ptr) (h : l[i]? = some p) (j : Nat) (u : Value) (hu : p.cells[j]? = some u) : (Z0b l)[i * 2 + j]? = some u := by
 induction l generalizing i with
 | nil => simp at h
 | cons x l ih =>
   have hj : j < 2 := by
    have := (Array.getElem?_eq_some_iff.1 hu).1
    simpa [Bt.Ptr.cells] using this
   have e : Z0b (x :: l) = [Value.int .i64 x.line, .int .i64 x.gen] ++ Z0b l := by simp [Z0b, Bt.Ptr.cells]
   rw [e]
   cases i with
   | zero =>
     simp only [List.getElem?_cons_zero, Option.some.injEq] at h
     subst h
     have hj2 : j = 0 ∨ j = 1 := by omega
     rcases hj2 with rfl | rfl
     ·simpa [Bt.Ptr.cells] using hu
     ·simpa [Bt.Ptr.cells] using hu
   | succ i =>
     rw [List.getElem?_append_right (by simp; omega)]
     have : (i + 1) * 2 + j - [Value.int .i64 x.line, Value.int .i64 x.gen].length = i * 2 + j := by simp; omega
     rw [this]
     exact ih i (by simpa using h)
theorem Z4y {keys : List Int} {key : Int} (h : Z2p keys key = true) : placeOf keys key < keys.length := by
 unfold Z2p at h
 cases hk : keys[placeOf keys key]? with
 | none => rw [hk] at h; simp at h
 | some y => exact (List.getElem?_eq_some_iff.1 hk).1
theorem sG2 {P : Prop} (h : P := by
 obtain ⟨i1, hi1, hz10, hz11, hz12⟩ := info_parts Z70
 obtain ⟨i2, hi2, hz20, hz21, hz22⟩ := info_parts Z5r
 have HMK := hid hmk
 have HMY := hid hmy
 have HJ0 := hid hj
 clear hmk hmy hj
 obtain ⟨vk0, vt0, vg0, hx, hgo⟩ := h
 have HX := hid hx
 have HGO := hid hgo
 have hxlt := hx.blk.lt
 have hxlt1 : x < w.heap.size + 1 := by omega
 obtain ⟨key, hky⟩ : ∃ key, keyOf mkey = key := ⟨_, rfl⟩
 have HKY := hid hky
 (try rw [hky] at hth hot HR ⊢)
 have HTH := hid hth
 have hpl := Z4u keys key
 have hpl2 : placeOf keys key < keys.length := Z4y hth
 obtain ⟨at1, hat⟩ : ∃ at1, at1 = placeOf keys key := ⟨_, rfl⟩
 rw [← hat] at hpl hpl2 hot ⊢
 have hatl : at1 < tos.length := by omega
 have ha1 : (0 : Int) ≤ at1 := by omega
 have ha2 : (at1 : Int) < tos.length := by omega
 have hgd : tos.getD at1 default = tos[at1] := by rw [List.getD_eq_getElem?_getD, List.getElem?_eq_getElem hatl]; rfl
 rw [hgd] at hot
 have HOT := hid hot
 obtain ⟨q, hq⟩ : ∃ q, tos[at1] = q := ⟨_, rfl⟩
 rw [hq] at hot
 have HQ := hid hq
 have pq : peq o.to.line o.to.gen q.line q.gen = true := by simp [peq, hot]
 have b0 : (o.code == 0) = true := by simp [hoc]
 have HOD := hid hod
 obtain ⟨at2, hat2⟩ : ∃ at2, at2 = at1 + 1 := ⟨_, rfl⟩
 have hw1 : IntKind.i64.wrap ((at1 : Int) + 1) = (at2 : Int) := by rw [IntKind.wrap_i64]; omega
 have hat1 : at1 ≤ keys.length := hpl
 have h2a : at2 ≤ keys.length := by omega
 have h2b : at2 ≤ tos.length := by omega
 have HAT2 := hid hat2
 clear hat2
 have eq := eql_ptr
 have HAT := hid hat
 clear hx hth hoc hgo hky hot hod hq hgd hat
 unfold Z0d Bt.nilP at HR
 have hj := HJ0.out
 have HJ := hid hj
 clear hj
 go_enter Tryz.func23, Tryz.ntmps23
 go_wp2_with fail
 go_at_call 25; refine (Z2w mkey HMY.out _).mono ?_; rintro e0 w0 ⟨rfl, hw0⟩; obtain rfl := hw0.symm; clear hw0
 rw [HKY.out]
 go_wp2_with fail
 go_at_call 13; refine (Z1B mk 14 HMK.out ⟨by decide, by decide⟩ _).mono ?_; rintro e0 w0 ⟨rfl, hw0⟩; obtain rfl := hw0.symm; clear hw0
 rw [HJ.out]
 go_wp2_with fail
 go_at_call 48; refine (Z32 x (x + 1) (.slice (some ⟨P, 0, none⟩) pages.length cap) vk0 vt0 vg0 next keys key _ ?hb ?hk hlen).mono ?_
 case hb => exact HX.out.blk.alloc _
 case hk => exact own_below HX.out.keys qL
 rintro e1 w1 ⟨rfl, hb1⟩
 rw [HTH.out]
 ((obtain ⟨hc1, hf1, hs1⟩ := qR hb1); (try have := qN0 w w1))
 have HB1 := hid hb1
 clear hb1
 rw [← HAT.out]
 go_wp2_with fail
 go_at_call 31; refine (HR.out _ ?hix).mono ?_
 case hix => exact ⟨_, _, _, HX.out.over (by have hb1 := HB1.out; exact qL), HGO.out.below (by have hb1 := HB1.out; exact qL)⟩
 rintro e2 w2 ⟨ve, vc, rfl, hix2, ho2, hoe, hoc2⟩
 have hse := qSt hoe
 have hsc := qSt hoc2
 obtain ⟨vk, vt, vg, hx2, hg2⟩ := hix2
 have HX2 := hid hx2
 have HG2 := hid hg2
 have HO2 := hid ho2
 have hx2l : x < w2.heap.size := hx2.blk.lt
 have hs2 : w1.heap.size ≤ w2.heap.size := ho2.size
 have HOV : Hid (OverTwo x P w w2) := hid (OverTwo.trans (OverTwo.of_below (by have hb1 := HB1.out; exact qL)) ho2)
 clear hx2 hg2 ho2 hoe hoc2
 simp only [Z0n]
 rw [HOD.out]
 go_wp2_with fail
 have HXa := hid (HX2.out.over (Z06 (Below.refl _ _) (.cells #[.int .i64 o.code, .bool o.found, .bool true, .bool o.split, .bool o.unposted, .bool o.dead, .bool o.more, .int .i64 o.to.line, .int .i64 o.to.gen, ve, vc, .int .i64 o.hops, .int .i64 o.fresh, .int .i64 o.height] 63)))
 have HGa := hid (HG2.out.below (Z06 (Below.refl _ _) (.cells #[.int .i64 o.code, .bool o.found, .bool true, .bool o.split, .bool o.unposted, .bool o.dead, .bool o.more, .int .i64 o.to.line, .int .i64 o.to.gen, ve, vc, .int .i64 o.hops, .int .i64 o.fresh, .int .i64 o.height] 63)))
 have HOa := hid (Blk.made w2 63 #[.int .i64 o.code, .bool o.found, .bool true, .bool o.split, .bool o.unposted, .bool o.dead, .bool o.more, .int .i64 o.to.line, .int .i64 o.to.gen, ve, vc, .int .i64 o.hops, .int .i64 o.fresh, .int .i64 o.height])
 have HVa := hid (OverTwo.trans HOV.out (OverTwo.of_below (Z06 (Below.refl _ _) (.cells #[.int .i64 o.code, .bool o.found, .bool true, .bool o.split, .bool o.unposted, .bool o.dead, .bool o.more, .int .i64 o.to.line, .int .i64 o.to.gen, ve, vc, .int .i64 o.hops, .int .i64 o.fresh, .int .i64 o.height] 63))))
 generalize hwa : World.alloc w2 _ = wa at *
 clear hwa hs1 hc1 hf1 hse hsc hs2
 have hxa : x < wa.heap.size := HXa.out.blk.lt
 have hoa : w2.heap.size < wa.heap.size := HOa.out.lt
 obtain ⟨gt, ct, rfl⟩ := Z0D HXa.out.tos (by omega)
 have HBX := hid HXa.out.blk
 have kxa := HXa.out.blk.cell
 unfold Z1P at kxa
 have kO := HOa.out.cell
 have hgt := Z0X HXa.out.tos
 have hgt1 : x < gt := hgt.1
 have hgt2 : gt < wa.heap.size := hgt.2
 have tc0 : wa.cell? ⟨gt, at1 * 2, none⟩ = some (.int .i64 q.line) := by rw [← HQ.out]; exact Z0i HXa.out.tos _ _ (Z1C tos at1 _ (List.getElem?_eq_getElem hatl) 0 _ rfl)
 have tc1 : wa.cell? ⟨gt, at1 * 2 + 1, none⟩ = some (.int .i64 q.gen) := by rw [← HQ.out]; exact Z0i HXa.out.tos _ _ (Z1C tos at1 _ (List.getElem?_eq_getElem hatl) 1 _ rfl)
 refine qA fun hSt => ?_
 refine qS [0, 1, 2, 3, 4, 5, 6, 7, 8, 9, 10, 11, 12, 13, 14, 15, 16, 17, 18, 19] ?_
 iterate 20 (refine qT ?_; simp only [Act.put, qY])
 refine Z00.done ?_
 refine qD ?_ _
 go_wp2_with fail
 clear kO tc0 tc1 hgt hgt1 hgt2
 generalize hvt : Value.slice (some ⟨gt, 0, none⟩) tos.length ct = vt at *
 clear hvt
 have HROW := hid HXa.out.keys
 obtain ⟨u1, u2, hsl1, hsl2, hsrcA⟩ := Z1r (bytes := 0) HROW.out i1 Tryz.underlying55 Z4R hi1 hz11 at1 (by omega) (by intro u hu; simp only [Z0z, List.mem_map] at hu; obtain ⟨y, _, rfl⟩ := hu; rfl)
 obtain ⟨u3, u4, hsl3, hsl4, hsrcB⟩ := Z1r (bytes := 0) HROW.out i1 Tryz.underlying55 Z4R hi1 hz11 at2 (by omega) (by intro u hu; simp only [Z0z, List.mem_map] at hu; obtain ⟨y, _, rfl⟩ := hu; rfl)
 have hvl : ∀ b, vk.ownBlock = some b → b < wa.heap.size := own_lt' HROW.out
 have hxl := Z2N keys
 go_cut [] (Z93 x P pages'.length cap next' vt vg (Z18 keys at1) wa)
 case first =>
  refine Z1z (S := SteadyAll wa) (last := 19) (by kernel_rfl) (by kernel_rfl) (SteadyAll.of qL) ?_
  intro hSt
  refine Z11 (is := [0, 2, 3, 4, 5, 6, 7, 9, 10, 11, 12, 13, 14, 15]) (by kernel_rfl) (by kernel_rfl) (fun _ _ d _ _ h => by cases d <;> exact h) (by assumption) ?_
  iterate 14 (refine qU ?_; simp only [Act.put, qY])
  refine Z12.done ?_
  refine qHL 1 fun K hK => ?_
  go_simp
  refine hK.out _ _ (SteadyAll.of qL) (fun hHeld => ?_)
  clear hK K
  refine qHL 8 fun K hK => ?_
  refine Z0m (.tmp 100) (.tmp 106) 55 rfl (wa).heap.size 52 i1 _ 1 4 Tryz.underlying55 hi1 hz10 hz11 hz12 rfl (by decide) (.slice (some ⟨(wa).heap.size, 0, none⟩) 0 0) (0) ([]) rfl (Z2i rfl (Nat.le_refl _)) (u1) (at1) ((Z0z keys).take (at1 * 1)) rfl ((hsrcA _ (fun b o hb => Below.cell (show Below (wa).heap.size (wa) _ from qL) (p := ⟨b, o, none⟩) (hvl b hb))).1) (by rw [List.length_take, hxl]; exact Nat.min_eq_left (Nat.mul_le_mul_right _ (hat1))) (by unfold maxLen; omega) (by omega) (by simp only [size_alloc, size_drew]; omega) ?_
  intro v1 w1 hown1 hg1
  have hb1 := below_grown (w := wa) qL hg1 (fun j hj => by simp [Value.ownBlock] at hj; omega)
  have hs1 := Below.size hb1
  refine hK.out _ _ (SteadyAll.of hb1) (fun hHeld => ?_)
  clear hK K
  simp only [Act.put, qY]
  refine qHL 16 fun K hK => ?_
  refine Z0m (.tmp 107) (.tmp 114) 55 rfl (wa).heap.size 52 i1 _ 1 4 Tryz.underlying55 hi1 hz10 hz11 hz12 rfl (by decide) (v1) (0 + at1) ([] ++ (Z0z keys).take (at1 * 1)) rfl (hown1) (u4) (keys.length - at2) ((Z0z keys).drop (at2 * 1)) rfl ((hsrcB _ (fun b o hb => (Below.cell hb1 (p := ⟨b, o, none⟩) (hvl b hb)))).2) (by rw [List.length_drop, hxl]; simp only [Nat.sub_mul]) (by unfold maxLen; omega) (by omega) (by omega) ?_
  intro v2 w2 hown2 hg2
  have hb2 := below_grown hb1 hg2 (fun j hj => Z0k hown1 j hj)
  refine hK.out _ _ (SteadyAll.of hb2) (fun hHeld => ?_)
  clear hK K
  simp only [Act.put, qY]
  obtain ⟨a0, n0, c0, rfl⟩ := Z3n hown2
  have BX3 := HBX.out.kept hb2
  have fx3 := BX3.free
  have kx3 : w2.cell? ⟨x, 2, none⟩ = some vk := BX3.cell 2
  have HX3 := hid BX3
  have HO3 := hid hown2
  have HB3 := hid hb2
  clear BX3 hown1 hown2 hg1 hg2 hb1 hb2
  refine Z11 (is := [17, 18]) (by kernel_rfl) (by kernel_rfl) (fun _ _ d _ _ h => by cases d <;> exact h) (by assumption) ?_
  iterate 2 (refine qU ?_; simp only [Act.put, qY])
  refine Z12.done ?_
  refine Z0V (rs := [19]) (by kernel_rfl) (by simp) ?_
  refine Z0F.final rfl (fun K hK => ?_)
  rw [if_pos (by rfl)]
  go_simp
  refine hK.out _ _ ?_
  clear hK K
  refine Z1x (by kernel_rfl) ?_ _
  go_wp2_with fail
  go_meet
  have hO4 := Z26 HO3.out (show 0 + at1 + (keys.length - at2) = (Z18 keys at1).length by rw [Z2m _ _ hpl2]; have h9 := HAT2.out; omega) (show _ = Z0z (Z18 keys at1) from by rw [HAT2.out]; exact Z3t keys at1)
  exact ⟨_, (HX3.out.put 2 _).cast rfl, Z01 (p := ⟨x, 2, none⟩) hO4 (by show x < (wa).heap.size; omega) _, Over.put (Over.of_below HB3.out) 2 _⟩
 case rest =>
  rename World => wb
  obtain ⟨vk2, BX, how, hov⟩ := hcut
  have htr : wb.ownsRow (x + 1) 27 2 vt tos.length (Z0b tos) := Z0H HXa.out.tos hov (by omega)
  have HROW2 := hid htr
  have HBX2 := hid BX
  have HKR := hid how
  have HV1 := hid hov
  have kxb := BX.cell
  have hxb : x < wb.heap.size := BX.lt
  unfold Z1P at kxb
  clear BX how hov htr kxa hsl1 hsl2 hsl3 hsl4 hsrcA hsrcB hvl hxl
  obtain ⟨u1, u2, hsl1, hsl2, hsrcA⟩ := Z1r (bytes := 0) HROW2.out i2 Tryz.underlying56 Z4S hi2 hz21 at1 (by omega) (by intro u hu; simp only [Z0b, List.mem_flatMap] at hu; obtain ⟨y, _, hu⟩ := hu; simp [Bt.Ptr.cells] at hu; rcases hu with rfl | rfl <;> rfl)
  obtain ⟨u3, u4, hsl3, hsl4, hsrcB⟩ := Z1r (bytes := 0) HROW2.out i2 Tryz.underlying56 Z4S hi2 hz21 at2 (by omega) (by intro u hu; simp only [Z0b, List.mem_flatMap] at hu; obtain ⟨y, _, hu⟩ := hu; simp [Bt.Ptr.cells] at hu; rcases hu with rfl | rfl <;> rfl)
  have hvl : ∀ b, vt.ownBlock = some b → b < wb.heap.size := own_lt' HROW2.out
  have hxl := Z27 tos
  go_wp2_with fail
  go_cut [] (ToCut x P pages'.length cap next' vk2 vg (Z18 tos at1) wb)
  case first =>
   refine Z1z (S := SteadyAll wb) (last := 19) (by kernel_rfl) (by kernel_rfl) (SteadyAll.of qL) ?_
   intro hSt
   refine Z11 (is := [0, 2, 3, 4, 5, 6, 7, 9, 10, 11, 12, 13, 14, 15]) (by kernel_rfl) (by kernel_rfl) (fun _ _ d _ _ h => by cases d <;> exact h) (by assumption) ?_
   iterate 14 (refine qU ?_; simp only [Act.put, qY])
   refine Z12.done ?_
   refine qHL 1 fun K hK => ?_
   go_simp
   refine hK.out _ _ (SteadyAll.of qL) (fun hHeld => ?_)
   clear hK K
   refine qHL 8 fun K hK => ?_
   refine Z0m (.tmp 119) (.tmp 125) 56 rfl (wb).heap.size 27 i2 _ 2 16 Tryz.underlying56 hi2 hz20 hz21 hz22 rfl (by decide) (.slice (some ⟨(wb).heap.size, 0, none⟩) 0 0) (0) ([]) rfl (Z2i rfl (Nat.le_refl _)) (u1) (at1) ((Z0b tos).take (at1 * 2)) rfl ((hsrcA _ (fun b o hb => Below.cell (show Below (wb).heap.size (wb) _ from qL) (p := ⟨b, o, none⟩) (hvl b hb))).1) (by rw [List.length_take, hxl]; exact Nat.min_eq_left (Nat.mul_le_mul_right _ (Nat.le_of_lt hatl))) (by unfold maxLen; omega) (by omega) (by simp only [size_alloc, size_drew]; omega) ?_
   intro v1 w1 hown1 hg1
   have hb1 := below_grown (w := wb) qL hg1 (fun j hj => by simp [Value.ownBlock] at hj; omega)
   have hs1 := Below.size hb1
   refine hK.out _ _ (SteadyAll.of hb1) (fun hHeld => ?_)
   clear hK K
   simp only [Act.put, qY]
   refine qHL 16 fun K hK => ?_
   refine Z0m (.tmp 126) (.tmp 133) 56 rfl (wb).heap.size 27 i2 _ 2 16 Tryz.underlying56 hi2 hz20 hz21 hz22 rfl (by decide) (v1) (0 + at1) ([] ++ (Z0b tos).take (at1 * 2)) rfl (hown1) (u4) (tos.length - at2) ((Z0b tos).drop (at2 * 2)) rfl ((hsrcB _ (fun b o hb => (Below.cell hb1 (p := ⟨b, o, none⟩) (hvl b hb)))).2) (by rw [List.length_drop, hxl]; simp only [Nat.sub_mul]) (by unfold maxLen; omega) (by omega) (by omega) ?_
   intro v2 w2 hown2 hg2
   have hb2 := below_grown hb1 hg2 (fun j hj => Z0k hown1 j hj)
   refine hK.out _ _ (SteadyAll.of hb2) (fun hHeld => ?_)
   clear hK K
   simp only [Act.put, qY]
   obtain ⟨a0, n0, c0, rfl⟩ := Z3n hown2
   have BX3 := HBX2.out.kept hb2
   have fx3 := BX3.free
   have kx3 : w2.cell? ⟨x, 3, none⟩ = some vt := BX3.cell 3
   have HX3 := hid BX3
   have HO3 := hid hown2
   have HB3 := hid hb2
   clear BX3 hown1 hown2 hg1 hg2 hb1 hb2
   refine Z11 (is := [17, 18]) (by kernel_rfl) (by kernel_rfl) (fun _ _ d _ _ h => by cases d <;> exact h) (by assumption) ?_
   iterate 2 (refine qU ?_; simp only [Act.put, qY])
   refine Z12.done ?_
   refine Z0V (rs := [19]) (by kernel_rfl) (by simp) ?_
   refine Z0F.final rfl (fun K hK => ?_)
   rw [if_pos (by rfl)]
   go_simp
   refine hK.out _ _ ?_
   clear hK K
   refine Z1x (by kernel_rfl) ?_ _
   go_wp2_with fail
   go_meet
   have hO4 := Z26 HO3.out (show 0 + at1 + (tos.length - at2) = (Z18 tos at1).length by rw [Z2m _ _ hatl]; have h9 := HAT2.out; omega) (show _ = Z0b (Z18 tos at1) from by rw [HAT2.out]; exact Z3m tos at1 hatl)
   exact ⟨_, (HX3.out.put 3 _).cast rfl, Z01 (p := ⟨x, 3, none⟩) hO4 (by show x < (wb).heap.size; omega) _, Over.put (Over.of_below HB3.out) 3 _⟩
  case rest =>
   rename World => wf
   obtain ⟨vt2, BX, how, hov⟩ := hcut
   have HBX3 := hid BX
   have HTR := hid how
   have HV2 := hid hov
   clear BX how hov kxb
   go_wp2_with fail
   have hab : wa.heap.size ≤ wb.heap.size := HV1.out.size
   have hPa : P < wa.heap.size := HXa.out.pg.lt
   have hPx := HXa.out.hPx
   have hgP := HXa.out.hgP
   refine bodyPost_ret (results_tmp rfl _ _ _) rfl ⟨rfl, ⟨vk2, vt2, vg, ?_, Gone.newTo HGa.out ((HGa.out.over HV1.out).over HV2.out) (fun c hc => Nat.le_trans hab (Z0k HTR.out c hc))⟩, ?_⟩
   ·exact ⟨HBX3.out, (HXa.out.pg.two (x := x) (fun j hj => by subst hj; exact HV1.out.block _ hPa (by simp; omega)) hab).two (x := x) (fun j hj => by subst hj; exact HV2.out.block _ (by omega) (by simp; omega)) HV2.out.size, own_base (Z0H HKR.out HV2.out (by omega)) (by omega), own_base HTR.out hxb, (HXa.out.none.over HV1.out (by omega)).over HV2.out (by omega), hPx, hgP⟩
   ·exact (HVa.out.trans (OverTwo.of_left HV1.out)).trans (OverTwo.of_left HV2.out)) : P := h
theorem Z74 (x P cap G : Nat) (pages pages' : List Bt.Page) (next next' : Int) (keys : List Int) (tos : List Bt.Ptr) (mk mkey ml n : Int) (hmk : -9223372036854775808 ≤ mk ∧ mk ≤ 9223372036854775807) (hmy : -9223372036854775808 ≤ mkey ∧ mkey ≤ 9223372036854775807) (o : Bt.Out) (w : World) (h : IxG x P cap G pages next keys tos w) (hj : pick mk 14 = 6) (hth : Z2p keys (keyOf mkey) = true) (hlen : keys.length ≤ 1000) (htl : tos.length = keys.length) (hoc : o.code = 0) (hod : o.done = true) (hot : o.to = tos.getD (placeOf keys (keyOf mkey)) default)
 (HR : Hid (∀ w', IxG x P cap G pages next keys tos w' → Calls Tryz.prog 31 #[.pointer (some ⟨x, 0, none⟩), .agg (Z0d ⟨3, keyOf mkey, 0, Bt.nilP, 0, 0, []⟩ (.slice none 0 0))] w' (Z2x x P cap G pages' next' keys tos o w'))) :
 Calls Tryz.prog 23 #[.pointer (some ⟨x, 0, none⟩), .agg #[.int .i64 mk, .int .i64 mkey, .int .i64 ml], .int .i64 n] w (Z1J x P cap G pages' next' (Z18 keys (placeOf keys (keyOf mkey))) (Z18 tos (placeOf keys (keyOf mkey))) true w) := by
 exact sG2
theorem Z73 (x P cap G : Nat) (pages pages' : List Bt.Page) (next next' : Int) (keys : List Int) (tos : List Bt.Ptr) (mk mkey ml n : Int) (hmk : -9223372036854775808 ≤ mk ∧ mk ≤ 9223372036854775807) (hmy : -9223372036854775808 ≤ mkey ∧ mkey ≤ 9223372036854775807) (o : Bt.Out) (w : World) (h : IxG x P cap G pages next keys tos w) (hj : pick mk 14 = 7) (hth : Z2p keys (keyOf mkey) = true) (hlen : keys.length ≤ 1000) (htl : tos.length = keys.length) (hoc : o.code = 0) (hod : o.done = true) (hot : o.to = tos.getD (placeOf keys (keyOf mkey)) default)
 (HR : Hid (∀ w', IxG x P cap G pages next keys tos w' → Calls Tryz.prog 31 #[.pointer (some ⟨x, 0, none⟩), .agg (Z0d ⟨3, keyOf mkey, 0, Bt.nilP, 0, 0, []⟩ (.slice none 0 0))] w' (Z2x x P cap G pages' next' keys tos o w'))) :
 Calls Tryz.prog 23 #[.pointer (some ⟨x, 0, none⟩), .agg #[.int .i64 mk, .int .i64 mkey, .int .i64 ml], .int .i64 n] w (Z1J x P cap G pages' next' (Z18 keys (placeOf keys (keyOf mkey))) (Z18 tos (placeOf keys (keyOf mkey))) true w) := by
 exact sG2
theorem Z72 (x P cap G : Nat) (pages pages' : List Bt.Page) (next next' : Int) (keys : List Int) (tos : List Bt.Ptr) (mk mkey ml n : Int) (hmk : -9223372036854775808 ≤ mk ∧ mk ≤ 9223372036854775807) (hmy : -9223372036854775808 ≤ mkey ∧ mkey ≤ 9223372036854775807) (o : Bt.Out) (w : World) (h : IxG x P cap G pages next keys tos w) (hj : pick mk 14 = 8) (hth : Z2p keys (keyOf mkey) = true) (hlen : keys.length ≤ 1000) (htl : tos.length = keys.length) (hoc : o.code = 0) (hod : o.done = true) (hot : o.to = tos.getD (placeOf keys (keyOf mkey)) default)
 (HR : Hid (∀ w', IxG x P cap G pages next keys tos w' → Calls Tryz.prog 31 #[.pointer (some ⟨x, 0, none⟩), .agg (Z0d ⟨3, keyOf mkey, 0, Bt.nilP, 0, 0, []⟩ (.slice none 0 0))] w' (Z2x x P cap G pages' next' keys tos o w'))) :
 Calls Tryz.prog 23 #[.pointer (some ⟨x, 0, none⟩), .agg #[.int .i64 mk, .int .i64 mkey, .int .i64 ml], .int .i64 n] w (Z1J x P cap G pages' next' (Z18 keys (placeOf keys (keyOf mkey))) (Z18 tos (placeOf keys (keyOf mkey))) true w) := by
 exact sG2
theorem Z5D (x P cap G : Nat) (pages pages' : List Bt.Page) (next next' : Int) (keys : List Int) (tos : List Bt.Ptr) (mk mkey ml n : Int) (hmk : -9223372036854775808 ≤ mk ∧ mk ≤ 9223372036854775807) (hmy : -9223372036854775808 ≤ mkey ∧ mkey ≤ 9223372036854775807) (o : Bt.Out) (w : World) (h : IxG x P cap G pages next keys tos w) (hj : pick mk 14 = 6 ∨ pick mk 14 = 7 ∨ pick mk 14 = 8) (hth : Z2p keys (keyOf mkey) = true) (hlen : keys.length ≤ 1000) (htl : tos.length = keys.length) (hoc : o.code = 0) (hod : o.done = true) (hot : o.to = tos.getD (placeOf keys (keyOf mkey)) default)
 (HR : Hid (∀ w', IxG x P cap G pages next keys tos w' → Calls Tryz.prog 31 #[.pointer (some ⟨x, 0, none⟩), .agg (Z0d ⟨3, keyOf mkey, 0, Bt.nilP, 0, 0, []⟩ (.slice none 0 0))] w' (Z2x x P cap G pages' next' keys tos o w'))) :
 Calls Tryz.prog 23 #[.pointer (some ⟨x, 0, none⟩), .agg #[.int .i64 mk, .int .i64 mkey, .int .i64 ml], .int .i64 n] w (Z1J x P cap G pages' next' (Z18 keys (placeOf keys (keyOf mkey))) (Z18 tos (placeOf keys (keyOf mkey))) true w) := by
 rcases hj with hj | hj | hj
 ·exact Z74 x P cap G pages pages' next next' keys tos mk mkey ml n hmk hmy o w h hj hth hlen htl hoc hod hot HR
 ·exact Z73 x P cap G pages pages' next next' keys tos mk mkey ml n hmk hmy o w h hj hth hlen htl hoc hod hot HR
 ·exact Z72 x P cap G pages pages' next next' keys tos mk mkey ml n hmk hmy o w h hj hth hlen htl hoc hod hot HR
end Go.Proofs.YtjmpekanlmepmaaGreatDoor
