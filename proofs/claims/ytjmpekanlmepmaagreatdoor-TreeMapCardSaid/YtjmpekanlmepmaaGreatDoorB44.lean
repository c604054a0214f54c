/- Package bodegalaw24: moves: remove nothing, post, raise, kill, unlink nothing. (Printed by wip/do_gen.py.) -/
import Derived.Test.YtjmpekanlmepmaaGreatDoorB42
set_option linter.all false
namespace Go.Proofs.YtjmpekanlmepmaaGreatDoor
open Go.RowKit
set_option maxRecDepth 10000 in
set_option maxHeartbeats 4000000 in
theorem do_rem_none (x P cap G : Nat) (pages pages' : List Bt.Page) (next next' : Int) (keys : List Int) (tos : List Bt.Ptr) (mk mkey ml n : Int) (hmk : -9223372036854775808 ≤ mk ∧ mk ≤ 9223372036854775807) (hmy : -9223372036854775808 ≤ mkey ∧ mkey ≤ 9223372036854775807) (o : Bt.Out) (w : World) (h : IxG x P cap G pages next keys tos w) (hj : pick mk 14 = 6 ∨ pick mk 14 = 7 ∨ pick mk 14 = 8) (hth : isThere keys (keyOf mkey) = false) (hlen : keys.length ≤ 1000) (hoc : o.code = 16) (hok : o.check.length = 1)
 (HR : Hid (∀ w', IxG x P cap G pages next keys tos w' → Calls Tryz.prog 31 #[.pointer (some ⟨x, 0, none⟩), .agg (opCells ⟨3, keyOf mkey, 0, Bt.nilP, 0, 0, []⟩ (.slice none 0 0))] w' (RunIxG x P cap G pages' next' keys tos o w'))) :
 Calls Tryz.prog 23 #[.pointer (some ⟨x, 0, none⟩), .agg #[.int .i64 mk, .int .i64 mkey, .int .i64 ml], .int .i64 n] w (InsPostG x P cap G pages' next' keys tos true w) := by
 have HMK := Lib.hid hmk
 have HMY := Lib.hid hmy
 have HJ0 := Lib.hid hj
 clear hmk hmy hj
 obtain ⟨vk0, vt0, vg0, hx, hgo⟩ := h
 have HX := Lib.hid hx
 have HGO := Lib.hid hgo
 have hxlt := hx.blk.lt
 have hxlt1 : x < w.heap.size + 1 := by omega
 obtain ⟨key, hky⟩ : ∃ key, keyOf mkey = key := ⟨_, rfl⟩
 have HKY := Lib.hid hky
 (try rw [hky] at HR hth)
 have HTH := Lib.hid hth
 clear hth
 have HOK := Lib.hid hok
 clear hok
 have b16 : (o.code == 16) = true := by simp [hoc]
 clear hoc
 clear hx hgo hky
 unfold opCells Bt.nilP at HR
 rcases HJ0.out with hj | hj | hj
 all_goals
  have HJ := Lib.hid hj
  clear hj
  go_enter Tryz.func23, Tryz.ntmps23
  go_wp2_with fail
  go_at_call 25; refine (Key_any mkey HMY.out _).mono ?_; rintro e0 w0 ⟨rfl, hw0⟩; obtain rfl := hw0.symm; clear hw0
  rw [HKY.out]
  go_wp2_with fail
  go_at_call 13; refine (Pick_any mk 14 HMK.out ⟨by decide, by decide⟩ _).mono ?_; rintro e0 w0 ⟨rfl, hw0⟩; obtain rfl := hw0.symm; clear hw0
  rw [HJ.out]
  go_wp2_with fail
  go_at_call 48; refine (place_any x (x + 1) (.slice (some ⟨P, 0, none⟩) pages.length cap) vk0 vt0 vg0 next keys key _ ?hb ?hk hlen).mono ?_
  case hb => exact HX.out.blk.alloc _
  case hk => exact own_below HX.out.keys qL
  rintro e1 w1 ⟨rfl, hb1⟩
  rw [HTH.out]
  ((obtain ⟨hc1, hf1, hs1⟩ := qR hb1); (try have := qN0 w w1))
  have HB1 := Lib.hid hb1
  clear hb1
  go_wp2_with fail
  go_at_call 31; refine (HR.out _ ?hix).mono ?_
  case hix => exact ⟨_, _, _, HX.out.over (by have hb1 := HB1.out; exact qL), HGO.out.below (by have hb1 := HB1.out; exact qL)⟩
  rintro e2 w2 ⟨ve, vc, rfl, hix2, ho2, hoe, hoc2⟩
  have hse := qSt hoe
  obtain ⟨ca, cc, rfl⟩ := own_len hoc2
  rw [HOK.out]
  have HIX2 := Lib.hid hix2
  have HO2 := Lib.hid ho2
  clear hix2 ho2 hoe hoc2
  simp only [outCells]
  go_wp2_with fail
  refine bodyPost_ret (results_tmp rfl _ _ _) rfl ⟨rfl, HIX2.out.over qL, ?_⟩
  exact OverTwo.trans (OverTwo.trans (OverTwo.of_below (by have hb1 := HB1.out; exact qL)) HO2.out) (OverTwo.of_below qL)
set_option maxRecDepth 20000 in
theorem sG17 {P : Prop} (h : P := by
 have HML := Lib.hid hml
 clear hml
 clear hx hgo hky
 unfold opCells Bt.nilP at HR
 rcases HJ0.out with hj | hj
 all_goals
  have HJ := Lib.hid hj
  clear hj
  go_enter Tryz.func23, Tryz.ntmps23
  go_wp2_with fail
  go_at_call 25; refine (Key_any mkey HMY.out _).mono ?_; rintro e0 w0 ⟨rfl, hw0⟩; obtain rfl := hw0.symm; clear hw0
  rw [HKY.out]
  go_wp2_with fail
  go_at_call 13; refine (Pick_any mk 14 HMK.out ⟨by decide, by decide⟩ _).mono ?_; rintro e0 w0 ⟨rfl, hw0⟩; obtain rfl := hw0.symm; clear hw0
  rw [HJ.out]
  go_wp2_with fail
  go_at_call 13; refine (Pick_any ml 3 HML.out ⟨by decide, by decide⟩ _).mono ?_; rintro e0 w0 ⟨rfl, hw0⟩; obtain rfl := hw0.symm; clear hw0
  go_wp2_with fail
  go_at_call 31; refine (HR.out _ ?hix).mono ?_
  case hix => exact ⟨_, _, _, HX.out.over qL, HGO.out.below qL⟩
  rintro e2 w2 ⟨ve, vc, rfl, hix2, ho2, hoe, hoc2⟩
  have hse := qSt hoe
  have hsc := qSt hoc2
  have HIX2 := Lib.hid hix2
  have HO2 := Lib.hid ho2
  clear hix2 ho2 hoe hoc2
  simp only [outCells]
  go_wp2_with fail
  refine bodyPost_ret (results_tmp rfl _ _ _) rfl ⟨rfl, HIX2.out.over qL, ?_⟩
  exact OverTwo.trans (OverTwo.trans (OverTwo.of_below qL) HO2.out) (OverTwo.of_below qL)) : P := h
set_option maxRecDepth 10000 in
set_option maxHeartbeats 4000000 in
theorem do_post16 (x P cap G : Nat) (pages pages' : List Bt.Page) (next next' : Int) (keys : List Int) (tos : List Bt.Ptr) (mk mkey ml n : Int) (hmk : -9223372036854775808 ≤ mk ∧ mk ≤ 9223372036854775807) (hmy : -9223372036854775808 ≤ mkey ∧ mkey ≤ 9223372036854775807) (hml : -9223372036854775808 ≤ ml ∧ ml ≤ 9223372036854775807) (o : Bt.Out) (w : World) (h : IxG x P cap G pages next keys tos w) (hj : pick mk 14 = 9 ∨ pick mk 14 = 10) (hoc : o.code = 16)
 (HR : Hid (∀ w', IxG x P cap G pages next keys tos w' → Calls Tryz.prog 31 #[.pointer (some ⟨x, 0, none⟩), .agg (opCells ⟨5, keyOf mkey, 0, Bt.nilP, pick ml 3, 0, []⟩ (.slice none 0 0))] w' (RunIxG x P cap G pages' next' keys tos o w'))) :
 Calls Tryz.prog 23 #[.pointer (some ⟨x, 0, none⟩), .agg #[.int .i64 mk, .int .i64 mkey, .int .i64 ml], .int .i64 n] w (InsPostG x P cap G pages' next' keys tos true w) := by
 have HMK := Lib.hid hmk
 have HMY := Lib.hid hmy
 have HJ0 := Lib.hid hj
 clear hmk hmy hj
 obtain ⟨vk0, vt0, vg0, hx, hgo⟩ := h
 have HX := Lib.hid hx
 have HGO := Lib.hid hgo
 have hxlt := hx.blk.lt
 have hxlt1 : x < w.heap.size + 1 := by omega
 obtain ⟨key, hky⟩ : ∃ key, keyOf mkey = key := ⟨_, rfl⟩
 have HKY := Lib.hid hky
 (try rw [hky] at HR)
 have b16 : (o.code == 16) = true := by simp [hoc]
 clear hoc
 exact sG17
set_option maxRecDepth 10000 in
set_option maxHeartbeats 4000000 in
theorem do_post0 (x P cap G : Nat) (pages pages' : List Bt.Page) (next next' : Int) (keys : List Int) (tos : List Bt.Ptr) (mk mkey ml n : Int) (hmk : -9223372036854775808 ≤ mk ∧ mk ≤ 9223372036854775807) (hmy : -9223372036854775808 ≤ mkey ∧ mkey ≤ 9223372036854775807) (hml : -9223372036854775808 ≤ ml ∧ ml ≤ 9223372036854775807) (o : Bt.Out) (w : World) (h : IxG x P cap G pages next keys tos w) (hj : pick mk 14 = 9 ∨ pick mk 14 = 10) (hoc : o.code = 0) (hdf : o.done ≠ o.found)
 (HR : Hid (∀ w', IxG x P cap G pages next keys tos w' → Calls Tryz.prog 31 #[.pointer (some ⟨x, 0, none⟩), .agg (opCells ⟨5, keyOf mkey, 0, Bt.nilP, pick ml 3, 0, []⟩ (.slice none 0 0))] w' (RunIxG x P cap G pages' next' keys tos o w'))) :
 Calls Tryz.prog 23 #[.pointer (some ⟨x, 0, none⟩), .agg #[.int .i64 mk, .int .i64 mkey, .int .i64 ml], .int .i64 n] w (InsPostG x P cap G pages' next' keys tos true w) := by
 have HMK := Lib.hid hmk
 have HMY := Lib.hid hmy
 have HJ0 := Lib.hid hj
 clear hmk hmy hj
 obtain ⟨vk0, vt0, vg0, hx, hgo⟩ := h
 have HX := Lib.hid hx
 have HGO := Lib.hid hgo
 have hxlt := hx.blk.lt
 have hxlt1 : x < w.heap.size + 1 := by omega
 obtain ⟨key, hky⟩ : ∃ key, keyOf mkey = key := ⟨_, rfl⟩
 have HKY := Lib.hid hky
 (try rw [hky] at HR)
 have b0 : (o.code == 0) = true := by simp [hoc]
 have b16 : (o.code == 16) = false := by simp [hoc]
 have b7 : (o.code == 7) = false := by simp [hoc]
 have bd : (o.done == o.found) = false := by simp [hdf]
 clear hoc hdf
 exact sG17
set_option maxRecDepth 20000 in
theorem sG11 {P : Prop} (h : P := by
 clear hx hgo hky
 unfold opCells Bt.nilP at HR
 have hj := HJ0.out
 have HJ := Lib.hid hj
 clear hj
 go_enter Tryz.func23, Tryz.ntmps23
 go_wp2_with fail
 go_at_call 25; refine (Key_any mkey HMY.out _).mono ?_; rintro e0 w0 ⟨rfl, hw0⟩; obtain rfl := hw0.symm; clear hw0
 rw [HKY.out]
 go_wp2_with fail
 go_at_call 13; refine (Pick_any mk 14 HMK.out ⟨by decide, by decide⟩ _).mono ?_; rintro e0 w0 ⟨rfl, hw0⟩; obtain rfl := hw0.symm; clear hw0
 rw [HJ.out]
 go_wp2_with fail
 go_at_call 31; refine (HR.out _ ?hix).mono ?_
 case hix => exact ⟨_, _, _, HX.out.over qL, HGO.out.below qL⟩
 rintro e2 w2 ⟨ve, vc, rfl, hix2, ho2, hoe, hoc2⟩
 have hse := qSt hoe
 have hsc := qSt hoc2
 have HIX2 := Lib.hid hix2
 have HO2 := Lib.hid ho2
 clear hix2 ho2 hoe hoc2
 simp only [outCells]
 go_wp2_with fail
 refine bodyPost_ret (results_tmp rfl _ _ _) rfl ⟨rfl, HIX2.out.over qL, ?_⟩
 exact OverTwo.trans (OverTwo.trans (OverTwo.of_below qL) HO2.out) (OverTwo.of_below qL)) : P := h
set_option maxRecDepth 20000 in
theorem sG38 {P : Prop} (h : P := by
 have HMK := Lib.hid hmk
 have HMY := Lib.hid hmy
 have HJ0 := Lib.hid hj
 clear hmk hmy hj
 obtain ⟨vk0, vt0, vg0, hx, hgo⟩ := h
 have HX := Lib.hid hx
 have HGO := Lib.hid hgo
 have hxlt := hx.blk.lt
 have hxlt1 : x < w.heap.size + 1 := by omega
 obtain ⟨key, hky⟩ : ∃ key, keyOf mkey = key := ⟨_, rfl⟩
 have HKY := Lib.hid hky
 (try rw [hky] at HR)
 have b16 : (o.code == 16) = true := by simp [hoc]
 clear hoc
 exact sG11) : P := h
set_option maxRecDepth 10000 in
set_option maxHeartbeats 4000000 in
theorem do_raise16 (x P cap G : Nat) (pages pages' : List Bt.Page) (next next' : Int) (keys : List Int) (tos : List Bt.Ptr) (mk mkey ml n : Int) (hmk : -9223372036854775808 ≤ mk ∧ mk ≤ 9223372036854775807) (hmy : -9223372036854775808 ≤ mkey ∧ mkey ≤ 9223372036854775807) (o : Bt.Out) (w : World) (h : IxG x P cap G pages next keys tos w) (hj : pick mk 14 = 11) (hoc : o.code = 16)
 (HR : Hid (∀ w', IxG x P cap G pages next keys tos w' → Calls Tryz.prog 31 #[.pointer (some ⟨x, 0, none⟩), .agg (opCells ⟨6, 0, 0, Bt.nilP, 0, 0, []⟩ (.slice none 0 0))] w' (RunIxG x P cap G pages' next' keys tos o w'))) :
 Calls Tryz.prog 23 #[.pointer (some ⟨x, 0, none⟩), .agg #[.int .i64 mk, .int .i64 mkey, .int .i64 ml], .int .i64 n] w (InsPostG x P cap G pages' next' keys tos true w) := by
 exact sG38
set_option maxRecDepth 20000 in
theorem sG34 {P : Prop} (h : P := by
 have HMK := Lib.hid hmk
 have HMY := Lib.hid hmy
 have HJ0 := Lib.hid hj
 clear hmk hmy hj
 obtain ⟨vk0, vt0, vg0, hx, hgo⟩ := h
 have HX := Lib.hid hx
 have HGO := Lib.hid hgo
 have hxlt := hx.blk.lt
 have hxlt1 : x < w.heap.size + 1 := by omega
 obtain ⟨key, hky⟩ : ∃ key, keyOf mkey = key := ⟨_, rfl⟩
 have HKY := Lib.hid hky
 (try rw [hky] at HR)
 have b0 : (o.code == 0) = true := by simp [hoc]
 have b16 : (o.code == 16) = false := by simp [hoc]
 have b7 : (o.code == 7) = false := by simp [hoc]
 have bd : (o.done == o.found) = false := by simp [hdf]
 clear hoc hdf
 exact sG11) : P := h
set_option maxRecDepth 10000 in
set_option maxHeartbeats 4000000 in
theorem do_raise0 (x P cap G : Nat) (pages pages' : List Bt.Page) (next next' : Int) (keys : List Int) (tos : List Bt.Ptr) (mk mkey ml n : Int) (hmk : -9223372036854775808 ≤ mk ∧ mk ≤ 9223372036854775807) (hmy : -9223372036854775808 ≤ mkey ∧ mkey ≤ 9223372036854775807) (o : Bt.Out) (w : World) (h : IxG x P cap G pages next keys tos w) (hj : pick mk 14 = 11) (hoc : o.code = 0) (hdf : o.done ≠ o.found)
 (HR : Hid (∀ w', IxG x P cap G pages next keys tos w' → Calls Tryz.prog 31 #[.pointer (some ⟨x, 0, none⟩), .agg (opCells ⟨6, 0, 0, Bt.nilP, 0, 0, []⟩ (.slice none 0 0))] w' (RunIxG x P cap G pages' next' keys tos o w'))) :
 Calls Tryz.prog 23 #[.pointer (some ⟨x, 0, none⟩), .agg #[.int .i64 mk, .int .i64 mkey, .int .i64 ml], .int .i64 n] w (InsPostG x P cap G pages' next' keys tos true w) := by
 exact sG34
set_option maxRecDepth 10000 in
set_option maxHeartbeats 4000000 in
theorem do_kill16 (x P cap G : Nat) (pages pages' : List Bt.Page) (next next' : Int) (keys : List Int) (tos : List Bt.Ptr) (mk mkey ml n : Int) (hmk : -9223372036854775808 ≤ mk ∧ mk ≤ 9223372036854775807) (hmy : -9223372036854775808 ≤ mkey ∧ mkey ≤ 9223372036854775807) (o : Bt.Out) (w : World) (h : IxG x P cap G pages next keys tos w) (hj : pick mk 14 = 12) (hoc : o.code = 16)
 (HR : Hid (∀ w', IxG x P cap G pages next keys tos w' → Calls Tryz.prog 31 #[.pointer (some ⟨x, 0, none⟩), .agg (opCells ⟨7, keyOf mkey, 0, Bt.nilP, 0, 0, []⟩ (.slice none 0 0))] w' (RunIxG x P cap G pages' next' keys tos o w'))) :
 Calls Tryz.prog 23 #[.pointer (some ⟨x, 0, none⟩), .agg #[.int .i64 mk, .int .i64 mkey, .int .i64 ml], .int .i64 n] w (InsPostG x P cap G pages' next' keys tos true w) := by
 exact sG38
set_option maxRecDepth 10000 in
set_option maxHeartbeats 4000000 in
theorem do_kill7 (x P cap G : Nat) (pages pages' : List Bt.Page) (next next' : Int) (keys : List Int) (tos : List Bt.Ptr) (mk mkey ml n : Int) (hmk : -9223372036854775808 ≤ mk ∧ mk ≤ 9223372036854775807) (hmy : -9223372036854775808 ≤ mkey ∧ mkey ≤ 9223372036854775807) (o : Bt.Out) (w : World) (h : IxG x P cap G pages next keys tos w) (hj : pick mk 14 = 12) (hoc : o.code = 7)
 (HR : Hid (∀ w', IxG x P cap G pages next keys tos w' → Calls Tryz.prog 31 #[.pointer (some ⟨x, 0, none⟩), .agg (opCells ⟨7, keyOf mkey, 0, Bt.nilP, 0, 0, []⟩ (.slice none 0 0))] w' (RunIxG x P cap G pages' next' keys tos o w'))) :
 Calls Tryz.prog 23 #[.pointer (some ⟨x, 0, none⟩), .agg #[.int .i64 mk, .int .i64 mkey, .int .i64 ml], .int .i64 n] w (InsPostG x P cap G pages' next' keys tos true w) := by
 have HMK := Lib.hid hmk
 have HMY := Lib.hid hmy
 have HJ0 := Lib.hid hj
 clear hmk hmy hj
 obtain ⟨vk0, vt0, vg0, hx, hgo⟩ := h
 have HX := Lib.hid hx
 have HGO := Lib.hid hgo
 have hxlt := hx.blk.lt
 have hxlt1 : x < w.heap.size + 1 := by omega
 obtain ⟨key, hky⟩ : ∃ key, keyOf mkey = key := ⟨_, rfl⟩
 have HKY := Lib.hid hky
 (try rw [hky] at HR)
 have b16 : (o.code == 7) = true := by simp [hoc]
 have b160 : (o.code == 16) = false := by simp [hoc]
 clear hoc
 exact sG11
set_option maxRecDepth 10000 in
set_option maxHeartbeats 4000000 in
theorem do_kill0 (x P cap G : Nat) (pages pages' : List Bt.Page) (next next' : Int) (keys : List Int) (tos : List Bt.Ptr) (mk mkey ml n : Int) (hmk : -9223372036854775808 ≤ mk ∧ mk ≤ 9223372036854775807) (hmy : -9223372036854775808 ≤ mkey ∧ mkey ≤ 9223372036854775807) (o : Bt.Out) (w : World) (h : IxG x P cap G pages next keys tos w) (hj : pick mk 14 = 12) (hoc : o.code = 0) (hdf : o.done ≠ o.found)
 (HR : Hid (∀ w', IxG x P cap G pages next keys tos w' → Calls Tryz.prog 31 #[.pointer (some ⟨x, 0, none⟩), .agg (opCells ⟨7, keyOf mkey, 0, Bt.nilP, 0, 0, []⟩ (.slice none 0 0))] w' (RunIxG x P cap G pages' next' keys tos o w'))) :
 Calls Tryz.prog 23 #[.pointer (some ⟨x, 0, none⟩), .agg #[.int .i64 mk, .int .i64 mkey, .int .i64 ml], .int .i64 n] w (InsPostG x P cap G pages' next' keys tos true w) := by
 exact sG34
set_option maxRecDepth 10000 in
set_option maxHeartbeats 4000000 in
theorem do_unl16 (x P cap G : Nat) (pages pages' : List Bt.Page) (next next' : Int) (keys : List Int) (tos : List Bt.Ptr) (mk mkey ml n : Int) (hmk : -9223372036854775808 ≤ mk ∧ mk ≤ 9223372036854775807) (hmy : -9223372036854775808 ≤ mkey ∧ mkey ≤ 9223372036854775807) (o : Bt.Out) (w : World) (h : IxG x P cap G pages next keys tos w) (hj : pick mk 14 = 13) (hoc : o.code = 16) (hnd : o.done = false)
 (HR : Hid (∀ w', IxG x P cap G pages next keys tos w' → Calls Tryz.prog 31 #[.pointer (some ⟨x, 0, none⟩), .agg (opCells ⟨8, keyOf mkey, 0, Bt.nilP, 0, 0, []⟩ (.slice none 0 0))] w' (RunIxG x P cap G pages' next' keys tos o w'))) :
 Calls Tryz.prog 23 #[.pointer (some ⟨x, 0, none⟩), .agg #[.int .i64 mk, .int .i64 mkey, .int .i64 ml], .int .i64 n] w (InsPostG x P cap G pages' next' keys tos true w) := by
 have HMK := Lib.hid hmk
 have HMY := Lib.hid hmy
 have HJ0 := Lib.hid hj
 clear hmk hmy hj
 obtain ⟨vk0, vt0, vg0, hx, hgo⟩ := h
 have HX := Lib.hid hx
 have HGO := Lib.hid hgo
 have hxlt := hx.blk.lt
 have hxlt1 : x < w.heap.size + 1 := by omega
 obtain ⟨key, hky⟩ : ∃ key, keyOf mkey = key := ⟨_, rfl⟩
 have HKY := Lib.hid hky
 (try rw [hky] at HR)
 have b16 : (o.code == 16) = true := by simp [hoc]
 clear hoc
 have HND := Lib.hid hnd
 clear hnd
 clear hx hgo hky
 unfold opCells Bt.nilP at HR
 have hj := HJ0.out
 have HJ := Lib.hid hj
 clear hj
 go_enter Tryz.func23, Tryz.ntmps23
 go_wp2_with fail
 go_at_call 25; refine (Key_any mkey HMY.out _).mono ?_; rintro e0 w0 ⟨rfl, hw0⟩; obtain rfl := hw0.symm; clear hw0
 rw [HKY.out]
 go_wp2_with fail
 go_at_call 13; refine (Pick_any mk 14 HMK.out ⟨by decide, by decide⟩ _).mono ?_; rintro e0 w0 ⟨rfl, hw0⟩; obtain rfl := hw0.symm; clear hw0
 rw [HJ.out]
 go_wp2_with fail
 go_at_call 31; refine (HR.out _ ?hix).mono ?_
 case hix => exact ⟨_, _, _, HX.out.over qL, HGO.out.below qL⟩
 rintro e2 w2 ⟨ve, vc, rfl, hix2, ho2, hoe, hoc2⟩
 have hse := qSt hoe
 have hsc := qSt hoc2
 have HIX2 := Lib.hid hix2
 have HO2 := Lib.hid ho2
 clear hix2 ho2 hoe hoc2
 simp only [outCells]
 rw [HND.out]
 go_wp2_with fail
 refine bodyPost_ret (results_tmp rfl _ _ _) rfl ⟨rfl, HIX2.out.over qL, ?_⟩
 exact OverTwo.trans (OverTwo.trans (OverTwo.of_below qL) HO2.out) (OverTwo.of_below qL)
set_option maxRecDepth 10000 in
set_option maxHeartbeats 4000000 in
theorem do_unl0 (x P cap G : Nat) (pages pages' : List Bt.Page) (next next' : Int) (keys : List Int) (tos : List Bt.Ptr) (mk mkey ml n : Int) (hmk : -9223372036854775808 ≤ mk ∧ mk ≤ 9223372036854775807) (hmy : -9223372036854775808 ≤ mkey ∧ mkey ≤ 9223372036854775807) (o : Bt.Out) (w : World) (h : IxG x P cap G pages next keys tos w) (hj : pick mk 14 = 13) (hoc : o.code = 0) (hdf : o.done ≠ o.found) (hnd : o.done = false)
 (HR : Hid (∀ w', IxG x P cap G pages next keys tos w' → Calls Tryz.prog 31 #[.pointer (some ⟨x, 0, none⟩), .agg (opCells ⟨8, keyOf mkey, 0, Bt.nilP, 0, 0, []⟩ (.slice none 0 0))] w' (RunIxG x P cap G pages' next' keys tos o w'))) :
 Calls Tryz.prog 23 #[.pointer (some ⟨x, 0, none⟩), .agg #[.int .i64 mk, .int .i64 mkey, .int .i64 ml], .int .i64 n] w (InsPostG x P cap G pages' next' keys tos true w) := by
 have HMK := Lib.hid hmk
 have HMY := Lib.hid hmy
 have HJ0 := Lib.hid hj
 clear hmk hmy hj
 obtain ⟨vk0, vt0, vg0, hx, hgo⟩ := h
 have HX := Lib.hid hx
 have HGO := Lib.hid hgo
 have hxlt := hx.blk.lt
 have hxlt1 : x < w.heap.size + 1 := by omega
 obtain ⟨key, hky⟩ : ∃ key, keyOf mkey = key := ⟨_, rfl⟩
 have HKY := Lib.hid hky
 (try rw [hky] at HR)
 have b0 : (o.code == 0) = true := by simp [hoc]
 have b16 : (o.code == 16) = false := by simp [hoc]
 have HND : Hid (o.done = false ∧ o.found = true) := Lib.hid ⟨hnd, by rw [hnd] at hdf; cases hf : o.found with | true => rfl | false => exact absurd hf.symm hdf⟩
 clear hoc hdf hnd
 clear hx hgo hky
 unfold opCells Bt.nilP at HR
 have hj := HJ0.out
 have HJ := Lib.hid hj
 clear hj
 go_enter Tryz.func23, Tryz.ntmps23
 go_wp2_with fail
 go_at_call 25; refine (Key_any mkey HMY.out _).mono ?_; rintro e0 w0 ⟨rfl, hw0⟩; obtain rfl := hw0.symm; clear hw0
 rw [HKY.out]
 go_wp2_with fail
 go_at_call 13; refine (Pick_any mk 14 HMK.out ⟨by decide, by decide⟩ _).mono ?_; rintro e0 w0 ⟨rfl, hw0⟩; obtain rfl := hw0.symm; clear hw0
 rw [HJ.out]
 go_wp2_with fail
 go_at_call 31; refine (HR.out _ ?hix).mono ?_
 case hix => exact ⟨_, _, _, HX.out.over qL, HGO.out.below qL⟩
 rintro e2 w2 ⟨ve, vc, rfl, hix2, ho2, hoe, hoc2⟩
 have hse := qSt hoe
 have hsc := qSt hoc2
 have HIX2 := Lib.hid hix2
 have HO2 := Lib.hid ho2
 clear hix2 ho2 hoe hoc2
 simp only [outCells]
 rw [HND.out.1, HND.out.2]
 go_wp2_with fail
 refine bodyPost_ret (results_tmp rfl _ _ _) rfl ⟨rfl, HIX2.out.over qL, ?_⟩
 exact OverTwo.trans (OverTwo.trans (OverTwo.of_below qL) HO2.out) (OverTwo.of_below qL)
end Go.Proofs.YtjmpekanlmepmaaGreatDoor
