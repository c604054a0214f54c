/- Package bodegalaw24: moves: remove nothing, post, raise, kill, unlink nothing. (Printed by wip/do_gen.py.) -/
import Derived.Test.YtjmpekanlmepmaaGreatDoorBB42
set_option linter.all false
set_option maxRecDepth 20000
set_option maxHeartbeats 8000000
open Go.Lib (hid)
namespace Go.Proofs.YtjmpekanlmepmaaGreatDoor
open Go.RowKit
theorem Z75 (x P cap G : Nat) (pages pages' : List Bt.Page) (next next' : Int) (keys : List Int) (tos : List Bt.Ptr) (mk mkey ml n : Int) (hmk : -9223372036854775808 ≤ mk ∧ mk ≤ 9223372036854775807) (hmy : -9223372036854775808 ≤ mkey ∧ mkey ≤ 9223372036854775807) (o : Bt.Out) (w : World) (h : IxG x P cap G pages next keys tos w) (hj : pick mk 14 = 6 ∨ pick mk 14 = 7 ∨ pick mk 14 = 8) (hth : Z2p keys (keyOf mkey) = false) (hlen : keys.length ≤ 1000) (hoc : o.code = 16) (hok : o.check.length = 1)
 (HR : Hid (∀ w', IxG x P cap G pages next keys tos w' → Calls Tryz.prog 31 #[.pointer (some ⟨x, 0, none⟩), .agg (Z0d ⟨3, keyOf mkey, 0, Bt.nilP, 0, 0, []⟩ (.slice none 0 0))] w' (Z2x x P cap G pages' next' keys tos o w'))) :
 Calls Tryz.prog 23 #[.pointer (some ⟨x, 0, none⟩), .agg #[.int .i64 mk, .int .i64 mkey, .int .i64 ml], .int .i64 n] w (Z1J x P cap G pages' next' keys tos true w) := by
 have HMK := hid hmk
 have HMY := hid hmy
 have HJ0 := hid hj
 clear hmk hmy hj
 obtain ⟨vk0, vt0, vg0, hx, hgo⟩ := h
 have HX := hid hx
 have HGO := hid hgo
 have hxlt := hx.blk.lt
 have hxlt1 : x < w.heap.size + 1 := by omega
 obtain ⟨key, hky⟩ : ∃ key, keyOf mkey = key := ⟨_, rfl⟩
 have HKY := hid hky
 (try rw [hky] at HR hth)
 have HTH := hid hth
 clear hth
 have HOK := hid hok
 clear hok
 have b16 : (o.code == 16) = true := by simp [hoc]
 clear hoc
 clear hx hgo hky
 unfold Z0d Bt.nilP at HR
 rcases HJ0.out with hj | hj | hj
 all_goals
  have HJ := hid hj
  clear hj
  go_enter Tryz.func23, Tryz.ntmps23
  go_wp2_with fail
  go_at_call 25; refine (Z2w mkey HMY.out _).mono ?_; rintro e0 w0 ⟨rfl, hw0⟩; obtain rfl := hw0.symm; clear hw0
  rw [HKY.out]
  go_wp2_with fail
  go_at_call 13; refine (Z1B mk 14 HMK.out ⟨by decide, by decide⟩ _).mono ?_; rintro e0 w0 ⟨rfl, hw0⟩; obtain rfl := hw0.symm; clear hw0
  rw [HJ.out]
  go_wp2_with fail
  go_at_call 48; refine (Z32 x (x + 1) (.slice (some ⟨P, 0, none⟩) pages.length cap) vk0 vt0 vg0 next keys key _ ?hb ?hk hlen).mono ?_
  case hb => exact HX.out.blk.alloc _
  case hk => exact own_below HX.out.keys qL
  rintro e1 w1 ⟨rfl, hb1⟩
  rw [HTH.out]
  ((obtain ⟨hc1, hf1, hs1⟩ := qR hb1); (try have := qN0 w w1))
  have HB1 := hid hb1
  clear hb1
  go_wp2_with fail
  go_at_call 31; refine (HR.out _ ?hix).mono ?_
  case hix => exact ⟨_, _, _, HX.out.over (by have hb1 := HB1.out; exact qL), HGO.out.below (by have hb1 := HB1.out; exact qL)⟩
  rintro e2 w2 ⟨ve, vc, rfl, hix2, ho2, hoe, hoc2⟩
  have hse := qSt hoe
  obtain ⟨ca, cc, rfl⟩ := Z38 hoc2
  rw [HOK.out]
  have HIX2 := hid hix2
  have HO2 := hid ho2
  clear hix2 ho2 hoe hoc2
  simp only [Z0n]
  go_wp2_with fail
  refine bodyPost_ret (results_tmp rfl _ _ _) rfl ⟨rfl, HIX2.out.over qL, ?_⟩
  exact OverTwo.trans (OverTwo.trans (OverTwo.of_below (by have hb1 := HB1.out; exact qL)) HO2.out) (OverTwo.of_below qL)
theorem sG17 {P : Prop} (h : P := by
 have HML := hid hml
 clear hml
 clear hx hgo hky
 unfold Z0d Bt.nilP at HR
 rcases HJ0.out with hj | hj
 all_goals
  have HJ := hid hj
  clear hj
  go_enter Tryz.func23, Tryz.ntmps23
  go_wp2_with fail
  go_at_call 25; refine (Z2w mkey HMY.out _).mono ?_; rintro e0 w0 ⟨rfl, hw0⟩; obtain rfl := hw0.symm; clear hw0
  rw [HKY.out]
  go_wp2_with fail
  go_at_call 13; refine (Z1B mk 14 HMK.out ⟨by decide, by decide⟩ _).mono ?_; rintro e0 w0 ⟨rfl, hw0⟩; obtain rfl := hw0.symm; clear hw0
  rw [HJ.out]
  go_wp2_with fail
  go_at_call 13; refine (Z1B ml 3 HML.out ⟨by decide, by decide⟩ _).mono ?_; rintro e0 w0 ⟨rfl, hw0⟩; obtain rfl := hw0.symm; clear hw0
  go_wp2_with fail
  go_at_call 31; refine (HR.out _ ?hix).mono ?_
  case hix => exact ⟨_, _, _, HX.out.over qL, HGO.out.below qL⟩
  rintro e2 w2 ⟨ve, vc, rfl, hix2, ho2, hoe, hoc2⟩
  have hse := qSt hoe
  have hsc := qSt hoc2
  have HIX2 := hid hix2
  have HO2 := hid ho2
  clear hix2 ho2 hoe hoc2
  simp only [Z0n]
  go_wp2_with fail
  refine bodyPost_ret (results_tmp rfl _ _ _) rfl ⟨rfl, HIX2.out.over qL, ?_⟩
  exact OverTwo.trans (OverTwo.trans (OverTwo.of_below qL) HO2.out) (OverTwo.of_below qL)) : P := h
theorem ZaY (x P cap G : Nat) (pages pages' : List Bt.Page) (next next' : Int) (keys : List Int) (tos : List Bt.Ptr) (mk mkey ml n : Int) (hmk : -9223372036854775808 ≤ mk ∧ mk ≤ 9223372036854775807) (hmy : -9223372036854775808 ≤ mkey ∧ mkey ≤ 9223372036854775807) (hml : -9223372036854775808 ≤ ml ∧ ml ≤ 9223372036854775807) (o : Bt.Out) (w : World) (h : IxG x P cap G pages next keys tos w) (hj : pick mk 14 = 9 ∨ pick mk 14 = 10) (hoc : o.code = 16)
 (HR : Hid (∀ w', IxG x P cap G pages next keys tos w' → Calls Tryz.prog 31 #[.pointer (some ⟨x, 0, none⟩), .agg (Z0d ⟨5, keyOf mkey, 0, Bt.nilP, pick ml 3, 0, []⟩ (.slice none 0 0))] w' (Z2x x P cap G pages' next' keys tos o w'))) :
 Calls Tryz.prog 23 #[.pointer (some ⟨x, 0, none⟩), .agg #[.int .i64 mk, .int .i64 mkey, .int .i64 ml], .int .i64 n] w (Z1J x P cap G pages' next' keys tos true w) := by
 have HMK := hid hmk
 have HMY := hid hmy
 have HJ0 := hid hj
 clear hmk hmy hj
 obtain ⟨vk0, vt0, vg0, hx, hgo⟩ := h
 have HX := hid hx
 have HGO := hid hgo
 have hxlt := hx.blk.lt
 have hxlt1 : x < w.heap.size + 1 := by omega
 obtain ⟨key, hky⟩ : ∃ key, keyOf mkey = key := ⟨_, rfl⟩
 have HKY := hid hky
 (try rw [hky] at HR)
 have b16 : (o.code == 16) = true := by simp [hoc]
 clear hoc
 exact sG17
theorem Z8V (x P cap G : Nat) (pages pages' : List Bt.Page) (next next' : Int) (keys : List Int) (tos : List Bt.Ptr) (mk mkey ml n : Int) (hmk : -9223372036854775808 ≤ mk ∧ mk ≤ 9223372036854775807) (hmy : -9223372036854775808 ≤ mkey ∧ mkey ≤ 9223372036854775807) (hml : -9223372036854775808 ≤ ml ∧ ml ≤ 9223372036854775807) (o : Bt.Out) (w : World) (h : IxG x P cap G pages next keys tos w) (hj : pick mk 14 = 9 ∨ pick mk 14 = 10) (hoc : o.code = 0) (hdf : o.done ≠ o.found)
 (HR : Hid (∀ w', IxG x P cap G pages next keys tos w' → Calls Tryz.prog 31 #[.pointer (some ⟨x, 0, none⟩), .agg (Z0d ⟨5, keyOf mkey, 0, Bt.nilP, pick ml 3, 0, []⟩ (.slice none 0 0))] w' (Z2x x P cap G pages' next' keys tos o w'))) :
 Calls Tryz.prog 23 #[.pointer (some ⟨x, 0, none⟩), .agg #[.int .i64 mk, .int .i64 mkey, .int .i64 ml], .int .i64 n] w (Z1J x P cap G pages' next' keys tos true w) := by
 have HMK := hid hmk
 have HMY := hid hmy
 have HJ0 := hid hj
 clear hmk hmy hj
 obtain ⟨vk0, vt0, vg0, hx, hgo⟩ := h
 have HX := hid hx
 have HGO := hid hgo
 have hxlt := hx.blk.lt
 have hxlt1 : x < w.heap.size + 1 := by omega
 obtain ⟨key, hky⟩ : ∃ key, keyOf mkey = key := ⟨_, rfl⟩
 have HKY := hid hky
 (try rw [hky] at HR)
 have b0 : (o.code == 0) = true := by simp [hoc]
 have b16 : (o.code == 16) = false := by simp [hoc]
 have b7 : (o.code == 7) = false := by simp [hoc]
 have bd : (o.done == o.found) = false := by simp [hdf]
 clear hoc hdf
 exact sG17
theorem sG11 {P : Prop} (h : P := by
 clear hx hgo hky
 unfold Z0d Bt.nilP at HR
 have hj := HJ0.out
 have HJ := hid hj
 clear hj
 go_enter Tryz.func23, Tryz.ntmps23
 go_wp2_with fail
 go_at_call 25; refine (Z2w mkey HMY.out _).mono ?_; rintro e0 w0 ⟨rfl, hw0⟩; obtain rfl := hw0.symm; clear hw0
 rw [HKY.out]
 go_wp2_with fail
 go_at_call 13; refine (Z1B mk 14 HMK.out ⟨by decide, by decide⟩ _).mono ?_; rintro e0 w0 ⟨rfl, hw0⟩; obtain rfl := hw0.symm; clear hw0
 rw [HJ.out]
 go_wp2_with fail
 go_at_call 31; refine (HR.out _ ?hix).mono ?_
 case hix => exact ⟨_, _, _, HX.out.over qL, HGO.out.below qL⟩
 rintro e2 w2 ⟨ve, vc, rfl, hix2, ho2, hoe, hoc2⟩
 have hse := qSt hoe
 have hsc := qSt hoc2
 have HIX2 := hid hix2
 have HO2 := hid ho2
 clear hix2 ho2 hoe hoc2
 simp only [Z0n]
 go_wp2_with fail
 refine bodyPost_ret (results_tmp rfl _ _ _) rfl ⟨rfl, HIX2.out.over qL, ?_⟩
 exact OverTwo.trans (OverTwo.trans (OverTwo.of_below qL) HO2.out) (OverTwo.of_below qL)) : P := h
theorem sG38 {P : Prop} (h : P := by
 have HMK := hid hmk
 have HMY := hid hmy
 have HJ0 := hid hj
 clear hmk hmy hj
 obtain ⟨vk0, vt0, vg0, hx, hgo⟩ := h
 have HX := hid hx
 have HGO := hid hgo
 have hxlt := hx.blk.lt
 have hxlt1 : x < w.heap.size + 1 := by omega
 obtain ⟨key, hky⟩ : ∃ key, keyOf mkey = key := ⟨_, rfl⟩
 have HKY := hid hky
 (try rw [hky] at HR)
 have b16 : (o.code == 16) = true := by simp [hoc]
 clear hoc
 exact sG11) : P := h
theorem Z9w (x P cap G : Nat) (pages pages' : List Bt.Page) (next next' : Int) (keys : List Int) (tos : List Bt.Ptr) (mk mkey ml n : Int) (hmk : -9223372036854775808 ≤ mk ∧ mk ≤ 9223372036854775807) (hmy : -9223372036854775808 ≤ mkey ∧ mkey ≤ 9223372036854775807) (o : Bt.Out) (w : World) (h : IxG x P cap G pages next keys tos w) (hj : pick mk 14 = 11) (hoc : o.code = 16)
 (HR : Hid (∀ w', IxG x P cap G pages next keys tos w' → Calls Tryz.prog 31 #[.pointer (some ⟨x, 0, none⟩), .agg (Z0d ⟨6, 0, 0, Bt.nilP, 0, 0, []⟩ (.slice none 0 0))] w' (Z2x x P cap G pages' next' keys tos o w'))) :
 Calls Tryz.prog 23 #[.pointer (some ⟨x, 0, none⟩), .agg #[.int .i64 mk, .int .i64 mkey, .int .i64 ml], .int .i64 n] w (Z1J x P cap G pages' next' keys tos true w) := by
 exact sG38
theorem sG34 {P : Prop} (h : P := by
 have HMK := hid hmk
 have HMY := hid hmy
 have HJ0 := hid hj
 clear hmk hmy hj
 obtain ⟨vk0, vt0, vg0, hx, hgo⟩ := h
 have HX := hid hx
 have HGO := hid hgo
 have hxlt := hx.blk.lt
 have hxlt1 : x < w.heap.size + 1 := by omega
 obtain ⟨key, hky⟩ : ∃ key, keyOf mkey = key := ⟨_, rfl⟩
 have HKY := hid hky
 (try rw [hky] at HR)
 have b0 : (o.code == 0) = true := by simp [hoc]
 have b16 : (o.code == 16) = false := by simp [hoc]
 have b7 : (o.code == 7) = false := by simp [hoc]
 have bd : (o.done == o.found) = false := by simp [hdf]
 clear hoc hdf
 exact sG11) : P := h
theorem Z7M (x P cap G : Nat) (pages pages' : List Bt.Page) (next next' : Int) (keys : List Int) (tos : List Bt.Ptr) (mk mkey ml n : Int) (hmk : -9223372036854775808 ≤ mk ∧ mk ≤ 9223372036854775807) (hmy : -9223372036854775808 ≤ mkey ∧ mkey ≤ 9223372036854775807) (o : Bt.Out) (w : World) (h : IxG x P cap G pages next keys tos w) (hj : pick mk 14 = 11) (hoc : o.code = 0) (hdf : o.done ≠ o.found)
 (HR : Hid (∀ w', IxG x P cap G pages next keys tos w' → Calls Tryz.prog 31 #[.pointer (some ⟨x, 0, none⟩), .agg (Z0d ⟨6, 0, 0, Bt.nilP, 0, 0, []⟩ (.slice none 0 0))] w' (Z2x x P cap G pages' next' keys tos o w'))) :
 Calls Tryz.prog 23 #[.pointer (some ⟨x, 0, none⟩), .agg #[.int .i64 mk, .int .i64 mkey, .int .i64 ml], .int .i64 n] w (Z1J x P cap G pages' next' keys tos true w) := by
 exact sG34
theorem ZaZ (x P cap G : Nat) (pages pages' : List Bt.Page) (next next' : Int) (keys : List Int) (tos : List Bt.Ptr) (mk mkey ml n : Int) (hmk : -9223372036854775808 ≤ mk ∧ mk ≤ 9223372036854775807) (hmy : -9223372036854775808 ≤ mkey ∧ mkey ≤ 9223372036854775807) (o : Bt.Out) (w : World) (h : IxG x P cap G pages next keys tos w) (hj : pick mk 14 = 12) (hoc : o.code = 16)
 (HR : Hid (∀ w', IxG x P cap G pages next keys tos w' → Calls Tryz.prog 31 #[.pointer (some ⟨x, 0, none⟩), .agg (Z0d ⟨7, keyOf mkey, 0, Bt.nilP, 0, 0, []⟩ (.slice none 0 0))] w' (Z2x x P cap G pages' next' keys tos o w'))) :
 Calls Tryz.prog 23 #[.pointer (some ⟨x, 0, none⟩), .agg #[.int .i64 mk, .int .i64 mkey, .int .i64 ml], .int .i64 n] w (Z1J x P cap G pages' next' keys tos true w) := by
 exact sG38
theorem ZbE (x P cap G : Nat) (pages pages' : List Bt.Page) (next next' : Int) (keys : List Int) (tos : List Bt.Ptr) (mk mkey ml n : Int) (hmk : -9223372036854775808 ≤ mk ∧ mk ≤ 9223372036854775807) (hmy : -9223372036854775808 ≤ mkey ∧ mkey ≤ 9223372036854775807) (o : Bt.Out) (w : World) (h : IxG x P cap G pages next keys tos w) (hj : pick mk 14 = 12) (hoc : o.code = 7)
 (HR : Hid (∀ w', IxG x P cap G pages next keys tos w' → Calls Tryz.prog 31 #[.pointer (some ⟨x, 0, none⟩), .agg (Z0d ⟨7, keyOf mkey, 0, Bt.nilP, 0, 0, []⟩ (.slice none 0 0))] w' (Z2x x P cap G pages' next' keys tos o w'))) :
 Calls Tryz.prog 23 #[.pointer (some ⟨x, 0, none⟩), .agg #[.int .i64 mk, .int .i64 mkey, .int .i64 ml], .int .i64 n] w (Z1J x P cap G pages' next' keys tos true w) := by
 have HMK := hid hmk
 have HMY := hid hmy
 have HJ0 := hid hj
 clear hmk hmy hj
 obtain ⟨vk0, vt0, vg0, hx, hgo⟩ := h
 have HX := hid hx
 have HGO := hid hgo
 have hxlt := hx.blk.lt
 have hxlt1 : x < w.heap.size + 1 := by omega
 obtain ⟨key, hky⟩ : ∃ key, keyOf mkey = key := ⟨_, rfl⟩
 have HKY := hid hky
 (try rw [hky] at HR)
 have b16 : (o.code == 7) = true := by simp [hoc]
 have b160 : (o.code == 16) = false := by simp [hoc]
 clear hoc
 exact sG11
theorem Z8W (x P cap G : Nat) (pages pages' : List Bt.Page) (next next' : Int) (keys : List Int) (tos : List Bt.Ptr) (mk mkey ml n : Int) (hmk : -9223372036854775808 ≤ mk ∧ mk ≤ 9223372036854775807) (hmy : -9223372036854775808 ≤ mkey ∧ mkey ≤ 9223372036854775807) (o : Bt.Out) (w : World) (h : IxG x P cap G pages next keys tos w) (hj : pick mk 14 = 12) (hoc : o.code = 0) (hdf : o.done ≠ o.found)
 (HR : Hid (∀ w', IxG x P cap G pages next keys tos w' → Calls Tryz.prog 31 #[.pointer (some ⟨x, 0, none⟩), .agg (Z0d ⟨7, keyOf mkey, 0, Bt.nilP, 0, 0, []⟩ (.slice none 0 0))] w' (Z2x x P cap G pages' next' keys tos o w'))) :
 Calls Tryz.prog 23 #[.pointer (some ⟨x, 0, none⟩), .agg #[.int .i64 mk, .int .i64 mkey, .int .i64 ml], .int .i64 n] w (Z1J x P cap G pages' next' keys tos true w) := by
 exact sG34
theorem ZbD (x P cap G : Nat) (pages pages' : List Bt.Page) (next next' : Int) (keys : List Int) (tos : List Bt.Ptr) (mk mkey ml n : Int) (hmk : -9223372036854775808 ≤ mk ∧ mk ≤ 9223372036854775807) (hmy : -9223372036854775808 ≤ mkey ∧ mkey ≤ 9223372036854775807) (o : Bt.Out) (w : World) (h : IxG x P cap G pages next keys tos w) (hj : pick mk 14 = 13) (hoc : o.code = 16) (hnd : o.done = false)
 (HR : Hid (∀ w', IxG x P cap G pages next keys tos w' → Calls Tryz.prog 31 #[.pointer (some ⟨x, 0, none⟩), .agg (Z0d ⟨8, keyOf mkey, 0, Bt.nilP, 0, 0, []⟩ (.slice none 0 0))] w' (Z2x x P cap G pages' next' keys tos o w'))) :
 Calls Tryz.prog 23 #[.pointer (some ⟨x, 0, none⟩), .agg #[.int .i64 mk, .int .i64 mkey, .int .i64 ml], .int .i64 n] w (Z1J x P cap G pages' next' keys tos true w) := by
 have HMK := hid hmk
 have HMY := hid hmy
 have HJ0 := hid hj
 clear hmk hmy hj
 obtain ⟨vk0, vt0, vg0, hx, hgo⟩ := h
 have HX := hid hx
 have HGO := hid hgo
 have hxlt := hx.blk.lt
 have hxlt1 : x < w.heap.size + 1 := by omega
 obtain ⟨key, hky⟩ : ∃ key, keyOf mkey = key := ⟨_, rfl⟩
 have HKY := hid hky
 (try rw [hky] at HR)
 have b16 : (o.code == 16) = true := by simp [hoc]
 clear hoc
 have HND := hid hnd
 clear hnd
 clear hx hgo hky
 unfold Z0d Bt.nilP at HR
 have hj := HJ0.out
 have HJ := hid hj
 clear hj
 go_enter Tryz.func23, Tryz.ntmps23
 go_wp2_with fail
 go_at_call 25; refine (Z2w mkey HMY.out _).mono ?_; rintro e0 w0 ⟨rfl, hw0⟩; obtain rfl := hw0.symm; clear hw0
 rw [HKY.out]
 go_wp2_with fail
 go_at_call 13; refine (Z1B mk 14 HMK.out ⟨by decide, by decide⟩ _).mono ?_; rintro e0 w0 ⟨rfl, hw0⟩; obtain rfl := hw0.symm; clear hw0
 rw [HJ.out]
 go_wp2_with fail
 go_at_call 31; refine (HR.out _ ?hix).mono ?_
 case hix => exact ⟨_, _, _, HX.out.over qL, HGO.out.below qL⟩
 rintro e2 w2 ⟨ve, vc, rfl, hix2, ho2, hoe, hoc2⟩
 have hse := qSt hoe
 have hsc := qSt hoc2
 have HIX2 := hid hix2
 have HO2 := hid ho2
 clear hix2 ho2 hoe hoc2
 simp only [Z0n]
 rw [HND.out]
 go_wp2_with fail
 refine bodyPost_ret (results_tmp rfl _ _ _) rfl ⟨rfl, HIX2.out.over qL, ?_⟩
 exact OverTwo.trans (OverTwo.trans (OverTwo.of_below qL) HO2.out) (OverTwo.of_below qL)
theorem Zcf (x P cap G : Nat) (pages pages' : List Bt.Page) (next next' : Int) (keys : List Int) (tos : List Bt.Ptr) (mk mkey ml n : Int) (hmk : -9223372036854775808 ≤ mk ∧ mk ≤ 9223372036854775807) (hmy : -9223372036854775808 ≤ mkey ∧ mkey ≤ 9223372036854775807) (o : Bt.Out) (w : World) (h : IxG x P cap G pages next keys tos w) (hj : pick mk 14 = 13) (hoc : o.code = 0) (hdf : o.done ≠ o.found) (hnd : o.done = false)
 (HR : Hid (∀ w', IxG x P cap G pages next keys tos w' → Calls Tryz.prog 31 #[.pointer (some ⟨x, 0, none⟩), .agg (Z0d ⟨8, keyOf mkey, 0, Bt.nilP, 0, 0, []⟩ (.slice none 0 0))] w' (Z2x x P cap G pages' next' keys tos o w'))) :
 Calls Tryz.prog 23 #[.pointer (some ⟨x, 0, none⟩), .agg #[.int .i64 mk, .int .i64 mkey, .int .i64 ml], .int .i64 n] w (Z1J x P cap G pages' next' keys tos true w) := by
 have HMK := hid hmk
 have HMY := hid hmy
 have HJ0 := hid hj
 clear hmk hmy hj
 obtain ⟨vk0, vt0, vg0, hx, hgo⟩ := h
 have HX := hid hx
 have HGO := hid hgo
 have hxlt := hx.blk.lt
 have hxlt1 : x < w.heap.size + 1 := by omega
 obtain ⟨key, hky⟩ : ∃ key, keyOf mkey = key := ⟨_, rfl⟩
 have HKY := hid hky
 (try rw [hky] at HR)
 have b0 : (o.code == 0) = true := by simp [hoc]
 have b16 : (o.code == 16) = false := by simp [hoc]
 have HND : Hid (o.done = false ∧ o.found = true) := hid ⟨hnd, by rw [hnd] at hdf; cases hf : o.found with | true => rfl | false => exact absurd hf.symm hdf⟩
 clear hoc hdf hnd
 clear hx hgo hky
 unfold Z0d Bt.nilP at HR
 have hj := HJ0.out
 have HJ := hid hj
 clear hj
 go_enter Tryz.func23, Tryz.ntmps23
 go_wp2_with fail
 go_at_call 25; refine (Z2w mkey HMY.out _).mono ?_; rintro e0 w0 ⟨rfl, hw0⟩; obtain rfl := hw0.symm; clear hw0
 rw [HKY.out]
 go_wp2_with fail
 go_at_call 13; refine (Z1B mk 14 HMK.out ⟨by decide, by decide⟩ _).mono ?_; rintro e0 w0 ⟨rfl, hw0⟩; obtain rfl := hw0.symm; clear hw0
 rw [HJ.out]
 go_wp2_with fail
 go_at_call 31; refine (HR.out _ ?hix).mono ?_
 case hix => exact ⟨_, _, _, HX.out.over qL, HGO.out.below qL⟩
 rintro e2 w2 ⟨ve, vc, rfl, hix2, ho2, hoe, hoc2⟩
 have hse := qSt hoe
 have hsc := qSt hoc2
 have HIX2 := hid hix2
 have HO2 := hid ho2
 clear hix2 ho2 hoe hoc2
 simp only [Z0n]
 rw [HND.out.1, HND.out.2]
 go_wp2_with fail
 refine bodyPost_ret (results_tmp rfl _ _ _) rfl ⟨rfl, HIX2.out.over qL, ?_⟩
 exact OverTwo.trans (OverTwo.trans (OverTwo.of_below qL) HO2.out) (OverTwo.of_below qL)
end Go.Proofs.YtjmpekanlmepmaaGreatDoor
