/- bodegalaw24.awake holds. -/
import Derived.Test.YtjmpekanlmepmaaGreatDoorQo
import Derived.Test.YtjmpekanlmepmaaGreatDoorWD1
set_option linter.unusedVariables false
set_option linter.unusedSimpArgs false
set_option linter.unusedSectionVars false
set_option linter.constructorNameAsVariable false
namespace Go.Proofs.YtjmpekanlmepmaaGreatDoor
open Go.RowKit

set_option maxRecDepth 10000 in
set_option maxHeartbeats 4000000 in
theorem awake_any (w : World) (hn : NoneAt w) : Calls Tryz.prog 21 #[] w fun e w' => e = .returned (.bool true) ∧ Below w.heap.size w w' := by
  have HN := Lib.hid hn
  clear hn
  go_enter Tryz.func21, Tryz.ntmps21
  go_wp2_with fail
  go_at_call 22; refine (begin_any _).mono ?_
  rintro e0 w0 ⟨x, P, cap, rfl, hwP, hPx, hbx, hox, hb0⟩
  have hgP : 0 < P := by have := HN.out.lt; omega
  have HU0 : Hid (Up x P cap pg0 105 0 w0) := Lib.hid (IxAt.start hbx hox hPx hgP (HN.out.below hb0))
  have HV0 : Hid (Below w.heap.size w w0) := Lib.hid hb0
  clear hbx hox hb0
  go_wp2_with fail
  refine wp_loop_rounds 7 ?_
  rw [rounds_succ]
  go_wp2_with fail
  go_at_call 46; refine (Up.step (ins0 x P cap) HU0.out 1 rfl).mono ?_
  rintro e1 w1 ⟨rfl, hu1, ho1⟩
  have HU1 := Lib.hid hu1
  have HV1 := Lib.hid (OverTwo.to_below HV0.out ho1 (by omega) (by omega))
  clear hu1 ho1 HU0 HV0
  go_wp2_with fail
  rw [rounds_succ]
  go_wp2_with fail
  go_at_call 46; refine (Up.step (ins1 x P cap) HU1.out 2 rfl).mono ?_
  rintro e2 w2 ⟨rfl, hu2, ho2⟩
  have HU2 := Lib.hid hu2
  have HV2 := Lib.hid (OverTwo.to_below HV1.out ho2 (by omega) (by omega))
  clear hu2 ho2 HU1 HV1
  go_wp2_with fail
  rw [rounds_succ]
  go_wp2_with fail
  go_at_call 46; refine (Up.step (ins2 x P cap) HU2.out 3 rfl).mono ?_
  rintro e3 w3 ⟨rfl, hu3, ho3⟩
  have HU3 := Lib.hid hu3
  have HV3 := Lib.hid (OverTwo.to_below HV2.out ho3 (by omega) (by omega))
  clear hu3 ho3 HU2 HV2
  go_wp2_with fail
  rw [rounds_succ]
  go_wp2_with fail
  go_at_call 46; refine (Up.step (ins3 x P cap) HU3.out 4 rfl).mono ?_
  rintro e4 w4 ⟨rfl, hu4, ho4⟩
  have HU4 := Lib.hid hu4
  have HV4 := Lib.hid (OverTwo.to_below HV3.out ho4 (by omega) (by omega))
  clear hu4 ho4 HU3 HV3
  go_wp2_with fail
  rw [rounds_succ]
  go_wp2_with fail
  go_at_call 46; refine (Up.step (ins4 x P cap) HU4.out 5 rfl).mono ?_
  rintro e5 w5 ⟨rfl, hu5, ho5⟩
  have HU5 := Lib.hid hu5
  have HV5 := Lib.hid (OverTwo.to_below HV4.out ho5 (by omega) (by omega))
  clear hu5 ho5 HU4 HV4
  go_wp2_with fail
  rw [rounds_succ]
  go_wp2_with fail
  go_at_call 46; refine (Up.step (ins5 x P cap) HU5.out 6 rfl).mono ?_
  rintro e6 w6 ⟨rfl, hu6, ho6⟩
  have HU6 := Lib.hid hu6
  have HV6 := Lib.hid (OverTwo.to_below HV5.out ho6 (by omega) (by omega))
  clear hu6 ho6 HU5 HV5
  go_wp2_with fail
  rw [rounds_succ]
  go_wp2_with fail
  obtain ⟨keys, tos, hk1, hk2, hk3, hix⟩ := HU6.out
  go_at_call 31; refine (run_up x P cap keys tos w6 hix).mono ?_
  rintro e7 w7 ⟨ve, vc, rfl, hix7, ho7, hoe, hoc⟩
  obtain ⟨vk, vt, vg, hx7⟩ := hix7
  have hse : ∀ (a : Addr) (m : Mode) (wx : World), (store a ve m).run Tryz.prog wx = stored Tryz.prog wx a ve m := fun a m wx => run_store Tryz.prog wx a ve m (own_one hoe)
  have hsc : ∀ (a : Addr) (m : Mode) (wx : World), (store a vc m).run Tryz.prog wx = stored Tryz.prog wx a vc m := fun a m wx => run_store Tryz.prog wx a vc m (own_one hoc)
  obtain ⟨hl1, hl2, hl3, hl4⟩ := last_leaf
  have hlen : pg7.length = 160 := by kernel_rfl
  have kx := hx7.blk.cell 0
  have kx' : w7.cell? ⟨x, 0, none⟩ = some (.slice (some ⟨P, 0, none⟩) pg7.length cap) := kx
  rw [hlen] at kx'
  have hlt9 : 9 < pg7.length := by omega
  obtain ⟨c0, c1, c2, c3, c4, c5, c6, c7, c8⟩ := nine (hx7.pg.row_at hlt9)
  have hlp : pg7[9] = leafPg pg7 := by rw [List.getElem?_eq_getElem hlt9] at hl1; exact Option.some.inj hl1
  obtain ⟨L, hL⟩ : ∃ L, L = leafPg pg7 := ⟨_, rfl⟩
  rw [hlp, ← hL] at c0 c1 c2 c3 c4 c5 c6 c7 c8
  rw [← hL] at hl2 hl3 hl4
  have HLO : Hid L.Ok := Lib.hid (by rw [hL, ← hlp]; exact hx7.pg.row.ok _ (List.getElem_mem hlt9))
  have HL2 := Lib.hid hl2
  have HL3 := Lib.hid hl3
  have HL4 := Lib.hid hl4
  have HX7 := Lib.hid hx7
  have HV7 := Lib.hid (OverTwo.to_below HV6.out ho7 (by omega) (by omega))
  have hxl : x < w7.heap.size := hx7.blk.lt
  have hPl : P < w7.heap.size := hx7.pg.lt
  have ud := up_out
  obtain ⟨O, hO⟩ : ∃ O, O = outOf (upS pg6 (rootPg pg6) lf [newPage 11]) := ⟨_, rfl⟩
  rw [← hO] at ud hoe hoc ⊢
  clear hix hx7 ho7 hoe hoc kx hl1 hl2 hl3 hl4 hlp hL hlen hlt9 hO hk1 hk2 hk3
  simp only [outCells]
  go_wp2_with fail
  go_at_call 28; refine (ReadNode_any L HLO.out _ ?hng).mono ?_
  case hng => exact HX7.out.none.below (by (repeat (first | with_reducible exact Below.refl _ _ | with_reducible assumption | with_reducible refine Below.setCell ?_ (by first | (simp; done) | (simp; omega)) _ | with_reducible refine below_alloc ?_ _ | with_reducible refine below_drewN ?_ _ | with_reducible refine Below.drew ?_ | with_reducible refine below_step ?_ (by assumption))))
  rintro e8 w8 (⟨hbad, _⟩ | ⟨v, _, rfl, hown, hb8⟩)
  · exact absurd (hbad.symm.trans HL2.out) (by simp)
  · obtain ⟨g, cp, rfl⟩ := own_form hown (by rw [HL4.out]; decide)
    have hl3 := HL3.out
    have hl4 := HL4.out
    ((obtain ⟨hc8, hf8⟩ := below_rules hb8; have hs8 := Below.size hb8; try simp only [size_alloc, size_setCell, size_drew, size_drewN] at hs8 hc8 hf8); (try have z8_w7_0 : w7.heap.size < w8.heap.size := by omega))
    have HB8 := Lib.hid hb8
    simp only [nodeCells]
    rw [hl4, hl3]
    clear hown hb8
    go_wp2_with fail
    have hb8 := HB8.out
    have hv7 := HV7.out
    go_ret
    exact ⟨rfl, by (repeat (first | with_reducible exact Below.refl _ _ | with_reducible assumption | with_reducible refine Below.setCell ?_ (by first | (simp; done) | (simp; omega)) _ | with_reducible refine below_alloc ?_ _ | with_reducible refine below_drewN ?_ _ | with_reducible refine Below.drew ?_ | with_reducible refine below_step ?_ (by assumption)))⟩
end Go.Proofs.YtjmpekanlmepmaaGreatDoor
