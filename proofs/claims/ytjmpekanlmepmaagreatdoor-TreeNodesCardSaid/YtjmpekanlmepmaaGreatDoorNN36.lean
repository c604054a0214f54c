/- The example of chapter 24: the operations that need a fresh page. -/
import Derived.Test.YtjmpekanlmepmaaGreatDoorNN34
import Derived.Test.YtjmpekanlmepmaaGreatDoorNN35
import Derived.Test.YtjmpekanlmepmaaGreatDoorNN14
import Derived.Test.YtjmpekanlmepmaaGreatDoorNN13
set_option linter.all false
set_option maxRecDepth 20000
set_option maxHeartbeats 8000000
open Go.Lib (hid)
namespace Go.Proofs.YtjmpekanlmepmaaGreatDoor
open Go.RowKit
theorem run_step_limit (x P cap : Nat) (pages : List Bt.Page) (next : Int) (keys : List Int) (tos : List Bt.Ptr) (op : Bt.Op) (hop : op.fresh = []) (ws : List Bt.Page) (o o1 : Bt.Out) (r : Nat) (f : Bt.Page) (hnx : next = 96 + r) (hnx2 : next < 256) (hfr : pages[r]? = some f)
 (hS1 : ∀ w ka kn kc, Steps op pages none ka 0 0 kn kc [] o1 w) (hS : ∀ w fa fc ka kn kc, Steps { op with fresh := [f] } pages fa ka 1 fc kn kc ws o w) (ho : o.code = 0) (ho1 : o1.code = 18) (ho1f : o1.fresh = 1) (hfit : fitsFrom pages 0 ws = true) (hlen : pages.length ≤ 1000000) (hws : ws.length ≤ 2)
 (w : World) (h : IxAt x P cap pages next keys tos w) : Calls Tryz.prog 31 #[.pointer (some ⟨x, 0, none⟩), .agg (opCells op (.slice none 0 0))] w (RunIx x P cap (applyWrites pages ws) (next + 1) keys tos o w) := by
 obtain ⟨vk, vt, vg, h⟩ := h
 have hgx : 0 < x := Nat.lt_trans h.hgP h.hPx
 refine (run_limit x P cap pages next vk vt vg op ws o w h.blk h.pg h.none h.hPx h.hgP hgx ho (fitsFrom_fit _ _ _ hfit).1 hlen hws o1 ho1 ho1f r f hnx hnx2 hfr (hid (fun w' hp hn => hS1 w' _ _ _ (by rw [hop]; exact PgRow.nil w') hp hn)) (hid (fun w' F c hf hp hn => hS w' _ _ _ _ _ hf hp hn))).mono (fun e w' hp => RunIx.of (n := 0) h (applyWrites_length _ _) hp)
theorem newOk (i : Nat) : (newPage i).Ok := okB_ok (by unfold okB newPage; simp)
theorem run_ins1 (x P cap : Nat) (keys : List Int) (tos : List Bt.Ptr) (w : World) (h : IxAt x P cap pg0 105 keys tos w) :
 Calls Tryz.prog 31 #[.pointer (some ⟨x, 0, none⟩), .agg (opCells (insOp 1 ⟨200, 1⟩ []) (.slice none 0 0))] w (RunIx x P cap pg1 106 keys tos (outOf (insS pg0 (rootPg pg0) Bt.nilP 1 [newPage 9])) w) :=
 run_step_limit x P cap pg0 105 keys tos (insOp 1 ⟨200, 1⟩ []) rfl (insS pg0 (rootPg pg0) Bt.nilP 1 [newPage 9]).writes _ (outOf (insS pg0 (rootPg pg0) Bt.nilP 1 [])) 9 (newPage 9) (by decide) (by decide) (by kernel_rfl)
  (fun w ka kn kc => steps_plant (insOp 1 ⟨200, 1⟩ []) pg0 none ka 0 0 kn kc w rfl (by kernel_rfl) (by kernel_rfl) (by decide) root0 (by kernel_rfl) (sortedB_of (by kernel_rfl)) (.inl rfl))
  (fun w fa fc ka kn kc => steps_plant (insOp 1 ⟨200, 1⟩ [newPage 9]) pg0 fa ka 1 fc kn kc w rfl (by kernel_rfl) (by kernel_rfl) (by decide) root0 (by kernel_rfl) (sortedB_of (by kernel_rfl)) (.inr ⟨newPage 9, (Bt.allocate (newPage 9) 4 0).1, rfl, newOk 9, by kernel_rfl⟩))
  (by kernel_rfl) (by kernel_rfl) (by kernel_rfl) (by kernel_rfl) (of_decide_eq_true (by kernel_rfl)) (of_decide_eq_true (by kernel_rfl)) w h
theorem run_ins6 (x P cap : Nat) (keys : List Int) (tos : List Bt.Ptr) (w : World) (h : IxAt x P cap pg5 106 keys tos w) :
 Calls Tryz.prog 31 #[.pointer (some ⟨x, 0, none⟩), .agg (opCells (insOp 6 ⟨200, 6⟩ []) (.slice none 0 0))] w (RunIx x P cap pg6 107 keys tos (outOf (insS pg5 (rootPg pg5) lf 6 [newPage 10])) w) :=
 run_step_limit x P cap pg5 106 keys tos (insOp 6 ⟨200, 6⟩ []) rfl (insS pg5 (rootPg pg5) lf 6 [newPage 10]).writes _ (outOf (insS pg5 (rootPg pg5) lf 6 [])) 10 (newPage 10) (by decide) (by decide) (by kernel_rfl)
  (fun w ka kn kc => steps_leaf' pg5 6 [] root5 look5 (by kernel_rfl) (.inr ⟨of_decide_eq_true (by kernel_rfl), .inl rfl⟩) none ka 0 0 kn kc w)
  (fun w fa fc ka kn kc => steps_leaf' pg5 6 [newPage 10] root5 look5 (by kernel_rfl) (.inr ⟨of_decide_eq_true (by kernel_rfl), .inr ⟨newPage 10, (Bt.allocate (newPage 10) 4 0).1, rfl, newOk 10, by kernel_rfl, of_decide_eq_true (by kernel_rfl)⟩⟩) fa ka 1 fc kn kc w)
  (by kernel_rfl) (by kernel_rfl) (by kernel_rfl) (by kernel_rfl) (of_decide_eq_true (by kernel_rfl)) (of_decide_eq_true (by kernel_rfl)) w h
theorem run_up (x P cap : Nat) (keys : List Int) (tos : List Bt.Ptr) (w : World) (h : IxAt x P cap pg6 107 keys tos w) :
 Calls Tryz.prog 31 #[.pointer (some ⟨x, 0, none⟩), .agg (opCells (upOp []) (.slice none 0 0))] w (RunIx x P cap pg7 108 keys tos (outOf (upS pg6 (rootPg pg6) lf [newPage 11])) w) :=
 run_step_limit x P cap pg6 107 keys tos (upOp []) rfl (upS pg6 (rootPg pg6) lf [newPage 11]).writes _ (outOf (upS pg6 (rootPg pg6) lf [])) 11 (newPage 11) (by decide) (by decide) (by kernel_rfl)
  (fun w ka kn kc => steps_up (upOp []) pg6 none ka 0 0 kn kc w rfl root6 (by decide) look6 (of_decide_eq_true (by kernel_rfl)) (of_decide_eq_true (by kernel_rfl)) (by kernel_rfl) (sortedB_of (by kernel_rfl)) (.inl rfl))
  (fun w fa fc ka kn kc => steps_up (upOp [newPage 11]) pg6 fa ka 1 fc kn kc w rfl root6 (by decide) look6 (of_decide_eq_true (by kernel_rfl)) (of_decide_eq_true (by kernel_rfl)) (by kernel_rfl) (sortedB_of (by kernel_rfl)) (.inr ⟨newPage 11, (Bt.allocate (newPage 11) 4 0).1, rfl, newOk 11, by kernel_rfl, of_decide_eq_true (by kernel_rfl)⟩))
  (by kernel_rfl) (by kernel_rfl) (by kernel_rfl) (by kernel_rfl) (of_decide_eq_true (by kernel_rfl)) (of_decide_eq_true (by kernel_rfl)) w h
def BeginPost (w : World) (e : Ending) (w' : World) : Prop :=
 ∃ x P cap, e = .returned (.pointer (some ⟨x, 0, none⟩)) ∧ w.heap.size ≤ P ∧ P < x ∧ Blk w' x 58 #[.slice (some ⟨P, 0, none⟩) 160 cap, .int .i64 105, .slice none 0 0, .slice none 0 0, .slice none 0 0] ∧
  w'.ownsRow (w.heap.size + 1) 25 9 (.slice (some ⟨P, 0, none⟩) 160 cap) 160 (pageCells (newPages 160)) ∧ Below w.heap.size w w'
theorem begin_any (w : World) : Calls Tryz.prog 22 #[] w (BeginPost w) := by
 go_enter Tryz.func22, Tryz.ntmps22
 go_wp2_with fail
 go_at_call 47; refine (heapNew _).mono ?_
 rintro e1 w1 ⟨v, rfl, hN⟩
 obtain ⟨P, cap, rfl⟩ := own_form hN.own (by omega)
 have HN := hid hN
 have kb := hN.blk.cell 0
 have kb' : w1.cell? ⟨w.heap.size, 0, none⟩ = some (.slice (some ⟨P, 0, none⟩) 160 cap) := kb
 have hlt := own_lt hN.own
 clear kb hN
 go_wp2_with fail
 refine bodyPost_ret (results_tmp rfl _ _ _) rfl ⟨w1.heap.size, P, cap, rfl, by omega, by omega, Blk.made _ _ _, own_below HN.out.own (below_alloc (Below.refl _ _) _), below_alloc HN.out.below _⟩
def InsAt (x P cap : Nat) (ps ps' : List Bt.Page) (nx nx' : Int) (k : Nat) : Prop :=
 ∀ (keys : List Int) (tos : List Bt.Ptr) (w : World), keys.length = k → tos.length = k → (∀ y ∈ keys, y < (k : Int) + 1) → IxAt x P cap ps nx keys tos w →
  Calls Tryz.prog 46 #[.pointer (some ⟨x, 0, none⟩), .int .u32 ((k : Int) + 1), .agg #[.int .i64 200, .int .i64 ((k : Int) + 1)]] w (InsPostIx x P cap ps' nx' (insertK keys (placeOf keys ((k : Int) + 1)) ((k : Int) + 1)) (insertK tos (placeOf keys ((k : Int) + 1)) ⟨200, (k : Int) + 1⟩) true w)
theorem insAt_of {x P cap : Nat} {ps ps' : List Bt.Page} {nx nx' : Int} {k : Nat} {o : Bt.Out} (hk : k ≤ 1000) (hoc : o.code = 0) (hod : o.done = true)
 (hr : ∀ (keys : List Int) (tos : List Bt.Ptr) (w : World), IxAt x P cap ps nx keys tos w → Calls Tryz.prog 31 #[.pointer (some ⟨x, 0, none⟩), .agg (opCells (insOp ((k : Int) + 1) ⟨200, (k : Int) + 1⟩ []) (.slice none 0 0))] w (RunIx x P cap ps' nx' keys tos o w)) :
 InsAt x P cap ps ps' nx nx' k := by
 intro keys tos w hkl htl hall h
 have hth : isThere keys ((k : Int) + 1) = false := isThere_end _ _ (placeOf_end _ _ hall)
 rw [← hod]
 exact insert_new x P cap ps ps' nx nx' keys tos ((k : Int) + 1) ⟨200, (k : Int) + 1⟩ o w h hth (by omega) (by omega) hoc (hid (fun w' h' => hr keys tos w' h'))
def Up (x P cap : Nat) (ps : List Bt.Page) (nx : Int) (k : Nat) (w : World) : Prop := ∃ keys tos, keys.length = k ∧ tos.length = k ∧ (∀ y ∈ keys, y < (k : Int) + 1) ∧ IxAt x P cap ps nx keys tos w
theorem Up.step {x P cap : Nat} {ps ps' : List Bt.Page} {nx nx' : Int} {k : Nat} (hi : InsAt x P cap ps ps' nx nx' k) {w : World} (h : Up x P cap ps nx k w) (key : Int) (hkey : key = (k : Int) + 1) :
 Calls Tryz.prog 46 #[.pointer (some ⟨x, 0, none⟩), .int .u32 key, .agg #[.int .i64 200, .int .i64 key]] w fun e w' => e = .returned (.bool true) ∧ Up x P cap ps' nx' (k + 1) w' ∧ OverTwo x P w w' := by
 subst hkey
 obtain ⟨keys, tos, h1, h2, h3, h4⟩ := h
 refine (hi keys tos w h1 h2 h3 h4).mono ?_
 rintro e w' ⟨he, hix, ho⟩
 have hp : placeOf keys ((k : Int) + 1) = keys.length := placeOf_end _ _ h3
 refine ⟨he, ⟨_, _, ?_, ?_, ?_, hix⟩, ho⟩
 ·rw [insertK_length _ _ _ (by omega)]; omega
 ·rw [insertK_length _ _ _ (by omega)]; omega
 ·intro y hy
  rw [hp] at hy
  simp only [insertK, List.take_length, List.drop_length, List.mem_append, List.mem_cons, List.not_mem_nil, or_false] at hy
  rcases hy with hy | rfl
  ·have := h3 y hy; omega
  ·omega
section
variable (x P cap : Nat)
theorem ins0 : InsAt x P cap pg0 pg1 105 106 0 := insAt_of (by decide) (by kernel_rfl) (by kernel_rfl) (fun keys tos w h => run_ins1 x P cap keys tos w h)
theorem ins1 : InsAt x P cap pg1 pg2 106 106 1 := insAt_of (by decide) (by kernel_rfl) (by kernel_rfl) (fun keys tos w h => run_ins2 x P cap 106 keys tos w h)
theorem ins2 : InsAt x P cap pg2 pg3 106 106 2 := insAt_of (by decide) (by kernel_rfl) (by kernel_rfl) (fun keys tos w h => run_ins3 x P cap 106 keys tos w h)
theorem ins3 : InsAt x P cap pg3 pg4 106 106 3 := insAt_of (by decide) (by kernel_rfl) (by kernel_rfl) (fun keys tos w h => run_ins4 x P cap 106 keys tos w h)
theorem ins4 : InsAt x P cap pg4 pg5 106 106 4 := insAt_of (by decide) (by kernel_rfl) (by kernel_rfl) (fun keys tos w h => run_ins5 x P cap 106 keys tos w h)
theorem ins5 : InsAt x P cap pg5 pg6 106 107 5 := insAt_of (by decide) (by kernel_rfl) (by kernel_rfl) (fun keys tos w h => run_ins6 x P cap keys tos w h)
end
theorem IxAt.start {w0 : World} {x P cap : Nat} {w : World} (hx : Blk w x 58 #[.slice (some ⟨P, 0, none⟩) 160 cap, .int .i64 105, .slice none 0 0, .slice none 0 0, .slice none 0 0])
 (ho : w.ownsRow (w0.heap.size + 1) 25 9 (.slice (some ⟨P, 0, none⟩) 160 cap) 160 (pageCells (newPages 160))) (hPx : P < x) (hgP : 0 < P) (hn : NoneAt w) : Up x P cap pg0 105 0 w := by
 have hl : (newPages 160).length = 160 := by simp [newPages]
 refine ⟨[], [], rfl, rfl, (fun y hy => by cases hy), _, _, _, hx, ⟨⟨?_, by rw [show pg0 = newPages 160 from rfl, hl]; unfold maxLen; omega, .inr ⟨P, cap, rfl, (own_lt ho).2, fun i p hi j u hu => own_cells ho _ _ (pageCells_get _ i p hi j u hu)⟩⟩, fun i => ?_, (own_lt ho).2, ?_⟩, World.ownsRow_nil _ _ _ _, World.ownsRow_nil _ _ _ _, hn, hPx, hgP⟩
 ·intro p hp
  obtain ⟨i, _, rfl⟩ := List.mem_map.1 hp
  exact newOk i
 ·rcases ho.2 with ⟨h, _⟩ | ⟨g, c, cur, h, _, hg, _⟩
  ·simp at h
  ·simp only [Value.slice.injEq, Option.some.injEq, Addr.mk.injEq, and_true, true_and] at h
   obtain ⟨rfl, rfl⟩ := h
   exact frozen_of_row w P i cur _ hg
 ·rcases ho.2 with ⟨h, _⟩ | ⟨g, c, cur, h, _, hg, _⟩
  ·simp at h
  ·simp only [Value.slice.injEq, Option.some.injEq, Addr.mk.injEq, and_true, true_and] at h
   obtain ⟨rfl, rfl⟩ := h
   exact ⟨cur, hg⟩
theorem last_leaf : pg7[9]? = some (leafPg pg7) ∧ Bt.readNode (leafPg pg7) = some (leafPg pg7).node ∧ (leafPg pg7).node.high = 3 ∧ (leafPg pg7).node.entries.length = 3 := ⟨by kernel_rfl, by kernel_rfl, by kernel_rfl, by kernel_rfl⟩
theorem up_out : (outOf (upS pg6 (rootPg pg6) lf [newPage 11])).done = true := by kernel_rfl
theorem awake_any (w : World) (hn : NoneAt w) : Calls Tryz.prog 21 #[] w fun e w' => e = .returned (.bool true) ∧ Below w.heap.size w w' := by
 have HN := hid hn
 clear hn
 go_enter Tryz.func21, Tryz.ntmps21
 go_wp2_with fail
 go_at_call 22; refine (begin_any _).mono ?_
 rintro e0 w0 ⟨x, P, cap, rfl, hwP, hPx, hbx, hox, hb0⟩
 have hgP : 0 < P := by have := HN.out.lt; omega
 have HU0 : Hid (Up x P cap pg0 105 0 w0) := hid (IxAt.start hbx hox hPx hgP (HN.out.below hb0))
 have HV0 : Hid (Below w.heap.size w w0) := hid hb0
 clear hbx hox hb0
 go_wp2_with fail
 refine wp_loop_rounds 7 ?_
 rw [rounds_succ]
 go_wp2_with fail
 go_at_call 46; refine (Up.step (ins0 x P cap) HU0.out 1 rfl).mono ?_
 rintro e1 w1 ⟨rfl, hu1, ho1⟩
 have HU1 := hid hu1
 have HV1 := hid (OverTwo.to_below HV0.out ho1 (by omega) (by omega))
 clear hu1 ho1 HU0 HV0
 go_wp2_with fail
 rw [rounds_succ]
 go_wp2_with fail
 go_at_call 46; refine (Up.step (ins1 x P cap) HU1.out 2 rfl).mono ?_
 rintro e2 w2 ⟨rfl, hu2, ho2⟩
 have HU2 := hid hu2
 have HV2 := hid (OverTwo.to_below HV1.out ho2 (by omega) (by omega))
 clear hu2 ho2 HU1 HV1
 go_wp2_with fail
 rw [rounds_succ]
 go_wp2_with fail
 go_at_call 46; refine (Up.step (ins2 x P cap) HU2.out 3 rfl).mono ?_
 rintro e3 w3 ⟨rfl, hu3, ho3⟩
 have HU3 := hid hu3
 have HV3 := hid (OverTwo.to_below HV2.out ho3 (by omega) (by omega))
 clear hu3 ho3 HU2 HV2
 go_wp2_with fail
 rw [rounds_succ]
 go_wp2_with fail
 go_at_call 46; refine (Up.step (ins3 x P cap) HU3.out 4 rfl).mono ?_
 rintro e4 w4 ⟨rfl, hu4, ho4⟩
 have HU4 := hid hu4
 have HV4 := hid (OverTwo.to_below HV3.out ho4 (by omega) (by omega))
 clear hu4 ho4 HU3 HV3
 go_wp2_with fail
 rw [rounds_succ]
 go_wp2_with fail
 go_at_call 46; refine (Up.step (ins4 x P cap) HU4.out 5 rfl).mono ?_
 rintro e5 w5 ⟨rfl, hu5, ho5⟩
 have HU5 := hid hu5
 have HV5 := hid (OverTwo.to_below HV4.out ho5 (by omega) (by omega))
 clear hu5 ho5 HU4 HV4
 go_wp2_with fail
 rw [rounds_succ]
 go_wp2_with fail
 go_at_call 46; refine (Up.step (ins5 x P cap) HU5.out 6 rfl).mono ?_
 rintro e6 w6 ⟨rfl, hu6, ho6⟩
 have HU6 := hid hu6
 have HV6 := hid (OverTwo.to_below HV5.out ho6 (by omega) (by omega))
 clear hu6 ho6 HU5 HV5
 go_wp2_with fail
 rw [rounds_succ]
 go_wp2_with fail
 obtain ⟨keys, tos, hk1, hk2, hk3, hix⟩ := HU6.out
 go_at_call 31; refine (run_up x P cap keys tos w6 hix).mono ?_
 rintro e7 w7 ⟨ve, vc, rfl, hix7, ho7, hoe, hoc⟩
 obtain ⟨vk, vt, vg, hx7⟩ := hix7
 have hse := qSt hoe
 have hsc := qSt hoc
 obtain ⟨hl1, hl2, hl3, hl4⟩ := last_leaf
 have hlen : pg7.length = 160 := by kernel_rfl
 have kx := hx7.blk.cell 0
 have kx' : w7.cell? ⟨x, 0, none⟩ = some (.slice (some ⟨P, 0, none⟩) pg7.length cap) := kx
 rw [hlen] at kx'
 have hlt9 : 9 < pg7.length := by omega
 obtain ⟨c0, c1, c2, c3, c4, c5, c6, c7, c8⟩ := nine (hx7.pg.row_at hlt9)
 have hlp : pg7[9] = leafPg pg7 := by rw [List.getElem?_eq_getElem hlt9] at hl1; exact Option.some.inj hl1
 obtain ⟨L, hL⟩ : ∃ L, L = leafPg pg7 := ⟨_, rfl⟩
 rw [hlp, ← hL] at c0 c1 c2 c3 c4 c5 c6 c7 c8
 rw [← hL] at hl2 hl3 hl4
 have HLO : Hid L.Ok := hid (by rw [hL, ← hlp]; exact hx7.pg.row.ok _ (List.getElem_mem hlt9))
 have HL2 := hid hl2
 have HL3 := hid hl3
 have HL4 := hid hl4
 have HX7 := hid hx7
 have HV7 := hid (OverTwo.to_below HV6.out ho7 (by omega) (by omega))
 have hxl : x < w7.heap.size := hx7.blk.lt
 have hPl : P < w7.heap.size := hx7.pg.lt
 have ud := up_out
 obtain ⟨O, hO⟩ : ∃ O, O = outOf (upS pg6 (rootPg pg6) lf [newPage 11]) := ⟨_, rfl⟩
 rw [← hO] at ud hoe hoc ⊢
 clear hix hx7 ho7 hoe hoc kx hl1 hl2 hl3 hl4 hlp hL hlen hlt9 hO hk1 hk2 hk3
 simp only [outCells]
 go_wp2_with fail
 go_at_call 28; refine (ReadNode_any L HLO.out _ ?hng).mono ?_
 case hng => exact HX7.out.none.below qL
 rintro e8 w8 (⟨hbad, _⟩ | ⟨v, _, rfl, hown, hb8⟩)
 ·exact absurd (hbad.symm.trans HL2.out) (by simp)
 ·obtain ⟨g, cp, rfl⟩ := own_form hown (by rw [HL4.out]; decide)
  have hl3 := HL3.out
  have hl4 := HL4.out
  ((obtain ⟨hc8, hf8, hs8⟩ := qR hb8); (try have := qN0 w7 w8))
  have HB8 := hid hb8
  simp only [nodeCells]
  rw [hl4, hl3]
  clear hown hb8
  go_wp2_with fail
  have hb8 := HB8.out
  have hv7 := HV7.out
  go_ret
  exact ⟨rfl, qL⟩
end Go.Proofs.YtjmpekanlmepmaaGreatDoor
