/- bodegaref26.EpochNext of kind 5 (collect) with nothing retired. -/
import Derived.Test.YtcoiehgcfjfhaaaGreatDoorQ35
import Derived.Test.YtcoiehgcfjfhaaaGreatDoorQ13
import Derived.Deep.CutBlock
import Derived.Deep.DeepCutAuto
import Derived.Deep.CutRange
import Derived.Test.YtcoiehgcfjfhaaaGreatDoorQ09
set_option linter.all false
set_option maxRecDepth 20000
set_option maxHeartbeats 8000000
open Go.Lib (hid)
namespace Go.Proofs.YtcoiehgcfjfhaaaGreatDoor
open Go.RowKit
theorem wp_named {P : Program} {c : Code} {Q : Exit → Act → World → Prop} {a : Act} {X : World} (F : World → Prop) (hF : F X) (h : ∀ wx, Hid (F wx) → Code.wp P c Q a wx) : Code.wp P c Q a X := h X (hid hF)
theorem refEpochNext_5 (ps : List Bt.Page) (v : Value) (h0 ep : Int) (hd sg ic : Nat → Int) (w : World) (hk : PgRow w v ps) (hsm : ps.length ≤ 1000000) (hE : EpReady ps h0 ep hd sg ic) :
    Calls Tryz.prog 84 #[.agg #[.int .i64 5, .int .i64 0, .int .i64 0, .int .i64 256, .int .i64 0, .slice none 0 0], v] w fun e w' => ∃ code, e = .returned (.agg (badCells code (-1))) ∧ code ≠ 0 ∧ Below w.heap.size w w' := by
  obtain ⟨i0, hi, hz0, hz1, hz2⟩ := info_parts infoInt
  have HEA := hid (fun W => epochArgs5 W)
  have HM := hid (fun W (lines : List Int) vl (hb : Below w.heap.size w W) a b c => missing_none ps v lines vl W (hk.below hb) hsm a b c)
  obtain ⟨i1, hi1, hy0, hy1, hy2⟩ := info_parts infoPage
  obtain ⟨i2, hi2, hx0, hx1, hx2⟩ := info_parts infoNode
  have HLT : Hid (∀ W, Below w.heap.size w W → Calls Tryz.prog 46 #[v, .int .i64 97] W fun e w' => e = .returned (.tuple #[.agg (epochPage h0 ep).cells, .bool true]) ∧ Below W.heap.size W w') := hid (fun W hb => by
    have h := refLatest_any ps v 97 W (hk.below hb) hsm
    rw [show foundPage ps 97 = epochPage h0 ep by simp [foundPage, hE.top], hE.top] at h
    exact h)
  have HLK : Hid (∀ W, Calls Tryz.prog 47 #[.agg (epochPage h0 ep).cells] W fun e w' => e = .returned (.bool false) ∧ Below W.heap.size W w') := hid (fun W => by
    have h := refLocked_any (epochPage h0 ep) ⟨hE.okh, by simp [epochPage]; have := hE.oke; omega, by simp [epochPage], by simp [epochPage], by simp [epochPage], by simp [epochPage], by simp [epochPage], by simp [epochPage]⟩ W
    rw [show Bt.locked (epochPage h0 ep) = false by simp [Bt.locked, epochPage, hE.free]] at h
    exact h)
  have HRE := hid (fun W => refReadEpoch_ok h0 ep (by have := hE.oke; omega) W)
  have HLTj : Hid (∀ (j : Nat), j < 6 → ∀ W, Below w.heap.size w W → Calls Tryz.prog 46 #[v, .int .i64 (98 + j)] W fun e w' => e = .returned (.tuple #[.agg (ownPage (98 + j) (hd j) (sg j) (ic j)).cells, .bool true]) ∧ Below W.heap.size W w') := hid (fun j hj W hb => by
    have h := refLatest_any ps v (98 + j) W (hk.below hb) hsm
    rw [show foundPage ps (98 + j) = ownPage (98 + j) (hd j) (sg j) (ic j) by simp [foundPage, hE.own j hj], hE.own j hj] at h
    exact h)
  have HLKj : Hid (∀ (j : Nat), j < 6 → ∀ W, Calls Tryz.prog 47 #[.agg (ownPage (98 + j) (hd j) (sg j) (ic j)).cells] W fun e w' => e = .returned (.bool false) ∧ Below W.heap.size W w') := hid (fun j hj W => by
    obtain ⟨n1, n2, n3, n4⟩ := hE.num j hj
    have h := refLocked_any (ownPage (98 + j) (hd j) (sg j) (ic j)) ⟨n2, by simp [ownPage], by simp [ownPage]; omega, by simp [ownPage]; omega, by simp [ownPage], by simp [ownPage], by simp [ownPage], by simp [ownPage]⟩ W
    rw [show Bt.locked (ownPage (98 + j) (hd j) (sg j) (ic j)) = false by simp [Bt.locked, ownPage, n1]] at h
    exact h)
  have HRNj : Hid (∀ (j : Nat), j < 6 → ∀ W, Calls Tryz.prog 79 #[.agg (ownPage (98 + j) (hd j) (sg j) (ic j)).cells] W fun e w' => e = .returned (.tuple #[.agg (ownCells (sg j) (ic j)), .int .i64 0]) ∧ Below W.heap.size W w') := hid (fun j hj W => by
    obtain ⟨n1, n2, n3, n4⟩ := hE.num j hj
    exact refReadNode_own (98 + j) (hd j) (sg j) (ic j) (by omega) (by omega) n3 n4 W)
  unfold epochPage at HLT HLK HRE
  unfold ownPage at HLTj HLKj HRNj
  unfold Bt.Page.cells at HLT HLK HRE HLTj HLKj HRNj
  unfold ownCells at HRNj
  simp only at HLT HLK HRE HLTj HLKj HRNj
  have HEE := hid hE
  have HKK := hid hk
  obtain ⟨pv, cv, rfl⟩ := hk.shape
  obtain ⟨nv, hnv⟩ : ∃ n, ps.length = n := ⟨_, rfl⟩
  rw [hnv] at HM HKK HLT HLTj ⊢
  clear hk hE hnv
  go_enter Tryz.func84, Tryz.ntmps84
  go_wp2_with fail
  go_at_call 127; refine (HEA.out _).mono ?_; rintro e w1 ⟨rfl, hb1⟩; ((obtain ⟨hc1, hf1, hs1⟩ := qR hb1); (try have := qN0 w w1); (try have := qN1 w w1))
  go_wp2_with (at_builtin; refine halt ?_)
  refine unhalt ?_
  have KO : Blk w1 w.heap.size 138 #[.int .i64 5, .int .i64 0, .int .i64 0, .int .i64 256, .int .i64 0, .slice none 0 0] := (((Blk.made w _ _).alloc _).kept hb1)
  have KS : Blk w1 (w.heap.size + 1) 201 #[.slice none 0 0, .slice none 0 0, .int .i64 0, .int .u32 0, .int .i64 0, .slice none 0 0, .slice none 0 0, .bool false, .bool false] := (Blk.made' (by simp)).kept hb1
  have hbw : Below w.heap.size w w1 := qL
  have hlt : w.heap.size + 1 < w1.heap.size := KS.lt
  have HX := hid (And.intro KO (And.intro KS hbw))
  clear KO KS hbw hb1 hc1 hf1 hs1
  refine wpList_append_mine rfl (.tmp 36) (.tmp 37) 23 rfl w1.heap.size 3 i0 _ 1 8 Tryz.underlying23 hi hz0 hz1 hz2 rfl (by decide) (.slice none 0 0) 0 [] rfl (World.ownsRow_nil _ _ _ _) ⟨w1.heap.size, 0, none⟩ 1 1
    [.int .i64 97] rfl rfl (one_news (u := .int .i64 97) ((Blk.made w1 _ _).cell 0)) (by intro u hu; simp at hu; subst hu; rfl) (by omega) (by unfold maxLen; omega) (by omega) (by simp) ?_
  intro g3 cap3 w3 hown3 hg3
  have hL3 : Below w1.heap.size w1 w3 := below_grown (w := w1) qL hg3 (fun j hj => by cases hj)
  have hown3 : w3.ownsRow w1.heap.size 3 1 (.slice (some ⟨g3, 0, none⟩) 1 cap3) 1 (intCells (askLines 0)) := hown3
  have H3 := hid (And.intro hown3 hL3)
  have KO := HX.out.1.kept hL3
  have ko := KO.cell
  have hs3 : w1.heap.size ≤ w3.heap.size := hL3.size
  clear KO hown3 hL3 hg3
  go_wp2_with (at_builtin; refine halt ?_)
  refine unhalt ?_
  refine wpList_append_mine rfl (.tmp 61) (.tmp 65) 23 rfl w1.heap.size 3 i0 _ 1 8 Tryz.underlying23 hi hz0 hz1 hz2 rfl (by decide) _ 1 (intCells (askLines 0)) rfl
    (own_below H3.out.1 (below_alloc (Below.refl _ _) _)) ⟨w3.heap.size, 0, none⟩ 1 1
    [.int .i64 98] rfl rfl (one_news (u := .int .i64 98) ((Blk.made w3 _ _).cell 0)) (by intro u hu; simp at hu; subst hu; rfl) (by omega) (by unfold maxLen; omega) (by omega) (by simp; omega) ?_
  intro g4 cap4 w4 hown4 hg4
  have hL4 : Below w1.heap.size w1 w4 := below_grown (w := w1) (by have hbw := H3.out.2; exact qL) hg4 (fun j hj => by have := own_row_ge H3.out.1 j hj; omega)
  have hown4 : w4.ownsRow w1.heap.size 3 1 (.slice (some ⟨g4, 0, none⟩) 2 cap4) 2 (intCells [97, 98]) := hown4
  have H4 := hid (And.intro hown4 hL4)
  have hs4 : w1.heap.size ≤ w4.heap.size := hL4.size
  have KO := HX.out.1.kept hL4
  have ko4 := KO.cell
  clear KO hown4 hL4 hg4 ko
  go_wp2_with fail
  go_at_call 42; refine (HM.out _ [97, 98] _ (by have h1 := HX.out.2.2; have h2 := H4.out.2; exact qL) (IRow.of_own H4.out.1 rfl) (by simp) ?ha2).mono ?_
  case ha2 =>
    intro x hx
    simp only [List.mem_cons, List.not_mem_nil, or_false] at hx
    rcases hx with rfl | rfl
    · rw [HEE.out.top]; rfl
    · have := HEE.out.own 0 (by omega)
      simp at this
      rw [this]; rfl
  rintro e w5 ⟨rfl, hb5⟩
  have hask := own_below H4.out.1 hb5
  have hL5 : Below w1.heap.size w1 w5 := by have h1 := H4.out.2; exact qL
  have hs5 : w1.heap.size ≤ w5.heap.size := hL5.size
  have hgA : g4 < w5.heap.size := (own_lt hask).2
  have c0 : w5.cell? ⟨g4, 0, none⟩ = some (.int .i64 97) := own_cells hask 0 _ rfl
  have c1 : w5.cell? ⟨g4, 1, none⟩ = some (.int .i64 98) := own_cells hask 1 _ rfl
  have KO := HX.out.1.kept hL5
  have ko5 := KO.cell
  have hbw5 : Below w.heap.size w w5 := by have h1 := HX.out.2.2; exact qL
  have hlw5 : w.heap.size + 1 < w5.heap.size := by omega
  have hlw5' : w.heap.size < w5.heap.size := by omega
  have H5 := hid (And.intro hask (And.intro hL5 hbw5))
  clear hask hL5 hb5 KO hbw5 ko4
  go_wp2_with fail
  refine wp_loop_rounds 3 ?_
  rw [rounds_succ]
  go_wp2_with fail
  go_at_call 46; refine (HLT.out _ H5.out.2.2).mono ?_; rintro e w6 ⟨rfl, hb6⟩; ((obtain ⟨hc6, hf6, hs6⟩ := qR hb6); (try have := qN0 w5 w6))
  have hgr6 : g4 < w6.heap.size := by omega
  have hlw6 : w.heap.size < w6.heap.size := by omega
  go_wp2_with fail
  go_at_call 47; refine (HLK.out _).mono ?_; rintro e w7 ⟨rfl, hb7⟩; ((obtain ⟨hc7, hf7, hs7⟩ := qR hb7); (try have := qN0 w5 w7); (try have := qN0 w6 w7))
  have hgr7 : g4 < w7.heap.size := by omega
  have hlw7 : w.heap.size < w7.heap.size := by omega
  go_wp2_with fail
  go_at_call 129; refine (HRE.out _).mono ?_; rintro e w8 ⟨rfl, hb8⟩; ((obtain ⟨hc8, hf8, hs8⟩ := qR hb8); (try have := qN0 w5 w8); (try have := qN0 w6 w8); (try have := qN0 w7 w8))
  have hgr8 : g4 < w8.heap.size := by omega
  have hlw8 : w.heap.size < w8.heap.size := by omega
  go_wp2_with fail
  rw [rounds_succ]
  go_wp2_with fail
  have e0 : (98 : Int) + ((0 : Nat) : Int) = 98 := rfl
  have HL0 := hid (HLTj.out 0 (by omega))
  have HK0 := hid (HLKj.out 0 (by omega))
  have HR0 := hid (HRNj.out 0 (by omega))
  rw [e0] at HL0 HK0 HR0
  have hbw8 : Below w.heap.size w w8 := by have h1 := H5.out.2.2; exact qL
  go_at_call 46; refine (HL0.out _ hbw8).mono ?_; rintro e w9 ⟨rfl, hb9⟩; ((obtain ⟨hc9, hf9, hs9⟩ := qR hb9); (try have := qN0 w5 w9); (try have := qN0 w6 w9); (try have := qN0 w7 w9); (try have := qN0 w8 w9))
  have hgr9 : g4 < w9.heap.size := by omega
  have hlw9 : w.heap.size < w9.heap.size := by omega
  clear hbw8
  go_wp2_with fail
  go_at_call 47; refine (HK0.out _).mono ?_; rintro e w10 ⟨rfl, hb10⟩; ((obtain ⟨hc10, hf10, hs10⟩ := qR hb10); (try have := qN0 w5 w10); (try have := qN0 w6 w10); (try have := qN0 w7 w10); (try have := qN0 w8 w10); (try have := qN0 w9 w10))
  have hgr10 : g4 < w10.heap.size := by omega
  have hlw10 : w.heap.size < w10.heap.size := by omega
  go_wp2_with fail
  go_at_call 79; refine (HR0.out _).mono ?_; rintro e w11 ⟨rfl, hb11⟩; ((obtain ⟨hc11, hf11, hs11⟩ := qR hb11); (try have := qN0 w5 w11); (try have := qN0 w6 w11); (try have := qN0 w7 w11); (try have := qN0 w8 w11); (try have := qN0 w9 w11); (try have := qN0 w10 w11))
  have hL11 : Below w5.heap.size w5 w11 := qL
  have hbw11 : Below w.heap.size w w11 := by have h1 := H5.out.2.2; exact qL
  have KO := (HX.out.1.kept H5.out.2.1).kept hL11
  have KS := (HX.out.2.1.kept H5.out.2.1).kept hL11
  have BP : Blk w11 w9.heap.size 75 #[.int .i64 98, .int .u64 (hd 0), .int .u64 0, .int .u64 (sg 0), .int .u64 (ic 0), .int .u64 0, .int .u64 0, .int .u64 0, .int .u64 0] := ((Blk.made w9 _ _).kept hb10).kept hb11
  have ko11 := KO.cell
  have kp11 := BP.cell
  have hs11 : w5.heap.size ≤ w11.heap.size := hL11.size
  have hlw11 : w.heap.size < w11.heap.size := by omega
  have hl9 := BP.lt
  have H11 := hid (And.intro hbw11 (And.intro KO (And.intro KS BP)))
  clear hbw11 hL11 KO KS BP hb6 hb7 hb8 hb9 hb10 hb11 hc6 hf6 hs6 hc7 hf7 hs7 hc8 hf8 hs8 hc9 hf9 hs9 hc10 hf10 hs10 hc11 hf11 c0 c1 ko5
  go_wp2_with (at_builtin; refine halt ?_)
  refine unhalt ?_
  have BN := (Blk.made w11 121 #[.bool false, .int .u32 0, .int .u32 (sg 0), .int .i64 (ic 0), .int .i64 0, .int .i64 0, .int .u32 0, .int .i64 0, .int .i64 0, .int .u32 0, .int .i64 0, .int .i64 0, .int .u32 0, .int .i64 0, .int .i64 0, .int .u32 0]).alloc (.cells #[.int .i64 98, .int .u64 (hd 0), .int .u64 0, .int .u64 (sg 0), .int .u64 (ic 0), .int .u64 0, .int .u64 0, .int .u64 0, .int .u64 0] 75)
  have hbx : Below w11.heap.size w11 ((w11.alloc (.cells #[.bool false, .int .u32 0, .int .u32 (sg 0), .int .i64 (ic 0), .int .i64 0, .int .i64 0, .int .u32 0, .int .i64 0, .int .i64 0, .int .u32 0, .int .i64 0, .int .i64 0, .int .u32 0, .int .i64 0, .int .i64 0, .int .u32 0] 121)).alloc (.cells #[.int .i64 98, .int .u64 (hd 0), .int .u64 0, .int .u64 (sg 0), .int .u64 (ic 0), .int .u64 0, .int .u64 0, .int .u64 0, .int .u64 0] 75)) := qL
  refine wpList_append_mine rfl (.tmp 133) (.tmp 135) 42 rfl w11.heap.size 75 i1 _ 9 72 Tryz.underlying42 hi1 hy0 hy1 hy2 rfl (by decide) (.slice none 0 0) 0 [] rfl
    (World.ownsRow_nil _ _ _ _) ⟨w11.heap.size + 1, 0, none⟩ 1 1 (#[.int .i64 98, .int .u64 (hd 0), .int .u64 0, .int .u64 (sg 0), .int .u64 (ic 0), .int .u64 0, .int .u64 0, .int .u64 0, .int .u64 0] : Array Value).toList rfl rfl (nine_news (cs := #[.int .i64 98, .int .u64 (hd 0), .int .u64 0, .int .u64 (sg 0), .int .u64 (ic 0), .int .u64 0, .int .u64 0, .int .u64 0, .int .u64 0]) (Blk.made' (by simp)))
    (by intro u hu; simp at hu; rcases hu with rfl | rfl | rfl | rfl | rfl | rfl <;> rfl) (by omega) (by unfold maxLen; omega) (by omega) (by simp; omega) ?_
  intro g12 cap12 w12 hown12 hg12
  have hb12 : Below w11.heap.size w11 w12 := below_grown (w := w11) hbx hg12 (fun q hq => by cases hq)
  have BN12 := BN.grown hg12 (fun e => by cases e)
  have hs12 : w11.heap.size < w12.heap.size := BN12.lt
  have hown12 : w12.ownsRow w11.heap.size 75 9 (.slice (some ⟨g12, 0, none⟩) 1 cap12) 1 (#[.int .i64 98, .int .u64 (hd 0), .int .u64 0, .int .u64 (sg 0), .int .u64 (ic 0), .int .u64 0, .int .u64 0, .int .u64 0, .int .u64 0] : Array Value).toList := hown12
  have kn12 := BN12.cell
  have H12 := hid (And.intro hb12 hown12)
  clear BN hbx BN12 hb12 hown12 hg12 ko11 kp11
  go_wp2_with (at_builtin; refine halt ?_)
  refine unhalt ?_
  refine wpList_append_mine rfl (.tmp 137) (.tmp 139) 253 rfl w11.heap.size 121 i2 _ 16 120 Tryz.underlying253 hi2 hx0 hx1 hx2 rfl (by decide) (.slice none 0 0) 0 [] rfl
    (World.ownsRow_nil _ _ _ _) ⟨w12.heap.size, 0, none⟩ 1 1 (#[.bool false, .int .u32 0, .int .u32 (sg 0), .int .i64 (ic 0), .int .i64 0, .int .i64 0, .int .u32 0, .int .i64 0, .int .i64 0, .int .u32 0, .int .i64 0, .int .i64 0, .int .u32 0, .int .i64 0, .int .i64 0, .int .u32 0] : Array Value).toList rfl rfl (nine_news (cs := #[.bool false, .int .u32 0, .int .u32 (sg 0), .int .i64 (ic 0), .int .i64 0, .int .i64 0, .int .u32 0, .int .i64 0, .int .i64 0, .int .u32 0, .int .i64 0, .int .i64 0, .int .u32 0, .int .i64 0, .int .i64 0, .int .u32 0]) (Blk.made' rfl))
    (by intro u hu; simp only [List.mem_cons, List.not_mem_nil, or_false] at hu; repeat (rcases hu with rfl | hu; · rfl)) (by omega) (by unfold maxLen; omega) (by omega) (by simp; omega) ?_
  intro g13 cap13 w13 hown13 hg13
  have hP13 := (own_below H12.out.2 (below_alloc (Below.refl w12.heap.size w12) (.cells #[.bool false, .int .u32 0, .int .u32 (sg 0), .int .i64 (ic 0), .int .i64 0, .int .i64 0, .int .u32 0, .int .i64 0, .int .i64 0, .int .u32 0, .int .i64 0, .int .i64 0, .int .u32 0, .int .i64 0, .int .i64 0, .int .u32 0] 121))).kept hg13 (.inr (by simp [Value.ownBlock]))
  have hb13 : Below w11.heap.size w11 w13 := below_grown (w := w11) (below_alloc H12.out.1 _) hg13 (fun q hq => by cases hq)
  have hown13 : w13.ownsRow w11.heap.size 121 16 (.slice (some ⟨g13, 0, none⟩) 1 cap13) 1 (#[.bool false, .int .u32 0, .int .u32 (sg 0), .int .i64 (ic 0), .int .i64 0, .int .i64 0, .int .u32 0, .int .i64 0, .int .i64 0, .int .u32 0, .int .i64 0, .int .i64 0, .int .u32 0, .int .i64 0, .int .i64 0, .int .u32 0] : Array Value).toList := hown13
  have KO := H11.out.2.1.kept hb13
  have KS := H11.out.2.2.1.kept hb13
  have ko13 := KO.cell
  have hs13 : w11.heap.size ≤ w13.heap.size := hb13.size
  have hg13 : g13 < w13.heap.size := (own_lt hown13).2
  have hg12 : g12 < w13.heap.size := (own_lt hP13).2
  have hbw : Below w.heap.size w w13 := by have h1 := H11.out.1; exact qL
  have kN : ∀ (i : Nat) u, ([.bool false, .int .u32 0, .int .u32 (sg 0), .int .i64 (ic 0), .int .i64 0, .int .i64 0, .int .u32 0, .int .i64 0, .int .i64 0, .int .u32 0, .int .i64 0, .int .i64 0, .int .u32 0, .int .i64 0, .int .i64 0, .int .u32 0] : List Value)[i]? = some u → w13.cell? ⟨g13, i, none⟩ = some u := own_cells hown13
  have kP : ∀ (i : Nat) u, ([.int .i64 98, .int .u64 (hd 0), .int .u64 0, .int .u64 (sg 0), .int .u64 (ic 0), .int .u64 0, .int .u64 0, .int .u64 0, .int .u64 0] : List Value)[i]? = some u → w13.cell? ⟨g12, i, none⟩ = some u := own_cells hP13
  have hlw13 : w.heap.size < w13.heap.size := by omega
  have hr13 : w.heap.size + 1 < g13 := by have h1 := own_row_ge hown13 g13 rfl; have h2 := H11.out.2.2.1.lt; omega
  have hr12 : w.heap.size + 1 < g12 := by have h1 := own_row_ge hP13 g12 rfl; have h2 := H11.out.2.2.1.lt; omega
  have hr1 : w.heap.size + 1 < w13.heap.size := by have h2 := H11.out.2.2.1.lt; omega
  have H13 := hid (And.intro hbw (And.intro KS (And.intro KO (And.intro kN kP))))
  clear KO KS hbw hown13 hP13 hb13 kN kP kn12
  go_wp2_with fail
  rw [rounds_succ]
  go_upto_region 62 with (fail)
  refine wp_named (fun W' => Blk W' w.heap.size 138 #[.int .i64 5, .int .i64 0, .int .i64 0, .int .i64 256, .int .i64 0, .slice none 0 0] ∧ Blk W' (w.heap.size + 1) 201 #[.slice none 0 0, .slice none 0 0, .int .i64 0, .int .u32 0, .int .i64 0, .slice none 0 0, .slice none 0 0, .bool false, .bool false] ∧
    Blk W' w13.heap.size 199 #[.int .i64 0, .int .u32 ep, .int .i64 (-1), .slice none 0 0, .slice none 0 0] ∧
    ((∀ (i : Nat) u, ([.bool false, .int .u32 0, .int .u32 (sg 0), .int .i64 (ic 0), .int .i64 0, .int .i64 0, .int .u32 0, .int .i64 0, .int .i64 0, .int .u32 0, .int .i64 0, .int .i64 0, .int .u32 0, .int .i64 0, .int .i64 0, .int .u32 0] : List Value)[i]? = some u → W'.cell? ⟨g13, i, none⟩ = some u) ∧ ∀ (i : Nat) u, ([.int .i64 98, .int .u64 (hd 0), .int .u64 0, .int .u64 (sg 0), .int .u64 (ic 0), .int .u64 0, .int .u64 0, .int .u64 0, .int .u64 0] : List Value)[i]? = some u → W'.cell? ⟨g12, i, none⟩ = some u) ∧ Below w.heap.size w W' ∧ w13.heap.size < W'.heap.size)
    ⟨H13.out.2.2.1.alloc _, H13.out.2.1.alloc _, Blk.made _ _ _, ⟨fun i u hu => ((below_alloc (Below.refl w13.heap.size w13) _).cell (p := ⟨g13, i, none⟩) hg13).trans (H13.out.2.2.2.1 i u hu), fun i u hu => ((below_alloc (Below.refl w13.heap.size w13) _).cell (p := ⟨g12, i, none⟩) hg12).trans (H13.out.2.2.2.2 i u hu)⟩, below_alloc H13.out.1 _, by simp⟩ (fun wx HX2 => ?_)
  have BO := HX2.out.1
  have B20 := HX2.out.2.2.1
  have ko := BO.cell
  have k20 := B20.cell
  have kN := HX2.out.2.2.2.1.1
  have kP := HX2.out.2.2.2.1.2
  have hxs := HX2.out.2.2.2.2.2
  have n0 := kN 0 _ rfl
  have n1 := kN 1 _ rfl
  have n2 := kN 2 _ rfl
  have n3 := kN 3 _ rfl
  have n4 := kN 4 _ rfl
  have n5 := kN 5 _ rfl
  have n6 := kN 6 _ rfl
  have n7 := kN 7 _ rfl
  have n8 := kN 8 _ rfl
  have n9 := kN 9 _ rfl
  have n10 := kN 10 _ rfl
  have n11 := kN 11 _ rfl
  have n12 := kN 12 _ rfl
  have n13 := kN 13 _ rfl
  have n14 := kN 14 _ rfl
  have n15 := kN 15 _ rfl
  have m0 := kP 0 _ rfl
  have m1 := kP 1 _ rfl
  have m2 := kP 2 _ rfl
  have m3 := kP 3 _ rfl
  have m4 := kP 4 _ rfl
  have m5 := kP 5 _ rfl
  have m6 := kP 6 _ rfl
  have m7 := kP 7 _ rfl
  have m8 := kP 8 _ rfl
  have hx13 : g13 < wx.heap.size := by omega
  have hx12 : g12 < wx.heap.size := by omega
  have hx0 : w.heap.size < wx.heap.size := by omega
  have HCN := hid (fun W => refCollect_none (sg 0) (ic 0) ep ⟨98, hd 0, 0, sg 0, ic 0, 0, 0, 0, 0⟩ (.slice pv nv cv) ⟨_, _, _, rfl⟩ W)
  unfold opColl ownCells Bt.Page.cells badCells at HCN
  simp only at HCN
  clear BO B20 kN kP ko13
  refine qB (w.heap.size + 1) fun hSt => ?_
  refine qS [0, 1, 2, 3, 4, 5, 6, 7, 8] ?_
  iterate 9 (refine qT ?_; simp only [Act.put, qY])
  refine TakeSeq.done ?_
  have BS := HX2.out.2.1
  have kS := BS.cell
  have fS := BS.free
  have lS := BS.lt
  have HBS := hid BS
  clear BS
  refine qH 9 fun K hK => ?_
  go_simp
  go_at_call 132; refine (HCN.out _).mono ?_; rintro e w14 ⟨code, rfl, hc0, hb14⟩; ((obtain ⟨hc14, hf14, hs14⟩ := qR hb14); (try have := qN0 wx w14))
  go_wp2_with fail
  refine hK.out _ _ (SteadyBut.of qL) (fun hHeld => ?_)
  clear hK K
  refine qH 10 fun K hK => ?_
  go_simp
  refine hK.out _ _ qE (fun hHeld => ?_)
  clear hK K
  refine qD ?_ _
  go_wp2_with fail
  have BZ := (HBS.out.drew).kept hb14
  have hbw : Below w.heap.size w w14 := by have h1 := HX2.out.2.2.2.2.1; exact qL
  have hl : w.heap.size ≤ w.heap.size + 1 := by omega
  exact bodyPost_ret (results_b rfl _ _ (w.heap.size + 1) _ _ _ rfl (Blk.cast (((((((((BZ.put 0 _).put 1 _).put 2 _).put 3 _).put 4 _).put 5 _).put 6 _).put 7 _).put 8 _) (by kernel_rfl)) Tryz.underlying201 rfl (by kernel_rfl)) rfl ⟨code, rfl, hc0, (((((((((hbw.setCell hl _).setCell hl _).setCell hl _).setCell hl _).setCell hl _).setCell hl _).setCell hl _).setCell hl _).setCell hl _)⟩
def nextHead (h : Int) : Int := (h / 256 + 1) * 256 % 18446744073709551616
def commitOne (ps : List Bt.Page) (p : Bt.Page) : List Bt.Page :=
  match ps[(p.line - 96).toNat]? with
  | some q => if 96 ≤ p.line then ps.set (p.line - 96).toNat { p with head := nextHead q.head } else ps
  | none => ps
theorem commitOne_len (ps : List Bt.Page) (p : Bt.Page) : (commitOne ps p).length = ps.length := by
  unfold commitOne
  split
  · split <;> simp
  · rfl
theorem commit_len (W : List Bt.Page) : ∀ ps : List Bt.Page, (W.foldl commitOne ps).length = ps.length := by
  induction W with
  | nil => intro ps; rfl
  | cons p W ih => intro ps; rw [List.foldl_cons, ih, commitOne_len]
theorem nextHead_ok (h : Int) : 0 ≤ nextHead h ∧ nextHead h < 18446744073709551616 := by unfold nextHead; omega
theorem commitOne_ok {ps : List Bt.Page} {p : Bt.Page} (hp : p.Ok) (h : ∀ q ∈ ps, q.Ok) : ∀ q ∈ commitOne ps p, q.Ok := by
  unfold commitOne
  split
  · split
    · intro q hq
      rcases List.mem_or_eq_of_mem_set hq with hq | rfl
      · exact h q hq
      · exact ⟨nextHead_ok _, hp.d0, hp.d1, hp.d2, hp.d3, hp.d4, hp.d5, hp.d6⟩
    · exact h
  · exact h
theorem commit_ok {W : List Bt.Page} : ∀ {ps : List Bt.Page}, (∀ p ∈ W, p.Ok) → (∀ q ∈ ps, q.Ok) → ∀ q ∈ W.foldl commitOne ps, q.Ok := by
  induction W with
  | nil => intro ps _ h; exact h
  | cons p W ih => intro ps hW h; exact ih (fun q hq => hW q (List.mem_cons_of_mem _ hq)) (commitOne_ok (hW p List.mem_cons_self) h)
theorem commit_any (hb P cap n : Nat) (ps W : List Bt.Page) (vW : Value) (w : World) (hn : n = ps.length) (hsm : n ≤ 1000) (hp : PRow w P cap ps) (hpok : ∀ q ∈ ps, q.Ok) (hc0 : w.cell? ⟨hb, 0, none⟩ = some (.slice (some ⟨P, 0, none⟩) n cap)) (hbP : hb ≠ P) (hhb : hb < w.heap.size)
    (hW : PgRow w vW W) (hWP : ∀ b a c, vW = .slice (some ⟨b, 0, none⟩) a c → b ≠ P) (hWl : W.length ≤ 1000) (hln : ∀ p ∈ W, 0 ≤ p.line ∧ p.line ≤ 1000000) :
    Calls Tryz.prog 26 #[.pointer (some ⟨hb, 0, none⟩), vW] w fun e w' => e = .returned (.tuple #[]) ∧ PRow w' P cap (W.foldl commitOne ps) ∧ Over P w w' := by
  obtain ⟨pW, cW, rfl⟩ := hW.slice
  obtain ⟨m, hm⟩ : ∃ m, W.length = m := ⟨_, rfl⟩
  rw [hm] at hW hWP hWl ⊢
  have HW := hid (And.intro hW (And.intro hm (And.intro hWP hln)))
  have HP := hid (And.intro hp (And.intro hn hpok))
  have HC0 := hid hc0
  have hPlt := hp.lt
  clear hW hm hWP hln hp hn hpok hc0
  go_enter Tryz.func26, Tryz.ntmps26
  go_wp2_with fail
  go_loopw [4] (fun i wr => ∃ (k : Nat) (l : List Bt.Page), i = .int .i64 k ∧ k ≤ m ∧ Hid (l = (W.take k).foldl commitOne ps ∧ PRow wr P cap l ∧ Over P w wr)) (fun i _ => ((m : Int) - intOf i).toNat)
  case atStart => exact ⟨0, ps, rfl, by omega, hid ⟨rfl, HP.out.1, Over.refl _ _⟩⟩
  case round =>
    obtain ⟨k, l, rfl, hkm, HR⟩ := hrel
    obtain ⟨w3, hw3⟩ : ∃ w3, w3 = wr := ⟨_, rfl⟩
    subst hw3
    by_cases hk2 : k < m
    · have b1 : decide ((k : Int) < m) = true := by simp; omega
      have wk : IntKind.i64.wrap ((k : Int) + 1) = (k : Int) + 1 := by rw [IntKind.wrap_i64]; omega
      have hkl : k < W.length := by have := HW.out.2.1; omega
      obtain ⟨g, c', hv, hg, hrow⟩ := HW.out.1.row hkl
      have hv2 := hv
      rw [HW.out.2.1] at hv2
      simp only [Value.slice.injEq, true_and] at hv2
      obtain ⟨rfl, rfl⟩ := hv2
      have hgP : g ≠ P := HW.out.2.2.1 g _ _ rfl
      obtain ⟨x, hx⟩ : ∃ x, W[k] = x := ⟨_, rfl⟩
      have hxl := HW.out.2.2.2 x (by rw [← hx]; exact List.getElem_mem hkl)
      have hcel : ∀ b o, b < w.heap.size → b ≠ P → w3.cell? ⟨b, o, none⟩ = w.cell? ⟨b, o, none⟩ := fun b o hb1 hb2 => (over_rules HR.out.2.2).1 _ _ hb1 (by omega)
      have hrow2 : w3.rangeAt g (k * 9) x.cells.toList := fun j u hu => by rw [hcel _ _ hg hgP]; exact hrow j u (by rw [hx]; exact hu)
      obtain ⟨c0, c1, c2, c3, c4, c5, c6, c7, c8⟩ := nine hrow2
      have hgr : g < w3.heap.size := Nat.lt_of_lt_of_le hg HR.out.2.2.size
      have h0 : w3.cell? ⟨hb, 0, none⟩ = some (.slice (some ⟨P, 0, none⟩) n cap) := (hcel _ _ hhb hbP).trans HC0.out
      have hhr : hb < w3.heap.size := Nat.lt_of_lt_of_le hhb HR.out.2.2.size
      have hPr := HR.out.2.1.lt
      have HX : Hid (W.take (k + 1) = W.take k ++ [x]) := hid (by rw [List.take_succ_eq_append_getElem hkl, hx])
      have hlen : l.length = n := by rw [HR.out.1, commit_len]; exact HP.out.2.1.symm
      obtain ⟨A, hA⟩ : ∃ A : Int, x.line - 96 = A := ⟨_, rfl⟩
      have wA : IntKind.i64.wrap (x.line - 96) = A := by rw [IntKind.wrap_i64]; omega
      have j2 : decide ((k : Int) < 0) = false := by simp
      have j4 : (0 : Int) ≤ k := by omega
      have j5 : (k : Int) < m := by omega
      clear hx hrow hrow2 hv hcel
      by_cases hA0 : 0 ≤ A
      · have a1 : decide (0 ≤ A) = true := by simpa using hA0
        by_cases hA1 : A < n
        · have a2 : decide (A < (n : Int)) = true := by simpa using hA1
          have a3 : decide (A < 0) = false := by simp; omega
          have hAl : A.toNat < l.length := by omega
          obtain ⟨q, hq⟩ : ∃ q, l[A.toNat] = q := ⟨_, rfl⟩
          obtain ⟨d0, d1, d2, d3, d4, d5, d6, d7, d8⟩ := nine (HR.out.2.1.cells A.toNat q (by rw [← hq]; exact List.getElem?_eq_getElem hAl))
          have hfr := HR.out.2.1.free
          have hqok : 0 ≤ q.head ∧ q.head < 18446744073709551616 := by
            have h1 : ∀ z ∈ l, z.Ok := by
              rw [HR.out.1]
              exact commit_ok (fun z hz => HW.out.1.ok z (List.mem_of_mem_take hz)) HP.out.2.2
            exact (h1 q (by rw [← hq]; exact List.getElem_mem hAl)).head
          obtain ⟨H1, hH1⟩ : ∃ H1 : Int, q.head / 256 = H1 := ⟨_, rfl⟩
          have t1 : q.head.tdiv 256 = H1 := by rw [Int.tdiv_eq_ediv_of_nonneg hqok.1, hH1]
          have t1' : IntKind.u64.wrap H1 = H1 := by rw [IntKind.wrap_u64]; omega
          have t2 : IntKind.u64.wrap (H1 + 1) = H1 + 1 := by rw [IntKind.wrap_u64]; omega
          have t3 : IntKind.u64.wrap ((H1 + 1) * 256) = nextHead q.head := by rw [IntKind.wrap_u64, nextHead, hH1]
          obtain ⟨H2, hH2⟩ : ∃ H2 : Int, nextHead q.head = H2 := ⟨_, rfl⟩
          rw [hH2] at t3
          have HQ := hid (And.intro hq (And.intro hA hH2))
          have HL := hid hlen
          clear hq hA hlen hqok hH1 hH2
          go_wp2_with fail
          go_region
          go_wp2_with fail
          have P1 := HR.out.2.1.put hAl { x with head := H2 }
          have ho : Over P w (w3.setCells P (A.toNat * 9) ({ x with head := H2 } : Bt.Page).cells.toList) := over_setCells _ _ _ _ HR.out.2.2
          rw [set_world] at P1 ho
          refine ⟨⟨k + 1, l.set A.toNat { x with head := H2 }, by simp, by omega, hid ⟨?_, (P1.below (below_alloc (Below.refl _ _) _)).drew, ?_⟩⟩, by simp [intOf]; omega⟩
          · rw [HX.out, List.foldl_append, ← HR.out.1]
            obtain ⟨e1, e2, e3⟩ := HQ.out
            simp only [List.foldl_cons, List.foldl_nil, commitOne]
            rw [e2, List.getElem?_eq_getElem hAl, e1]
            simp only
            rw [if_pos (by omega), e3]
          · exact qV
        · have a2 : decide (A < (n : Int)) = false := by simpa using hA1
          have HL := hid (And.intro hlen hA)
          clear hlen hA
          go_wp2_with fail
          refine ⟨⟨k + 1, l, by simp, by omega, hid ⟨?_, HR.out.2.1, HR.out.2.2⟩⟩, by simp [intOf]; omega⟩
          rw [HX.out, List.foldl_append, ← HR.out.1]
          simp only [List.foldl_cons, List.foldl_nil, commitOne]
          rw [HL.out.2, List.getElem?_eq_none (by have := HL.out.1; omega)]
      · have a1 : decide (0 ≤ A) = false := by simpa using hA0
        have HL := hid (And.intro hlen hA)
        clear hlen hA
        go_wp2_with fail
        refine ⟨⟨k + 1, l, by simp, by omega, hid ⟨?_, HR.out.2.1, HR.out.2.2⟩⟩, by simp [intOf]; omega⟩
        rw [HX.out, List.foldl_append, ← HR.out.1]
        simp only [List.foldl_cons, List.foldl_nil, commitOne]
        have h96 : ¬ 96 ≤ x.line := by have := HL.out.2; omega
        split
        · rw [if_neg h96]
        · rfl
    · have b1 : decide ((k : Int) < m) = false := by simp; omega
      go_wp2_with fail
      refine bodyPost_end (results_none rfl _ _ _) rfl ⟨rfl, ?_, HR.out.2.2⟩
      have h1 := HR.out.1
      rw [List.take_of_length_le (by have := HW.out.2.1; omega)] at h1
      rw [← h1]
      exact HR.out.2.1
theorem PRow.pg {w : World} {P cap n : Nat} {ps : List Bt.Page} (h : PRow w P cap ps) (hn : n = ps.length) (hok : ∀ q ∈ ps, q.Ok) (hsm : n ≤ 1000) : PgRow w (.slice (some ⟨P, 0, none⟩) n cap) ps := by
  subst hn
  exact ⟨hok, by unfold maxLen; omega, .inr ⟨P, cap, rfl, h.lt, fun i p hi j u hu => h.cells i p hi j u (by rw [Array.getElem?_toList]; exact hu)⟩⟩
theorem epochPage_ok (h0 ep : Int) (o : 0 ≤ h0 ∧ h0 < 18446744073709551616) (e : 0 ≤ ep ∧ ep < 4294967296) : (epochPage h0 ep).Ok :=
  ⟨o, by simp [epochPage]; omega, by simp [epochPage], by simp [epochPage], by simp [epochPage], by simp [epochPage], by simp [epochPage], by simp [epochPage]⟩
structure StepCut (h0 ep : Int) (w : World) (b5 : Nat) (vw : Value) (pc : Option Addr) (nc cc : Nat) (wx : World) : Prop where
  blk : Blk wx b5 201 #[.slice none 0 0, vw, .int .i64 0, .int .u32 ep, .int .i64 (-1), .slice none 0 0, .slice pc nc cc, .bool true, .bool false]
  row : PgRow wx vw [epochPage h0 ep]
  new : ∃ b c, vw = .slice (some ⟨b, 0, none⟩) 1 c ∧ w.heap.size ≤ b
  below : Below w.heap.size w wx
theorem pgrow_put {w : World} {v : Value} {l : List Bt.Page} {b : Nat} (h : PgRow w v l) (hne : ∀ b' n c, v = .slice (some ⟨b', 0, none⟩) n c → b' ≠ b) (i : Nat) (x : Value) : PgRow (w.setCell ⟨b, i, none⟩ x) v l := by
  rcases h.form with ⟨h1, h2⟩ | ⟨b', cap, h1, _⟩
  · exact ⟨h.1, h.2, .inl ⟨h1, h2⟩⟩
  · subst h1
    exact pgrow_aside h (hne _ _ _ rfl) x
theorem heapEpoch_3 (hb P cap n : Nat) (ps : List Bt.Page) (h0 ep : Int) (hd sg ic : Nat → Int) (w : World) (hn : n = ps.length) (hsm : n ≤ 1000) (hp : PRow w P cap ps) (hpok : ∀ q ∈ ps, q.Ok) (hc0 : w.cell? ⟨hb, 0, none⟩ = some (.slice (some ⟨P, 0, none⟩) n cap)) (hbP : hb ≠ P) (hhb : hb < w.heap.size)
    (hE : EpReady ps h0 ep hd sg ic) :
    Calls Tryz.prog 51 #[.pointer (some ⟨hb, 0, none⟩), .agg #[.int .i64 3, .int .i64 0, .int .i64 0, .int .i64 0, .int .i64 0, .slice none 0 0]] w fun e w' => e = .returned (.bool true) ∧ PRow w' P cap ([epochPage h0 (ep + 1)].foldl commitOne ps) ∧ Over P w w' := by
  have HE := hid (fun W (h : Below w.heap.size w W) => refEpochNext_3 ps _ h0 ep hd sg ic W ((hp.pg hn hpok hsm).below h) (by omega) hE)
  have HC := hid (fun W vW (h : Below w.heap.size w W) (h1 : PgRow W vW [epochPage h0 (ep + 1)]) h2 => commit_any hb P cap n ps [epochPage h0 (ep + 1)] vW W hn hsm (hp.below h) hpok ((h.cell (p := ⟨hb, 0, none⟩) hhb).trans hc0) hbP (Nat.lt_of_lt_of_le hhb h.size) h1 h2 (by simp) (by simp [epochPage]))
  have hPl := hp.lt
  obtain ⟨e1, he1⟩ : ∃ e, ep + 1 = e := ⟨_, rfl⟩
  rw [he1] at HE HC
  have HPO := hid (And.intro hp (And.intro hPl he1))
  clear hp hE hpok hn he1
  go_enter Tryz.func51, Tryz.ntmps51
  go_upto_region 1 with (fail)
  go_cut [5] from 6 to 11 (fun t wx => ∃ b5 vw pc nc cc, t = .pointer (some ⟨b5, 0, none⟩) ∧ Hid (StepCut h0 e1 w b5 vw pc nc cc wx))
  case first =>
    go_upto_region 1 with (fail)
    refine qA fun hSt => ?_
    refine qS [0, 1, 2, 3, 4] ?_
    iterate 5 (refine qT ?_; simp only [Act.put, qY])
    refine TakeSeq.done ?_
    refine wpAnyH_ready (rs := [5, 6]) (by kernel_rfl) (by simp) ?_
    refine AllReadyH.cons rfl (fun K hK => ?_) (AllReadyH.cons rfl (fun K hK => ?_) (AllReadyH.nil))
    · skip
      rw [if_pos (by rfl)]
      go_simp
      go_at_call 84; refine (HE.out _ qL).mono ?_; rintro e w1 ⟨vw, pc, nc, cc, rfl, hpg, ⟨b, c, rfl, hbg⟩, hb1⟩
      go_wp2_with fail
      refine hK.out _ _ (SteadyAll.of qL) (fun hHeld => ?_)
      clear hK K
      have HPG := hid (And.intro hpg (And.intro hb1 hbg))
      clear hpg hbg
      refine qH 6 fun K hK => ?_
      go_simp
      refine hK.out _ _ (SteadyAll.of qL) (fun hHeld => ?_)
      clear hK K
      refine qH 7 fun K hK => ?_
      go_simp
      refine hK.out _ _ (SteadyAll.of qL) (fun hHeld => ?_)
      clear hK K
      refine qD ?_ _
      go_wp2_with fail
      go_meet
      exact ⟨w1.heap.size, _, pc, nc, cc, rfl, hid ⟨Blk.made _ _ _, HPG.out.1.below (below_alloc (Below.refl _ _) _), ⟨b, c, rfl, by have := HPG.out.2.2; simp at this; omega⟩, by have := HPG.out.2.1; exact qL⟩⟩
    · skip
      rw [if_pos (by rfl)]
      go_simp
      refine hK.out _ _ (SteadyAll.of qL) (fun hHeld => ?_)
      clear hK K
      refine qH 5 fun K hK => ?_
      go_simp
      go_at_call 84; refine (HE.out _ qL).mono ?_; rintro e w1 ⟨vw, pc, nc, cc, rfl, hpg, ⟨b, c, rfl, hbg⟩, hb1⟩
      go_wp2_with fail
      refine hK.out _ _ (SteadyAll.of qL) (fun hHeld => ?_)
      clear hK K
      have B7 := (Blk.made' (n := w.heap.size + 1) (w := (w.alloc (.cells #[.int .i64 3, .int .i64 0, .int .i64 0, .int .i64 0, .int .i64 0, .slice none 0 0] 138)).drew) (cs := #[.slice none 0 0, .slice none 0 0, .int .i64 0, .int .u32 0, .int .i64 0, .slice none 0 0, .slice none 0 0, .bool false, .bool false]) (t := 201) (by simp)).kept hb1
      have k7 := B7.cell
      have f7 := B7.free
      have l7 := B7.lt
      have HPG := hid (And.intro hpg (And.intro hb1 (And.intro hbg B7)))
      clear hpg hbg B7
      refine qH 7 fun K hK => ?_
      go_simp
      refine hK.out _ _ (SteadyAll.of qL) (fun hHeld => ?_)
      clear hK K
      refine qD ?_ _
      go_wp2_with fail
      go_meet
      have hb1 := HPG.out.2.1
      have hbg : w.heap.size + 1 < b := by have h := HPG.out.2.2.1; simp at h; omega
      exact ⟨w.heap.size + 1, _, pc, nc, cc, rfl, hid ⟨Blk.cast (((((((((HPG.out.2.2.2.put 0 _).put 1 _).put 2 _).put 3 _).put 4 _).put 5 _).put 6 _).put 7 _).put 8 _) (by kernel_rfl), (pgrow_put (pgrow_put (pgrow_put (pgrow_put (pgrow_put (pgrow_put (pgrow_put (pgrow_put (pgrow_put HPG.out.1 (fun b' n' c' hv => by simp at hv; omega) 0 _) (fun b' n' c' hv => by simp at hv; omega) 1 _) (fun b' n' c' hv => by simp at hv; omega) 2 _) (fun b' n' c' hv => by simp at hv; omega) 3 _) (fun b' n' c' hv => by simp at hv; omega) 4 _) (fun b' n' c' hv => by simp at hv; omega) 5 _) (fun b' n' c' hv => by simp at hv; omega) 6 _) (fun b' n' c' hv => by simp at hv; omega) 7 _) (fun b' n' c' hv => by simp at hv; omega) 8 _), ⟨b, c, rfl, by omega⟩, qL⟩⟩
  case rest =>
    obtain ⟨b5, vw, pc, nc, cc, rfl, HX⟩ := hcut
    have k5 := HX.out.blk.cell
    have l5 := HX.out.blk.lt
    go_wp2_with fail
    go_at_call 26
    refine (HC.out _ vw HX.out.below HX.out.row ?hx).mono ?_
    case hx =>
      intro b a c hv
      obtain ⟨b', c', hv', hge⟩ := HX.out.new
      rw [hv'] at hv
      simp only [Value.slice.injEq, Option.some.injEq, Addr.mk.injEq] at hv
      have := HPO.out.2.1
      omega
    rintro e w2 ⟨rfl, hpr, hov⟩
    have HF : Hid (PRow w2 P cap ([epochPage h0 (ep + 1)].foldl commitOne ps) ∧ Over P w w2) := hid ⟨by rw [HPO.out.2.2]; exact hpr, (Over.of_below HX.out.below).trans hov⟩
    clear hpr hov
    go_wp2_with fail
    exact bodyPost_ret (results_tmp rfl _ _ _) rfl ⟨rfl, HF.out.1, HF.out.2⟩
theorem heapEpoch_5 (hb P cap n : Nat) (ps : List Bt.Page) (h0 ep : Int) (hd sg ic : Nat → Int) (w : World) (hn : n = ps.length) (hsm : n ≤ 1000) (hp : PRow w P cap ps) (hpok : ∀ q ∈ ps, q.Ok) (hc0 : w.cell? ⟨hb, 0, none⟩ = some (.slice (some ⟨P, 0, none⟩) n cap)) (hhb : hb < w.heap.size)
    (hE : EpReady ps h0 ep hd sg ic) :
    Calls Tryz.prog 51 #[.pointer (some ⟨hb, 0, none⟩), .agg #[.int .i64 5, .int .i64 0, .int .i64 0, .int .i64 256, .int .i64 0, .slice none 0 0]] w fun e w' => e = .returned (.bool false) ∧ Below w.heap.size w w' := by
  have HE := hid (fun W (h : Below w.heap.size w W) => refEpochNext_5 ps _ h0 ep hd sg ic W ((hp.pg hn hpok hsm).below h) (by omega) hE)
  unfold badCells at HE
  clear hp hE hpok hn
  go_enter Tryz.func51, Tryz.ntmps51
  go_upto_region 1 with (fail)
  go_cut [5] from 6 to 11 (fun t wx => ∃ b5 code, t = .pointer (some ⟨b5, 0, none⟩) ∧ code ≠ 0 ∧ Hid (Blk wx b5 201 (badCells code (-1)) ∧ Below w.heap.size w wx))
  case first =>
    go_upto_region 1 with (fail)
    refine qA fun hSt => ?_
    refine qS [0, 1, 2, 3, 4] ?_
    iterate 5 (refine qT ?_; simp only [Act.put, qY])
    refine TakeSeq.done ?_
    refine wpAnyH_ready (rs := [5, 6]) (by kernel_rfl) (by simp) ?_
    refine AllReadyH.cons rfl (fun K hK => ?_) (AllReadyH.cons rfl (fun K hK => ?_) (AllReadyH.nil))
    · skip
      rw [if_pos (by rfl)]
      go_simp
      go_at_call 84; refine (HE.out _ qL).mono ?_; rintro e w1 ⟨code, rfl, hcd, hb1⟩
      go_wp2_with fail
      refine hK.out _ _ (SteadyAll.of qL) (fun hHeld => ?_)
      clear hK K
      have HCD := hid hcd
      clear hcd
      refine qH 6 fun K hK => ?_
      go_simp
      refine hK.out _ _ (SteadyAll.of qL) (fun hHeld => ?_)
      clear hK K
      refine qH 7 fun K hK => ?_
      go_simp
      refine hK.out _ _ (SteadyAll.of qL) (fun hHeld => ?_)
      clear hK K
      refine qD ?_ _
      go_wp2_with fail
      go_meet
      exact ⟨w1.heap.size, code, rfl, HCD.out, hid ⟨Blk.made _ _ _, qL⟩⟩
    · skip
      rw [if_pos (by rfl)]
      go_simp
      refine hK.out _ _ (SteadyAll.of qL) (fun hHeld => ?_)
      clear hK K
      refine qH 5 fun K hK => ?_
      go_simp
      go_at_call 84; refine (HE.out _ qL).mono ?_; rintro e w1 ⟨code, rfl, hcd, hb1⟩
      go_wp2_with fail
      refine hK.out _ _ (SteadyAll.of qL) (fun hHeld => ?_)
      clear hK K
      have B7 := (Blk.made' (n := w.heap.size + 1) (w := (w.alloc (.cells #[.int .i64 5, .int .i64 0, .int .i64 0, .int .i64 256, .int .i64 0, .slice none 0 0] 138)).drew) (cs := #[.slice none 0 0, .slice none 0 0, .int .i64 0, .int .u32 0, .int .i64 0, .slice none 0 0, .slice none 0 0, .bool false, .bool false]) (t := 201) (by simp)).kept hb1
      have k7 := B7.cell
      have f7 := B7.free
      have l7 := B7.lt
      have HCD := hid (And.intro hcd (And.intro B7 hb1))
      clear hcd B7
      refine qH 7 fun K hK => ?_
      go_simp
      refine hK.out _ _ (SteadyAll.of qL) (fun hHeld => ?_)
      clear hK K
      refine qD ?_ _
      go_wp2_with fail
      go_meet
      have hb1 := HCD.out.2.2
      exact ⟨w.heap.size + 1, code, rfl, HCD.out.1, hid ⟨Blk.cast (((((((((HCD.out.2.1.put 0 _).put 1 _).put 2 _).put 3 _).put 4 _).put 5 _).put 6 _).put 7 _).put 8 _) (by kernel_rfl), qL⟩⟩
  case rest =>
    obtain ⟨b5, code, rfl, hcd, HX⟩ := hcut
    have k5 := HX.out.1.cell
    have l5 := HX.out.1.lt
    unfold badCells at k5
    have c1 : (code != 0) = true := by simpa using hcd
    clear hcd
    go_wp2_with fail
    exact bodyPost_ret (results_tmp rfl _ _ _) rfl ⟨rfl, HX.out.2⟩
def V1 : List Bt.Page := [ownPage 98 256 1 1, segPage 256 1].foldl commitOne (newPages 160)
def V2 : List Bt.Page := [epochPage 256 1].foldl commitOne V1
def V0 : List Bt.Page := [epochPage 512 2].foldl commitOne V2
def hdF (c : Nat) : Int := if c = 0 then 512 else 256
def sgF (c : Nat) : Int := if c = 0 then 1 else 0
theorem six {Q : Nat → Prop} (h0 : Q 0) (h1 : Q 1) (h2 : Q 2) (h3 : Q 3) (h4 : Q 4) (h5 : Q 5) : ∀ c, c < 6 → Q c := by
  intro c hc
  match c, hc with
  | 0, _ => exact h0
  | 1, _ => exact h1
  | 2, _ => exact h2
  | 3, _ => exact h3
  | 4, _ => exact h4
  | 5, _ => exact h5
theorem hdF_num : ∀ c : Nat, c < 6 → hdF c % 256 = 0 ∧ (0 ≤ hdF c ∧ hdF c < 18446744073709551616) ∧ (0 ≤ sgF c ∧ sgF c ≤ 511) ∧ (0 ≤ sgF c ∧ sgF c ≤ 59) := by
  intro c _
  unfold hdF sgF
  split <;> decide
theorem bare0 : Bare (newPages 160) 256 256 := by
  refine ⟨by kernel_rfl, by kernel_rfl, ?_, by decide, by decide, by decide, by decide⟩
  intro s h1 h2
  have : s = 0 ∨ s = 1 ∨ s = 2 ∨ s = 3 ∨ s = 4 ∨ s = 5 ∨ s = 6 ∨ s = 7 ∨ s = 8 := by omega
  rcases this with rfl | rfl | rfl | rfl | rfl | rfl | rfl | rfl | rfl <;> (show (_ : Bool) = true; kernel_rfl)
theorem ready1 : EpReady V1 256 0 hdF sgF sgF :=
  ⟨by kernel_rfl, by decide, by decide, by decide, six (by kernel_rfl) (by kernel_rfl) (by kernel_rfl) (by kernel_rfl) (by kernel_rfl) (by kernel_rfl), hdF_num⟩
theorem ready2 : EpReady V2 512 1 hdF sgF sgF :=
  ⟨by kernel_rfl, by decide, by decide, by decide, six (by kernel_rfl) (by kernel_rfl) (by kernel_rfl) (by kernel_rfl) (by kernel_rfl) (by kernel_rfl), hdF_num⟩
theorem ready0 : EpReady V0 768 2 hdF sgF sgF :=
  ⟨by kernel_rfl, by decide, by decide, by decide, six (by kernel_rfl) (by kernel_rfl) (by kernel_rfl) (by kernel_rfl) (by kernel_rfl) (by kernel_rfl), hdF_num⟩
theorem new_ok (k : Nat) (hk : k ≤ 160) : ∀ p ∈ newPages k, p.Ok := by
  intro p hp
  simp only [newPages, List.mem_map, List.mem_range] at hp
  obtain ⟨i, hi, rfl⟩ := hp
  exact ⟨by simp [newPage], by simp [newPage], by simp [newPage], by simp [newPage], by simp [newPage], by simp [newPage], by simp [newPage], by simp [newPage]⟩
theorem ok1 : ∀ p ∈ V1, p.Ok := commit_ok (acq_ok 256 256 (by decide) (by decide)) (new_ok 160 (by omega))
theorem ok2 : ∀ p ∈ V2, p.Ok := commit_ok (by intro p hp; simp only [List.mem_cons, List.not_mem_nil, or_false] at hp; subst hp; exact epochPage_ok _ _ (by decide) (by decide)) ok1
theorem ok0 : ∀ p ∈ V0, p.Ok := commit_ok (by intro p hp; simp only [List.mem_cons, List.not_mem_nil, or_false] at hp; subst hp; exact epochPage_ok _ _ (by decide) (by decide)) ok2
theorem len1 : V1.length = 160 := by unfold V1; rw [commit_len]; simp [newPages]
theorem len2 : V2.length = 160 := by unfold V2; rw [commit_len, len1]
theorem len0 : V0.length = 160 := by unfold V0; rw [commit_len, len2]
structure HeapIn (hb P cap n : Nat) (ps : List Bt.Page) (w : World) : Prop where
  row : PRow w P cap ps
  len : n = ps.length
  small : n ≤ 1000
  ok : ∀ q ∈ ps, q.Ok
  pages : w.cell? ⟨hb, 0, none⟩ = some (.slice (some ⟨P, 0, none⟩) n cap)
  lines : w.cell? ⟨hb, 1, none⟩ = some (.int .i64 256)
  ne : hb ≠ P
  lt : hb < w.heap.size
theorem HeapIn.over {hb P cap n : Nat} {ps ps' : List Bt.Page} {w w' : World} (h : HeapIn hb P cap n ps w) (ho : Over P w w') (hr : PRow w' P cap ps') (hl : ps'.length = ps.length) (hok : ∀ q ∈ ps', q.Ok) : HeapIn hb P cap n ps' w' := by
  have hne := h.ne
  have e : w'.heap[hb]? = w.heap[hb]? := ho.block hb h.lt (by simp; omega)
  refine ⟨hr, by rw [hl]; exact h.len, h.small, hok, ?_, ?_, h.ne, Nat.lt_of_lt_of_le h.lt ho.size⟩
  · have := h.pages; simp only [World.cell?, e] at this ⊢; exact this
  · have := h.lines; simp only [World.cell?, e] at this ⊢; exact this
theorem HeapIn.below {hb P cap n : Nat} {ps : List Bt.Page} {w w' : World} (h : HeapIn hb P cap n ps w) (hb' : Below w.heap.size w w') : HeapIn hb P cap n ps w' :=
  ⟨h.row.below hb', h.len, h.small, h.ok, (hb'.cell (p := ⟨hb, 0, none⟩) h.lt).trans h.pages, (hb'.cell (p := ⟨hb, 1, none⟩) h.lt).trans h.lines, h.ne, Nat.lt_of_lt_of_le h.lt hb'.size⟩
theorem heapCollect (hb P cap n : Nat) (ps p1 p2 : List Bt.Page) (h0 h1 h2 ep : Int) (hd sg ic : Nat → Int) (w : World) (hh : HeapIn hb P cap n ps w)
    (e0 : EpReady ps h0 ep hd sg ic) (hp1 : [epochPage h0 (ep + 1)].foldl commitOne ps = p1) (l1 : p1.length = ps.length) (o1 : ∀ q ∈ p1, q.Ok)
    (e1 : EpReady p1 h1 (ep + 1) hd sg ic) (hp2 : [epochPage h1 (ep + 1 + 1)].foldl commitOne p1 = p2) (l2 : p2.length = p1.length) (o2 : ∀ q ∈ p2, q.Ok)
    (e2 : EpReady p2 h2 (ep + 1 + 1) hd sg ic) :
    Calls Tryz.prog 27 #[.pointer (some ⟨hb, 0, none⟩), .int .i64 0] w fun e w' => e = .returned (.tuple #[]) ∧ HeapIn hb P cap n p2 w' ∧ Over P w w' := by
  have HE1 : Hid (∀ W, HeapIn hb P cap n ps W → Calls Tryz.prog 51 #[.pointer (some ⟨hb, 0, none⟩), .agg #[.int .i64 3, .int .i64 0, .int .i64 0, .int .i64 0, .int .i64 0, .slice none 0 0]] W fun e w' => e = .returned (.bool true) ∧ HeapIn hb P cap n p1 w' ∧ Over P W w') :=
    hid (fun W h => (heapEpoch_3 hb P cap n ps h0 ep hd sg ic W h.len h.small h.row h.ok h.pages h.ne h.lt e0).mono (fun e w' ⟨a, b, c⟩ => ⟨a, h.over c (hp1 ▸ b) l1 o1, c⟩))
  have HE2 : Hid (∀ W, HeapIn hb P cap n p1 W → Calls Tryz.prog 51 #[.pointer (some ⟨hb, 0, none⟩), .agg #[.int .i64 3, .int .i64 0, .int .i64 0, .int .i64 0, .int .i64 0, .slice none 0 0]] W fun e w' => e = .returned (.bool true) ∧ HeapIn hb P cap n p2 w' ∧ Over P W w') :=
    hid (fun W h => (heapEpoch_3 hb P cap n p1 h1 (ep + 1) hd sg ic W h.len h.small h.row h.ok h.pages h.ne h.lt e1).mono (fun e w' ⟨a, b, c⟩ => ⟨a, h.over c (hp2 ▸ b) l2 o2, c⟩))
  have HE3 : Hid (∀ W, HeapIn hb P cap n p2 W → Calls Tryz.prog 51 #[.pointer (some ⟨hb, 0, none⟩), .agg #[.int .i64 5, .int .i64 0, .int .i64 0, .int .i64 256, .int .i64 0, .slice none 0 0]] W fun e w' => e = .returned (.bool false) ∧ Below W.heap.size W w') :=
    hid (fun W h => heapEpoch_5 hb P cap n p2 h2 (ep + 1 + 1) hd sg ic W h.len h.small h.row h.ok h.pages h.lt e2)
  have HH := hid hh
  clear hh e0 e1 e2 hp1 hp2 l1 l2 o1 o2
  go_enter Tryz.func27, Tryz.ntmps27
  go_wp2_with fail
  go_at_call 51; refine (HE1.out _ HH.out).mono ?_; rintro e w1 ⟨rfl, hh1, ho1⟩
  have H1 := hid (And.intro hh1 ho1)
  clear hh1 ho1
  go_wp2_with fail
  go_at_call 51; refine (HE2.out _ H1.out.1).mono ?_; rintro e w2 ⟨rfl, hh2, ho2⟩
  have H2 := hid (And.intro hh2 (H1.out.2.trans ho2))
  have c1 := hh2.lines
  have lh := hh2.lt
  clear hh2 ho2
  go_wp2_with fail
  refine wp_loop_rounds 1 ?_
  rw [rounds_succ]
  go_wp2_with fail
  go_at_call 51; refine (HE3.out _ H2.out.1).mono ?_; rintro e w3 ⟨rfl, hb3⟩
  have H3 := hid hb3
  clear hb3
  go_wp2_with fail
  exact bodyPost_end (results_none rfl _ _ _) rfl ⟨rfl, H2.out.1.below H3.out, H2.out.2.then_below H3.out⟩
theorem heapRoom (hb P cap n : Nat) (ps pa p1 p2 : List Bt.Page) (h0 h1 h2 a1 a2 ep : Int) (hd sg ic : Nat → Int) (w : World) (hh : HeapIn hb P cap n ps w) (hB : Bare ps a1 a2)
    (hpa : [ownPage 98 a1 1 1, segPage a2 1].foldl commitOne ps = pa) (la : pa.length = ps.length) (oa : ∀ q ∈ pa, q.Ok)
    (e0 : EpReady pa h0 ep hd sg ic) (hp1 : [epochPage h0 (ep + 1)].foldl commitOne pa = p1) (l1 : p1.length = pa.length) (o1 : ∀ q ∈ p1, q.Ok)
    (e1 : EpReady p1 h1 (ep + 1) hd sg ic) (hp2 : [epochPage h1 (ep + 1 + 1)].foldl commitOne p1 = p2) (l2 : p2.length = p1.length) (o2 : ∀ q ∈ p2, q.Ok)
    (e2 : EpReady p2 h2 (ep + 1 + 1) hd sg ic) :
    Calls Tryz.prog 15 #[.pointer (some ⟨hb, 0, none⟩), .int .i64 0] w fun e w' => e = .returned (.tuple #[]) ∧ HeapIn hb P cap n p2 w' ∧ Over P w w' := by
  have HAQ : Hid (∀ W, Below w.heap.size w W → Calls Tryz.prog 25 #[.int .i64 0, .int .i64 1, .int .i64 256, .int .i64 (-1), .slice (some ⟨P, 0, none⟩) n cap] W (AcqPost a1 a2 W)) := hid (fun W h => acquire_ok ps _ a1 a2 W ((hh.row.below h).pg hh.len hh.ok hh.small) (by have := hh.len; have := hh.small; omega) hB)
  have HCO : Hid (∀ W, HeapIn hb P cap n pa W → Calls Tryz.prog 27 #[.pointer (some ⟨hb, 0, none⟩), .int .i64 0] W fun e w' => e = .returned (.tuple #[]) ∧ HeapIn hb P cap n p2 w' ∧ Over P W w') := hid (fun W h => heapCollect hb P cap n pa p1 p2 h0 h1 h2 ep hd sg ic W h e0 hp1 l1 o1 e1 hp2 l2 o2 e2)
  have HCM : Hid (∀ W vW, Below w.heap.size w W → PgRow W vW [ownPage 98 a1 1 1, segPage a2 1] → (∀ b a c, vW = .slice (some ⟨b, 0, none⟩) a c → b ≠ P) → Calls Tryz.prog 26 #[.pointer (some ⟨hb, 0, none⟩), vW] W fun e w' => e = .returned (.tuple #[]) ∧ HeapIn hb P cap n pa w' ∧ Over P W w') :=
    hid (fun W vW hW h1 h2 => (commit_any hb P cap n ps [ownPage 98 a1 1 1, segPage a2 1] vW W hh.len hh.small (hh.row.below hW) hh.ok (hh.below hW).pages hh.ne (hh.below hW).lt h1 h2 (by simp) (by intro p hp; simp at hp; rcases hp with rfl | rfl <;> simp [ownPage, segPage])).mono (fun e w' ⟨a, b, c⟩ => ⟨a, (hh.below hW).over c (hpa ▸ b) la oa, c⟩))
  have HH := hid hh
  have hPl := hh.row.lt
  have hc0 := hh.pages
  have hc1 := hh.lines
  have hhb := hh.lt
  have HP := hid hPl
  clear hh hB hpa la oa e0 e1 e2 hp1 hp2 l1 l2 o1 o2
  go_enter Tryz.func15, Tryz.ntmps15
  go_upto_region 0 with (fail)
  go_cut [4] from 5 to 14 (fun t wx => ∃ b5 v, t = .pointer (some ⟨b5, 0, none⟩) ∧ Hid (Blk wx b5 90 #[.slice none 0 0, .slice none 0 0, v, .int .i64 0, .int .i64 0, .bool true] ∧ PgRow wx v [ownPage 98 a1 1 1, segPage a2 1] ∧ (∀ b a c, v = .slice (some ⟨b, 0, none⟩) a c → w.heap.size ≤ b) ∧ Below w.heap.size w wx))
  case first =>
    go_upto_region 0 with (fail)
    refine qA fun hSt => ?_
    refine qS [0, 1, 2, 3, 4, 5, 6, 7, 8] ?_
    iterate 9 (refine qT ?_; simp only [Act.put, qY])
    refine TakeSeq.done ?_
    refine wpAnyH_ready (rs := [9, 10]) (by kernel_rfl) (by simp) ?_
    refine AllReadyH.cons rfl (fun K hK => ?_) (AllReadyH.cons rfl (fun K hK => ?_) (AllReadyH.nil))
    · skip
      rw [if_pos (by rfl)]
      go_simp
      go_at_call 25; refine (HAQ.out _ qL).mono ?_; rintro e w1 ⟨v, rfl, hpg, hv, hb1⟩
      go_wp2_with fail
      refine hK.out _ _ (SteadyAll.of qL) (fun hHeld => ?_)
      clear hK K
      obtain ⟨pv, cv, rfl⟩ := hpg.slice
      have HX := hid (And.intro hpg hv)
      clear hpg hv
      refine qH 10 fun K hK => ?_
      go_simp
      refine hK.out _ _ (SteadyAll.of qL) (fun hHeld => ?_)
      clear hK K
      refine qH 11 fun K hK => ?_
      go_simp
      refine hK.out _ _ (SteadyAll.of qL) (fun hHeld => ?_)
      clear hK K
      refine qD ?_ _
      go_wp2_with fail
      go_meet
      exact ⟨w1.heap.size, _, rfl, hid ⟨Blk.made _ _ _, HX.out.1.below (below_alloc (Below.refl _ _) _), fun b a c h => HX.out.2 b a c h, qL⟩⟩
    · skip
      rw [if_pos (by rfl)]
      go_simp
      refine hK.out _ _ (SteadyAll.of qL) (fun hHeld => ?_)
      clear hK K
      refine qH 9 fun K hK => ?_
      go_simp
      go_at_call 25; refine (HAQ.out _ qL).mono ?_; rintro e w1 ⟨v, rfl, hpg, hv, hb1⟩
      go_wp2_with fail
      refine hK.out _ _ (SteadyAll.of qL) (fun hHeld => ?_)
      clear hK K
      obtain ⟨pv, cv, rfl⟩ := hpg.slice
      have B7 : Blk w1 w.heap.size 90 #[.slice none 0 0, .slice none 0 0, .slice none 0 0, .int .i64 0, .int .i64 0, .bool false] := (Blk.made w.drew 90 #[.slice none 0 0, .slice none 0 0, .slice none 0 0, .int .i64 0, .int .i64 0, .bool false]).kept hb1
      have k7 := B7.cell
      have f7 := B7.free
      have l7 := B7.lt
      have HX := hid (And.intro hpg (And.intro hv (And.intro B7 hb1)))
      clear hpg hv B7
      refine qH 11 fun K hK => ?_
      go_simp
      refine hK.out _ _ (SteadyAll.of qL) (fun hHeld => ?_)
      clear hK K
      refine qD ?_ _
      go_wp2_with fail
      go_meet
      have hb1 := HX.out.2.2.2
      have hv : ∀ b a c, (Value.slice pv _ cv) = .slice (some ⟨b, 0, none⟩) a c → w.heap.size < b := fun b a c h => by have h1 := HX.out.2.1 b a c h; simp at h1; omega
      exact ⟨w.heap.size, _, rfl, hid ⟨Blk.cast ((((((HX.out.2.2.1.put 0 _).put 1 _).put 2 _).put 3 _).put 4 _).put 5 _) (by kernel_rfl), (pgrow_put (pgrow_put (pgrow_put (pgrow_put (pgrow_put (pgrow_put HX.out.1 (fun b' n' c' h => by have := hv b' n' c' h; omega) 0 _) (fun b' n' c' h => by have := hv b' n' c' h; omega) 1 _) (fun b' n' c' h => by have := hv b' n' c' h; omega) 2 _) (fun b' n' c' h => by have := hv b' n' c' h; omega) 3 _) (fun b' n' c' h => by have := hv b' n' c' h; omega) 4 _) (fun b' n' c' h => by have := hv b' n' c' h; omega) 5 _), fun b a c h => Nat.le_of_lt (hv b a c h), qL⟩⟩
  case rest =>
    obtain ⟨b5, v, rfl, HX⟩ := hcut
    have k5 := HX.out.1.cell
    have l5 := HX.out.1.lt
    go_wp2_with fail
    go_at_call 26
    refine (HCM.out _ v HX.out.2.2.2 HX.out.2.1 (fun b a c h => by have h1 := HX.out.2.2.1 b a c h; have h2 := HP.out; omega)).mono ?_
    rintro e w2 ⟨rfl, hh2, ho2⟩
    have H2 := hid (And.intro hh2 ((Over.of_below (b := P) HX.out.2.2.2).trans ho2))
    clear hh2 ho2
    go_wp2_with fail
    go_at_call 27
    refine (HCO.out _ H2.out.1).mono ?_
    rintro e w3 ⟨rfl, hh3, ho3⟩
    have H3 := hid (And.intro hh3 (H2.out.2.trans ho3))
    clear hh3 ho3
    go_wp2_with fail
    exact bodyPost_end (results_none rfl _ _ _) rfl ⟨rfl, H3.out.1, H3.out.2⟩
end Go.Proofs.YtcoiehgcfjfhaaaGreatDoor
