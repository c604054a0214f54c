/- segment.Allocate, one page behind three. -/
import Derived.Test.YtcoiehgcfjfhaaaGreatDoorQ18
set_option linter.all false
set_option maxRecDepth 20000
set_option maxHeartbeats 8000000
open Go.Lib (hid)
namespace Go.Proofs.YtcoiehgcfjfhaaaGreatDoor
open Go.RowKit
theorem segAlloc_3 (ks : List Bt.Page) (hS : SegAt ks 14) (hf108 : Bt.latest ks 108 = some (freeP 108)) (vk : Value) (w : World) (hp : PgRow w vk ks) :
    Calls Tryz.prog 162 #[.agg #[.int .i64 0, .int .i64 256, .int .i64 1], vk] w (AllocPost [freeP 108] 30 w) := by
  obtain ⟨i1, hi1, hy0, hy1, hy2⟩ := info_parts infoPage
  have hmm := @run_makeMap Tryz.prog
  have HIC := hid (fun W => segIsClient_0 W)
  have HIS := hid (fun W => segIsSize_256 W)
  have HCT := hid (fun W => segCount_256 W)
  have HOW := hid (fun W => segOwned_1 W)
  have HHL := hid (fun v base W h => segHeaderLines_1 v base W h)
  have HHN := hid (fun W => segHeaderLine_0 W)
  have HND := hid (fun W (hb : Below w.heap.size w W) => segNode ks 512 (by decide) hS.own vk W (hp.below hb))
  have HMI := hid (fun v base W (hb : Below w.heap.size w W) h => segMissing_1 ks (by rw [hS.hdr]; rfl) vk v base W (hp.below hb) h)
  have HHD := hid (fun W (hb : Below w.heap.size w W) => segHeader ks 14 (.inr (.inr rfl)) 512 (by decide) hS.hdr vk W (hp.below hb))
  have HVA := hid (fun W => segVacant 14 (.inr (.inr rfl)) W)
  have HWH := hid (fun W => segWriteHeader (hdrPage 512 14) rfl 30 (.inr (.inr rfl)) W)
  have HLA108 : Hid (∀ W, Below w.heap.size w W → Calls Tryz.prog 60 #[vk, .int .i64 108] W fun e w' => e = .returned (.tuple #[.agg (freeP 108).cells, .bool true]) ∧ Below W.heap.size W w') := hid (fun W hb => by
    have h := Latest_any ks vk 108 W (hp.below hb)
    rw [hf108] at h
    exact h)
  have HLK108 : Hid (∀ W, Calls Tryz.prog 62 #[.agg (freeP 108).cells] W fun e w' => e = .returned (.bool false) ∧ Below W.heap.size W w') := hid (fun W => Locked_any (freeP 108) ⟨by decide, by decide, by decide, by decide, by decide, by decide, by decide, by decide⟩ W)
  have HUT : Hid (∀ W, Calls Tryz.prog 160 #[.int .u64 0] W fun e w' => e = .returned (.agg #[.int .i64 0, .int .i64 0, .int .u32 0]) ∧ Below W.heap.size W w') := hid (fun W => UnpackTag_any 0 (by omega) (by omega) W)
  obtain ⟨pv, cv, rfl⟩ := hp.slice
  obtain ⟨nv, hnv⟩ : ∃ n, ks.length = n := ⟨_, rfl⟩
  rw [hnv] at HND HMI HHD HLA108 ⊢
  clear hp hnv hf108 hS
  unfold ownPage Bt.Page.cells at HND
  unfold ownCells at HND
  unfold hdrPage Bt.Page.cells at HHD HWH
  unfold freeP Bt.Page.cells at HLA108 HLK108
  simp only at HND HHD HWH HLA108 HLK108
  go_enter Tryz.func162, Tryz.ntmps162
  go_wp2_with fail
  go_at_call 209; refine (HIC.out _).mono ?_; rintro e w1 ⟨rfl, hw⟩; obtain rfl := hw
  go_wp2_with fail
  go_at_call 210; refine (HIS.out _).mono ?_; rintro e w1 ⟨rfl, hw⟩; obtain rfl := hw
  go_wp2_with fail
  go_at_call 211; refine (HND.out _ qL).mono ?_; rintro e w1 ⟨rfl, hb1⟩; ((obtain ⟨hc1, hf1, hs1⟩ := qR hb1); (try have z1_w_0 := qN0 w w1))
  go_upto_region 8 with (fail)
  refine wp_name (fun W => Blk W w.heap.size 284 #[.int .i64 0, .int .i64 256, .int .i64 1] ∧ W.cell? ⟨w1.heap.size + 1, 2, none⟩ = some (.int .u32 1) ∧ w1.heap.size + 1 < W.heap.size ∧ Below w.heap.size w W) ⟨?_, ?_, ?_, qL⟩ (fun w2 H2 => ?_)
  · have B := (Blk.made w 284 #[.int .i64 0, .int .i64 256, .int .i64 1]).kept hb1
    (repeat (first | with_reducible exact B | with_reducible apply Blk.put | with_reducible apply Blk.alloc | (with_reducible apply Blk.aside; (case hp => first | (simp; done) | (simp; omega))) | with_reducible apply Blk.drew))
  · exact (Blk.cell (b := w1.heap.size + 1) (Blk.made' (by simp)) 2).trans rfl
  · simp
  obtain ⟨n0, hn0⟩ : ∃ n0, w1.heap.size + 1 = n0 := ⟨_, rfl⟩
  have hn1 : w.heap.size < n0 := by omega
  rw [hn0] at H2 ⊢
  clear hb1 hc1 hf1 hs1 z1_w_0 hn0
  have kr := H2.out.1.cell
  have lr := H2.out.1.lt
  have kn := H2.out.2.1
  have ln := H2.out.2.2.1
  refine qA fun hSt => ?_
  refine qS [0, 1, 2, 3] ?_
  iterate 4 (refine qT ?_; simp only [Act.put, qY])
  refine TakeSeq.done ?_
  refine qH 4 fun K hK => ?_
  go_simp
  go_at_call 213; refine (HCT.out _).mono ?_; rintro e w3 ⟨rfl, hw⟩; obtain rfl := hw
  go_wp2_with fail
  refine hK.out _ _ (SteadyAll.of qL) (fun hHeld => ?_)
  clear hK K
  refine qH 5 fun K hK => ?_
  go_simp
  go_at_call 212; refine (HOW.out _).mono ?_; rintro e w3 ⟨v3, rfl, hown3, hb3⟩
  go_wp2_with fail
  refine hK.out _ _ (SteadyAll.of qL) (fun hHeld => ?_)
  clear hK K
  refine qS [6] ?_
  refine qT ?_; simp only [Act.put, qY]
  refine TakeSeq.done ?_
  refine qD ?_ _
  obtain ⟨p3, c3, rfl⟩ := own_shape hown3
  have B3 := H2.out.1.kept (w' := w3) ((Below.refl _ _).drew.trans hb3)
  have hbw3 : Below w.heap.size w w3 := by have h := H2.out.2.2.2; exact qL
  have hown3' := own_lower hown3 (show w.heap.size + 1 ≤ _ from lr)
  have H3 := hid (And.intro B3 (And.intro hown3' hbw3))
  clear B3 hbw3 hown3' hown3 hb3 kr kn ln lr H2 hn1
  go_wp2_with fail
  go_at_call 215; refine (HHL.out _ _ _ H3.out.2.1).mono ?_; rintro e w4 ⟨v4, rfl, hown4, hb4⟩
  have hbw4 : Below w.heap.size w w4 := by have h := H3.out.2.2; exact qL
  have B4 := H3.out.1.kept hb4
  have hown4' := own_below H3.out.2.1 hb4
  go_wp2_with fail
  go_at_call 214; refine (HMI.out _ _ _ hbw4 hown4).mono ?_; rintro e w5 ⟨rfl, hb5⟩
  have hbw5 : Below w.heap.size w w5 := qL
  have H5 := hid (And.intro (B4.kept hb5) (And.intro (own_below hown4' hb5) hbw5))
  clear H3 hown4 hb4 B4 hown4' hbw4 hb5 hbw5
  go_wp2_with fail
  have e0 : (Value.map (some w5.heap.size)) = .map (some w5.heap.size) := rfl
  obtain ⟨m1, hm1⟩ : ∃ m1, w5.heap.size = m1 := ⟨_, rfl⟩
  refine wp_name (fun W => Blk W w.heap.size 284 #[.int .i64 0, .int .i64 256, .int .i64 1] ∧ W.ownsRow (w.heap.size + 1) 3 1 (.slice p3 1 c3) 1 [.int .i64 0] ∧ W.ownsMap Tryz.prog 3 heldR m1 0 (.map []) ∧ W.ownsMap Tryz.prog 3 heldR (m1 + 1) 0 (.map []) ∧ Below w.heap.size w W) ⟨?_, ?_, ?_, ?_, ?_⟩ (fun w6 H6 => ?_)
  · have B := H5.out.1
    (repeat (first | with_reducible exact B | with_reducible apply Blk.put | with_reducible apply Blk.alloc | (with_reducible apply Blk.aside; (case hp => first | (simp; done) | (simp; omega))) | with_reducible apply Blk.drew))
  · exact own_below (own_below H5.out.2.1 (below_alloc (Below.refl _ _) _)) (below_alloc (Below.refl _ _) _)
  · rw [← hm1]; exact (World.ownsMap_made w5 Tryz.prog 3 heldR).alloc _
  · have h := World.ownsMap_made (w5.alloc (.map #[] 0)) Tryz.prog 3 heldR
    rw [size_alloc, hm1] at h
    exact h
  · have h := H5.out.2.2
    exact qL
  rw [hm1]
  have hms : w.heap.size < m1 := by rw [← hm1]; exact H5.out.1.lt
  clear H5
  obtain ⟨g3, rfl⟩ : ∃ g3, p3 = some ⟨g3, 0, none⟩ := by
    rcases H6.out.2.1.2 with ⟨_, h0⟩ | ⟨g, cap, cur, e, _⟩
    · omega
    · cases e; exact ⟨g, rfl⟩
  have c0 : w6.cell? ⟨g3, 0, none⟩ = some (.int .i64 0) := own_cells H6.out.2.1 0 _ rfl
  have lg : g3 < w6.heap.size := (own_lt H6.out.2.1).2
  have kr := H6.out.1.cell
  have lr := H6.out.1.lt
  refine wp_loop_rounds 2 ?_
  rw [rounds_succ]
  go_wp2_with fail
  go_at_call 216; refine (HHD.out _ H6.out.2.2.2.2).mono ?_; rintro e w7 ⟨rfl, hb7⟩; ((obtain ⟨hc7, hf7, hs7⟩ := qR hb7); (try have := qN0 w w7); (try have := qN0 w6 w7))
  have lr7 : w.heap.size < w7.heap.size := by omega
  go_upto_region 21 with (fail)
  obtain ⟨x7, hx7⟩ : ∃ x7, w7.heap.size = x7 := ⟨_, rfl⟩
  refine wp_name (fun W => Blk W w.heap.size 284 #[.int .i64 0, .int .i64 256, .int .i64 1] ∧ W.ownsRow (w.heap.size + 1) 3 1 (.slice (some ⟨g3, 0, none⟩) 1 c3) 1 [.int .i64 0] ∧ W.ownsMap Tryz.prog 3 heldR m1 0 (.map []) ∧ W.ownsMap Tryz.prog 3 heldR (m1 + 1) 0 (.map []) ∧ Blk W x7 75 #[.int .i64 104, .int .u64 512, .int .u64 1, .int .u64 14, .int .u64 0, .int .u64 0, .int .u64 0, .int .u64 0, .int .u64 0] ∧ Blk W (x7 + 1) 344 #[.int .i64 0, .int .u32 14] ∧ Below w.heap.size w W) ⟨?_, ?_, ?_, ?_, ?_, ?_, ?_⟩ (fun w8 H8 => ?_)
  · have B := H6.out.1.kept hb7
    (repeat (first | with_reducible exact B | with_reducible apply Blk.put | with_reducible apply Blk.alloc | (with_reducible apply Blk.aside; (case hp => first | (simp; done) | (simp; omega))) | with_reducible apply Blk.drew))
  · exact own_below (own_below (own_below H6.out.2.1 hb7) (below_alloc (Below.refl _ _) _)) (below_alloc (Below.refl _ _) _)
  · exact ((ownsMap_below H6.out.2.2.1 hb7 H6.out.2.2.1.lt).alloc _).alloc _
  · exact ((ownsMap_below H6.out.2.2.2.1 hb7 H6.out.2.2.2.1.lt).alloc _).alloc _
  · rw [← hx7]; exact (Blk.made w7 _ _).alloc _
  · rw [← hx7]; exact Blk.made' (by simp)
  · have h := H6.out.2.2.2.2
    exact qL
  rw [hx7]
  clear H6 hb7 hc7 hf7 hs7 c0 lg kr lr lr7
  have hk0 : keyOf Tryz.prog 3 (.int .i64 0) = some (.int .i64 0) := Maps.keyOf_int_mk Tryz.underlying3 (by decide)
  have HK0 := hid hk0
  obtain ⟨wa, run1, om1, gm1⟩ := H8.out.2.2.1.drew.update law_int Tryz.underlying327 (by unfold maxLen; omega) hk0 (val := .agg #[.int .i64 104, .int .u64 512, .int .u64 1, .int .u64 14, .int .u64 0, .int .u64 0, .int .u64 0, .int .u64 0, .int .u64 0]) (d := .held (.agg #[.int .i64 104, .int .u64 512, .int .u64 1, .int .u64 14, .int .u64 0, .int .u64 0, .int .u64 0, .int .u64 0, .int .u64 0])) (ps := []) rfl
  obtain ⟨wb, run2, om2, gm2⟩ := (H8.out.2.2.2.1.drew.kept gm1 (by simp)).update law_int Tryz.underlying343 (by unfold maxLen; omega) hk0 (val := .agg #[.int .i64 0, .int .u32 14]) (d := .held (.agg #[.int .i64 0, .int .u32 14])) (ps := []) rfl
  have s1 : SteadyAll w8 wa := ⟨(steady_map H8.out.2.2.1.drew om1 gm1).rule⟩
  have s2 : SteadyAll w8 wb := ⟨fun b o hb => ((steady_map (H8.out.2.2.2.1.drew.kept gm1 (by simp)) om2 gm2).rule b o (Nat.lt_of_lt_of_le hb gm1.size)).trans (s1.rule b o hb)⟩
  have S1 := hid s1
  have S2 := hid s2
  have R1 := hid run1
  have R2 := hid run2
  have G1 := hid (And.intro om1 (And.intro gm1 (And.intro om2 gm2)))
  have kp := H8.out.2.2.2.2.1.cell
  have lp := H8.out.2.2.2.2.1.lt
  have kh := H8.out.2.2.2.2.2.1.cell
  have lh := H8.out.2.2.2.2.2.1.lt
  clear s1 s2 om1 om2 gm1 gm2 hk0 run1 run2
  refine qA fun hSt => ?_
  refine qS [0, 1, 2, 3, 4, 5] ?_
  iterate 6 (refine qT ?_; simp only [Act.put, qY])
  refine TakeSeq.done ?_
  have run1 := R1.out
  have run2 := R2.out
  refine qH 6 fun K hK => ?_
  go_simp
  refine hK.out _ _ (S1.out) (fun hHeld => ?_)
  clear hK K
  refine qH 7 fun K hK => ?_
  go_simp
  refine hK.out _ _ (S2.out) (fun hHeld => ?_)
  clear hK K
  refine qD ?_ _
  clear run1 run2
  go_wp2_with fail
  rw [rounds_succ]
  go_wp2_with fail
  refine wp_name (fun W => Blk W w.heap.size 284 #[.int .i64 0, .int .i64 256, .int .i64 1] ∧ W.ownsRow (w.heap.size + 1) 3 1 (.slice (some ⟨g3, 0, none⟩) 1 c3) 1 [.int .i64 0] ∧ W.ownsMap Tryz.prog 3 heldR m1 1 (DataW.put (.map []) (.int .i64 0) (.held (.agg #[.int .i64 104, .int .u64 512, .int .u64 1, .int .u64 14, .int .u64 0, .int .u64 0, .int .u64 0, .int .u64 0, .int .u64 0]))) ∧ W.ownsMap Tryz.prog 3 heldR (m1 + 1) 1 (DataW.put (.map []) (.int .i64 0) (.held (.agg #[.int .i64 0, .int .u32 14]))) ∧ Below w.heap.size w W) ⟨?_, ?_, ?_, ?_, ?_⟩ (fun w9 H9 => ?_)
  · exact (H8.out.1.drew.grown G1.out.2.1 (by have := map_ne H8.out.2.2.1 H8.out.1; simpa using this)).grown G1.out.2.2.2 (by have := map_ne H8.out.2.2.2.1 H8.out.1; simpa using this)
  · exact ((own_drew' H8.out.2.1).kept G1.out.2.1 (.inr (map_ne_row H8.out.2.2.1 H8.out.2.1))).kept G1.out.2.2.2 (.inr (map_ne_row H8.out.2.2.2.1 H8.out.2.1))
  · exact G1.out.1.kept G1.out.2.2.2 (by simp)
  · exact G1.out.2.2.1
  · exact below_grown (below_grown H8.out.2.2.2.2.2.2.drew G1.out.2.1 (fun j hj => by cases hj; omega)) G1.out.2.2.2 (fun j hj => by cases hj; omega)
  clear G1 H8 S1 S2 R1 R2 kp lp kh lh
  have c0 : w9.cell? ⟨g3, 0, none⟩ = some (.int .i64 0) := own_cells H9.out.2.1 0 _ rfl
  have lg : g3 < w9.heap.size := (own_lt H9.out.2.1).2
  have kr := H9.out.1.cell
  have lr := H9.out.1.lt
  refine wp_loop_rounds 2 ?_
  rw [rounds_succ]
  go_wp2_with fail
  have run3 := look_one Maps.isMap_empty H9.out.2.2.2.1.drew Tryz.underlying343 (show (zeroValue 344).run Tryz.prog w9.drew = .ok (.agg #[.int .i64 0, .int .u32 0]) w9.drew from by kernel_rfl)
  have R3 := hid run3
  clear run3
  refine qA fun hSt => ?_
  refine qS [0, 1, 4, 5] ?_
  iterate 4 (refine qT ?_; simp only [Act.put, qY])
  refine TakeSeq.done ?_
  have run3 := R3.out
  refine qH 2 fun K hK => ?_
  go_simp
  refine hK.out _ _ (SteadyAll.of qL) (fun hHeld => ?_)
  clear hK K
  clear run3
  refine qH 3 fun K hK => ?_
  go_simp
  go_at_call 217; refine (HVA.out _).mono ?_; rintro e w10 ⟨rfl, hb10⟩
  go_wp2_with fail
  refine hK.out _ _ (SteadyAll.of qL) (fun hHeld => ?_)
  clear hK K
  refine qS [6] ?_
  refine qT ?_; simp only [Act.put, qY]
  refine TakeSeq.done ?_
  refine qD ?_ _
  have hb10' : Below w9.heap.size w9 w10 := (Below.refl _ _).drew.trans hb10
  clear hb10
  go_wp2_with fail
  refine wp_name (fun W => Blk W w.heap.size 284 #[.int .i64 0, .int .i64 256, .int .i64 1] ∧ Blk W w10.heap.size 3 #[.int .i64 0] ∧ W.ownsMap Tryz.prog 3 heldR m1 1 (DataW.put (.map []) (.int .i64 0) (.held (.agg #[.int .i64 104, .int .u64 512, .int .u64 1, .int .u64 14, .int .u64 0, .int .u64 0, .int .u64 0, .int .u64 0, .int .u64 0]))) ∧ W.ownsMap Tryz.prog 3 heldR (m1 + 1) 1 (DataW.put (.map []) (.int .i64 0) (.held (.agg #[.int .i64 0, .int .u32 14]))) ∧ W.ownsMap Tryz.prog 3 heldR (w10.heap.size + 1) 0 (.map []) ∧ Below w.heap.size w W) ⟨?_, ?_, ?_, ?_, ?_, ?_⟩ (fun w11 H11 => ?_)
  · have B := H9.out.1.kept hb10'
    (repeat (first | with_reducible exact B | with_reducible apply Blk.put | with_reducible apply Blk.alloc | (with_reducible apply Blk.aside; (case hp => first | (simp; done) | (simp; omega))) | with_reducible apply Blk.drew))
  · exact (Blk.made _ _ _).alloc _
  · exact ((ownsMap_below H9.out.2.2.1 hb10' H9.out.2.2.1.lt).alloc _).alloc _
  · exact ((ownsMap_below H9.out.2.2.2.1 hb10' H9.out.2.2.2.1.lt).alloc _).alloc _
  · have h := World.ownsMap_made (w10.alloc (.cells #[.int .i64 0] 3)) Tryz.prog 3 heldR
    rw [size_alloc] at h
    exact h
  · have h := H9.out.2.2.2.2
    exact qL
  have hx : w.heap.size < w10.heap.size := Nat.lt_of_lt_of_le lr hb10'.size
  have hmx : m1 < w10.heap.size := Nat.lt_of_lt_of_le H9.out.2.2.1.lt hb10'.size
  obtain ⟨x10, hx10⟩ : ∃ x, w10.heap.size = x := ⟨_, rfl⟩
  rw [hx10] at H11 hx hmx ⊢
  clear H9 hb10' c0 lg kr lr hx10
  have kr := H11.out.1.cell
  have lr := H11.out.1.lt
  have ks0 := H11.out.2.1.cell 0
  have ls := H11.out.2.1.lt
  have run4 := look_one Maps.isMap_empty H11.out.2.2.2.1 Tryz.underlying343 (show (zeroValue 344).run Tryz.prog w11 = .ok (.agg #[.int .i64 0, .int .u32 0]) w11 from by kernel_rfl)
  refine wp_loop_rounds 2 ?_
  rw [rounds_succ]
  go_wp2_with fail
  have hs11 : w11.heap.size = w11.heap.size := rfl
  refine wp_name (fun W => Blk W w.heap.size 284 #[.int .i64 0, .int .i64 256, .int .i64 1] ∧ Blk W x10 3 #[.int .i64 0] ∧ Blk W w11.heap.size 344 #[.int .i64 0, .int .u32 14] ∧ W.ownsMap Tryz.prog 3 heldR m1 1 (DataW.put (.map []) (.int .i64 0) (.held (.agg #[.int .i64 104, .int .u64 512, .int .u64 1, .int .u64 14, .int .u64 0, .int .u64 0, .int .u64 0, .int .u64 0, .int .u64 0]))) ∧ W.ownsMap Tryz.prog 3 heldR (x10 + 1) 0 (.map []) ∧ Below w.heap.size w W) ⟨?_, ?_, ?_, ?_, ?_, ?_⟩ (fun v0 V0 => ?_)
  · have B := H11.out.1
    (repeat (first | with_reducible exact B | with_reducible apply Blk.put | with_reducible apply Blk.alloc | (with_reducible apply Blk.aside; (case hp => first | (simp; done) | (simp; omega))) | with_reducible apply Blk.drew))
  · have B := H11.out.2.1
    (repeat (first | with_reducible exact B | with_reducible apply Blk.put | with_reducible apply Blk.alloc | (with_reducible apply Blk.aside; (case hp => first | (simp; done) | (simp; omega))) | with_reducible apply Blk.drew))
  · exact Blk.made _ _ _
  · exact H11.out.2.2.1.alloc _
  · exact H11.out.2.2.2.2.1.alloc _
  · have h := H11.out.2.2.2.2.2
    exact qL
  have hmh : w.heap.size < w11.heap.size := lr
  obtain ⟨xh, hxh⟩ : ∃ x, w11.heap.size = x := ⟨_, rfl⟩
  rw [hxh] at V0 hmh ⊢
  clear H11 kr lr ks0 ls run4 hs11 hxh
  have HD0 : Hid (Maps.IsMap (DataW.map (H := Value) [])) := hid Maps.isMap_empty
  refine wp_loop_rounds 5 ?_
  have kr := V0.out.1.cell
  have lr := V0.out.1.lt
  have kh := V0.out.2.2.1.cell
  have fh := V0.out.2.2.1.free
  have lh := V0.out.2.2.1.lt
  rw [rounds_succ]
  have ac1 : bits BinOp.and IntKind.u32 7 1 = 1 := by kernel_rfl
  go_wp2_with fail
  clear ac1
  rw [rounds_succ]
  have ac2 : bits BinOp.and IntKind.u32 3 1 = 1 := by kernel_rfl
  go_wp2_with fail
  clear ac2
  rw [rounds_succ]
  have ac3 : bits BinOp.and IntKind.u32 1 1 = 1 := by kernel_rfl
  go_wp2_with fail
  clear ac3
  rw [rounds_succ]
  have ac : bits BinOp.and IntKind.u32 0 1 = 0 := by kernel_rfl
  go_wp2_with fail
  clear ac
  go_at_call 218; refine (HHN.out _).mono ?_; rintro e wA ⟨rfl, hw⟩; obtain rfl := hw
  go_wp2_with fail
  go_at_call 60; refine (HLA108.out _ V0.out.2.2.2.2.2).mono ?_; rintro e a0 ⟨rfl, ha0⟩; ((obtain ⟨hca0, hfa0⟩ := below_rules ha0; have hsa0 := Below.size ha0; try simp only [size_alloc, size_setCell, size_drew, size_drewN] at hsa0 hca0 hfa0); (try have := qN0 w a0); (try have := qN0 v0 a0))
  have lh0 : xh < a0.heap.size := by omega
  go_wp2_with fail
  go_at_call 160; refine (HUT.out _).mono ?_; rintro e b0 ⟨rfl, hb0⟩; ((obtain ⟨hcb0, hfb0⟩ := below_rules hb0; have hsb0 := Below.size hb0; try simp only [size_alloc, size_setCell, size_drew, size_drewN] at hsb0 hcb0 hfb0); (try have := qN0 w b0); (try have := qN0 v0 b0); (try have := qN0 a0 b0))
  have lk0 : xh < b0.heap.size := by omega
  go_wp2_with fail
  go_at_call 62; refine (HLK108.out _).mono ?_; rintro e c0 ⟨rfl, hc0⟩; ((obtain ⟨hcc0, hfc0⟩ := below_rules hc0; have hsc0 := Below.size hc0; try simp only [size_alloc, size_setCell, size_drew, size_drewN] at hsc0 hcc0 hfc0); (try have := qN0 w c0); (try have := qN0 v0 c0); (try have := qN0 a0 c0); (try have := qN0 b0 c0))
  have lm0 : xh < c0.heap.size := by omega
  go_wp2_with (at_builtin; refine halt ?_)
  refine unhalt ?_
  have hbq0 : Below v0.heap.size v0 (c0.alloc (.cells #[.int .i64 108, .int .u64 256, .int .u64 0, .int .u64 0, .int .u64 0, .int .u64 0, .int .u64 0, .int .u64 0, .int .u64 0] 75)) := qL
  have lw0 : w.heap.size ≤ c0.heap.size := by omega
  refine wpList_append_mine rfl (.tmp 183) (.tmp 185) 42 rfl w.heap.size 75 i1 _ 9 72 Tryz.underlying42 hi1 hy0 hy1 hy2 rfl (by decide) (.slice none 0 0) 0 (pageCells []) rfl
    (World.ownsRow_nil _ _ _ _) ⟨c0.heap.size, 0, none⟩ 1 1 (#[.int .i64 108, .int .u64 256, .int .u64 0, .int .u64 0, .int .u64 0, .int .u64 0, .int .u64 0, .int .u64 0, .int .u64 0] : Array Value).toList rfl rfl (nine_news (cs := #[.int .i64 108, .int .u64 256, .int .u64 0, .int .u64 0, .int .u64 0, .int .u64 0, .int .u64 0, .int .u64 0, .int .u64 0]) (Blk.made c0 _ _))
    (by intro u hu; simp at hu; rcases hu with rfl | rfl | rfl <;> rfl) (by omega) (by unfold maxLen; omega) (by omega) (by simp; omega) ?_
  intro gf0 cf0 d0 hownd0 hgd0
  have hownd0 : d0.ownsRow w.heap.size 75 9 (.slice (some ⟨gf0, 0, none⟩) 1 cf0) 1 (pageCells [freeP 108]) := hownd0
  have E0 := hid (And.intro ((V0.out.1.kept hbq0).grown hgd0 (fun e => by cases e)) (And.intro ((V0.out.2.1.kept hbq0).grown hgd0 (fun e => by cases e)) (And.intro ((V0.out.2.2.1.kept hbq0).grown hgd0 (fun e => by cases e)) (And.intro ((ownsMap_below V0.out.2.2.2.1 hbq0 V0.out.2.2.2.1.lt).kept hgd0 (fun e => by cases e)) (And.intro ((ownsMap_below V0.out.2.2.2.2.1 hbq0 V0.out.2.2.2.2.1.lt).kept hgd0 (fun e => by cases e)) (And.intro (below_grown (w := w) (by have h := V0.out.2.2.2.2.2; exact qL) hgd0 (fun k hk => by cases hk)) hownd0))))))
  clear V0 ha0 hca0 hfa0 hsa0 hb0 hcb0 hfb0 hsb0 hc0 hcc0 hfc0 hsc0 kr lr kh fh lh lh0 lk0 lm0 hbq0 hownd0 hgd0 lw0
  have kr := E0.out.1.cell
  have lr := E0.out.1.lt
  have kh := E0.out.2.2.1.cell
  have fh := E0.out.2.2.1.free
  have lh := E0.out.2.2.1.lt
  have ad : bits BinOp.or IntKind.u32 14 16 = 30 := by kernel_rfl
  have om0 : (d0.setCell ⟨xh, 1, none⟩ (.int .u32 30)).ownsMap Tryz.prog 3 heldR (x10 + 1) 0 (.map []) := E0.out.2.2.2.2.1.kept ((Over.refl xh d0).put 1 _) (fun e => map_ne E0.out.2.2.2.2.1 E0.out.2.2.1 (by cases e; rfl))
  have OM0 := hid om0
  clear om0
  go_wp2_with (at_mapUpdate; refine halt ?_)
  refine unhalt ?_
  refine wpList_mapUpdate_own _ rfl _ _ _ 343 rfl 3 344 law_int Tryz.underlying343 heldR (x10 + 1) 0 _ rfl OM0.out (by unfold maxLen; omega) _ _ _ rfl rfl HK0.out _ [] rfl ?_
  intro f0 howf0 hgf0
  clear ad kr lr kh fh lh
  go_wp2_with fail
  refine wp_name (fun W => Blk W w.heap.size 284 #[.int .i64 0, .int .i64 256, .int .i64 1] ∧ Blk W x10 3 #[.int .i64 0] ∧ Blk W xh 344 #[.int .i64 0, .int .u32 30] ∧ W.ownsMap Tryz.prog 3 heldR m1 1 (DataW.put (.map []) (.int .i64 0) (.held (.agg #[.int .i64 104, .int .u64 512, .int .u64 1, .int .u64 14, .int .u64 0, .int .u64 0, .int .u64 0, .int .u64 0, .int .u64 0]))) ∧ W.ownsMap Tryz.prog 3 heldR (x10 + 1) 1 (DataW.put (.map []) (.int .i64 0) (.held (.agg #[.int .i64 0, .int .u32 30]))) ∧ Below w.heap.size w W ∧ W.ownsRow w.heap.size 75 9 (.slice (some ⟨gf0, 0, none⟩) 1 cf0) 1 (pageCells [freeP 108])) ⟨?_, ?_, ?_, ?_, ?_, ?_, ?_⟩ (fun v1 V1 => ?_)
  · exact ((E0.out.1.aside (p := ⟨xh, 1, none⟩) (by show w.heap.size ≠ xh; omega) _).grown hgf0 (by have := map_ne E0.out.2.2.2.2.1 E0.out.1; simpa using this))
  · exact ((E0.out.2.1.aside (p := ⟨xh, 1, none⟩) (blk_ne E0.out.2.1 E0.out.2.2.1 (by decide)) _).grown hgf0 (by have := map_ne E0.out.2.2.2.2.1 E0.out.2.1; simpa using this))
  · exact Blk.cast ((E0.out.2.2.1.put 1 _).grown hgf0 (by have := map_ne E0.out.2.2.2.2.1 E0.out.2.2.1; simpa using this)) rfl
  · exact (E0.out.2.2.2.1.kept ((Over.refl xh d0).put 1 _) (fun e => map_ne E0.out.2.2.2.1 E0.out.2.2.1 (by cases e; rfl))).kept hgf0 (by simp; omega)
  · exact howf0
  · exact below_grown ((E0.out.2.2.2.2.2.1).setCell (by show w.heap.size ≤ xh; omega) _) hgf0 (fun k hk => by cases hk; omega)
  · exact (E0.out.2.2.2.2.2.2.kept ((Over.refl xh d0).put 1 _) (.inr (fun e => blk_ne_row E0.out.2.2.1 E0.out.2.2.2.2.2.2 (by decide) e))).kept hgf0 (.inr (map_ne_row OM0.out (E0.out.2.2.2.2.2.2.kept ((Over.refl xh d0).put 1 _) (.inr (fun e => blk_ne_row E0.out.2.2.1 E0.out.2.2.2.2.2.2 (by decide) e)))))
  clear E0 OM0 hgf0 howf0
  have kr := V1.out.1.cell
  have lr := V1.out.1.lt
  have kh := V1.out.2.2.1.cell
  have fh := V1.out.2.2.1.free
  have lh := V1.out.2.2.1.lt
  go_wp2_with fail
  rw [rounds_succ]
  go_wp2_with fail
  clear kh fh
  have ks0 := V1.out.2.1.cell 0
  have ls := V1.out.2.1.lt
  have run5 := look_ok_one HD0.out V1.out.2.2.2.2.1 Tryz.underlying343 (show (zeroValue 344).run Tryz.prog v1 = .ok (.agg #[.int .i64 0, .int .u32 0]) v1 from by kernel_rfl)
  have run6 := look_one Maps.isMap_empty (V1.out.2.2.2.1.alloc (.cells #[.int .i64 0, .int .u32 30] 344)) Tryz.underlying327 (show (zeroValue 75).run Tryz.prog (v1.alloc (.cells #[.int .i64 0, .int .u32 30] 344)) = .ok (.agg #[.int .i64 0, .int .u64 0, .int .u64 0, .int .u64 0, .int .u64 0, .int .u64 0, .int .u64 0, .int .u64 0, .int .u64 0]) (v1.alloc (.cells #[.int .i64 0, .int .u32 30] 344)) from by kernel_rfl)
  refine wp_loop_rounds 2 ?_
  rw [rounds_succ]
  go_wp2_with fail
  go_at_call 219; refine (HWH.out _).mono ?_; rintro e y0 ⟨rfl, hy⟩; ((obtain ⟨hcy0, hfy0⟩ := below_rules hy; have hsy0 := Below.size hy; try simp only [size_alloc, size_setCell, size_drew, size_drewN] at hsy0 hcy0 hfy0); (try have := qN0 w y0); (try have := qN0 v1 y0))
  have lx10 : x10 < y0.heap.size := by omega
  go_wp2_with (at_builtin; refine halt ?_)
  refine unhalt ?_
  have lwy : w.heap.size ≤ y0.heap.size := by omega
  have hbv : Below w.heap.size w v1 := V1.out.2.2.2.2.2.1
  have hby0 : Below w.heap.size w ((y0.alloc (.cells #[.int .i64 104, .int .u64 512, .int .u64 1, .int .u64 30, .int .u64 0, .int .u64 0, .int .u64 0, .int .u64 0, .int .u64 0] 75)).alloc (.cells #[.int .i64 104, .int .u64 512, .int .u64 1, .int .u64 30, .int .u64 0, .int .u64 0, .int .u64 0, .int .u64 0, .int .u64 0] 75)) := qL
  have hbyv : Below v1.heap.size v1 ((y0.alloc (.cells #[.int .i64 104, .int .u64 512, .int .u64 1, .int .u64 30, .int .u64 0, .int .u64 0, .int .u64 0, .int .u64 0, .int .u64 0] 75)).alloc (.cells #[.int .i64 104, .int .u64 512, .int .u64 1, .int .u64 30, .int .u64 0, .int .u64 0, .int .u64 0, .int .u64 0, .int .u64 0] 75)) := qL
  refine wpList_append_mine rfl (.tmp 247) (.tmp 249) 42 rfl w.heap.size 75 i1 _ 9 72 Tryz.underlying42 hi1 hy0 hy1 hy2 rfl (by decide) (.slice none 0 0) 0 [] rfl
    (World.ownsRow_nil _ _ _ _) ⟨y0.heap.size + 1, 0, none⟩ 1 1 (#[.int .i64 104, .int .u64 512, .int .u64 1, .int .u64 30, .int .u64 0, .int .u64 0, .int .u64 0, .int .u64 0, .int .u64 0] : Array Value).toList rfl rfl (nine_news (cs := #[.int .i64 104, .int .u64 512, .int .u64 1, .int .u64 30, .int .u64 0, .int .u64 0, .int .u64 0, .int .u64 0, .int .u64 0]) (Blk.made' (by simp)))
    (by intro u hu; simp at hu; rcases hu with rfl | rfl | rfl | rfl | rfl <;> rfl) (by omega) (by unfold maxLen; omega) (by omega) (by simp; omega) ?_
  intro gw cw z0 hownz hgz
  have hownz : z0.ownsRow w.heap.size 75 9 (.slice (some ⟨gw, 0, none⟩) 1 cw) 1 (pageCells [hdrPage 512 30]) := hownz
  have hownf := (own_below V1.out.2.2.2.2.2.2 hbyv).kept hgz (.inr (by simp [Value.ownBlock]))
  have hbz : Below w.heap.size w z0 := below_grown (w := w) hby0 hgz (fun k hk => by cases hk)
  have hx10z : x10 < z0.heap.size := by have := hgz.size; simp at this; omega
  have Z := hid (And.intro hownf (And.intro hownz hbz))
  clear hownz hownf hbz hgz hby0 hbyv hbv run5 run6 hy hcy0 hfy0 hsy0
  go_wp2_with fail
  rw [rounds_succ]
  go_wp2_with fail
  refine bodyPost_ret (results_t5 rfl _ _) rfl ⟨.slice (some ⟨gf0, 0, none⟩) 1 cf0, .slice (some ⟨gw, 0, none⟩) 1 cw, rfl, Z.out.1, Z.out.2.1, Z.out.2.2⟩
end Go.Proofs.YtcoiehgcfjfhaaaGreatDoor
