/- executor.run.create. -/
import Derived.Test.YtcoiehgcfjfhaaaGreatDoorQ31
import Derived.Test.YtcoiehgcfjfhaaaGreatDoorQ28
import Derived.Test.YtcoiehgcfjfhaaaGreatDoorQ20
import Derived.Test.YtcoiehgcfjfhaaaGreatDoorQ11
import Derived.Test.YtcoiehgcfjfhaaaGreatDoorQ15
set_option linter.all false
set_option maxRecDepth 20000
set_option maxHeartbeats 8000000
open Go.Lib (hid)
namespace Go.Proofs.YtcoiehgcfjfhaaaGreatDoor
open Go.RowKit
def cW1 (W : List Bt.Page) := Rf.merge W [hdrPage 512 2]
def cW2 (W : List Bt.Page) := Rf.merge (cW1 W) [recPage]
def cW3 (W : List Bt.Page) := Rf.merge (cW2 W) [hdrPage 512 14]
def cW4 (W : List Bt.Page) := Rf.merge (cW3 W) [rootPage2, bktPage, dirPage]
def cW5 (W : List Bt.Page) := Rf.merge (cW4 W) [hdrPage 512 30]
def cW6 (W : List Bt.Page) := Rf.merge (cW5 W) [rootPage3, leafPage]
structure CreateOk (K W : List Bt.Page) : Prop where
  hK : POk K
  hW : POk W
  s0 : SegAt (Rf.merge K W) 0
  f5 : Bt.latest (Rf.merge K W) 105 = some (freeP 105)
  h1 : POk (cW1 W)
  hr : POk [recPage]
  h2 : POk (cW2 W)
  z2 : Bt.latest (Rf.merge K (cW2 W)) 96 = some zRootP
  s2 : SegAt (Rf.merge K (cW2 W)) 2
  f6 : Bt.latest (Rf.merge K (cW2 W)) 106 = some (freeP 106)
  f7 : Bt.latest (Rf.merge K (cW2 W)) 107 = some (freeP 107)
  h3 : POk (cW3 W)
  z3 : Bt.latest (Rf.merge K (cW3 W)) 96 = some zRootP
  hp : POk [rootPage2, bktPage, dirPage]
  h4 : POk (cW4 W)
  z4 : Bt.latest (Rf.merge K (cW4 W)) 96 = some rootPage2
  s4 : SegAt (Rf.merge K (cW4 W)) 14
  f8 : Bt.latest (Rf.merge K (cW4 W)) 108 = some (freeP 108)
  h5 : POk (cW5 W)
  z5 : Bt.latest (Rf.merge K (cW5 W)) 96 = some rootPage2
  hq : POk [rootPage3, leafPage]
def ver0 : Array Value := #[.int .u32 5, .int .i64 1, .int .i64 2, .int .i64 3, .bool false, .int .u32 0, .int .u64 0, .int .i64 0, .int .i64 0]
theorem rec_ok : recPage.Ok := ⟨by decide, by decide, by decide, by decide, by decide, by decide, by decide, by decide⟩
theorem one_row {w : World} {f cf : Nat} {p : Bt.Page} (h : PgRow w (.slice (some ⟨f, 0, none⟩) 1 cf) [p]) : (∀ j u, p.cells[j]? = some u → w.cell? ⟨f, j, none⟩ = some u) ∧ f < w.heap.size := by
  rcases h.form with ⟨h1, _⟩ | ⟨b, cap, hv, hlt, hc⟩
  · cases h1
  · simp at hv
    obtain ⟨rfl, _⟩ := hv
    refine ⟨fun j u hu => ?_, hlt⟩
    have := hc 0 p rfl j u hu
    simpa using this
theorem exCreate (r m : Nat) (vp va vk vw : Value) (K W : List Bt.Page) (n : Nat) (D : DataW Value) (w : World) (h : ExAt r m vp va vk vw K W n D w) (hok : CreateOk K W) (hno : NoneAt w) (hnr : 1 ≠ r) (hnm : 1 ≠ m) :
    Calls Tryz.prog 73 #[.pointer (some ⟨r, 0, none⟩), .agg ver0] w fun e w' => e = .returned (.bool true) ∧ (∃ vw', ExAt r m vp va vk vw' K (cW6 W) n D w') ∧ ExFr r m w w' := by
  have HA := hid (fun W' (hx : ExAt r m vp va vk vw K W n D W') => exAllocate r m vp va vk vw K W n D 1 [freeP 105] 2 (by omega) (by simp) W' hx hok.hK hok.hW (fun v W2 hp => segAlloc_1 _ hok.s0 hok.f5 v W2 hp))
  have HS := hid (fun vw2 W' (hx : ExAt r m vp va vk vw2 K (cW1 W) n D W') => exStamp r m vp va vk vw2 K (cW1 W) n D W' hx)
  have HPA := hid (fun W' => ptrAlloc 105 1 (by omega) (.inl rfl) W')
  have HRW := hid (fun W' => recWrite W')
  have HWR := hid (fun vw2 vq W' (hx : ExAt r m vp va vk vw2 K (cW1 W) n D W') hq => exWrite r m vp va vk vw2 K (cW1 W) [recPage] n D vq W' hx hok.h1 hok.hr hq)
  have HAT := hid (fun W' => At_any recPage rec_ok W')
  have HIH := hid (fun vw2 W' (hx : ExAt r m vp va vk vw2 K (cW2 W) n D W') => exInsertHash r m vp va vk vw2 K (cW2 W) n D W' hx hok.hK hok.h2 hok.z2 hok.s2 hok.f6 hok.f7 hok.h3 hok.z3 hok.hp)
  have HIT := hid (fun vw2 W' (hx : ExAt r m vp va vk vw2 K (cW4 W) n D W') (hn : NoneAt W') => exInsertTree r m vp va vk vw2 K (cW4 W) n D W' hx hok.hK hok.h4 hn hnr hnm hok.z4 hok.s4 hok.f8 hok.h5 hok.z5 hok.hq)
  have hkb : ∀ c a d, vk = .slice (some ⟨c, 0, none⟩) a d → c < w.heap.size := fun c a d hv => by
    rcases h.known.form with ⟨h1, _⟩ | ⟨c2, cap, h1, h2, _⟩
    · rw [h1] at hv; simp at hv
    · rw [h1] at hv; simp at hv; omega
  have HKB := hid (And.intro hkb h.hn.lt)
  have HNO := hid (And.intro hno (And.intro hnr hnm))
  clear hkb
  have HX := hid h
  have lr := h.blk.lt
  have lm := h.rel.lt
  clear h hok hno hnr hnm
  unfold ver0
  go_enter Tryz.func73, Tryz.ntmps73
  go_upto_region 1 with (fail)
  refine wp_name (fun W' => Blk W' w.heap.size 177 ver0 ∧ Below w.heap.size w W') ⟨Blk.made w _ _, qL⟩ (fun wx H1 => ?_)
  have lv := H1.out.1.lt
  go_wp2_with fail
  go_at_call 107; refine (HA.out _ (HX.out.below H1.out.2)).mono ?_; rintro e w2 ⟨vf, rfl, hof, ⟨vw2, hx2⟩, hf2⟩
  have hfp := pgrow_own hof (by intro p hp; simp only [List.mem_cons, List.not_mem_nil, or_false] at hp; subst hp; exact free_ok 105) (by simp [maxLen])
  rcases own_some hof with ⟨h0, _⟩ | ⟨f, cf, rfl⟩
  · cases h0
  have V2 := hf2.blk H1.out.1 (by omega) (by omega)
  have F2 := (ExFr.of_below (r := r) (m := m) H1.out.2).trans hf2
  have hff := blk_ne_row V2 hof (by decide)
  have H2 := hid (And.intro V2 (And.intro hx2 (And.intro F2 (And.intro hfp hff))))
  clear V2 hx2 F2 hfp hff hof hf2 lv H1
  have lv := H2.out.1.lt
  have fv := H2.out.1.free
  go_upto_region 4 with (fail)
  go_wp2_with fail
  go_at_call 104; refine (HS.out vw2 _ H2.out.2.1).mono ?_; rintro e w3 ⟨rfl, hb3⟩
  have V3 := H2.out.1.kept hb3
  have lv := V3.lt
  have fv := V3.free
  have kv := V3.cell
  unfold ver0 at kv
  have H3 := hid (And.intro V3 (And.intro (H2.out.2.1.below hb3) (And.intro (H2.out.2.2.1.trans (ExFr.of_below hb3)) (And.intro (H2.out.2.2.2.1.below hb3) H2.out.2.2.2.2))))
  clear V3 H2 hb3
  go_upto_region 5 with (fail)
  have hO : Over w.heap.size w3 (w3.setCell ⟨w.heap.size, 6, none⟩ (.int .u64 257)) := (Over.refl _ _).put 6 _
  refine wp_name (fun W' => Blk W' w.heap.size 177 verCells ∧ ExAt r m vp va vk vw2 K (cW1 W) n D W' ∧ PgRow W' (.slice (some ⟨f, 0, none⟩) 1 cf) [freeP 105] ∧ ExFr r m w W')
    ⟨Blk.cast (H3.out.1.put 6 _) (by kernel_rfl), H3.out.2.1.far_over hO (by omega) (by omega) H3.out.1 (fun c a d hv => by have := HKB.out.1 c a d hv; omega) (by have := HKB.out.2; omega), pgrow_frame H3.out.2.2.2.1 hO.size (fun b n c hv hlt => hO.block b hlt (by have h2 := H3.out.2.2.2.2; simp at hv; obtain ⟨rfl, _, _⟩ := hv; simpa [Value.ownBlock, eq_comm] using h2)), H3.out.2.2.1.trans2 hO (by omega)⟩ (fun w4 H4 => ?_)
  clear lv fv kv hO H3
  have kf := one_row H4.out.2.2.1
  have lf := kf.2
  have kf0 : w4.cell? ⟨f, 0, none⟩ = some (.int .i64 105) := kf.1 0 _ rfl
  have kf1 : w4.cell? ⟨f, 1, none⟩ = some (.int .u64 256) := kf.1 1 _ rfl
  have kf2 : w4.cell? ⟨f, 2, none⟩ = some (.int .u64 0) := kf.1 2 _ rfl
  have kf3 : w4.cell? ⟨f, 3, none⟩ = some (.int .u64 0) := kf.1 3 _ rfl
  have kf4 : w4.cell? ⟨f, 4, none⟩ = some (.int .u64 0) := kf.1 4 _ rfl
  have kf5 : w4.cell? ⟨f, 5, none⟩ = some (.int .u64 0) := kf.1 5 _ rfl
  have kf6 : w4.cell? ⟨f, 6, none⟩ = some (.int .u64 0) := kf.1 6 _ rfl
  have kf7 : w4.cell? ⟨f, 7, none⟩ = some (.int .u64 0) := kf.1 7 _ rfl
  have kf8 : w4.cell? ⟨f, 8, none⟩ = some (.int .u64 0) := kf.1 8 _ rfl
  clear kf
  go_wp2_with fail
  go_at_call 108; refine (HPA.out _).mono ?_; rintro e w5 ⟨rfl, hb5⟩
  have H5 := hid (And.intro (H4.out.1.kept hb5) (And.intro (H4.out.2.1.below hb5) (H4.out.2.2.2.trans (ExFr.of_below hb5))))
  have hl5 : w.heap.size < w5.heap.size := (H4.out.1.kept hb5).lt
  clear kf0 kf1 kf2 kf3 kf4 kf5 kf6 kf7 kf8 lf hb5 H4
  simp only [Bt.Page.cells]
  go_upto_region 7 with (fail)
  refine wp_name (fun W' => Blk W' w5.heap.size 75 recTag.cells ∧ Below w5.heap.size w5 W') ⟨Blk.made w5 _ _, below_alloc (Below.refl _ _) _⟩ (fun w6 H6 => ?_)
  have kp := H6.out.1.cell
  have lp := H6.out.1.lt
  have V6 := H5.out.1.kept H6.out.2
  have kv := V6.cell
  have lv := V6.lt
  clear V6
  simp only [Bt.Page.cells, recTag] at kp
  unfold verCells at kv
  go_wp2_with fail
  go_at_call 106; refine (HRW.out _).mono ?_; rintro e w7 ⟨rfl, hb7⟩
  have P7 := H6.out.1.kept hb7
  have B7 := H6.out.2.trans (hb7.mono H6.out.2.size)
  clear hb7 kp lp kv lv H6
  have fp := P7.free
  have lp := P7.lt
  have kp := P7.cell
  simp only [Bt.Page.cells, recTag] at kp
  simp only [Bt.Page.cells, recPage]
  go_upto_region 10 with (fail)
  have hll : w5.heap.size ≤ w5.heap.size := Nat.le_refl _
  have hB9 : Below w5.heap.size w5 (((((((((w7.setCell ⟨w5.heap.size, 0, none⟩ (.int .i64 105)).setCell ⟨w5.heap.size, 1, none⟩ (.int .u64 256)).setCell ⟨w5.heap.size, 2, none⟩ (.int .u64 257)).setCell ⟨w5.heap.size, 3, none⟩ (.int .u64 5)).setCell ⟨w5.heap.size, 4, none⟩ (.int .u64 1)).setCell ⟨w5.heap.size, 5, none⟩ (.int .u64 2)).setCell ⟨w5.heap.size, 6, none⟩ (.int .u64 3)).setCell ⟨w5.heap.size, 7, none⟩ (.int .u64 257)).setCell ⟨w5.heap.size, 8, none⟩ (.int .u64 0)) := (((((((((B7.setCell hll _).setCell hll _).setCell hll _).setCell hll _).setCell hll _).setCell hll _).setCell hll _).setCell hll _).setCell hll _)
  refine wp_name (fun W' => Blk W' w5.heap.size 75 recPage.cells ∧ Blk W' w.heap.size 177 verCells ∧ ExAt r m vp va vk vw2 K (cW1 W) n D W' ∧ ExFr r m w W') ⟨Blk.cast (((((((((P7.put 0 _).put 1 _).put 2 _).put 3 _).put 4 _).put 5 _).put 6 _).put 7 _).put 8 _) (by kernel_rfl), H5.out.1.kept hB9, H5.out.2.1.below hB9, H5.out.2.2.trans (ExFr.of_below hB9)⟩ (fun w8 H8 => ?_)
  clear fp lp kp B7 P7 hll hB9 H5
  have kp := H8.out.1.cell
  have lp := H8.out.1.lt
  simp only [Bt.Page.cells, recPage] at kp
  go_wp2_with fail
  have hbl : Below w8.heap.size w8 (w8.alloc (.cells #[.int .i64 105, .int .u64 256, .int .u64 257, .int .u64 5, .int .u64 1, .int .u64 2, .int .u64 3, .int .u64 257, .int .u64 0] 75)) := below_alloc (Below.refl _ _) _
  go_at_call 95; refine (HWR.out vw2 _ _ (H8.out.2.2.1.below hbl) (pgrow_own (own_pages1 w8 0 recPage (Nat.zero_le _)) (by intro p hp; simp only [List.mem_cons, List.not_mem_nil, or_false] at hp; subst hp; exact rec_ok) (by simp [maxLen]))).mono ?_; rintro e w9 ⟨rfl, ⟨vw9, hx9⟩, hf9⟩
  have P9 := hf9.blk (H8.out.1.kept hbl) (by omega) (by omega)
  have V9 := hf9.blk (H8.out.2.1.kept hbl) (by omega) (by omega)
  have F9 := (H8.out.2.2.2.trans (ExFr.of_below hbl)).trans hf9
  have H9 := hid (And.intro P9 (And.intro V9 (And.intro hx9 F9)))
  clear kp lp hbl hx9 hf9 P9 V9 F9 H8
  have kp := H9.out.1.cell
  have lp := H9.out.1.lt
  have kv := H9.out.2.1.cell
  have lv := H9.out.2.1.lt
  simp only [Bt.Page.cells, recPage] at kp
  unfold verCells at kv
  have hat : (Bt.at_ recPage).cells = #[.int .i64 105, .int .i64 1] := by kernel_rfl
  have qr : r < w5.heap.size := by omega
  have qm : m < w5.heap.size := by omega
  go_upto_region 11 with (fail)
  refine wp_region_held_drew (S := SteadyTwo r m _) (by kernel_rfl) (SteadyTwo.of (Below.refl _ _).drew) ?_
  intro hSt
  refine qS [0, 1, 2, 3, 4] ?_
  iterate 5 (refine qT ?_; simp only [Act.put, qY])
  refine TakeSeq.done ?_
  refine qH 5 fun K hK => ?_
  go_simp
  go_at_call 110; refine (HAT.out _).mono ?_; rintro e wa ⟨rfl, hba⟩; rw [hat]
  go_wp2_with fail
  refine hK.out _ _ (SteadyTwo.of qL) (fun hHeld => ?_)
  clear hK K
  have BA : Below w9.heap.size w9 wa := (Below.refl _ _).drew.trans hba
  refine qH 6 fun K hK => ?_
  go_simp
  go_at_call 112; refine (HIH.out vw9 _ (H9.out.2.2.1.below BA)).mono ?_; rintro e wb ⟨rfl, ⟨vwb, hxb⟩, hfb⟩
  go_wp2_with fail
  refine hK.out _ _ (((ExFr.of_below BA).trans hfb).steady) (fun hHeld => ?_)
  clear hK K
  have PB := hfb.blk (H9.out.1.kept BA) (by omega) (by omega)
  have VB := hfb.blk (H9.out.2.1.kept BA) (by omega) (by omega)
  have FB := (H9.out.2.2.2.trans (ExFr.of_below BA)).trans hfb
  have SB := (ExFr.of_below (r := r) (m := m) BA).trans hfb
  have HB := hid (And.intro PB (And.intro VB (And.intro hxb (And.intro FB SB))))
  clear PB VB FB SB hxb hfb hba BA
  refine qS [7, 8] ?_
  iterate 2 (refine qT ?_; simp only [Act.put, qY])
  refine TakeSeq.done ?_
  refine qS [9, 10, 11, 12, 13] ?_
  iterate 5 (refine qT ?_; simp only [Act.put, qY])
  refine TakeSeq.done ?_
  refine qH 14 fun K hK => ?_
  go_simp
  go_at_call 110; refine (HAT.out _).mono ?_; rintro e wc ⟨rfl, hbc⟩; rw [hat]
  go_wp2_with fail
  refine hK.out _ _ ((HB.out.2.2.2.2.trans (ExFr.of_below hbc)).steady) (fun hHeld => ?_)
  clear hK K
  have hnc : NoneAt wc := (HNO.out.1.frame HB.out.2.2.2.1 HNO.out.2.1 HNO.out.2.2).below hbc
  refine qH 15 fun K hK => ?_
  go_simp
  go_at_call 113; refine (HIT.out vwb _ (HB.out.2.2.1.below hbc) hnc).mono ?_; rintro e wd ⟨rfl, ⟨vwd, hxd⟩, hfd⟩
  go_wp2_with fail
  refine hK.out _ _ (((HB.out.2.2.2.2.trans (ExFr.of_below hbc)).trans hfd).steady) (fun hHeld => ?_)
  clear hK K
  have HD := hid (And.intro hxd ((HB.out.2.2.2.1.trans (ExFr.of_below hbc)).trans hfd))
  clear hnc hbc hxd hfd HB
  refine qS [16, 17] ?_
  iterate 2 (refine qT ?_; simp only [Act.put, qY])
  refine TakeSeq.done ?_
  refine qD ?_ _
  go_wp2_with fail
  refine bodyPost_ret (results_tmp rfl _ _ _) rfl ⟨rfl, ⟨vwd, HD.out.1⟩, HD.out.2⟩
theorem exHashFind (r m : Nat) (vp va vk vw : Value) (K W : List Bt.Page)  (P : List Bt.Page) (key tl tg : Int) (pf : Option Addr) (nf cf : Nat) (w : World) (h : ExAt r m vp va vk vw K W 0 (.map []) w) (hK : POk K) (hW : POk W) (hP : POk P)
    (HN : ∀ v W', Below w.heap.size w W' → PgRow W' v (Rf.merge K W) → Calls Tryz.prog 156 #[.agg #[.int .i64 1, .int .u32 key, .int .i64 tl, .int .i64 tg, .slice pf nf cf], v] W' (HiPost P 0 false true 0 W')) :
    Calls Tryz.prog 103 #[.pointer (some ⟨r, 0, none⟩), .agg #[.int .i64 1, .int .u32 key, .int .i64 tl, .int .i64 tg, .slice pf nf cf], .int .i64 0] w fun e w' => ∃ pc nc cc, e = .returned (.tuple #[.agg (hoCells 0 false (.slice pc nc cc) 0), .bool true]) ∧ (∃ vw', ExAt r m vp va vk vw' K (Rf.merge W P) 1 relD w') ∧ ExFr r m w w' := by
  have HV := hid (fun W' (hb : Below w.heap.size w W') => exView r m vp va vk vw K W 0 (.map []) W' (h.below hb) hK hW)
  have HNN := hid HN
  unfold HiPost hoCells at HNN
  have HWR := hid (fun vq W' hx hq => exWrite r m vp va vk vw K W P 0 (.map []) vq W' hx hW hP hq)
  have HPO := hid hP
  have HX := hid h
  have hkb : ∀ c a d, vk = .slice (some ⟨c, 0, none⟩) a d → c < w.heap.size := fun c a d hv => by
    rcases h.known.form with ⟨h1, _⟩ | ⟨c2, cap, h1, h2, _⟩
    · rw [h1] at hv; simp at hv
    · rw [h1] at hv; simp at hv; omega
  have hnb := h.hn.lt
  have HKB := hid hkb
  have lr := h.blk.lt
  have lm := h.rel.lt
  clear h hK hW hP HN hkb
  go_enter Tryz.func103, Tryz.ntmps103
  go_upto_region 1 with (fail)
  have hbW : Below w.heap.size w ((w.alloc (.cells #[.int .i64 1, .int .u32 key, .int .i64 tl, .int .i64 tg, .slice pf nf cf] 228)).alloc (.cells #[.int .i64 0, .bool false, .bool false, .bool false, .bool false, .bool false, .int .i64 0, .int .i64 0, .slice none 0 0, .int .i64 0, .int .i64 0] 224)) := qL
  have KO : Blk ((w.alloc (.cells #[.int .i64 1, .int .u32 key, .int .i64 tl, .int .i64 tg, .slice pf nf cf] 228)).alloc (.cells #[.int .i64 0, .bool false, .bool false, .bool false, .bool false, .bool false, .int .i64 0, .int .i64 0, .slice none 0 0, .int .i64 0, .int .i64 0] 224)) w.heap.size 228 #[.int .i64 1, .int .u32 key, .int .i64 tl, .int .i64 tg, .slice pf nf cf] := (Blk.made w _ _).alloc _
  have KZ : Blk ((w.alloc (.cells #[.int .i64 1, .int .u32 key, .int .i64 tl, .int .i64 tg, .slice pf nf cf] 228)).alloc (.cells #[.int .i64 0, .bool false, .bool false, .bool false, .bool false, .bool false, .int .i64 0, .int .i64 0, .slice none 0 0, .int .i64 0, .int .i64 0] 224)) (w.heap.size + 1) 224 #[.int .i64 0, .bool false, .bool false, .bool false, .bool false, .bool false, .int .i64 0, .int .i64 0, .slice none 0 0, .int .i64 0, .int .i64 0] := Blk.made' (by simp)
  obtain ⟨w0, hw0⟩ : ∃ w0, ((w.alloc (.cells #[.int .i64 1, .int .u32 key, .int .i64 tl, .int .i64 tg, .slice pf nf cf] 228)).alloc (.cells #[.int .i64 0, .bool false, .bool false, .bool false, .bool false, .bool false, .int .i64 0, .int .i64 0, .slice none 0 0, .int .i64 0, .int .i64 0] 224)) = w0 := ⟨_, rfl⟩
  rw [hw0] at hbW KO KZ ⊢
  have HB := hid (And.intro KO (And.intro KZ hbW))
  have ko := KO.cell
  have lo := KZ.lt
  have lo0 := KO.lt
  clear hw0 KO KZ hbW
  go_cut [8, 9, 10, 11] from 12 to 20 (HashCut r m vp va vk vw K W 0 (.map []) P 0 false true 0 #[.int .i64 1, .int .u32 key, .int .i64 tl, .int .i64 tg, .slice pf nf cf] w)
  case first =>
    refine qA fun hSt => ?_
    refine qS [0, 1] ?_
    iterate 2 (refine qT ?_; simp only [Act.put, qY])
    refine TakeSeq.done ?_
    refine wpAnyH_ready (rs := [2, 9]) (by kernel_rfl) (by simp) ?_
    refine AllReadyH.cons rfl (fun K hK => ?_) (AllReadyH.cons rfl (fun K hK => ?_) (AllReadyH.nil))
    · skip
      rw [if_pos (by rfl)]
      go_simp
      go_at_call 94; refine (HV.out _ (HB.out.2.2.trans ((Below.refl _ _).drew))).mono ?_; rintro e w1 ⟨v1, rfl, hp1, hb1⟩
      go_wp2_with fail
      refine hK.out _ _ (SteadyAll.of qL) (fun hHeld => ?_)
      clear hK K
      have HW1 : Hid (Below w.heap.size w w1) := hid (by have h := HB.out.2.2; exact qL)
      refine wpAnyH_ready (rs := [3, 9]) (by kernel_rfl) (by simp) ?_
      refine AllReadyH.cons rfl (fun K hK => ?_) (AllReadyH.cons rfl (fun K hK => ?_) (AllReadyH.nil))
      · skip
        rw [if_pos (by rfl)]
        go_simp
        go_at_call 156; refine (HNN.out _ _ HW1.out hp1).mono ?_; rintro e w2 ⟨pw, cw, pc, nc, cc, rfl, hq2, hc2, hb2⟩
        go_wp2_with fail
        refine hK.out _ _ (SteadyAll.of qL) (fun hHeld => ?_)
        clear hK K
        have HW2 : Hid (Below w.heap.size w w2) := hid (below_step HW1.out hb2)
        have HX2 : Hid (Below w0.heap.size w0 w2) := hid (((Below.refl _ _).drew.trans hb1).trans (hb2.mono hb1.size))
        have hlt : w.heap.size + 1 < w2.heap.size := Nat.lt_of_lt_of_le lo HX2.out.size
        refine qS [4, 5, 6, 7, 8] ?_
        iterate 5 (refine qT ?_; simp only [Act.put, qY])
        refine TakeSeq.done ?_
        refine qH 9 fun K hK => ?_
        go_simp
        refine hK.out _ _ (SteadyAll.of qL) (fun hHeld => ?_)
        clear hK K
        refine qS [10, 11] ?_
        iterate 2 (refine qT ?_; simp only [Act.put, qY])
        refine TakeSeq.done ?_
        refine qH 12 fun K hK => ?_
        go_simp
        refine hK.out _ _ (SteadyAll.of qL) (fun hHeld => ?_)
        clear hK K
        refine qS [13] ?_
        refine qT ?_; simp only [Act.put, qY]
        refine TakeSeq.done ?_
        refine qD ?_ _
        go_wp2_with fail
        go_meet
        have hbz : Below w2.heap.size w2 (w2.alloc (.cells #[.int .i64 0, .bool false, .bool false, .bool false, .bool false, .bool false, .int .i64 0, .int .i64 0, .slice pc nc cc, .int .i64 0, .int .i64 0] 224)) := below_alloc (Below.refl _ _) _
        have hbz2 : Below w.heap.size w (w2.alloc (.cells #[.int .i64 0, .bool false, .bool false, .bool false, .bool false, .bool false, .int .i64 0, .int .i64 0, .slice pc nc cc, .int .i64 0, .int .i64 0] 224)) := below_step HW2.out hbz
        exact ⟨pw, cw, pc, nc, cc, w2.heap.size, rfl, rfl, rfl, rfl, hlt, hid ⟨Blk.made w2 _ _, own_lower (own_below hq2 hbz) (Nat.zero_le _), hc2.below hbz, HX.out.below hbz2, (HB.out.2.1.kept HX2.out).kept hbz, hbz2⟩⟩
      · skip
        rw [if_pos (by rfl)]
        go_simp
        refine hK.out _ _ (SteadyAll.of qL) (fun hHeld => ?_)
        clear hK K
        have hbA : Below w1.heap.size w1 (w1.alloc (.cells #[.int .i64 0, .bool false, .bool false, .bool false, .bool false, .bool false, .int .i64 0, .int .i64 0, .slice none 0 0, .int .i64 0, .int .i64 0] 224)) := below_alloc (Below.refl _ _) _
        refine qH 3 fun K hK => ?_
        go_simp
        go_at_call 156; refine (HNN.out _ _ (below_step HW1.out hbA) (hp1.below hbA)).mono ?_; rintro e w2 ⟨pw, cw, pc, nc, cc, rfl, hq2, hc2, hb2⟩
        go_wp2_with fail
        refine hK.out _ _ (SteadyAll.of qL) (fun hHeld => ?_)
        clear hK K
        have BZ := (Blk.made w1 224 #[.int .i64 0, .bool false, .bool false, .bool false, .bool false, .bool false, .int .i64 0, .int .i64 0, .slice none 0 0, .int .i64 0, .int .i64 0]).kept hb2
        have HW2 : Hid (Below w.heap.size w w2) := hid (below_step (below_step HW1.out hbA) hb2)
        have HX2 : Hid (Below w0.heap.size w0 w2) := hid ((((Below.refl _ _).drew.trans hb1).trans (hbA.mono hb1.size)).trans (hb2.mono (Nat.le_trans hb1.size hbA.size)))
        have hlt : w.heap.size + 1 < w1.heap.size := Nat.lt_of_lt_of_le lo hb1.size
        have kz := BZ.cell
        have fz := BZ.free
        have lz := BZ.lt
        have hs01 : w0.heap.size ≤ w1.heap.size := hb1.size
        refine qS [4, 5, 6, 7, 8] ?_
        iterate 5 (refine qT ?_; simp only [Act.put, qY])
        refine TakeSeq.done ?_
        refine qS [10, 11] ?_
        iterate 2 (refine qT ?_; simp only [Act.put, qY])
        refine TakeSeq.done ?_
        refine qH 12 fun K hK => ?_
        go_simp
        refine hK.out _ _ (SteadyAll.of qL) (fun hHeld => ?_)
        clear hK K
        refine qS [13] ?_
        refine qT ?_; simp only [Act.put, qY]
        refine TakeSeq.done ?_
        refine qD ?_ _
        go_wp2_with fail
        go_meet
        have hge : ∀ b, (Value.slice pw P.length cw).ownBlock = some b → w1.heap.size < b := fun b hb => by have := own_row_ge hq2 b hb; (try simp at this); omega
        have hX1 : w.heap.size ≤ w1.heap.size := by omega
        have hw2 := HW2.out
        have hOv : Over w1.heap.size w2 ((((((((((((w2.setCell ⟨w1.heap.size, 0, none⟩ (.int .i64 0)).setCell ⟨w1.heap.size, 1, none⟩ (.bool false)).setCell ⟨w1.heap.size, 2, none⟩ (.bool false)).setCell ⟨w1.heap.size, 3, none⟩ (.bool false)).setCell ⟨w1.heap.size, 4, none⟩ (.bool false)).setCell ⟨w1.heap.size, 5, none⟩ (.bool false)).setCell ⟨w1.heap.size, 6, none⟩ (.int .i64 0)).setCell ⟨w1.heap.size, 7, none⟩ (.int .i64 0)).setCell ⟨w1.heap.size, 8, none⟩ (.slice pc nc cc)).setCell ⟨w1.heap.size, 9, none⟩ (.int .i64 0)).setCell ⟨w1.heap.size, 10, none⟩ (.int .i64 0))) := qV
        refine ⟨pw, cw, pc, nc, cc, w1.heap.size, rfl, rfl, rfl, rfl, hlt, hid ⟨Blk.cast (((((((((((BZ.put 0 _).put 1 _).put 2 _).put 3 _).put 4 _).put 5 _).put 6 _).put 7 _).put 8 _).put 9 _).put 10 _) (by kernel_rfl), (own_lower hq2 (Nat.zero_le _)).kept hOv (.inr (fun e => by have := hge _ e; omega)), ?_, HX.out.below (((((((((((hw2.setCell hX1 _).setCell hX1 _).setCell hX1 _).setCell hX1 _).setCell hX1 _).setCell hX1 _).setCell hX1 _).setCell hX1 _).setCell hX1 _).setCell hX1 _).setCell hX1 _), blk_over (HB.out.2.1.kept HX2.out) hOv (by omega), (((((((((((hw2.setCell hX1 _).setCell hX1 _).setCell hX1 _).setCell hX1 _).setCell hX1 _).setCell hX1 _).setCell hX1 _).setCell hX1 _).setCell hX1 _).setCell hX1 _).setCell hX1 _)⟩⟩
        rcases hc2 with hc2 | ⟨h1, g, h2, h3⟩
        · exact .inl hc2
        · exact .inr ⟨h1, g, h2, blk_over h3 hOv (blk_ne h3 BZ (by decide))⟩
    · skip
      rw [if_pos (by rfl)]
      go_simp
      refine hK.out _ _ (SteadyAll.of qL) (fun hHeld => ?_)
      clear hK K
      have hbA : Below w0.heap.size w0 (w0.alloc (.cells #[.int .i64 0, .bool false, .bool false, .bool false, .bool false, .bool false, .int .i64 0, .int .i64 0, .slice none 0 0, .int .i64 0, .int .i64 0] 224)).drew := (below_alloc (Below.refl _ _) _).drew
      refine qH 2 fun K hK => ?_
      go_simp
      go_at_call 94; refine (HV.out _ (HB.out.2.2.trans (hbA.mono HB.out.2.2.size))).mono ?_; rintro e w1 ⟨v1, rfl, hp1, hb1⟩
      go_wp2_with fail
      refine hK.out _ _ (SteadyAll.of qL) (fun hHeld => ?_)
      clear hK K
      have BZ1 := (Blk.made w0 224 #[.int .i64 0, .bool false, .bool false, .bool false, .bool false, .bool false, .int .i64 0, .int .i64 0, .slice none 0 0, .int .i64 0, .int .i64 0]).drew.kept hb1
      have HX1 : Hid (Below w0.heap.size w0 w1) := hid (hbA.trans (hb1.mono hbA.size))
      have HW1 : Hid (Below w.heap.size w w1) := hid (HB.out.2.2.trans (HX1.out.mono HB.out.2.2.size))
      refine qH 3 fun K hK => ?_
      go_simp
      go_at_call 156; refine (HNN.out _ _ HW1.out hp1).mono ?_; rintro e w2 ⟨pw, cw, pc, nc, cc, rfl, hq2, hc2, hb2⟩
      go_wp2_with fail
      refine hK.out _ _ (SteadyAll.of (HX1.out.trans (hb2.mono HX1.out.size))) (fun hHeld => ?_)
      clear hK K
      have BZ := BZ1.kept hb2
      have HW2 : Hid (Below w.heap.size w w2) := hid (below_step HW1.out hb2)
      have HX2 : Hid (Below w0.heap.size w0 w2) := hid (HX1.out.trans (hb2.mono HX1.out.size))
      have hlt : w.heap.size + 1 < w0.heap.size := lo
      have lx1 := BZ1.lt
      have kz := BZ.cell
      have fz := BZ.free
      have lz := BZ.lt
      have hs02 := HX2.out
      refine qS [4, 5, 6, 7, 8] ?_
      iterate 5 (refine qT ?_; simp only [Act.put, qY])
      refine TakeSeq.done ?_
      refine qS [10, 11] ?_
      iterate 2 (refine qT ?_; simp only [Act.put, qY])
      refine TakeSeq.done ?_
      refine qH 12 fun K hK => ?_
      go_simp
      refine hK.out _ _ (SteadyAll.of qL) (fun hHeld => ?_)
      clear hK K
      refine qS [13] ?_
      refine qT ?_; simp only [Act.put, qY]
      refine TakeSeq.done ?_
      refine qD ?_ _
      go_wp2_with fail
      go_meet
      have hge : ∀ b, (Value.slice pw P.length cw).ownBlock = some b → w0.heap.size < b := fun b hb => by have := own_row_ge hq2 b hb; (try simp at this); omega
      have hX1 : w.heap.size ≤ w0.heap.size := by omega
      have hw2 := HW2.out
      have hOv : Over w0.heap.size w2 ((((((((((((w2.setCell ⟨w0.heap.size, 0, none⟩ (.int .i64 0)).setCell ⟨w0.heap.size, 1, none⟩ (.bool false)).setCell ⟨w0.heap.size, 2, none⟩ (.bool false)).setCell ⟨w0.heap.size, 3, none⟩ (.bool false)).setCell ⟨w0.heap.size, 4, none⟩ (.bool false)).setCell ⟨w0.heap.size, 5, none⟩ (.bool false)).setCell ⟨w0.heap.size, 6, none⟩ (.int .i64 0)).setCell ⟨w0.heap.size, 7, none⟩ (.int .i64 0)).setCell ⟨w0.heap.size, 8, none⟩ (.slice pc nc cc)).setCell ⟨w0.heap.size, 9, none⟩ (.int .i64 0)).setCell ⟨w0.heap.size, 10, none⟩ (.int .i64 0))) := qV
      refine ⟨pw, cw, pc, nc, cc, w0.heap.size, rfl, rfl, rfl, rfl, hlt, hid ⟨Blk.cast (((((((((((BZ.put 0 _).put 1 _).put 2 _).put 3 _).put 4 _).put 5 _).put 6 _).put 7 _).put 8 _).put 9 _).put 10 _) (by kernel_rfl), (own_lower hq2 (Nat.zero_le _)).kept hOv (.inr (fun e => by have := hge _ e; omega)), ?_, HX.out.below (((((((((((hw2.setCell hX1 _).setCell hX1 _).setCell hX1 _).setCell hX1 _).setCell hX1 _).setCell hX1 _).setCell hX1 _).setCell hX1 _).setCell hX1 _).setCell hX1 _).setCell hX1 _), blk_over (HB.out.2.1.kept HX2.out) hOv (by omega), (((((((((((hw2.setCell hX1 _).setCell hX1 _).setCell hX1 _).setCell hX1 _).setCell hX1 _).setCell hX1 _).setCell hX1 _).setCell hX1 _).setCell hX1 _).setCell hX1 _).setCell hX1 _)⟩⟩
      rcases hc2 with hc2 | ⟨h1, g, h2, h3⟩
      · exact .inl hc2
      · exact .inr ⟨h1, g, h2, blk_over h3 hOv (blk_ne h3 BZ (by decide))⟩
  case rest =>
    obtain ⟨pw, cw, pc, nc, cc, X, rfl, rfl, rfl, rfl, hX, HC⟩ := hcut
    clear ko lo lo0 HB HV HNN
    have kx := HC.out.1.cell
    have lx := HC.out.1.lt
    have kz := HC.out.2.2.2.2.1.cell
    have fz := HC.out.2.2.2.2.1.free
    have lz := HC.out.2.2.2.2.1.lt
    unfold hoCells at kx kz
    go_wp2_with fail
    go_at_call 95; refine (HWR.out _ _ HC.out.2.2.2.1 (pgrow_own HC.out.2.1 HPO.out.2.1 (by have := HPO.out.1; unfold maxLen; omega))).mono ?_; rintro e w1 ⟨rfl, ⟨vw1, hx1⟩, hf1⟩
    have X1 := hf1.blk HC.out.1 (by omega) (by omega)
    have Z1 := hf1.blk HC.out.2.2.2.2.1 (by omega) (by omega)
    have C1 := CheckAt.frame HC.out.2.2.1 hf1 HC.out.2.2.2.1
    have F1 := (ExFr.of_below (r := r) (m := m) HC.out.2.2.2.2.2).trans hf1
    have H1 := hid (And.intro X1 (And.intro Z1 (And.intro C1 (And.intro hx1 F1))))
    have kx1 := X1.cell
    have lx1 := X1.lt
    unfold hoCells at kx1
    clear X1 Z1 C1 hx1 F1 hf1 kx lx kz fz lz HC
    go_wp2_with fail
    rcases H1.out.2.2.1 with ⟨h1, _⟩ | ⟨_, g, hg, hB⟩
    · cases h1
    cases hg
    go_at_call 96; refine (exRely1 r m vp va vk vw1 K (Rf.merge W P) g _ H1.out.2.2.2.1 hB).mono ?_; rintro e w2 ⟨rfl, hx2, hf2⟩
    have X2 := hf2.blk H1.out.1 (by omega) (by omega)
    have Z2 := hf2.blk H1.out.2.1 (by omega) (by omega)
    have F2 := H1.out.2.2.2.2.trans hf2
    have H2 := hid (And.intro X2 (And.intro Z2 (And.intro hx2 F2)))
    have kx2 := X2.cell
    have lx2 := X2.lt
    have kr2 := hx2.blk.cell
    have fr2 := hx2.blk.free
    have lr2 := hx2.blk.lt
    unfold hoCells at kx2
    unfold exCells at kr2
    have q21 : w2.cell? ⟨r, 21, none⟩ = some (.bool false) := kr2 21
    clear X2 Z2 hx2 F2 hf2 kx1 lx1 H1
    go_upto_region 8 with (fail)
    refine wp_region_late (S := SteadyAll _) (last := 27) (by kernel_rfl) (by kernel_rfl) (SteadyAll.of (Below.refl _ _).drew) ?_
    intro hSt
    refine wpAnyL_seq (is := [0, 1, 2, 3, 4, 5, 6, 7, 8, 9, 10, 11, 12, 13, 14, 15, 16, 17, 18, 19]) (by kernel_rfl) (by kernel_rfl) (fun _ _ d _ _ h => by cases d <;> exact h) (by assumption) ?_
    iterate 20 (refine qU ?_; simp only [Act.put, qY])
    refine TakeSeqL.done ?_
    refine wpAnyL_seq (is := [20, 21, 22]) (by kernel_rfl) (by kernel_rfl) (fun _ _ d _ _ h => by cases d <;> exact h) (by assumption) ?_
    iterate 3 (refine qU ?_; simp only [Act.put, qY])
    refine TakeSeqL.done ?_
    refine qHL 23 fun K hK => ?_
    go_simp
    refine hK.out _ _ (⟨(sa_same (SteadyAll.of qL) q21).rule⟩) (fun hHeld => ?_)
    clear hK K
    refine wpAnyL_seq (is := [24, 25, 26]) (by kernel_rfl) (by kernel_rfl) (fun _ _ d _ _ h => by cases d <;> exact h) (by assumption) ?_
    iterate 3 (refine qU ?_; simp only [Act.put, qY])
    refine TakeSeqL.done ?_
    refine wpAnyL_ready (rs := [27]) (by kernel_rfl) (by simp) ?_
    refine AllReadyL.final rfl (fun K hK => ?_)
    rw [if_pos (by rfl)]
    go_simp
    refine hK.out _ _ ?_
    clear hK K
    refine wpAnyL_done (by kernel_rfl) ?_ _
    have BR := Blk.cast (cs' := exCells vp va vk vw1 m (.slice none 0 0)) ((H2.out.2.2.1.blk.put 21 (.bool false)).put 22 (.bool false)) (by kernel_rfl)
    have hO : Over r w2 ((w2.setCell ⟨r, 21, none⟩ (.bool false)).setCell ⟨r, 22, none⟩ (.bool false)) := ((Over.refl _ _).put 21 _).put 22 _
    have hx3 := H2.out.2.2.1.reblk hO BR
    have X3 := blk_over H2.out.1 hO (by omega)
    have Z3 := blk_over H2.out.2.1 hO (by omega)
    have F3 := H2.out.2.2.2.trans (ExFr.of_over hO)
    have hd3 := (Below.refl ((w2.setCell ⟨r, 21, none⟩ (.bool false)).setCell ⟨r, 22, none⟩ (.bool false)).heap.size ((w2.setCell ⟨r, 21, none⟩ (.bool false)).setCell ⟨r, 22, none⟩ (.bool false))).drew
    go_upto_region 9 with (fail)
    refine wp_name (fun W' => Blk W' X 224 (hoCells 0 false (.slice (some ⟨g, 0, none⟩) 1 1) 0) ∧ Blk W' (w.heap.size + 1) 224 (hoCells 0 false (.slice none 0 0) 0) ∧ ExAt r m vp va vk vw1 K (Rf.merge W P) 1 relD W' ∧ ExFr r m w W') ⟨?_, ?_, ?_, ?_⟩ (fun w4 H4 => ?_)
    · first | exact X3 | exact X3.kept hd3
    · first | exact Z3 | exact Z3.kept hd3
    · first | exact hx3 | exact hx3.below hd3
    · first | exact F3 | exact F3.trans (ExFr.of_below hd3)
    clear BR hO hx3 X3 Z3 F3 hd3 H2 kx2 lx2 kr2 fr2 lr2 q21
    have kx4 := H4.out.1.cell
    have lx4 := H4.out.1.lt
    have kz4 := H4.out.2.1.cell
    have fz4 := H4.out.2.1.free
    have lz4 := H4.out.2.1.lt
    unfold hoCells at kx4 kz4
    go_wp2_with fail
    have BZ := H4.out.2.1
    have hO : Over (w.heap.size + 1) w4 ((((((((((((w4.setCell ⟨w.heap.size + 1, 0, none⟩ (.int .i64 0)).setCell ⟨w.heap.size + 1, 1, none⟩ (.bool false)).setCell ⟨w.heap.size + 1, 2, none⟩ (.bool false)).setCell ⟨w.heap.size + 1, 3, none⟩ (.bool false)).setCell ⟨w.heap.size + 1, 4, none⟩ (.bool false)).setCell ⟨w.heap.size + 1, 5, none⟩ (.bool false)).setCell ⟨w.heap.size + 1, 6, none⟩ (.int .i64 0)).setCell ⟨w.heap.size + 1, 7, none⟩ (.int .i64 0)).setCell ⟨w.heap.size + 1, 8, none⟩ (.slice (some ⟨g, 0, none⟩) 1 1)).setCell ⟨w.heap.size + 1, 9, none⟩ (.int .i64 0)).setCell ⟨w.heap.size + 1, 10, none⟩ (.int .i64 0))) := qV
    have hB : Below w4.heap.size w4 w4 := Below.refl _ _
    have hFF : ExFr r m w ((((((((((((w4.setCell ⟨w.heap.size + 1, 0, none⟩ (.int .i64 0)).setCell ⟨w.heap.size + 1, 1, none⟩ (.bool false)).setCell ⟨w.heap.size + 1, 2, none⟩ (.bool false)).setCell ⟨w.heap.size + 1, 3, none⟩ (.bool false)).setCell ⟨w.heap.size + 1, 4, none⟩ (.bool false)).setCell ⟨w.heap.size + 1, 5, none⟩ (.bool false)).setCell ⟨w.heap.size + 1, 6, none⟩ (.int .i64 0)).setCell ⟨w.heap.size + 1, 7, none⟩ (.int .i64 0)).setCell ⟨w.heap.size + 1, 8, none⟩ (.slice (some ⟨g, 0, none⟩) 1 1)).setCell ⟨w.heap.size + 1, 9, none⟩ (.int .i64 0)).setCell ⟨w.heap.size + 1, 10, none⟩ (.int .i64 0))) := H4.out.2.2.2.trans2 hO (by omega)
    have hxx := H4.out.2.2.1.far_over hO (by omega) (by omega) BZ (fun c a d hv => by have := HKB.out c a d hv; omega) (by omega)
    refine bodyPost_ret (results_bt rfl _ _ (w.heap.size + 1) _ _ _ rfl (Blk.cast (((((((((((BZ.put 0 _).put 1 _).put 2 _).put 3 _).put 4 _).put 5 _).put 6 _).put 7 _).put 8 _).put 9 _).put 10 _) (by kernel_rfl)) Tryz.underlying224 rfl (by kernel_rfl)) rfl ⟨some ⟨g, 0, none⟩, 1, 1, rfl, ⟨vw1, hxx⟩, hFF⟩
theorem Blk.same {w : World} {b : Nat} {t : TypeId} {cs : Array Value} (h : Blk w b t cs) (i : Nat) (v : Value) (hv : cs[i]? = some v) : Blk (w.setCell ⟨b, i, none⟩ v) b t cs :=
  Blk.cast (h.put i v) (by
    apply Array.ext_getElem?
    intro j
    rw [Array.getElem?_setIfInBounds]
    split
    · subst_vars
      split
      · exact hv.symm
      · rename_i h1; rw [Array.getElem?_eq_none (by omega)] at hv; cases hv
    · rfl)
def rowCells0 : Array Value := #[.int .i64 0, .int .u64 0, .int .u64 0, .int .u64 0, .int .u64 0, .int .u64 0, .int .u64 0, .int .u64 0, .int .u64 0, .int .u32 0, .int .i64 0, .int .i64 0, .int .i64 0, .bool false, .int .u32 0, .int .u64 0, .int .i64 0, .int .i64 0, .bool false, .bool false]
theorem exLocate (r m : Nat) (vp va vk vw : Value) (K : List Bt.Page) (w : World) (h : ExAt r m vp va vk vw K [] 0 (.map []) w) (hK : POk K) (hz : Bt.latest (Rf.merge K []) 96 = some zRootP) :
    Calls Tryz.prog 71 #[.pointer (some ⟨r, 0, none⟩), .int .u32 5, .int .i64 1] w fun e w' => e = .returned (.tuple #[.agg rowCells0, .bool true]) ∧ (∃ vw', ExAt r m vp va vk vw' K [] 1 relD w') ∧ ExFr r m w w' := by
  have HF := hid (fun W' (hx : ExAt r m vp va vk vw K [] 0 (.map []) W') => exHashFind r m vp va vk vw K [] [] 5 0 0 none 0 0 W' hx hK pok_nil pok_nil (fun v W2 hb hp => (hiNextFind _ hz v W2 (hx.hn.below hb) hp).mono (by
    rintro e w2 ⟨g, rfl, hg, hB, hb2⟩
    exact ⟨none, 0, some ⟨g, 0, none⟩, 1, 1, rfl, own_none w2 W2.heap.size _ _, .inr ⟨rfl, g, rfl, hB⟩, hb2⟩)))
  have hm0 : Rf.merge ([] : List Bt.Page) [] = [] := by kernel_rfl
  rw [hm0] at HF
  have hkb : ∀ c a d, vk = .slice (some ⟨c, 0, none⟩) a d → c < w.heap.size := fun c a d hv => by
    rcases h.known.form with ⟨h1, _⟩ | ⟨c2, cap, h1, h2, _⟩
    · rw [h1] at hv; simp at hv
    · rw [h1] at hv; simp at hv; omega
  have HKB := hid (And.intro hkb h.hn.lt)
  clear hkb hm0
  have HX := hid h
  have lr := h.blk.lt
  have lm := h.rel.lt
  clear h hK hz
  go_enter Tryz.func71, Tryz.ntmps71
  go_upto_region 4 with (fail)
  refine wp_name (fun W' => Blk W' w.heap.size 179 rowCells0 ∧ Blk W' (w.heap.size + 1) 154 #[.int .i64 0, .int .i64 0] ∧ Below w.heap.size w W') ⟨(Blk.made w _ _).alloc _, Blk.made' (by simp), qL⟩ (fun wx H1 => ?_)
  have lx := H1.out.2.1.lt
  go_wp2_with fail
  go_at_call 103; refine (HF.out _ (HX.out.below H1.out.2.2)).mono ?_; rintro e w1 ⟨pc, nc, cc, rfl, ⟨vw1, hx1⟩, hf1⟩
  have R1 := hf1.blk H1.out.1 (by omega) (by omega)
  have T1 := hf1.blk H1.out.2.1 (by omega) (by omega)
  have F1 := (ExFr.of_below (r := r) (m := m) H1.out.2.2).trans hf1
  have lx := T1.lt
  have H2 := hid (And.intro R1 (And.intro T1 (And.intro hx1 F1)))
  clear R1 T1 F1 hx1 hf1 H1
  unfold hoCells
  go_upto_region 7 with (fail)
  have hbz : Below w1.heap.size w1 (w1.alloc (.cells (hoCells 0 false (.slice pc nc cc) 0) 224)) := below_alloc (Below.refl _ _) _
  refine wp_name (fun W' => Blk W' w1.heap.size 224 (hoCells 0 false (.slice pc nc cc) 0) ∧ Blk W' w.heap.size 179 rowCells0 ∧ Blk W' (w.heap.size + 1) 154 #[.int .i64 0, .int .i64 0] ∧ ExAt r m vp va vk vw1 K [] 1 relD W' ∧ ExFr r m w W') ⟨Blk.made w1 _ _, H2.out.1.kept hbz, H2.out.2.1.kept hbz, H2.out.2.2.1.below hbz, H2.out.2.2.2.trans (ExFr.of_below hbz)⟩ (fun w2 H3 => ?_)
  clear hbz H2
  have kx := H3.out.1.cell
  have lx1 := H3.out.1.lt
  have kt := H3.out.2.2.1.cell
  have ft := H3.out.2.2.1.free
  have lt := H3.out.2.2.1.lt
  unfold hoCells at kx
  go_region
  go_upto_region 13 with (fail)
  have hO : Over (w.heap.size + 1) w2 ((w2.setCell ⟨w.heap.size + 1, 0, none⟩ (.int .i64 0)).setCell ⟨w.heap.size + 1, 1, none⟩ (.int .i64 0)).drew := (((Over.refl _ _).put 0 _).put 1 _).drew
  refine wp_name (fun W' => Blk W' w.heap.size 179 rowCells0 ∧ ExAt r m vp va vk vw1 K [] 1 relD W' ∧ ExFr r m w W') ⟨blk_over H3.out.2.1 hO (by omega), H3.out.2.2.2.1.far_over hO (by omega) (by omega) H3.out.2.2.1 (fun c a d hv => by have := HKB.out.1 c a d hv; omega) (by have := HKB.out.2; omega), H3.out.2.2.2.2.trans2 hO (by omega)⟩ (fun w4 H4 => ?_)
  clear hO kx lx1 kt ft lt H3
  have BR := H4.out.1
  iterate 4 go_step
  refine wpList_store_self rfl 179 (.tmp 6) (.tmp 46) rfl w.heap.size _ rfl rfl _ BR (by kernel_rfl) (by kernel_rfl) ?_
  go_wp2_with fail
  refine bodyPost_ret (results_bt rfl _ _ w.heap.size _ _ _ rfl BR Tryz.underlying179 rfl (by kernel_rfl)) rfl ⟨rfl, ⟨vw1, H4.out.2.1⟩, H4.out.2.2⟩
theorem gLocate (r : Nat) (j : Jb) (vp va : Value) (m : Nat) (key ac : Int) (h1 : 1 ≤ key) (h2 : key ≤ 4294967294) (w : World) (hno : NoneAt w) (B : Blk w r 82 (gCells j vp va m (.slice none 0 0))) :
    Calls Tryz.prog 71 #[.pointer (some ⟨r, 0, none⟩), .int .u32 key, .int .i64 ac] w (GWait r j vp va m (.tuple #[.agg rowCells0, .bool false]) w) := by
  have HH := hid (fun W h => gHash r j vp va m key W h h1 h2)
  have HT := hid (fun W hn h => gTree r j vp va m 1 key 0 0 W h hn (fun W' => btValidFind key h1 h2 W'))
  have HB := hid (And.intro B hno)
  have lr := B.lt
  clear B hno h1 h2
  cases a1 : (ac == 1)
  · go_enter Tryz.func71, Tryz.ntmps71
    go_upto_region 8 with (fail)
    refine wp_name (fun W' => Blk W' w.heap.size 179 rowCells0 ∧ Below w.heap.size w W') ⟨(Blk.made w _ _).alloc _, qL⟩ (fun wx H1 => ?_)
    have lx := H1.out.1.lt
    go_wp2_with fail
    go_at_call 64
    refine (HT.out _ (HB.out.2.below H1.out.2) (HB.out.1.kept H1.out.2)).mono ?_
    rintro e w1 ⟨rfl, ⟨g, cg, hg⟩, ho1⟩
    have R1 := blk_over H1.out.1 ho1 (by omega)
    have H2 := hid (And.intro R1 (And.intro hg ((Over.of_below (b := r) H1.out.2).trans ho1)))
    clear R1 hg ho1 H1
    go_upto_region 10 with (fail)
    refine wp_name (fun W' => Blk W' w.heap.size 179 rowCells0 ∧ Blk W' r 82 (gCells j vp va m (.slice (some ⟨g, 0, none⟩) 1 cg)) ∧ Over r w W') ⟨H2.out.1.alloc _, H2.out.2.1.alloc _, H2.out.2.2.then_below (below_alloc (Below.refl _ _) _)⟩ (fun w4 H4 => ?_)
    clear H2
    have BR := H4.out.1
    iterate 4 go_step
    refine wpList_store_self rfl 179 (.tmp 6) (.tmp 39) rfl w.heap.size _ rfl rfl _ BR (by kernel_rfl) (by kernel_rfl) ?_
    go_wp2_with fail
    exact bodyPost_ret (results_bt rfl _ _ w.heap.size _ _ _ rfl BR Tryz.underlying179 rfl (by kernel_rfl)) rfl ⟨rfl, ⟨g, cg, H4.out.2.1⟩, H4.out.2.2⟩
  · go_enter Tryz.func71, Tryz.ntmps71
    go_upto_region 4 with (fail)
    refine wp_name (fun W' => Blk W' w.heap.size 179 rowCells0 ∧ Below w.heap.size w W') ⟨(Blk.made w _ _).alloc _, qL⟩ (fun wx H1 => ?_)
    have lx := H1.out.1.lt
    go_wp2_with fail
    go_at_call 103
    refine (HH.out _ (HB.out.1.kept H1.out.2)).mono ?_
    rintro e w1 ⟨rfl, ⟨g, cg, hg⟩, ho1⟩
    have R1 := blk_over H1.out.1 ho1 (by omega)
    have H2 := hid (And.intro R1 (And.intro hg ((Over.of_below (b := r) H1.out.2).trans ho1)))
    clear R1 hg ho1 H1
    go_upto_region 6 with (fail)
    refine wp_name (fun W' => Blk W' w.heap.size 179 rowCells0 ∧ Blk W' r 82 (gCells j vp va m (.slice (some ⟨g, 0, none⟩) 1 cg)) ∧ Over r w W') ⟨H2.out.1.alloc _, H2.out.2.1.alloc _, H2.out.2.2.then_below (below_alloc (Below.refl _ _) _)⟩ (fun w4 H4 => ?_)
    clear H2
    have BR := H4.out.1
    iterate 4 go_step
    refine wpList_store_self rfl 179 (.tmp 6) (.tmp 25) rfl w.heap.size _ rfl rfl _ BR (by kernel_rfl) (by kernel_rfl) ?_
    go_wp2_with fail
    exact bodyPost_ret (results_bt rfl _ _ w.heap.size _ _ _ rfl BR Tryz.underlying179 rfl (by kernel_rfl)) rfl ⟨rfl, ⟨g, cg, H4.out.2.1⟩, H4.out.2.2⟩
theorem gPoint (r : Nat) (j : Jb) (vp va : Value) (m : Nat) (s : Sq.St) (ac : Int) (h1 : 1 ≤ s.key) (h2 : s.key ≤ 4294967294) (w : World) (hno : NoneAt w) (B : Blk w r 82 (gCells j vp va m (.slice none 0 0))) :
    Calls Tryz.prog 34 #[.pointer (some ⟨r, 0, none⟩), .agg s.arr, .int .i64 ac] w (GWait r j vp va m (.tuple #[.agg #[.slice none 0 0, .int .i64 0], .bool false]) w) := by
  have HL := hid (fun W hn h => gLocate r j vp va m s.key ac h1 h2 W hn h)
  have HB := hid (And.intro B hno)
  have lr := B.lt
  clear B hno h1 h2
  unfold Sq.St.arr
  go_enter Tryz.func34, Tryz.ntmps34
  go_upto_region 1 with (fail)
  refine wp_name (fun W' => Blk W' w.heap.size 54 s.arr ∧ Blk W' (w.heap.size + 1) 104 #[.slice none 0 0, .int .i64 0] ∧ Below w.heap.size w W') ⟨(Blk.made w _ _).alloc _, Blk.made' (by simp), qL⟩ (fun wx H1 => ?_)
  have ks := H1.out.1.cell
  have ls := H1.out.1.lt
  have ls1 := H1.out.2.1.lt
  unfold Sq.St.arr at ks
  go_wp2_with fail
  go_at_call 71
  refine (HL.out _ (HB.out.2.below H1.out.2.2) (HB.out.1.kept H1.out.2.2)).mono ?_
  rintro e w1 ⟨rfl, ⟨g, cg, hg⟩, ho1⟩
  have R1 := blk_over H1.out.2.1 ho1 (by omega)
  have H2 := hid (And.intro R1 (And.intro hg ((Over.of_below (b := r) H1.out.2.2).trans ho1)))
  clear R1 hg ho1 H1 ks ls ls1
  unfold rowCells0
  dsimp only
  iterate 13 go_step
  refine wpList_store_self rfl 179 (.tmp 8) (.tmp 17) rfl w1.heap.size _ rfl rfl _ (Blk.made w1 _ _) (by kernel_rfl) (by kernel_rfl) ?_
  go_upto_region 3 with (fail)
  refine wp_name (fun W' => Blk W' (w.heap.size + 1) 104 #[.slice none 0 0, .int .i64 0] ∧ Blk W' r 82 (gCells j vp va m (.slice (some ⟨g, 0, none⟩) 1 cg)) ∧ Over r w W') ⟨H2.out.1.alloc _, H2.out.2.1.alloc _, H2.out.2.2.then_below (below_alloc (Below.refl _ _) _)⟩ (fun w4 H4 => ?_)
  clear H2
  have kz := H4.out.1.cell
  have fz := H4.out.1.free
  have lz := H4.out.1.lt
  go_wp2_with fail
  have hgg := H4.out.2.1
  have hov := H4.out.2.2
  exact bodyPost_ret (results_bt rfl _ _ (w.heap.size + 1) _ _ _ rfl (Blk.cast ((H4.out.1.put 0 _).put 1 _) (by kernel_rfl)) Tryz.underlying104 rfl (by kernel_rfl)) rfl ⟨rfl, ⟨g, cg, by (have B := hgg; exact qK)⟩, qV⟩
theorem gRanged (r : Nat) (j : Jb) (vp va : Value) (m : Nat) (s : Sq.St) (h1 : 1 ≤ s.key) (h2 : s.key ≤ s.last) (h3 : s.last ≤ 4294967294) (w : World) (hno : NoneAt w) (B : Blk w r 82 (gCells j vp va m (.slice none 0 0))) :
    Calls Tryz.prog 33 #[.pointer (some ⟨r, 0, none⟩), .agg s.arr] w (GWait r j vp va m (.tuple #[.agg #[.slice none 0 0, .int .i64 0], .bool false]) w) := by
  have HT := hid (fun W hn h => gTree r j vp va m 4 s.key s.last 64 W h hn (fun W' => btValidScan s.key s.last h1 h2 h3 W'))
  have HB := hid (And.intro B hno)
  have lr := B.lt
  clear B hno h1 h2 h3
  unfold Sq.St.arr
  go_enter Tryz.func33, Tryz.ntmps33
  go_upto_region 1 with (fail)
  refine wp_name (fun W' => Blk W' w.heap.size 54 s.arr ∧ Blk W' (w.heap.size + 1) 104 #[.slice none 0 0, .int .i64 0] ∧ Below w.heap.size w W') ⟨(Blk.made w _ _).alloc _, Blk.made' (by simp), qL⟩ (fun wx H1 => ?_)
  have ks := H1.out.1.cell
  have ls := H1.out.1.lt
  have ls1 := H1.out.2.1.lt
  unfold Sq.St.arr at ks
  go_wp2_with fail
  go_at_call 64
  refine (HT.out _ (HB.out.2.below H1.out.2.2) (HB.out.1.kept H1.out.2.2)).mono ?_
  rintro e w1 ⟨rfl, ⟨g, cg, hg⟩, ho1⟩
  have R1 := blk_over H1.out.2.1 ho1 (by omega)
  have H2 := hid (And.intro R1 (And.intro hg ((Over.of_below (b := r) H1.out.2.2).trans ho1)))
  clear R1 hg ho1 H1 ks ls ls1
  go_upto_region 3 with (fail)
  refine wp_name (fun W' => Blk W' (w.heap.size + 1) 104 #[.slice none 0 0, .int .i64 0] ∧ Blk W' r 82 (gCells j vp va m (.slice (some ⟨g, 0, none⟩) 1 cg)) ∧ Over r w W') ⟨H2.out.1.alloc _, H2.out.2.1.alloc _, H2.out.2.2.then_below (below_alloc (Below.refl _ _) _)⟩ (fun w4 H4 => ?_)
  clear H2
  have kz := H4.out.1.cell
  have fz := H4.out.1.free
  have lz := H4.out.1.lt
  go_wp2_with fail
  have hgg := H4.out.2.1
  have hov := H4.out.2.2
  exact bodyPost_ret (results_bt rfl _ _ (w.heap.size + 1) _ _ _ rfl (Blk.cast ((H4.out.1.put 0 _).put 1 _) (by kernel_rfl)) Tryz.underlying104 rfl (by kernel_rfl)) rfl ⟨rfl, ⟨g, cg, by (have B := hgg; exact qK)⟩, qV⟩
theorem gPinned (r : Nat) (j : Jb) (vp va : Value) (m : Nat) (hc : 0 ≤ j.client ∧ j.client ≤ 5) (w : World) (B : Blk w r 82 (gCells j vp va m (.slice none 0 0))) :
    Calls Tryz.prog 32 #[.pointer (some ⟨r, 0, none⟩)] w (GWait r j vp va m (.bool false) w) := by
  obtain ⟨L, hL⟩ : ∃ L, 98 + j.client = L := ⟨_, rfl⟩
  have wc : IntKind.i64.wrap (98 + j.client) = L := by rw [IntKind.wrap_i64]; omega
  have HLA : Hid (∀ W, Calls Tryz.prog 60 #[.slice none 0 0, .int .i64 L] W fun e w' => e = .returned (.tuple #[.agg Bt.zeroPage.cells, .bool false]) ∧ Below W.heap.size W w') := hid (fun W => Latest_any [] (.slice none 0 0) L W ⟨by simp, by simp, .inl ⟨rfl, rfl⟩⟩)
  have HW := hid (fun g W h => gWait r j vp va m g 1 W h)
  have kr := B.cell
  have lr := B.lt
  have HB := hid B
  clear B hL hc
  unfold gCells at kr
  unfold Bt.Page.cells Bt.zeroPage at HLA
  simp only at HLA
  go_enter Tryz.func32, Tryz.ntmps32
  go_wp2_with fail
  go_at_call 60; refine (HLA.out _).mono ?_; rintro e w1 ⟨rfl, hb1⟩; ((obtain ⟨hc1, hf1, hs1⟩ := qR hb1); (try have := qN0 w w1))
  go_wp2_with fail
  go_at_call 61
  refine (HW.out _ _ (((HB.out.kept hb1).alloc _).alloc _)).mono ?_
  rintro e w2 ⟨rfl, hg, ho2⟩
  have HX := hid (And.intro hg ((((Over.of_below (b := r) hb1).then_below (below_alloc (Below.refl _ _) _)).then_below (below_alloc (Below.refl _ _) _)).trans ho2))
  clear hg ho2 hb1
  go_wp2_with fail
  exact bodyPost_ret (results_tmp rfl _ _ _) rfl ⟨rfl, HX.out.1, HX.out.2⟩
structure SteadyG (r b5 : Nat) (va : Value) (w1 wx : World) : Prop where
  rule : (∀ b o, b < w1.heap.size → (b < r ∨ r < b) → (b < b5 ∨ b5 < b) → wx.cell? ⟨b, o, none⟩ = w1.cell? ⟨b, o, none⟩) ∧ wx.cell? ⟨r, 4, none⟩ = some va
theorem SteadyG.set {r b5 : Nat} {va : Value} {w1 wx : World} (h : SteadyG r b5 va w1 wx) (hne : r ≠ b5) (i : Nat) (v : Value) : SteadyG r b5 va w1 (wx.setCell ⟨b5, i, none⟩ v) :=
  ⟨fun b o hb h1 h2 => by rw [World.cell?_setCell_other _ _ _ _ (by intro e; injection e with e1; omega)]; exact h.rule.1 b o hb h1 h2,
   by rw [World.cell?_setCell_other _ _ _ _ (by intro e; injection e with e1; omega)]; exact h.rule.2⟩
theorem NoneAt.overG {r : Nat} {w w' : World} (h : NoneAt w) (ho : Over r w w') (hne : 1 ≠ r) : NoneAt w' := by
  have e := ho.block _ h.lt (by simp; omega)
  have h0 := h.c0
  have h1 := h.c1
  refine ⟨?_, ?_, Nat.lt_of_lt_of_le h.lt ho.size, Nat.lt_of_lt_of_le h.lt0 ho.size⟩
  · simp only [World.cell?, e] at h0 ⊢; exact h0
  · simp only [World.cell?, e] at h1 ⊢; exact h1
theorem gExecute (r : Nat) (j : Jb) (ob oo c n ab ao ca na m : Nat) (s : Sq.St) (a : Int) (hn : 1 ≤ n ∧ n ≤ 8) (hna : 1 ≤ na) (hv : s.valid = true) (hcl : 0 ≤ j.client ∧ j.client ≤ 5) (w : World) (hno : NoneAt w)
    (hgn : 1 ≠ r) (hob : ob < r) (hab : ab < r) (hcs : ∀ (i : Nat) u, s.arr[i]? = some u → w.cell? ⟨ob, oo + i, none⟩ = some u) (hca : w.cell? ⟨ab, ao, none⟩ = some (.int .i64 a))
    (B : Blk w r 82 (gCells j (.slice (some ⟨ob, oo, none⟩) n c) (.slice (some ⟨ab, ao, none⟩) na ca) m (.slice none 0 0))) :
    Calls Tryz.prog 19 #[.pointer (some ⟨r, 0, none⟩)] w (GWait r j (.slice (some ⟨ob, oo, none⟩) n c) (.slice (some ⟨ab, ao, none⟩) na ca) m (.bool false) w) := by
  have hr := hv
  rw [Sq.valid_ref] at hr
  simp only [Sq.St.refValid, Bool.and_eq_true, decide_eq_true_eq] at hr
  obtain ⟨⟨⟨⟨⟨⟨⟨_, hk1⟩, hk2⟩, _⟩, hrg⟩, _⟩, _⟩, _⟩ := hr
  unfold Sq.maxKey at hk2 hrg
  have HPT := hid (fun W hn2 h => gPoint r j (.slice (some ⟨ob, oo, none⟩) n c) (.slice (some ⟨ab, ao, none⟩) na ca) m s a hk1 hk2 W hn2 h)
  have HRG : Hid (s.range = true → ∀ W, NoneAt W → Blk W r 82 (gCells j (.slice (some ⟨ob, oo, none⟩) n c) (.slice (some ⟨ab, ao, none⟩) na ca) m (.slice none 0 0)) → Calls Tryz.prog 33 #[.pointer (some ⟨r, 0, none⟩), .agg s.arr] W (GWait r j (.slice (some ⟨ob, oo, none⟩) n c) (.slice (some ⟨ab, ao, none⟩) na ca) m (.tuple #[.agg #[.slice none 0 0, .int .i64 0], .bool false]) W)) := hid (fun h W hn2 hB => by
    have hk : 6 ≤ s.kind ∧ s.kind ≤ 8 := by
      simp only [Sq.St.range, Bool.or_eq_true, beq_iff_eq] at h
      omega
    have hl : s.key ≤ s.last ∧ s.last ≤ 4294967294 := by
      rw [decide_eq_true hk.1, decide_eq_true hk.2] at hrg
      simpa using hrg
    exact gRanged r j _ _ m s hk1 hl.1 hl.2 W hn2 hB)
  have HPN := hid (fun W h => gPinned r j (.slice (some ⟨ob, oo, none⟩) n c) (.slice (some ⟨ab, ao, none⟩) na ca) m hcl W h)
  obtain ⟨rg, hrg2⟩ : ∃ b, s.range = b := ⟨_, rfl⟩
  have HIR : Hid (∀ W, Calls Tryz.prog 17 #[.agg s.arr] W fun e w' => e = .returned (.bool rg) ∧ Below W.heap.size W w') := hid (fun W => by have h := exIsRange s W; rwa [hrg2] at h)
  rw [hrg2] at HRG
  have HB := hid (And.intro B (And.intro hno (And.intro hcs hca)))
  have kr := B.cell
  have fr := B.free
  have lr := B.lt
  unfold gCells at kr
  clear B hno hv hcl hk1 hk2 hrg hrg2
  cases hsn : j.snap
  · rw [hsn] at kr
    have b1 : decide ((0 : Int) < n) = true := by simp; omega
    have n6 : (0 : Int) < n := by omega
    have na6 : (0 : Int) < na := by omega
    have na7 : 0 < na := by omega
    have n7 : 0 < n := by omega
    have d0 : w.cell? ⟨ob, oo, none⟩ = some (.int .i64 s.kind) := hcs 0 _ rfl
    have d1 : w.cell? ⟨ob, oo + 1, none⟩ = some (.int .u32 s.key) := hcs 1 _ rfl
    have d2 : w.cell? ⟨ob, oo + 2, none⟩ = some (.int .u32 s.last) := hcs 2 _ rfl
    have d3 : w.cell? ⟨ob, oo + 3, none⟩ = some (.int .i64 s.c0) := hcs 3 _ rfl
    have d4 : w.cell? ⟨ob, oo + 4, none⟩ = some (.int .i64 s.c1) := hcs 4 _ rfl
    have d5 : w.cell? ⟨ob, oo + 5, none⟩ = some (.int .i64 s.c2) := hcs 5 _ rfl
    have d6 : w.cell? ⟨ob, oo + 6, none⟩ = some (.int .i64 s.col) := hcs 6 _ rfl
    have d7 : w.cell? ⟨ob, oo + 7, none⟩ = some (.int .i64 s.value) := hcs 7 _ rfl
    have d8 : w.cell? ⟨ob, oo + 8, none⟩ = some (.int .i64 s.wcol) := hcs 8 _ rfl
    have d9 : w.cell? ⟨ob, oo + 9, none⟩ = some (.int .i64 s.wop) := hcs 9 _ rfl
    have d10 : w.cell? ⟨ob, oo + 10, none⟩ = some (.int .i64 s.wval) := hcs 10 _ rfl
    have d11 : w.cell? ⟨ob, oo + 11, none⟩ = some (.int .i64 s.limit) := hcs 11 _ rfl
    have hcw : w.cell? ⟨ab, ao, none⟩ = some (.int .i64 a) := hca
    have lob : ob < w.heap.size := by omega
    have lab : ab < w.heap.size := by omega
    clear hcs hca
    unfold Sq.St.arr at HIR HPT HRG
    go_enter Tryz.func19, Tryz.ntmps19
    go_wp2_with fail
    refine wp_loop_rounds 1 ?_
    rw [rounds_succ]
    go_upto_region 9 with (fail)
    have hO2 : Over r w (((w.setCell ⟨r, 17, none⟩ (.int .i64 0)).alloc (.cells s.arr 54)).alloc (.cells #[.slice none 0 0, .int .i64 0] 104)) := ((((Over.refl _ _).put 17 _).alloc _).alloc _)
    have eab := hO2.block ab lab (by simp; omega)
    have hcab : (((w.setCell ⟨r, 17, none⟩ (.int .i64 0)).alloc (.cells s.arr 54)).alloc (.cells #[.slice none 0 0, .int .i64 0] 104)).cell? ⟨ab, ao, none⟩ = some (.int .i64 a) := by
      have h := hcw
      simp only [World.cell?] at h ⊢
      rw [eab]
      exact h
    refine wp_name (fun W' => Blk W' r 82 (gCells j (.slice (some ⟨ob, oo, none⟩) n c) (.slice (some ⟨ab, ao, none⟩) na ca) m (.slice none 0 0)) ∧ Blk W' w.heap.size 54 s.arr ∧ Blk W' (w.heap.size + 1) 104 #[.slice none 0 0, .int .i64 0] ∧ W'.cell? ⟨ab, ao, none⟩ = some (.int .i64 a) ∧ Over r w W' ∧ NoneAt W')
      ⟨((HB.out.1.same 17 _ (by kernel_rfl)).alloc _).alloc _, (Blk.made' (by simp)).alloc _, Blk.made' (by simp), hcab, hO2, NoneAt.overG HB.out.2.1 hO2 hgn⟩ (fun w1 H1 => ?_)
    clear hO2 eab hcab hcw d0 d1 d2 d3 d4 d5 d6 d7 d8 d9 d10 d11 kr fr
    have kr := H1.out.1.cell
    have lr1 := H1.out.1.lt
    have ks := H1.out.2.1.cell
    have ls := H1.out.2.1.lt
    have l5 := H1.out.2.2.1.lt
    have kab := H1.out.2.2.2.1
    have lab1 : ab < w1.heap.size := by omega
    unfold gCells at kr
    rw [hsn] at kr
    unfold Sq.St.arr at ks
    go_wp2_with fail
    go_at_call 17
    refine (HIR.out _).mono ?_
    rintro e w2 ⟨rfl, hb2⟩
    ((obtain ⟨hc2, hf2, hs2⟩ := qR hb2); (try have := qN0 w w2); (try have := qN1 w w2))
    have H2 := hid (And.intro (H1.out.1.kept hb2) (And.intro (H1.out.2.1.kept hb2) (And.intro (H1.out.2.2.1.kept hb2) (And.intro (H1.out.2.2.2.2.1.then_below hb2) (H1.out.2.2.2.2.2.below hb2)))))
    have lr2 : r < w2.heap.size := by omega
    have lab2 : ab < w2.heap.size := by omega
    clear hb2
    cases rg
    · go_upto_region 11 with (fail)
      have lab5 : ab < w.heap.size + 1 := by omega
      have hnd : NoneAt w2.drew := ⟨H2.out.2.2.2.2.c0, H2.out.2.2.2.2.c1, H2.out.2.2.2.2.lt, H2.out.2.2.2.2.lt0⟩
      have HND := hid hnd
      clear hnd
      refine wp_region_held_drew (S := SteadyG r (w.heap.size + 1) (.slice (some ⟨ab, ao, none⟩) na ca) w2) (by kernel_rfl) ⟨⟨fun _ _ _ _ _ => rfl, H2.out.1.cell 4⟩⟩ ?_
      intro hSt
      refine qS [0, 1, 2, 3, 4, 5, 6, 7, 8, 9] ?_
      iterate 10 (refine qT ?_; simp only [Act.put, qY])
      refine TakeSeq.done ?_
      refine qH 10 fun K hK => ?_
      go_simp
      go_at_call 34; refine (HPT.out _ HND.out H2.out.1.drew).mono ?_; rintro e w3 ⟨rfl, ⟨g, cg, hg⟩, ho3⟩
      go_wp2_with fail
      refine hK.out _ _ (⟨⟨fun b o hb h1 h2 => by have e := ho3.block b hb (by simp; omega); show w3.cell? _ = w2.drew.cell? _; simp only [World.cell?, e], hg.cell 4⟩⟩) (fun hHeld => ?_)
      clear hK K
      have B5 := blk_over H2.out.2.2.1.drew ho3 (by omega)
      have k5 := B5.cell
      have f5 := B5.free
      have l53 := B5.lt
      have H3 := hid (And.intro hg (H2.out.2.2.2.1.drew.trans ho3))
      have HSG : SteadyG r (w.heap.size + 1) (.slice (some ⟨ab, ao, none⟩) na ca) w2 w3 := by assumption
      clear hg ho3 B5
      refine qS [11, 12, 13] ?_
      iterate 3 (refine qT ?_; simp only [Act.put, qY])
      refine TakeSeq.done ?_
      refine qH 14 fun K hK => ?_
      go_simp
      refine hK.out _ _ ((HSG.set (by omega) 0 _).set (by omega) 1 _) (fun hHeld => ?_)
      clear hK K
      refine qS [15] ?_
      refine qT ?_; simp only [Act.put, qY]
      refine TakeSeq.done ?_
      refine qD ?_ _
      go_wp2_with fail
      have hgg := H3.out.1
      have hov := H3.out.2
      exact bodyPost_ret (results_tmp rfl _ _ _) rfl ⟨rfl, ⟨g, cg, by (have B := hgg; exact qK)⟩, qV⟩
    · go_wp2_with fail
      go_at_call 33
      refine (HRG.out (by trivial) _ H2.out.2.2.2.2 H2.out.1).mono ?_
      rintro e w3 ⟨rfl, ⟨g, cg, hg⟩, ho3⟩
      have B5 := blk_over H2.out.2.2.1 ho3 (by omega)
      have k5 := B5.cell
      have f5 := B5.free
      have l53 := B5.lt
      have H3 := hid (And.intro hg (H2.out.2.2.2.1.trans ho3))
      clear hg ho3 B5
      go_wp2_with fail
      have hgg := H3.out.1
      have hov := H3.out.2
      exact bodyPost_ret (results_tmp rfl _ _ _) rfl ⟨rfl, ⟨g, cg, by (have B := hgg; exact qK)⟩, qV⟩
  · rw [hsn] at kr
    go_enter Tryz.func19, Tryz.ntmps19
    go_wp2_with fail
    go_at_call 32
    refine (HPN.out _ HB.out.1).mono ?_
    rintro e w1 ⟨rfl, hg, ho1⟩
    have HX := hid (And.intro hg ho1)
    clear hg ho1
    go_wp2_with fail
    exact bodyPost_ret (results_tmp rfl _ _ _) rfl ⟨rfl, HX.out.1, HX.out.2⟩
end Go.Proofs.YtcoiehgcfjfhaaaGreatDoor
