/- Package btree: raise, post, kill, unlink where there is no tree; raise where the root has no neighbour. -/
import Derived.Test.YtjmpekanlmepmaaGreatDoorBB23
set_option linter.all false
set_option maxRecDepth 20000
set_option maxHeartbeats 8000000
open Go.Lib (hid)
namespace Go.Proofs.YtjmpekanlmepmaaGreatDoor
open Go.RowKit
theorem sG15 {P : Prop} (h : P := by
 go_wp2_with fail
 refine qA fun hSt => ?_
 refine qS [0, 1, 2, 3, 4, 5] ?_
 iterate 6 (refine qT ?_; simp only [Act.put, qY])
 refine Z00.done ?_
 refine qD ?_ _
 go_wp2_with fail
 go_at_call 81; refine (Z1Z A op known vf vk s b 16 _ ?hrun).mono ?_
 case hrun => exact HR.out.below qL
 rintro e w1 ⟨rfl, hrun1, ho1⟩
 have HR1 := hid hrun1
 clear hrun1
 go_wp2_with fail
 refine bodyPost_end (results_none rfl _ _ _) rfl ⟨rfl, ?_, qV⟩
 rw [HX.out]
 exact HR1.out) : P := h
theorem Zal (A : Nat → Prop) (op : Bt.Op) (known : List Bt.Page) (vf vk : Value) (s : Bt.St) (b : Nat) (w : World) (h : IsRun A op known vf vk s b w) (hroot : s.root = Bt.nilP) :
 Calls Tryz.prog 56 #[.pointer (some ⟨b, 0, none⟩)] w (Z0y A op known vf vk (s.raise op known) b (.tuple #[]) w) := by
 have HX : Hid (s.raise op known = s.fail 16 []) := hid (by simp [Bt.St.raise, hroot])
 have HR := hid h
 have hlt := h.lt
 have hlt1 : b < w.heap.size + 1 := by omega
 obtain ⟨vn, vw, ve, vc, hc⟩ := h.cells
 have k34 : w.cell? ⟨b, 34, none⟩ = some (.int .i64 s.root.line) := hc 34
 have k35 : w.cell? ⟨b, 35, none⟩ = some (.int .i64 s.root.gen) := hc 35
 have eq := eql_ptr
 have hn : NoneAt w := by obtain ⟨vn, vw, ve, vc, hr, _⟩ := h; exact hr.none
 obtain ⟨g0, g1, gl⟩ := hn
 have gl1 : 0 < w.heap.size + 1 := by omega
 have hp : peq s.root.line s.root.gen 0 0 = true := by rw [Z0j]; simp [hroot]
 clear h hc hroot
 go_enter Tryz.func56, Tryz.ntmps56
 exact sG15
theorem wG14 {P : Prop} (h : P := by
 go_enter Tryz.func55, Tryz.ntmps55
 first
  | clear tg88
    exact sG15
  | clear tg89
    go_wp2_with fail
    refine qA fun hSt => ?_
    refine qS [0, 1, 2, 3, 4, 5] ?_
    iterate 6 (refine qT ?_; simp only [Act.put, qY])
    refine Z00.done ?_
    refine qD ?_ _
    go_wp2_with fail
    first
     | clear tg90
       go_cut [3, 4] (fun s3 s4 wx => ZbI A op known vf vk b t w s3 s4 wx)
       case first =>
        refine wp_region_held_drew (S := SteadyOp b _) (by kernel_rfl) (SteadyOp.of hlt qL) ?_
        intro hSt
        refine qS [0, 1, 2, 3, 4, 5, 6, 7, 8, 9, 10, 11] ?_
        iterate 12 (refine qT ?_; simp only [Act.put, qY])
        refine Z00.done ?_
        refine wpAnyH_ready (rs := [12, 17]) (by kernel_rfl) (by simp) ?_
        refine AllReadyH.cons rfl (fun K hK => ?_) (AllReadyH.cons rfl (fun K hK => ?_) (AllReadyH.nil))
        ·skip
         rw [if_pos (by rfl)]
         go_simp
         go_at_call 90; refine (Z4T A op known vf vk s b (op.level + 1) op.key t _ ?hrun ?hlow hh0 HD.out).mono ?_; (case hrun => exact HR.out.below qL); (case hlow => exact fun c hc => by have := hA c hc; simp; omega); rintro e w1 ⟨hrun1, ho1, v, rfl, hown⟩; have HR1 := hid hrun1; have HW1 := hid hown; have HO1 := hid ho1; have hsv1 := (fun (a : Addr) (m : Mode) (wx : World) => run_store Tryz.prog wx a v m (hown)); clear hrun1 hown; ((obtain ⟨hc1, hf1, hs1⟩ := qO ho1); (try have := qN0 w w1); (try have := qN1 w w1)); simp only [Z0g]
         go_wp2_with fail
         refine hK.out _ _ (SteadyOp.run qV HR.out HR1.out) (fun hHeld => ?_)
         clear hK K
         refine qS [13, 14, 15, 16] ?_
         iterate 4 (refine qT ?_; simp only [Act.put, qY])
         refine Z00.done ?_
         refine qH 17 fun K hK => ?_
         go_simp
         refine hK.out _ _ (SteadyOp.run qV HR.out (HR1.out.alloc _)) (fun hHeld => ?_)
         clear hK K
         refine qH 18 fun K hK => ?_
         go_simp
         refine hK.out _ _ (SteadyOp.run qV HR.out (HR1.out.alloc _)) (fun hHeld => ?_)
         clear hK K
         refine qS [19, 20] ?_
         iterate 2 (refine qT ?_; simp only [Act.put, qY])
         refine Z00.done ?_
         refine qD ?_ _
         go_wp2_with fail
         have ho1 := HO1.out
         have hb1 := HR1.out.lt
         go_meet
         refine ⟨rfl, rfl, ?_, qV⟩
         exact HR1.out.alloc _
        ·skip
         rw [if_pos (by rfl)]
         go_simp
         refine hK.out _ _ (SteadyOp.of hlt qL) (fun hHeld => ?_)
         clear hK K
         refine qH 12 fun K hK => ?_
         go_simp
         go_at_call 90; refine (Z4T A op known vf vk s b (op.level + 1) op.key t _ ?hrun ?hlow hh0 HD.out).mono ?_; (case hrun => exact HR.out.below qL); (case hlow => exact fun c hc => by have := hA c hc; simp; omega); rintro e w1 ⟨hrun1, ho1, v, rfl, hown⟩; have HR1 := hid hrun1; have HW1 := hid hown; have HO1 := hid ho1; have hsv1 := (fun (a : Addr) (m : Mode) (wx : World) => run_store Tryz.prog wx a v m (hown)); clear hrun1 hown; ((obtain ⟨hc1, hf1, hs1⟩ := qO ho1); (try have := qN0 w w1); (try have := qN1 w w1)); simp only [Z0g]
         go_wp2_with fail
         refine hK.out _ _ (SteadyOp.run qV HR.out HR1.out) (fun hHeld => ?_)
         clear hK K
         refine qS [13, 14, 15, 16] ?_
         iterate 4 (refine qT ?_; simp only [Act.put, qY])
         refine Z00.done ?_
         refine qH 18 fun K hK => ?_
         go_simp
         refine hK.out _ _ (SteadyOp.run qV HR.out (IsRun.put16 (A := fun c => A c ∨ w.heap.size + 1 ≤ c) (HR1.out.imp (fun c hc => hc.elim Or.inl (fun h9 => Or.inr (by simpa using h9)))) hlt (fun h1 => by exact h1.elim (fun h9 => by have := hA _ h9; omega) (fun h9 => by omega)) _ _ _ _ _ _ _ _ _ _ _ _ _ _ _ _)) (fun hHeld => ?_)
         clear hK K
         refine qS [19, 20] ?_
         iterate 2 (refine qT ?_; simp only [Act.put, qY])
         refine Z00.done ?_
         refine qD ?_ _
         go_wp2_with fail
         have ho1 := HO1.out
         have hb1 := HR1.out.lt
         go_meet
         refine ⟨rfl, rfl, ?_, qV⟩
         refine (IsRun.put16 (g := w.heap.size) (A := fun c => A c ∨ w.heap.size + 1 ≤ c) (HR1.out.imp (fun c hc => ?_)) (by omega) (fun h1 => ?_) _ _ _ _ _ _ _ _ _ _ _ _ _ _ _ _).imp (fun c hc => ?_)
         ·rcases hc with h1 | h1
          ·exact .inl h1
          ·exact .inr (by simpa using h1)
         ·rcases h1 with h1 | h1
          ·have := hA _ h1; omega
          ·omega
         ·rcases hc with h1 | h1
          ·exact .inl h1
          ·exact .inr (by omega)
       case rest =>
        rename World => wx
        obtain ⟨rfl, rfl, hrun, hov⟩ := hcut
        have HRX := hid hrun
        have HOX := hid hov
        clear hrun hov
        go_wp2_with fail
        go_at_call 81; refine (Z1Z (New A w) op known vf vk t b 16 _ ?hrun).mono ?_
        case hrun => exact HRX.out
        rintro e w2 ⟨rfl, hrun2, ho2⟩
        have HR2 := hid hrun2
        clear hrun2
        go_wp2_with fail
        have hox := HOX.out
        refine bodyPost_end (results_none rfl _ _ _) rfl ⟨rfl, ?_, qV⟩
        rw [HX.out]
        exact HR2.out.imp (fun c hc => hc.elim id (fun h9 => .inr (by have := HOX.out.size; omega)))
     | clear tg91
       go_cut [2, 3, 4] (fun s2 s3 s4 wx => Z8I A op known vf vk b t pp m w s2 s3 s4 wx)
       case first =>
        refine wp_region_held_drew (S := SteadyOp b _) (by kernel_rfl) (SteadyOp.of hlt qL) ?_
        intro hSt
        refine qS [0, 1, 2, 3, 4, 5, 6, 7, 8, 9, 10, 11] ?_
        iterate 12 (refine qT ?_; simp only [Act.put, qY])
        refine Z00.done ?_
        refine wpAnyH_ready (rs := [12, 17]) (by kernel_rfl) (by simp) ?_
        refine AllReadyH.cons rfl (fun K hK => ?_) (AllReadyH.cons rfl (fun K hK => ?_) (AllReadyH.nil))
        ·skip
         rw [if_pos (by rfl)]
         go_simp
         go_at_call 90; refine (Z2I A op known vf vk s b (op.level + 1) op.key t pp m _ ?hrun ?hlow hh0 HD.out).mono ?_; (case hrun => exact HR.out.below qL); (case hlow => exact fun c hc => by have := hA c hc; simp; omega); rintro e w1 ⟨hrun1, ho1, v, rfl, hown⟩; have HR1 := hid hrun1; have HW1 := hid hown; have HO1 := hid ho1; have hsv1 := (fun (a : Addr) (m : Mode) (wx : World) => run_store Tryz.prog wx a v m (Z0Q hown)); clear hrun1 hown; ((obtain ⟨hc1, hf1, hs1⟩ := qO ho1); (try have := qN0 w w1); (try have := qN1 w w1)); simp only [Z0g]
         go_wp2_with fail
         refine hK.out _ _ (SteadyOp.run qV HR.out HR1.out) (fun hHeld => ?_)
         clear hK K
         refine qS [13, 14, 15, 16] ?_
         iterate 4 (refine qT ?_; simp only [Act.put, qY])
         refine Z00.done ?_
         refine qH 17 fun K hK => ?_
         go_simp
         refine hK.out _ _ (SteadyOp.run qV HR.out (HR1.out.alloc _)) (fun hHeld => ?_)
         clear hK K
         refine qH 18 fun K hK => ?_
         go_simp
         refine hK.out _ _ (SteadyOp.run qV HR.out (HR1.out.alloc _)) (fun hHeld => ?_)
         clear hK K
         refine qS [19, 20] ?_
         iterate 2 (refine qT ?_; simp only [Act.put, qY])
         refine Z00.done ?_
         refine qD ?_ _
         go_wp2_with fail
         have ho1 := HO1.out
         have hb1 := HR1.out.lt
         have hz1 := World.grownBy.size HO1.out
         simp only [size_drew] at hz1
         have hv1 : v.ownBlock ≠ some w1.heap.size := fun e => by have := own_lt' HW1.out _ e; omega
         go_meet
         refine ⟨w1.heap.size, v, rfl, rfl, rfl, by omega, ?_, ?_, hv1, ?_, qV⟩
         ·exact Blk.cast (Blk.made _ _ _) rfl
         ·exact own_base (own_below HW1.out (Z06 (Below.refl _ _) _)) (by simp)
         ·exact HR1.out.alloc _
        ·skip
         rw [if_pos (by rfl)]
         go_simp
         refine hK.out _ _ (SteadyOp.of hlt qL) (fun hHeld => ?_)
         clear hK K
         refine qH 12 fun K hK => ?_
         go_simp
         go_at_call 90; refine (Z2I A op known vf vk s b (op.level + 1) op.key t pp m _ ?hrun ?hlow hh0 HD.out).mono ?_; (case hrun => exact HR.out.below qL); (case hlow => exact fun c hc => by have := hA c hc; simp; omega); rintro e w1 ⟨hrun1, ho1, v, rfl, hown⟩; have HR1 := hid hrun1; have HW1 := hid hown; have HO1 := hid ho1; have hsv1 := (fun (a : Addr) (m : Mode) (wx : World) => run_store Tryz.prog wx a v m (Z0Q hown)); clear hrun1 hown; ((obtain ⟨hc1, hf1, hs1⟩ := qO ho1); (try have := qN0 w w1); (try have := qN1 w w1)); simp only [Z0g]
         go_wp2_with fail
         refine hK.out _ _ (SteadyOp.run qV HR.out HR1.out) (fun hHeld => ?_)
         clear hK K
         refine qS [13, 14, 15, 16] ?_
         iterate 4 (refine qT ?_; simp only [Act.put, qY])
         refine Z00.done ?_
         refine qH 18 fun K hK => ?_
         go_simp
         refine hK.out _ _ (SteadyOp.run qV HR.out (IsRun.put16 (A := A) (HR1.out) hlt (fun h1 => by have := hA _ h1; omega) _ _ _ _ _ _ _ _ _ _ _ _ _ _ _ _)) (fun hHeld => ?_)
         clear hK K
         refine qS [19, 20] ?_
         iterate 2 (refine qT ?_; simp only [Act.put, qY])
         refine Z00.done ?_
         refine qD ?_ _
         go_wp2_with fail
         have ho1 := HO1.out
         have hb1 := HR1.out.lt
         have hv1 : v.ownBlock ≠ some w.heap.size := Z2F HW1.out (by simp)
         have BF0 : Blk _ w.heap.size 145 #[.int .i64 0, .int .u64 0, .int .u64 0, .int .u64 0, .int .u64 0, .int .u64 0, .int .u64 0, .int .u64 0, .int .u64 0, .int .i64 0, .bool false, .bool false, .int .u32 0, .int .i64 0, .int .i64 0, .slice none 0 0] := Blk.made w 145 #[.int .i64 0, .int .u64 0, .int .u64 0, .int .u64 0, .int .u64 0, .int .u64 0, .int .u64 0, .int .u64 0, .int .u64 0, .int .i64 0, .bool false, .bool false, .int .u32 0, .int .i64 0, .int .i64 0, .slice none 0 0]
         have BF := Blk.grown (by have B := BF0; exact qK) ho1 (by simp; omega)
         go_meet
         refine ⟨w.heap.size, v, rfl, rfl, rfl, Nat.le_refl _, ?_, ?_, hv1, ?_, qV⟩
         ·refine Blk.cast (by have B := BF; exact qK) ?_
          rw [set16]
          rfl
         ·exact Z33 (own_base HW1.out (by simp)) hv1 _ _ _ _ _ _ _ _ _ _ _ _ _ _ _ _
         ·exact IsRun.put16 HR1.out (by omega) (fun h1 => by have := hA _ h1; omega) _ _ _ _ _ _ _ _ _ _ _ _ _ _ _ _
       case rest =>
        rename World => wx
        obtain ⟨X, v, rfl, rfl, rfl, hXw, hBX, hown, hvX, hrun, hov⟩ := hcut
        obtain ⟨g, cap, rfl⟩ := Z0D hown (by omega)
        have hgl := Z0X hown
        have hg1 : w.heap.size ≤ g := hgl.1
        have hg2 : g < wx.heap.size := hgl.2
        have hXg : X < g ∨ g < X := by
         have h9 : g ≠ X := fun e => hvX (by simp [Value.ownBlock, e])
         omega
        have hXx : X < wx.heap.size := hBX.lt
        have hwx : w.heap.size ≤ wx.heap.size := hov.size
        have HBX := hid hBX
        have HRX := hid hrun
        have HMX := hid hown
        have HOX := hid hov
        have HERM : Hid (EntRow wx (.slice (some ⟨g, 0, none⟩) m.entries.length cap) m.entries) := hid (EntRow.of_own hown rfl HEM.out)
        have hcells : ∀ j u, (Z04 m.entries)[j]? = some u → wx.cell? ⟨g, j, none⟩ = some u := Z0i hown
        have c0 : wx.cell? ⟨g, c * 3, none⟩ = some (.int .u32 ek) := by rw [← HEK.out.1]; exact hcells _ _ (Z0a m.entries c m.entries[c] (List.getElem?_eq_getElem hcl) 0 _ rfl)
        have c1 : wx.cell? ⟨g, c * 3 + 1, none⟩ = some (.int .i64 q.line) := by rw [← HEK.out.2]; exact hcells _ _ (Z0a m.entries c m.entries[c] (List.getElem?_eq_getElem hcl) 1 _ rfl)
        have c2 : wx.cell? ⟨g, c * 3 + 1 + 1, none⟩ = some (.int .i64 q.gen) := by rw [← HEK.out.2]; exact hcells _ _ (Z0a m.entries c m.entries[c] (List.getElem?_eq_getElem hcl) 2 _ rfl)
        have c2' : wx.cell? ⟨g, c * 3 + 2, none⟩ = some (.int .i64 q.gen) := c2
        obtain ⟨un, uw, ue, uc, hc⟩ := hrun.cells
        have j1 : wx.cell? ⟨b, 1, none⟩ = some (.int .u32 op.key) := hc 1
        have hbx : b < wx.heap.size := hrun.lt
        have kx := hBX.cell
        rw [found_eq] at kx
        clear hc hBX hrun hown hov hcells hgl hvX k1 k5 k34 k35 g0 g1 gl gl1
        go_wp2_with fail
        refine qA fun hSt => ?_
        refine qS [0, 1, 2, 3, 4, 5, 6] ?_
        iterate 7 (refine qT ?_; simp only [Act.put, qY])
        refine Z00.done ?_
        refine qH 7 fun K hK => ?_
        go_simp
        go_at_call 91; refine (Z2v m (.slice (some ⟨g, 0, none⟩) m.entries.length cap) op.key _ ?hpf HAM.out.1 HAM.out.2).mono ?_; (case hpf => exact HERM.out.below qL); rintro e3 w3 ⟨rfl, hb3⟩; rw [← HCM.out]; ((obtain ⟨hc3, hf3, hs3⟩ := qR hb3); (try have := qN0 wx w3))
        go_wp2_with fail
        refine hK.out _ _ (SteadyAll.of qL) (fun hHeld => ?_)
        clear hK K
        refine qS [8] ?_
        refine qT ?_; simp only [Act.put, qY]
        refine Z00.done ?_
        refine qD ?_ _
        have hgw3 : g < w3.heap.size := by omega
        have hbw3 : b < w3.heap.size := by omega
        have hXw3 : X < w3.heap.size := by omega
        go_wp2_with fail
        refine qA fun hSt => ?_
        refine qS [0, 1, 2, 3, 4, 5, 6, 7, 8, 9] ?_
        iterate 10 (refine qT ?_; simp only [Act.put, qY])
        refine Z00.done ?_
        refine qH 10 fun K hK => ?_
        go_simp
        refine hK.out _ _ (SteadyAll.of qL) (fun hHeld => ?_)
        clear hK K
        refine qS [11] ?_
        refine qT ?_; simp only [Act.put, qY]
        refine Z00.done ?_
        refine qH 12 fun K hK => ?_
        go_simp
        refine hK.out _ _ (SteadyAll.of qL) (fun hHeld => ?_)
        clear hK K
        refine qD ?_ _
        go_upto_region 9 with (fail)
        have hb3x : Below wx.heap.size wx w3 := qL
        have hBX3 := HBX.out.kept hb3x
        have hR3 := HRX.out.below hb3x
        have hM3 := own_below HMX.out hb3x
        have hO3 : Over b w w3 := by have hox := HOX.out; exact qV
        generalize hw4 : World.drew (World.alloc _ (.cells #[.int .i64 q.line, .int .i64 q.gen] 27)) = w4
        have hb4 : Below w3.heap.size w3 w4 := by rw [← hw4]; exact qL
        have BY : Blk w4 w3.heap.size 27 #[.int .i64 q.line, .int .i64 q.gen] := by
         rw [← hw4]
         exact (Blk.made _ _ _).drew
        have hs4 : w4.heap.size ≤ w3.heap.size + 1 := by rw [← hw4]; simp
        have hs4b : w3.heap.size < w4.heap.size := by rw [← hw4]; simp
        have HBX4 := hid (hBX3.kept hb4)
        have HR4 := hid (hR3.below hb4)
        have HM4 := hid (own_below hM3 hb4)
        have HO4 := hid (Over.then_below hO3 hb4)
        have kY := BY.cell
        have HBY := hid BY
        have hbw4 : b < w4.heap.size := by omega
        have hgw4 : g < w4.heap.size := by omega
        have hXw4 : X < w4.heap.size := by omega
        have hYw4 : w3.heap.size < w4.heap.size := by omega
        clear hBX3 hR3 hM3 hO3 hb4 BY hw4 hb3x kx c0 c1 c2 c2' j1 hc3 hf3 hb3
        go_wp2_with fail
        go_at_call 92; refine (Z34 A op known vf vk t b q _ ?hrun ?hlow).mono ?_
        case hrun => exact HR4.out
        case hlow => exact fun c hc => by have := hA _ hc; omega
        rw [HL.out]
        rintro e w5 ⟨hrun5, ho5, u, rfl, hown5⟩
        have hz5 := World.grownBy.size ho5
        have HR5 := hid hrun5
        have HW5 := hid hown5
        have HO5 := hid ho5
        have HBX5 := hid (HBX4.out.grown ho5 (by simp; omega))
        have HBY5 := hid (HBY.out.grown ho5 (by simp; omega))
        have HM5 := hid (Z0H HM4.out ho5 (by omega))
        clear hrun5 hown5 ho5
        dsimp only
        iterate 13 go_step
        refine Z07 rfl 145 (.tmp 9) (.tmp 65) rfl (w5.heap.size) _ rfl rfl _ _ (Blk.made _ _ _) (by kernel_rfl) rfl (Z0A (Z0Q HW5.out)) (fun wy B_wy ho_wy hz_wy => ?_)
        simp only [Act.put, qY]
        have kz := B_wy.cell
        rw [found_eq] at kz
        have BX := (HBX5.out.alloc (.cells #[.int .i64 0, .int .u64 0, .int .u64 0, .int .u64 0, .int .u64 0, .int .u64 0, .int .u64 0, .int .u64 0, .int .u64 0, .int .i64 0, .bool false, .bool false, .int .u32 0, .int .i64 0, .int .i64 0, .slice none 0 0] 145)).grown ho_wy (by simp; omega)
        have BY := (HBY5.out.alloc (.cells #[.int .i64 0, .int .u64 0, .int .u64 0, .int .u64 0, .int .u64 0, .int .u64 0, .int .u64 0, .int .u64 0, .int .u64 0, .int .i64 0, .bool false, .bool false, .int .u32 0, .int .i64 0, .int .i64 0, .slice none 0 0] 145)).grown ho_wy (by simp; omega)
        have HBXY := hid BX
        have HBYY := hid BY
        have HBZ := hid B_wy
        have HRY := hid (((HR5.out.alloc (.cells #[.int .i64 0, .int .u64 0, .int .u64 0, .int .u64 0, .int .u64 0, .int .u64 0, .int .u64 0, .int .u64 0, .int .u64 0, .int .i64 0, .bool false, .bool false, .int .u32 0, .int .i64 0, .int .i64 0, .slice none 0 0] 145)).grown ho_wy (by omega) (fun h1 => by have := hA _ h1; omega)))
        have HOY : Hid (Over b w wy) := hid (Over.new (Over.alloc (Over.trans HO4.out HO5.out) _) ho_wy (by omega))
        have HMY := hid (Z13 (own_below HM5.out (Z06 (Below.refl _ _) _)) ho_wy (fun e => by simp [Value.ownBlock] at e; omega))
        obtain ⟨un2, uw2, ue2, uc2, hc2⟩ := HRY.out.cells
        have i5 : wy.cell? ⟨b, 5, none⟩ = some (.int .i64 op.level) := hc2 5
        have i12 : wy.cell? ⟨b, 12, none⟩ = some (.bool t.out.found) := hc2 12
        have if2 := HRY.out.free
        have kY2 := HBYY.out.cell
        have hcells : ∀ j u, (Z04 m.entries)[j]? = some u → wy.cell? ⟨g, j, none⟩ = some u := Z0i HMY.out
        have hby : b < wy.heap.size := HRY.out.lt
        have hzy : w5.heap.size < wy.heap.size := by rw [hz_wy]; simp
        have hzy2 : wy.heap.size ≤ w5.heap.size + 1 := by rw [hz_wy]; simp
        have hXy : X < wy.heap.size := by omega
        have hYy : w3.heap.size < wy.heap.size := by omega
        have hZy : w5.heap.size < wy.heap.size := by omega
        have hgy : g < wy.heap.size := by omega
        first
         | clear tg92
           clear hc2 B_wy ho_wy hz_wy BX BY kY hcells
           go_wp2_with fail
           refine qA fun hSt => ?_
           refine qS [0, 1, 2, 3, 4, 5, 6, 7, 8, 9] ?_
           iterate 10 (refine qT ?_; simp only [Act.put, qY])
           refine Z00.done ?_
           refine qD ?_ _
           go_wp2_with fail
           first
            | clear tg93
              have hoy := HOY.out
              refine bodyPost_end (results_none rfl _ _ _) rfl ⟨rfl, ?_, qV⟩
              rw [HX.out]
              exact (IsRun.drew (HRY.out.field (s' := { t with out := { t.out with found := true } }) 12 _ (fun _ _ _ _ => rfl))).imp (fun c hc => .inl hc)
            | clear tg94
              refine wp_region_held_drew (S := SteadyAll wy) (by kernel_rfl) (SteadyAll.of qL) ?_
              intro hSt
              refine qS [0, 1, 2, 3, 4, 5, 6, 7, 8, 9, 10, 11, 12, 13, 14] ?_
              iterate 15 (refine qT ?_; simp only [Act.put, qY])
              refine Z00.done ?_
              refine qD ?_ _
              go_wp2_with fail
              go_at_call 87; refine (Z67 w.heap.size m.entries.length n1 wy.heap.size c (.slice (some ⟨g, 0, none⟩) m.entries.length cap) m.entries ⟨xn.high, q⟩ _ ?hown rfl (by omega) (by omega) HN1.out ?hbase ?hnE 69 ?hE).mono ?_
              case hown => exact own_below HMY.out qL
              case hbase => simp only [size_alloc, size_drew]; omega
              case hnE => exact fun e => by simp [Value.ownBlock] at e; omega
              case hE => exact Blk.made' (by simp)
              rintro e6 w6 ⟨g3, cap3, rfl, hown6, hg6'⟩
              have hg6 : Over g _ w6 := hg6'
              have hz6 := World.grownBy.size hg6
              simp only [size_alloc, size_drew] at hz6
              have HW6 := hid hown6
              have hl6 := Z0X hown6
              have hg3a : w.heap.size ≤ g3 := hl6.1
              have hg3b : g3 < w6.heap.size := hl6.2
              have BX6 := (HBXY.out.kept (show Below wy.heap.size wy _ from qL)).grown hg6 (by simp; omega)
              have BZ6 := (HBZ.out.kept (show Below wy.heap.size wy _ from qL)).grown hg6 (by simp; omega)
              have hX3 : X < g3 ∨ g3 < X := by have := Z4w hown6 BX6 Z5c; omega
              have hZ3 : w5.heap.size < g3 ∨ g3 < w5.heap.size := by have := Z4w hown6 BZ6 Z5c; omega
              have kX6 := BX6.cell
              rw [found_eq] at kX6
              have kZ6 := BZ6.cell
              rw [found_eq] at kZ6
              have f3 := Z8R hown6
              have cells6 : ∀ j u, (Z04 (Bt.Z0h m.entries c ⟨xn.high, q⟩))[j]? = some u → w6.cell? ⟨g3, j, none⟩ = some u := Z0i hown6
              have d1 : w6.cell? ⟨g3, c1n * 3 + 1, none⟩ = some (.int .i64 q.line) := by rw [← HEK.out.2, HC1.out]; exact cells6 _ _ (Z0a _ (c + 1) m.entries[c] HES.out.2.2.2.2 1 _ rfl)
              have d2 : w6.cell? ⟨g3, c1n * 3 + 1 + 1, none⟩ = some (.int .i64 q.gen) := by rw [← HEK.out.2, HC1.out]; exact cells6 _ _ (Z0a _ (c + 1) m.entries[c] HES.out.2.2.2.2 2 _ rfl)
              have d2' : w6.cell? ⟨g3, c1n * 3 + 2, none⟩ = some (.int .i64 q.gen) := d2
              have hXw6 : X < w6.heap.size := BX6.lt
              have hZw6 : w5.heap.size < w6.heap.size := BZ6.lt
              have HR6 := hid (((HRY.out.below (show Below wy.heap.size wy _ from qL)).grown hg6 (by omega) (fun h1 => by have := hA _ h1; omega)))
              have HO6 : Hid (Over b w w6) := hid (Over.grow_new (by have hoy := HOY.out; exact qV) hg6 hg1)
              clear hown6 hg6' hg6 BX6 BZ6 cells6 hl6 kz kY2 i5 i12 if2 
              exact sG16
         | clear tg95
           have cp : wy.cell? ⟨g, cm * 3, none⟩ = some (.int .u32 pk) := by rw [← HPK.out]; exact hcells _ _ (Z0a m.entries cm m.entries[cm] (List.getElem?_eq_getElem hcmm) 0 _ rfl)
           clear hc2 B_wy ho_wy hz_wy BX BY kY hcells
           go_wp2_with fail
           refine qA fun hSt => ?_
           refine qS [0, 1, 2, 3, 4, 5, 6, 7, 8, 9] ?_
           iterate 10 (refine qT ?_; simp only [Act.put, qY])
           refine Z00.done ?_
           refine qD ?_ _
           go_wp2_with fail
           refine wp_region_held_drew (S := SteadyAll wy) (by kernel_rfl) (SteadyAll.of qL) ?_
           intro hSt
           refine qS [0, 1, 2, 3, 4, 5, 6, 7, 8, 9, 10, 11, 12, 13, 14] ?_
           iterate 15 (refine qT ?_; simp only [Act.put, qY])
           refine Z00.done ?_
           refine qD ?_ _
           go_wp2_with fail
           go_at_call 87; refine (Z67 w.heap.size m.entries.length n1 wy.heap.size c (.slice (some ⟨g, 0, none⟩) m.entries.length cap) m.entries ⟨xn.high, q⟩ _ ?hown rfl (by omega) (by omega) HN1.out ?hbase ?hnE 69 ?hE).mono ?_
           case hown => exact own_below HMY.out qL
           case hbase => simp only [size_alloc, size_drew]; omega
           case hnE => exact fun e => by simp [Value.ownBlock] at e; omega
           case hE => exact Blk.made' (by simp)
           rintro e6 w6 ⟨g3, cap3, rfl, hown6, hg6'⟩
           have hg6 : Over g _ w6 := hg6'
           have hz6 := World.grownBy.size hg6
           simp only [size_alloc, size_drew] at hz6
           have HW6 := hid hown6
           have hl6 := Z0X hown6
           have hg3a : w.heap.size ≤ g3 := hl6.1
           have hg3b : g3 < w6.heap.size := hl6.2
           have BX6 := (HBXY.out.kept (show Below wy.heap.size wy _ from qL)).grown hg6 (by simp; omega)
           have BZ6 := (HBZ.out.kept (show Below wy.heap.size wy _ from qL)).grown hg6 (by simp; omega)
           have hX3 : X < g3 ∨ g3 < X := by have := Z4w hown6 BX6 Z5c; omega
           have hZ3 : w5.heap.size < g3 ∨ g3 < w5.heap.size := by have := Z4w hown6 BZ6 Z5c; omega
           have kX6 := BX6.cell
           rw [found_eq] at kX6
           have kZ6 := BZ6.cell
           rw [found_eq] at kZ6
           have f3 := Z8R hown6
           have cells6 : ∀ j u, (Z04 (Bt.Z0h m.entries c ⟨xn.high, q⟩))[j]? = some u → w6.cell? ⟨g3, j, none⟩ = some u := Z0i hown6
           have d1 : w6.cell? ⟨g3, c1n * 3 + 1, none⟩ = some (.int .i64 q.line) := by rw [← HEK.out.2, HC1.out]; exact cells6 _ _ (Z0a _ (c + 1) m.entries[c] HES.out.2.2.2.2 1 _ rfl)
           have d2 : w6.cell? ⟨g3, c1n * 3 + 1 + 1, none⟩ = some (.int .i64 q.gen) := by rw [← HEK.out.2, HC1.out]; exact cells6 _ _ (Z0a _ (c + 1) m.entries[c] HES.out.2.2.2.2 2 _ rfl)
           have d2' : w6.cell? ⟨g3, c1n * 3 + 2, none⟩ = some (.int .i64 q.gen) := d2
           have hXw6 : X < w6.heap.size := BX6.lt
           have hZw6 : w5.heap.size < w6.heap.size := BZ6.lt
           have HR6 := hid (((HRY.out.below (show Below wy.heap.size wy _ from qL)).grown hg6 (by omega) (fun h1 => by have := hA _ h1; omega)))
           have HO6 : Hid (Over b w w6) := hid (Over.grow_new (by have hoy := HOY.out; exact qV) hg6 hg1)
           clear hown6 hg6' hg6 BX6 BZ6 cells6 hl6 kz kY2 i5 i12 if2 cp
           exact sG16) : P := h
theorem post_nil (A : Nat → Prop) (op : Bt.Op) (known : List Bt.Page) (vf vk : Value) (s : Bt.St) (b : Nat) (w : World) (h : IsRun A op known vf vk s b w) (hroot : s.root = Bt.nilP) :
 Calls Tryz.prog 55 #[.pointer (some ⟨b, 0, none⟩)] w (Z0y A op known vf vk (s.post op known) b (.tuple #[]) w) := by
 have HX : Hid (s.post op known = s.fail 16 []) := hid (by simp [Bt.St.post, hroot])
 have HR := hid h
 have hlt := h.lt
 have hlt1 : b < w.heap.size + 1 := by omega
 obtain ⟨vn, vw, ve, vc, hc⟩ := h.cells
 have k34 : w.cell? ⟨b, 34, none⟩ = some (.int .i64 s.root.line) := hc 34
 have k35 : w.cell? ⟨b, 35, none⟩ = some (.int .i64 s.root.gen) := hc 35
 have eq := eql_ptr
 have hn : NoneAt w := by obtain ⟨vn, vw, ve, vc, hr, _⟩ := h; exact hr.none
 obtain ⟨g0, g1, gl⟩ := hn
 have gl1 : 0 < w.heap.size + 1 := by omega
 have hp : peq s.root.line s.root.gen 0 0 = true := by rw [Z0j]; simp [hroot]
 clear h hc hroot
 have tg88 := trivial
 exact wG14
theorem wG15 {P : Prop} (h : P := by
 go_enter Tryz.func57, Tryz.ntmps57
 first
  | clear tg96
    exact sG15
  | clear tg97
    go_wp2_with fail
    refine qA fun hSt => ?_
    refine qS [0, 1, 2, 3, 4, 5] ?_
    iterate 6 (refine qT ?_; simp only [Act.put, qY])
    refine Z00.done ?_
    refine qD ?_ _
    go_wp2_with fail
    go_at_call 83; refine (Z1H A op known vf vk s b t page n _ ?hrun ?hlow hh0 HD.out).mono ?_
    case hrun => exact HR.out.below qL
    case hlow => exact fun c hc => by have := hA c hc; simp; omega
    rintro e w1 ⟨hrun1, ho1, v, rfl, hown⟩
    have hb1 := hrun1.lt
    have hv1 : ∀ c, v.ownBlock = some c → c < w1.heap.size := fun c hc => own_lt' hown c hc
    obtain ⟨va, vcp, rfl⟩ := Z38 hown
    have HR1 := hid hrun1.low
    have HOWN := hid hown
    have hsz : w.heap.size ≤ w1.heap.size := by have := World.grownBy.size ho1; simpa using this
    have HO1 := hid ho1
    clear hrun1 ho1 hown
    dsimp only
    iterate 13 go_step
    refine Z07 rfl 145 (.tmp 2) (.tmp 19) rfl (w1.heap.size) _ rfl rfl _ _ (Blk.made _ _ _) (by kernel_rfl) rfl (Z0A (Z0Q HOWN.out)) (fun wx B_wx ho_wx hz_wx => ?_)
    simp only [Act.put, qY]
    have kx := B_wx.cell
    rw [found_eq] at kx
    have HRX := hid ((HR1.out.alloc (.cells #[.int .i64 0, .int .u64 0, .int .u64 0, .int .u64 0, .int .u64 0, .int .u64 0, .int .u64 0, .int .u64 0, .int .u64 0, .int .i64 0, .bool false, .bool false, .int .u32 0, .int .i64 0, .int .i64 0, .slice none 0 0] 145)).grown ho_wx (by omega) (fun h1 => by omega))
    have HWX := hid (Z13 (own_below HOWN.out (Z06 (Below.refl _ _) _)) ho_wx (fun e => by have := hv1 _ e; omega))
    have HOX : Hid (Over b w wx) := hid (Over.new (Over.trans (Over.drew (Over.refl b w)) (Over.alloc (HO1.out) _)) ho_wx hsz)
    have HER : Hid (EntRow wx (.slice va n.entries.length vcp) n.entries) := hid (EntRow.of_own HWX.out rfl HEO.out)
    obtain ⟨un, uw, ue, uc, hc⟩ := HRX.out.cells
    have j1 : wx.cell? ⟨b, 1, none⟩ = some (.int .u32 op.key) := hc 1
    have j12 : wx.cell? ⟨b, 12, none⟩ = some (.bool t.out.found) := hc 12
    have j18 : wx.cell? ⟨b, 18, none⟩ = some (.int .i64 t.out.to.line) := hc 18
    have j19 : wx.cell? ⟨b, 19, none⟩ = some (.int .i64 t.out.to.gen) := hc 19
    have jf := HRX.out.free
    have hbx : b < wx.heap.size := HRX.out.lt
    have hgx : w1.heap.size < wx.heap.size := by rw [hz_wx]; simp
    have hgx2 : wx.heap.size ≤ w1.heap.size + 1 := by rw [hz_wx]; simp
    have hn2 : NoneAt wx := by obtain ⟨vn, vw, ve, vc, hr, _⟩ := HRX.out; exact hr.none
    have hgb : 0 < b := by obtain ⟨vn, vw, ve, vc, hr, _⟩ := HRX.out; exact hr.pos
    obtain ⟨g02, g12, gl3⟩ := hn2
    have HBX := hid B_wx
    clear hc B_wx ho_wx hz_wx
    go_wp2_with fail
    first
     | clear tg98
       go_at_call 90; refine (Z4T (fun c => A c ∧ c < w1.heap.size) op known vf vk t b 1 op.key t2 _ ?hrun ?hlow hh1 HD2.out).mono ?_
       case hrun => exact HRX.out
       case hlow => exact fun c hc => by have := hc.2; omega
       rintro e w2 ⟨hrun2, ho2, u, rfl, hone⟩
       have HR2 := hid hrun2.low
       have HO2 := hid ho2
       have HONE := hid hone
       have hz2 := World.grownBy.size ho2
       have hb2 := hrun2.lt
       clear hrun2 ho2 hone
       dsimp only
       iterate 16 go_step
       refine Z07 rfl 145 (.tmp 4) (.tmp 52) rfl (w2.heap.size) _ rfl rfl _ _ (Blk.made _ _ _) (by kernel_rfl) rfl (Z0A HONE.out) (fun wy B_wy ho_wy hz_wy => ?_)
       simp only [Act.put, qY]
       have HRY := hid ((HR2.out.alloc (.cells #[.int .i64 0, .int .u64 0, .int .u64 0, .int .u64 0, .int .u64 0, .int .u64 0, .int .u64 0, .int .u64 0, .int .u64 0, .int .i64 0, .bool false, .bool false, .int .u32 0, .int .i64 0, .int .i64 0, .slice none 0 0] 145)).grown ho_wy (by omega) (fun h1 => by omega))
       have HOY : Hid (Over b w wy) := hid (Over.new (Over.alloc (Over.trans HOX.out HO2.out) _) ho_wy (by omega))
       clear B_wy ho_wy hz_wy
       go_wp2_with fail
       go_at_call 81; refine (Z1Z _ op known vf vk t2 b 7 _ HRY.out).mono ?_
       rintro e w3 ⟨rfl, hrun3, ho3⟩
       have HR3 := hid hrun3
       clear hrun3
       go_wp2_with fail
       have hoy := HOY.out
       refine bodyPost_end (results_none rfl _ _ _) rfl ⟨rfl, ?_, qV⟩
       rw [HX.out]
       have hz3 := World.grownBy.size ho3
       have hoz := World.grownBy.size hoy
       refine HR3.out.imp (fun c hc => ?_)
       rcases hc with h1 | h1
       ·rcases h1.1 with h2 | h2
        ·exact .inl h2.1
        ·exact .inr (by omega)
       ·exact .inr (by omega)
     | clear tg99
       go_at_call 90; refine (Z2I (fun c => A c ∧ c < w1.heap.size) op known vf vk t b 1 op.key t2 pp m _ ?hrun ?hlow hh1 HD2.out).mono ?_
       case hrun => exact HRX.out
       case hlow => exact fun c hc => by have := hc.2; omega
       rintro e w2 ⟨hrun2, ho2, u, rfl, hown2⟩
       obtain ⟨g, cap, rfl⟩ := Z0D hown2 (by omega)
       have hgl := Z0X hown2
       have hg1 : wx.heap.size ≤ g := hgl.1
       have hg2 : g < w2.heap.size := hgl.2
       have HR2 := hid hrun2
       have HW2 := hid hown2
       have HO2 := hid ho2
       have hz2 := World.grownBy.size ho2
       have HBX2 := hid (HBX.out.grown ho2 (by simp; omega))
       have HWX2 := hid (Z0H (own_base HWX.out (base' := b + 1) (by simp; omega)) ho2 (by omega))
       clear hrun2 hown2 ho2 hgl
       dsimp only
       iterate 16 go_step
       refine Z07 rfl 145 (.tmp 4) (.tmp 52) rfl (w2.heap.size) _ rfl rfl _ _ (Blk.made _ _ _) (by kernel_rfl) rfl (Z0A rfl) (fun wy B_wy ho_wy hz_wy => ?_)
       simp only [Act.put, qY]
       have ky := B_wy.cell
       rw [found_eq] at ky
       have BX := (HBX2.out.alloc (.cells #[.int .i64 0, .int .u64 0, .int .u64 0, .int .u64 0, .int .u64 0, .int .u64 0, .int .u64 0, .int .u64 0, .int .u64 0, .int .i64 0, .bool false, .bool false, .int .u32 0, .int .i64 0, .int .i64 0, .slice none 0 0] 145)).grown ho_wy (by simp; omega)
       have kx2 := BX.cell
       rw [found_eq] at kx2
       have hfx2 := BX.free
       have hfy2 := B_wy.free
       have HBXY := hid BX
       have HBY := hid B_wy
       have HRY := hid (((HR2.out.alloc (.cells #[.int .i64 0, .int .u64 0, .int .u64 0, .int .u64 0, .int .u64 0, .int .u64 0, .int .u64 0, .int .u64 0, .int .u64 0, .int .i64 0, .bool false, .bool false, .int .u32 0, .int .i64 0, .int .i64 0, .slice none 0 0] 145)).grown ho_wy (by omega) (fun h1 => by omega)))
       have HOY : Hid (Over b w wy) := hid (Over.new (Over.alloc (Over.trans HOX.out HO2.out) _) ho_wy (by omega))
       have HWXY := hid (Z13 (own_below HWX2.out (Z06 (Below.refl _ _) _)) ho_wy (fun e => by have := hv1 _ e; omega))
       have HMY := hid (Z13 (own_below HW2.out (Z06 (Below.refl _ _) _)) ho_wy (fun e => by simp [Value.ownBlock] at e; omega))
       have HERM : Hid (EntRow wy (.slice (some ⟨g, 0, none⟩) m.entries.length cap) m.entries) := hid (EntRow.of_own HMY.out rfl HEM.out)
       have hcells : ∀ j u, (Z04 m.entries)[j]? = some u → wy.cell? ⟨g, j, none⟩ = some u := Z0i HMY.out
       have c0 : wy.cell? ⟨g, c * 3, none⟩ = some (.int .u32 ek) := by rw [← HEK.out.1]; exact hcells _ _ (Z0a m.entries c m.entries[c] (List.getElem?_eq_getElem hcl) 0 _ rfl)
       have c1 : wy.cell? ⟨g, c * 3 + 1, none⟩ = some (.int .i64 q.line) := by rw [← HEK.out.2]; exact hcells _ _ (Z0a m.entries c m.entries[c] (List.getElem?_eq_getElem hcl) 1 _ rfl)
       have c2 : wy.cell? ⟨g, c * 3 + 1 + 1, none⟩ = some (.int .i64 q.gen) := by rw [← HEK.out.2]; exact hcells _ _ (Z0a m.entries c m.entries[c] (List.getElem?_eq_getElem hcl) 2 _ rfl)
       have c2' : wy.cell? ⟨g, c * 3 + 2, none⟩ = some (.int .i64 q.gen) := c2
       have hi1 : (0 : Int) ≤ c := by omega
       have hi2 : (c : Int) < m.entries.length := by omega
       obtain ⟨un2, uw2, ue2, uc2, hc2⟩ := HRY.out.cells
       have i1 : wy.cell? ⟨b, 1, none⟩ = some (.int .u32 op.key) := hc2 1
       have i12 : wy.cell? ⟨b, 12, none⟩ = some (.bool t2.out.found) := hc2 12
       have if2 := HRY.out.free
       have hby : b < wy.heap.size := HRY.out.lt
       have hxy : w1.heap.size < wy.heap.size := by rw [hz_wy]; simp; omega
       have hyy : w2.heap.size < wy.heap.size := by rw [hz_wy]; simp
       have hyy2 : wy.heap.size ≤ w2.heap.size + 1 := by rw [hz_wy]; simp
       have hgy : g < wy.heap.size := by omega
       clear hc2 B_wy ho_wy hz_wy BX hcells
       go_wp2_with fail
       refine qA fun hSt => ?_
       refine qS [0, 1, 2, 3, 4, 5, 6] ?_
       iterate 7 (refine qT ?_; simp only [Act.put, qY])
       refine Z00.done ?_
       refine qH 7 fun K hK => ?_
       go_simp
       go_at_call 91; refine (Z2v m (.slice (some ⟨g, 0, none⟩) m.entries.length cap) op.key _ ?hpf HAM.out.1 HAM.out.2).mono ?_; (case hpf => exact HERM.out.below qL); rintro e3 w3 ⟨rfl, hb3⟩; rw [← HCM.out]; ((obtain ⟨hc3, hf3, hs3⟩ := qR hb3); (try have := qN0 w w3); (try have := qN0 w1 w3); (try have := qN0 w2 w3); (try have := qN0 wy w3))
       go_wp2_with fail
       refine hK.out _ _ (SteadyAll.of qL) (fun hHeld => ?_)
       clear hK K
       refine qS [8] ?_
       refine qT ?_; simp only [Act.put, qY]
       refine Z00.done ?_
       refine qD ?_ _
       have hgw3 : g < w3.heap.size := by omega
       have hbw3 : b < w3.heap.size := by omega
       go_wp2_with fail
       refine qA fun hSt => ?_
       refine qS [0, 1, 2, 3, 4, 5, 6] ?_
       iterate 7 (refine qT ?_; simp only [Act.put, qY])
       refine Z00.done ?_
       refine qH 7 fun K hK => ?_
       go_simp
       go_at_call 33; refine (Z4r page HPO.out _).mono ?_; rintro e4 w4 ⟨rfl, hb4⟩; ((obtain ⟨hc4, hf4, hs4⟩ := qR hb4); (try have := qN0 w w4); (try have := qN0 w1 w4); (try have := qN0 w2 w4); (try have := qN0 wy w4); (try have := qN0 w3 w4)); simp only [Bt.Ptr.cells]
       go_wp2_with fail
       refine hK.out _ _ (SteadyAll.of qL) (fun hHeld => ?_)
       clear hK K
       refine qS [8, 9, 10, 11, 12, 13, 14, 15, 16, 17, 18, 19, 20] ?_
       iterate 13 (refine qT ?_; simp only [Act.put, qY])
       refine Z00.done ?_
       refine qD ?_ _
       have hgw4 : g < w4.heap.size := by omega
       have hbw4 : b < w4.heap.size := by omega
       go_wp2_with fail
       first
        | clear tg100
          have hoy := HOY.out
          refine bodyPost_end (results_none rfl _ _ _) rfl ⟨rfl, ?_, qV⟩
          rw [HX.out]
          exact ((HRY.out.below (show Below wy.heap.size wy w4 from qL)).field (s' := { t2 with out := { t2.out with found := true } }) 12 _ (fun _ _ _ _ => rfl)).imp (fun c hc => .inl hc.1)
        | clear tg101
          go_at_call 88; refine (Z7P wx.heap.size g m.entries.length cap c m.entries _ ?hown rfl hcl (by omega)).mono ?_
          case hown => exact Z0G (p := ⟨w1.heap.size, 11, none⟩) (own_below HMY.out (show Below wy.heap.size wy w4 from qL)) (fun e => by simp [Value.ownBlock] at e; omega) _
          rintro e5 w5 ⟨rfl, hown5, hg5⟩
          have HD5 := hid hown5
          have HG5 := hid hg5
          ((obtain ⟨hc5, hf5, hs5⟩ := qO hg5); (try have := qN0 w w5); (try have := qN0 w1 w5); (try have := qN0 w2 w5); (try have := qN0 wy w5); (try have := qN0 w3 w5); (try have := qN0 w4 w5))
          have hbw5 : b < w5.heap.size := by omega
          clear hown5
          go_upto_region 14 with (fail)
          obtain ⟨wz, hwz⟩ : ∃ wz, wz = w5.setCell ⟨w2.heap.size, 15, none⟩ (.slice (some ⟨g, 0, none⟩) (m.entries.length - 1) cap) := ⟨_, rfl⟩
          rw [← hwz]
          have hgx1 : w1.heap.size ≠ g := by omega
          have hgx2 : w2.heap.size ≠ g := by omega
          have hWy4 : Below wy.heap.size wy w4 := qL
          have hzz : wz.heap.size = w5.heap.size := by rw [hwz]; simp [World.setCell]
          have HBXZ : Hid (Blk wz w1.heap.size 145 (Z0g page { n with dead := true } (.slice va n.entries.length vcp))) := hid (by
           have B1 := ((HBXY.out.kept hWy4).put 11 (.bool true)).grown HG5.out (by simp; omega)
           rw [hwz]
           refine Blk.cast (by have B := B1; exact qK) ?_
           rfl)
          have HBYZ : Hid (Blk wz w2.heap.size 145 (Z0g pp { m with entries := ds } (.slice (some ⟨g, 0, none⟩) (m.entries.length - 1) cap))) := hid (by
           have B1 := ((HBY.out.kept hWy4).aside (p := ⟨w1.heap.size, 11, none⟩) (by show w2.heap.size ≠ w1.heap.size; omega) (.bool true)).grown HG5.out (by simp; omega)
           rw [hwz]
           refine Blk.cast (by have B := B1; exact qK) ?_
           rfl)
          have HRZ : Hid (IsRun (fun c => A c ∧ c < w1.heap.size) op known vf vk t2 b wz) := hid (by
           rw [hwz]
           exact ((((HRY.out.below hWy4).cell (by omega) (fun h1 => by omega) 11 (.bool true)).grown HG5.out (by omega) (fun h1 => by omega)).cell (by omega) (fun h1 => by omega) 15 _))
          have HOZ : Hid (Over b w wz) := hid (by
           have hoy := HOY.out
           have o4 : Over b w w4 := qV
           rw [hwz]
           exact Over.own (Over.grow_new (Over.own o4 (p := ⟨w1.heap.size, 11, none⟩) (by show w.heap.size ≤ w1.heap.size; omega) (.bool true)) HG5.out (by omega)) (p := ⟨w2.heap.size, 15, none⟩) (by show w.heap.size ≤ w2.heap.size; omega) _)
          have HE1 : Hid (EntRow wz (.slice va n.entries.length vcp) n.entries) := hid (EntRow.of_own (by
           rw [hwz]
           exact Z0G (p := ⟨w2.heap.size, 15, none⟩) (Z13 (Z0G (p := ⟨w1.heap.size, 11, none⟩) (own_below HWXY.out hWy4) (fun e => by have h9 : w1.heap.size < w1.heap.size := hv1 _ e; omega) (.bool true)) HG5.out (fun e => by have := hv1 _ e; omega)) (fun e => by have h9 : w2.heap.size < w1.heap.size := hv1 _ e; omega) _) rfl HEO.out)
          have HE2 : Hid (EntRow wz (.slice (some ⟨g, 0, none⟩) (m.entries.length - 1) cap) ds) := hid (EntRow.of_own (by
           rw [hwz, HDS.out.1]
           exact Z0G (p := ⟨w2.heap.size, 15, none⟩) HD5.out (fun e => by simp [Value.ownBlock] at e; omega) _) HDS.out.2.1 HDS.out.2.2)
          have kxz := HBXZ.out.cell
          rw [found_eq] at kxz
          have kyz := HBYZ.out.cell
          rw [found_eq] at kyz
          have hbz : b < wz.heap.size := by omega
          have hxz : w1.heap.size < wz.heap.size := by omega
          have hyz : w2.heap.size < wz.heap.size := by omega
          have hb1x : b < w1.heap.size := hb1
          have hb2x : b < w2.heap.size := by omega
          clear hwz hzz kx2 hfx2 hfy2 ky i12 if2 hg5 c0 c1 c2 c2' hWy4 hk2 bl bl2
          refine qB (b) fun hSt => ?_
          refine qS [0, 1, 2, 3, 4, 6, 7, 8, 9] ?_
          iterate 9 (refine qT ?_; simp only [Act.put, qY])
          refine Z00.done ?_
          refine qH 5 fun K hK => ?_
          go_simp
          go_at_call 64; refine (Z2g ({ n with dead := true } : Bt.Node) (.slice va n.entries.length vcp) page HPO.out HNO.out _ ?hpf).mono ?_; (case hpf => exact HE1.out.below qL); rintro e6 w6 ⟨rfl, hb6⟩; rw [HFC.out]; ((obtain ⟨hc6, hf6, hs6⟩ := qR hb6); (try have := qN0 w w6); (try have := qN0 w1 w6); (try have := qN0 w2 w6); (try have := qN0 wz w6))
          go_wp2_with fail
          refine hK.out _ _ (SteadyBut.of qL) (fun hHeld => ?_)
          clear hK K
          refine qH 10 fun K hK => ?_
          go_simp
          go_at_call 64; refine (Z2g ({ m with entries := ds } : Bt.Node) (.slice (some ⟨g, 0, none⟩) (m.entries.length - 1) cap) pp HPP.out HNM.out _ ?hpf).mono ?_; (case hpf => exact HE2.out.below qL); rintro e7 w7 ⟨rfl, hb7⟩; rw [HFM.out]; ((obtain ⟨hc7, hf7, hs7⟩ := qR hb7); (try have := qN0 w w7); (try have := qN0 w1 w7); (try have := qN0 w2 w7); (try have := qN0 wz w7))
          go_wp2_with fail
          refine hK.out _ _ (SteadyBut.of qL) (fun hHeld => ?_)
          clear hK K
          refine qH 11 fun K hK => ?_
          go_simp
          refine hK.out _ _ (SteadyBut.of qL) (fun hHeld => ?_)
          clear hK K
          refine qH 12 fun K hK => ?_
          go_simp
          go_at_call 94; refine (Z5g (fun c => (A c ∧ c < w1.heap.size) ∨ wz.heap.size ≤ c) op known vf vk t2 b [({ n with dead := true } : Bt.Node).fill page, ({ m with entries := ds } : Bt.Node).fill pp] _ 2 2 _ ?hrun ?hw ?hG).mono ?_; (case hrun => exact (HRZ.out.imp (fun c hc => Or.inl hc)).below qL); (case hw => exact own_pages2' (by simp) (by omega)); (case hG => exact Or.inr (by omega)); rintro e8 w8 ⟨rfl, hrun8, ho8⟩; have HR8 := hid hrun8; clear hrun8
          go_wp2_with fail
          refine hK.out _ _ (SteadyBut.over (Over.trans qV ho8)) (fun hHeld => ?_)
          clear hK K
          refine qD ?_ _
          go_wp2_with fail
          have hoz := HOZ.out
          refine bodyPost_end (results_none rfl _ _ _) rfl ⟨rfl, ?_, qV⟩
          rw [HX.out]
          refine HR8.out.imp (fun c hc => ?_)
          rcases hc with h1 | h1
          ·rcases h1 with h1 | h1
           ·exact .inl h1.1
           ·exact .inr (by omega)
          ·exact .inr (by have h9 := h1; simp only [size_alloc] at h9; omega)) : P := h
theorem Zbw (A : Nat → Prop) (op : Bt.Op) (known : List Bt.Page) (vf vk : Value) (s : Bt.St) (b : Nat) (w : World) (h : IsRun A op known vf vk s b w) (hroot : s.root = Bt.nilP) :
 Calls Tryz.prog 57 #[.pointer (some ⟨b, 0, none⟩)] w (Z0y A op known vf vk (s.kill op known) b (.tuple #[]) w) := by
 have HX : Hid (s.kill op known = s.fail 16 []) := hid (by simp [Bt.St.kill, hroot])
 have HR := hid h
 have hlt := h.lt
 have hlt1 : b < w.heap.size + 1 := by omega
 obtain ⟨vn, vw, ve, vc, hc⟩ := h.cells
 have k34 : w.cell? ⟨b, 34, none⟩ = some (.int .i64 s.root.line) := hc 34
 have k35 : w.cell? ⟨b, 35, none⟩ = some (.int .i64 s.root.gen) := hc 35
 have eq := eql_ptr
 have hn : NoneAt w := by obtain ⟨vn, vw, ve, vc, hr, _⟩ := h; exact hr.none
 obtain ⟨g0, g1, gl⟩ := hn
 have gl1 : 0 < w.heap.size + 1 := by omega
 have hp : peq s.root.line s.root.gen 0 0 = true := by rw [Z0j]; simp [hroot]
 clear h hc hroot
 have tg96 := trivial
 exact wG15
theorem wG16 {P : Prop} (h : P := by
 go_enter Tryz.func58, Tryz.ntmps58
 first
  | clear tg102
    exact sG15
  | clear tg103
    go_wp2_with fail
    refine qA fun hSt => ?_
    refine qS [0, 1, 2, 3, 4, 5] ?_
    iterate 6 (refine qT ?_; simp only [Act.put, qY])
    refine Z00.done ?_
    refine qD ?_ _
    go_wp2_with fail
    go_at_call 83; refine (Z1H A op known vf vk s b t page n _ ?hrun ?hlow hh0 HD.out).mono ?_
    case hrun => exact HR.out.below qL
    case hlow => exact fun c hc => by have := hA c hc; simp; omega
    rintro e w1 ⟨hrun1, ho1, v, rfl, hown⟩
    have hb1 := hrun1.lt
    have hv1 : ∀ c, v.ownBlock = some c → c < w1.heap.size := fun c hc => own_lt' hown c hc
    have HR1 := hid hrun1.low
    have HOWN := hid hown
    have hsz : w.heap.size ≤ w1.heap.size := by have := World.grownBy.size ho1; simpa using this
    have HO1 := hid ho1
    clear hrun1 ho1 hown
    dsimp only
    iterate 13 go_step
    refine Z07 rfl 145 (.tmp 2) (.tmp 16) rfl (w1.heap.size) _ rfl rfl _ _ (Blk.made _ _ _) (by kernel_rfl) rfl (Z0A (Z0Q HOWN.out)) (fun wx B_wx ho_wx hz_wx => ?_)
    simp only [Act.put, qY]
    have kx := B_wx.cell
    rw [found_eq] at kx
    have HRX := hid ((HR1.out.alloc (.cells #[.int .i64 0, .int .u64 0, .int .u64 0, .int .u64 0, .int .u64 0, .int .u64 0, .int .u64 0, .int .u64 0, .int .u64 0, .int .i64 0, .bool false, .bool false, .int .u32 0, .int .i64 0, .int .i64 0, .slice none 0 0] 145)).grown ho_wx (by omega) (fun h1 => by omega))
    have HWX := hid (Z13 (own_below HOWN.out (Z06 (Below.refl _ _) _)) ho_wx (fun e => by have := hv1 _ e; omega))
    have HOX : Hid (Over b w wx) := hid (Over.new (Over.trans (Over.drew (Over.refl b w)) (Over.alloc (HO1.out) _)) ho_wx hsz)
    have HER : Hid (EntRow wx v n.entries) := hid (EntRow.of_own HWX.out rfl HEO.out)
    obtain ⟨un, uw, ue, uc, hc⟩ := HRX.out.cells
    have j12 : wx.cell? ⟨b, 12, none⟩ = some (.bool t.out.found) := hc 12
    have j18 : wx.cell? ⟨b, 18, none⟩ = some (.int .i64 t.out.to.line) := hc 18
    have j19 : wx.cell? ⟨b, 19, none⟩ = some (.int .i64 t.out.to.gen) := hc 19
    have jf := HRX.out.free
    have hbx : b < wx.heap.size := HRX.out.lt
    have hgx : w1.heap.size < wx.heap.size := by rw [hz_wx]; simp
    have hgx2 : wx.heap.size ≤ w1.heap.size + 1 := by rw [hz_wx]; simp
    have hn2 : NoneAt wx := by obtain ⟨vn, vw, ve, vc, hr, _⟩ := HRX.out; exact hr.none
    have hgb : 0 < b := by obtain ⟨vn, vw, ve, vc, hr, _⟩ := HRX.out; exact hr.pos
    obtain ⟨g02, g12, gl3⟩ := hn2
    have HBX := hid B_wx
    clear hc B_wx ho_wx hz_wx
    go_wp2_with fail
    first
     | clear tg104
       have hox := HOX.out
       refine bodyPost_end (results_none rfl _ _ _) rfl ⟨rfl, ?_, qV⟩
       rw [HX.out]
       exact (HRX.out.field (s' := { t with out := { t.out with found := true } }) 12 _ (fun _ _ _ _ => rfl)).imp (fun c hc => .inl hc.1)
     | clear tg105
       go_at_call 92; refine (Z34 (fun c => A c ∧ c < w1.heap.size) op known vf vk t b n.right _ ?hrun ?hlow).mono ?_
       case hrun => exact HRX.out
       case hlow => exact fun c hc => by have := hc.2; omega
       rw [HL.out]
       rintro e w2 ⟨hrun2, ho2, u, rfl, hown2⟩
       have HR2 := hid hrun2
       have HW2 := hid hown2
       have HO2 := hid ho2
       have hu2 : ∀ c, u.ownBlock = some c → wx.heap.size ≤ c ∧ c < w2.heap.size := fun c hc => ⟨Z0k hown2 c hc, own_lt' hown2 c hc⟩
       have hz2 := World.grownBy.size ho2
       have HBX2 := hid (HBX.out.grown ho2 (by simp; omega))
       have HWX2 := hid (Z0H (own_base HWX.out (base' := b + 1) (by simp; omega)) ho2 (by omega))
       clear hrun2 hown2 ho2
       dsimp only
       iterate 13 go_step
       refine Z07 rfl 145 (.tmp 4) (.tmp 35) rfl (w2.heap.size) _ rfl rfl _ _ (Blk.made _ _ _) (by kernel_rfl) rfl (Z0A (Z0Q HW2.out)) (fun wy B_wy ho_wy hz_wy => ?_)
       simp only [Act.put, qY]
       have ky := B_wy.cell
       rw [found_eq] at ky
       have BX := (HBX2.out.alloc (.cells #[.int .i64 0, .int .u64 0, .int .u64 0, .int .u64 0, .int .u64 0, .int .u64 0, .int .u64 0, .int .u64 0, .int .u64 0, .int .i64 0, .bool false, .bool false, .int .u32 0, .int .i64 0, .int .i64 0, .slice none 0 0] 145)).grown ho_wy (by simp; omega)
       have kx2 := BX.cell
       rw [found_eq] at kx2
       have hfx2 := BX.free
       have HBXY := hid BX
       have HBY := hid B_wy
       have HRY := hid (((HR2.out.alloc (.cells #[.int .i64 0, .int .u64 0, .int .u64 0, .int .u64 0, .int .u64 0, .int .u64 0, .int .u64 0, .int .u64 0, .int .u64 0, .int .i64 0, .bool false, .bool false, .int .u32 0, .int .i64 0, .int .i64 0, .slice none 0 0] 145)).grown ho_wy (by omega) (fun h1 => by omega)))
       have HOY : Hid (Over b w wy) := hid (Over.new (Over.alloc (Over.trans HOX.out HO2.out) _) ho_wy (by omega))
       have HWXY := hid (Z13 (own_below HWX2.out (Z06 (Below.refl _ _) _)) ho_wy (fun e => by have := hv1 _ e; omega))
       obtain ⟨un2, uw2, ue2, uc2, hc2⟩ := HRY.out.cells
       have i12 : wy.cell? ⟨b, 12, none⟩ = some (.bool t.out.found) := hc2 12
       have i18 : wy.cell? ⟨b, 18, none⟩ = some (.int .i64 t.out.to.line) := hc2 18
       have i19 : wy.cell? ⟨b, 19, none⟩ = some (.int .i64 t.out.to.gen) := hc2 19
       have if2 := HRY.out.free
       have hby : b < wy.heap.size := HRY.out.lt
       have hxy : w1.heap.size < wy.heap.size := by rw [hz_wy]; simp; omega
       have hyy : w2.heap.size < wy.heap.size := by rw [hz_wy]; simp
       have hyy2 : wy.heap.size ≤ w2.heap.size + 1 := by rw [hz_wy]; simp
       clear hc2 B_wy ho_wy hz_wy BX
       first
        | clear tg106
          go_wp2_with fail
          have hoy := HOY.out
          refine bodyPost_end (results_none rfl _ _ _) rfl ⟨rfl, ?_, qV⟩
          rw [HX.out]
          exact (HRY.out.field (s' := { t with out := { t.out with found := true } }) 12 _ (fun _ _ _ _ => rfl)).imp (fun c hc => .inl hc.1)
        | clear tg107
          go_upto_region 14 with (fail)
          obtain ⟨wz, hwz⟩ : ∃ wz, wz = (((wy.setCell ⟨b, 18, none⟩ (.int .i64 n.right.line)).setCell ⟨b, 19, none⟩ (.int .i64 n.right.gen)).setCell ⟨w1.heap.size, 13, none⟩ (.int .i64 d.right.line)).setCell ⟨w1.heap.size, 14, none⟩ (.int .i64 d.right.gen) := ⟨_, rfl⟩
          rw [← hwz]
          have hnb2 : v.ownBlock ≠ some b := Z2F HOWN.out (by simp; omega)
          have hnx : v.ownBlock ≠ some w1.heap.size := fun e => by have := hv1 _ e; omega
          have HBXZ : Hid (Blk wz w1.heap.size 145 (Z0g page { n with right := d.right } v)) := hid (by
           have BX := HBXY.out
           rw [hwz]
           refine Blk.cast (by have B := BX; exact qK) ?_
           rfl)
          have HBYZ : Hid (Blk wz w2.heap.size 145 (Z0g dp d u)) := hid (by
           have BX := HBY.out
           rw [hwz]
           refine Blk.cast (by have B := BX; exact qK) ?_
           rfl)
          have HRZ : Hid (IsRun (fun c => A c ∧ c < w1.heap.size) op known vf vk ({ t with out := t.out.withTo n.right } : Bt.St) b wz) := hid (by
           rw [hwz]
           exact (((HRY.out.field (s' := { t with out := t.out.withTo ⟨n.right.line, t.out.to.gen⟩ }) 18 _ (fun _ _ _ _ => rfl)).field (s' := { t with out := t.out.withTo n.right }) 19 _ (fun _ _ _ _ => rfl)).cell (by omega) (fun h1 => by omega) 13 _).cell (by omega) (fun h1 => by omega) 14 _)
          have HOZ : Hid (Over b w wz) := hid (by
           have hoy := HOY.out
           rw [hwz]
           exact qV)
          have HERZ : Hid (EntRow wz v n.entries) := hid (EntRow.of_own (by
           rw [hwz]
           exact Z0G (p := ⟨w1.heap.size, 14, none⟩) (Z0G (p := ⟨w1.heap.size, 13, none⟩) (Z0G (p := ⟨b, 19, none⟩) (Z0G (p := ⟨b, 18, none⟩) HWXY.out hnb2 _) hnb2 _) hnx _) hnx _) rfl HEO.out)
          have hzz : wz.heap.size = wy.heap.size := by rw [hwz]; simp [World.setCell]
          have kxz := HBXZ.out.cell
          rw [found_eq] at kxz
          have kyz := HBYZ.out.cell
          rw [found_eq] at kyz
          have hbz : b < wz.heap.size := by omega
          have hxz : w1.heap.size < wz.heap.size := by omega
          have hyz : w2.heap.size < wz.heap.size := by omega
          have hb1x : b < w1.heap.size := hb1
          have hb2x : b < w2.heap.size := by omega
          clear hwz hzz kx2 hfx2 ky i12 i18 i19 if2
          refine qB (b) fun hSt => ?_
          refine qS [0, 1, 2, 3, 4, 7, 8, 9] ?_
          iterate 8 (refine qT ?_; simp only [Act.put, qY])
          refine Z00.done ?_
          refine wpAnyH_ready (rs := [5, 10]) (by kernel_rfl) (by simp) ?_
          refine AllReadyH.cons rfl (fun K hK => ?_) (AllReadyH.cons rfl (fun K hK => ?_) (AllReadyH.nil))
          ·skip
           rw [if_pos (by rfl)]
           go_simp
           go_at_call 64; refine (Z2g ({ n with right := d.right } : Bt.Node) v page HPO.out HNO.out _ ?hpf).mono ?_; (case hpf => exact HERZ.out.below qL); rintro e5 w5 ⟨rfl, hb5⟩; rw [HFC.out]; ((obtain ⟨hc6, hf6, hs6⟩ := qR hb5); (try have := qN0 w w5); (try have := qN0 w1 w5); (try have := qN0 wz w5))
           go_wp2_with fail
           refine hK.out _ _ (SteadyBut.of qL) (fun hHeld => ?_)
           clear hK K
           refine wpAnyH_ready (rs := [6, 10]) (by kernel_rfl) (by simp) ?_
           refine AllReadyH.cons rfl (fun K hK => ?_) (AllReadyH.cons rfl (fun K hK => ?_) (AllReadyH.nil))
           ·skip
            rw [if_pos (by rfl)]
            go_simp
            refine hK.out _ _ (SteadyBut.of qL) (fun hHeld => ?_)
            clear hK K
            refine qH 10 fun K hK => ?_
            go_simp
            refine hK.out _ _ (SteadyBut.of qL) (fun hHeld => ?_)
            clear hK K
            refine qH 11 fun K hK => ?_
            go_simp
            go_at_call 94; refine (Z5u (fun c => A c ∧ c < w1.heap.size) op known vf vk ({ t with out := t.out.withTo n.right } : Bt.St) b wz.heap.size [({ n with right := d.right } : Bt.Node).fill page] [dp.line] _ ?hrun ?hAN ?hNG ?hNg ?hGg ?hw ?hq rfl (by simp)).mono ?_; (case hrun => exact HRZ.out.below qL); (case hAN => exact fun c hc => by have := hc.2; omega); (case hNG => omega); (case hNg => omega); (case hGg => omega); (case hw => exact own_below (own_pages1' rfl (by omega)) qL); (case hq => exact own_line1' (by simp) (by omega)); rintro e7 w7 ⟨rfl, hrun7, k7, hk7, ho7⟩; have HR7 := hid hrun7; have HO7 := hid (And.intro hk7 ho7); clear hrun7 ho7 hk7
            go_wp2_with fail
            refine hK.out _ _ (SteadyBut.over (Over.two qV HO7.out.2 HO7.out.1)) (fun hHeld => ?_)
            clear hK K
            refine qD ?_ _
            go_wp2_with fail
            have hoz := HOZ.out
            refine bodyPost_end (results_none rfl _ _ _) rfl ⟨rfl, ?_, Over.two qV HO7.out.2 (by have := HO7.out.1; omega)⟩
            rw [HX.out]
            refine HR7.out.imp (fun c hc => ?_)
            rcases hc with h1 | h1
            ·exact .inl h1.1
            ·exact .inr (by omega)
           ·skip
            rw [if_pos (by rfl)]
            go_simp
            refine hK.out _ _ (SteadyBut.of qL) (fun hHeld => ?_)
            clear hK K
            refine qH 6 fun K hK => ?_
            go_simp
            refine hK.out _ _ (SteadyBut.of qL) (fun hHeld => ?_)
            clear hK K
            refine qH 11 fun K hK => ?_
            go_simp
            go_at_call 94; refine (Z5u (fun c => A c ∧ c < w1.heap.size) op known vf vk ({ t with out := t.out.withTo n.right } : Bt.St) b wz.heap.size [({ n with right := d.right } : Bt.Node).fill page] [dp.line] _ ?hrun ?hAN ?hNG ?hNg ?hGg ?hw ?hq rfl (by simp)).mono ?_; (case hrun => exact HRZ.out.below qL); (case hAN => exact fun c hc => by have := hc.2; omega); (case hNG => omega); (case hNg => omega); (case hGg => omega); (case hw => exact own_pages1' (by simp) (by omega)); (case hq => exact own_below (own_line1' rfl (by omega)) qL); rintro e7 w7 ⟨rfl, hrun7, k7, hk7, ho7⟩; have HR7 := hid hrun7; have HO7 := hid (And.intro hk7 ho7); clear hrun7 ho7 hk7
            go_wp2_with fail
            refine hK.out _ _ (SteadyBut.over (Over.two qV HO7.out.2 HO7.out.1)) (fun hHeld => ?_)
            clear hK K
            refine qD ?_ _
            go_wp2_with fail
            have hoz := HOZ.out
            refine bodyPost_end (results_none rfl _ _ _) rfl ⟨rfl, ?_, Over.two qV HO7.out.2 (by have := HO7.out.1; omega)⟩
            rw [HX.out]
            refine HR7.out.imp (fun c hc => ?_)
            rcases hc with h1 | h1
            ·exact .inl h1.1
            ·exact .inr (by omega)
          ·skip
           rw [if_pos (by rfl)]
           go_simp
           refine hK.out _ _ (SteadyBut.of qL) (fun hHeld => ?_)
           clear hK K
           refine qH 5 fun K hK => ?_
           go_simp
           go_at_call 64; refine (Z2g ({ n with right := d.right } : Bt.Node) v page HPO.out HNO.out _ ?hpf).mono ?_; (case hpf => exact HERZ.out.below qL); rintro e5 w5 ⟨rfl, hb5⟩; rw [HFC.out]; ((obtain ⟨hc6, hf6, hs6⟩ := qR hb5); (try have := qN0 w w5); (try have := qN0 w1 w5); (try have := qN0 wz w5))
           go_wp2_with fail
           refine hK.out _ _ (SteadyBut.of qL) (fun hHeld => ?_)
           clear hK K
           refine qH 6 fun K hK => ?_
           go_simp
           refine hK.out _ _ (SteadyBut.of qL) (fun hHeld => ?_)
           clear hK K
           refine qH 11 fun K hK => ?_
           go_simp
           go_at_call 94; refine (Z5u (fun c => A c ∧ c < w1.heap.size) op known vf vk ({ t with out := t.out.withTo n.right } : Bt.St) b wz.heap.size [({ n with right := d.right } : Bt.Node).fill page] [dp.line] _ ?hrun ?hAN ?hNG ?hNg ?hGg ?hw ?hq rfl (by simp)).mono ?_; (case hrun => exact HRZ.out.below qL); (case hAN => exact fun c hc => by have := hc.2; omega); (case hNG => omega); (case hNg => omega); (case hGg => omega); (case hw => exact own_pages1' (by simp) (by omega)); (case hq => exact own_below (own_line1' rfl (by omega)) qL); rintro e7 w7 ⟨rfl, hrun7, k7, hk7, ho7⟩; have HR7 := hid hrun7; have HO7 := hid (And.intro hk7 ho7); clear hrun7 ho7 hk7
           go_wp2_with fail
           refine hK.out _ _ (SteadyBut.over (Over.two qV HO7.out.2 HO7.out.1)) (fun hHeld => ?_)
           clear hK K
           refine qD ?_ _
           go_wp2_with fail
           have hoz := HOZ.out
           refine bodyPost_end (results_none rfl _ _ _) rfl ⟨rfl, ?_, Over.two qV HO7.out.2 (by have := HO7.out.1; omega)⟩
           rw [HX.out]
           refine HR7.out.imp (fun c hc => ?_)
           rcases hc with h1 | h1
           ·exact .inl h1.1
           ·exact .inr (by omega)) : P := h
theorem Z98 (A : Nat → Prop) (op : Bt.Op) (known : List Bt.Page) (vf vk : Value) (s : Bt.St) (b : Nat) (w : World) (h : IsRun A op known vf vk s b w) (hroot : s.root = Bt.nilP) :
 Calls Tryz.prog 58 #[.pointer (some ⟨b, 0, none⟩)] w (Z0y A op known vf vk (s.unlink op known) b (.tuple #[]) w) := by
 have HX : Hid (s.unlink op known = s.fail 16 []) := hid (by simp [Bt.St.unlink, hroot])
 have HR := hid h
 have hlt := h.lt
 have hlt1 : b < w.heap.size + 1 := by omega
 obtain ⟨vn, vw, ve, vc, hc⟩ := h.cells
 have k34 : w.cell? ⟨b, 34, none⟩ = some (.int .i64 s.root.line) := hc 34
 have k35 : w.cell? ⟨b, 35, none⟩ = some (.int .i64 s.root.gen) := hc 35
 have eq := eql_ptr
 have hn : NoneAt w := by obtain ⟨vn, vw, ve, vc, hr, _⟩ := h; exact hr.none
 obtain ⟨g0, g1, gl⟩ := hn
 have gl1 : 0 < w.heap.size + 1 := by omega
 have hp : peq s.root.line s.root.gen 0 0 = true := by rw [Z0j]; simp [hroot]
 clear h hc hroot
 have tg102 := trivial
 exact wG16
theorem Z8i (A : Nat → Prop) (op : Bt.Op) (known : List Bt.Page) (vf vk : Value) (s : Bt.St) (b : Nat) (page : Bt.Page) (n : Bt.Node) (w : World) (h : IsRun A op known vf vk s b w) (hA : ∀ c, A c → c < w.heap.size)
 (hroot : s.root ≠ Bt.nilP) (hl : s.look known s.root true = (s, some (page, n))) (hright : n.right = Bt.nilP) :
 Calls Tryz.prog 56 #[.pointer (some ⟨b, 0, none⟩)] w (Z0y A op known vf vk (s.raise op known) b (.tuple #[]) w) := by
 have HX : Hid (s.raise op known = { s with out := { s.out with found := true } }) := hid (by simp [Bt.St.raise, hroot, hl, hright])
 have HL := hid hl
 have HR := hid h
 have hlt := h.lt
 have hlt1 : b < w.heap.size + 1 := by omega
 obtain ⟨vn, vw, ve, vc, hc⟩ := h.cells
 have k34 : w.cell? ⟨b, 34, none⟩ = some (.int .i64 s.root.line) := hc 34
 have k35 : w.cell? ⟨b, 35, none⟩ = some (.int .i64 s.root.gen) := hc 35
 have eq := eql_ptr
 have hn : NoneAt w := by obtain ⟨vn, vw, ve, vc, hr, _⟩ := h; exact hr.none
 obtain ⟨g0, g1, gl⟩ := hn
 have gl1 : 0 < w.heap.size + 1 := by omega
 have hp : peq s.root.line s.root.gen 0 0 = false := by rw [Z0j]; simp [hroot]
 have hpr : peq n.right.line n.right.gen 0 0 = true := by rw [Z0j]; simp [hright]
 clear h hc hroot hl hright
 go_enter Tryz.func56, Tryz.ntmps56
 go_wp2_with fail
 refine qA fun hSt => ?_
 refine qS [0, 1, 2, 3, 4, 5] ?_
 iterate 6 (refine qT ?_; simp only [Act.put, qY])
 refine Z00.done ?_
 refine qD ?_ _
 go_wp2_with fail
 go_at_call 92; refine (Z34 A op known vf vk s b s.root _ ?hrun ?hlow).mono ?_
 case hrun => exact HR.out.drew
 case hlow => exact fun c hc => by have := hA c hc; simpa using this
 rw [HL.out]
 rintro e w1 ⟨hrun1, ho1, v, rfl, hown⟩
 have HR1 := hid hrun1.low
 have HO1 := hid ho1
 have HOWN := hid hown
 have hsz : w.heap.size ≤ w1.heap.size := by have := World.grownBy.size ho1; simpa using this
 have hb1 := hrun1.lt
 ((obtain ⟨hc1, hf1, hs1⟩ := qO ho1); (try have := qN0 w w1))
 have gl2 : 0 < w1.heap.size := by omega
 have hgb : 0 < b := by obtain ⟨vn, vw, ve, vc, hr, _⟩ := hrun1; exact hr.pos
 clear hrun1 ho1 hown
 dsimp only
 iterate 13 go_step
 refine Z07 rfl 145 (.tmp 2) (.tmp 23) rfl (w1.heap.size) _ rfl rfl _ _ (Blk.made _ _ _) (by kernel_rfl) rfl (Z0A (Z0Q HOWN.out)) (fun wx B_wx ho_wx hz_wx => ?_)
 simp only [Act.put, qY]
 have kx := B_wx.cell
 rw [found_eq] at kx
 have HRX := hid ((HR1.out.alloc (.cells #[.int .i64 0, .int .u64 0, .int .u64 0, .int .u64 0, .int .u64 0, .int .u64 0, .int .u64 0, .int .u64 0, .int .u64 0, .int .i64 0, .bool false, .bool false, .int .u32 0, .int .i64 0, .int .i64 0, .slice none 0 0] 145)).grown ho_wx (by omega) (fun h1 => by omega))
 have HOX : Hid (Over b w wx) := hid (Over.new (Over.trans (Over.drew (Over.refl b w)) (Over.alloc (HO1.out) _)) ho_wx hsz)
 obtain ⟨un, uw, ue, uc, hc⟩ := HRX.out.cells
 have j12 : wx.cell? ⟨b, 12, none⟩ = some (.bool s.out.found) := hc 12
 have jf := HRX.out.free
 have hn2 : NoneAt wx := by obtain ⟨vn, vw, ve, vc, hr, _⟩ := HRX.out; exact hr.none
 obtain ⟨g02, g12, gl3⟩ := hn2
 clear hc B_wx ho_wx hz_wx
 go_wp2_with fail
 have hox := HOX.out
 refine bodyPost_end (results_none rfl _ _ _) rfl ⟨rfl, ?_, qV⟩
 rw [HX.out]
 exact (HRX.out.field (s' := { s with out := { s.out with found := true } }) 12 _ (fun _ _ _ _ => rfl)).imp (fun c hc => .inl hc.1)
end Go.Proofs.YtjmpekanlmepmaaGreatDoor
