/- executor.run.hash: no page is at hand. -/
import Derived.Test.YtcoiehgcfjfhaaaGreatDoorQ28
import Derived.Test.YtcoiehgcfjfhaaaGreatDoorQ20
import Derived.Test.YtcoiehgcfjfhaaaGreatDoorQ05
import Derived.Test.YtcoiehgcfjfhaaaGreatDoorQ04
import Derived.Test.YtcoiehgcfjfhaaaGreatDoorQ29
import Derived.Test.YtcoiehgcfjfhaaaGreatDoorQ30
set_option linter.all false
set_option maxRecDepth 20000
set_option maxHeartbeats 8000000
open Go.Lib (hid)
namespace Go.Proofs.YtcoiehgcfjfhaaaGreatDoor
open Go.RowKit
theorem exHashLimit (r m : Nat) (vp va vk vw : Value) (K W : List Bt.Page) (n : Nat) (D : DataW Value) (P : List Bt.Page) (key tl tg : Int) (pf : Option Addr) (nf cf : Nat) (w : World) (h : ExAt r m vp va vk vw K W n D w) (hK : POk K) (hW : POk W) (hP : POk P)
    (HN : ∀ v W', Below w.heap.size w W' → PgRow W' v (Rf.merge K W) → Calls Tryz.prog 156 #[.agg #[.int .i64 2, .int .u32 key, .int .i64 tl, .int .i64 tg, .slice pf nf cf], v] W' (HiPost P 18 false false 2 W')) :
    Calls Tryz.prog 103 #[.pointer (some ⟨r, 0, none⟩), .agg #[.int .i64 2, .int .u32 key, .int .i64 tl, .int .i64 tg, .slice pf nf cf], .int .i64 18] w fun e w' => ∃ pc nc cc, e = .returned (.tuple #[.agg (hoCells 18 false (.slice pc nc cc) 2), .bool true]) ∧ ExAt r m vp va vk vw K W n D w' ∧ Below w.heap.size w w' := by
  have HV := hid (fun W' (hb : Below w.heap.size w W') => exView r m vp va vk vw K W n D W' (h.below hb) hK hW)
  have HNN := hid HN
  unfold HiPost hoCells at HNN
  have HX := hid h
  have hkb : ∀ c a d, vk = .slice (some ⟨c, 0, none⟩) a d → c < w.heap.size := fun c a d hv => by
    rcases h.known.form with ⟨h1, _⟩ | ⟨c2, cap, h1, h2, _⟩
    · rw [h1] at hv; simp at hv
    · rw [h1] at hv; simp at hv; omega
  have hnb := h.hn.lt
  have HKB := hid hkb
  have lr := h.blk.lt
  have lm := h.rel.lt
  clear h hK hW hP HN hkb
  go_enter Tryz.func103, Tryz.ntmps103
  go_upto_region 1 with (fail)
  have hbW : Below w.heap.size w ((w.alloc (.cells #[.int .i64 2, .int .u32 key, .int .i64 tl, .int .i64 tg, .slice pf nf cf] 228)).alloc (.cells #[.int .i64 0, .bool false, .bool false, .bool false, .bool false, .bool false, .int .i64 0, .int .i64 0, .slice none 0 0, .int .i64 0, .int .i64 0] 224)) := qL
  have KO : Blk ((w.alloc (.cells #[.int .i64 2, .int .u32 key, .int .i64 tl, .int .i64 tg, .slice pf nf cf] 228)).alloc (.cells #[.int .i64 0, .bool false, .bool false, .bool false, .bool false, .bool false, .int .i64 0, .int .i64 0, .slice none 0 0, .int .i64 0, .int .i64 0] 224)) w.heap.size 228 #[.int .i64 2, .int .u32 key, .int .i64 tl, .int .i64 tg, .slice pf nf cf] := (Blk.made w _ _).alloc _
  have KZ : Blk ((w.alloc (.cells #[.int .i64 2, .int .u32 key, .int .i64 tl, .int .i64 tg, .slice pf nf cf] 228)).alloc (.cells #[.int .i64 0, .bool false, .bool false, .bool false, .bool false, .bool false, .int .i64 0, .int .i64 0, .slice none 0 0, .int .i64 0, .int .i64 0] 224)) (w.heap.size + 1) 224 #[.int .i64 0, .bool false, .bool false, .bool false, .bool false, .bool false, .int .i64 0, .int .i64 0, .slice none 0 0, .int .i64 0, .int .i64 0] := Blk.made' (by simp)
  obtain ⟨w0, hw0⟩ : ∃ w0, ((w.alloc (.cells #[.int .i64 2, .int .u32 key, .int .i64 tl, .int .i64 tg, .slice pf nf cf] 228)).alloc (.cells #[.int .i64 0, .bool false, .bool false, .bool false, .bool false, .bool false, .int .i64 0, .int .i64 0, .slice none 0 0, .int .i64 0, .int .i64 0] 224)) = w0 := ⟨_, rfl⟩
  rw [hw0] at hbW KO KZ ⊢
  have HB := hid (And.intro KO (And.intro KZ hbW))
  have ko := KO.cell
  have lo := KZ.lt
  have lo0 := KO.lt
  clear hw0 KO KZ hbW
  go_cut [8, 9, 10, 11] from 12 to 20 (HashCut r m vp va vk vw K W n D P 18 false false 2 #[.int .i64 2, .int .u32 key, .int .i64 tl, .int .i64 tg, .slice pf nf cf] w)
  case first =>
    refine qA fun hSt => ?_
    refine qS [0, 1] ?_
    iterate 2 (refine qT ?_; simp only [Act.put, qY])
    refine TakeSeq.done ?_
    refine wpAnyH_ready (rs := [2, 9]) (by kernel_rfl) (by simp) ?_
    refine AllReadyH.cons rfl (fun K hK => ?_) (AllReadyH.cons rfl (fun K hK => ?_) (AllReadyH.nil))
    · skip
      rw [if_pos (by rfl)]
      go_simp
      go_at_call 94; refine (HV.out _ (HB.out.2.2.trans ((Below.refl _ _).drew))).mono ?_; rintro e w1 ⟨v1, rfl, hp1, hb1⟩
      go_wp2_with fail
      refine hK.out _ _ (SteadyAll.of qL) (fun hHeld => ?_)
      clear hK K
      have HW1 : Hid (Below w.heap.size w w1) := hid (by have h := HB.out.2.2; exact qL)
      refine wpAnyH_ready (rs := [3, 9]) (by kernel_rfl) (by simp) ?_
      refine AllReadyH.cons rfl (fun K hK => ?_) (AllReadyH.cons rfl (fun K hK => ?_) (AllReadyH.nil))
      · skip
        rw [if_pos (by rfl)]
        go_simp
        go_at_call 156; refine (HNN.out _ _ HW1.out hp1).mono ?_; rintro e w2 ⟨pw, cw, pc, nc, cc, rfl, hq2, hc2, hb2⟩
        go_wp2_with fail
        refine hK.out _ _ (SteadyAll.of qL) (fun hHeld => ?_)
        clear hK K
        have HW2 : Hid (Below w.heap.size w w2) := hid (below_step HW1.out hb2)
        have HX2 : Hid (Below w0.heap.size w0 w2) := hid (((Below.refl _ _).drew.trans hb1).trans (hb2.mono hb1.size))
        have hlt : w.heap.size + 1 < w2.heap.size := Nat.lt_of_lt_of_le lo HX2.out.size
        refine qS [4, 5, 6, 7, 8] ?_
        iterate 5 (refine qT ?_; simp only [Act.put, qY])
        refine TakeSeq.done ?_
        refine qH 9 fun K hK => ?_
        go_simp
        refine hK.out _ _ (SteadyAll.of qL) (fun hHeld => ?_)
        clear hK K
        refine qS [10, 11] ?_
        iterate 2 (refine qT ?_; simp only [Act.put, qY])
        refine TakeSeq.done ?_
        refine qH 12 fun K hK => ?_
        go_simp
        refine hK.out _ _ (SteadyAll.of qL) (fun hHeld => ?_)
        clear hK K
        refine qS [13] ?_
        refine qT ?_; simp only [Act.put, qY]
        refine TakeSeq.done ?_
        refine qD ?_ _
        go_wp2_with fail
        go_meet
        have hbz : Below w2.heap.size w2 (w2.alloc (.cells #[.int .i64 18, .bool false, .bool false, .bool false, .bool false, .bool false, .int .i64 0, .int .i64 0, .slice pc nc cc, .int .i64 0, .int .i64 2] 224)) := below_alloc (Below.refl _ _) _
        have hbz2 : Below w.heap.size w (w2.alloc (.cells #[.int .i64 18, .bool false, .bool false, .bool false, .bool false, .bool false, .int .i64 0, .int .i64 0, .slice pc nc cc, .int .i64 0, .int .i64 2] 224)) := below_step HW2.out hbz
        exact ⟨pw, cw, pc, nc, cc, w2.heap.size, rfl, rfl, rfl, rfl, hlt, hid ⟨Blk.made w2 _ _, own_lower (own_below hq2 hbz) (Nat.zero_le _), hc2.below hbz, HX.out.below hbz2, (HB.out.2.1.kept HX2.out).kept hbz, hbz2⟩⟩
      · skip
        rw [if_pos (by rfl)]
        go_simp
        refine hK.out _ _ (SteadyAll.of qL) (fun hHeld => ?_)
        clear hK K
        have hbA : Below w1.heap.size w1 (w1.alloc (.cells #[.int .i64 0, .bool false, .bool false, .bool false, .bool false, .bool false, .int .i64 0, .int .i64 0, .slice none 0 0, .int .i64 0, .int .i64 0] 224)) := below_alloc (Below.refl _ _) _
        refine qH 3 fun K hK => ?_
        go_simp
        go_at_call 156; refine (HNN.out _ _ (below_step HW1.out hbA) (hp1.below hbA)).mono ?_; rintro e w2 ⟨pw, cw, pc, nc, cc, rfl, hq2, hc2, hb2⟩
        go_wp2_with fail
        refine hK.out _ _ (SteadyAll.of qL) (fun hHeld => ?_)
        clear hK K
        have BZ := (Blk.made w1 224 #[.int .i64 0, .bool false, .bool false, .bool false, .bool false, .bool false, .int .i64 0, .int .i64 0, .slice none 0 0, .int .i64 0, .int .i64 0]).kept hb2
        have HW2 : Hid (Below w.heap.size w w2) := hid (below_step (below_step HW1.out hbA) hb2)
        have HX2 : Hid (Below w0.heap.size w0 w2) := hid ((((Below.refl _ _).drew.trans hb1).trans (hbA.mono hb1.size)).trans (hb2.mono (Nat.le_trans hb1.size hbA.size)))
        have hlt : w.heap.size + 1 < w1.heap.size := Nat.lt_of_lt_of_le lo hb1.size
        have kz := BZ.cell
        have fz := BZ.free
        have lz := BZ.lt
        have hs01 : w0.heap.size ≤ w1.heap.size := hb1.size
        refine qS [4, 5, 6, 7, 8] ?_
        iterate 5 (refine qT ?_; simp only [Act.put, qY])
        refine TakeSeq.done ?_
        refine qS [10, 11] ?_
        iterate 2 (refine qT ?_; simp only [Act.put, qY])
        refine TakeSeq.done ?_
        refine qH 12 fun K hK => ?_
        go_simp
        refine hK.out _ _ (SteadyAll.of qL) (fun hHeld => ?_)
        clear hK K
        refine qS [13] ?_
        refine qT ?_; simp only [Act.put, qY]
        refine TakeSeq.done ?_
        refine qD ?_ _
        go_wp2_with fail
        go_meet
        have hge : ∀ b, (Value.slice pw P.length cw).ownBlock = some b → w1.heap.size < b := fun b hb => by have := own_row_ge hq2 b hb; (try simp at this); omega
        have hX1 : w.heap.size ≤ w1.heap.size := by omega
        have hw2 := HW2.out
        have hOv : Over w1.heap.size w2 ((((((((((((w2.setCell ⟨w1.heap.size, 0, none⟩ (.int .i64 18)).setCell ⟨w1.heap.size, 1, none⟩ (.bool false)).setCell ⟨w1.heap.size, 2, none⟩ (.bool false)).setCell ⟨w1.heap.size, 3, none⟩ (.bool false)).setCell ⟨w1.heap.size, 4, none⟩ (.bool false)).setCell ⟨w1.heap.size, 5, none⟩ (.bool false)).setCell ⟨w1.heap.size, 6, none⟩ (.int .i64 0)).setCell ⟨w1.heap.size, 7, none⟩ (.int .i64 0)).setCell ⟨w1.heap.size, 8, none⟩ (.slice pc nc cc)).setCell ⟨w1.heap.size, 9, none⟩ (.int .i64 0)).setCell ⟨w1.heap.size, 10, none⟩ (.int .i64 2))) := qV
        refine ⟨pw, cw, pc, nc, cc, w1.heap.size, rfl, rfl, rfl, rfl, hlt, hid ⟨Blk.cast (((((((((((BZ.put 0 _).put 1 _).put 2 _).put 3 _).put 4 _).put 5 _).put 6 _).put 7 _).put 8 _).put 9 _).put 10 _) (by kernel_rfl), (own_lower hq2 (Nat.zero_le _)).kept hOv (.inr (fun e => by have := hge _ e; omega)), ?_, HX.out.below (((((((((((hw2.setCell hX1 _).setCell hX1 _).setCell hX1 _).setCell hX1 _).setCell hX1 _).setCell hX1 _).setCell hX1 _).setCell hX1 _).setCell hX1 _).setCell hX1 _).setCell hX1 _), blk_over (HB.out.2.1.kept HX2.out) hOv (by omega), (((((((((((hw2.setCell hX1 _).setCell hX1 _).setCell hX1 _).setCell hX1 _).setCell hX1 _).setCell hX1 _).setCell hX1 _).setCell hX1 _).setCell hX1 _).setCell hX1 _).setCell hX1 _)⟩⟩
        rcases hc2 with hc2 | ⟨h1, g, h2, h3⟩
        · exact .inl hc2
        · exact .inr ⟨h1, g, h2, blk_over h3 hOv (blk_ne h3 BZ (by decide))⟩
    · skip
      rw [if_pos (by rfl)]
      go_simp
      refine hK.out _ _ (SteadyAll.of qL) (fun hHeld => ?_)
      clear hK K
      have hbA : Below w0.heap.size w0 (w0.alloc (.cells #[.int .i64 0, .bool false, .bool false, .bool false, .bool false, .bool false, .int .i64 0, .int .i64 0, .slice none 0 0, .int .i64 0, .int .i64 0] 224)).drew := (below_alloc (Below.refl _ _) _).drew
      refine qH 2 fun K hK => ?_
      go_simp
      go_at_call 94; refine (HV.out _ (HB.out.2.2.trans (hbA.mono HB.out.2.2.size))).mono ?_; rintro e w1 ⟨v1, rfl, hp1, hb1⟩
      go_wp2_with fail
      refine hK.out _ _ (SteadyAll.of qL) (fun hHeld => ?_)
      clear hK K
      have BZ1 := (Blk.made w0 224 #[.int .i64 0, .bool false, .bool false, .bool false, .bool false, .bool false, .int .i64 0, .int .i64 0, .slice none 0 0, .int .i64 0, .int .i64 0]).drew.kept hb1
      have HX1 : Hid (Below w0.heap.size w0 w1) := hid (hbA.trans (hb1.mono hbA.size))
      have HW1 : Hid (Below w.heap.size w w1) := hid (HB.out.2.2.trans (HX1.out.mono HB.out.2.2.size))
      refine qH 3 fun K hK => ?_
      go_simp
      go_at_call 156; refine (HNN.out _ _ HW1.out hp1).mono ?_; rintro e w2 ⟨pw, cw, pc, nc, cc, rfl, hq2, hc2, hb2⟩
      go_wp2_with fail
      refine hK.out _ _ (SteadyAll.of (HX1.out.trans (hb2.mono HX1.out.size))) (fun hHeld => ?_)
      clear hK K
      have BZ := BZ1.kept hb2
      have HW2 : Hid (Below w.heap.size w w2) := hid (below_step HW1.out hb2)
      have HX2 : Hid (Below w0.heap.size w0 w2) := hid (HX1.out.trans (hb2.mono HX1.out.size))
      have hlt : w.heap.size + 1 < w0.heap.size := lo
      have lx1 := BZ1.lt
      have kz := BZ.cell
      have fz := BZ.free
      have lz := BZ.lt
      have hs02 := HX2.out
      refine qS [4, 5, 6, 7, 8] ?_
      iterate 5 (refine qT ?_; simp only [Act.put, qY])
      refine TakeSeq.done ?_
      refine qS [10, 11] ?_
      iterate 2 (refine qT ?_; simp only [Act.put, qY])
      refine TakeSeq.done ?_
      refine qH 12 fun K hK => ?_
      go_simp
      refine hK.out _ _ (SteadyAll.of qL) (fun hHeld => ?_)
      clear hK K
      refine qS [13] ?_
      refine qT ?_; simp only [Act.put, qY]
      refine TakeSeq.done ?_
      refine qD ?_ _
      go_wp2_with fail
      go_meet
      have hge : ∀ b, (Value.slice pw P.length cw).ownBlock = some b → w0.heap.size < b := fun b hb => by have := own_row_ge hq2 b hb; (try simp at this); omega
      have hX1 : w.heap.size ≤ w0.heap.size := by omega
      have hw2 := HW2.out
      have hOv : Over w0.heap.size w2 ((((((((((((w2.setCell ⟨w0.heap.size, 0, none⟩ (.int .i64 18)).setCell ⟨w0.heap.size, 1, none⟩ (.bool false)).setCell ⟨w0.heap.size, 2, none⟩ (.bool false)).setCell ⟨w0.heap.size, 3, none⟩ (.bool false)).setCell ⟨w0.heap.size, 4, none⟩ (.bool false)).setCell ⟨w0.heap.size, 5, none⟩ (.bool false)).setCell ⟨w0.heap.size, 6, none⟩ (.int .i64 0)).setCell ⟨w0.heap.size, 7, none⟩ (.int .i64 0)).setCell ⟨w0.heap.size, 8, none⟩ (.slice pc nc cc)).setCell ⟨w0.heap.size, 9, none⟩ (.int .i64 0)).setCell ⟨w0.heap.size, 10, none⟩ (.int .i64 2))) := qV
      refine ⟨pw, cw, pc, nc, cc, w0.heap.size, rfl, rfl, rfl, rfl, hlt, hid ⟨Blk.cast (((((((((((BZ.put 0 _).put 1 _).put 2 _).put 3 _).put 4 _).put 5 _).put 6 _).put 7 _).put 8 _).put 9 _).put 10 _) (by kernel_rfl), (own_lower hq2 (Nat.zero_le _)).kept hOv (.inr (fun e => by have := hge _ e; omega)), ?_, HX.out.below (((((((((((hw2.setCell hX1 _).setCell hX1 _).setCell hX1 _).setCell hX1 _).setCell hX1 _).setCell hX1 _).setCell hX1 _).setCell hX1 _).setCell hX1 _).setCell hX1 _).setCell hX1 _), blk_over (HB.out.2.1.kept HX2.out) hOv (by omega), (((((((((((hw2.setCell hX1 _).setCell hX1 _).setCell hX1 _).setCell hX1 _).setCell hX1 _).setCell hX1 _).setCell hX1 _).setCell hX1 _).setCell hX1 _).setCell hX1 _).setCell hX1 _)⟩⟩
      rcases hc2 with hc2 | ⟨h1, g, h2, h3⟩
      · exact .inl hc2
      · exact .inr ⟨h1, g, h2, blk_over h3 hOv (blk_ne h3 BZ (by decide))⟩
  case rest =>
    obtain ⟨pw, cw, pc, nc, cc, X, rfl, rfl, rfl, rfl, hX, HC⟩ := hcut
    clear ko lo lo0 HB HV HNN
    have kx := HC.out.1.cell
    have lx := HC.out.1.lt
    have kz := HC.out.2.2.2.2.1.cell
    have fz := HC.out.2.2.2.2.1.free
    have lz := HC.out.2.2.2.2.1.lt
    unfold hoCells at kx kz
    go_upto_region 5 with (fail)
    refine qB (w.heap.size + 1) fun hSt => ?_
    refine qS [0, 1, 2, 3, 4, 5, 6, 7, 8, 9, 10] ?_
    iterate 11 (refine qT ?_; simp only [Act.put, qY])
    refine TakeSeq.done ?_
    refine qH 11 fun K hK => ?_
    go_simp
    refine hK.out _ _ ((by repeat (first | with_reducible exact sb_self _ _ | with_reducible refine sb_drew ?_ | with_reducible refine SteadyBut.set ?_ _ _))) (fun hHeld => ?_)
    clear hK K
    refine qS [12] ?_
    refine qT ?_; simp only [Act.put, qY]
    refine TakeSeq.done ?_
    refine qD ?_ _
    go_wp2_with fail
    have BZ := HC.out.2.2.2.2.1
    have hbw := HC.out.2.2.2.2.2
    have hl : w.heap.size ≤ w.heap.size + 1 := by omega
    refine bodyPost_ret (results_bt rfl _ _ (w.heap.size + 1) _ _ _ rfl (Blk.cast (((((((((((BZ.put 0 _).put 1 _).put 2 _).put 3 _).put 4 _).put 5 _).put 6 _).put 7 _).put 8 _).put 9 _).put 10 _).drew (by kernel_rfl)) Tryz.underlying224 rfl (by kernel_rfl)) rfl ⟨pc, nc, cc, rfl, HX.out.below (((((((((((hbw.setCell hl _).setCell hl _).setCell hl _).setCell hl _).setCell hl _).setCell hl _).setCell hl _).setCell hl _).setCell hl _).setCell hl _).setCell hl _).drew, (((((((((((hbw.setCell hl _).setCell hl _).setCell hl _).setCell hl _).setCell hl _).setCell hl _).setCell hl _).setCell hl _).setCell hl _).setCell hl _).setCell hl _).drew⟩
theorem exHashTwo (r m : Nat) (vp va vk vw : Value) (K W : List Bt.Page) (n : Nat) (D : DataW Value) (P : List Bt.Page) (key tl tg : Int) (pf : Option Addr) (nf cf : Nat) (w : World) (h : ExAt r m vp va vk vw K W n D w) (hK : POk K) (hW : POk W) (hP : POk P)
    (HN : ∀ v W', Below w.heap.size w W' → PgRow W' v (Rf.merge K W) → Calls Tryz.prog 156 #[.agg #[.int .i64 2, .int .u32 key, .int .i64 tl, .int .i64 tg, .slice pf nf cf], v] W' (HiPost P 0 true false 0 W')) :
    Calls Tryz.prog 103 #[.pointer (some ⟨r, 0, none⟩), .agg #[.int .i64 2, .int .u32 key, .int .i64 tl, .int .i64 tg, .slice pf nf cf], .int .i64 0] w fun e w' => ∃ pc nc cc, e = .returned (.tuple #[.agg (hoCells 0 true (.slice pc nc cc) 0), .bool true]) ∧ (∃ vw', ExAt r m vp va vk vw' K (Rf.merge W P) n D w') ∧ ExFr r m w w' := by
  have HV := hid (fun W' (hb : Below w.heap.size w W') => exView r m vp va vk vw K W n D W' (h.below hb) hK hW)
  have HNN := hid HN
  unfold HiPost hoCells at HNN
  have HWR := hid (fun vq W' hx hq => exWrite r m vp va vk vw K W P n D vq W' hx hW hP hq)
  have HPO := hid hP
  have HX := hid h
  have hkb : ∀ c a d, vk = .slice (some ⟨c, 0, none⟩) a d → c < w.heap.size := fun c a d hv => by
    rcases h.known.form with ⟨h1, _⟩ | ⟨c2, cap, h1, h2, _⟩
    · rw [h1] at hv; simp at hv
    · rw [h1] at hv; simp at hv; omega
  have hnb := h.hn.lt
  have HKB := hid hkb
  have lr := h.blk.lt
  have lm := h.rel.lt
  clear h hK hW hP HN hkb
  go_enter Tryz.func103, Tryz.ntmps103
  go_upto_region 1 with (fail)
  have hbW : Below w.heap.size w ((w.alloc (.cells #[.int .i64 2, .int .u32 key, .int .i64 tl, .int .i64 tg, .slice pf nf cf] 228)).alloc (.cells #[.int .i64 0, .bool false, .bool false, .bool false, .bool false, .bool false, .int .i64 0, .int .i64 0, .slice none 0 0, .int .i64 0, .int .i64 0] 224)) := qL
  have KO : Blk ((w.alloc (.cells #[.int .i64 2, .int .u32 key, .int .i64 tl, .int .i64 tg, .slice pf nf cf] 228)).alloc (.cells #[.int .i64 0, .bool false, .bool false, .bool false, .bool false, .bool false, .int .i64 0, .int .i64 0, .slice none 0 0, .int .i64 0, .int .i64 0] 224)) w.heap.size 228 #[.int .i64 2, .int .u32 key, .int .i64 tl, .int .i64 tg, .slice pf nf cf] := (Blk.made w _ _).alloc _
  have KZ : Blk ((w.alloc (.cells #[.int .i64 2, .int .u32 key, .int .i64 tl, .int .i64 tg, .slice pf nf cf] 228)).alloc (.cells #[.int .i64 0, .bool false, .bool false, .bool false, .bool false, .bool false, .int .i64 0, .int .i64 0, .slice none 0 0, .int .i64 0, .int .i64 0] 224)) (w.heap.size + 1) 224 #[.int .i64 0, .bool false, .bool false, .bool false, .bool false, .bool false, .int .i64 0, .int .i64 0, .slice none 0 0, .int .i64 0, .int .i64 0] := Blk.made' (by simp)
  obtain ⟨w0, hw0⟩ : ∃ w0, ((w.alloc (.cells #[.int .i64 2, .int .u32 key, .int .i64 tl, .int .i64 tg, .slice pf nf cf] 228)).alloc (.cells #[.int .i64 0, .bool false, .bool false, .bool false, .bool false, .bool false, .int .i64 0, .int .i64 0, .slice none 0 0, .int .i64 0, .int .i64 0] 224)) = w0 := ⟨_, rfl⟩
  rw [hw0] at hbW KO KZ ⊢
  have HB := hid (And.intro KO (And.intro KZ hbW))
  have ko := KO.cell
  have lo := KZ.lt
  have lo0 := KO.lt
  clear hw0 KO KZ hbW
  go_cut [8, 9, 10, 11] from 12 to 20 (HashCut r m vp va vk vw K W n D P 0 true false 0 #[.int .i64 2, .int .u32 key, .int .i64 tl, .int .i64 tg, .slice pf nf cf] w)
  case first =>
    refine qA fun hSt => ?_
    refine qS [0, 1] ?_
    iterate 2 (refine qT ?_; simp only [Act.put, qY])
    refine TakeSeq.done ?_
    refine wpAnyH_ready (rs := [2, 9]) (by kernel_rfl) (by simp) ?_
    refine AllReadyH.cons rfl (fun K hK => ?_) (AllReadyH.cons rfl (fun K hK => ?_) (AllReadyH.nil))
    · skip
      rw [if_pos (by rfl)]
      go_simp
      go_at_call 94; refine (HV.out _ (HB.out.2.2.trans ((Below.refl _ _).drew))).mono ?_; rintro e w1 ⟨v1, rfl, hp1, hb1⟩
      go_wp2_with fail
      refine hK.out _ _ (SteadyAll.of qL) (fun hHeld => ?_)
      clear hK K
      have HW1 : Hid (Below w.heap.size w w1) := hid (by have h := HB.out.2.2; exact qL)
      refine wpAnyH_ready (rs := [3, 9]) (by kernel_rfl) (by simp) ?_
      refine AllReadyH.cons rfl (fun K hK => ?_) (AllReadyH.cons rfl (fun K hK => ?_) (AllReadyH.nil))
      · skip
        rw [if_pos (by rfl)]
        go_simp
        go_at_call 156; refine (HNN.out _ _ HW1.out hp1).mono ?_; rintro e w2 ⟨pw, cw, pc, nc, cc, rfl, hq2, hc2, hb2⟩
        go_wp2_with fail
        refine hK.out _ _ (SteadyAll.of qL) (fun hHeld => ?_)
        clear hK K
        have HW2 : Hid (Below w.heap.size w w2) := hid (below_step HW1.out hb2)
        have HX2 : Hid (Below w0.heap.size w0 w2) := hid (((Below.refl _ _).drew.trans hb1).trans (hb2.mono hb1.size))
        have hlt : w.heap.size + 1 < w2.heap.size := Nat.lt_of_lt_of_le lo HX2.out.size
        refine qS [4, 5, 6, 7, 8] ?_
        iterate 5 (refine qT ?_; simp only [Act.put, qY])
        refine TakeSeq.done ?_
        refine qH 9 fun K hK => ?_
        go_simp
        refine hK.out _ _ (SteadyAll.of qL) (fun hHeld => ?_)
        clear hK K
        refine qS [10, 11] ?_
        iterate 2 (refine qT ?_; simp only [Act.put, qY])
        refine TakeSeq.done ?_
        refine qH 12 fun K hK => ?_
        go_simp
        refine hK.out _ _ (SteadyAll.of qL) (fun hHeld => ?_)
        clear hK K
        refine qS [13] ?_
        refine qT ?_; simp only [Act.put, qY]
        refine TakeSeq.done ?_
        refine qD ?_ _
        go_wp2_with fail
        go_meet
        have hbz : Below w2.heap.size w2 (w2.alloc (.cells #[.int .i64 0, .bool false, .bool true, .bool false, .bool false, .bool false, .int .i64 0, .int .i64 0, .slice pc nc cc, .int .i64 0, .int .i64 0] 224)) := below_alloc (Below.refl _ _) _
        have hbz2 : Below w.heap.size w (w2.alloc (.cells #[.int .i64 0, .bool false, .bool true, .bool false, .bool false, .bool false, .int .i64 0, .int .i64 0, .slice pc nc cc, .int .i64 0, .int .i64 0] 224)) := below_step HW2.out hbz
        exact ⟨pw, cw, pc, nc, cc, w2.heap.size, rfl, rfl, rfl, rfl, hlt, hid ⟨Blk.made w2 _ _, own_lower (own_below hq2 hbz) (Nat.zero_le _), hc2.below hbz, HX.out.below hbz2, (HB.out.2.1.kept HX2.out).kept hbz, hbz2⟩⟩
      · skip
        rw [if_pos (by rfl)]
        go_simp
        refine hK.out _ _ (SteadyAll.of qL) (fun hHeld => ?_)
        clear hK K
        have hbA : Below w1.heap.size w1 (w1.alloc (.cells #[.int .i64 0, .bool false, .bool false, .bool false, .bool false, .bool false, .int .i64 0, .int .i64 0, .slice none 0 0, .int .i64 0, .int .i64 0] 224)) := below_alloc (Below.refl _ _) _
        refine qH 3 fun K hK => ?_
        go_simp
        go_at_call 156; refine (HNN.out _ _ (below_step HW1.out hbA) (hp1.below hbA)).mono ?_; rintro e w2 ⟨pw, cw, pc, nc, cc, rfl, hq2, hc2, hb2⟩
        go_wp2_with fail
        refine hK.out _ _ (SteadyAll.of qL) (fun hHeld => ?_)
        clear hK K
        have BZ := (Blk.made w1 224 #[.int .i64 0, .bool false, .bool false, .bool false, .bool false, .bool false, .int .i64 0, .int .i64 0, .slice none 0 0, .int .i64 0, .int .i64 0]).kept hb2
        have HW2 : Hid (Below w.heap.size w w2) := hid (below_step (below_step HW1.out hbA) hb2)
        have HX2 : Hid (Below w0.heap.size w0 w2) := hid ((((Below.refl _ _).drew.trans hb1).trans (hbA.mono hb1.size)).trans (hb2.mono (Nat.le_trans hb1.size hbA.size)))
        have hlt : w.heap.size + 1 < w1.heap.size := Nat.lt_of_lt_of_le lo hb1.size
        have kz := BZ.cell
        have fz := BZ.free
        have lz := BZ.lt
        have hs01 : w0.heap.size ≤ w1.heap.size := hb1.size
        refine qS [4, 5, 6, 7, 8] ?_
        iterate 5 (refine qT ?_; simp only [Act.put, qY])
        refine TakeSeq.done ?_
        refine qS [10, 11] ?_
        iterate 2 (refine qT ?_; simp only [Act.put, qY])
        refine TakeSeq.done ?_
        refine qH 12 fun K hK => ?_
        go_simp
        refine hK.out _ _ (SteadyAll.of qL) (fun hHeld => ?_)
        clear hK K
        refine qS [13] ?_
        refine qT ?_; simp only [Act.put, qY]
        refine TakeSeq.done ?_
        refine qD ?_ _
        go_wp2_with fail
        go_meet
        have hge : ∀ b, (Value.slice pw P.length cw).ownBlock = some b → w1.heap.size < b := fun b hb => by have := own_row_ge hq2 b hb; (try simp at this); omega
        have hX1 : w.heap.size ≤ w1.heap.size := by omega
        have hw2 := HW2.out
        have hOv : Over w1.heap.size w2 ((((((((((((w2.setCell ⟨w1.heap.size, 0, none⟩ (.int .i64 0)).setCell ⟨w1.heap.size, 1, none⟩ (.bool false)).setCell ⟨w1.heap.size, 2, none⟩ (.bool true)).setCell ⟨w1.heap.size, 3, none⟩ (.bool false)).setCell ⟨w1.heap.size, 4, none⟩ (.bool false)).setCell ⟨w1.heap.size, 5, none⟩ (.bool false)).setCell ⟨w1.heap.size, 6, none⟩ (.int .i64 0)).setCell ⟨w1.heap.size, 7, none⟩ (.int .i64 0)).setCell ⟨w1.heap.size, 8, none⟩ (.slice pc nc cc)).setCell ⟨w1.heap.size, 9, none⟩ (.int .i64 0)).setCell ⟨w1.heap.size, 10, none⟩ (.int .i64 0))) := qV
        refine ⟨pw, cw, pc, nc, cc, w1.heap.size, rfl, rfl, rfl, rfl, hlt, hid ⟨Blk.cast (((((((((((BZ.put 0 _).put 1 _).put 2 _).put 3 _).put 4 _).put 5 _).put 6 _).put 7 _).put 8 _).put 9 _).put 10 _) (by kernel_rfl), (own_lower hq2 (Nat.zero_le _)).kept hOv (.inr (fun e => by have := hge _ e; omega)), ?_, HX.out.below (((((((((((hw2.setCell hX1 _).setCell hX1 _).setCell hX1 _).setCell hX1 _).setCell hX1 _).setCell hX1 _).setCell hX1 _).setCell hX1 _).setCell hX1 _).setCell hX1 _).setCell hX1 _), blk_over (HB.out.2.1.kept HX2.out) hOv (by omega), (((((((((((hw2.setCell hX1 _).setCell hX1 _).setCell hX1 _).setCell hX1 _).setCell hX1 _).setCell hX1 _).setCell hX1 _).setCell hX1 _).setCell hX1 _).setCell hX1 _).setCell hX1 _)⟩⟩
        rcases hc2 with hc2 | ⟨h1, g, h2, h3⟩
        · exact .inl hc2
        · exact .inr ⟨h1, g, h2, blk_over h3 hOv (blk_ne h3 BZ (by decide))⟩
    · skip
      rw [if_pos (by rfl)]
      go_simp
      refine hK.out _ _ (SteadyAll.of qL) (fun hHeld => ?_)
      clear hK K
      have hbA : Below w0.heap.size w0 (w0.alloc (.cells #[.int .i64 0, .bool false, .bool false, .bool false, .bool false, .bool false, .int .i64 0, .int .i64 0, .slice none 0 0, .int .i64 0, .int .i64 0] 224)).drew := (below_alloc (Below.refl _ _) _).drew
      refine qH 2 fun K hK => ?_
      go_simp
      go_at_call 94; refine (HV.out _ (HB.out.2.2.trans (hbA.mono HB.out.2.2.size))).mono ?_; rintro e w1 ⟨v1, rfl, hp1, hb1⟩
      go_wp2_with fail
      refine hK.out _ _ (SteadyAll.of qL) (fun hHeld => ?_)
      clear hK K
      have BZ1 := (Blk.made w0 224 #[.int .i64 0, .bool false, .bool false, .bool false, .bool false, .bool false, .int .i64 0, .int .i64 0, .slice none 0 0, .int .i64 0, .int .i64 0]).drew.kept hb1
      have HX1 : Hid (Below w0.heap.size w0 w1) := hid (hbA.trans (hb1.mono hbA.size))
      have HW1 : Hid (Below w.heap.size w w1) := hid (HB.out.2.2.trans (HX1.out.mono HB.out.2.2.size))
      refine qH 3 fun K hK => ?_
      go_simp
      go_at_call 156; refine (HNN.out _ _ HW1.out hp1).mono ?_; rintro e w2 ⟨pw, cw, pc, nc, cc, rfl, hq2, hc2, hb2⟩
      go_wp2_with fail
      refine hK.out _ _ (SteadyAll.of (HX1.out.trans (hb2.mono HX1.out.size))) (fun hHeld => ?_)
      clear hK K
      have BZ := BZ1.kept hb2
      have HW2 : Hid (Below w.heap.size w w2) := hid (below_step HW1.out hb2)
      have HX2 : Hid (Below w0.heap.size w0 w2) := hid (HX1.out.trans (hb2.mono HX1.out.size))
      have hlt : w.heap.size + 1 < w0.heap.size := lo
      have lx1 := BZ1.lt
      have kz := BZ.cell
      have fz := BZ.free
      have lz := BZ.lt
      have hs02 := HX2.out
      refine qS [4, 5, 6, 7, 8] ?_
      iterate 5 (refine qT ?_; simp only [Act.put, qY])
      refine TakeSeq.done ?_
      refine qS [10, 11] ?_
      iterate 2 (refine qT ?_; simp only [Act.put, qY])
      refine TakeSeq.done ?_
      refine qH 12 fun K hK => ?_
      go_simp
      refine hK.out _ _ (SteadyAll.of qL) (fun hHeld => ?_)
      clear hK K
      refine qS [13] ?_
      refine qT ?_; simp only [Act.put, qY]
      refine TakeSeq.done ?_
      refine qD ?_ _
      go_wp2_with fail
      go_meet
      have hge : ∀ b, (Value.slice pw P.length cw).ownBlock = some b → w0.heap.size < b := fun b hb => by have := own_row_ge hq2 b hb; (try simp at this); omega
      have hX1 : w.heap.size ≤ w0.heap.size := by omega
      have hw2 := HW2.out
      have hOv : Over w0.heap.size w2 ((((((((((((w2.setCell ⟨w0.heap.size, 0, none⟩ (.int .i64 0)).setCell ⟨w0.heap.size, 1, none⟩ (.bool false)).setCell ⟨w0.heap.size, 2, none⟩ (.bool true)).setCell ⟨w0.heap.size, 3, none⟩ (.bool false)).setCell ⟨w0.heap.size, 4, none⟩ (.bool false)).setCell ⟨w0.heap.size, 5, none⟩ (.bool false)).setCell ⟨w0.heap.size, 6, none⟩ (.int .i64 0)).setCell ⟨w0.heap.size, 7, none⟩ (.int .i64 0)).setCell ⟨w0.heap.size, 8, none⟩ (.slice pc nc cc)).setCell ⟨w0.heap.size, 9, none⟩ (.int .i64 0)).setCell ⟨w0.heap.size, 10, none⟩ (.int .i64 0))) := qV
      refine ⟨pw, cw, pc, nc, cc, w0.heap.size, rfl, rfl, rfl, rfl, hlt, hid ⟨Blk.cast (((((((((((BZ.put 0 _).put 1 _).put 2 _).put 3 _).put 4 _).put 5 _).put 6 _).put 7 _).put 8 _).put 9 _).put 10 _) (by kernel_rfl), (own_lower hq2 (Nat.zero_le _)).kept hOv (.inr (fun e => by have := hge _ e; omega)), ?_, HX.out.below (((((((((((hw2.setCell hX1 _).setCell hX1 _).setCell hX1 _).setCell hX1 _).setCell hX1 _).setCell hX1 _).setCell hX1 _).setCell hX1 _).setCell hX1 _).setCell hX1 _).setCell hX1 _), blk_over (HB.out.2.1.kept HX2.out) hOv (by omega), (((((((((((hw2.setCell hX1 _).setCell hX1 _).setCell hX1 _).setCell hX1 _).setCell hX1 _).setCell hX1 _).setCell hX1 _).setCell hX1 _).setCell hX1 _).setCell hX1 _).setCell hX1 _)⟩⟩
      rcases hc2 with hc2 | ⟨h1, g, h2, h3⟩
      · exact .inl hc2
      · exact .inr ⟨h1, g, h2, blk_over h3 hOv (blk_ne h3 BZ (by decide))⟩
  case rest =>
    obtain ⟨pw, cw, pc, nc, cc, X, rfl, rfl, rfl, rfl, hX, HC⟩ := hcut
    clear ko lo lo0 HB HV HNN
    have kx := HC.out.1.cell
    have lx := HC.out.1.lt
    have kz := HC.out.2.2.2.2.1.cell
    have fz := HC.out.2.2.2.2.1.free
    have lz := HC.out.2.2.2.2.1.lt
    unfold hoCells at kx kz
    go_wp2_with fail
    go_at_call 95; refine (HWR.out _ _ HC.out.2.2.2.1 (pgrow_own HC.out.2.1 HPO.out.2.1 (by have := HPO.out.1; unfold maxLen; omega))).mono ?_; rintro e w1 ⟨rfl, ⟨vw1, hx1⟩, hf1⟩
    have X1 := hf1.blk HC.out.1 (by omega) (by omega)
    have Z1 := hf1.blk HC.out.2.2.2.2.1 (by omega) (by omega)
    have C1 := CheckAt.frame HC.out.2.2.1 hf1 HC.out.2.2.2.1
    have F1 := (ExFr.of_below (r := r) (m := m) HC.out.2.2.2.2.2).trans hf1
    have H1 := hid (And.intro X1 (And.intro Z1 (And.intro C1 (And.intro hx1 F1))))
    have kx1 := X1.cell
    have lx1 := X1.lt
    unfold hoCells at kx1
    clear X1 Z1 C1 hx1 F1 hf1 kx lx kz fz lz HC
    go_wp2_with fail
    rcases H1.out.2.2.1 with ⟨_, hv⟩ | ⟨h1, _⟩
    · cases hv
      go_at_call 96; refine (exRely0 r none 0 _).mono ?_; rintro e w2 ⟨rfl, hb2⟩
      have hx2 := H1.out.2.2.2.1.below hb2
      have hf2 := ExFr.of_below (r := r) (m := m) hb2
      clear hb2
      have X2 := hf2.blk H1.out.1 (by omega) (by omega)
      have Z2 := hf2.blk H1.out.2.1 (by omega) (by omega)
      have F2 := H1.out.2.2.2.2.trans hf2
      have H2 := hid (And.intro X2 (And.intro Z2 (And.intro hx2 F2)))
      have kx2 := X2.cell
      have lx2 := X2.lt
      have kr2 := hx2.blk.cell
      have fr2 := hx2.blk.free
      have lr2 := hx2.blk.lt
      unfold hoCells at kx2
      unfold exCells at kr2
      have q21 : w2.cell? ⟨r, 21, none⟩ = some (.bool false) := kr2 21
      clear X2 Z2 hx2 F2 hf2 kx1 lx1 H1
      go_upto_region 8 with (fail)
      refine wp_region_late (S := SteadyAll _) (last := 27) (by kernel_rfl) (by kernel_rfl) (SteadyAll.of (Below.refl _ _).drew) ?_
      intro hSt
      refine wpAnyL_seq (is := [0, 1, 2, 3, 4, 5, 6, 7, 8, 9, 10, 11, 12, 13, 14, 15, 16, 17, 18, 19]) (by kernel_rfl) (by kernel_rfl) (fun _ _ d _ _ h => by cases d <;> exact h) (by assumption) ?_
      iterate 20 (refine qU ?_; simp only [Act.put, qY])
      refine TakeSeqL.done ?_
      refine wpAnyL_seq (is := [20, 21, 22]) (by kernel_rfl) (by kernel_rfl) (fun _ _ d _ _ h => by cases d <;> exact h) (by assumption) ?_
      iterate 3 (refine qU ?_; simp only [Act.put, qY])
      refine TakeSeqL.done ?_
      refine qHL 23 fun K hK => ?_
      go_simp
      refine hK.out _ _ (⟨(sa_same (SteadyAll.of qL) q21).rule⟩) (fun hHeld => ?_)
      clear hK K
      refine wpAnyL_seq (is := [24, 25, 26]) (by kernel_rfl) (by kernel_rfl) (fun _ _ d _ _ h => by cases d <;> exact h) (by assumption) ?_
      iterate 3 (refine qU ?_; simp only [Act.put, qY])
      refine TakeSeqL.done ?_
      refine wpAnyL_ready (rs := [27]) (by kernel_rfl) (by simp) ?_
      refine AllReadyL.final rfl (fun K hK => ?_)
      rw [if_pos (by rfl)]
      go_simp
      refine hK.out _ _ ?_
      clear hK K
      refine wpAnyL_done (by kernel_rfl) ?_ _
      have BR := Blk.cast (cs' := exCells vp va vk vw1 m (.slice none 0 0)) ((H2.out.2.2.1.blk.put 21 (.bool false)).put 22 (.bool false)) (by kernel_rfl)
      have hO : Over r w2 ((w2.setCell ⟨r, 21, none⟩ (.bool false)).setCell ⟨r, 22, none⟩ (.bool false)) := ((Over.refl _ _).put 21 _).put 22 _
      have hx3 := H2.out.2.2.1.reblk hO BR
      have X3 := blk_over H2.out.1 hO (by omega)
      have Z3 := blk_over H2.out.2.1 hO (by omega)
      have F3 := H2.out.2.2.2.trans (ExFr.of_over hO)
      have hd3 := (Below.refl ((w2.setCell ⟨r, 21, none⟩ (.bool false)).setCell ⟨r, 22, none⟩ (.bool false)).heap.size ((w2.setCell ⟨r, 21, none⟩ (.bool false)).setCell ⟨r, 22, none⟩ (.bool false))).drew
      go_upto_region 9 with (fail)
      refine wp_name (fun W' => Blk W' X 224 (hoCells 0 true (.slice none 0 0) 0) ∧ Blk W' (w.heap.size + 1) 224 (hoCells 0 false (.slice none 0 0) 0) ∧ ExAt r m vp va vk vw1 K (Rf.merge W P) n D W' ∧ ExFr r m w W') ⟨?_, ?_, ?_, ?_⟩ (fun w4 H4 => ?_)
      · first | exact X3 | exact X3.kept hd3
      · first | exact Z3 | exact Z3.kept hd3
      · first | exact hx3 | exact hx3.below hd3
      · first | exact F3 | exact F3.trans (ExFr.of_below hd3)
      clear BR hO hx3 X3 Z3 F3 hd3 H2 kx2 lx2 kr2 fr2 lr2 q21
      have kx4 := H4.out.1.cell
      have lx4 := H4.out.1.lt
      have kz4 := H4.out.2.1.cell
      have fz4 := H4.out.2.1.free
      have lz4 := H4.out.2.1.lt
      unfold hoCells at kx4 kz4
      go_wp2_with fail
      have BZ := H4.out.2.1
      have hO : Over (w.heap.size + 1) w4 ((((((((((((w4.setCell ⟨w.heap.size + 1, 0, none⟩ (.int .i64 0)).setCell ⟨w.heap.size + 1, 1, none⟩ (.bool false)).setCell ⟨w.heap.size + 1, 2, none⟩ (.bool true)).setCell ⟨w.heap.size + 1, 3, none⟩ (.bool false)).setCell ⟨w.heap.size + 1, 4, none⟩ (.bool false)).setCell ⟨w.heap.size + 1, 5, none⟩ (.bool false)).setCell ⟨w.heap.size + 1, 6, none⟩ (.int .i64 0)).setCell ⟨w.heap.size + 1, 7, none⟩ (.int .i64 0)).setCell ⟨w.heap.size + 1, 8, none⟩ (.slice none 0 0)).setCell ⟨w.heap.size + 1, 9, none⟩ (.int .i64 0)).setCell ⟨w.heap.size + 1, 10, none⟩ (.int .i64 0))) := qV
      have hB : Below w4.heap.size w4 w4 := Below.refl _ _
      have hFF : ExFr r m w ((((((((((((w4.setCell ⟨w.heap.size + 1, 0, none⟩ (.int .i64 0)).setCell ⟨w.heap.size + 1, 1, none⟩ (.bool false)).setCell ⟨w.heap.size + 1, 2, none⟩ (.bool true)).setCell ⟨w.heap.size + 1, 3, none⟩ (.bool false)).setCell ⟨w.heap.size + 1, 4, none⟩ (.bool false)).setCell ⟨w.heap.size + 1, 5, none⟩ (.bool false)).setCell ⟨w.heap.size + 1, 6, none⟩ (.int .i64 0)).setCell ⟨w.heap.size + 1, 7, none⟩ (.int .i64 0)).setCell ⟨w.heap.size + 1, 8, none⟩ (.slice none 0 0)).setCell ⟨w.heap.size + 1, 9, none⟩ (.int .i64 0)).setCell ⟨w.heap.size + 1, 10, none⟩ (.int .i64 0))) := H4.out.2.2.2.trans2 hO (by omega)
      have hxx := H4.out.2.2.1.far_over hO (by omega) (by omega) BZ (fun c a d hv => by have := HKB.out c a d hv; omega) (by omega)
      refine bodyPost_ret (results_bt rfl _ _ (w.heap.size + 1) _ _ _ rfl (Blk.cast (((((((((((BZ.put 0 _).put 1 _).put 2 _).put 3 _).put 4 _).put 5 _).put 6 _).put 7 _).put 8 _).put 9 _).put 10 _) (by kernel_rfl)) Tryz.underlying224 rfl (by kernel_rfl)) rfl ⟨none, 0, 0, rfl, ⟨vw1, hxx⟩, hFF⟩
    · cases h1
def opCells5 (vf : Value) : Array Value := #[.int .i64 2, .int .u32 5, .int .i64 105, .int .i64 1, vf]
theorem own_some {w : World} {base n size : Nat} {e : TypeId} {v : Value} {xs : List Value} (h : w.ownsRow base e size v n xs) : (n = 0 ∧ v = .slice none 0 0) ∨ ∃ g cap, v = .slice (some ⟨g, 0, none⟩) n cap := by
  rcases h.2 with ⟨rfl, h0⟩ | ⟨g, cap, _, rfl, _⟩
  · exact .inl ⟨h0, rfl⟩
  · exact .inr ⟨g, cap, rfl⟩
theorem pok_nil : POk [] := ⟨by simp, by simp, by simp⟩
theorem own_none (w : World) (b : Nat) (e : TypeId) (sz : Nat) : w.ownsRow b e sz (.slice none 0 0) 0 [] := ⟨by simp, .inl ⟨rfl, rfl⟩⟩
theorem exInsertHash (r m : Nat) (vp va vk vw : Value) (K W : List Bt.Page) (n : Nat) (D : DataW Value) (w : World) (h : ExAt r m vp va vk vw K W n D w) (hK : POk K) (hW : POk W)
    (hz : Bt.latest (Rf.merge K W) 96 = some zRootP) (hS : SegAt (Rf.merge K W) 2) (h6 : Bt.latest (Rf.merge K W) 106 = some (freeP 106)) (h7 : Bt.latest (Rf.merge K W) 107 = some (freeP 107))
    (hW2 : POk (Rf.merge W [hdrPage 512 14])) (hz2 : Bt.latest (Rf.merge K (Rf.merge W [hdrPage 512 14])) 96 = some zRootP) (hP3 : POk [rootPage2, bktPage, dirPage]) :
    Calls Tryz.prog 112 #[.pointer (some ⟨r, 0, none⟩), .int .u32 5, .agg #[.int .i64 105, .int .i64 1]] w fun e w' => e = .returned (.bool true) ∧ (∃ vw', ExAt r m vp va vk vw' K (Rf.merge (Rf.merge W [hdrPage 512 14]) [rootPage2, bktPage, dirPage]) n D w') ∧ ExFr r m w w' := by
  have HL := hid (fun W' (hx : ExAt r m vp va vk vw K W n D W') => exHashLimit r m vp va vk vw K W n D [] 5 105 1 none 0 0 W' hx hK hW pok_nil (fun v W2 hb hp => (hiNextLimit _ hz v W2 (hx.hn.below hb) hp).mono (by
    rintro e w2 ⟨rfl, hb2⟩
    exact ⟨none, 0, none, 0, 0, rfl, own_none w2 W2.heap.size _ _, .inl ⟨rfl, rfl⟩, hb2⟩)))
  have HA := hid (fun W' (hx : ExAt r m vp va vk vw K W n D W') => exAllocate r m vp va vk vw K W n D 2 [freeP 106, freeP 107] 14 (by omega) (by simp) W' hx hK hW (fun v W2 hp => segAlloc_2 _ hS h6 h7 v W2 hp))
  have HT := hid (fun vw2 f cf W' (hx : ExAt r m vp va vk vw2 K (Rf.merge W [hdrPage 512 14]) n D W') (hf : PgRow W' (.slice (some ⟨f, 0, none⟩) 2 cf) [freeP 106, freeP 107]) => exHashTwo r m vp va vk vw2 K (Rf.merge W [hdrPage 512 14]) n D [rootPage2, bktPage, dirPage] 5 105 1 (some ⟨f, 0, none⟩) 2 cf W' hx hK hW2 hP3 (fun v W2 hb hp => (hiNextTwo _ hz2 f cf v W2 (hx.hn.below hb) hp (hf.below hb)).mono (by
    rintro e w2 ⟨g, c, rfl, ho, hb2⟩
    exact ⟨some ⟨g, 0, none⟩, c, none, 0, 0, rfl, ho, .inl ⟨rfl, rfl⟩, hb2⟩)))
  have hkb : ∀ c a d, vk = .slice (some ⟨c, 0, none⟩) a d → c < w.heap.size := fun c a d hv => by
    rcases h.known.form with ⟨h1, _⟩ | ⟨c2, cap, h1, h2, _⟩
    · rw [h1] at hv; simp at hv
    · rw [h1] at hv; simp at hv; omega
  have HKB := hid (And.intro hkb h.hn.lt)
  clear hkb
  have HX := hid h
  have lr := h.blk.lt
  have lm := h.rel.lt
  clear h hK hW hz hS h6 h7 hW2 hz2 hP3
  go_enter Tryz.func112, Tryz.ntmps112
  go_wp2_with fail
  refine wp_loop_rounds 1 ?_
  rw [rounds_succ]
  go_upto_region 4 with (fail)
  refine wp_name (fun W' => Blk W' (w.heap.size + 1) 228 (opCells5 (.slice none 0 0)) ∧ Below w.heap.size w W') ⟨Blk.made' (by simp), qL⟩ (fun wx H1 => ?_)
  have ko := H1.out.1.cell
  have lo := H1.out.1.lt
  unfold opCells5 at ko
  go_wp2_with fail
  go_at_call 103; refine (HL.out _ (HX.out.below H1.out.2)).mono ?_; rintro e w1 ⟨pc, nc, cc, rfl, hx1, hf1⟩
  have O1 := H1.out.1.kept hf1
  have B1 := H1.out.2.trans (hf1.mono H1.out.2.size)
  have H2 := hid (And.intro O1 (And.intro hx1 B1))
  clear ko lo hx1 hf1 O1 B1
  have kr := H2.out.2.1.blk.cell
  have ko := H2.out.1.cell
  have lo := H2.out.1.lt
  have lr1 := H2.out.2.1.blk.lt
  unfold opCells5 at ko
  unfold hoCells
  go_upto_region 6 with (fail)
  have hlt : w.heap.size + 1 < w1.heap.size := lo
  refine wp_name (fun W' => Blk W' w1.heap.size 224 (hoCells 18 false (.slice pc nc cc) 2) ∧ Blk W' (w.heap.size + 1) 228 (opCells5 (.slice none 0 0)) ∧ ExAt r m vp va vk vw K W n D W' ∧ Below w.heap.size w W') ⟨Blk.made w1 _ _, H2.out.1.alloc _, H2.out.2.1.below (below_alloc (Below.refl _ _) _), below_alloc H2.out.2.2 _⟩ (fun wy HY => ?_)
  obtain ⟨X, hX⟩ : ∃ X, w1.heap.size = X := ⟨_, rfl⟩
  rw [hX] at HY hlt ⊢
  clear H2 kr ko lo lr1 hX H1
  have kx := HY.out.1.cell
  have lx := HY.out.1.lt
  have lo := HY.out.2.1.lt
  unfold hoCells at kx
  go_wp2_with fail
  go_at_call 107; refine (HA.out _ HY.out.2.2.1).mono ?_; rintro e w2 ⟨vf, rfl, hof, ⟨vw2, hx2⟩, hf2⟩
  have hfp := pgrow_own hof (by intro p hp; simp only [List.mem_cons, List.not_mem_nil, or_false] at hp; rcases hp with rfl | rfl <;> exact ⟨by simp [freeP], by simp [freeP], by simp [freeP], by simp [freeP], by simp [freeP], by simp [freeP], by simp [freeP], by simp [freeP]⟩) (by simp [maxLen])
  rcases own_some hof with ⟨h0, _⟩ | ⟨f, cf, rfl⟩
  · cases h0
  have X2 := hf2.blk HY.out.1 (by omega) (by omega)
  have O2 := hf2.blk HY.out.2.1 (by omega) (by omega)
  have F2 := (ExFr.of_below (r := r) (m := m) HY.out.2.2.2).trans hf2
  have hff := blk_ne_row O2 hof (by decide)
  have H2 := hid (And.intro X2 (And.intro O2 (And.intro hx2 (And.intro F2 (And.intro hfp hff)))))
  clear X2 O2 hx2 F2 hfp hff hof hf2 kx lx lo HY
  have ko := H2.out.2.1.cell
  have fo := H2.out.2.1.free
  have lo := H2.out.2.1.lt
  unfold opCells5 at ko
  go_upto_region 8 with (fail)
  have hO : Over (w.heap.size + 1) w2 (w2.setCell ⟨w.heap.size + 1, 4, none⟩ (.slice (some ⟨f, 0, none⟩) 2 cf)) := (Over.refl _ _).put 4 _
  refine wp_name (fun W' => Blk W' X 224 (hoCells 18 false (.slice pc nc cc) 2) ∧ Blk W' (w.heap.size + 1) 228 (opCells5 (.slice (some ⟨f, 0, none⟩) 2 cf)) ∧ ExAt r m vp va vk vw2 K (Rf.merge W [hdrPage 512 14]) n D W' ∧ PgRow W' (.slice (some ⟨f, 0, none⟩) 2 cf) [freeP 106, freeP 107] ∧ ExFr r m w W')
    ⟨blk_over H2.out.1 hO (by omega), Blk.cast (H2.out.2.1.put 4 _) (by kernel_rfl), H2.out.2.2.1.far_over hO (by omega) (by omega) H2.out.2.1 (fun c a d hv => by have := HKB.out.1 c a d hv; omega) (by have := HKB.out.2; omega), pgrow_frame H2.out.2.2.2.2.1 hO.size (fun b n c hv hlt => hO.block b hlt (by have h2 := H2.out.2.2.2.2.2; simp at hv; obtain ⟨rfl, _, _⟩ := hv; simpa [Value.ownBlock, eq_comm] using h2)), H2.out.2.2.2.1.trans2 hO (by omega)⟩ (fun w3 H3 => ?_)
  clear ko fo lo hO H2
  have ko := H3.out.2.1.cell
  have lo := H3.out.2.1.lt
  unfold opCells5 at ko
  go_wp2_with fail
  go_at_call 103; refine (HT.out vw2 f cf _ H3.out.2.2.1 H3.out.2.2.2.1).mono ?_; rintro e w4 ⟨pc2, nc2, cc2, rfl, ⟨vw4, hx4⟩, hf4⟩
  have X4 := hf4.blk H3.out.1 (by omega) (by omega)
  have F4 := H3.out.2.2.2.2.trans hf4
  have H4 := hid (And.intro X4 (And.intro hx4 F4))
  clear ko lo hx4 hf4 X4 F4 H3
  have kx := H4.out.1.cell
  have fx := H4.out.1.free
  have lx := H4.out.1.lt
  unfold hoCells at kx ⊢
  go_wp2_with fail
  have hO : Over X w4 (((((((((((w4.setCell ⟨X, 0, none⟩ (.int .i64 0)).setCell ⟨X, 1, none⟩ (.bool false)).setCell ⟨X, 2, none⟩ (.bool true)).setCell ⟨X, 3, none⟩ (.bool false)).setCell ⟨X, 4, none⟩ (.bool false)).setCell ⟨X, 5, none⟩ (.bool false)).setCell ⟨X, 6, none⟩ (.int .i64 0)).setCell ⟨X, 7, none⟩ (.int .i64 0)).setCell ⟨X, 8, none⟩ (.slice pc2 nc2 cc2)).setCell ⟨X, 9, none⟩ (.int .i64 0)).setCell ⟨X, 10, none⟩ (.int .i64 0)) := qV
  refine bodyPost_ret (results_tmp rfl _ _ _) rfl ⟨rfl, ⟨vw4, H4.out.2.1.far_over hO (by omega) (by omega) H4.out.1 (fun c a d hv => by have := HKB.out.1 c a d hv; omega) (by have := HKB.out.2; omega)⟩, H4.out.2.2.trans2 hO (by omega)⟩
def op5 (l : List Bt.Page) : Bt.Op := ⟨2, 5, 0, ⟨105, 1⟩, 0, 0, l⟩
def st5 : Bt.St := { ({} : Bt.St) with rootPage := rootPage2, root := Bt.nilP }
def rootPage3 : Bt.Page := ⟨96, 256, 364, 362, 363, 0, 0, 0, 0⟩
def leafPage : Bt.Page := ⟨108, 256, 282574488338692, 4294967295, 21474836841, 0, 0, 0, 0⟩
def stLim : Bt.St := { st5 with out := { code := 18, fresh := 1 } }
def stOne : Bt.St := { st5 with writes := [rootPage3, leafPage], out := { done := true } }
theorem st5_lim (ks : List Bt.Page) : st5.insert (op5 []) ks = stLim := by kernel_rfl
theorem st5_one (ks : List Bt.Page) : st5.insert (op5 [freeP 108]) ks = stOne := by kernel_rfl
theorem rp2_ok : rootPage2.Ok := ⟨by decide, by decide, by decide, by decide, by decide, by decide, by decide, by decide⟩
theorem free_ok (l : Int) : (freeP l).Ok := ⟨by simp [freeP], by simp [freeP], by simp [freeP], by simp [freeP], by simp [freeP], by simp [freeP], by simp [freeP], by simp [freeP]⟩
theorem trLimit (ks : List Bt.Page) (hlat : Bt.latest ks 96 = some rootPage2) (vk : Value) (w : World) (hn : NoneAt w) (hp : PgRow w vk ks) :
    Calls Tryz.prog 93 #[.agg #[.int .i64 2, .int .u32 5, .int .u32 0, .int .i64 105, .int .i64 1, .int .i64 0, .int .i64 0, .slice none 0 0], vk] w (TrPost [] 18 false false 1 w) := by
  obtain ⟨pk, ck, rfl⟩ := hp.slice
  have HM : Hid (∀ b w', IsRun (fun _ => False) (op5 []) ks (.slice none 0 0) (.slice pk ks.length ck) st5 b w' →
      Calls Tryz.prog 140 #[.pointer (some ⟨b, 0, none⟩)] w' (RunPost (fun _ => False) (op5 []) ks (.slice none 0 0) (.slice pk ks.length ck) stLim b (.tuple #[]) w')) := hid (fun b w' hr => by
    have h := insert_plant (fun _ => False) (op5 []) ks (.slice none 0 0) (.slice pk ks.length ck) st5 b w' hr (fun c hc => hc.elim) rfl (hid (fun w2 hr2 _ => plant_empty (fun _ => False) (op5 []) ks (.slice none 0 0) (.slice pk ks.length ck) st5 b ⟨5, ⟨105, 1⟩⟩ w2 hr2 (fun c hc => hc.elim) rp2_ok (by decide) rfl))
    rw [st5_lim] at h
    exact h)
  refine (next_insert (op5 []) ks none pk 0 0 ks.length ck w ⟨by simp [op5], by simp [op5, maxLen], .inl ⟨rfl, rfl⟩⟩ hp hn rfl (by decide) (by decide) rootPage2 Bt.nilP 0 hlat (by decide) (by kernel_rfl) stLim rfl (.inl rfl) { code := 18, fresh := 1 } (fun _ => rfl) (fun h => by cases h) HM).mono ?_
  rintro e w' ⟨vw, ve, vc, rfl, ho, he, hc, hb⟩
  obtain ⟨pw, cw, rfl⟩ := own_zero ho
  obtain ⟨pe, ce, rfl⟩ := own_zero he
  obtain ⟨pc, cc, rfl⟩ := own_zero hc
  exact ⟨pw, cw, pe, 0, ce, pc, cc, rfl, ho, trivial, hb⟩
theorem trOne (ks : List Bt.Page) (hlat : Bt.latest ks 96 = some rootPage2) (f cf : Nat) (vk : Value) (w : World) (hn : NoneAt w) (hp : PgRow w vk ks) (hf : PgRow w (.slice (some ⟨f, 0, none⟩) 1 cf) [freeP 108]) :
    Calls Tryz.prog 93 #[.agg #[.int .i64 2, .int .u32 5, .int .u32 0, .int .i64 105, .int .i64 1, .int .i64 0, .int .i64 0, .slice (some ⟨f, 0, none⟩) 1 cf], vk] w (TrPost [rootPage3, leafPage] 0 true false 0 w) := by
  obtain ⟨pk, ck, rfl⟩ := hp.slice
  have HM : Hid (∀ b w', IsRun (fun _ => False) (op5 [freeP 108]) ks (.slice (some ⟨f, 0, none⟩) 1 cf) (.slice pk ks.length ck) st5 b w' →
      Calls Tryz.prog 140 #[.pointer (some ⟨b, 0, none⟩)] w' (RunPost (fun _ => False) (op5 [freeP 108]) ks (.slice (some ⟨f, 0, none⟩) 1 cf) (.slice pk ks.length ck) stOne b (.tuple #[]) w')) := hid (fun b w' hr => by
    have h := insert_plant (fun _ => False) (op5 [freeP 108]) ks (.slice (some ⟨f, 0, none⟩) 1 cf) (.slice pk ks.length ck) st5 b w' hr (fun c hc => hc.elim) rfl (hid (fun w2 hr2 _ => plant_one (fun _ => False) (op5 [freeP 108]) ks (.slice (some ⟨f, 0, none⟩) 1 cf) (.slice pk ks.length ck) st5 b ⟨5, ⟨105, 1⟩⟩ w2 hr2 (fun c hc => hc.elim) rp2_ok (by decide) rfl (freeP 108) ⟨108, 256, 260, 0, 0, 0, 0, 0, 0⟩ [] rfl (free_ok 108) (by kernel_rfl) (by decide)))
    rw [st5_one] at h
    exact h)
  refine (next_insert (op5 [freeP 108]) ks (some ⟨f, 0, none⟩) pk 1 cf ks.length ck w hf hp hn rfl (by decide) (by decide) rootPage2 Bt.nilP 0 hlat (by decide) (by kernel_rfl) stOne rfl (.inr (.inr ⟨rootPage3, leafPage, rfl, by decide⟩)) { done := true } (fun _ => rfl) (fun h => by cases h) HM).mono ?_
  rintro e w' ⟨vw, ve, vc, rfl, ho, he, hc, hb⟩
  obtain ⟨pe, ce, rfl⟩ := own_zero he
  obtain ⟨pc, cc, rfl⟩ := own_zero hc
  rcases own_some ho with ⟨h0, _⟩ | ⟨g, cw, rfl⟩
  · cases h0
  exact ⟨some ⟨g, 0, none⟩, cw, pe, 0, ce, pc, cc, rfl, ho, trivial, hb⟩
def opCells7 (vf : Value) : Array Value := #[.int .i64 2, .int .u32 5, .int .u32 0, .int .i64 105, .int .i64 1, .int .i64 0, .int .i64 0, vf]
theorem NoneAt.frame {r m : Nat} {w w' : World} (h : NoneAt w) (hf : ExFr r m w w') (hr : 1 ≠ r) (hm : 1 ≠ m) : NoneAt w' :=
  ⟨(World.cell?_of_block (a := ⟨1, 0, none⟩) (hf.block _ h.lt hr hm)).trans h.c0, (World.cell?_of_block (a := ⟨1, 1, none⟩) (hf.block _ h.lt hr hm)).trans h.c1, Nat.lt_of_lt_of_le h.lt hf.size, Nat.lt_of_lt_of_le h.lt0 hf.size⟩
theorem exInsertTree (r m : Nat) (vp va vk vw : Value) (K W : List Bt.Page) (n : Nat) (D : DataW Value) (w : World) (h : ExAt r m vp va vk vw K W n D w) (hK : POk K) (hW : POk W) (hno : NoneAt w) (hnr : 1 ≠ r) (hnm : 1 ≠ m)
    (hz : Bt.latest (Rf.merge K W) 96 = some rootPage2) (hS : SegAt (Rf.merge K W) 14) (h8 : Bt.latest (Rf.merge K W) 108 = some (freeP 108))
    (hW2 : POk (Rf.merge W [hdrPage 512 30])) (hz2 : Bt.latest (Rf.merge K (Rf.merge W [hdrPage 512 30])) 96 = some rootPage2) (hP3 : POk [rootPage3, leafPage]) :
    Calls Tryz.prog 113 #[.pointer (some ⟨r, 0, none⟩), .int .u32 5, .agg #[.int .i64 105, .int .i64 1]] w fun e w' => e = .returned (.bool true) ∧ (∃ vw', ExAt r m vp va vk vw' K (Rf.merge (Rf.merge W [hdrPage 512 30]) [rootPage3, leafPage]) n D w') ∧ ExFr r m w w' := by
  have HL := hid (fun W' (hx : ExAt r m vp va vk vw K W n D W') (hn : NoneAt W') => exTreeLimit r m vp va vk vw K W n D [] 5 0 105 1 0 0 none 0 0 W' hx hK hW pok_nil (fun v W2 hb hp => trLimit _ hz v W2 (hn.below hb) hp))
  have HA := hid (fun W' (hx : ExAt r m vp va vk vw K W n D W') => exAllocate r m vp va vk vw K W n D 1 [freeP 108] 30 (by omega) (by simp) W' hx hK hW (fun v W2 hp => segAlloc_3 _ hS h8 v W2 hp))
  have HT := hid (fun vw2 f cf W' (hx : ExAt r m vp va vk vw2 K (Rf.merge W [hdrPage 512 30]) n D W') (hn : NoneAt W') (hf : PgRow W' (.slice (some ⟨f, 0, none⟩) 1 cf) [freeP 108]) => exTreeTwo r m vp va vk vw2 K (Rf.merge W [hdrPage 512 30]) n D [rootPage3, leafPage] 5 0 105 1 0 0 (some ⟨f, 0, none⟩) 1 cf W' hx hK hW2 hP3 (fun v W2 hb hp => trOne _ hz2 f cf v W2 (hn.below hb) hp (hf.below hb)))
  have hkb : ∀ c a d, vk = .slice (some ⟨c, 0, none⟩) a d → c < w.heap.size := fun c a d hv => by
    rcases h.known.form with ⟨h1, _⟩ | ⟨c2, cap, h1, h2, _⟩
    · rw [h1] at hv; simp at hv
    · rw [h1] at hv; simp at hv; omega
  have HKB := hid (And.intro hkb h.hn.lt)
  have HNO := hid (And.intro hno (And.intro hnr hnm))
  clear hkb
  have HX := hid h
  have lr := h.blk.lt
  have lm := h.rel.lt
  clear h hK hW hz hS h8 hW2 hz2 hP3 hno hnr hnm
  go_enter Tryz.func113, Tryz.ntmps113
  go_upto_region 2 with (fail)
  refine wp_name (fun W' => Blk W' (w.heap.size + 1) 168 (opCells7 (.slice none 0 0)) ∧ Below w.heap.size w W') ⟨Blk.made' (by simp), qL⟩ (fun wx H1 => ?_)
  have ko := H1.out.1.cell
  have lo := H1.out.1.lt
  unfold opCells7 at ko
  go_wp2_with fail
  go_at_call 64; refine (HL.out _ (HX.out.below H1.out.2) (HNO.out.1.below H1.out.2)).mono ?_; rintro e w1 ⟨pe, ne, ce, pc, cc, rfl, hx1, hf1⟩
  have O1 := H1.out.1.kept hf1
  have B1 := H1.out.2.trans (hf1.mono H1.out.2.size)
  have H2 := hid (And.intro O1 (And.intro hx1 B1))
  clear ko lo hx1 hf1 O1 B1
  have kr := H2.out.2.1.blk.cell
  have ko := H2.out.1.cell
  have lo := H2.out.1.lt
  have lr1 := H2.out.2.1.blk.lt
  unfold opCells7 at ko
  unfold toCells
  go_upto_region 4 with (fail)
  have hlt : w.heap.size + 1 < w1.heap.size := lo
  refine wp_name (fun W' => Blk W' w1.heap.size 164 (toCells 18 false (.slice pe ne ce) (.slice pc 0 cc) 1) ∧ Blk W' (w.heap.size + 1) 168 (opCells7 (.slice none 0 0)) ∧ ExAt r m vp va vk vw K W n D W' ∧ Below w.heap.size w W') ⟨Blk.made w1 _ _, H2.out.1.alloc _, H2.out.2.1.below (below_alloc (Below.refl _ _) _), below_alloc H2.out.2.2 _⟩ (fun wy HY => ?_)
  obtain ⟨X, hX⟩ : ∃ X, w1.heap.size = X := ⟨_, rfl⟩
  rw [hX] at HY hlt ⊢
  clear H2 kr ko lo lr1 hX H1
  have kx := HY.out.1.cell
  have lx := HY.out.1.lt
  have lo := HY.out.2.1.lt
  unfold toCells at kx
  go_wp2_with fail
  go_at_call 107; refine (HA.out _ HY.out.2.2.1).mono ?_; rintro e w2 ⟨vf, rfl, hof, ⟨vw2, hx2⟩, hf2⟩
  have hfp := pgrow_own hof (by intro p hp; simp only [List.mem_cons, List.not_mem_nil, or_false] at hp; subst hp; exact free_ok 108) (by simp [maxLen])
  rcases own_some hof with ⟨h0, _⟩ | ⟨f, cf, rfl⟩
  · cases h0
  have X2 := hf2.blk HY.out.1 (by omega) (by omega)
  have O2 := hf2.blk HY.out.2.1 (by omega) (by omega)
  have F2 := (ExFr.of_below (r := r) (m := m) HY.out.2.2.2).trans hf2
  have hff := blk_ne_row O2 hof (by decide)
  have H2 := hid (And.intro X2 (And.intro O2 (And.intro hx2 (And.intro F2 (And.intro hfp hff)))))
  clear X2 O2 hx2 F2 hfp hff hof hf2 kx lx lo HY
  have ko := H2.out.2.1.cell
  have fo := H2.out.2.1.free
  have lo := H2.out.2.1.lt
  unfold opCells7 at ko
  go_upto_region 6 with (fail)
  have hO : Over (w.heap.size + 1) w2 (w2.setCell ⟨w.heap.size + 1, 7, none⟩ (.slice (some ⟨f, 0, none⟩) 1 cf)) := (Over.refl _ _).put 7 _
  refine wp_name (fun W' => Blk W' (w.heap.size + 1) 168 (opCells7 (.slice (some ⟨f, 0, none⟩) 1 cf)) ∧ ExAt r m vp va vk vw2 K (Rf.merge W [hdrPage 512 30]) n D W' ∧ PgRow W' (.slice (some ⟨f, 0, none⟩) 1 cf) [freeP 108] ∧ ExFr r m w W')
    ⟨Blk.cast (H2.out.2.1.put 7 _) (by kernel_rfl), H2.out.2.2.1.far_over hO (by omega) (by omega) H2.out.2.1 (fun c a d hv => by have := HKB.out.1 c a d hv; omega) (by have := HKB.out.2; omega), pgrow_frame H2.out.2.2.2.2.1 hO.size (fun b n c hv hlt => hO.block b hlt (by have h2 := H2.out.2.2.2.2.2; simp at hv; obtain ⟨rfl, _, _⟩ := hv; simpa [Value.ownBlock, eq_comm] using h2)), H2.out.2.2.2.1.trans2 hO (by omega)⟩ (fun w3 H3 => ?_)
  clear ko fo lo hO H2
  have ko := H3.out.1.cell
  have lo := H3.out.1.lt
  unfold opCells7 at ko
  go_wp2_with fail
  go_at_call 64; refine (HT.out vw2 f cf _ H3.out.2.1 (HNO.out.1.frame H3.out.2.2.2 HNO.out.2.1 HNO.out.2.2) H3.out.2.2.1).mono ?_; rintro e w4 ⟨pe2, ne2, ce2, pc2, cc2, rfl, ⟨vw4, hx4⟩, hf4⟩
  have F4 := H3.out.2.2.2.trans hf4
  have H4 := hid (And.intro hx4 F4)
  clear ko lo hx4 hf4 F4 H3
  go_wp2_with fail
  refine bodyPost_ret (results_tmp rfl _ _ _) rfl ⟨rfl, ⟨vw4, H4.out.1⟩, H4.out.2⟩
theorem ExFr.steady {r m : Nat} {w w' : World} (h : ExFr r m w w') : SteadyTwo r m w w' :=
  ⟨fun b o hb hr hm => World.cell?_of_block (a := ⟨b, o, none⟩) (h.block b hb (by omega) (by omega))⟩
theorem exStamp (r m : Nat) (vp va vk vw : Value) (K W : List Bt.Page) (n : Nat) (D : DataW Value) (w : World) (h : ExAt r m vp va vk vw K W n D w) :
    Calls Tryz.prog 104 #[.pointer (some ⟨r, 0, none⟩)] w fun e w' => e = .returned (.int .u64 257) ∧ Below w.heap.size w w' := by
  have kr := h.blk.cell
  have lr := h.blk.lt
  have HS := hid (fun W => recStamp W)
  clear h
  unfold exCells at kr
  go_enter Tryz.func104, Tryz.ntmps104
  go_wp2_with fail
  refine qA fun hSt => ?_
  refine qS [0, 1, 2, 3, 4, 5, 6, 7, 8, 9] ?_
  iterate 10 (refine qT ?_; simp only [Act.put, qY])
  refine TakeSeq.done ?_
  refine qH 10 fun K hK => ?_
  go_simp
  go_at_call 157; refine (HS.out _).mono ?_; rintro e w1 ⟨rfl, rfl⟩
  go_wp2_with fail
  refine hK.out _ _ (SteadyAll.of qL) (fun hHeld => ?_)
  clear hK K
  refine qS [11] ?_
  refine qT ?_; simp only [Act.put, qY]
  refine TakeSeq.done ?_
  refine qD ?_ _
  go_wp2_with fail
  refine bodyPost_ret (results_tmp rfl _ _ _) rfl ⟨rfl, qL⟩
end Go.Proofs.YtcoiehgcfjfhaaaGreatDoor
