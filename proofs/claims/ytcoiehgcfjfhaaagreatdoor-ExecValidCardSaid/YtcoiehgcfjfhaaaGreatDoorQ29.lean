/- executor.run.tree: no page is at hand. -/
import Derived.Test.YtcoiehgcfjfhaaaGreatDoorQ28
set_option linter.all false
set_option maxRecDepth 20000
set_option maxHeartbeats 8000000
open Go.Lib (hid)
namespace Go.Proofs.YtcoiehgcfjfhaaaGreatDoor
open Go.RowKit
theorem exTreeLimit (r m : Nat) (vp va vk vw : Value) (K W : List Bt.Page) (n : Nat) (D : DataW Value) (P : List Bt.Page) (key last tl tg lev lim : Int) (pf : Option Addr) (nf cf : Nat) (w : World) (h : ExAt r m vp va vk vw K W n D w) (hK : POk K) (hW : POk W) (hP : POk P)
    (HN : ∀ v W', Below w.heap.size w W' → PgRow W' v (Rf.merge K W) → Calls Tryz.prog 93 #[.agg #[.int .i64 2, .int .u32 key, .int .u32 last, .int .i64 tl, .int .i64 tg, .int .i64 lev, .int .i64 lim, .slice pf nf cf], v] W' (TrPost P 18 false false 1 W')) :
    Calls Tryz.prog 64 #[.pointer (some ⟨r, 0, none⟩), .agg #[.int .i64 2, .int .u32 key, .int .u32 last, .int .i64 tl, .int .i64 tg, .int .i64 lev, .int .i64 lim, .slice pf nf cf], .int .i64 18] w fun e w' => ∃ pe ne ce pc cc, e = .returned (.tuple #[.agg (toCells 18 false (.slice pe ne ce) (.slice pc 0 cc) 1), .bool true]) ∧ ExAt r m vp va vk vw K W n D w' ∧ Below w.heap.size w w' := by
  have HV := hid (fun W' (hb : Below w.heap.size w W') => exView r m vp va vk vw K W n D W' (h.below hb) hK hW)
  have HNN := hid HN
  unfold TrPost toCells at HNN
  have HX := hid h
  have hkb : ∀ c a d, vk = .slice (some ⟨c, 0, none⟩) a d → c < w.heap.size := fun c a d hv => by
    rcases h.known.form with ⟨h1, _⟩ | ⟨c2, cap, h1, h2, _⟩
    · rw [h1] at hv; simp at hv
    · rw [h1] at hv; simp at hv; omega
  have hnb := h.hn.lt
  have HKB := hid hkb
  have lr := h.blk.lt
  have lm := h.rel.lt
  clear h hK hW hP HN hkb
  go_enter Tryz.func64, Tryz.ntmps64
  go_upto_region 1 with (fail)
  have hbW : Below w.heap.size w ((w.alloc (.cells #[.int .i64 2, .int .u32 key, .int .u32 last, .int .i64 tl, .int .i64 tg, .int .i64 lev, .int .i64 lim, .slice pf nf cf] 168)).alloc (.cells #[.int .i64 0, .bool false, .bool false, .bool false, .bool false, .bool false, .bool false, .int .i64 0, .int .i64 0, .slice none 0 0, .slice none 0 0, .int .i64 0, .int .i64 0, .int .i64 0] 164)) := qL
  have KO : Blk ((w.alloc (.cells #[.int .i64 2, .int .u32 key, .int .u32 last, .int .i64 tl, .int .i64 tg, .int .i64 lev, .int .i64 lim, .slice pf nf cf] 168)).alloc (.cells #[.int .i64 0, .bool false, .bool false, .bool false, .bool false, .bool false, .bool false, .int .i64 0, .int .i64 0, .slice none 0 0, .slice none 0 0, .int .i64 0, .int .i64 0, .int .i64 0] 164)) w.heap.size 168 #[.int .i64 2, .int .u32 key, .int .u32 last, .int .i64 tl, .int .i64 tg, .int .i64 lev, .int .i64 lim, .slice pf nf cf] := (Blk.made w _ _).alloc _
  have KZ : Blk ((w.alloc (.cells #[.int .i64 2, .int .u32 key, .int .u32 last, .int .i64 tl, .int .i64 tg, .int .i64 lev, .int .i64 lim, .slice pf nf cf] 168)).alloc (.cells #[.int .i64 0, .bool false, .bool false, .bool false, .bool false, .bool false, .bool false, .int .i64 0, .int .i64 0, .slice none 0 0, .slice none 0 0, .int .i64 0, .int .i64 0, .int .i64 0] 164)) (w.heap.size + 1) 164 #[.int .i64 0, .bool false, .bool false, .bool false, .bool false, .bool false, .bool false, .int .i64 0, .int .i64 0, .slice none 0 0, .slice none 0 0, .int .i64 0, .int .i64 0, .int .i64 0] := Blk.made' (by simp)
  obtain ⟨w0, hw0⟩ : ∃ w0, ((w.alloc (.cells #[.int .i64 2, .int .u32 key, .int .u32 last, .int .i64 tl, .int .i64 tg, .int .i64 lev, .int .i64 lim, .slice pf nf cf] 168)).alloc (.cells #[.int .i64 0, .bool false, .bool false, .bool false, .bool false, .bool false, .bool false, .int .i64 0, .int .i64 0, .slice none 0 0, .slice none 0 0, .int .i64 0, .int .i64 0, .int .i64 0] 164)) = w0 := ⟨_, rfl⟩
  rw [hw0] at hbW KO KZ ⊢
  have HB := hid (And.intro KO (And.intro KZ hbW))
  have ko := KO.cell
  have lo := KZ.lt
  have lo0 := KO.lt
  clear hw0 KO KZ hbW
  go_cut [8, 9, 10, 11] from 12 to 20 (TreeCut r m vp va vk vw K W n D P 18 false false 1 #[.int .i64 2, .int .u32 key, .int .u32 last, .int .i64 tl, .int .i64 tg, .int .i64 lev, .int .i64 lim, .slice pf nf cf] w)
  case first =>
    refine qA fun hSt => ?_
    refine qS [0, 1] ?_
    iterate 2 (refine qT ?_; simp only [Act.put, qY])
    refine TakeSeq.done ?_
    refine wpAnyH_ready (rs := [2, 9]) (by kernel_rfl) (by simp) ?_
    refine AllReadyH.cons rfl (fun K hK => ?_) (AllReadyH.cons rfl (fun K hK => ?_) (AllReadyH.nil))
    · skip
      rw [if_pos (by rfl)]
      go_simp
      go_at_call 94; refine (HV.out _ (HB.out.2.2.trans ((Below.refl _ _).drew))).mono ?_; rintro e w1 ⟨v1, rfl, hp1, hb1⟩
      go_wp2_with fail
      refine hK.out _ _ (SteadyAll.of qL) (fun hHeld => ?_)
      clear hK K
      have HW1 : Hid (Below w.heap.size w w1) := hid (by have h := HB.out.2.2; exact qL)
      refine wpAnyH_ready (rs := [3, 9]) (by kernel_rfl) (by simp) ?_
      refine AllReadyH.cons rfl (fun K hK => ?_) (AllReadyH.cons rfl (fun K hK => ?_) (AllReadyH.nil))
      · skip
        rw [if_pos (by rfl)]
        go_simp
        go_at_call 93; refine (HNN.out _ _ HW1.out hp1).mono ?_; rintro e w2 ⟨pw, cw, pe, ne, ce, pc, cc, rfl, hq2, hc2, hb2⟩
        go_wp2_with fail
        refine hK.out _ _ (SteadyAll.of qL) (fun hHeld => ?_)
        clear hK K
        have HW2 : Hid (Below w.heap.size w w2) := hid (below_step HW1.out hb2)
        have HX2 : Hid (Below w0.heap.size w0 w2) := hid (((Below.refl _ _).drew.trans hb1).trans (hb2.mono hb1.size))
        have hlt : w.heap.size + 1 < w2.heap.size := Nat.lt_of_lt_of_le lo HX2.out.size
        refine qS [4, 5, 6, 7, 8] ?_
        iterate 5 (refine qT ?_; simp only [Act.put, qY])
        refine TakeSeq.done ?_
        refine qH 9 fun K hK => ?_
        go_simp
        refine hK.out _ _ (SteadyAll.of qL) (fun hHeld => ?_)
        clear hK K
        refine qS [10, 11] ?_
        iterate 2 (refine qT ?_; simp only [Act.put, qY])
        refine TakeSeq.done ?_
        refine qH 12 fun K hK => ?_
        go_simp
        refine hK.out _ _ (SteadyAll.of qL) (fun hHeld => ?_)
        clear hK K
        refine qS [13] ?_
        refine qT ?_; simp only [Act.put, qY]
        refine TakeSeq.done ?_
        refine qD ?_ _
        go_wp2_with fail
        go_meet
        have hbz : Below w2.heap.size w2 (w2.alloc (.cells #[.int .i64 18, .bool false, .bool false, .bool false, .bool false, .bool false, .bool false, .int .i64 0, .int .i64 0, .slice pe ne ce, .slice pc 0 cc, .int .i64 0, .int .i64 1, .int .i64 0] 164)) := below_alloc (Below.refl _ _) _
        have hbz2 : Below w.heap.size w (w2.alloc (.cells #[.int .i64 18, .bool false, .bool false, .bool false, .bool false, .bool false, .bool false, .int .i64 0, .int .i64 0, .slice pe ne ce, .slice pc 0 cc, .int .i64 0, .int .i64 1, .int .i64 0] 164)) := below_step HW2.out hbz
        exact ⟨pw, cw, pe, ne, ce, pc, cc, w2.heap.size, rfl, rfl, rfl, rfl, hlt, hid ⟨Blk.made w2 _ _, own_lower (own_below hq2 hbz) (Nat.zero_le _), hc2, HX.out.below hbz2, (HB.out.2.1.kept HX2.out).kept hbz, hbz2⟩⟩
      · skip
        rw [if_pos (by rfl)]
        go_simp
        refine hK.out _ _ (SteadyAll.of qL) (fun hHeld => ?_)
        clear hK K
        have hbA : Below w1.heap.size w1 (w1.alloc (.cells #[.int .i64 0, .bool false, .bool false, .bool false, .bool false, .bool false, .bool false, .int .i64 0, .int .i64 0, .slice none 0 0, .slice none 0 0, .int .i64 0, .int .i64 0, .int .i64 0] 164)) := below_alloc (Below.refl _ _) _
        refine qH 3 fun K hK => ?_
        go_simp
        go_at_call 93; refine (HNN.out _ _ (below_step HW1.out hbA) (hp1.below hbA)).mono ?_; rintro e w2 ⟨pw, cw, pe, ne, ce, pc, cc, rfl, hq2, hc2, hb2⟩
        go_wp2_with fail
        refine hK.out _ _ (SteadyAll.of qL) (fun hHeld => ?_)
        clear hK K
        have BZ := (Blk.made w1 164 #[.int .i64 0, .bool false, .bool false, .bool false, .bool false, .bool false, .bool false, .int .i64 0, .int .i64 0, .slice none 0 0, .slice none 0 0, .int .i64 0, .int .i64 0, .int .i64 0]).kept hb2
        have HW2 : Hid (Below w.heap.size w w2) := hid (below_step (below_step HW1.out hbA) hb2)
        have HX2 : Hid (Below w0.heap.size w0 w2) := hid ((((Below.refl _ _).drew.trans hb1).trans (hbA.mono hb1.size)).trans (hb2.mono (Nat.le_trans hb1.size hbA.size)))
        have hlt : w.heap.size + 1 < w1.heap.size := Nat.lt_of_lt_of_le lo hb1.size
        have kz := BZ.cell
        have fz := BZ.free
        have lz := BZ.lt
        have hs01 : w0.heap.size ≤ w1.heap.size := hb1.size
        refine qS [4, 5, 6, 7, 8] ?_
        iterate 5 (refine qT ?_; simp only [Act.put, qY])
        refine TakeSeq.done ?_
        refine qS [10, 11] ?_
        iterate 2 (refine qT ?_; simp only [Act.put, qY])
        refine TakeSeq.done ?_
        refine qH 12 fun K hK => ?_
        go_simp
        refine hK.out _ _ (SteadyAll.of qL) (fun hHeld => ?_)
        clear hK K
        refine qS [13] ?_
        refine qT ?_; simp only [Act.put, qY]
        refine TakeSeq.done ?_
        refine qD ?_ _
        go_wp2_with fail
        go_meet
        have hge : ∀ b, (Value.slice pw P.length cw).ownBlock = some b → w1.heap.size < b := fun b hb => by have := own_row_ge hq2 b hb; (try simp at this); omega
        have hX1 : w.heap.size ≤ w1.heap.size := by omega
        have hw2 := HW2.out
        have hOv : Over w1.heap.size w2 (((((((((((((((w2.setCell ⟨w1.heap.size, 0, none⟩ (.int .i64 18)).setCell ⟨w1.heap.size, 1, none⟩ (.bool false)).setCell ⟨w1.heap.size, 2, none⟩ (.bool false)).setCell ⟨w1.heap.size, 3, none⟩ (.bool false)).setCell ⟨w1.heap.size, 4, none⟩ (.bool false)).setCell ⟨w1.heap.size, 5, none⟩ (.bool false)).setCell ⟨w1.heap.size, 6, none⟩ (.bool false)).setCell ⟨w1.heap.size, 7, none⟩ (.int .i64 0)).setCell ⟨w1.heap.size, 8, none⟩ (.int .i64 0)).setCell ⟨w1.heap.size, 9, none⟩ (.slice pe ne ce)).setCell ⟨w1.heap.size, 10, none⟩ (.slice pc 0 cc)).setCell ⟨w1.heap.size, 11, none⟩ (.int .i64 0)).setCell ⟨w1.heap.size, 12, none⟩ (.int .i64 1)).setCell ⟨w1.heap.size, 13, none⟩ (.int .i64 0))) := qV
        refine ⟨pw, cw, pe, ne, ce, pc, cc, w1.heap.size, rfl, rfl, rfl, rfl, hlt, hid ⟨Blk.cast ((((((((((((((BZ.put 0 _).put 1 _).put 2 _).put 3 _).put 4 _).put 5 _).put 6 _).put 7 _).put 8 _).put 9 _).put 10 _).put 11 _).put 12 _).put 13 _) (by kernel_rfl), (own_lower hq2 (Nat.zero_le _)).kept hOv (.inr (fun e => by have := hge _ e; omega)), ?_, HX.out.below ((((((((((((((hw2.setCell hX1 _).setCell hX1 _).setCell hX1 _).setCell hX1 _).setCell hX1 _).setCell hX1 _).setCell hX1 _).setCell hX1 _).setCell hX1 _).setCell hX1 _).setCell hX1 _).setCell hX1 _).setCell hX1 _).setCell hX1 _), blk_over (HB.out.2.1.kept HX2.out) hOv (by omega), ((((((((((((((hw2.setCell hX1 _).setCell hX1 _).setCell hX1 _).setCell hX1 _).setCell hX1 _).setCell hX1 _).setCell hX1 _).setCell hX1 _).setCell hX1 _).setCell hX1 _).setCell hX1 _).setCell hX1 _).setCell hX1 _).setCell hX1 _)⟩⟩
        exact hc2
    · skip
      rw [if_pos (by rfl)]
      go_simp
      refine hK.out _ _ (SteadyAll.of qL) (fun hHeld => ?_)
      clear hK K
      have hbA : Below w0.heap.size w0 (w0.alloc (.cells #[.int .i64 0, .bool false, .bool false, .bool false, .bool false, .bool false, .bool false, .int .i64 0, .int .i64 0, .slice none 0 0, .slice none 0 0, .int .i64 0, .int .i64 0, .int .i64 0] 164)).drew := (below_alloc (Below.refl _ _) _).drew
      refine qH 2 fun K hK => ?_
      go_simp
      go_at_call 94; refine (HV.out _ (HB.out.2.2.trans (hbA.mono HB.out.2.2.size))).mono ?_; rintro e w1 ⟨v1, rfl, hp1, hb1⟩
      go_wp2_with fail
      refine hK.out _ _ (SteadyAll.of qL) (fun hHeld => ?_)
      clear hK K
      have BZ1 := (Blk.made w0 164 #[.int .i64 0, .bool false, .bool false, .bool false, .bool false, .bool false, .bool false, .int .i64 0, .int .i64 0, .slice none 0 0, .slice none 0 0, .int .i64 0, .int .i64 0, .int .i64 0]).drew.kept hb1
      have HX1 : Hid (Below w0.heap.size w0 w1) := hid (hbA.trans (hb1.mono hbA.size))
      have HW1 : Hid (Below w.heap.size w w1) := hid (HB.out.2.2.trans (HX1.out.mono HB.out.2.2.size))
      refine qH 3 fun K hK => ?_
      go_simp
      go_at_call 93; refine (HNN.out _ _ HW1.out hp1).mono ?_; rintro e w2 ⟨pw, cw, pe, ne, ce, pc, cc, rfl, hq2, hc2, hb2⟩
      go_wp2_with fail
      refine hK.out _ _ (SteadyAll.of (HX1.out.trans (hb2.mono HX1.out.size))) (fun hHeld => ?_)
      clear hK K
      have BZ := BZ1.kept hb2
      have HW2 : Hid (Below w.heap.size w w2) := hid (below_step HW1.out hb2)
      have HX2 : Hid (Below w0.heap.size w0 w2) := hid (HX1.out.trans (hb2.mono HX1.out.size))
      have hlt : w.heap.size + 1 < w0.heap.size := lo
      have lx1 := BZ1.lt
      have kz := BZ.cell
      have fz := BZ.free
      have lz := BZ.lt
      have hs02 := HX2.out
      refine qS [4, 5, 6, 7, 8] ?_
      iterate 5 (refine qT ?_; simp only [Act.put, qY])
      refine TakeSeq.done ?_
      refine qS [10, 11] ?_
      iterate 2 (refine qT ?_; simp only [Act.put, qY])
      refine TakeSeq.done ?_
      refine qH 12 fun K hK => ?_
      go_simp
      refine hK.out _ _ (SteadyAll.of qL) (fun hHeld => ?_)
      clear hK K
      refine qS [13] ?_
      refine qT ?_; simp only [Act.put, qY]
      refine TakeSeq.done ?_
      refine qD ?_ _
      go_wp2_with fail
      go_meet
      have hge : ∀ b, (Value.slice pw P.length cw).ownBlock = some b → w0.heap.size < b := fun b hb => by have := own_row_ge hq2 b hb; (try simp at this); omega
      have hX1 : w.heap.size ≤ w0.heap.size := by omega
      have hw2 := HW2.out
      have hOv : Over w0.heap.size w2 (((((((((((((((w2.setCell ⟨w0.heap.size, 0, none⟩ (.int .i64 18)).setCell ⟨w0.heap.size, 1, none⟩ (.bool false)).setCell ⟨w0.heap.size, 2, none⟩ (.bool false)).setCell ⟨w0.heap.size, 3, none⟩ (.bool false)).setCell ⟨w0.heap.size, 4, none⟩ (.bool false)).setCell ⟨w0.heap.size, 5, none⟩ (.bool false)).setCell ⟨w0.heap.size, 6, none⟩ (.bool false)).setCell ⟨w0.heap.size, 7, none⟩ (.int .i64 0)).setCell ⟨w0.heap.size, 8, none⟩ (.int .i64 0)).setCell ⟨w0.heap.size, 9, none⟩ (.slice pe ne ce)).setCell ⟨w0.heap.size, 10, none⟩ (.slice pc 0 cc)).setCell ⟨w0.heap.size, 11, none⟩ (.int .i64 0)).setCell ⟨w0.heap.size, 12, none⟩ (.int .i64 1)).setCell ⟨w0.heap.size, 13, none⟩ (.int .i64 0))) := qV
      refine ⟨pw, cw, pe, ne, ce, pc, cc, w0.heap.size, rfl, rfl, rfl, rfl, hlt, hid ⟨Blk.cast ((((((((((((((BZ.put 0 _).put 1 _).put 2 _).put 3 _).put 4 _).put 5 _).put 6 _).put 7 _).put 8 _).put 9 _).put 10 _).put 11 _).put 12 _).put 13 _) (by kernel_rfl), (own_lower hq2 (Nat.zero_le _)).kept hOv (.inr (fun e => by have := hge _ e; omega)), ?_, HX.out.below ((((((((((((((hw2.setCell hX1 _).setCell hX1 _).setCell hX1 _).setCell hX1 _).setCell hX1 _).setCell hX1 _).setCell hX1 _).setCell hX1 _).setCell hX1 _).setCell hX1 _).setCell hX1 _).setCell hX1 _).setCell hX1 _).setCell hX1 _), blk_over (HB.out.2.1.kept HX2.out) hOv (by omega), ((((((((((((((hw2.setCell hX1 _).setCell hX1 _).setCell hX1 _).setCell hX1 _).setCell hX1 _).setCell hX1 _).setCell hX1 _).setCell hX1 _).setCell hX1 _).setCell hX1 _).setCell hX1 _).setCell hX1 _).setCell hX1 _).setCell hX1 _)⟩⟩
      exact hc2
  case rest =>
    obtain ⟨pw, cw, pe, ne, ce, pc, cc, X, rfl, rfl, rfl, rfl, hX, HC⟩ := hcut
    clear ko lo lo0 HB HV HNN
    have kx := HC.out.1.cell
    have lx := HC.out.1.lt
    have kz := HC.out.2.2.2.2.1.cell
    have fz := HC.out.2.2.2.2.1.free
    have lz := HC.out.2.2.2.2.1.lt
    unfold toCells at kx kz
    go_upto_region 5 with (fail)
    refine qB (w.heap.size + 1) fun hSt => ?_
    refine qS [0, 1, 2, 3, 4, 5, 6, 7, 8, 9, 10] ?_
    iterate 11 (refine qT ?_; simp only [Act.put, qY])
    refine TakeSeq.done ?_
    refine qH 11 fun K hK => ?_
    go_simp
    refine hK.out _ _ ((by repeat (first | with_reducible exact sb_self _ _ | with_reducible refine sb_drew ?_ | with_reducible refine SteadyBut.set ?_ _ _))) (fun hHeld => ?_)
    clear hK K
    refine qS [12] ?_
    refine qT ?_; simp only [Act.put, qY]
    refine TakeSeq.done ?_
    refine qD ?_ _
    go_wp2_with fail
    have BZ := HC.out.2.2.2.2.1
    have hbw := HC.out.2.2.2.2.2
    have hl : w.heap.size ≤ w.heap.size + 1 := by omega
    refine bodyPost_ret (results_bt rfl _ _ (w.heap.size + 1) _ _ _ rfl (Blk.cast ((((((((((((((BZ.put 0 _).put 1 _).put 2 _).put 3 _).put 4 _).put 5 _).put 6 _).put 7 _).put 8 _).put 9 _).put 10 _).put 11 _).put 12 _).put 13 _).drew (by kernel_rfl)) Tryz.underlying164 rfl (by kernel_rfl)) rfl ⟨pe, ne, ce, pc, cc, rfl, HX.out.below ((((((((((((((hbw.setCell hl _).setCell hl _).setCell hl _).setCell hl _).setCell hl _).setCell hl _).setCell hl _).setCell hl _).setCell hl _).setCell hl _).setCell hl _).setCell hl _).setCell hl _).setCell hl _).drew, ((((((((((((((hbw.setCell hl _).setCell hl _).setCell hl _).setCell hl _).setCell hl _).setCell hl _).setCell hl _).setCell hl _).setCell hl _).setCell hl _).setCell hl _).setCell hl _).setCell hl _).setCell hl _).drew⟩
end Go.Proofs.YtcoiehgcfjfhaaaGreatDoor
