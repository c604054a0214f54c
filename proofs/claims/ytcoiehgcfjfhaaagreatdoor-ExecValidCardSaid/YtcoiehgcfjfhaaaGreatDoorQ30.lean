/- executor.run.tree: an insertion with two pages. -/
import Derived.Test.YtcoiehgcfjfhaaaGreatDoorQ28
import Derived.Test.YtcoiehgcfjfhaaaGreatDoorQ20
set_option linter.all false
set_option maxRecDepth 20000
set_option maxHeartbeats 8000000
open Go.Lib (hid)
namespace Go.Proofs.YtcoiehgcfjfhaaaGreatDoor
open Go.RowKit
theorem exTreeTwo (r m : Nat) (vp va vk vw : Value) (K W : List Bt.Page) (n : Nat) (D : DataW Value) (P : List Bt.Page) (key last tl tg lev lim : Int) (pf : Option Addr) (nf cf : Nat) (w : World) (h : ExAt r m vp va vk vw K W n D w) (hK : POk K) (hW : POk W) (hP : POk P)
    (HN : ∀ v W', Below w.heap.size w W' → PgRow W' v (Rf.merge K W) → Calls Tryz.prog 93 #[.agg #[.int .i64 2, .int .u32 key, .int .u32 last, .int .i64 tl, .int .i64 tg, .int .i64 lev, .int .i64 lim, .slice pf nf cf], v] W' (TrPost P 0 true false 0 W')) :
    Calls Tryz.prog 64 #[.pointer (some ⟨r, 0, none⟩), .agg #[.int .i64 2, .int .u32 key, .int .u32 last, .int .i64 tl, .int .i64 tg, .int .i64 lev, .int .i64 lim, .slice pf nf cf], .int .i64 0] w fun e w' => ∃ pe ne ce pc cc, e = .returned (.tuple #[.agg (toCells 0 true (.slice pe ne ce) (.slice pc 0 cc) 0), .bool true]) ∧ (∃ vw', ExAt r m vp va vk vw' K (Rf.merge W P) n D w') ∧ ExFr r m w w' := by
  have HV := hid (fun W' (hb : Below w.heap.size w W') => exView r m vp va vk vw K W n D W' (h.below hb) hK hW)
  have HNN := hid HN
  unfold TrPost toCells at HNN
  have HWR := hid (fun vq W' hx hq => exWrite r m vp va vk vw K W P n D vq W' hx hW hP hq)
  have HPO := hid hP
  have HX := hid h
  have hkb : ∀ c a d, vk = .slice (some ⟨c, 0, none⟩) a d → c < w.heap.size := fun c a d hv => by
    rcases h.known.form with ⟨h1, _⟩ | ⟨c2, cap, h1, h2, _⟩
    · rw [h1] at hv; simp at hv
    · rw [h1] at hv; simp at hv; omega
  have hnb := h.hn.lt
  have HKB := hid hkb
  have lr := h.blk.lt
  have lm := h.rel.lt
  clear h hK hW hP HN hkb
  go_enter Tryz.func64, Tryz.ntmps64
  go_upto_region 1 with (fail)
  have hbW : Below w.heap.size w ((w.alloc (.cells #[.int .i64 2, .int .u32 key, .int .u32 last, .int .i64 tl, .int .i64 tg, .int .i64 lev, .int .i64 lim, .slice pf nf cf] 168)).alloc (.cells #[.int .i64 0, .bool false, .bool false, .bool false, .bool false, .bool false, .bool false, .int .i64 0, .int .i64 0, .slice none 0 0, .slice none 0 0, .int .i64 0, .int .i64 0, .int .i64 0] 164)) := qL
  have KO : Blk ((w.alloc (.cells #[.int .i64 2, .int .u32 key, .int .u32 last, .int .i64 tl, .int .i64 tg, .int .i64 lev, .int .i64 lim, .slice pf nf cf] 168)).alloc (.cells #[.int .i64 0, .bool false, .bool false, .bool false, .bool false, .bool false, .bool false, .int .i64 0, .int .i64 0, .slice none 0 0, .slice none 0 0, .int .i64 0, .int .i64 0, .int .i64 0] 164)) w.heap.size 168 #[.int .i64 2, .int .u32 key, .int .u32 last, .int .i64 tl, .int .i64 tg, .int .i64 lev, .int .i64 lim, .slice pf nf cf] := (Blk.made w _ _).alloc _
  have KZ : Blk ((w.alloc (.cells #[.int .i64 2, .int .u32 key, .int .u32 last, .int .i64 tl, .int .i64 tg, .int .i64 lev, .int .i64 lim, .slice pf nf cf] 168)).alloc (.cells #[.int .i64 0, .bool false, .bool false, .bool false, .bool false, .bool false, .bool false, .int .i64 0, .int .i64 0, .slice none 0 0, .slice none 0 0, .int .i64 0, .int .i64 0, .int .i64 0] 164)) (w.heap.size + 1) 164 #[.int .i64 0, .bool false, .bool false, .bool false, .bool false, .bool false, .bool false, .int .i64 0, .int .i64 0, .slice none 0 0, .slice none 0 0, .int .i64 0, .int .i64 0, .int .i64 0] := Blk.made' (by simp)
  obtain ⟨w0, hw0⟩ : ∃ w0, ((w.alloc (.cells #[.int .i64 2, .int .u32 key, .int .u32 last, .int .i64 tl, .int .i64 tg, .int .i64 lev, .int .i64 lim, .slice pf nf cf] 168)).alloc (.cells #[.int .i64 0, .bool false, .bool false, .bool false, .bool false, .bool false, .bool false, .int .i64 0, .int .i64 0, .slice none 0 0, .slice none 0 0, .int .i64 0, .int .i64 0, .int .i64 0] 164)) = w0 := ⟨_, rfl⟩
  rw [hw0] at hbW KO KZ ⊢
  have HB := hid (And.intro KO (And.intro KZ hbW))
  have ko := KO.cell
  have lo := KZ.lt
  have lo0 := KO.lt
  clear hw0 KO KZ hbW
  go_cut [8, 9, 10, 11] from 12 to 20 (TreeCut r m vp va vk vw K W n D P 0 true false 0 #[.int .i64 2, .int .u32 key, .int .u32 last, .int .i64 tl, .int .i64 tg, .int .i64 lev, .int .i64 lim, .slice pf nf cf] w)
  case first =>
    refine qA fun hSt => ?_
    refine qS [0, 1] ?_
    iterate 2 (refine qT ?_; simp only [Act.put, qY])
    refine TakeSeq.done ?_
    refine wpAnyH_ready (rs := [2, 9]) (by kernel_rfl) (by simp) ?_
    refine AllReadyH.cons rfl (fun K hK => ?_) (AllReadyH.cons rfl (fun K hK => ?_) (AllReadyH.nil))
    · skip
      rw [if_pos (by rfl)]
      go_simp
      go_at_call 94; refine (HV.out _ (HB.out.2.2.trans ((Below.refl _ _).drew))).mono ?_; rintro e w1 ⟨v1, rfl, hp1, hb1⟩
      go_wp2_with fail
      refine hK.out _ _ (SteadyAll.of qL) (fun hHeld => ?_)
      clear hK K
      have HW1 : Hid (Below w.heap.size w w1) := hid (by have h := HB.out.2.2; exact qL)
      refine wpAnyH_ready (rs := [3, 9]) (by kernel_rfl) (by simp) ?_
      refine AllReadyH.cons rfl (fun K hK => ?_) (AllReadyH.cons rfl (fun K hK => ?_) (AllReadyH.nil))
      · skip
        rw [if_pos (by rfl)]
        go_simp
        go_at_call 93; refine (HNN.out _ _ HW1.out hp1).mono ?_; rintro e w2 ⟨pw, cw, pe, ne, ce, pc, cc, rfl, hq2, hc2, hb2⟩
        go_wp2_with fail
        refine hK.out _ _ (SteadyAll.of qL) (fun hHeld => ?_)
        clear hK K
        have HW2 : Hid (Below w.heap.size w w2) := hid (below_step HW1.out hb2)
        have HX2 : Hid (Below w0.heap.size w0 w2) := hid (((Below.refl _ _).drew.trans hb1).trans (hb2.mono hb1.size))
        have hlt : w.heap.size + 1 < w2.heap.size := Nat.lt_of_lt_of_le lo HX2.out.size
        refine qS [4, 5, 6, 7, 8] ?_
        iterate 5 (refine qT ?_; simp only [Act.put, qY])
        refine TakeSeq.done ?_
        refine qH 9 fun K hK => ?_
        go_simp
        refine hK.out _ _ (SteadyAll.of qL) (fun hHeld => ?_)
        clear hK K
        refine qS [10, 11] ?_
        iterate 2 (refine qT ?_; simp only [Act.put, qY])
        refine TakeSeq.done ?_
        refine qH 12 fun K hK => ?_
        go_simp
        refine hK.out _ _ (SteadyAll.of qL) (fun hHeld => ?_)
        clear hK K
        refine qS [13] ?_
        refine qT ?_; simp only [Act.put, qY]
        refine TakeSeq.done ?_
        refine qD ?_ _
        go_wp2_with fail
        go_meet
        have hbz : Below w2.heap.size w2 (w2.alloc (.cells #[.int .i64 0, .bool false, .bool true, .bool false, .bool false, .bool false, .bool false, .int .i64 0, .int .i64 0, .slice pe ne ce, .slice pc 0 cc, .int .i64 0, .int .i64 0, .int .i64 0] 164)) := below_alloc (Below.refl _ _) _
        have hbz2 : Below w.heap.size w (w2.alloc (.cells #[.int .i64 0, .bool false, .bool true, .bool false, .bool false, .bool false, .bool false, .int .i64 0, .int .i64 0, .slice pe ne ce, .slice pc 0 cc, .int .i64 0, .int .i64 0, .int .i64 0] 164)) := below_step HW2.out hbz
        exact ⟨pw, cw, pe, ne, ce, pc, cc, w2.heap.size, rfl, rfl, rfl, rfl, hlt, hid ⟨Blk.made w2 _ _, own_lower (own_below hq2 hbz) (Nat.zero_le _), hc2, HX.out.below hbz2, (HB.out.2.1.kept HX2.out).kept hbz, hbz2⟩⟩
      · skip
        rw [if_pos (by rfl)]
        go_simp
        refine hK.out _ _ (SteadyAll.of qL) (fun hHeld => ?_)
        clear hK K
        have hbA : Below w1.heap.size w1 (w1.alloc (.cells #[.int .i64 0, .bool false, .bool false, .bool false, .bool false, .bool false, .bool false, .int .i64 0, .int .i64 0, .slice none 0 0, .slice none 0 0, .int .i64 0, .int .i64 0, .int .i64 0] 164)) := below_alloc (Below.refl _ _) _
        refine qH 3 fun K hK => ?_
        go_simp
        go_at_call 93; refine (HNN.out _ _ (below_step HW1.out hbA) (hp1.below hbA)).mono ?_; rintro e w2 ⟨pw, cw, pe, ne, ce, pc, cc, rfl, hq2, hc2, hb2⟩
        go_wp2_with fail
        refine hK.out _ _ (SteadyAll.of qL) (fun hHeld => ?_)
        clear hK K
        have BZ := (Blk.made w1 164 #[.int .i64 0, .bool false, .bool false, .bool false, .bool false, .bool false, .bool false, .int .i64 0, .int .i64 0, .slice none 0 0, .slice none 0 0, .int .i64 0, .int .i64 0, .int .i64 0]).kept hb2
        have HW2 : Hid (Below w.heap.size w w2) := hid (below_step (below_step HW1.out hbA) hb2)
        have HX2 : Hid (Below w0.heap.size w0 w2) := hid ((((Below.refl _ _).drew.trans hb1).trans (hbA.mono hb1.size)).trans (hb2.mono (Nat.le_trans hb1.size hbA.size)))
        have hlt : w.heap.size + 1 < w1.heap.size := Nat.lt_of_lt_of_le lo hb1.size
        have kz := BZ.cell
        have fz := BZ.free
        have lz := BZ.lt
        have hs01 : w0.heap.size ≤ w1.heap.size := hb1.size
        refine qS [4, 5, 6, 7, 8] ?_
        iterate 5 (refine qT ?_; simp only [Act.put, qY])
        refine TakeSeq.done ?_
        refine qS [10, 11] ?_
        iterate 2 (refine qT ?_; simp only [Act.put, qY])
        refine TakeSeq.done ?_
        refine qH 12 fun K hK => ?_
        go_simp
        refine hK.out _ _ (SteadyAll.of qL) (fun hHeld => ?_)
        clear hK K
        refine qS [13] ?_
        refine qT ?_; simp only [Act.put, qY]
        refine TakeSeq.done ?_
        refine qD ?_ _
        go_wp2_with fail
        go_meet
        have hge : ∀ b, (Value.slice pw P.length cw).ownBlock = some b → w1.heap.size < b := fun b hb => by have := own_row_ge hq2 b hb; (try simp at this); omega
        have hX1 : w.heap.size ≤ w1.heap.size := by omega
        have hw2 := HW2.out
        have hOv : Over w1.heap.size w2 (((((((((((((((w2.setCell ⟨w1.heap.size, 0, none⟩ (.int .i64 0)).setCell ⟨w1.heap.size, 1, none⟩ (.bool false)).setCell ⟨w1.heap.size, 2, none⟩ (.bool true)).setCell ⟨w1.heap.size, 3, none⟩ (.bool false)).setCell ⟨w1.heap.size, 4, none⟩ (.bool false)).setCell ⟨w1.heap.size, 5, none⟩ (.bool false)).setCell ⟨w1.heap.size, 6, none⟩ (.bool false)).setCell ⟨w1.heap.size, 7, none⟩ (.int .i64 0)).setCell ⟨w1.heap.size, 8, none⟩ (.int .i64 0)).setCell ⟨w1.heap.size, 9, none⟩ (.slice pe ne ce)).setCell ⟨w1.heap.size, 10, none⟩ (.slice pc 0 cc)).setCell ⟨w1.heap.size, 11, none⟩ (.int .i64 0)).setCell ⟨w1.heap.size, 12, none⟩ (.int .i64 0)).setCell ⟨w1.heap.size, 13, none⟩ (.int .i64 0))) := qV
        refine ⟨pw, cw, pe, ne, ce, pc, cc, w1.heap.size, rfl, rfl, rfl, rfl, hlt, hid ⟨Blk.cast ((((((((((((((BZ.put 0 _).put 1 _).put 2 _).put 3 _).put 4 _).put 5 _).put 6 _).put 7 _).put 8 _).put 9 _).put 10 _).put 11 _).put 12 _).put 13 _) (by kernel_rfl), (own_lower hq2 (Nat.zero_le _)).kept hOv (.inr (fun e => by have := hge _ e; omega)), ?_, HX.out.below ((((((((((((((hw2.setCell hX1 _).setCell hX1 _).setCell hX1 _).setCell hX1 _).setCell hX1 _).setCell hX1 _).setCell hX1 _).setCell hX1 _).setCell hX1 _).setCell hX1 _).setCell hX1 _).setCell hX1 _).setCell hX1 _).setCell hX1 _), blk_over (HB.out.2.1.kept HX2.out) hOv (by omega), ((((((((((((((hw2.setCell hX1 _).setCell hX1 _).setCell hX1 _).setCell hX1 _).setCell hX1 _).setCell hX1 _).setCell hX1 _).setCell hX1 _).setCell hX1 _).setCell hX1 _).setCell hX1 _).setCell hX1 _).setCell hX1 _).setCell hX1 _)⟩⟩
        exact hc2
    · skip
      rw [if_pos (by rfl)]
      go_simp
      refine hK.out _ _ (SteadyAll.of qL) (fun hHeld => ?_)
      clear hK K
      have hbA : Below w0.heap.size w0 (w0.alloc (.cells #[.int .i64 0, .bool false, .bool false, .bool false, .bool false, .bool false, .bool false, .int .i64 0, .int .i64 0, .slice none 0 0, .slice none 0 0, .int .i64 0, .int .i64 0, .int .i64 0] 164)).drew := (below_alloc (Below.refl _ _) _).drew
      refine qH 2 fun K hK => ?_
      go_simp
      go_at_call 94; refine (HV.out _ (HB.out.2.2.trans (hbA.mono HB.out.2.2.size))).mono ?_; rintro e w1 ⟨v1, rfl, hp1, hb1⟩
      go_wp2_with fail
      refine hK.out _ _ (SteadyAll.of qL) (fun hHeld => ?_)
      clear hK K
      have BZ1 := (Blk.made w0 164 #[.int .i64 0, .bool false, .bool false, .bool false, .bool false, .bool false, .bool false, .int .i64 0, .int .i64 0, .slice none 0 0, .slice none 0 0, .int .i64 0, .int .i64 0, .int .i64 0]).drew.kept hb1
      have HX1 : Hid (Below w0.heap.size w0 w1) := hid (hbA.trans (hb1.mono hbA.size))
      have HW1 : Hid (Below w.heap.size w w1) := hid (HB.out.2.2.trans (HX1.out.mono HB.out.2.2.size))
      refine qH 3 fun K hK => ?_
      go_simp
      go_at_call 93; refine (HNN.out _ _ HW1.out hp1).mono ?_; rintro e w2 ⟨pw, cw, pe, ne, ce, pc, cc, rfl, hq2, hc2, hb2⟩
      go_wp2_with fail
      refine hK.out _ _ (SteadyAll.of (HX1.out.trans (hb2.mono HX1.out.size))) (fun hHeld => ?_)
      clear hK K
      have BZ := BZ1.kept hb2
      have HW2 : Hid (Below w.heap.size w w2) := hid (below_step HW1.out hb2)
      have HX2 : Hid (Below w0.heap.size w0 w2) := hid (HX1.out.trans (hb2.mono HX1.out.size))
      have hlt : w.heap.size + 1 < w0.heap.size := lo
      have lx1 := BZ1.lt
      have kz := BZ.cell
      have fz := BZ.free
      have lz := BZ.lt
      have hs02 := HX2.out
      refine qS [4, 5, 6, 7, 8] ?_
      iterate 5 (refine qT ?_; simp only [Act.put, qY])
      refine TakeSeq.done ?_
      refine qS [10, 11] ?_
      iterate 2 (refine qT ?_; simp only [Act.put, qY])
      refine TakeSeq.done ?_
      refine qH 12 fun K hK => ?_
      go_simp
      refine hK.out _ _ (SteadyAll.of qL) (fun hHeld => ?_)
      clear hK K
      refine qS [13] ?_
      refine qT ?_; simp only [Act.put, qY]
      refine TakeSeq.done ?_
      refine qD ?_ _
      go_wp2_with fail
      go_meet
      have hge : ∀ b, (Value.slice pw P.length cw).ownBlock = some b → w0.heap.size < b := fun b hb => by have := own_row_ge hq2 b hb; (try simp at this); omega
      have hX1 : w.heap.size ≤ w0.heap.size := by omega
      have hw2 := HW2.out
      have hOv : Over w0.heap.size w2 (((((((((((((((w2.setCell ⟨w0.heap.size, 0, none⟩ (.int .i64 0)).setCell ⟨w0.heap.size, 1, none⟩ (.bool false)).setCell ⟨w0.heap.size, 2, none⟩ (.bool true)).setCell ⟨w0.heap.size, 3, none⟩ (.bool false)).setCell ⟨w0.heap.size, 4, none⟩ (.bool false)).setCell ⟨w0.heap.size, 5, none⟩ (.bool false)).setCell ⟨w0.heap.size, 6, none⟩ (.bool false)).setCell ⟨w0.heap.size, 7, none⟩ (.int .i64 0)).setCell ⟨w0.heap.size, 8, none⟩ (.int .i64 0)).setCell ⟨w0.heap.size, 9, none⟩ (.slice pe ne ce)).setCell ⟨w0.heap.size, 10, none⟩ (.slice pc 0 cc)).setCell ⟨w0.heap.size, 11, none⟩ (.int .i64 0)).setCell ⟨w0.heap.size, 12, none⟩ (.int .i64 0)).setCell ⟨w0.heap.size, 13, none⟩ (.int .i64 0))) := qV
      refine ⟨pw, cw, pe, ne, ce, pc, cc, w0.heap.size, rfl, rfl, rfl, rfl, hlt, hid ⟨Blk.cast ((((((((((((((BZ.put 0 _).put 1 _).put 2 _).put 3 _).put 4 _).put 5 _).put 6 _).put 7 _).put 8 _).put 9 _).put 10 _).put 11 _).put 12 _).put 13 _) (by kernel_rfl), (own_lower hq2 (Nat.zero_le _)).kept hOv (.inr (fun e => by have := hge _ e; omega)), ?_, HX.out.below ((((((((((((((hw2.setCell hX1 _).setCell hX1 _).setCell hX1 _).setCell hX1 _).setCell hX1 _).setCell hX1 _).setCell hX1 _).setCell hX1 _).setCell hX1 _).setCell hX1 _).setCell hX1 _).setCell hX1 _).setCell hX1 _).setCell hX1 _), blk_over (HB.out.2.1.kept HX2.out) hOv (by omega), ((((((((((((((hw2.setCell hX1 _).setCell hX1 _).setCell hX1 _).setCell hX1 _).setCell hX1 _).setCell hX1 _).setCell hX1 _).setCell hX1 _).setCell hX1 _).setCell hX1 _).setCell hX1 _).setCell hX1 _).setCell hX1 _).setCell hX1 _)⟩⟩
      exact hc2
  case rest =>
    obtain ⟨pw, cw, pe, ne, ce, pc, cc, X, rfl, rfl, rfl, rfl, hX, HC⟩ := hcut
    clear ko lo lo0 HB HV HNN
    have kx := HC.out.1.cell
    have lx := HC.out.1.lt
    have kz := HC.out.2.2.2.2.1.cell
    have fz := HC.out.2.2.2.2.1.free
    have lz := HC.out.2.2.2.2.1.lt
    unfold toCells at kx kz
    go_wp2_with fail
    go_at_call 95; refine (HWR.out _ _ HC.out.2.2.2.1 (pgrow_own HC.out.2.1 HPO.out.2.1 (by have := HPO.out.1; unfold maxLen; omega))).mono ?_; rintro e w1 ⟨rfl, ⟨vw1, hx1⟩, hf1⟩
    have X1 := hf1.blk HC.out.1 (by omega) (by omega)
    have Z1 := hf1.blk HC.out.2.2.2.2.1 (by omega) (by omega)
    have C1 := HC.out.2.2.1
    have F1 := (ExFr.of_below (r := r) (m := m) HC.out.2.2.2.2.2).trans hf1
    have H1 := hid (And.intro X1 (And.intro Z1 (And.intro C1 (And.intro hx1 F1))))
    have kx1 := X1.cell
    have lx1 := X1.lt
    unfold toCells at kx1
    clear X1 Z1 C1 hx1 F1 hf1 kx lx kz fz lz HC
    go_wp2_with fail
    · skip
      go_at_call 96; refine (exRely0 r pc cc _).mono ?_; rintro e w2 ⟨rfl, hb2⟩
      have hx2 := H1.out.2.2.2.1.below hb2
      have hf2 := ExFr.of_below (r := r) (m := m) hb2
      clear hb2
      have X2 := hf2.blk H1.out.1 (by omega) (by omega)
      have Z2 := hf2.blk H1.out.2.1 (by omega) (by omega)
      have F2 := H1.out.2.2.2.2.trans hf2
      have H2 := hid (And.intro X2 (And.intro Z2 (And.intro hx2 F2)))
      have kx2 := X2.cell
      have lx2 := X2.lt
      have kr2 := hx2.blk.cell
      have fr2 := hx2.blk.free
      have lr2 := hx2.blk.lt
      unfold toCells at kx2
      unfold exCells at kr2
      have q21 : w2.cell? ⟨r, 23, none⟩ = some (.bool false) := kr2 23
      clear X2 Z2 hx2 F2 hf2 kx1 lx1 H1
      go_upto_region 8 with (fail)
      refine wp_region_late (S := SteadyAll _) (last := 27) (by kernel_rfl) (by kernel_rfl) (SteadyAll.of (Below.refl _ _).drew) ?_
      intro hSt
      refine wpAnyL_seq (is := [0, 1, 2, 3, 4, 5, 6, 7, 8, 9, 10, 11, 12, 13, 14, 15, 16, 17, 18, 19]) (by kernel_rfl) (by kernel_rfl) (fun _ _ d _ _ h => by cases d <;> exact h) (by assumption) ?_
      iterate 20 (refine qU ?_; simp only [Act.put, qY])
      refine TakeSeqL.done ?_
      refine wpAnyL_seq (is := [20, 21, 22]) (by kernel_rfl) (by kernel_rfl) (fun _ _ d _ _ h => by cases d <;> exact h) (by assumption) ?_
      iterate 3 (refine qU ?_; simp only [Act.put, qY])
      refine TakeSeqL.done ?_
      refine qHL 23 fun K hK => ?_
      go_simp
      refine hK.out _ _ (⟨(sa_same (SteadyAll.of qL) q21).rule⟩) (fun hHeld => ?_)
      clear hK K
      refine wpAnyL_seq (is := [24, 25, 26]) (by kernel_rfl) (by kernel_rfl) (fun _ _ d _ _ h => by cases d <;> exact h) (by assumption) ?_
      iterate 3 (refine qU ?_; simp only [Act.put, qY])
      refine TakeSeqL.done ?_
      refine wpAnyL_ready (rs := [27]) (by kernel_rfl) (by simp) ?_
      refine AllReadyL.final rfl (fun K hK => ?_)
      rw [if_pos (by rfl)]
      go_simp
      refine hK.out _ _ ?_
      clear hK K
      refine wpAnyL_done (by kernel_rfl) ?_ _
      have BR := Blk.cast (cs' := exCells vp va vk vw1 m (.slice none 0 0)) ((H2.out.2.2.1.blk.put 23 (.bool false)).put 24 (.bool false)) (by kernel_rfl)
      have hO : Over r w2 ((w2.setCell ⟨r, 23, none⟩ (.bool false)).setCell ⟨r, 24, none⟩ (.bool false)) := ((Over.refl _ _).put 23 _).put 24 _
      have hx3 := H2.out.2.2.1.reblk hO BR
      have X3 := blk_over H2.out.1 hO (by omega)
      have Z3 := blk_over H2.out.2.1 hO (by omega)
      have F3 := H2.out.2.2.2.trans (ExFr.of_over hO)
      have hd3 := (Below.refl ((w2.setCell ⟨r, 23, none⟩ (.bool false)).setCell ⟨r, 24, none⟩ (.bool false)).heap.size ((w2.setCell ⟨r, 23, none⟩ (.bool false)).setCell ⟨r, 24, none⟩ (.bool false))).drew
      go_upto_region 9 with (fail)
      refine wp_name (fun W' => Blk W' X 164 (toCells 0 true (.slice pe ne ce) (.slice pc 0 cc) 0) ∧ Blk W' (w.heap.size + 1) 164 (toCells 0 false (.slice none 0 0) (.slice none 0 0) 0) ∧ ExAt r m vp va vk vw1 K (Rf.merge W P) n D W' ∧ ExFr r m w W') ⟨?_, ?_, ?_, ?_⟩ (fun w4 H4 => ?_)
      · first | exact X3 | exact X3.kept hd3
      · first | exact Z3 | exact Z3.kept hd3
      · first | exact hx3 | exact hx3.below hd3
      · first | exact F3 | exact F3.trans (ExFr.of_below hd3)
      clear BR hO hx3 X3 Z3 F3 hd3 H2 kx2 lx2 kr2 fr2 lr2 q21
      have kx4 := H4.out.1.cell
      have lx4 := H4.out.1.lt
      have kz4 := H4.out.2.1.cell
      have fz4 := H4.out.2.1.free
      have lz4 := H4.out.2.1.lt
      unfold toCells at kx4 kz4
      go_wp2_with fail
      have BZ := H4.out.2.1
      have hO : Over (w.heap.size + 1) w4 (((((((((((((((w4.setCell ⟨w.heap.size + 1, 0, none⟩ (.int .i64 0)).setCell ⟨w.heap.size + 1, 1, none⟩ (.bool false)).setCell ⟨w.heap.size + 1, 2, none⟩ (.bool true)).setCell ⟨w.heap.size + 1, 3, none⟩ (.bool false)).setCell ⟨w.heap.size + 1, 4, none⟩ (.bool false)).setCell ⟨w.heap.size + 1, 5, none⟩ (.bool false)).setCell ⟨w.heap.size + 1, 6, none⟩ (.bool false)).setCell ⟨w.heap.size + 1, 7, none⟩ (.int .i64 0)).setCell ⟨w.heap.size + 1, 8, none⟩ (.int .i64 0)).setCell ⟨w.heap.size + 1, 9, none⟩ (.slice pe ne ce)).setCell ⟨w.heap.size + 1, 10, none⟩ (.slice pc 0 cc)).setCell ⟨w.heap.size + 1, 11, none⟩ (.int .i64 0)).setCell ⟨w.heap.size + 1, 12, none⟩ (.int .i64 0)).setCell ⟨w.heap.size + 1, 13, none⟩ (.int .i64 0))) := qV
      have hB : Below w4.heap.size w4 w4 := Below.refl _ _
      have hFF : ExFr r m w (((((((((((((((w4.setCell ⟨w.heap.size + 1, 0, none⟩ (.int .i64 0)).setCell ⟨w.heap.size + 1, 1, none⟩ (.bool false)).setCell ⟨w.heap.size + 1, 2, none⟩ (.bool true)).setCell ⟨w.heap.size + 1, 3, none⟩ (.bool false)).setCell ⟨w.heap.size + 1, 4, none⟩ (.bool false)).setCell ⟨w.heap.size + 1, 5, none⟩ (.bool false)).setCell ⟨w.heap.size + 1, 6, none⟩ (.bool false)).setCell ⟨w.heap.size + 1, 7, none⟩ (.int .i64 0)).setCell ⟨w.heap.size + 1, 8, none⟩ (.int .i64 0)).setCell ⟨w.heap.size + 1, 9, none⟩ (.slice pe ne ce)).setCell ⟨w.heap.size + 1, 10, none⟩ (.slice pc 0 cc)).setCell ⟨w.heap.size + 1, 11, none⟩ (.int .i64 0)).setCell ⟨w.heap.size + 1, 12, none⟩ (.int .i64 0)).setCell ⟨w.heap.size + 1, 13, none⟩ (.int .i64 0))) := H4.out.2.2.2.trans2 hO (by omega)
      have hxx := H4.out.2.2.1.far_over hO (by omega) (by omega) BZ (fun c a d hv => by have := HKB.out c a d hv; omega) (by omega)
      refine bodyPost_ret (results_bt rfl _ _ (w.heap.size + 1) _ _ _ rfl (Blk.cast ((((((((((((((BZ.put 0 _).put 1 _).put 2 _).put 3 _).put 4 _).put 5 _).put 6 _).put 7 _).put 8 _).put 9 _).put 10 _).put 11 _).put 12 _).put 13 _) (by kernel_rfl)) Tryz.underlying164 rfl (by kernel_rfl)) rfl ⟨pe, ne, ce, pc, cc, rfl, ⟨vw1, hxx⟩, hFF⟩
end Go.Proofs.YtcoiehgcfjfhaaaGreatDoor
