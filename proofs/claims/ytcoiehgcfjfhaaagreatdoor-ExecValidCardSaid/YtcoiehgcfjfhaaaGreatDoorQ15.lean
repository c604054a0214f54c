/- executor.run: its steps where no page is known: they wait. -/
import Derived.Test.YtcoiehgcfjfhaaaGreatDoorQ11
import Derived.Test.YtcoiehgcfjfhaaaGreatDoorQ13
import Derived.Test.YtcoiehgcfjfhaaaGreatDoorQ10
import Derived.Test.YtcoiehgcfjfhaaaGreatDoorQ14
import Derived.Deep.CutBlock
import Derived.Deep.DeepCutAuto
import Derived.Deep.CutRange
set_option linter.all false
set_option maxRecDepth 20000
set_option maxHeartbeats 8000000
open Go.Lib (hid)
namespace Go.Proofs.YtcoiehgcfjfhaaaGreatDoor
open Go.RowKit
def gCells (j : Jb) (vp va : Value) (m : Nat) (need : Value) : Array Value :=
  #[.int .i64 j.client, .int .i64 j.seq, .int .i64 j.lines, vp, va, .bool j.snap, .int .u64 j.v0, .int .u64 j.v1, .int .u64 j.v2, .int .u64 j.v3, .int .u64 j.v4, .int .u64 j.v5, .slice none 0 0, .slice none 0 0, .map (some m), need,
    .int .i64 0, .int .i64 0, .int .i64 0, .slice none 0 0, .slice none 0 0, .bool false, .bool false, .bool false, .bool false, .bool false]
def GWait (r : Nat) (j : Jb) (vp va : Value) (m : Nat) (v : Value) (w : World) (e : Ending) (w' : World) : Prop :=
  e = .returned v ∧ (∃ g c, Blk w' r 82 (gCells j vp va m (.slice (some ⟨g, 0, none⟩) 1 c))) ∧ Over r w w'
theorem gWait (r : Nat) (j : Jb) (vp va : Value) (m g c : Nat) (w : World) (B : Blk w r 82 (gCells j vp va m (.slice none 0 0))) :
    Calls Tryz.prog 61 #[.pointer (some ⟨r, 0, none⟩), (.slice (some ⟨g, 0, none⟩) 1 c)] w (GWait r j vp va m (.bool false) w) := by
  have kc := B.cell
  have fc := B.free
  have lc := B.lt
  have HB := hid B
  clear B
  unfold gCells at kc
  go_enter Tryz.func61, Tryz.ntmps61
  go_wp2_with fail
  refine bodyPost_ret (results_tmp rfl _ _ _) rfl ⟨rfl, ⟨g, c, ?_⟩, ?_⟩
  · exact Blk.cast (HB.out.put 15 _) (by kernel_rfl)
  · exact qV
theorem gView (r : Nat) (j : Jb) (vp va : Value) (m : Nat) (w : World) (B : Blk w r 82 (gCells j vp va m (.slice none 0 0))) :
    Calls Tryz.prog 94 #[.pointer (some ⟨r, 0, none⟩)] w fun e w' => (∃ p c, e = .returned (.slice p 0 c) ∧ PgRow w' (.slice p 0 c) []) ∧ Below w.heap.size w w' := by
  have HM : Hid (∀ W, Calls Tryz.prog 150 #[.slice none 0 0, .slice none 0 0] W fun e w' => (∃ p c, e = .returned (.slice p 0 c) ∧ PgRow w' (.slice p 0 c) []) ∧ Below W.heap.size W w') := hid (fun W =>
    (merge_ok [] [] (.slice none 0 0) (.slice none 0 0) W ⟨by simp, by simp, .inl ⟨rfl, rfl⟩⟩ ⟨by simp, by simp, .inl ⟨rfl, rfl⟩⟩ (by simp) (by simp)).mono (fun e w' ⟨v, he, hp, _, hb⟩ => by
      obtain ⟨p, c, hv⟩ := hp.slice
      have hz : (Rf.merge [] []) = [] := rfl
      rw [hz] at hp hv
      subst hv
      exact ⟨⟨p, c, he, hp⟩, hb⟩))
  have kc := B.cell
  have lc := B.lt
  unfold gCells at kc
  clear B
  go_enter Tryz.func94, Tryz.ntmps94
  go_upto_region 1 with (fail)
  refine qA fun hSt => ?_
  refine qS [0, 1, 2, 3, 4, 5, 6, 7] ?_
  iterate 8 (refine qT ?_; simp only [Act.put, qY])
  refine TakeSeq.done ?_
  refine qH 8 fun K hK => ?_
  go_simp
  go_at_call 150; refine (HM.out _).mono ?_; rintro e w1 ⟨⟨p, c, rfl, hp1⟩, hb1⟩
  go_wp2_with fail
  refine hK.out _ _ (SteadyAll.of qL) (fun hHeld => ?_)
  clear hK K
  refine qS [9] ?_
  refine qT ?_; simp only [Act.put, qY]
  refine TakeSeq.done ?_
  refine qD ?_ _
  go_wp2_with fail
  exact bodyPost_ret (results_tmp rfl _ _ _) rfl ⟨⟨p, c, rfl, hp1⟩, qL⟩
structure GHashCut (r : Nat) (j : Jb) (vp va : Value) (m : Nat) (w : World) (b : Nat) (wx : World) : Prop where
  out : Blk wx b 224 #[.int .i64 0, .bool false, .bool false, .bool false, .bool false, .bool false, .int .i64 0, .int .i64 0, .slice none 0 0, .int .i64 0, .int .i64 0]
  run : Blk wx r 82 (gCells j vp va m (.slice none 0 0))
  res : Blk wx (w.heap.size + 1) 224 #[.int .i64 0, .bool false, .bool false, .bool false, .bool false, .bool false, .int .i64 0, .int .i64 0, .slice none 0 0, .int .i64 0, .int .i64 0]
  below : Below w.heap.size w wx
theorem gHash (r : Nat) (j : Jb) (vp va : Value) (m : Nat) (key : Int) (w : World) (B : Blk w r 82 (gCells j vp va m (.slice none 0 0))) (h1 : 1 ≤ key) (h2 : key ≤ 4294967294) :
    Calls Tryz.prog 103 #[.pointer (some ⟨r, 0, none⟩), .agg #[.int .i64 1, .int .u32 key, .int .i64 0, .int .i64 0, .slice none 0 0], .int .i64 0] w (GWait r j vp va m (.tuple #[.agg #[.int .i64 0, .bool false, .bool false, .bool false, .bool false, .bool false, .int .i64 0, .int .i64 0, .slice none 0 0, .int .i64 0, .int .i64 0], .bool false]) w) := by
  have HN : Hid (∀ p c W, Below w.heap.size w W → PgRow W (.slice p 0 c) [] → Calls Tryz.prog 156 #[.agg #[.int .i64 1, .int .u32 key, .int .i64 0, .int .i64 0, .slice none 0 0], .slice p 0 c] W fun e w' => (∃ g cg, e = .returned (.tuple #[.slice (some ⟨g, 0, none⟩) 1 cg, .slice none 0 0, .agg #[.int .i64 0, .bool false, .bool false, .bool false, .bool false, .bool false, .int .i64 0, .int .i64 0, .slice none 0 0, .int .i64 0, .int .i64 0], .bool false])) ∧ Below W.heap.size W w') := hid (fun p c W hbW hp => (hiNextMiss key h1 h2 p c W hp).mono (fun e w2 ⟨⟨g, he⟩, hb⟩ => ⟨⟨g, 1, he⟩, hb⟩))
  have HWT := hid (fun g cg W h => gWait r j vp va m g cg W h)
  have HB0 := hid B
  have HVW : Hid (∀ W, Blk W r 82 (gCells j vp va m (.slice none 0 0)) → Calls Tryz.prog 94 #[.pointer (some ⟨r, 0, none⟩)] W fun e w' => (∃ p c, e = .returned (.slice p 0 c) ∧ PgRow w' (.slice p 0 c) []) ∧ Below W.heap.size W w') := hid (fun W h => gView r j vp va m W h)
  have lr := B.lt
  clear B
  go_enter Tryz.func103, Tryz.ntmps103
  go_upto_region 1 with (fail)
  refine wp_name (fun W' => Blk W' r 82 (gCells j vp va m (.slice none 0 0)) ∧ (Blk W' (w.heap.size + 1) 224 #[.int .i64 0, .bool false, .bool false, .bool false, .bool false, .bool false, .int .i64 0, .int .i64 0, .slice none 0 0, .int .i64 0, .int .i64 0] ∧ Blk W' w.heap.size 228 #[.int .i64 1, .int .u32 key, .int .i64 0, .int .i64 0, .slice none 0 0]) ∧ Below w.heap.size w W') ⟨HB0.out.kept qL, ⟨Blk.made' (by simp), (Blk.made w _ _).alloc _⟩, qL⟩ (fun w0 HZ => ?_)
  have HB : Hid (Blk w0 r 82 (gCells j vp va m (.slice none 0 0)) ∧ Blk w0 (w.heap.size + 1) 224 #[.int .i64 0, .bool false, .bool false, .bool false, .bool false, .bool false, .int .i64 0, .int .i64 0, .slice none 0 0, .int .i64 0, .int .i64 0] ∧ Below w.heap.size w w0) := hid ⟨HZ.out.1, HZ.out.2.1.1, HZ.out.2.2⟩
  have BO := HZ.out.2.1.2
  have ko := BO.cell
  have lo := BO.lt
  have lz : w.heap.size + 1 < w0.heap.size := HZ.out.2.1.1.lt
  have HV : Hid (∀ W, Below w0.heap.size w0 W → Calls Tryz.prog 94 #[.pointer (some ⟨r, 0, none⟩)] W fun e w' => (∃ p c, e = .returned (.slice p 0 c) ∧ PgRow w' (.slice p 0 c) []) ∧ Below W.heap.size W w') := hid (fun W hb => HVW.out W (HZ.out.1.kept hb))
  clear BO
  go_cut [8, 9, 10, 11] from 12 to 20 (fun a b c d wx => ∃ g cg b10, a = .slice (some ⟨g, 0, none⟩) 1 cg ∧ b = .slice none 0 0 ∧ c = .pointer (some ⟨b10, 0, none⟩) ∧ d = .bool false ∧ w.heap.size + 1 < b10 ∧ Hid (GHashCut r j vp va m w b10 wx))
  case first =>
    go_upto_region 1 with (fail)
    refine qA fun hSt => ?_
    refine qS [0, 1] ?_
    iterate 2 (refine qT ?_; simp only [Act.put, qY])
    refine TakeSeq.done ?_
    refine wpAnyH_ready (rs := [2, 9]) (by kernel_rfl) (by simp) ?_
    refine AllReadyH.cons rfl (fun K hK => ?_) (AllReadyH.cons rfl (fun K hK => ?_) (AllReadyH.nil))
    · skip
      rw [if_pos (by rfl)]
      go_simp
      go_at_call 94; refine (HV.out _ qL).mono ?_; rintro e w1 ⟨⟨p, c, rfl, hp1⟩, hb1⟩
      go_wp2_with fail
      refine hK.out _ _ (SteadyAll.of qL) (fun hHeld => ?_)
      clear hK K
      refine wpAnyH_ready (rs := [3, 9]) (by kernel_rfl) (by simp) ?_
      refine AllReadyH.cons rfl (fun K hK => ?_) (AllReadyH.cons rfl (fun K hK => ?_) (AllReadyH.nil))
      · skip
        rw [if_pos (by rfl)]
        go_simp
        go_at_call 156; refine (HN.out _ _ _ (by have hb0 := HB.out.2.2; exact qL) hp1).mono ?_; rintro e w2 ⟨⟨g, cg, rfl⟩, hb2⟩
        go_wp2_with fail
        refine hK.out _ _ (SteadyAll.of qL) (fun hHeld => ?_)
        clear hK K
        have hs : w0.heap.size ≤ w2.heap.size := by have h1 := hb1.size; have h2 := hb2.size; simp only [size_drew] at h1 h2; omega
        have H7 : Hid (Below w0.heap.size w0 w2) := hid qL
        refine qS [4, 5, 6, 7, 8] ?_
        iterate 5 (refine qT ?_; simp only [Act.put, qY])
        refine TakeSeq.done ?_
        refine qH 9 fun K hK => ?_
        go_simp
        refine hK.out _ _ (SteadyAll.of qL) (fun hHeld => ?_)
        clear hK K
        refine qS [10, 11] ?_
        iterate 2 (refine qT ?_; simp only [Act.put, qY])
        refine TakeSeq.done ?_
        refine qH 12 fun K hK => ?_
        go_simp
        refine hK.out _ _ (SteadyAll.of qL) (fun hHeld => ?_)
        clear hK K
        refine qS [13] ?_
        refine qT ?_; simp only [Act.put, qY]
        refine TakeSeq.done ?_
        refine qD ?_ _
        go_wp2_with fail
        go_meet
        have hb0 := HB.out.2.2
        have h7 := H7.out
        exact ⟨g, cg, w2.heap.size, rfl, rfl, rfl, rfl, by omega, hid ⟨Blk.made _ _ _, (HB.out.1.kept h7).alloc _, (HB.out.2.1.kept h7).alloc _, qL⟩⟩
      · skip
        rw [if_pos (by rfl)]
        go_simp
        refine hK.out _ _ (SteadyAll.of qL) (fun hHeld => ?_)
        clear hK K
        refine qH 3 fun K hK => ?_
        go_simp
        go_at_call 156; refine (HN.out _ _ _ (by have hb0 := HB.out.2.2; exact qL) (hp1.below (below_alloc (Below.refl _ _) _))).mono ?_; rintro e w2 ⟨⟨g, cg, rfl⟩, hb2⟩
        go_wp2_with fail
        refine hK.out _ _ (SteadyAll.of qL) (fun hHeld => ?_)
        clear hK K
        have B7 : Blk w2 w1.heap.size 224 #[.int .i64 0, .bool false, .bool false, .bool false, .bool false, .bool false, .int .i64 0, .int .i64 0, .slice none 0 0, .int .i64 0, .int .i64 0] := (Blk.made w1 _ _).kept hb2
        have hs : w0.heap.size ≤ w1.heap.size := by have h1 := hb1.size; simp only [size_drew] at h1; omega
        have k7 := B7.cell
        have f7 := B7.free
        have l7 := B7.lt
        have H7 : Hid (Below w0.heap.size w0 w2 ∧ Blk w2 w1.heap.size 224 #[.int .i64 0, .bool false, .bool false, .bool false, .bool false, .bool false, .int .i64 0, .int .i64 0, .slice none 0 0, .int .i64 0, .int .i64 0]) := hid ⟨qL, B7⟩
        clear B7
        refine qS [4, 5, 6, 7, 8, 10, 11] ?_
        iterate 7 (refine qT ?_; simp only [Act.put, qY])
        refine TakeSeq.done ?_
        refine qH 12 fun K hK => ?_
        go_simp
        refine hK.out _ _ (SteadyAll.of qL) (fun hHeld => ?_)
        clear hK K
        refine qS [13] ?_
        refine qT ?_; simp only [Act.put, qY]
        refine TakeSeq.done ?_
        refine qD ?_ _
        go_wp2_with fail
        go_meet
        have hb0 := HB.out.2.2
        have h7 := H7.out.1
        have BR := HB.out.1.kept h7
        have BZ := HB.out.2.1.kept h7
        have z1 : w.heap.size ≤ w1.heap.size := by omega
        have z2 : r < w1.heap.size := by have := HB.out.1.lt; omega
        have z3 : w.heap.size + 1 < w1.heap.size := by omega
        have BR2 : Blk w2 r 82 (gCells j vp va m (.slice none 0 0)) := BR
        exact ⟨g, cg, w1.heap.size, rfl, rfl, rfl, rfl, by omega, hid ⟨Blk.cast (((((((((((H7.out.2.put 0 _).put 1 _).put 2 _).put 3 _).put 4 _).put 5 _).put 6 _).put 7 _).put 8 _).put 9 _).put 10 _) (by kernel_rfl), by (have B := BR2; exact qK), by (have B := BZ; exact qK), qL⟩⟩
    · skip
      rw [if_pos (by rfl)]
      go_simp
      refine hK.out _ _ (SteadyAll.of qL) (fun hHeld => ?_)
      clear hK K
      refine qH 2 fun K hK => ?_
      go_simp
      go_at_call 94; refine (HV.out _ qL).mono ?_; rintro e w1 ⟨⟨p, c, rfl, hp1⟩, hb1⟩
      go_wp2_with fail
      refine hK.out _ _ (SteadyAll.of qL) (fun hHeld => ?_)
      clear hK K
      refine qH 3 fun K hK => ?_
      go_simp
      go_at_call 156; refine (HN.out _ _ _ (by have hb0 := HB.out.2.2; exact qL) hp1).mono ?_; rintro e w2 ⟨⟨g, cg, rfl⟩, hb2⟩
      go_wp2_with fail
      refine hK.out _ _ (SteadyAll.of qL) (fun hHeld => ?_)
      clear hK K
      have B7 : Blk w2 w0.heap.size 224 #[.int .i64 0, .bool false, .bool false, .bool false, .bool false, .bool false, .int .i64 0, .int .i64 0, .slice none 0 0, .int .i64 0, .int .i64 0] := ((Blk.made w0.drew _ _).kept hb1).kept hb2
      have k7 := B7.cell
      have f7 := B7.free
      have l7 := B7.lt
      have H7 : Hid (Below w0.heap.size w0 w2 ∧ Blk w2 w0.heap.size 224 #[.int .i64 0, .bool false, .bool false, .bool false, .bool false, .bool false, .int .i64 0, .int .i64 0, .slice none 0 0, .int .i64 0, .int .i64 0]) := hid ⟨qL, B7⟩
      clear B7
      refine qS [4, 5, 6, 7, 8, 10, 11] ?_
      iterate 7 (refine qT ?_; simp only [Act.put, qY])
      refine TakeSeq.done ?_
      refine qH 12 fun K hK => ?_
      go_simp
      refine hK.out _ _ (SteadyAll.of qL) (fun hHeld => ?_)
      clear hK K
      refine qS [13] ?_
      refine qT ?_; simp only [Act.put, qY]
      refine TakeSeq.done ?_
      refine qD ?_ _
      go_wp2_with fail
      go_meet
      have hb0 := HB.out.2.2
      have h7 := H7.out.1
      have BR := HB.out.1.kept h7
      have BZ := HB.out.2.1.kept h7
      have z1 : w.heap.size ≤ w0.heap.size := by omega
      have z2 : r < w0.heap.size := by have := HB.out.1.lt; omega
      exact ⟨g, cg, w0.heap.size, rfl, rfl, rfl, rfl, by omega, hid ⟨Blk.cast (((((((((((H7.out.2.put 0 _).put 1 _).put 2 _).put 3 _).put 4 _).put 5 _).put 6 _).put 7 _).put 8 _).put 9 _).put 10 _) (by kernel_rfl), by (have B := BR; exact qK), by (have B := BZ; exact qK), qL⟩⟩
  case rest =>
    obtain ⟨g, cg, b10, rfl, rfl, rfl, rfl, hb10, HX⟩ := hcut
    obtain ⟨w3, hw3⟩ : ∃ w3, w3 = wc := ⟨_, rfl⟩
    subst hw3
    have k10 := HX.out.out.cell
    have l10 := HX.out.out.lt
    go_wp2_with fail
    refine wp_region_held_drew (S := KeepAt b10 224 #[.int .i64 0, .bool false, .bool false, .bool false, .bool false, .bool false, .int .i64 0, .int .i64 0, .slice none 0 0, .int .i64 0, .int .i64 0]) (by kernel_rfl) ⟨HX.out.out.drew⟩ ?_
    intro hSt
    refine qS [0, 1, 2] ?_
    iterate 3 (refine qT ?_; simp only [Act.put, qY])
    refine TakeSeq.done ?_
    refine qH 3 fun K hK => ?_
    go_simp
    go_at_call 61; refine (HWT.out _ _ _ HX.out.run.drew).mono ?_; rintro e w4 ⟨rfl, hg4, ho4⟩
    go_wp2_with fail
    refine hK.out _ _ (⟨blk_over HX.out.out.drew ho4 (by have := HX.out.run.lt; omega)⟩) (fun hHeld => ?_)
    clear hK K
    have BZ4 := blk_over HX.out.res.drew ho4 (by omega)
    have kz := BZ4.cell
    have fz := BZ4.free
    have lz4 := BZ4.lt
    have B104 := blk_over HX.out.out.drew ho4 (by omega)
    have H4 := hid (And.intro BZ4 (And.intro hg4 (And.intro ho4 B104)))
    clear BZ4 hg4 ho4 B104
    have hne : b10 ≠ w.heap.size + 1 := by omega
    refine qH 4 fun K hK => ?_
    go_simp
    refine hK.out _ _ (⟨by have B := H4.out.2.2.2; (repeat (first | with_reducible exact B | with_reducible apply Blk.put | with_reducible apply Blk.alloc | (with_reducible apply Blk.aside; (case hp => first | (simp; done) | (simp; omega))) | with_reducible apply Blk.drew))⟩) (fun hHeld => ?_)
    clear hK K
    refine qS [5] ?_
    refine qT ?_; simp only [Act.put, qY]
    refine TakeSeq.done ?_
    refine qD ?_ _
    go_wp2_with fail
    obtain ⟨g2, c2, hg2⟩ := H4.out.2.1
    have hl2 : r ≠ w.heap.size + 1 := by omega
    have hov : Over r w w4 := (Over.of_below HX.out.below).drew.trans H4.out.2.2.1
    refine bodyPost_ret (results_bt rfl _ _ (w.heap.size + 1) _ _ _ rfl (Blk.cast (((((((((((H4.out.1.put 0 _).put 1 _).put 2 _).put 3 _).put 4 _).put 5 _).put 6 _).put 7 _).put 8 _).put 9 _).put 10 _) (by kernel_rfl)) Tryz.underlying224 rfl (by kernel_rfl)) rfl ⟨rfl, ⟨g2, c2, by (have B := hg2; exact qK)⟩, ?_⟩
    exact qV
theorem btValidFind (key : Int) (h1 : 1 ≤ key) (h2 : key ≤ 4294967294) (w : World) : Calls Tryz.prog 137 #[.agg #[.int .i64 1, .int .u32 key, .int .u32 0, .int .i64 0, .int .i64 0, .int .i64 0, .int .i64 0, .slice none 0 0]] w fun e w' => e = .returned (.bool true) ∧ Below w.heap.size w w' := by
  have HK : Hid (∀ W, Calls Tryz.prog 176 #[.int .u32 key] W fun e w' => e = .returned (.bool true) ∧ W = w') := hid (fun W => by have h := isKey_any key W; rwa [show Bt.isKey key = true by unfold Bt.isKey; rw [decide_eq_true (show 1 ≤ key by omega), decide_eq_true (show key ≤ Bt.maxKey by unfold Bt.maxKey; omega)]; rfl] at h)
  clear h1 h2
  go_enter Tryz.func137, Tryz.ntmps137
  go_wp2_with fail
  go_at_call 176; refine (HK.out _).mono ?_; rintro e w1 ⟨rfl, rfl⟩
  go_wp2_with fail
  exact bodyPost_ret (results_tmp rfl _ _ _) rfl ⟨rfl, qL⟩
theorem btValidScan (key last : Int) (h1 : 1 ≤ key) (h2 : key ≤ last) (h3 : last ≤ 4294967294) (w : World) : Calls Tryz.prog 137 #[.agg #[.int .i64 4, .int .u32 key, .int .u32 last, .int .i64 0, .int .i64 0, .int .i64 0, .int .i64 64, .slice none 0 0]] w fun e w' => e = .returned (.bool true) ∧ Below w.heap.size w w' := by
  have HK : Hid (∀ W, Calls Tryz.prog 176 #[.int .u32 key] W fun e w' => e = .returned (.bool true) ∧ W = w') := hid (fun W => by have h := isKey_any key W; rwa [show Bt.isKey key = true by unfold Bt.isKey; rw [decide_eq_true (show 1 ≤ key by omega), decide_eq_true (show key ≤ Bt.maxKey by unfold Bt.maxKey; omega)]; rfl] at h)
  have HL : Hid (∀ W, Calls Tryz.prog 176 #[.int .u32 last] W fun e w' => e = .returned (.bool true) ∧ W = w') := hid (fun W => by have h := isKey_any last W; rwa [show Bt.isKey last = true by unfold Bt.isKey; rw [decide_eq_true (show 1 ≤ last by omega), decide_eq_true (show last ≤ Bt.maxKey by unfold Bt.maxKey; omega)]; rfl] at h)
  have k1 : decide (key ≤ last) = true := by simpa using h2
  clear h1 h2 h3
  go_enter Tryz.func137, Tryz.ntmps137
  go_wp2_with fail
  go_at_call 176; refine (HK.out _).mono ?_; rintro e w1 ⟨rfl, rfl⟩
  go_wp2_with fail
  go_at_call 176; refine (HL.out _).mono ?_; rintro e w1 ⟨rfl, rfl⟩
  go_wp2_with fail
  exact bodyPost_ret (results_tmp rfl _ _ _) rfl ⟨rfl, qL⟩
theorem btNextMiss (kind key last lim : Int) (hv : ∀ W, Calls Tryz.prog 137 #[.agg #[.int .i64 kind, .int .u32 key, .int .u32 last, .int .i64 0, .int .i64 0, .int .i64 0, .int .i64 lim, .slice none 0 0]] W fun e w' => e = .returned (.bool true) ∧ Below W.heap.size W w')
    (p : Option Addr) (c : Nat) (w : World) (hn : NoneAt w) (hp : PgRow w (.slice p 0 c) []) :
    Calls Tryz.prog 93 #[.agg #[.int .i64 kind, .int .u32 key, .int .u32 last, .int .i64 0, .int .i64 0, .int .i64 0, .int .i64 lim, .slice none 0 0], .slice p 0 c] w fun e w' =>
      (∃ g cg, e = .returned (.tuple #[.slice (some ⟨g, 0, none⟩) 1 cg, .slice none 0 0, .agg #[.int .i64 0, .bool false, .bool false, .bool false, .bool false, .bool false, .bool false, .int .i64 0, .int .i64 0, .slice none 0 0, .slice none 0 0, .int .i64 0, .int .i64 0, .int .i64 0], .bool false])) ∧ Below w.heap.size w w' :=
  (next_root_need4 ⟨kind, key, last, ⟨0, 0⟩, 0, lim, []⟩ [] none p 0 0 0 c w ⟨by simp, by simp, .inl ⟨rfl, rfl⟩⟩ hp hn hv rfl).mono (fun e w' ⟨vn, he, hown, hb⟩ => by
    obtain ⟨g, cg, hv⟩ := own_form hown (by omega)
    subst hv
    exact ⟨⟨g, cg, he⟩, hb⟩)
structure GTreeCut (r : Nat) (j : Jb) (vp va : Value) (m : Nat) (w : World) (b : Nat) (wx : World) : Prop where
  out : Blk wx b 164 #[.int .i64 0, .bool false, .bool false, .bool false, .bool false, .bool false, .bool false, .int .i64 0, .int .i64 0, .slice none 0 0, .slice none 0 0, .int .i64 0, .int .i64 0, .int .i64 0]
  run : Blk wx r 82 (gCells j vp va m (.slice none 0 0))
  res : Blk wx (w.heap.size + 1) 164 #[.int .i64 0, .bool false, .bool false, .bool false, .bool false, .bool false, .bool false, .int .i64 0, .int .i64 0, .slice none 0 0, .slice none 0 0, .int .i64 0, .int .i64 0, .int .i64 0]
  below : Below w.heap.size w wx
theorem gTree (r : Nat) (j : Jb) (vp va : Value) (m : Nat) (kind key last lim : Int) (w : World) (B : Blk w r 82 (gCells j vp va m (.slice none 0 0))) (hno : NoneAt w) (hv : ∀ W, Calls Tryz.prog 137 #[.agg #[.int .i64 kind, .int .u32 key, .int .u32 last, .int .i64 0, .int .i64 0, .int .i64 0, .int .i64 lim, .slice none 0 0]] W fun e w' => e = .returned (.bool true) ∧ Below W.heap.size W w') :
    Calls Tryz.prog 64 #[.pointer (some ⟨r, 0, none⟩), .agg #[.int .i64 kind, .int .u32 key, .int .u32 last, .int .i64 0, .int .i64 0, .int .i64 0, .int .i64 lim, .slice none 0 0], .int .i64 0] w (GWait r j vp va m (.tuple #[.agg #[.int .i64 0, .bool false, .bool false, .bool false, .bool false, .bool false, .bool false, .int .i64 0, .int .i64 0, .slice none 0 0, .slice none 0 0, .int .i64 0, .int .i64 0, .int .i64 0], .bool false]) w) := by
  have HN : Hid (∀ p c W, Below w.heap.size w W → PgRow W (.slice p 0 c) [] → Calls Tryz.prog 93 #[.agg #[.int .i64 kind, .int .u32 key, .int .u32 last, .int .i64 0, .int .i64 0, .int .i64 0, .int .i64 lim, .slice none 0 0], .slice p 0 c] W fun e w' => (∃ g cg, e = .returned (.tuple #[.slice (some ⟨g, 0, none⟩) 1 cg, .slice none 0 0, .agg #[.int .i64 0, .bool false, .bool false, .bool false, .bool false, .bool false, .bool false, .int .i64 0, .int .i64 0, .slice none 0 0, .slice none 0 0, .int .i64 0, .int .i64 0, .int .i64 0], .bool false])) ∧ Below W.heap.size W w') := hid (fun p c W hbW hp => btNextMiss kind key last lim hv p c W (hno.below hbW) hp)
  have HWT := hid (fun g cg W h => gWait r j vp va m g cg W h)
  have HB0 := hid B
  have HVW : Hid (∀ W, Blk W r 82 (gCells j vp va m (.slice none 0 0)) → Calls Tryz.prog 94 #[.pointer (some ⟨r, 0, none⟩)] W fun e w' => (∃ p c, e = .returned (.slice p 0 c) ∧ PgRow w' (.slice p 0 c) []) ∧ Below W.heap.size W w') := hid (fun W h => gView r j vp va m W h)
  have lr := B.lt
  clear B
  go_enter Tryz.func64, Tryz.ntmps64
  go_upto_region 1 with (fail)
  refine wp_name (fun W' => Blk W' r 82 (gCells j vp va m (.slice none 0 0)) ∧ (Blk W' (w.heap.size + 1) 164 #[.int .i64 0, .bool false, .bool false, .bool false, .bool false, .bool false, .bool false, .int .i64 0, .int .i64 0, .slice none 0 0, .slice none 0 0, .int .i64 0, .int .i64 0, .int .i64 0] ∧ Blk W' w.heap.size 168 #[.int .i64 kind, .int .u32 key, .int .u32 last, .int .i64 0, .int .i64 0, .int .i64 0, .int .i64 lim, .slice none 0 0]) ∧ Below w.heap.size w W') ⟨HB0.out.kept qL, ⟨Blk.made' (by simp), (Blk.made w _ _).alloc _⟩, qL⟩ (fun w0 HZ => ?_)
  have HB : Hid (Blk w0 r 82 (gCells j vp va m (.slice none 0 0)) ∧ Blk w0 (w.heap.size + 1) 164 #[.int .i64 0, .bool false, .bool false, .bool false, .bool false, .bool false, .bool false, .int .i64 0, .int .i64 0, .slice none 0 0, .slice none 0 0, .int .i64 0, .int .i64 0, .int .i64 0] ∧ Below w.heap.size w w0) := hid ⟨HZ.out.1, HZ.out.2.1.1, HZ.out.2.2⟩
  have BO := HZ.out.2.1.2
  have ko := BO.cell
  have lo := BO.lt
  have lz : w.heap.size + 1 < w0.heap.size := HZ.out.2.1.1.lt
  have HV : Hid (∀ W, Below w0.heap.size w0 W → Calls Tryz.prog 94 #[.pointer (some ⟨r, 0, none⟩)] W fun e w' => (∃ p c, e = .returned (.slice p 0 c) ∧ PgRow w' (.slice p 0 c) []) ∧ Below W.heap.size W w') := hid (fun W hb => HVW.out W (HZ.out.1.kept hb))
  clear BO
  go_cut [8, 9, 10, 11] from 12 to 20 (fun a b c d wx => ∃ g cg b10, a = .slice (some ⟨g, 0, none⟩) 1 cg ∧ b = .slice none 0 0 ∧ c = .pointer (some ⟨b10, 0, none⟩) ∧ d = .bool false ∧ w.heap.size + 1 < b10 ∧ Hid (GTreeCut r j vp va m w b10 wx))
  case first =>
    go_upto_region 1 with (fail)
    refine qA fun hSt => ?_
    refine qS [0, 1] ?_
    iterate 2 (refine qT ?_; simp only [Act.put, qY])
    refine TakeSeq.done ?_
    refine wpAnyH_ready (rs := [2, 9]) (by kernel_rfl) (by simp) ?_
    refine AllReadyH.cons rfl (fun K hK => ?_) (AllReadyH.cons rfl (fun K hK => ?_) (AllReadyH.nil))
    · skip
      rw [if_pos (by rfl)]
      go_simp
      go_at_call 94; refine (HV.out _ qL).mono ?_; rintro e w1 ⟨⟨p, c, rfl, hp1⟩, hb1⟩
      go_wp2_with fail
      refine hK.out _ _ (SteadyAll.of qL) (fun hHeld => ?_)
      clear hK K
      refine wpAnyH_ready (rs := [3, 9]) (by kernel_rfl) (by simp) ?_
      refine AllReadyH.cons rfl (fun K hK => ?_) (AllReadyH.cons rfl (fun K hK => ?_) (AllReadyH.nil))
      · skip
        rw [if_pos (by rfl)]
        go_simp
        go_at_call 93; refine (HN.out _ _ _ (by have hb0 := HB.out.2.2; exact qL) hp1).mono ?_; rintro e w2 ⟨⟨g, cg, rfl⟩, hb2⟩
        go_wp2_with fail
        refine hK.out _ _ (SteadyAll.of qL) (fun hHeld => ?_)
        clear hK K
        have hs : w0.heap.size ≤ w2.heap.size := by have h1 := hb1.size; have h2 := hb2.size; simp only [size_drew] at h1 h2; omega
        have H7 : Hid (Below w0.heap.size w0 w2) := hid qL
        refine qS [4, 5, 6, 7, 8] ?_
        iterate 5 (refine qT ?_; simp only [Act.put, qY])
        refine TakeSeq.done ?_
        refine qH 9 fun K hK => ?_
        go_simp
        refine hK.out _ _ (SteadyAll.of qL) (fun hHeld => ?_)
        clear hK K
        refine qS [10, 11] ?_
        iterate 2 (refine qT ?_; simp only [Act.put, qY])
        refine TakeSeq.done ?_
        refine qH 12 fun K hK => ?_
        go_simp
        refine hK.out _ _ (SteadyAll.of qL) (fun hHeld => ?_)
        clear hK K
        refine qS [13] ?_
        refine qT ?_; simp only [Act.put, qY]
        refine TakeSeq.done ?_
        refine qD ?_ _
        go_wp2_with fail
        go_meet
        have hb0 := HB.out.2.2
        have h7 := H7.out
        exact ⟨g, cg, w2.heap.size, rfl, rfl, rfl, rfl, by omega, hid ⟨Blk.made _ _ _, (HB.out.1.kept h7).alloc _, (HB.out.2.1.kept h7).alloc _, qL⟩⟩
      · skip
        rw [if_pos (by rfl)]
        go_simp
        refine hK.out _ _ (SteadyAll.of qL) (fun hHeld => ?_)
        clear hK K
        refine qH 3 fun K hK => ?_
        go_simp
        go_at_call 93; refine (HN.out _ _ _ (by have hb0 := HB.out.2.2; exact qL) (hp1.below (below_alloc (Below.refl _ _) _))).mono ?_; rintro e w2 ⟨⟨g, cg, rfl⟩, hb2⟩
        go_wp2_with fail
        refine hK.out _ _ (SteadyAll.of qL) (fun hHeld => ?_)
        clear hK K
        have B7 : Blk w2 w1.heap.size 164 #[.int .i64 0, .bool false, .bool false, .bool false, .bool false, .bool false, .bool false, .int .i64 0, .int .i64 0, .slice none 0 0, .slice none 0 0, .int .i64 0, .int .i64 0, .int .i64 0] := (Blk.made w1 _ _).kept hb2
        have hs : w0.heap.size ≤ w1.heap.size := by have h1 := hb1.size; simp only [size_drew] at h1; omega
        have k7 := B7.cell
        have f7 := B7.free
        have l7 := B7.lt
        have H7 : Hid (Below w0.heap.size w0 w2 ∧ Blk w2 w1.heap.size 164 #[.int .i64 0, .bool false, .bool false, .bool false, .bool false, .bool false, .bool false, .int .i64 0, .int .i64 0, .slice none 0 0, .slice none 0 0, .int .i64 0, .int .i64 0, .int .i64 0]) := hid ⟨qL, B7⟩
        clear B7
        refine qS [4, 5, 6, 7, 8, 10, 11] ?_
        iterate 7 (refine qT ?_; simp only [Act.put, qY])
        refine TakeSeq.done ?_
        refine qH 12 fun K hK => ?_
        go_simp
        refine hK.out _ _ (SteadyAll.of qL) (fun hHeld => ?_)
        clear hK K
        refine qS [13] ?_
        refine qT ?_; simp only [Act.put, qY]
        refine TakeSeq.done ?_
        refine qD ?_ _
        go_wp2_with fail
        go_meet
        have hb0 := HB.out.2.2
        have h7 := H7.out.1
        have BR := HB.out.1.kept h7
        have BZ := HB.out.2.1.kept h7
        have z1 : w.heap.size ≤ w1.heap.size := by omega
        have z2 : r < w1.heap.size := by have := HB.out.1.lt; omega
        have z3 : w.heap.size + 1 < w1.heap.size := by omega
        have BR2 : Blk w2 r 82 (gCells j vp va m (.slice none 0 0)) := BR
        exact ⟨g, cg, w1.heap.size, rfl, rfl, rfl, rfl, by omega, hid ⟨Blk.cast ((((((((((((((H7.out.2.put 0 _).put 1 _).put 2 _).put 3 _).put 4 _).put 5 _).put 6 _).put 7 _).put 8 _).put 9 _).put 10 _).put 11 _).put 12 _).put 13 _) (by kernel_rfl), by (have B := BR2; exact qK), by (have B := BZ; exact qK), qL⟩⟩
    · skip
      rw [if_pos (by rfl)]
      go_simp
      refine hK.out _ _ (SteadyAll.of qL) (fun hHeld => ?_)
      clear hK K
      refine qH 2 fun K hK => ?_
      go_simp
      go_at_call 94; refine (HV.out _ qL).mono ?_; rintro e w1 ⟨⟨p, c, rfl, hp1⟩, hb1⟩
      go_wp2_with fail
      refine hK.out _ _ (SteadyAll.of qL) (fun hHeld => ?_)
      clear hK K
      refine qH 3 fun K hK => ?_
      go_simp
      go_at_call 93; refine (HN.out _ _ _ (by have hb0 := HB.out.2.2; exact qL) hp1).mono ?_; rintro e w2 ⟨⟨g, cg, rfl⟩, hb2⟩
      go_wp2_with fail
      refine hK.out _ _ (SteadyAll.of qL) (fun hHeld => ?_)
      clear hK K
      have B7 : Blk w2 w0.heap.size 164 #[.int .i64 0, .bool false, .bool false, .bool false, .bool false, .bool false, .bool false, .int .i64 0, .int .i64 0, .slice none 0 0, .slice none 0 0, .int .i64 0, .int .i64 0, .int .i64 0] := ((Blk.made w0.drew _ _).kept hb1).kept hb2
      have k7 := B7.cell
      have f7 := B7.free
      have l7 := B7.lt
      have H7 : Hid (Below w0.heap.size w0 w2 ∧ Blk w2 w0.heap.size 164 #[.int .i64 0, .bool false, .bool false, .bool false, .bool false, .bool false, .bool false, .int .i64 0, .int .i64 0, .slice none 0 0, .slice none 0 0, .int .i64 0, .int .i64 0, .int .i64 0]) := hid ⟨qL, B7⟩
      clear B7
      refine qS [4, 5, 6, 7, 8, 10, 11] ?_
      iterate 7 (refine qT ?_; simp only [Act.put, qY])
      refine TakeSeq.done ?_
      refine qH 12 fun K hK => ?_
      go_simp
      refine hK.out _ _ (SteadyAll.of qL) (fun hHeld => ?_)
      clear hK K
      refine qS [13] ?_
      refine qT ?_; simp only [Act.put, qY]
      refine TakeSeq.done ?_
      refine qD ?_ _
      go_wp2_with fail
      go_meet
      have hb0 := HB.out.2.2
      have h7 := H7.out.1
      have BR := HB.out.1.kept h7
      have BZ := HB.out.2.1.kept h7
      have z1 : w.heap.size ≤ w0.heap.size := by omega
      have z2 : r < w0.heap.size := by have := HB.out.1.lt; omega
      exact ⟨g, cg, w0.heap.size, rfl, rfl, rfl, rfl, by omega, hid ⟨Blk.cast ((((((((((((((H7.out.2.put 0 _).put 1 _).put 2 _).put 3 _).put 4 _).put 5 _).put 6 _).put 7 _).put 8 _).put 9 _).put 10 _).put 11 _).put 12 _).put 13 _) (by kernel_rfl), by (have B := BR; exact qK), by (have B := BZ; exact qK), qL⟩⟩
  case rest =>
    obtain ⟨g, cg, b10, rfl, rfl, rfl, rfl, hb10, HX⟩ := hcut
    obtain ⟨w3, hw3⟩ : ∃ w3, w3 = wc := ⟨_, rfl⟩
    subst hw3
    have k10 := HX.out.out.cell
    have l10 := HX.out.out.lt
    go_wp2_with fail
    refine wp_region_held_drew (S := KeepAt b10 164 #[.int .i64 0, .bool false, .bool false, .bool false, .bool false, .bool false, .bool false, .int .i64 0, .int .i64 0, .slice none 0 0, .slice none 0 0, .int .i64 0, .int .i64 0, .int .i64 0]) (by kernel_rfl) ⟨HX.out.out.drew⟩ ?_
    intro hSt
    refine qS [0, 1, 2] ?_
    iterate 3 (refine qT ?_; simp only [Act.put, qY])
    refine TakeSeq.done ?_
    refine qH 3 fun K hK => ?_
    go_simp
    go_at_call 61; refine (HWT.out _ _ _ HX.out.run.drew).mono ?_; rintro e w4 ⟨rfl, hg4, ho4⟩
    go_wp2_with fail
    refine hK.out _ _ (⟨blk_over HX.out.out.drew ho4 (by have := HX.out.run.lt; omega)⟩) (fun hHeld => ?_)
    clear hK K
    have BZ4 := blk_over HX.out.res.drew ho4 (by omega)
    have kz := BZ4.cell
    have fz := BZ4.free
    have lz4 := BZ4.lt
    have B104 := blk_over HX.out.out.drew ho4 (by omega)
    have H4 := hid (And.intro BZ4 (And.intro hg4 (And.intro ho4 B104)))
    clear BZ4 hg4 ho4 B104
    have hne : b10 ≠ w.heap.size + 1 := by omega
    refine qH 4 fun K hK => ?_
    go_simp
    refine hK.out _ _ (⟨by have B := H4.out.2.2.2; (repeat (first | with_reducible exact B | with_reducible apply Blk.put | with_reducible apply Blk.alloc | (with_reducible apply Blk.aside; (case hp => first | (simp; done) | (simp; omega))) | with_reducible apply Blk.drew))⟩) (fun hHeld => ?_)
    clear hK K
    refine qS [5] ?_
    refine qT ?_; simp only [Act.put, qY]
    refine TakeSeq.done ?_
    refine qD ?_ _
    go_wp2_with fail
    obtain ⟨g2, c2, hg2⟩ := H4.out.2.1
    have hl2 : r ≠ w.heap.size + 1 := by omega
    have hov : Over r w w4 := (Over.of_below HX.out.below).drew.trans H4.out.2.2.1
    refine bodyPost_ret (results_bt rfl _ _ (w.heap.size + 1) _ _ _ rfl (Blk.cast ((((((((((((((H4.out.1.put 0 _).put 1 _).put 2 _).put 3 _).put 4 _).put 5 _).put 6 _).put 7 _).put 8 _).put 9 _).put 10 _).put 11 _).put 12 _).put 13 _) (by kernel_rfl)) Tryz.underlying164 rfl (by kernel_rfl)) rfl ⟨rfl, ⟨g2, c2, by (have B := hg2; exact qK)⟩, ?_⟩
    exact qV
end Go.Proofs.YtcoiehgcfjfhaaaGreatDoor
