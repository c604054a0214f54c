/- bodegalaw31.ExecValid: the walk. -/
import Derived.Test.YtcoiehgcfjfhaaaGreatDoorQ33
import Derived.Test.YtcoiehgcfjfhaaaGreatDoorQ35
import Derived.Test.YtcoiehgcfjfhaaaGreatDoorQ37
set_option linter.all false
set_option maxRecDepth 20000
set_option maxHeartbeats 8000000
open Go.Lib (hid)
namespace Go.Proofs.YtcoiehgcfjfhaaaGreatDoor
open Go.RowKit
structure LawAt (w : World) (j : Jb) (p pa : Option Addr) (c ca n na : Nat) (wx : World) : Prop where
  box : Blk wx w.heap.size 28 (j.cells (.slice p n c) (.slice pa na ca))
  len : j.prog.length = n ∧ j.acc.length = na ∧ n ≤ 10 ∧ na ≤ 10
  st : StmRow wx p j.prog
  ac : AskRow wx pa j.acc
  below : Below w.heap.size w wx
theorem StmRow.over {w w' : World} {p : Option Addr} {l : List Sq.St} {r : Nat} (h : StmRow w p l) (ho : Over r w w') (hne : ∀ b o, p = some ⟨b, o, none⟩ → b ≠ r) : StmRow w' p l := by
  refine ⟨h.typed, ?_⟩
  rcases h.row with h1 | ⟨b, o, hp, hlt, hc⟩
  · exact .inl h1
  · refine .inr ⟨b, o, hp, Nat.lt_of_lt_of_le hlt ho.size, fun i s hi j u hu => ?_⟩
    have hb := hne b o hp
    have e := ho.block b hlt (by simp; omega)
    have h2 := hc i s hi j u hu
    simp only [World.cell?, e] at h2 ⊢
    exact h2
theorem AskRow.over {w w' : World} {p : Option Addr} {l : List Int} {r : Nat} (h : AskRow w p l) (ho : Over r w w') (hne : ∀ b o, p = some ⟨b, o, none⟩ → b ≠ r) : AskRow w' p l := by
  refine ⟨h.typed, ?_⟩
  rcases h.row with h1 | ⟨b, o, hp, hlt, hc⟩
  · exact .inl h1
  · refine .inr ⟨b, o, hp, Nat.lt_of_lt_of_le hlt ho.size, fun i a hi => ?_⟩
    have hb := hne b o hp
    have e := ho.block b hlt (by simp; omega)
    have h2 := hc i a hi
    simp only [World.cell?, e] at h2 ⊢
    exact h2
theorem law_walk (j : Jb) (p pa pl : Option Addr) (c ca cl n na nl : Nat) (ls : List Ln) (access : Int) (raw : Bool) (w : World) (hno : NoneAt w) (hnn : HNone w) (hn : j.prog.length = n) (hna : j.acc.length = na) (hnl : ls.length = nl)
    (hm1 : n ≤ maxLen) (hm2 : na ≤ maxLen) (hm3 : nl ≤ maxLen) (hr : StmRow w p j.prog) (ha : AskRow w pa j.acc) (hl : LnRow w pl ls) (hac : i64ok access) (hjc : i64ok j.client) (hjs : i64ok j.seq) (hjl : i64ok j.lines) :
    Calls Tryz.prog 3 #[.agg (j.cells (.slice p n c) (.slice pa na ca)), .slice pl nl cl, .int .i64 access, .bool raw] w fun e w' => e = .returned (.bool true) ∧ Below w.heap.size w w' := by
  have HJ := hid (And.intro hn (And.intro hna (And.intro hnl (And.intro hr (And.intro ha (And.intro hl (And.intro hac (And.intro hjc (And.intro hjs hjl)))))))))
  have HNO := hid (And.intro hno hnn)
  clear hno hnn hn hna hnl hr ha hl hac hjc hjs hjl
  by_cases hbig : 10 < nl ∨ 10 < n ∨ 10 < na
  · obtain ⟨c1, h1⟩ : ∃ b, decide (10 < (nl : Int)) = b := ⟨_, rfl⟩
    obtain ⟨c2, h2⟩ : ∃ b, decide (10 < (n : Int)) = b := ⟨_, rfl⟩
    have h3 : c1 = false → c2 = false → decide (10 < (na : Int)) = true := fun e1 e2 => by
      subst e1 e2
      have := of_decide_eq_false h1
      have := of_decide_eq_false h2
      simp
      omega
    clear hbig HJ
    unfold Jb.cells
    cases c1
    · cases c2
      · have h3 := h3 rfl rfl
        go_enter Tryz.func3, Tryz.ntmps3
        go_wp2_with fail
        exact bodyPost_ret (results_tmp rfl _ _ _) rfl ⟨rfl, qL⟩
      · clear h3
        go_enter Tryz.func3, Tryz.ntmps3
        go_wp2_with fail
        exact bodyPost_ret (results_tmp rfl _ _ _) rfl ⟨rfl, qL⟩
    · clear h3
      go_enter Tryz.func3, Tryz.ntmps3
      go_wp2_with fail
      exact bodyPost_ret (results_tmp rfl _ _ _) rfl ⟨rfl, qL⟩
  · have h1 : decide (10 < (nl : Int)) = false := by simp; omega
    have h2 : decide (10 < (n : Int)) = false := by simp; omega
    have h3 : decide (10 < (na : Int)) = false := by simp; omega
    have hsm : nl ≤ 10 ∧ n ≤ 10 ∧ na ≤ 10 := by omega
    clear hbig
    unfold Jb.cells
    go_enter Tryz.func3, Tryz.ntmps3
    go_upto_region 3 with (fail)
    refine wp_name (fun W' => LawAt w j p pa c ca n na W') ⟨Blk.made w _ _, ⟨HJ.out.1, HJ.out.2.1, hsm.2.1, hsm.2.2⟩, HJ.out.2.2.2.1.below (below_alloc (Below.refl _ _) _), HJ.out.2.2.2.2.1.below (below_alloc (Below.refl _ _) _), below_alloc (Below.refl _ _) _⟩ (fun w1 H1 => ?_)
    go_cut [32] from 31 to 32 (fun x wx => x = .bool (!raw) ∧ wx = w1)
    case first =>
      go_wp2_with fail
      go_meet
      exact ⟨rfl, rfl⟩
    case rest =>
    obtain ⟨rfl, hw⟩ := hcut
    have hw2 := hw.symm
    clear hw
    subst hw2
    go_step
    go_cut [9, 10] from 33 to 61 (fun _ _ wx => ∃ (j2 : Jb) (q qa : Option Addr) (d da k ka : Nat), Hid (LawAt w j2 q qa d da k ka wx))
    case first =>
      cases raw
      · have HPG : Hid (∀ W, Below w.heap.size w W → Calls Tryz.prog 4 #[.slice pl nl cl, .int .i64 access] W (ProgPost nl W)) := hid (fun W h => program_ok pl cl nl ls access HJ.out.2.2.2.2.2.2.1 HJ.out.2.2.1 hsm.1 W (HJ.out.2.2.2.2.2.1.below h))
        have r7 := pick_range access 7 (by omega)
        obtain ⟨p7, hp7⟩ : ∃ x, pick access 7 = x := ⟨_, rfl⟩
        have HP7 : Hid (∀ W, Calls Tryz.prog 5 #[.int .i64 access, .int .i64 7] W fun e w' => e = .returned (.int .i64 p7) ∧ W = w') := hid (fun W => by have h := Pick_big access 7 HJ.out.2.2.2.2.2.2.1 (by omega) W; rwa [hp7] at h)
        rw [hp7] at r7
        clear hp7
        have r8 := pick_range j.client 8 (by omega)
        obtain ⟨p8, hp8⟩ : ∃ x, pick j.client 8 = x := ⟨_, rfl⟩
        have HP8 : Hid (∀ W, Calls Tryz.prog 5 #[.int .i64 j.client, .int .i64 8] W fun e w' => e = .returned (.int .i64 p8) ∧ W = w') := hid (fun W => by have h := Pick_big j.client 8 HJ.out.2.2.2.2.2.2.2.1 (by omega) W; rwa [hp8] at h)
        rw [hp8] at r8
        clear hp8
        have r270 := pick_range j.lines 270 (by omega)
        obtain ⟨p270, hp270⟩ : ∃ x, pick j.lines 270 = x := ⟨_, rfl⟩
        have HP270 : Hid (∀ W, Calls Tryz.prog 5 #[.int .i64 j.lines, .int .i64 270] W fun e w' => e = .returned (.int .i64 p270) ∧ W = w') := hid (fun W => by have h := Pick_big j.lines 270 HJ.out.2.2.2.2.2.2.2.2.2 (by omega) W; rwa [hp270] at h)
        rw [hp270] at r270
        clear hp270
        have r5 := pick_range j.seq 5 (by omega)
        obtain ⟨p5, hp5⟩ : ∃ x, pick j.seq 5 = x := ⟨_, rfl⟩
        have HP5 : Hid (∀ W, Calls Tryz.prog 5 #[.int .i64 j.seq, .int .i64 5] W fun e w' => e = .returned (.int .i64 p5) ∧ W = w') := hid (fun W => by have h := Pick_big j.seq 5 HJ.out.2.2.2.2.2.2.2.2.1 (by omega) W; rwa [hp5] at h)
        rw [hp5] at r5
        clear hp5
        have HPR : Hid ((0 ≤ p7 ∧ p7 < 7) ∧ (0 ≤ p8 ∧ p8 < 8) ∧ (0 ≤ p270 ∧ p270 < 270) ∧ 0 ≤ p5 ∧ p5 < 5) := hid ⟨r7, r8, r270, r5⟩
        have w8 : IntKind.i64.wrap (p8 - 1) = p8 - 1 := by rw [IntKind.wrap_i64]; omega
        clear r7 r8 r270 r5
        have kb := H1.out.box.cell
        have lb := H1.out.box.lt
        unfold Jb.cells at kb
        go_wp2_with fail
        go_at_call 4
        refine (HPG.out _ H1.out.below).mono ?_
        rintro e w2 ⟨⟨q, d, qa, da, rfl, ss, as_, hs1, hs2, hs3, hs4, hs5, hs6⟩, hb2⟩
        have hlt1 : w.heap.size < w1.heap.size := lb
        have BK : Blk w2 w.heap.size 28 #[.int .i64 j.client, .int .i64 j.seq, .int .i64 j.lines, (.slice p n c), (.slice pa na ca), .bool j.snap, .int .u64 j.v0, .int .u64 j.v1, .int .u64 j.v2, .int .u64 j.v3, .int .u64 j.v4, .int .u64 j.v5] := H1.out.box.kept hb2
        have H2 : Hid (Blk w2 w.heap.size 28 #[.int .i64 j.client, .int .i64 j.seq, .int .i64 j.lines, (.slice p n c), (.slice pa na ca), .bool j.snap, .int .u64 j.v0, .int .u64 j.v1, .int .u64 j.v2, .int .u64 j.v3, .int .u64 j.v4, .int .u64 j.v5] ∧ ss.length = nl ∧ StmRow w2 q ss ∧ AskRow w2 qa as_ ∧ Below w.heap.size w w2 ∧ (∀ b o, q = some ⟨b, o, none⟩ → w1.heap.size ≤ b) ∧ (∀ b o, qa = some ⟨b, o, none⟩ → w1.heap.size ≤ b) ∧ as_.length = nl) := hid ⟨BK, hs1, hs3, hs4, below_step H1.out.below hb2, hs5, hs6, hs2⟩
        clear kb lb hs1 hs2 hs3 hs4 hs5 hs6 hb2
        have kb := BK.cell
        have fb := BK.free
        have lb := BK.lt
        clear BK
        go_wp2_with fail
        go_at_call 5; refine (HP7.out _).mono ?_; rintro e w9 ⟨rfl, rfl⟩
        cases c7 : decide (0 < p7)
        · go_upto_region 8 with (fail)
          refine wp_region_held_drew (S := AnyWorld) (by kernel_rfl) ⟨trivial⟩ ?_
          intro hSt
          refine qS [0, 4] ?_
          iterate 2 (refine qT ?_; simp only [Act.put, qY])
          refine TakeSeq.done ?_
          refine wpAnyH_ready (rs := [1, 5]) (by kernel_rfl) (by simp) ?_
          refine AllReadyH.cons rfl (fun K hK => ?_) (AllReadyH.cons rfl (fun K hK => ?_) (AllReadyH.nil))
          · skip
            rw [if_pos (by rfl)]
            go_simp
            refine hK.out _ _ ((AnyWorld.mk trivial)) (fun hHeld => ?_)
            clear hK K
            refine wpAnyH_ready (rs := [2, 5]) (by kernel_rfl) (by simp) ?_
            refine AllReadyH.cons rfl (fun K hK => ?_) (AllReadyH.cons rfl (fun K hK => ?_) (AllReadyH.nil))
            · skip
              rw [if_pos (by rfl)]
              go_simp
              go_at_call 5; refine (HP8.out _).mono ?_; rintro e w9 ⟨rfl, rfl⟩
              go_wp2_with fail
              refine hK.out _ _ ((AnyWorld.mk trivial)) (fun hHeld => ?_)
              clear hK K
              refine qS [3] ?_
              refine qT ?_; simp only [Act.put, qY]
              refine TakeSeq.done ?_
              refine qH 5 fun K hK => ?_
              go_simp
              refine hK.out _ _ ((AnyWorld.mk trivial)) (fun hHeld => ?_)
              clear hK K
              refine qS [7] ?_
              refine qT ?_; simp only [Act.put, qY]
              refine TakeSeq.done ?_
              refine qH 6 fun K hK => ?_
              go_simp
              go_at_call 5; refine (HP270.out _).mono ?_; rintro e w9 ⟨rfl, rfl⟩
              go_wp2_with fail
              refine hK.out _ _ ((AnyWorld.mk trivial)) (fun hHeld => ?_)
              clear hK K
              refine qH 8 fun K hK => ?_
              go_simp
              refine hK.out _ _ ((AnyWorld.mk trivial)) (fun hHeld => ?_)
              clear hK K
              refine qS [9] ?_
              refine qT ?_; simp only [Act.put, qY]
              refine TakeSeq.done ?_
              refine qH 10 fun K hK => ?_
              go_simp
              refine hK.out _ _ ((AnyWorld.mk trivial)) (fun hHeld => ?_)
              clear hK K
              refine qD ?_ _
              go_upto_region 9 with (fail)
              refine wp_name (fun W' => Blk W' w.heap.size 28 #[.int .i64 (p8 - 1), .int .i64 j.seq, .int .i64 p270, (.slice q nl d), (.slice pa na ca), .bool j.snap, .int .u64 j.v0, .int .u64 j.v1, .int .u64 j.v2, .int .u64 j.v3, .int .u64 j.v4, .int .u64 j.v5] ∧ Over w.heap.size w2 W') ⟨Blk.cast (((H2.out.1.put 3 _).put 0 _).put 2 _).drew (by kernel_rfl), qV⟩ (fun w4 H4 => ?_)
              have k4 := H4.out.1.cell
              have f4 := H4.out.1.free
              have l4 := H4.out.1.lt
              have hbw4 : Below w.heap.size w w4 := over_below ((Over.of_below (b := w.heap.size) (H2.out.2.2.2.2.1)).trans H4.out.2) (Nat.le_refl _)
              have HW4 := hid hbw4
              clear hbw4 kb fb lb
              rcases (by have := HPR.out; omega : p5 = 0 ∨ p5 = 1 ∨ p5 = 2 ∨ p5 = 3 ∨ p5 = 4) with rfl | rfl | rfl | rfl | rfl
              · go_wp2_with fail
                go_at_call 5; refine (HP5.out _).mono ?_; rintro e w9 ⟨rfl, rfl⟩
                go_wp2_with fail
                go_meet
                have hO5 : Over w.heap.size w4 ((w4.setCell ⟨w.heap.size, 1, none⟩ (.int .i64 0)).alloc (.cells #[.int .i64 0, .int .i64 1, .int .i64 7, .int .i64 1073741823, .int .i64 1073741824] 3)) := (((Over.refl _ _).put 1 _).alloc _)
                have hO25 := H4.out.2.trans hO5
                have hB5 := over_below ((Over.of_below (b := w.heap.size) (H2.out.2.2.2.2.1)).trans hO25) (Nat.le_refl _)
                exact ⟨⟨p8 - 1, 0, p270, ss, j.acc, j.snap, j.v0, j.v1, j.v2, j.v3, j.v4, j.v5⟩, q, pa, d, ca, nl, na, hid ⟨Blk.cast ((H4.out.1.put 1 _).alloc _) (by kernel_rfl), ⟨H2.out.2.1, HJ.out.2.1, hsm.1, hsm.2.2⟩, H2.out.2.2.1.over hO25 (fun b o h => by have h1 := H2.out.2.2.2.2.2.1 b o h; omega), HJ.out.2.2.2.2.1.below hB5, hB5⟩⟩
              · go_wp2_with fail
                go_at_call 5; refine (HP5.out _).mono ?_; rintro e w9 ⟨rfl, rfl⟩
                go_wp2_with fail
                go_meet
                have hO5 : Over w.heap.size w4 ((w4.setCell ⟨w.heap.size, 1, none⟩ (.int .i64 1)).alloc (.cells #[.int .i64 0, .int .i64 1, .int .i64 7, .int .i64 1073741823, .int .i64 1073741824] 3)) := (((Over.refl _ _).put 1 _).alloc _)
                have hO25 := H4.out.2.trans hO5
                have hB5 := over_below ((Over.of_below (b := w.heap.size) (H2.out.2.2.2.2.1)).trans hO25) (Nat.le_refl _)
                exact ⟨⟨p8 - 1, 1, p270, ss, j.acc, j.snap, j.v0, j.v1, j.v2, j.v3, j.v4, j.v5⟩, q, pa, d, ca, nl, na, hid ⟨Blk.cast ((H4.out.1.put 1 _).alloc _) (by kernel_rfl), ⟨H2.out.2.1, HJ.out.2.1, hsm.1, hsm.2.2⟩, H2.out.2.2.1.over hO25 (fun b o h => by have h1 := H2.out.2.2.2.2.2.1 b o h; omega), HJ.out.2.2.2.2.1.below hB5, hB5⟩⟩
              · go_wp2_with fail
                go_at_call 5; refine (HP5.out _).mono ?_; rintro e w9 ⟨rfl, rfl⟩
                go_wp2_with fail
                go_meet
                have hO5 : Over w.heap.size w4 ((w4.setCell ⟨w.heap.size, 1, none⟩ (.int .i64 7)).alloc (.cells #[.int .i64 0, .int .i64 1, .int .i64 7, .int .i64 1073741823, .int .i64 1073741824] 3)) := (((Over.refl _ _).put 1 _).alloc _)
                have hO25 := H4.out.2.trans hO5
                have hB5 := over_below ((Over.of_below (b := w.heap.size) (H2.out.2.2.2.2.1)).trans hO25) (Nat.le_refl _)
                exact ⟨⟨p8 - 1, 7, p270, ss, j.acc, j.snap, j.v0, j.v1, j.v2, j.v3, j.v4, j.v5⟩, q, pa, d, ca, nl, na, hid ⟨Blk.cast ((H4.out.1.put 1 _).alloc _) (by kernel_rfl), ⟨H2.out.2.1, HJ.out.2.1, hsm.1, hsm.2.2⟩, H2.out.2.2.1.over hO25 (fun b o h => by have h1 := H2.out.2.2.2.2.2.1 b o h; omega), HJ.out.2.2.2.2.1.below hB5, hB5⟩⟩
              · go_wp2_with fail
                go_at_call 5; refine (HP5.out _).mono ?_; rintro e w9 ⟨rfl, rfl⟩
                go_wp2_with fail
                go_meet
                have hO5 : Over w.heap.size w4 ((w4.setCell ⟨w.heap.size, 1, none⟩ (.int .i64 1073741823)).alloc (.cells #[.int .i64 0, .int .i64 1, .int .i64 7, .int .i64 1073741823, .int .i64 1073741824] 3)) := (((Over.refl _ _).put 1 _).alloc _)
                have hO25 := H4.out.2.trans hO5
                have hB5 := over_below ((Over.of_below (b := w.heap.size) (H2.out.2.2.2.2.1)).trans hO25) (Nat.le_refl _)
                exact ⟨⟨p8 - 1, 1073741823, p270, ss, j.acc, j.snap, j.v0, j.v1, j.v2, j.v3, j.v4, j.v5⟩, q, pa, d, ca, nl, na, hid ⟨Blk.cast ((H4.out.1.put 1 _).alloc _) (by kernel_rfl), ⟨H2.out.2.1, HJ.out.2.1, hsm.1, hsm.2.2⟩, H2.out.2.2.1.over hO25 (fun b o h => by have h1 := H2.out.2.2.2.2.2.1 b o h; omega), HJ.out.2.2.2.2.1.below hB5, hB5⟩⟩
              · go_wp2_with fail
                go_at_call 5; refine (HP5.out _).mono ?_; rintro e w9 ⟨rfl, rfl⟩
                go_wp2_with fail
                go_meet
                have hO5 : Over w.heap.size w4 ((w4.setCell ⟨w.heap.size, 1, none⟩ (.int .i64 1073741824)).alloc (.cells #[.int .i64 0, .int .i64 1, .int .i64 7, .int .i64 1073741823, .int .i64 1073741824] 3)) := (((Over.refl _ _).put 1 _).alloc _)
                have hO25 := H4.out.2.trans hO5
                have hB5 := over_below ((Over.of_below (b := w.heap.size) (H2.out.2.2.2.2.1)).trans hO25) (Nat.le_refl _)
                exact ⟨⟨p8 - 1, 1073741824, p270, ss, j.acc, j.snap, j.v0, j.v1, j.v2, j.v3, j.v4, j.v5⟩, q, pa, d, ca, nl, na, hid ⟨Blk.cast ((H4.out.1.put 1 _).alloc _) (by kernel_rfl), ⟨H2.out.2.1, HJ.out.2.1, hsm.1, hsm.2.2⟩, H2.out.2.2.1.over hO25 (fun b o h => by have h1 := H2.out.2.2.2.2.2.1 b o h; omega), HJ.out.2.2.2.2.1.below hB5, hB5⟩⟩
            · skip
              rw [if_pos (by rfl)]
              go_simp
              refine hK.out _ _ ((AnyWorld.mk trivial)) (fun hHeld => ?_)
              clear hK K
              refine qH 2 fun K hK => ?_
              go_simp
              go_at_call 5; refine (HP8.out _).mono ?_; rintro e w9 ⟨rfl, rfl⟩
              go_wp2_with fail
              refine hK.out _ _ ((AnyWorld.mk trivial)) (fun hHeld => ?_)
              clear hK K
              refine qS [3, 7] ?_
              iterate 2 (refine qT ?_; simp only [Act.put, qY])
              refine TakeSeq.done ?_
              refine qH 6 fun K hK => ?_
              go_simp
              go_at_call 5; refine (HP270.out _).mono ?_; rintro e w9 ⟨rfl, rfl⟩
              go_wp2_with fail
              refine hK.out _ _ ((AnyWorld.mk trivial)) (fun hHeld => ?_)
              clear hK K
              refine qH 8 fun K hK => ?_
              go_simp
              refine hK.out _ _ ((AnyWorld.mk trivial)) (fun hHeld => ?_)
              clear hK K
              refine qS [9] ?_
              refine qT ?_; simp only [Act.put, qY]
              refine TakeSeq.done ?_
              refine qH 10 fun K hK => ?_
              go_simp
              refine hK.out _ _ ((AnyWorld.mk trivial)) (fun hHeld => ?_)
              clear hK K
              refine qD ?_ _
              go_upto_region 9 with (fail)
              refine wp_name (fun W' => Blk W' w.heap.size 28 #[.int .i64 (p8 - 1), .int .i64 j.seq, .int .i64 p270, (.slice q nl d), (.slice pa na ca), .bool j.snap, .int .u64 j.v0, .int .u64 j.v1, .int .u64 j.v2, .int .u64 j.v3, .int .u64 j.v4, .int .u64 j.v5] ∧ Over w.heap.size w2 W') ⟨Blk.cast (((H2.out.1.put 3 _).put 0 _).put 2 _).drew (by kernel_rfl), qV⟩ (fun w4 H4 => ?_)
              have k4 := H4.out.1.cell
              have f4 := H4.out.1.free
              have l4 := H4.out.1.lt
              have hbw4 : Below w.heap.size w w4 := over_below ((Over.of_below (b := w.heap.size) (H2.out.2.2.2.2.1)).trans H4.out.2) (Nat.le_refl _)
              have HW4 := hid hbw4
              clear hbw4 kb fb lb
              rcases (by have := HPR.out; omega : p5 = 0 ∨ p5 = 1 ∨ p5 = 2 ∨ p5 = 3 ∨ p5 = 4) with rfl | rfl | rfl | rfl | rfl
              · go_wp2_with fail
                go_at_call 5; refine (HP5.out _).mono ?_; rintro e w9 ⟨rfl, rfl⟩
                go_wp2_with fail
                go_meet
                have hO5 : Over w.heap.size w4 ((w4.setCell ⟨w.heap.size, 1, none⟩ (.int .i64 0)).alloc (.cells #[.int .i64 0, .int .i64 1, .int .i64 7, .int .i64 1073741823, .int .i64 1073741824] 3)) := (((Over.refl _ _).put 1 _).alloc _)
                have hO25 := H4.out.2.trans hO5
                have hB5 := over_below ((Over.of_below (b := w.heap.size) (H2.out.2.2.2.2.1)).trans hO25) (Nat.le_refl _)
                exact ⟨⟨p8 - 1, 0, p270, ss, j.acc, j.snap, j.v0, j.v1, j.v2, j.v3, j.v4, j.v5⟩, q, pa, d, ca, nl, na, hid ⟨Blk.cast ((H4.out.1.put 1 _).alloc _) (by kernel_rfl), ⟨H2.out.2.1, HJ.out.2.1, hsm.1, hsm.2.2⟩, H2.out.2.2.1.over hO25 (fun b o h => by have h1 := H2.out.2.2.2.2.2.1 b o h; omega), HJ.out.2.2.2.2.1.below hB5, hB5⟩⟩
              · go_wp2_with fail
                go_at_call 5; refine (HP5.out _).mono ?_; rintro e w9 ⟨rfl, rfl⟩
                go_wp2_with fail
                go_meet
                have hO5 : Over w.heap.size w4 ((w4.setCell ⟨w.heap.size, 1, none⟩ (.int .i64 1)).alloc (.cells #[.int .i64 0, .int .i64 1, .int .i64 7, .int .i64 1073741823, .int .i64 1073741824] 3)) := (((Over.refl _ _).put 1 _).alloc _)
                have hO25 := H4.out.2.trans hO5
                have hB5 := over_below ((Over.of_below (b := w.heap.size) (H2.out.2.2.2.2.1)).trans hO25) (Nat.le_refl _)
                exact ⟨⟨p8 - 1, 1, p270, ss, j.acc, j.snap, j.v0, j.v1, j.v2, j.v3, j.v4, j.v5⟩, q, pa, d, ca, nl, na, hid ⟨Blk.cast ((H4.out.1.put 1 _).alloc _) (by kernel_rfl), ⟨H2.out.2.1, HJ.out.2.1, hsm.1, hsm.2.2⟩, H2.out.2.2.1.over hO25 (fun b o h => by have h1 := H2.out.2.2.2.2.2.1 b o h; omega), HJ.out.2.2.2.2.1.below hB5, hB5⟩⟩
              · go_wp2_with fail
                go_at_call 5; refine (HP5.out _).mono ?_; rintro e w9 ⟨rfl, rfl⟩
                go_wp2_with fail
                go_meet
                have hO5 : Over w.heap.size w4 ((w4.setCell ⟨w.heap.size, 1, none⟩ (.int .i64 7)).alloc (.cells #[.int .i64 0, .int .i64 1, .int .i64 7, .int .i64 1073741823, .int .i64 1073741824] 3)) := (((Over.refl _ _).put 1 _).alloc _)
                have hO25 := H4.out.2.trans hO5
                have hB5 := over_below ((Over.of_below (b := w.heap.size) (H2.out.2.2.2.2.1)).trans hO25) (Nat.le_refl _)
                exact ⟨⟨p8 - 1, 7, p270, ss, j.acc, j.snap, j.v0, j.v1, j.v2, j.v3, j.v4, j.v5⟩, q, pa, d, ca, nl, na, hid ⟨Blk.cast ((H4.out.1.put 1 _).alloc _) (by kernel_rfl), ⟨H2.out.2.1, HJ.out.2.1, hsm.1, hsm.2.2⟩, H2.out.2.2.1.over hO25 (fun b o h => by have h1 := H2.out.2.2.2.2.2.1 b o h; omega), HJ.out.2.2.2.2.1.below hB5, hB5⟩⟩
              · go_wp2_with fail
                go_at_call 5; refine (HP5.out _).mono ?_; rintro e w9 ⟨rfl, rfl⟩
                go_wp2_with fail
                go_meet
                have hO5 : Over w.heap.size w4 ((w4.setCell ⟨w.heap.size, 1, none⟩ (.int .i64 1073741823)).alloc (.cells #[.int .i64 0, .int .i64 1, .int .i64 7, .int .i64 1073741823, .int .i64 1073741824] 3)) := (((Over.refl _ _).put 1 _).alloc _)
                have hO25 := H4.out.2.trans hO5
                have hB5 := over_below ((Over.of_below (b := w.heap.size) (H2.out.2.2.2.2.1)).trans hO25) (Nat.le_refl _)
                exact ⟨⟨p8 - 1, 1073741823, p270, ss, j.acc, j.snap, j.v0, j.v1, j.v2, j.v3, j.v4, j.v5⟩, q, pa, d, ca, nl, na, hid ⟨Blk.cast ((H4.out.1.put 1 _).alloc _) (by kernel_rfl), ⟨H2.out.2.1, HJ.out.2.1, hsm.1, hsm.2.2⟩, H2.out.2.2.1.over hO25 (fun b o h => by have h1 := H2.out.2.2.2.2.2.1 b o h; omega), HJ.out.2.2.2.2.1.below hB5, hB5⟩⟩
              · go_wp2_with fail
                go_at_call 5; refine (HP5.out _).mono ?_; rintro e w9 ⟨rfl, rfl⟩
                go_wp2_with fail
                go_meet
                have hO5 : Over w.heap.size w4 ((w4.setCell ⟨w.heap.size, 1, none⟩ (.int .i64 1073741824)).alloc (.cells #[.int .i64 0, .int .i64 1, .int .i64 7, .int .i64 1073741823, .int .i64 1073741824] 3)) := (((Over.refl _ _).put 1 _).alloc _)
                have hO25 := H4.out.2.trans hO5
                have hB5 := over_below ((Over.of_below (b := w.heap.size) (H2.out.2.2.2.2.1)).trans hO25) (Nat.le_refl _)
                exact ⟨⟨p8 - 1, 1073741824, p270, ss, j.acc, j.snap, j.v0, j.v1, j.v2, j.v3, j.v4, j.v5⟩, q, pa, d, ca, nl, na, hid ⟨Blk.cast ((H4.out.1.put 1 _).alloc _) (by kernel_rfl), ⟨H2.out.2.1, HJ.out.2.1, hsm.1, hsm.2.2⟩, H2.out.2.2.1.over hO25 (fun b o h => by have h1 := H2.out.2.2.2.2.2.1 b o h; omega), HJ.out.2.2.2.2.1.below hB5, hB5⟩⟩
          · skip
            rw [if_pos (by rfl)]
            go_simp
            refine hK.out _ _ ((AnyWorld.mk trivial)) (fun hHeld => ?_)
            clear hK K
            refine qH 1 fun K hK => ?_
            go_simp
            refine hK.out _ _ ((AnyWorld.mk trivial)) (fun hHeld => ?_)
            clear hK K
            refine qH 2 fun K hK => ?_
            go_simp
            go_at_call 5; refine (HP8.out _).mono ?_; rintro e w9 ⟨rfl, rfl⟩
            go_wp2_with fail
            refine hK.out _ _ ((AnyWorld.mk trivial)) (fun hHeld => ?_)
            clear hK K
            refine qS [3, 7] ?_
            iterate 2 (refine qT ?_; simp only [Act.put, qY])
            refine TakeSeq.done ?_
            refine qH 6 fun K hK => ?_
            go_simp
            go_at_call 5; refine (HP270.out _).mono ?_; rintro e w9 ⟨rfl, rfl⟩
            go_wp2_with fail
            refine hK.out _ _ ((AnyWorld.mk trivial)) (fun hHeld => ?_)
            clear hK K
            refine qH 8 fun K hK => ?_
            go_simp
            refine hK.out _ _ ((AnyWorld.mk trivial)) (fun hHeld => ?_)
            clear hK K
            refine qS [9] ?_
            refine qT ?_; simp only [Act.put, qY]
            refine TakeSeq.done ?_
            refine qH 10 fun K hK => ?_
            go_simp
            refine hK.out _ _ ((AnyWorld.mk trivial)) (fun hHeld => ?_)
            clear hK K
            refine qD ?_ _
            go_upto_region 9 with (fail)
            refine wp_name (fun W' => Blk W' w.heap.size 28 #[.int .i64 (p8 - 1), .int .i64 j.seq, .int .i64 p270, (.slice q nl d), (.slice pa na ca), .bool j.snap, .int .u64 j.v0, .int .u64 j.v1, .int .u64 j.v2, .int .u64 j.v3, .int .u64 j.v4, .int .u64 j.v5] ∧ Over w.heap.size w2 W') ⟨Blk.cast (((H2.out.1.put 3 _).put 0 _).put 2 _).drew (by kernel_rfl), qV⟩ (fun w4 H4 => ?_)
            have k4 := H4.out.1.cell
            have f4 := H4.out.1.free
            have l4 := H4.out.1.lt
            have hbw4 : Below w.heap.size w w4 := over_below ((Over.of_below (b := w.heap.size) (H2.out.2.2.2.2.1)).trans H4.out.2) (Nat.le_refl _)
            have HW4 := hid hbw4
            clear hbw4 kb fb lb
            rcases (by have := HPR.out; omega : p5 = 0 ∨ p5 = 1 ∨ p5 = 2 ∨ p5 = 3 ∨ p5 = 4) with rfl | rfl | rfl | rfl | rfl
            · go_wp2_with fail
              go_at_call 5; refine (HP5.out _).mono ?_; rintro e w9 ⟨rfl, rfl⟩
              go_wp2_with fail
              go_meet
              have hO5 : Over w.heap.size w4 ((w4.setCell ⟨w.heap.size, 1, none⟩ (.int .i64 0)).alloc (.cells #[.int .i64 0, .int .i64 1, .int .i64 7, .int .i64 1073741823, .int .i64 1073741824] 3)) := (((Over.refl _ _).put 1 _).alloc _)
              have hO25 := H4.out.2.trans hO5
              have hB5 := over_below ((Over.of_below (b := w.heap.size) (H2.out.2.2.2.2.1)).trans hO25) (Nat.le_refl _)
              exact ⟨⟨p8 - 1, 0, p270, ss, j.acc, j.snap, j.v0, j.v1, j.v2, j.v3, j.v4, j.v5⟩, q, pa, d, ca, nl, na, hid ⟨Blk.cast ((H4.out.1.put 1 _).alloc _) (by kernel_rfl), ⟨H2.out.2.1, HJ.out.2.1, hsm.1, hsm.2.2⟩, H2.out.2.2.1.over hO25 (fun b o h => by have h1 := H2.out.2.2.2.2.2.1 b o h; omega), HJ.out.2.2.2.2.1.below hB5, hB5⟩⟩
            · go_wp2_with fail
              go_at_call 5; refine (HP5.out _).mono ?_; rintro e w9 ⟨rfl, rfl⟩
              go_wp2_with fail
              go_meet
              have hO5 : Over w.heap.size w4 ((w4.setCell ⟨w.heap.size, 1, none⟩ (.int .i64 1)).alloc (.cells #[.int .i64 0, .int .i64 1, .int .i64 7, .int .i64 1073741823, .int .i64 1073741824] 3)) := (((Over.refl _ _).put 1 _).alloc _)
              have hO25 := H4.out.2.trans hO5
              have hB5 := over_below ((Over.of_below (b := w.heap.size) (H2.out.2.2.2.2.1)).trans hO25) (Nat.le_refl _)
              exact ⟨⟨p8 - 1, 1, p270, ss, j.acc, j.snap, j.v0, j.v1, j.v2, j.v3, j.v4, j.v5⟩, q, pa, d, ca, nl, na, hid ⟨Blk.cast ((H4.out.1.put 1 _).alloc _) (by kernel_rfl), ⟨H2.out.2.1, HJ.out.2.1, hsm.1, hsm.2.2⟩, H2.out.2.2.1.over hO25 (fun b o h => by have h1 := H2.out.2.2.2.2.2.1 b o h; omega), HJ.out.2.2.2.2.1.below hB5, hB5⟩⟩
            · go_wp2_with fail
              go_at_call 5; refine (HP5.out _).mono ?_; rintro e w9 ⟨rfl, rfl⟩
              go_wp2_with fail
              go_meet
              have hO5 : Over w.heap.size w4 ((w4.setCell ⟨w.heap.size, 1, none⟩ (.int .i64 7)).alloc (.cells #[.int .i64 0, .int .i64 1, .int .i64 7, .int .i64 1073741823, .int .i64 1073741824] 3)) := (((Over.refl _ _).put 1 _).alloc _)
              have hO25 := H4.out.2.trans hO5
              have hB5 := over_below ((Over.of_below (b := w.heap.size) (H2.out.2.2.2.2.1)).trans hO25) (Nat.le_refl _)
              exact ⟨⟨p8 - 1, 7, p270, ss, j.acc, j.snap, j.v0, j.v1, j.v2, j.v3, j.v4, j.v5⟩, q, pa, d, ca, nl, na, hid ⟨Blk.cast ((H4.out.1.put 1 _).alloc _) (by kernel_rfl), ⟨H2.out.2.1, HJ.out.2.1, hsm.1, hsm.2.2⟩, H2.out.2.2.1.over hO25 (fun b o h => by have h1 := H2.out.2.2.2.2.2.1 b o h; omega), HJ.out.2.2.2.2.1.below hB5, hB5⟩⟩
            · go_wp2_with fail
              go_at_call 5; refine (HP5.out _).mono ?_; rintro e w9 ⟨rfl, rfl⟩
              go_wp2_with fail
              go_meet
              have hO5 : Over w.heap.size w4 ((w4.setCell ⟨w.heap.size, 1, none⟩ (.int .i64 1073741823)).alloc (.cells #[.int .i64 0, .int .i64 1, .int .i64 7, .int .i64 1073741823, .int .i64 1073741824] 3)) := (((Over.refl _ _).put 1 _).alloc _)
              have hO25 := H4.out.2.trans hO5
              have hB5 := over_below ((Over.of_below (b := w.heap.size) (H2.out.2.2.2.2.1)).trans hO25) (Nat.le_refl _)
              exact ⟨⟨p8 - 1, 1073741823, p270, ss, j.acc, j.snap, j.v0, j.v1, j.v2, j.v3, j.v4, j.v5⟩, q, pa, d, ca, nl, na, hid ⟨Blk.cast ((H4.out.1.put 1 _).alloc _) (by kernel_rfl), ⟨H2.out.2.1, HJ.out.2.1, hsm.1, hsm.2.2⟩, H2.out.2.2.1.over hO25 (fun b o h => by have h1 := H2.out.2.2.2.2.2.1 b o h; omega), HJ.out.2.2.2.2.1.below hB5, hB5⟩⟩
            · go_wp2_with fail
              go_at_call 5; refine (HP5.out _).mono ?_; rintro e w9 ⟨rfl, rfl⟩
              go_wp2_with fail
              go_meet
              have hO5 : Over w.heap.size w4 ((w4.setCell ⟨w.heap.size, 1, none⟩ (.int .i64 1073741824)).alloc (.cells #[.int .i64 0, .int .i64 1, .int .i64 7, .int .i64 1073741823, .int .i64 1073741824] 3)) := (((Over.refl _ _).put 1 _).alloc _)
              have hO25 := H4.out.2.trans hO5
              have hB5 := over_below ((Over.of_below (b := w.heap.size) (H2.out.2.2.2.2.1)).trans hO25) (Nat.le_refl _)
              exact ⟨⟨p8 - 1, 1073741824, p270, ss, j.acc, j.snap, j.v0, j.v1, j.v2, j.v3, j.v4, j.v5⟩, q, pa, d, ca, nl, na, hid ⟨Blk.cast ((H4.out.1.put 1 _).alloc _) (by kernel_rfl), ⟨H2.out.2.1, HJ.out.2.1, hsm.1, hsm.2.2⟩, H2.out.2.2.1.over hO25 (fun b o h => by have h1 := H2.out.2.2.2.2.2.1 b o h; omega), HJ.out.2.2.2.2.1.below hB5, hB5⟩⟩
        · go_upto_region 8 with (fail)
          refine wp_region_held_drew (S := AnyWorld) (by kernel_rfl) ⟨trivial⟩ ?_
          intro hSt
          refine qS [0, 4] ?_
          iterate 2 (refine qT ?_; simp only [Act.put, qY])
          refine TakeSeq.done ?_
          refine wpAnyH_ready (rs := [1, 5]) (by kernel_rfl) (by simp) ?_
          refine AllReadyH.cons rfl (fun K hK => ?_) (AllReadyH.cons rfl (fun K hK => ?_) (AllReadyH.nil))
          · skip
            rw [if_pos (by rfl)]
            go_simp
            refine hK.out _ _ ((AnyWorld.mk trivial)) (fun hHeld => ?_)
            clear hK K
            refine wpAnyH_ready (rs := [2, 5]) (by kernel_rfl) (by simp) ?_
            refine AllReadyH.cons rfl (fun K hK => ?_) (AllReadyH.cons rfl (fun K hK => ?_) (AllReadyH.nil))
            · skip
              rw [if_pos (by rfl)]
              go_simp
              go_at_call 5; refine (HP8.out _).mono ?_; rintro e w9 ⟨rfl, rfl⟩
              go_wp2_with fail
              refine hK.out _ _ ((AnyWorld.mk trivial)) (fun hHeld => ?_)
              clear hK K
              refine qS [3] ?_
              refine qT ?_; simp only [Act.put, qY]
              refine TakeSeq.done ?_
              refine qH 5 fun K hK => ?_
              go_simp
              refine hK.out _ _ ((AnyWorld.mk trivial)) (fun hHeld => ?_)
              clear hK K
              refine qS [7] ?_
              refine qT ?_; simp only [Act.put, qY]
              refine TakeSeq.done ?_
              refine qH 6 fun K hK => ?_
              go_simp
              go_at_call 5; refine (HP270.out _).mono ?_; rintro e w9 ⟨rfl, rfl⟩
              go_wp2_with fail
              refine hK.out _ _ ((AnyWorld.mk trivial)) (fun hHeld => ?_)
              clear hK K
              refine qH 8 fun K hK => ?_
              go_simp
              refine hK.out _ _ ((AnyWorld.mk trivial)) (fun hHeld => ?_)
              clear hK K
              refine qS [9] ?_
              refine qT ?_; simp only [Act.put, qY]
              refine TakeSeq.done ?_
              refine qH 10 fun K hK => ?_
              go_simp
              refine hK.out _ _ ((AnyWorld.mk trivial)) (fun hHeld => ?_)
              clear hK K
              refine qD ?_ _
              go_upto_region 9 with (fail)
              refine wp_name (fun W' => Blk W' w.heap.size 28 #[.int .i64 (p8 - 1), .int .i64 j.seq, .int .i64 p270, (.slice q nl d), (.slice qa nl da), .bool j.snap, .int .u64 j.v0, .int .u64 j.v1, .int .u64 j.v2, .int .u64 j.v3, .int .u64 j.v4, .int .u64 j.v5] ∧ Over w.heap.size w2 W') ⟨Blk.cast ((((H2.out.1.put 3 _).put 4 _).put 0 _).put 2 _).drew (by kernel_rfl), qV⟩ (fun w4 H4 => ?_)
              have k4 := H4.out.1.cell
              have f4 := H4.out.1.free
              have l4 := H4.out.1.lt
              have hbw4 : Below w.heap.size w w4 := over_below ((Over.of_below (b := w.heap.size) (H2.out.2.2.2.2.1)).trans H4.out.2) (Nat.le_refl _)
              have HW4 := hid hbw4
              clear hbw4 kb fb lb
              rcases (by have := HPR.out; omega : p5 = 0 ∨ p5 = 1 ∨ p5 = 2 ∨ p5 = 3 ∨ p5 = 4) with rfl | rfl | rfl | rfl | rfl
              · go_wp2_with fail
                go_at_call 5; refine (HP5.out _).mono ?_; rintro e w9 ⟨rfl, rfl⟩
                go_wp2_with fail
                go_meet
                have hO5 : Over w.heap.size w4 ((w4.setCell ⟨w.heap.size, 1, none⟩ (.int .i64 0)).alloc (.cells #[.int .i64 0, .int .i64 1, .int .i64 7, .int .i64 1073741823, .int .i64 1073741824] 3)) := (((Over.refl _ _).put 1 _).alloc _)
                have hO25 := H4.out.2.trans hO5
                have hB5 := over_below ((Over.of_below (b := w.heap.size) (H2.out.2.2.2.2.1)).trans hO25) (Nat.le_refl _)
                exact ⟨⟨p8 - 1, 0, p270, ss, as_, j.snap, j.v0, j.v1, j.v2, j.v3, j.v4, j.v5⟩, q, qa, d, da, nl, nl, hid ⟨Blk.cast ((H4.out.1.put 1 _).alloc _) (by kernel_rfl), ⟨H2.out.2.1, H2.out.2.2.2.2.2.2.2, hsm.1, hsm.1⟩, H2.out.2.2.1.over hO25 (fun b o h => by have h1 := H2.out.2.2.2.2.2.1 b o h; omega), H2.out.2.2.2.1.over hO25 (fun b o h => by have h1 := H2.out.2.2.2.2.2.2.1 b o h; omega), hB5⟩⟩
              · go_wp2_with fail
                go_at_call 5; refine (HP5.out _).mono ?_; rintro e w9 ⟨rfl, rfl⟩
                go_wp2_with fail
                go_meet
                have hO5 : Over w.heap.size w4 ((w4.setCell ⟨w.heap.size, 1, none⟩ (.int .i64 1)).alloc (.cells #[.int .i64 0, .int .i64 1, .int .i64 7, .int .i64 1073741823, .int .i64 1073741824] 3)) := (((Over.refl _ _).put 1 _).alloc _)
                have hO25 := H4.out.2.trans hO5
                have hB5 := over_below ((Over.of_below (b := w.heap.size) (H2.out.2.2.2.2.1)).trans hO25) (Nat.le_refl _)
                exact ⟨⟨p8 - 1, 1, p270, ss, as_, j.snap, j.v0, j.v1, j.v2, j.v3, j.v4, j.v5⟩, q, qa, d, da, nl, nl, hid ⟨Blk.cast ((H4.out.1.put 1 _).alloc _) (by kernel_rfl), ⟨H2.out.2.1, H2.out.2.2.2.2.2.2.2, hsm.1, hsm.1⟩, H2.out.2.2.1.over hO25 (fun b o h => by have h1 := H2.out.2.2.2.2.2.1 b o h; omega), H2.out.2.2.2.1.over hO25 (fun b o h => by have h1 := H2.out.2.2.2.2.2.2.1 b o h; omega), hB5⟩⟩
              · go_wp2_with fail
                go_at_call 5; refine (HP5.out _).mono ?_; rintro e w9 ⟨rfl, rfl⟩
                go_wp2_with fail
                go_meet
                have hO5 : Over w.heap.size w4 ((w4.setCell ⟨w.heap.size, 1, none⟩ (.int .i64 7)).alloc (.cells #[.int .i64 0, .int .i64 1, .int .i64 7, .int .i64 1073741823, .int .i64 1073741824] 3)) := (((Over.refl _ _).put 1 _).alloc _)
                have hO25 := H4.out.2.trans hO5
                have hB5 := over_below ((Over.of_below (b := w.heap.size) (H2.out.2.2.2.2.1)).trans hO25) (Nat.le_refl _)
                exact ⟨⟨p8 - 1, 7, p270, ss, as_, j.snap, j.v0, j.v1, j.v2, j.v3, j.v4, j.v5⟩, q, qa, d, da, nl, nl, hid ⟨Blk.cast ((H4.out.1.put 1 _).alloc _) (by kernel_rfl), ⟨H2.out.2.1, H2.out.2.2.2.2.2.2.2, hsm.1, hsm.1⟩, H2.out.2.2.1.over hO25 (fun b o h => by have h1 := H2.out.2.2.2.2.2.1 b o h; omega), H2.out.2.2.2.1.over hO25 (fun b o h => by have h1 := H2.out.2.2.2.2.2.2.1 b o h; omega), hB5⟩⟩
              · go_wp2_with fail
                go_at_call 5; refine (HP5.out _).mono ?_; rintro e w9 ⟨rfl, rfl⟩
                go_wp2_with fail
                go_meet
                have hO5 : Over w.heap.size w4 ((w4.setCell ⟨w.heap.size, 1, none⟩ (.int .i64 1073741823)).alloc (.cells #[.int .i64 0, .int .i64 1, .int .i64 7, .int .i64 1073741823, .int .i64 1073741824] 3)) := (((Over.refl _ _).put 1 _).alloc _)
                have hO25 := H4.out.2.trans hO5
                have hB5 := over_below ((Over.of_below (b := w.heap.size) (H2.out.2.2.2.2.1)).trans hO25) (Nat.le_refl _)
                exact ⟨⟨p8 - 1, 1073741823, p270, ss, as_, j.snap, j.v0, j.v1, j.v2, j.v3, j.v4, j.v5⟩, q, qa, d, da, nl, nl, hid ⟨Blk.cast ((H4.out.1.put 1 _).alloc _) (by kernel_rfl), ⟨H2.out.2.1, H2.out.2.2.2.2.2.2.2, hsm.1, hsm.1⟩, H2.out.2.2.1.over hO25 (fun b o h => by have h1 := H2.out.2.2.2.2.2.1 b o h; omega), H2.out.2.2.2.1.over hO25 (fun b o h => by have h1 := H2.out.2.2.2.2.2.2.1 b o h; omega), hB5⟩⟩
              · go_wp2_with fail
                go_at_call 5; refine (HP5.out _).mono ?_; rintro e w9 ⟨rfl, rfl⟩
                go_wp2_with fail
                go_meet
                have hO5 : Over w.heap.size w4 ((w4.setCell ⟨w.heap.size, 1, none⟩ (.int .i64 1073741824)).alloc (.cells #[.int .i64 0, .int .i64 1, .int .i64 7, .int .i64 1073741823, .int .i64 1073741824] 3)) := (((Over.refl _ _).put 1 _).alloc _)
                have hO25 := H4.out.2.trans hO5
                have hB5 := over_below ((Over.of_below (b := w.heap.size) (H2.out.2.2.2.2.1)).trans hO25) (Nat.le_refl _)
                exact ⟨⟨p8 - 1, 1073741824, p270, ss, as_, j.snap, j.v0, j.v1, j.v2, j.v3, j.v4, j.v5⟩, q, qa, d, da, nl, nl, hid ⟨Blk.cast ((H4.out.1.put 1 _).alloc _) (by kernel_rfl), ⟨H2.out.2.1, H2.out.2.2.2.2.2.2.2, hsm.1, hsm.1⟩, H2.out.2.2.1.over hO25 (fun b o h => by have h1 := H2.out.2.2.2.2.2.1 b o h; omega), H2.out.2.2.2.1.over hO25 (fun b o h => by have h1 := H2.out.2.2.2.2.2.2.1 b o h; omega), hB5⟩⟩
            · skip
              rw [if_pos (by rfl)]
              go_simp
              refine hK.out _ _ ((AnyWorld.mk trivial)) (fun hHeld => ?_)
              clear hK K
              refine qH 2 fun K hK => ?_
              go_simp
              go_at_call 5; refine (HP8.out _).mono ?_; rintro e w9 ⟨rfl, rfl⟩
              go_wp2_with fail
              refine hK.out _ _ ((AnyWorld.mk trivial)) (fun hHeld => ?_)
              clear hK K
              refine qS [3, 7] ?_
              iterate 2 (refine qT ?_; simp only [Act.put, qY])
              refine TakeSeq.done ?_
              refine qH 6 fun K hK => ?_
              go_simp
              go_at_call 5; refine (HP270.out _).mono ?_; rintro e w9 ⟨rfl, rfl⟩
              go_wp2_with fail
              refine hK.out _ _ ((AnyWorld.mk trivial)) (fun hHeld => ?_)
              clear hK K
              refine qH 8 fun K hK => ?_
              go_simp
              refine hK.out _ _ ((AnyWorld.mk trivial)) (fun hHeld => ?_)
              clear hK K
              refine qS [9] ?_
              refine qT ?_; simp only [Act.put, qY]
              refine TakeSeq.done ?_
              refine qH 10 fun K hK => ?_
              go_simp
              refine hK.out _ _ ((AnyWorld.mk trivial)) (fun hHeld => ?_)
              clear hK K
              refine qD ?_ _
              go_upto_region 9 with (fail)
              refine wp_name (fun W' => Blk W' w.heap.size 28 #[.int .i64 (p8 - 1), .int .i64 j.seq, .int .i64 p270, (.slice q nl d), (.slice qa nl da), .bool j.snap, .int .u64 j.v0, .int .u64 j.v1, .int .u64 j.v2, .int .u64 j.v3, .int .u64 j.v4, .int .u64 j.v5] ∧ Over w.heap.size w2 W') ⟨Blk.cast ((((H2.out.1.put 3 _).put 4 _).put 0 _).put 2 _).drew (by kernel_rfl), qV⟩ (fun w4 H4 => ?_)
              have k4 := H4.out.1.cell
              have f4 := H4.out.1.free
              have l4 := H4.out.1.lt
              have hbw4 : Below w.heap.size w w4 := over_below ((Over.of_below (b := w.heap.size) (H2.out.2.2.2.2.1)).trans H4.out.2) (Nat.le_refl _)
              have HW4 := hid hbw4
              clear hbw4 kb fb lb
              rcases (by have := HPR.out; omega : p5 = 0 ∨ p5 = 1 ∨ p5 = 2 ∨ p5 = 3 ∨ p5 = 4) with rfl | rfl | rfl | rfl | rfl
              · go_wp2_with fail
                go_at_call 5; refine (HP5.out _).mono ?_; rintro e w9 ⟨rfl, rfl⟩
                go_wp2_with fail
                go_meet
                have hO5 : Over w.heap.size w4 ((w4.setCell ⟨w.heap.size, 1, none⟩ (.int .i64 0)).alloc (.cells #[.int .i64 0, .int .i64 1, .int .i64 7, .int .i64 1073741823, .int .i64 1073741824] 3)) := (((Over.refl _ _).put 1 _).alloc _)
                have hO25 := H4.out.2.trans hO5
                have hB5 := over_below ((Over.of_below (b := w.heap.size) (H2.out.2.2.2.2.1)).trans hO25) (Nat.le_refl _)
                exact ⟨⟨p8 - 1, 0, p270, ss, as_, j.snap, j.v0, j.v1, j.v2, j.v3, j.v4, j.v5⟩, q, qa, d, da, nl, nl, hid ⟨Blk.cast ((H4.out.1.put 1 _).alloc _) (by kernel_rfl), ⟨H2.out.2.1, H2.out.2.2.2.2.2.2.2, hsm.1, hsm.1⟩, H2.out.2.2.1.over hO25 (fun b o h => by have h1 := H2.out.2.2.2.2.2.1 b o h; omega), H2.out.2.2.2.1.over hO25 (fun b o h => by have h1 := H2.out.2.2.2.2.2.2.1 b o h; omega), hB5⟩⟩
              · go_wp2_with fail
                go_at_call 5; refine (HP5.out _).mono ?_; rintro e w9 ⟨rfl, rfl⟩
                go_wp2_with fail
                go_meet
                have hO5 : Over w.heap.size w4 ((w4.setCell ⟨w.heap.size, 1, none⟩ (.int .i64 1)).alloc (.cells #[.int .i64 0, .int .i64 1, .int .i64 7, .int .i64 1073741823, .int .i64 1073741824] 3)) := (((Over.refl _ _).put 1 _).alloc _)
                have hO25 := H4.out.2.trans hO5
                have hB5 := over_below ((Over.of_below (b := w.heap.size) (H2.out.2.2.2.2.1)).trans hO25) (Nat.le_refl _)
                exact ⟨⟨p8 - 1, 1, p270, ss, as_, j.snap, j.v0, j.v1, j.v2, j.v3, j.v4, j.v5⟩, q, qa, d, da, nl, nl, hid ⟨Blk.cast ((H4.out.1.put 1 _).alloc _) (by kernel_rfl), ⟨H2.out.2.1, H2.out.2.2.2.2.2.2.2, hsm.1, hsm.1⟩, H2.out.2.2.1.over hO25 (fun b o h => by have h1 := H2.out.2.2.2.2.2.1 b o h; omega), H2.out.2.2.2.1.over hO25 (fun b o h => by have h1 := H2.out.2.2.2.2.2.2.1 b o h; omega), hB5⟩⟩
              · go_wp2_with fail
                go_at_call 5; refine (HP5.out _).mono ?_; rintro e w9 ⟨rfl, rfl⟩
                go_wp2_with fail
                go_meet
                have hO5 : Over w.heap.size w4 ((w4.setCell ⟨w.heap.size, 1, none⟩ (.int .i64 7)).alloc (.cells #[.int .i64 0, .int .i64 1, .int .i64 7, .int .i64 1073741823, .int .i64 1073741824] 3)) := (((Over.refl _ _).put 1 _).alloc _)
                have hO25 := H4.out.2.trans hO5
                have hB5 := over_below ((Over.of_below (b := w.heap.size) (H2.out.2.2.2.2.1)).trans hO25) (Nat.le_refl _)
                exact ⟨⟨p8 - 1, 7, p270, ss, as_, j.snap, j.v0, j.v1, j.v2, j.v3, j.v4, j.v5⟩, q, qa, d, da, nl, nl, hid ⟨Blk.cast ((H4.out.1.put 1 _).alloc _) (by kernel_rfl), ⟨H2.out.2.1, H2.out.2.2.2.2.2.2.2, hsm.1, hsm.1⟩, H2.out.2.2.1.over hO25 (fun b o h => by have h1 := H2.out.2.2.2.2.2.1 b o h; omega), H2.out.2.2.2.1.over hO25 (fun b o h => by have h1 := H2.out.2.2.2.2.2.2.1 b o h; omega), hB5⟩⟩
              · go_wp2_with fail
                go_at_call 5; refine (HP5.out _).mono ?_; rintro e w9 ⟨rfl, rfl⟩
                go_wp2_with fail
                go_meet
                have hO5 : Over w.heap.size w4 ((w4.setCell ⟨w.heap.size, 1, none⟩ (.int .i64 1073741823)).alloc (.cells #[.int .i64 0, .int .i64 1, .int .i64 7, .int .i64 1073741823, .int .i64 1073741824] 3)) := (((Over.refl _ _).put 1 _).alloc _)
                have hO25 := H4.out.2.trans hO5
                have hB5 := over_below ((Over.of_below (b := w.heap.size) (H2.out.2.2.2.2.1)).trans hO25) (Nat.le_refl _)
                exact ⟨⟨p8 - 1, 1073741823, p270, ss, as_, j.snap, j.v0, j.v1, j.v2, j.v3, j.v4, j.v5⟩, q, qa, d, da, nl, nl, hid ⟨Blk.cast ((H4.out.1.put 1 _).alloc _) (by kernel_rfl), ⟨H2.out.2.1, H2.out.2.2.2.2.2.2.2, hsm.1, hsm.1⟩, H2.out.2.2.1.over hO25 (fun b o h => by have h1 := H2.out.2.2.2.2.2.1 b o h; omega), H2.out.2.2.2.1.over hO25 (fun b o h => by have h1 := H2.out.2.2.2.2.2.2.1 b o h; omega), hB5⟩⟩
              · go_wp2_with fail
                go_at_call 5; refine (HP5.out _).mono ?_; rintro e w9 ⟨rfl, rfl⟩
                go_wp2_with fail
                go_meet
                have hO5 : Over w.heap.size w4 ((w4.setCell ⟨w.heap.size, 1, none⟩ (.int .i64 1073741824)).alloc (.cells #[.int .i64 0, .int .i64 1, .int .i64 7, .int .i64 1073741823, .int .i64 1073741824] 3)) := (((Over.refl _ _).put 1 _).alloc _)
                have hO25 := H4.out.2.trans hO5
                have hB5 := over_below ((Over.of_below (b := w.heap.size) (H2.out.2.2.2.2.1)).trans hO25) (Nat.le_refl _)
                exact ⟨⟨p8 - 1, 1073741824, p270, ss, as_, j.snap, j.v0, j.v1, j.v2, j.v3, j.v4, j.v5⟩, q, qa, d, da, nl, nl, hid ⟨Blk.cast ((H4.out.1.put 1 _).alloc _) (by kernel_rfl), ⟨H2.out.2.1, H2.out.2.2.2.2.2.2.2, hsm.1, hsm.1⟩, H2.out.2.2.1.over hO25 (fun b o h => by have h1 := H2.out.2.2.2.2.2.1 b o h; omega), H2.out.2.2.2.1.over hO25 (fun b o h => by have h1 := H2.out.2.2.2.2.2.2.1 b o h; omega), hB5⟩⟩
          · skip
            rw [if_pos (by rfl)]
            go_simp
            refine hK.out _ _ ((AnyWorld.mk trivial)) (fun hHeld => ?_)
            clear hK K
            refine qH 1 fun K hK => ?_
            go_simp
            refine hK.out _ _ ((AnyWorld.mk trivial)) (fun hHeld => ?_)
            clear hK K
            refine qH 2 fun K hK => ?_
            go_simp
            go_at_call 5; refine (HP8.out _).mono ?_; rintro e w9 ⟨rfl, rfl⟩
            go_wp2_with fail
            refine hK.out _ _ ((AnyWorld.mk trivial)) (fun hHeld => ?_)
            clear hK K
            refine qS [3, 7] ?_
            iterate 2 (refine qT ?_; simp only [Act.put, qY])
            refine TakeSeq.done ?_
            refine qH 6 fun K hK => ?_
            go_simp
            go_at_call 5; refine (HP270.out _).mono ?_; rintro e w9 ⟨rfl, rfl⟩
            go_wp2_with fail
            refine hK.out _ _ ((AnyWorld.mk trivial)) (fun hHeld => ?_)
            clear hK K
            refine qH 8 fun K hK => ?_
            go_simp
            refine hK.out _ _ ((AnyWorld.mk trivial)) (fun hHeld => ?_)
            clear hK K
            refine qS [9] ?_
            refine qT ?_; simp only [Act.put, qY]
            refine TakeSeq.done ?_
            refine qH 10 fun K hK => ?_
            go_simp
            refine hK.out _ _ ((AnyWorld.mk trivial)) (fun hHeld => ?_)
            clear hK K
            refine qD ?_ _
            go_upto_region 9 with (fail)
            refine wp_name (fun W' => Blk W' w.heap.size 28 #[.int .i64 (p8 - 1), .int .i64 j.seq, .int .i64 p270, (.slice q nl d), (.slice qa nl da), .bool j.snap, .int .u64 j.v0, .int .u64 j.v1, .int .u64 j.v2, .int .u64 j.v3, .int .u64 j.v4, .int .u64 j.v5] ∧ Over w.heap.size w2 W') ⟨Blk.cast ((((H2.out.1.put 3 _).put 4 _).put 0 _).put 2 _).drew (by kernel_rfl), qV⟩ (fun w4 H4 => ?_)
            have k4 := H4.out.1.cell
            have f4 := H4.out.1.free
            have l4 := H4.out.1.lt
            have hbw4 : Below w.heap.size w w4 := over_below ((Over.of_below (b := w.heap.size) (H2.out.2.2.2.2.1)).trans H4.out.2) (Nat.le_refl _)
            have HW4 := hid hbw4
            clear hbw4 kb fb lb
            rcases (by have := HPR.out; omega : p5 = 0 ∨ p5 = 1 ∨ p5 = 2 ∨ p5 = 3 ∨ p5 = 4) with rfl | rfl | rfl | rfl | rfl
            · go_wp2_with fail
              go_at_call 5; refine (HP5.out _).mono ?_; rintro e w9 ⟨rfl, rfl⟩
              go_wp2_with fail
              go_meet
              have hO5 : Over w.heap.size w4 ((w4.setCell ⟨w.heap.size, 1, none⟩ (.int .i64 0)).alloc (.cells #[.int .i64 0, .int .i64 1, .int .i64 7, .int .i64 1073741823, .int .i64 1073741824] 3)) := (((Over.refl _ _).put 1 _).alloc _)
              have hO25 := H4.out.2.trans hO5
              have hB5 := over_below ((Over.of_below (b := w.heap.size) (H2.out.2.2.2.2.1)).trans hO25) (Nat.le_refl _)
              exact ⟨⟨p8 - 1, 0, p270, ss, as_, j.snap, j.v0, j.v1, j.v2, j.v3, j.v4, j.v5⟩, q, qa, d, da, nl, nl, hid ⟨Blk.cast ((H4.out.1.put 1 _).alloc _) (by kernel_rfl), ⟨H2.out.2.1, H2.out.2.2.2.2.2.2.2, hsm.1, hsm.1⟩, H2.out.2.2.1.over hO25 (fun b o h => by have h1 := H2.out.2.2.2.2.2.1 b o h; omega), H2.out.2.2.2.1.over hO25 (fun b o h => by have h1 := H2.out.2.2.2.2.2.2.1 b o h; omega), hB5⟩⟩
            · go_wp2_with fail
              go_at_call 5; refine (HP5.out _).mono ?_; rintro e w9 ⟨rfl, rfl⟩
              go_wp2_with fail
              go_meet
              have hO5 : Over w.heap.size w4 ((w4.setCell ⟨w.heap.size, 1, none⟩ (.int .i64 1)).alloc (.cells #[.int .i64 0, .int .i64 1, .int .i64 7, .int .i64 1073741823, .int .i64 1073741824] 3)) := (((Over.refl _ _).put 1 _).alloc _)
              have hO25 := H4.out.2.trans hO5
              have hB5 := over_below ((Over.of_below (b := w.heap.size) (H2.out.2.2.2.2.1)).trans hO25) (Nat.le_refl _)
              exact ⟨⟨p8 - 1, 1, p270, ss, as_, j.snap, j.v0, j.v1, j.v2, j.v3, j.v4, j.v5⟩, q, qa, d, da, nl, nl, hid ⟨Blk.cast ((H4.out.1.put 1 _).alloc _) (by kernel_rfl), ⟨H2.out.2.1, H2.out.2.2.2.2.2.2.2, hsm.1, hsm.1⟩, H2.out.2.2.1.over hO25 (fun b o h => by have h1 := H2.out.2.2.2.2.2.1 b o h; omega), H2.out.2.2.2.1.over hO25 (fun b o h => by have h1 := H2.out.2.2.2.2.2.2.1 b o h; omega), hB5⟩⟩
            · go_wp2_with fail
              go_at_call 5; refine (HP5.out _).mono ?_; rintro e w9 ⟨rfl, rfl⟩
              go_wp2_with fail
              go_meet
              have hO5 : Over w.heap.size w4 ((w4.setCell ⟨w.heap.size, 1, none⟩ (.int .i64 7)).alloc (.cells #[.int .i64 0, .int .i64 1, .int .i64 7, .int .i64 1073741823, .int .i64 1073741824] 3)) := (((Over.refl _ _).put 1 _).alloc _)
              have hO25 := H4.out.2.trans hO5
              have hB5 := over_below ((Over.of_below (b := w.heap.size) (H2.out.2.2.2.2.1)).trans hO25) (Nat.le_refl _)
              exact ⟨⟨p8 - 1, 7, p270, ss, as_, j.snap, j.v0, j.v1, j.v2, j.v3, j.v4, j.v5⟩, q, qa, d, da, nl, nl, hid ⟨Blk.cast ((H4.out.1.put 1 _).alloc _) (by kernel_rfl), ⟨H2.out.2.1, H2.out.2.2.2.2.2.2.2, hsm.1, hsm.1⟩, H2.out.2.2.1.over hO25 (fun b o h => by have h1 := H2.out.2.2.2.2.2.1 b o h; omega), H2.out.2.2.2.1.over hO25 (fun b o h => by have h1 := H2.out.2.2.2.2.2.2.1 b o h; omega), hB5⟩⟩
            · go_wp2_with fail
              go_at_call 5; refine (HP5.out _).mono ?_; rintro e w9 ⟨rfl, rfl⟩
              go_wp2_with fail
              go_meet
              have hO5 : Over w.heap.size w4 ((w4.setCell ⟨w.heap.size, 1, none⟩ (.int .i64 1073741823)).alloc (.cells #[.int .i64 0, .int .i64 1, .int .i64 7, .int .i64 1073741823, .int .i64 1073741824] 3)) := (((Over.refl _ _).put 1 _).alloc _)
              have hO25 := H4.out.2.trans hO5
              have hB5 := over_below ((Over.of_below (b := w.heap.size) (H2.out.2.2.2.2.1)).trans hO25) (Nat.le_refl _)
              exact ⟨⟨p8 - 1, 1073741823, p270, ss, as_, j.snap, j.v0, j.v1, j.v2, j.v3, j.v4, j.v5⟩, q, qa, d, da, nl, nl, hid ⟨Blk.cast ((H4.out.1.put 1 _).alloc _) (by kernel_rfl), ⟨H2.out.2.1, H2.out.2.2.2.2.2.2.2, hsm.1, hsm.1⟩, H2.out.2.2.1.over hO25 (fun b o h => by have h1 := H2.out.2.2.2.2.2.1 b o h; omega), H2.out.2.2.2.1.over hO25 (fun b o h => by have h1 := H2.out.2.2.2.2.2.2.1 b o h; omega), hB5⟩⟩
            · go_wp2_with fail
              go_at_call 5; refine (HP5.out _).mono ?_; rintro e w9 ⟨rfl, rfl⟩
              go_wp2_with fail
              go_meet
              have hO5 : Over w.heap.size w4 ((w4.setCell ⟨w.heap.size, 1, none⟩ (.int .i64 1073741824)).alloc (.cells #[.int .i64 0, .int .i64 1, .int .i64 7, .int .i64 1073741823, .int .i64 1073741824] 3)) := (((Over.refl _ _).put 1 _).alloc _)
              have hO25 := H4.out.2.trans hO5
              have hB5 := over_below ((Over.of_below (b := w.heap.size) (H2.out.2.2.2.2.1)).trans hO25) (Nat.le_refl _)
              exact ⟨⟨p8 - 1, 1073741824, p270, ss, as_, j.snap, j.v0, j.v1, j.v2, j.v3, j.v4, j.v5⟩, q, qa, d, da, nl, nl, hid ⟨Blk.cast ((H4.out.1.put 1 _).alloc _) (by kernel_rfl), ⟨H2.out.2.1, H2.out.2.2.2.2.2.2.2, hsm.1, hsm.1⟩, H2.out.2.2.1.over hO25 (fun b o h => by have h1 := H2.out.2.2.2.2.2.1 b o h; omega), H2.out.2.2.2.1.over hO25 (fun b o h => by have h1 := H2.out.2.2.2.2.2.2.1 b o h; omega), hB5⟩⟩
      · go_wp2_with fail
        go_meet
        exact ⟨j, p, pa, c, ca, n, na, H1⟩
    case rest =>
      obtain ⟨j2, q, qa, d, da, k, ka, HL⟩ := hcut
      clear h1 h2 h3 HJ H1 hsm hm1 hm2 hm3
      obtain ⟨w2, hw2⟩ : ∃ w2, w2 = wc := ⟨_, rfl⟩
      subst hw2
      have kj := HL.out.box.cell
      have lj := HL.out.box.lt
      unfold Jb.cells at kj
      go_upto_region 11 with (fail)
      have HRF : Hid (∀ W, Below w2.heap.size w2 W → Calls Tryz.prog 7 #[.slice q k d] W (RefPost j2.prog k W)) := hid (fun W h => ref_ok q d k j2.prog HL.out.len.1 (by have := HL.out.len; omega) W (HL.out.st.below h))
      obtain ⟨ok, hok⟩ : ∃ b, j2.ok = b := ⟨_, rfl⟩
      have HOK := hid hok
      have HVJ : Hid (∀ p3 c3 W, Below w2.heap.size w2 W → StmRow W p3 j2.prog → Calls Tryz.prog 6 #[.agg #[.int .i64 j2.client, .int .i64 j2.seq, .int .i64 j2.lines, .slice p3 k c3, .slice qa ka da, .bool j2.snap, .int .u64 0, .int .u64 0, .int .u64 0, .int .u64 0, .int .u64 0, .int .u64 0]] W fun e w' => e = .returned (.bool ok) ∧ Below W.heap.size W w') := hid (fun p3 c3 W h hs => by
        have h1 := refValidJob ⟨j2.client, j2.seq, j2.lines, j2.prog, j2.acc, j2.snap, 0, 0, 0, 0, 0, 0⟩ p3 qa c3 da k ka HL.out.len.1 HL.out.len.2.1 (by have := HL.out.len; unfold maxLen; omega) (by have := HL.out.len; unfold maxLen; omega) W hs (HL.out.ac.below h)
        unfold VrPost at h1
        rw [show (Jb.ok ⟨j2.client, j2.seq, j2.lines, j2.prog, j2.acc, j2.snap, 0, 0, 0, 0, 0, 0⟩) = ok from hok] at h1
        exact h1)
      have HAW : Hid (∀ W, Below w2.heap.size w2 W → Calls Tryz.prog 8 #[] W fun e w' => e = .returned (.bool true) ∧ Below W.heap.size W w') := hid (fun W h => awake_ok W (HNO.out.1.below (HL.out.below.trans (h.mono HL.out.below.size))) (HNO.out.2.below (HL.out.below.trans (h.mono HL.out.below.size))))
      clear hok
      refine qA fun hSt => ?_
      refine qS [0, 1, 2, 3, 4, 5, 6, 7, 9, 10, 11, 12] ?_
      iterate 12 (refine qT ?_; simp only [Act.put, qY])
      refine TakeSeq.done ?_
      refine qH 8 fun K hK => ?_
      go_simp
      go_at_call 7; refine (HRF.out _ qL).mono ?_; rintro e w3 ⟨⟨p3, c3, rfl, hs3⟩, hb3⟩
      go_wp2_with fail
      refine hK.out _ _ (SteadyAll.of qL) (fun hHeld => ?_)
      clear hK K
      refine qS [13] ?_
      refine qT ?_; simp only [Act.put, qY]
      refine TakeSeq.done ?_
      refine qH 14 fun K hK => ?_
      go_simp
      go_at_call 6; refine (HVJ.out _ _ _ qL hs3).mono ?_; rintro e w4 ⟨rfl, hb4⟩
      go_wp2_with fail
      refine hK.out _ _ (SteadyAll.of qL) (fun hHeld => ?_)
      clear hK K
      refine qD ?_ _
      have H4 : Hid (Below w2.heap.size w2 w4 ∧ True) := hid ⟨qL, trivial⟩
      clear hs3 hb3 hb4 kj lj
      cases ok
      · have HVD : Hid (∀ W, Below w2.heap.size w2 W → Calls Tryz.prog 9 #[.agg #[.int .i64 j2.client, .int .i64 j2.seq, .int .i64 j2.lines, .slice q k d, .slice qa ka da, .bool j2.snap, .int .u64 j2.v0, .int .u64 j2.v1, .int .u64 j2.v2, .int .u64 j2.v3, .int .u64 j2.v4, .int .u64 j2.v5]] W fun e w' => e = .returned (.int .i64 1) ∧ Below W.heap.size W w') := hid (fun W h => by
          have h1 := exValid j2 q qa d da k ka HL.out.len.1 HL.out.len.2.1 (by have := HL.out.len; unfold maxLen; omega) (by have := HL.out.len; unfold maxLen; omega) W (HL.out.st.below h) (HL.out.ac.below h)
          unfold VjPost at h1
          rw [HOK.out] at h1
          exact h1)
        have HNX : Hid (∀ W, Below w2.heap.size w2 W → Calls Tryz.prog 10 #[.agg #[.int .i64 j2.client, .int .i64 j2.seq, .int .i64 j2.lines, .slice q k d, .slice qa ka da, .bool j2.snap, .int .u64 j2.v0, .int .u64 j2.v1, .int .u64 j2.v2, .int .u64 j2.v3, .int .u64 j2.v4, .int .u64 j2.v5], .slice none 0 0] W fun e w' => NextSays false e ∧ Below W.heap.size W w') := hid (fun W h => by
          have h1 := gNext j2 q qa d da k ka HL.out.len.1 HL.out.len.2.1 (by have := HL.out.len; unfold maxLen; omega) (by have := HL.out.len; unfold maxLen; omega) W (HNO.out.1.below (HL.out.below.trans (h.mono HL.out.below.size))) (HL.out.st.below h) (HL.out.ac.below h)
          rw [HOK.out] at h1
          exact h1)
        go_wp2_with fail
        go_at_call 8
        refine (HAW.out _ H4.out.1).mono ?_
        rintro e w5 ⟨rfl, hb5⟩
        have hb25 : Below w2.heap.size w2 w5 := below_step H4.out.1 hb5
        have B5 := HL.out.box.kept hb25
        have k5 := B5.cell
        have l5 := B5.lt
        have H5 := hid hb25
        unfold Jb.cells at k5
        clear hb5 hb25 B5
        go_wp2_with fail
        go_at_call 9
        refine (HVD.out _ H5.out).mono ?_
        rintro e w6 ⟨rfl, hb6⟩
        have hb26 : Below w2.heap.size w2 w6 := below_step H5.out hb6
        have B6 := HL.out.box.kept hb26
        have k6 := B6.cell
        have l6 := B6.lt
        have H6 := hid hb26
        unfold Jb.cells at k6
        clear hb6 hb26 B6 k5 l5
        go_wp2_with fail
        go_at_call 10
        refine (HNX.out _ H6.out).mono ?_
        rintro e w7 ⟨hsay, hb7⟩
        have H7 := hid (HL.out.below.trans ((below_step H6.out hb7).mono HL.out.below.size))
        clear hb7
        rcases hsay with ⟨_, rfl⟩ | ⟨g, cg, hx, rfl⟩
        · unfold outN
          go_wp2_with fail
          exact bodyPost_ret (results_tmp rfl _ _ _) rfl ⟨rfl, below_alloc H7.out _⟩
        · cases hx
      · have HVD : Hid (∀ W, Below w2.heap.size w2 W → Calls Tryz.prog 9 #[.agg #[.int .i64 j2.client, .int .i64 j2.seq, .int .i64 j2.lines, .slice q k d, .slice qa ka da, .bool j2.snap, .int .u64 j2.v0, .int .u64 j2.v1, .int .u64 j2.v2, .int .u64 j2.v3, .int .u64 j2.v4, .int .u64 j2.v5]] W fun e w' => e = .returned (.int .i64 0) ∧ Below W.heap.size W w') := hid (fun W h => by
          have h1 := exValid j2 q qa d da k ka HL.out.len.1 HL.out.len.2.1 (by have := HL.out.len; unfold maxLen; omega) (by have := HL.out.len; unfold maxLen; omega) W (HL.out.st.below h) (HL.out.ac.below h)
          unfold VjPost at h1
          rw [HOK.out] at h1
          exact h1)
        have HNX : Hid (∀ W, Below w2.heap.size w2 W → Calls Tryz.prog 10 #[.agg #[.int .i64 j2.client, .int .i64 j2.seq, .int .i64 j2.lines, .slice q k d, .slice qa ka da, .bool j2.snap, .int .u64 j2.v0, .int .u64 j2.v1, .int .u64 j2.v2, .int .u64 j2.v3, .int .u64 j2.v4, .int .u64 j2.v5], .slice none 0 0] W fun e w' => NextSays true e ∧ Below W.heap.size W w') := hid (fun W h => by
          have h1 := gNext j2 q qa d da k ka HL.out.len.1 HL.out.len.2.1 (by have := HL.out.len; unfold maxLen; omega) (by have := HL.out.len; unfold maxLen; omega) W (HNO.out.1.below (HL.out.below.trans (h.mono HL.out.below.size))) (HL.out.st.below h) (HL.out.ac.below h)
          rw [HOK.out] at h1
          exact h1)
        go_wp2_with fail
        go_at_call 8
        refine (HAW.out _ H4.out.1).mono ?_
        rintro e w5 ⟨rfl, hb5⟩
        have hb25 : Below w2.heap.size w2 w5 := below_step H4.out.1 hb5
        have B5 := HL.out.box.kept hb25
        have k5 := B5.cell
        have l5 := B5.lt
        have H5 := hid hb25
        unfold Jb.cells at k5
        clear hb5 hb25 B5
        go_wp2_with fail
        go_at_call 9
        refine (HVD.out _ H5.out).mono ?_
        rintro e w6 ⟨rfl, hb6⟩
        have hb26 : Below w2.heap.size w2 w6 := below_step H5.out hb6
        have B6 := HL.out.box.kept hb26
        have k6 := B6.cell
        have l6 := B6.lt
        have H6 := hid hb26
        unfold Jb.cells at k6
        clear hb6 hb26 B6 k5 l5
        go_wp2_with fail
        go_at_call 10
        refine (HNX.out _ H6.out).mono ?_
        rintro e w7 ⟨hsay, hb7⟩
        have H7 := hid (HL.out.below.trans ((below_step H6.out hb7).mono HL.out.below.size))
        clear hb7
        rcases hsay with ⟨hx, rfl⟩ | ⟨g, cg, _, rfl⟩
        · cases hx
        · unfold outN
          go_wp2_with fail
          exact bodyPost_ret (results_tmp rfl _ _ _) rfl ⟨rfl, below_alloc H7.out _⟩
end Go.Proofs.YtcoiehgcfjfhaaaGreatDoor
