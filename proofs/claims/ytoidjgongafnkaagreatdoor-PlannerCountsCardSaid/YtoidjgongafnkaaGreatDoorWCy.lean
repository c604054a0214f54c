/- Package commit: the last batch, of the primary. -/
import Derived.Test.YtoidjgongafnkaaGreatDoorQg
import Derived.Test.YtoidjgongafnkaaGreatDoorWCs
set_option linter.unusedVariables false
set_option linter.unusedSimpArgs false
set_option linter.unusedSectionVars false
set_option linter.constructorNameAsVariable false
namespace Go.Proofs.YtoidjgongafnkaaGreatDoor
open Go.RowKit

/-- The last batch. -/
def finAsk (k : Nat) : List Cm.Vb := if k = 0 then [] else clockVb 0 :: pageVbs 0 k
theorem finAsk_good (k : Nat) : ∀ x ∈ finAsk k, x.Good := by
  intro x hx
  unfold finAsk at hx
  split at hx
  · simp at hx
  · rcases List.mem_cons.1 hx with h | h
    · subst h; exact .inr (.inl rfl)
    · obtain ⟨q, _, rfl⟩ := List.mem_map.1 h
      exact .inr (.inl rfl)

theorem finAsk_len (k : Nat) : (finAsk k).length ≤ k + 1 := by
  unfold finAsk
  split
  · simp
  · simp [pageVbs]

set_option maxRecDepth 10000 in
set_option maxHeartbeats 40000000 in
theorem cFinish_ok (lo lo2 c t m r k : Nat) (vm vr vw : Value) (gs : List (List (List Int))) (w : World) (hc : CAt w lo2 c t m r k vm vr vw) (ht : TkAt w t lo gs none) (hlo : True) (hlw : lo ≤ w.heap.size) (hlw2 : lo2 ≤ w.heap.size)
    (hf : Fits (finAsk k) gs) :
    Calls Tryz.prog 43 #[.pointer (some ⟨c, 0, none⟩)] w (FnPost t lo (finAsk k) gs w) := by
  obtain ⟨i0, hi, hz0, hz1, hz2⟩ := info_parts infoVerb
  obtain ⟨pm, cm, rfl⟩ := own_shape hc.job.mem
  obtain ⟨pr, cr, rfl⟩ := own_shape hc.job.reads
  obtain ⟨pw, cw, rfl⟩ := own_shape hc.job.writes
  have k6 : w.cell? ⟨c, 6, none⟩ = some (.slice pw k cw) := hc.blk.cell 6
  have lc := hc.blk.lt
  have HC := Lib.hid hc
  have HT := Lib.hid (And.intro ht hf)
  have k4 := hc.job.k4
  clear hc ht hf
  rcases k with _ | k
  · go_enter Tryz.func43, Tryz.ntmps43
    go_wp2_with fail
    have hb : Below w.heap.size w (w.alloc (.cells #[.int .i64 0, .int .i64 0] 43)) := by (repeat (first | with_reducible exact Below.refl _ _ | with_reducible assumption | with_reducible refine Below.setCell ?_ (by first | (simp; done) | (simp; omega)) _ | with_reducible refine below_alloc ?_ _ | with_reducible refine below_drewN ?_ _ | with_reducible refine Below.drew ?_ | with_reducible refine below_step ?_ (by assumption)))
    refine bodyPost_ret (results_bt rfl _ _ w.heap.size _ _ _ rfl (Blk.made _ _ _) Tryz.underlying43 rfl (by kernel_rfl)) rfl ⟨rfl, HT.out.1.below hb, Over.of_below hb⟩
  · have HPG : Hid (∀ W', Below w.heap.size w W' → Calls Tryz.prog 77 #[.pointer (some ⟨c, 0, none⟩), .agg #[.int .i64 0, .int .i64 1, .bool true]] W' (AsksPost (pageVbs 0 (k + 1)) W')) :=
      Lib.hid (fun W' hb => cPages_ok lo2 c t m r (k + 1) 0 _ _ _ true W' (HC.out.below hb))
    have HCK : Hid (∀ W', Below w.heap.size w W' → Calls Tryz.prog 78 #[.pointer (some ⟨c, 0, none⟩), .agg #[.int .i64 0, .int .i64 1, .bool true]] W' (AddrPost (clockVb 0) W')) :=
      Lib.hid (fun W' hb => cClock_ok lo2 c t m r (k + 1) 0 _ _ _ true W' (HC.out.below hb) (Nat.le_trans hlw2 hb.size))
    have HK : Hid (∀ W, Below w.heap.size w W → Blk W c 77 #[Value.int .i64 0, .int .i64 1, .int .i64 108, .int .i64 0, .slice pm m cm, .slice pr r cr, .slice pw (k + 1) cw, .pointer (some ⟨t, 0, none⟩), .int .i64 0, .int .i64 1, .bool true]) := Lib.hid (fun W hb => HC.out.blk.kept hb)
    go_enter Tryz.func43, Tryz.ntmps43
    go_wp2_with fail
    generalize hW : World.alloc _ _ = W
    have BR : Blk W w.heap.size 43 #[.int .i64 0, .int .i64 0] := by rw [← hW]; exact Blk.made w _ _
    have hbW : Below w.heap.size w W := by rw [← hW]; (repeat (first | with_reducible exact Below.refl _ _ | with_reducible assumption | with_reducible refine Below.setCell ?_ (by first | (simp; done) | (simp; omega)) _ | with_reducible refine below_alloc ?_ _ | with_reducible refine below_drewN ?_ _ | with_reducible refine Below.drew ?_ | with_reducible refine below_step ?_ (by assumption)))
    have HBR := Lib.hid (And.intro BR hbW)
    have hWs := Lib.hid hW
    clear hW BR hbW k6
    refine wp_region_held_drew (S := KeepBlk c 77 #[Value.int .i64 0, .int .i64 1, .int .i64 108, .int .i64 0, .slice pm m cm, .slice pr r cr, .slice pw (k + 1) cw, .pointer (some ⟨t, 0, none⟩), .int .i64 0, .int .i64 1, .bool true]) (by kernel_rfl) ⟨(HK.out W HBR.out.2).drew⟩ ?_
    intro hSt
    refine wpAnyH_seq (is := [0, 1, 2, 3, 4, 5, 8, 9, 10, 11, 12]) (by kernel_rfl) (by kernel_rfl) (fun _ _ d _ _ h => by cases d <;> exact h) (by assumption) ?_
    iterate 11 (first | (refine TakeSeq.step (v := undef) rfl (Or.inr ⟨by rfl, rfl⟩) ?_; simp only [Act.put, List.setIfInBounds_toArray, List.set_cons_zero, List.set_cons_succ, List.getElem_toArray, List.getElem_cons_zero, List.getElem_cons_succ]) | (refine TakeSeq.step (v := ?_) rfl (Or.inl ⟨by rfl, ?_⟩) ?_; rotate_left 1; (focus (intro wq hSq; have hrd := hSq.rule; go_simp; with_reducible rfl)); simp only [Act.put, List.setIfInBounds_toArray, List.set_cons_zero, List.set_cons_succ, List.getElem_toArray, List.getElem_cons_zero, List.getElem_cons_succ]))
    refine TakeSeq.done ?_
    have HBW := Lib.hid HBR.out.2
    have HWS : Hid (W.heap.size = w.heap.size + 1) := Lib.hid (by rw [← hWs.out]; simp)
    generalize hgw : W.drew = w0
    have HBR0 : Hid (Blk w0 w.heap.size 43 #[.int .i64 0, .int .i64 0]) := Lib.hid (by rw [← hgw]; exact HBR.out.1.drew)
    have HBL0 : Hid (Below W.heap.size W w0) := Lib.hid (by rw [← hgw]; exact (Below.refl _ _).drew)
    clear hgw
    -- ORDERS
    refine wpAnyH_ready (rs := [6, 20]) (by kernel_rfl) (by simp) ?_
    refine AllReadyH.cons rfl (fun K hK => ?_) (AllReadyH.cons rfl (fun K hK => ?_) (AllReadyH.nil))
    · skip
      rw [if_pos (by rfl)]
      go_simp
      go_at_call 78
      refine (HCK.out _ (below_step HBW.out HBL0.out)).mono ?_
      rintro e w0_6 ⟨⟨v1, rfl, hwv⟩, hb⟩
      obtain ⟨pv, cv, rfl⟩ := RowAt.shape hwv
      have HBR0_6 := Lib.hid (Blk.kept HBR0.out hb)
      have HBL0_6 := Lib.hid (below_step HBL0.out hb)
      have HC60_6 : Hid (WordsAt w0_6 W.heap.size (.slice pv 1 cv) [1]) := Lib.hid (RowAt.low hwv HBL0.out.size)
      simp only [vbArr, clockVb]
      go_wp2_with fail
      refine hK.out _ _ ⟨HK.out _ (below_step HBW.out HBL0_6.out)⟩ (fun hHeld => ?_)
      clear hK K hwv hb
      refine wpAnyH_ready (rs := [7, 13, 20]) (by kernel_rfl) (by simp) ?_
      refine AllReadyH.cons rfl (fun K hK => ?_) (AllReadyH.cons rfl (fun K hK => ?_) (AllReadyH.cons rfl (fun K hK => ?_) (AllReadyH.nil)))
      · skip
        rw [if_pos (by rfl)]
        go_simp
        go_wp2_with fail
        have hb : Below w0_6.heap.size w0_6 (w0_6.alloc (.cells (vbArr (clockVb 0) (.slice pv 1 cv)) 147)) := below_alloc (Below.refl _ _) _
        have HS := Lib.hid (KeepBlk.mk (HK.out _ (below_step (below_step HBW.out HBL0_6.out) hb)))
        refine hK.out _ _ ⟨HS.out.blk⟩ (fun hHeld => ?_)
        clear hK K HS
        have hmade : Blk (w0_6.alloc (.cells (vbArr (clockVb 0) (.slice pv 1 cv)) 147)) w0_6.heap.size 147 (vbArr (clockVb 0) (.slice pv 1 cv)) := Blk.made _ _ _
        simp only [vbArr, clockVb] at hmade hb
        generalize hgen : World.alloc w0_6 _ = w0_6_7 at *
        obtain ⟨b7, hb7⟩ : ∃ b, b = w0_6.heap.size := ⟨_, rfl⟩
        rw [← hb7] at hmade ⊢
        have HLb7 : Hid (W.heap.size ≤ b7) := Lib.hid (by rw [hb7]; exact HBL0_6.out.size)
        have HBR0_6_7 := Lib.hid (Blk.kept HBR0_6.out hb)
        have HBL0_6_7 := Lib.hid (below_step HBL0_6.out hb)
        have HC60_6_7 := Lib.hid (WordsAt.below HC60_6.out hb)
        have HB70_6_7 := Lib.hid hmade
        clear hmade hb hgen hb7
        refine wpAnyH_ready (rs := [13, 20]) (by kernel_rfl) (by simp) ?_
        refine AllReadyH.cons rfl (fun K hK => ?_) (AllReadyH.cons rfl (fun K hK => ?_) (AllReadyH.nil))
        · skip
          rw [if_pos (by rfl)]
          go_simp
          go_at_call 77
          refine (HPG.out _ (below_step HBW.out HBL0_6_7.out)).mono ?_
          rintro e w0_6_7_13 ⟨⟨v2, rfl, hv2⟩, hb⟩
          have HBR0_6_7_13 := Lib.hid (Blk.kept HBR0_6_7.out hb)
          have HBL0_6_7_13 := Lib.hid (below_step HBL0_6_7.out hb)
          have HC60_6_7_13 := Lib.hid (WordsAt.below HC60_6_7.out hb)
          have HB70_6_7_13 := Lib.hid (Blk.kept HB70_6_7.out hb)
          have HP130_6_7_13 : Hid (AskRow w0_6_7_13 W.heap.size v2 (pageVbs 0 (k + 1))) := Lib.hid (hv2.low HBL0_6_7.out.size)
          go_wp2_with fail
          refine hK.out _ _ ⟨HK.out _ (below_step HBW.out HBL0_6_7_13.out)⟩ (fun hHeld => ?_)
          clear hK K hv2 hb
          refine wpAnyH_ready (rs := [14, 20]) (by kernel_rfl) (by simp) ?_
          refine AllReadyH.cons rfl (fun K hK => ?_) (AllReadyH.cons rfl (fun K hK => ?_) (AllReadyH.nil))
          · skip
            rw [if_pos (by rfl)]
            obtain ⟨al2, hal2, hown2, hws2⟩ := HP130_6_7_13.out
            have h2 : al2.length = k + 1 := by have := congrArg List.length hal2; simpa [pageVbs] using this
            rw [h2] at hown2
            obtain ⟨g2, cap2, hvv⟩ := own_form hown2 (by omega)
            subst hvv
            have hla := askCells_len al2
            rw [h2] at hla
            have hown1 : w0_6_7_13.ownsRow W.heap.size 147 9 (.slice (some ⟨b7, 0, none⟩) 1 1) 1 (askCells [(clockVb 0, .slice pv 1 cv)]) := ⟨rfl, .inr ⟨b7, 1, _, rfl, HLb7.out, HB70_6_7_13.out, Nat.le_refl _, by unfold maxLen; omega, rfl, rfl⟩⟩
            refine wp_append_src (.tmp 23) (.tmp 29) 40 rfl W.heap.size 147 i0 _ 9 88 Tryz.underlying40 hi hz0 hz1 hz2 rfl (by decide) (.slice (some ⟨b7, 0, none⟩) 1 1) 1 (askCells [(clockVb 0, .slice pv 1 cv)]) rfl hown1 (.slice (some ⟨g2, 0, none⟩) (k + 1) cap2) (k + 1) (askCells al2) rfl (SrcAt.of_own hown2 (askCells_one al2 w0_6_7_13 _ hws2)) hla (by unfold maxLen; omega) (by omega) HBL0_6_7_13.out.size ?_
            intro v14 w0_6_7_13_14 hown14 hg14
            have hA := AskRow.push (al := [(clockVb 0, .slice pv 1 cv)]) hown1 (fun t ht => by simp at ht; subst ht; exact HC60_6_7_13.out) al2 hws2 (by rw [h2]; rfl) rfl hown14 hg14
            have HA0_6_7_13_14 : Hid (AskRow w0_6_7_13_14 W.heap.size v14 (finAsk (k + 1))) := Lib.hid (by rw [hal2] at hA; exact hA)
            have HBL0_6_7_13_14 : Hid (Below W.heap.size W w0_6_7_13_14) := Lib.hid (below_grown (w := W) (w1 := w0_6_7_13) HBL0_6_7_13.out hg14 (fun q hq => own_row_ge hown1 q hq))
            have HBR0_6_7_13_14 := Lib.hid (Blk.beside HBR0_6_7_13.out hown1 hg14 (by decide))
            clear hA hown14 hg14 hown1 hown2 hws2 hal2 hla
            refine hK.out _ _ ⟨HK.out _ (below_step HBW.out HBL0_6_7_13_14.out)⟩ (fun hHeld => ?_)
            clear hK K
            simp only [Act.put, List.setIfInBounds_toArray, List.set_cons_zero, List.set_cons_succ, List.getElem_toArray, List.getElem_cons_zero, List.getElem_cons_succ]
            refine wpAnyH_ready (rs := [15, 20]) (by kernel_rfl) (by simp) ?_
            refine AllReadyH.cons rfl (fun K hK => ?_) (AllReadyH.cons rfl (fun K hK => ?_) (AllReadyH.nil))
            · skip
              rw [if_pos (by rfl)]
              obtain ⟨p14, c14, hv14⟩ := HA0_6_7_13_14.out.asks.shape
              subst hv14
              go_simp
              go_at_call 72
              refine (step_ok c t lo _ _ _ _ 3 (finAsk (k + 1)) gs (by have h1 := finAsk_len (k + 1); omega) (finAsk_good _) _ (HC.out.blk.kept (below_step HBW.out HBL0_6_7_13_14.out)) (HT.out.1.below (below_step HBW.out HBL0_6_7_13_14.out)) hlo (HA0_6_7_13_14.out.asks.low (Nat.le_trans hlw HBW.out.size)) HT.out.2).mono ?_
              rintro e w0_6_7_13_14_15 ⟨⟨u, rfl, _, pu, nu, cu, rfl⟩, htk, ho⟩
              have HBR0_6_7_13_14_15 := Lib.hid (HBR0_6_7_13_14.out.grown ho (fun e => by injection e with e; have := HT.out.1.lt; omega))
              have HTK0_6_7_13_14_15 := Lib.hid htk
              have HO0_6_7_13_14_15 : Hid (Over t w w0_6_7_13_14_15) := Lib.hid ((Over.of_below (below_step HBW.out HBL0_6_7_13_14.out)).trans ho)
              have HCC0_6_7_13_14_15 := Lib.hid ((HC.out.below (below_step HBW.out HBL0_6_7_13_14.out)).over ho (HT.out.1.below (below_step HBW.out HBL0_6_7_13_14.out))).blk
              clear htk ho
              obtain ⟨ok, hok⟩ : ∃ ok, ok = goOn (finAsk (k + 1)) gs := ⟨_, rfl⟩
              rw [← hok]
              have HOK := Lib.hid hok
              clear hok
              go_wp2_with fail
              refine hK.out _ _ ⟨HCC0_6_7_13_14_15.out⟩ (fun hHeld => ?_)
              clear hK K
              refine wpAnyH_seq (is := [16, 17, 18, 19]) (by kernel_rfl) (by kernel_rfl) (fun _ _ d _ _ h => by cases d <;> exact h) (by assumption) ?_
              iterate 4 (first | (refine TakeSeq.step (v := undef) rfl (Or.inr ⟨by rfl, rfl⟩) ?_; simp only [Act.put, List.setIfInBounds_toArray, List.set_cons_zero, List.set_cons_succ, List.getElem_toArray, List.getElem_cons_zero, List.getElem_cons_succ]) | (refine TakeSeq.step (v := ?_) rfl (Or.inl ⟨by rfl, ?_⟩) ?_; rotate_left 1; (focus (intro wq hSq; have hrd := hSq.rule; go_simp; with_reducible rfl)); simp only [Act.put, List.setIfInBounds_toArray, List.set_cons_zero, List.set_cons_succ, List.getElem_toArray, List.getElem_cons_zero, List.getElem_cons_succ]))
              refine TakeSeq.done ?_
              refine wpAnyH_ready (rs := [20]) (by kernel_rfl) (by simp) ?_
              refine AllReadyH.cons rfl (fun K hK => ?_) (AllReadyH.nil)
              rw [if_pos (by rfl)]
              go_simp
              go_wp2_with fail
              have hb : Below w0_6_7_13_14_15.heap.size w0_6_7_13_14_15 (w0_6_7_13_14_15.alloc (.cells #[.int .i64 0, .int .i64 0] 43)) := below_alloc (Below.refl _ _) _
              refine hK.out _ _ ⟨Blk.kept HCC0_6_7_13_14_15.out hb⟩ (fun hHeld => ?_)
              clear hK K
              have hmade : Blk (w0_6_7_13_14_15.alloc (.cells #[.int .i64 0, .int .i64 0] 43)) w0_6_7_13_14_15.heap.size 43 #[.int .i64 0, .int .i64 0] := Blk.made _ _ _
              generalize hgen : World.alloc w0_6_7_13_14_15 _ = w0_6_7_13_14_15_20 at *
              obtain ⟨n20, hn20⟩ : ∃ b, b = w0_6_7_13_14_15.heap.size := ⟨_, rfl⟩
              rw [← hn20] at hmade ⊢
              have HLn20 : Hid (W.heap.size ≤ n20) := Lib.hid (by rw [hn20]; have h1 := HBR0_6_7_13_14_15.out.lt; have h2 := HWS.out; omega)
              have HBR0_6_7_13_14_15_20 := Lib.hid (Blk.kept HBR0_6_7_13_14_15.out hb)
              have HTK0_6_7_13_14_15_20 := Lib.hid (HTK0_6_7_13_14_15.out.below hb)
              have HO0_6_7_13_14_15_20 := Lib.hid (HO0_6_7_13_14_15.out.then_below hb)
              have HCC0_6_7_13_14_15_20 := Lib.hid (Blk.kept HCC0_6_7_13_14_15.out hb)
              have HN200_6_7_13_14_15_20 := Lib.hid hmade
              clear hmade hb hgen hn20
              refine wpAnyH_seq (is := [21]) (by kernel_rfl) (by kernel_rfl) (fun _ _ d _ _ h => by cases d <;> exact h) (by assumption) ?_
              iterate 1 (first | (refine TakeSeq.step (v := undef) rfl (Or.inr ⟨by rfl, rfl⟩) ?_; simp only [Act.put, List.setIfInBounds_toArray, List.set_cons_zero, List.set_cons_succ, List.getElem_toArray, List.getElem_cons_zero, List.getElem_cons_succ]) | (refine TakeSeq.step (v := ?_) rfl (Or.inl ⟨by rfl, ?_⟩) ?_; rotate_left 1; (focus (intro wq hSq; have hrd := hSq.rule; go_simp; with_reducible rfl)); simp only [Act.put, List.setIfInBounds_toArray, List.set_cons_zero, List.set_cons_succ, List.getElem_toArray, List.getElem_cons_zero, List.getElem_cons_succ]))
              refine TakeSeq.done ?_
              have k20 := HN200_6_7_13_14_15_20.out.cell
              have f20 := HN200_6_7_13_14_15_20.out.free
              have l20 := HN200_6_7_13_14_15_20.out.lt
              have HYY : Hid (c ≠ n20) := Lib.hid (fun e => by subst e; exact absurd (HCC0_6_7_13_14_15_20.out.type HN200_6_7_13_14_15_20.out).1 (by decide))
              have HRN : Hid (w.heap.size ≠ n20) := Lib.hid (by have h1 := HLn20.out; have h2 := HWS.out; omega)
              refine wpAnyH_ready (rs := [22]) (by kernel_rfl) (by simp) ?_
              refine AllReadyH.cons rfl (fun K hK => ?_) (AllReadyH.nil)
              rw [if_pos (by rfl)]
              go_simp
              refine hK.out _ _ (⟨(HCC0_6_7_13_14_15_20.out.aside HYY.out _).aside HYY.out _⟩) (fun hHeld => ?_)
              clear hK K
              refine wpAnyH_seq (is := [23]) (by kernel_rfl) (by kernel_rfl) (fun _ _ d _ _ h => by cases d <;> exact h) (by assumption) ?_
              iterate 1 (first | (refine TakeSeq.step (v := undef) rfl (Or.inr ⟨by rfl, rfl⟩) ?_; simp only [Act.put, List.setIfInBounds_toArray, List.set_cons_zero, List.set_cons_succ, List.getElem_toArray, List.getElem_cons_zero, List.getElem_cons_succ]) | (refine TakeSeq.step (v := ?_) rfl (Or.inl ⟨by rfl, ?_⟩) ?_; rotate_left 1; (focus (intro wq hSq; have hrd := hSq.rule; go_simp; with_reducible rfl)); simp only [Act.put, List.setIfInBounds_toArray, List.set_cons_zero, List.set_cons_succ, List.getElem_toArray, List.getElem_cons_zero, List.getElem_cons_succ]))
              refine TakeSeq.done ?_
              refine wpAnyH_done (by kernel_rfl) ?_ _
              have hne := HRN.out
              have hne2 : n20 ≠ w.heap.size := fun e => hne e.symm
              have B1 : Blk ((w0_6_7_13_14_15_20.setCell ⟨n20, 0, none⟩ (.int .i64 0)).setCell ⟨n20, 1, none⟩ (.int .i64 0)) n20 43 #[.int .i64 0, .int .i64 0] := Blk.all2 HN200_6_7_13_14_15_20.out _ _
              have B2 : Blk ((w0_6_7_13_14_15_20.setCell ⟨n20, 0, none⟩ (.int .i64 0)).setCell ⟨n20, 1, none⟩ (.int .i64 0)) w.heap.size 43 #[.int .i64 0, .int .i64 0] := (HBR0_6_7_13_14_15_20.out.aside hne _).aside hne _
              have ho1 : Over n20 w0_6_7_13_14_15_20 ((w0_6_7_13_14_15_20.setCell ⟨n20, 0, none⟩ (.int .i64 0)).setCell ⟨n20, 1, none⟩ (.int .i64 0)) := ((Over.refl _ _).put 0 _).put 1 _
              have HE := Lib.hid (And.intro (HTK0_6_7_13_14_15_20.out.over ho1 HN200_6_7_13_14_15_20.out (by decide) (by decide) (by decide) (by decide) (by decide)) (And.intro B2 ((HO0_6_7_13_14_15_20.out.own (p := ⟨n20, 0, none⟩) (by have h1 := HLn20.out; have h2 := HWS.out; show w.heap.size ≤ n20; omega) (.int .i64 0)).own (p := ⟨n20, 1, none⟩) (by have h1 := HLn20.out; have h2 := HWS.out; show w.heap.size ≤ n20; omega) (.int .i64 0))))
              have kx := B1.cell
              have ky := B2.cell
              have fy := B2.free
              have ly := B2.lt
              have lx := B1.lt
              generalize hz : (w0_6_7_13_14_15_20.setCell ⟨n20, 0, none⟩ (.int .i64 0)).setCell ⟨n20, 1, none⟩ (.int .i64 0) = wz at *
              clear hz B1 B2 ho1 k20 f20 l20 hne hne2
              go_wp2_with fail
              have hx := HE.out
              have ho2 : Over t w ((wz.setCell ⟨w.heap.size, 0, none⟩ (.int .i64 0)).setCell ⟨w.heap.size, 1, none⟩ (.int .i64 0)) := (hx.2.2.own (by simp) _).own (by simp) _
              have ho3 : Over w.heap.size wz ((wz.setCell ⟨w.heap.size, 0, none⟩ (.int .i64 0)).setCell ⟨w.heap.size, 1, none⟩ (.int .i64 0)) := ((Over.refl _ _).put 0 _).put 1 _
              refine bodyPost_ret (results_bt rfl _ _ w.heap.size _ _ _ rfl (Blk.all2 hx.2.1 _ _) Tryz.underlying43 rfl (by kernel_rfl)) rfl ⟨by rw [← HOK.out]; rfl, hx.1.over ho3 hx.2.1 (by decide) (by decide) (by decide) (by decide) (by decide), ho2⟩
            · skip
              rw [if_pos (by rfl)]
              go_simp
              go_wp2_with fail
              have hb : Below w0_6_7_13_14.heap.size w0_6_7_13_14 (w0_6_7_13_14.alloc (.cells #[.int .i64 0, .int .i64 0] 43)) := below_alloc (Below.refl _ _) _
              have HS := Lib.hid (KeepBlk.mk (HK.out _ (below_step (below_step HBW.out HBL0_6_7_13_14.out) hb)))
              refine hK.out _ _ ⟨HS.out.blk⟩ (fun hHeld => ?_)
              clear hK K HS
              have hmade : Blk (w0_6_7_13_14.alloc (.cells #[.int .i64 0, .int .i64 0] 43)) w0_6_7_13_14.heap.size 43 #[.int .i64 0, .int .i64 0] := Blk.made _ _ _
              generalize hgen : World.alloc w0_6_7_13_14 _ = w0_6_7_13_14_20 at *
              obtain ⟨n20, hn20⟩ : ∃ b, b = w0_6_7_13_14.heap.size := ⟨_, rfl⟩
              rw [← hn20] at hmade ⊢
              have HLn20 : Hid (W.heap.size ≤ n20) := Lib.hid (by rw [hn20]; exact HBL0_6_7_13_14.out.size)
              have HBR0_6_7_13_14_20 := Lib.hid (Blk.kept HBR0_6_7_13_14.out hb)
              have HBL0_6_7_13_14_20 := Lib.hid (below_step HBL0_6_7_13_14.out hb)
              have HA0_6_7_13_14_20 := Lib.hid (AskRow.below HA0_6_7_13_14.out hb)
              have HN200_6_7_13_14_20 := Lib.hid hmade
              clear hmade hb hgen hn20
              refine wpAnyH_ready (rs := [15]) (by kernel_rfl) (by simp) ?_
              refine AllReadyH.cons rfl (fun K hK => ?_) (AllReadyH.nil)
              rw [if_pos (by rfl)]
              obtain ⟨p14, c14, hv14⟩ := HA0_6_7_13_14_20.out.asks.shape
              subst hv14
              go_simp
              go_at_call 72
              refine (step_ok c t lo _ _ _ _ 3 (finAsk (k + 1)) gs (by have h1 := finAsk_len (k + 1); omega) (finAsk_good _) _ (HC.out.blk.kept (below_step HBW.out HBL0_6_7_13_14_20.out)) (HT.out.1.below (below_step HBW.out HBL0_6_7_13_14_20.out)) hlo (HA0_6_7_13_14_20.out.asks.low (Nat.le_trans hlw HBW.out.size)) HT.out.2).mono ?_
              rintro e w0_6_7_13_14_20_15 ⟨⟨u, rfl, _, pu, nu, cu, rfl⟩, htk, ho⟩
              have HBR0_6_7_13_14_20_15 := Lib.hid (HBR0_6_7_13_14_20.out.grown ho (fun e => by injection e with e; have := HT.out.1.lt; omega))
              have HTK0_6_7_13_14_20_15 := Lib.hid htk
              have HO0_6_7_13_14_20_15 : Hid (Over t w w0_6_7_13_14_20_15) := Lib.hid ((Over.of_below (below_step HBW.out HBL0_6_7_13_14_20.out)).trans ho)
              have HCC0_6_7_13_14_20_15 := Lib.hid ((HC.out.below (below_step HBW.out HBL0_6_7_13_14_20.out)).over ho (HT.out.1.below (below_step HBW.out HBL0_6_7_13_14_20.out))).blk
              have HN200_6_7_13_14_20_15 := Lib.hid (HN200_6_7_13_14_20.out.grown ho (fun e => by injection e with e; have h1 := HT.out.1.lt; have h2 := HLn20.out; have h3 := HBW.out.size; omega))
              clear htk ho
              obtain ⟨ok, hok⟩ : ∃ ok, ok = goOn (finAsk (k + 1)) gs := ⟨_, rfl⟩
              rw [← hok]
              have HOK := Lib.hid hok
              clear hok
              go_wp2_with fail
              refine hK.out _ _ ⟨HCC0_6_7_13_14_20_15.out⟩ (fun hHeld => ?_)
              clear hK K
              refine wpAnyH_seq (is := [16, 17, 18, 19, 21]) (by kernel_rfl) (by kernel_rfl) (fun _ _ d _ _ h => by cases d <;> exact h) (by assumption) ?_
              iterate 5 (first | (refine TakeSeq.step (v := undef) rfl (Or.inr ⟨by rfl, rfl⟩) ?_; simp only [Act.put, List.setIfInBounds_toArray, List.set_cons_zero, List.set_cons_succ, List.getElem_toArray, List.getElem_cons_zero, List.getElem_cons_succ]) | (refine TakeSeq.step (v := ?_) rfl (Or.inl ⟨by rfl, ?_⟩) ?_; rotate_left 1; (focus (intro wq hSq; have hrd := hSq.rule; go_simp; with_reducible rfl)); simp only [Act.put, List.setIfInBounds_toArray, List.set_cons_zero, List.set_cons_succ, List.getElem_toArray, List.getElem_cons_zero, List.getElem_cons_succ]))
              refine TakeSeq.done ?_
              have k20 := HN200_6_7_13_14_20_15.out.cell
              have f20 := HN200_6_7_13_14_20_15.out.free
              have l20 := HN200_6_7_13_14_20_15.out.lt
              have HYY : Hid (c ≠ n20) := Lib.hid (fun e => by subst e; exact absurd (HCC0_6_7_13_14_20_15.out.type HN200_6_7_13_14_20_15.out).1 (by decide))
              have HRN : Hid (w.heap.size ≠ n20) := Lib.hid (by have h1 := HLn20.out; have h2 := HWS.out; omega)
              refine wpAnyH_ready (rs := [22]) (by kernel_rfl) (by simp) ?_
              refine AllReadyH.cons rfl (fun K hK => ?_) (AllReadyH.nil)
              rw [if_pos (by rfl)]
              go_simp
              refine hK.out _ _ (⟨(HCC0_6_7_13_14_20_15.out.aside HYY.out _).aside HYY.out _⟩) (fun hHeld => ?_)
              clear hK K
              refine wpAnyH_seq (is := [23]) (by kernel_rfl) (by kernel_rfl) (fun _ _ d _ _ h => by cases d <;> exact h) (by assumption) ?_
              iterate 1 (first | (refine TakeSeq.step (v := undef) rfl (Or.inr ⟨by rfl, rfl⟩) ?_; simp only [Act.put, List.setIfInBounds_toArray, List.set_cons_zero, List.set_cons_succ, List.getElem_toArray, List.getElem_cons_zero, List.getElem_cons_succ]) | (refine TakeSeq.step (v := ?_) rfl (Or.inl ⟨by rfl, ?_⟩) ?_; rotate_left 1; (focus (intro wq hSq; have hrd := hSq.rule; go_simp; with_reducible rfl)); simp only [Act.put, List.setIfInBounds_toArray, List.set_cons_zero, List.set_cons_succ, List.getElem_toArray, List.getElem_cons_zero, List.getElem_cons_succ]))
              refine TakeSeq.done ?_
              refine wpAnyH_done (by kernel_rfl) ?_ _
              have hne := HRN.out
              have hne2 : n20 ≠ w.heap.size := fun e => hne e.symm
              have B1 : Blk ((w0_6_7_13_14_20_15.setCell ⟨n20, 0, none⟩ (.int .i64 0)).setCell ⟨n20, 1, none⟩ (.int .i64 0)) n20 43 #[.int .i64 0, .int .i64 0] := Blk.all2 HN200_6_7_13_14_20_15.out _ _
              have B2 : Blk ((w0_6_7_13_14_20_15.setCell ⟨n20, 0, none⟩ (.int .i64 0)).setCell ⟨n20, 1, none⟩ (.int .i64 0)) w.heap.size 43 #[.int .i64 0, .int .i64 0] := (HBR0_6_7_13_14_20_15.out.aside hne _).aside hne _
              have ho1 : Over n20 w0_6_7_13_14_20_15 ((w0_6_7_13_14_20_15.setCell ⟨n20, 0, none⟩ (.int .i64 0)).setCell ⟨n20, 1, none⟩ (.int .i64 0)) := ((Over.refl _ _).put 0 _).put 1 _
              have HE := Lib.hid (And.intro (HTK0_6_7_13_14_20_15.out.over ho1 HN200_6_7_13_14_20_15.out (by decide) (by decide) (by decide) (by decide) (by decide)) (And.intro B2 ((HO0_6_7_13_14_20_15.out.own (p := ⟨n20, 0, none⟩) (by have h1 := HLn20.out; have h2 := HWS.out; show w.heap.size ≤ n20; omega) (.int .i64 0)).own (p := ⟨n20, 1, none⟩) (by have h1 := HLn20.out; have h2 := HWS.out; show w.heap.size ≤ n20; omega) (.int .i64 0))))
              have kx := B1.cell
              have ky := B2.cell
              have fy := B2.free
              have ly := B2.lt
              have lx := B1.lt
              generalize hz : (w0_6_7_13_14_20_15.setCell ⟨n20, 0, none⟩ (.int .i64 0)).setCell ⟨n20, 1, none⟩ (.int .i64 0) = wz at *
              clear hz B1 B2 ho1 k20 f20 l20 hne hne2
              go_wp2_with fail
              have hx := HE.out
              have ho2 : Over t w ((wz.setCell ⟨w.heap.size, 0, none⟩ (.int .i64 0)).setCell ⟨w.heap.size, 1, none⟩ (.int .i64 0)) := (hx.2.2.own (by simp) _).own (by simp) _
              have ho3 : Over w.heap.size wz ((wz.setCell ⟨w.heap.size, 0, none⟩ (.int .i64 0)).setCell ⟨w.heap.size, 1, none⟩ (.int .i64 0)) := ((Over.refl _ _).put 0 _).put 1 _
              refine bodyPost_ret (results_bt rfl _ _ w.heap.size _ _ _ rfl (Blk.all2 hx.2.1 _ _) Tryz.underlying43 rfl (by kernel_rfl)) rfl ⟨by rw [← HOK.out]; rfl, hx.1.over ho3 hx.2.1 (by decide) (by decide) (by decide) (by decide) (by decide), ho2⟩
          · skip
            rw [if_pos (by rfl)]
            go_simp
            go_wp2_with fail
            have hb : Below w0_6_7_13.heap.size w0_6_7_13 (w0_6_7_13.alloc (.cells #[.int .i64 0, .int .i64 0] 43)) := below_alloc (Below.refl _ _) _
            have HS := Lib.hid (KeepBlk.mk (HK.out _ (below_step (below_step HBW.out HBL0_6_7_13.out) hb)))
            refine hK.out _ _ ⟨HS.out.blk⟩ (fun hHeld => ?_)
            clear hK K HS
            have hmade : Blk (w0_6_7_13.alloc (.cells #[.int .i64 0, .int .i64 0] 43)) w0_6_7_13.heap.size 43 #[.int .i64 0, .int .i64 0] := Blk.made _ _ _
            generalize hgen : World.alloc w0_6_7_13 _ = w0_6_7_13_20 at *
            obtain ⟨n20, hn20⟩ : ∃ b, b = w0_6_7_13.heap.size := ⟨_, rfl⟩
            rw [← hn20] at hmade ⊢
            have HLn20 : Hid (W.heap.size ≤ n20) := Lib.hid (by rw [hn20]; exact HBL0_6_7_13.out.size)
            have HBR0_6_7_13_20 := Lib.hid (Blk.kept HBR0_6_7_13.out hb)
            have HBL0_6_7_13_20 := Lib.hid (below_step HBL0_6_7_13.out hb)
            have HC60_6_7_13_20 := Lib.hid (WordsAt.below HC60_6_7_13.out hb)
            have HB70_6_7_13_20 := Lib.hid (Blk.kept HB70_6_7_13.out hb)
            have HP130_6_7_13_20 := Lib.hid (AskRow.below HP130_6_7_13.out hb)
            have HN200_6_7_13_20 := Lib.hid hmade
            clear hmade hb hgen hn20
            refine wpAnyH_ready (rs := [14]) (by kernel_rfl) (by simp) ?_
            refine AllReadyH.cons rfl (fun K hK => ?_) (AllReadyH.nil)
            rw [if_pos (by rfl)]
            obtain ⟨al2, hal2, hown2, hws2⟩ := HP130_6_7_13_20.out
            have h2 : al2.length = k + 1 := by have := congrArg List.length hal2; simpa [pageVbs] using this
            rw [h2] at hown2
            obtain ⟨g2, cap2, hvv⟩ := own_form hown2 (by omega)
            subst hvv
            have hla := askCells_len al2
            rw [h2] at hla
            have hown1 : w0_6_7_13_20.ownsRow W.heap.size 147 9 (.slice (some ⟨b7, 0, none⟩) 1 1) 1 (askCells [(clockVb 0, .slice pv 1 cv)]) := ⟨rfl, .inr ⟨b7, 1, _, rfl, HLb7.out, HB70_6_7_13_20.out, Nat.le_refl _, by unfold maxLen; omega, rfl, rfl⟩⟩
            refine wp_append_src (.tmp 23) (.tmp 29) 40 rfl W.heap.size 147 i0 _ 9 88 Tryz.underlying40 hi hz0 hz1 hz2 rfl (by decide) (.slice (some ⟨b7, 0, none⟩) 1 1) 1 (askCells [(clockVb 0, .slice pv 1 cv)]) rfl hown1 (.slice (some ⟨g2, 0, none⟩) (k + 1) cap2) (k + 1) (askCells al2) rfl (SrcAt.of_own hown2 (askCells_one al2 w0_6_7_13_20 _ hws2)) hla (by unfold maxLen; omega) (by omega) HBL0_6_7_13_20.out.size ?_
            intro v14 w0_6_7_13_20_14 hown14 hg14
            have hA := AskRow.push (al := [(clockVb 0, .slice pv 1 cv)]) hown1 (fun t ht => by simp at ht; subst ht; exact HC60_6_7_13_20.out) al2 hws2 (by rw [h2]; rfl) rfl hown14 hg14
            have HA0_6_7_13_20_14 : Hid (AskRow w0_6_7_13_20_14 W.heap.size v14 (finAsk (k + 1))) := Lib.hid (by rw [hal2] at hA; exact hA)
            have HBL0_6_7_13_20_14 : Hid (Below W.heap.size W w0_6_7_13_20_14) := Lib.hid (below_grown (w := W) (w1 := w0_6_7_13_20) HBL0_6_7_13_20.out hg14 (fun q hq => own_row_ge hown1 q hq))
            have HBR0_6_7_13_20_14 := Lib.hid (Blk.beside HBR0_6_7_13_20.out hown1 hg14 (by decide))
            have HN200_6_7_13_20_14 := Lib.hid (Blk.beside HN200_6_7_13_20.out hown1 hg14 (by decide))
            clear hA hown14 hg14 hown1 hown2 hws2 hal2 hla
            refine hK.out _ _ ⟨HK.out _ (below_step HBW.out HBL0_6_7_13_20_14.out)⟩ (fun hHeld => ?_)
            clear hK K
            simp only [Act.put, List.setIfInBounds_toArray, List.set_cons_zero, List.set_cons_succ, List.getElem_toArray, List.getElem_cons_zero, List.getElem_cons_succ]
            refine wpAnyH_ready (rs := [15]) (by kernel_rfl) (by simp) ?_
            refine AllReadyH.cons rfl (fun K hK => ?_) (AllReadyH.nil)
            rw [if_pos (by rfl)]
            obtain ⟨p14, c14, hv14⟩ := HA0_6_7_13_20_14.out.asks.shape
            subst hv14
            go_simp
            go_at_call 72
            refine (step_ok c t lo _ _ _ _ 3 (finAsk (k + 1)) gs (by have h1 := finAsk_len (k + 1); omega) (finAsk_good _) _ (HC.out.blk.kept (below_step HBW.out HBL0_6_7_13_20_14.out)) (HT.out.1.below (below_step HBW.out HBL0_6_7_13_20_14.out)) hlo (HA0_6_7_13_20_14.out.asks.low (Nat.le_trans hlw HBW.out.size)) HT.out.2).mono ?_
            rintro e w0_6_7_13_20_14_15 ⟨⟨u, rfl, _, pu, nu, cu, rfl⟩, htk, ho⟩
            have HBR0_6_7_13_20_14_15 := Lib.hid (HBR0_6_7_13_20_14.out.grown ho (fun e => by injection e with e; have := HT.out.1.lt; omega))
            have HTK0_6_7_13_20_14_15 := Lib.hid htk
            have HO0_6_7_13_20_14_15 : Hid (Over t w w0_6_7_13_20_14_15) := Lib.hid ((Over.of_below (below_step HBW.out HBL0_6_7_13_20_14.out)).trans ho)
            have HCC0_6_7_13_20_14_15 := Lib.hid ((HC.out.below (below_step HBW.out HBL0_6_7_13_20_14.out)).over ho (HT.out.1.below (below_step HBW.out HBL0_6_7_13_20_14.out))).blk
            have HN200_6_7_13_20_14_15 := Lib.hid (HN200_6_7_13_20_14.out.grown ho (fun e => by injection e with e; have h1 := HT.out.1.lt; have h2 := HLn20.out; have h3 := HBW.out.size; omega))
            clear htk ho
            obtain ⟨ok, hok⟩ : ∃ ok, ok = goOn (finAsk (k + 1)) gs := ⟨_, rfl⟩
            rw [← hok]
            have HOK := Lib.hid hok
            clear hok
            go_wp2_with fail
            refine hK.out _ _ ⟨HCC0_6_7_13_20_14_15.out⟩ (fun hHeld => ?_)
            clear hK K
            refine wpAnyH_seq (is := [16, 17, 18, 19, 21]) (by kernel_rfl) (by kernel_rfl) (fun _ _ d _ _ h => by cases d <;> exact h) (by assumption) ?_
            iterate 5 (first | (refine TakeSeq.step (v := undef) rfl (Or.inr ⟨by rfl, rfl⟩) ?_; simp only [Act.put, List.setIfInBounds_toArray, List.set_cons_zero, List.set_cons_succ, List.getElem_toArray, List.getElem_cons_zero, List.getElem_cons_succ]) | (refine TakeSeq.step (v := ?_) rfl (Or.inl ⟨by rfl, ?_⟩) ?_; rotate_left 1; (focus (intro wq hSq; have hrd := hSq.rule; go_simp; with_reducible rfl)); simp only [Act.put, List.setIfInBounds_toArray, List.set_cons_zero, List.set_cons_succ, List.getElem_toArray, List.getElem_cons_zero, List.getElem_cons_succ]))
            refine TakeSeq.done ?_
            have k20 := HN200_6_7_13_20_14_15.out.cell
            have f20 := HN200_6_7_13_20_14_15.out.free
            have l20 := HN200_6_7_13_20_14_15.out.lt
            have HYY : Hid (c ≠ n20) := Lib.hid (fun e => by subst e; exact absurd (HCC0_6_7_13_20_14_15.out.type HN200_6_7_13_20_14_15.out).1 (by decide))
            have HRN : Hid (w.heap.size ≠ n20) := Lib.hid (by have h1 := HLn20.out; have h2 := HWS.out; omega)
            refine wpAnyH_ready (rs := [22]) (by kernel_rfl) (by simp) ?_
            refine AllReadyH.cons rfl (fun K hK => ?_) (AllReadyH.nil)
            rw [if_pos (by rfl)]
            go_simp
            refine hK.out _ _ (⟨(HCC0_6_7_13_20_14_15.out.aside HYY.out _).aside HYY.out _⟩) (fun hHeld => ?_)
            clear hK K
            refine wpAnyH_seq (is := [23]) (by kernel_rfl) (by kernel_rfl) (fun _ _ d _ _ h => by cases d <;> exact h) (by assumption) ?_
            iterate 1 (first | (refine TakeSeq.step (v := undef) rfl (Or.inr ⟨by rfl, rfl⟩) ?_; simp only [Act.put, List.setIfInBounds_toArray, List.set_cons_zero, List.set_cons_succ, List.getElem_toArray, List.getElem_cons_zero, List.getElem_cons_succ]) | (refine TakeSeq.step (v := ?_) rfl (Or.inl ⟨by rfl, ?_⟩) ?_; rotate_left 1; (focus (intro wq hSq; have hrd := hSq.rule; go_simp; with_reducible rfl)); simp only [Act.put, List.setIfInBounds_toArray, List.set_cons_zero, List.set_cons_succ, List.getElem_toArray, List.getElem_cons_zero, List.getElem_cons_succ]))
            refine TakeSeq.done ?_
            refine wpAnyH_done (by kernel_rfl) ?_ _
            have hne := HRN.out
            have hne2 : n20 ≠ w.heap.size := fun e => hne e.symm
            have B1 : Blk ((w0_6_7_13_20_14_15.setCell ⟨n20, 0, none⟩ (.int .i64 0)).setCell ⟨n20, 1, none⟩ (.int .i64 0)) n20 43 #[.int .i64 0, .int .i64 0] := Blk.all2 HN200_6_7_13_20_14_15.out _ _
            have B2 : Blk ((w0_6_7_13_20_14_15.setCell ⟨n20, 0, none⟩ (.int .i64 0)).setCell ⟨n20, 1, none⟩ (.int .i64 0)) w.heap.size 43 #[.int .i64 0, .int .i64 0] := (HBR0_6_7_13_20_14_15.out.aside hne _).aside hne _
            have ho1 : Over n20 w0_6_7_13_20_14_15 ((w0_6_7_13_20_14_15.setCell ⟨n20, 0, none⟩ (.int .i64 0)).setCell ⟨n20, 1, none⟩ (.int .i64 0)) := ((Over.refl _ _).put 0 _).put 1 _
            have HE := Lib.hid (And.intro (HTK0_6_7_13_20_14_15.out.over ho1 HN200_6_7_13_20_14_15.out (by decide) (by decide) (by decide) (by decide) (by decide)) (And.intro B2 ((HO0_6_7_13_20_14_15.out.own (p := ⟨n20, 0, none⟩) (by have h1 := HLn20.out; have h2 := HWS.out; show w.heap.size ≤ n20; omega) (.int .i64 0)).own (p := ⟨n20, 1, none⟩) (by have h1 := HLn20.out; have h2 := HWS.out; show w.heap.size ≤ n20; omega) (.int .i64 0))))
            have kx := B1.cell
            have ky := B2.cell
            have fy := B2.free
            have ly := B2.lt
            have lx := B1.lt
            generalize hz : (w0_6_7_13_20_14_15.setCell ⟨n20, 0, none⟩ (.int .i64 0)).setCell ⟨n20, 1, none⟩ (.int .i64 0) = wz at *
            clear hz B1 B2 ho1 k20 f20 l20 hne hne2
            go_wp2_with fail
            have hx := HE.out
            have ho2 : Over t w ((wz.setCell ⟨w.heap.size, 0, none⟩ (.int .i64 0)).setCell ⟨w.heap.size, 1, none⟩ (.int .i64 0)) := (hx.2.2.own (by simp) _).own (by simp) _
            have ho3 : Over w.heap.size wz ((wz.setCell ⟨w.heap.size, 0, none⟩ (.int .i64 0)).setCell ⟨w.heap.size, 1, none⟩ (.int .i64 0)) := ((Over.refl _ _).put 0 _).put 1 _
            refine bodyPost_ret (results_bt rfl _ _ w.heap.size _ _ _ rfl (Blk.all2 hx.2.1 _ _) Tryz.underlying43 rfl (by kernel_rfl)) rfl ⟨by rw [← HOK.out]; rfl, hx.1.over ho3 hx.2.1 (by decide) (by decide) (by decide) (by decide) (by decide), ho2⟩
        · skip
          rw [if_pos (by rfl)]
          go_simp
          go_wp2_with fail
          have hb : Below w0_6_7.heap.size w0_6_7 (w0_6_7.alloc (.cells #[.int .i64 0, .int .i64 0] 43)) := below_alloc (Below.refl _ _) _
          have HS := Lib.hid (KeepBlk.mk (HK.out _ (below_step (below_step HBW.out HBL0_6_7.out) hb)))
          refine hK.out _ _ ⟨HS.out.blk⟩ (fun hHeld => ?_)
          clear hK K HS
          have hmade : Blk (w0_6_7.alloc (.cells #[.int .i64 0, .int .i64 0] 43)) w0_6_7.heap.size 43 #[.int .i64 0, .int .i64 0] := Blk.made _ _ _
          generalize hgen : World.alloc w0_6_7 _ = w0_6_7_20 at *
          obtain ⟨n20, hn20⟩ : ∃ b, b = w0_6_7.heap.size := ⟨_, rfl⟩
          rw [← hn20] at hmade ⊢
          have HLn20 : Hid (W.heap.size ≤ n20) := Lib.hid (by rw [hn20]; exact HBL0_6_7.out.size)
          have HBR0_6_7_20 := Lib.hid (Blk.kept HBR0_6_7.out hb)
          have HBL0_6_7_20 := Lib.hid (below_step HBL0_6_7.out hb)
          have HC60_6_7_20 := Lib.hid (WordsAt.below HC60_6_7.out hb)
          have HB70_6_7_20 := Lib.hid (Blk.kept HB70_6_7.out hb)
          have HN200_6_7_20 := Lib.hid hmade
          clear hmade hb hgen hn20
          refine wpAnyH_ready (rs := [13]) (by kernel_rfl) (by simp) ?_
          refine AllReadyH.cons rfl (fun K hK => ?_) (AllReadyH.nil)
          rw [if_pos (by rfl)]
          go_simp
          go_at_call 77
          refine (HPG.out _ (below_step HBW.out HBL0_6_7_20.out)).mono ?_
          rintro e w0_6_7_20_13 ⟨⟨v2, rfl, hv2⟩, hb⟩
          have HBR0_6_7_20_13 := Lib.hid (Blk.kept HBR0_6_7_20.out hb)
          have HBL0_6_7_20_13 := Lib.hid (below_step HBL0_6_7_20.out hb)
          have HC60_6_7_20_13 := Lib.hid (WordsAt.below HC60_6_7_20.out hb)
          have HB70_6_7_20_13 := Lib.hid (Blk.kept HB70_6_7_20.out hb)
          have HN200_6_7_20_13 := Lib.hid (Blk.kept HN200_6_7_20.out hb)
          have HP130_6_7_20_13 : Hid (AskRow w0_6_7_20_13 W.heap.size v2 (pageVbs 0 (k + 1))) := Lib.hid (hv2.low HBL0_6_7_20.out.size)
          go_wp2_with fail
          refine hK.out _ _ ⟨HK.out _ (below_step HBW.out HBL0_6_7_20_13.out)⟩ (fun hHeld => ?_)
          clear hK K hv2 hb
          refine wpAnyH_ready (rs := [14]) (by kernel_rfl) (by simp) ?_
          refine AllReadyH.cons rfl (fun K hK => ?_) (AllReadyH.nil)
          rw [if_pos (by rfl)]
          obtain ⟨al2, hal2, hown2, hws2⟩ := HP130_6_7_20_13.out
          have h2 : al2.length = k + 1 := by have := congrArg List.length hal2; simpa [pageVbs] using this
          rw [h2] at hown2
          obtain ⟨g2, cap2, hvv⟩ := own_form hown2 (by omega)
          subst hvv
          have hla := askCells_len al2
          rw [h2] at hla
          have hown1 : w0_6_7_20_13.ownsRow W.heap.size 147 9 (.slice (some ⟨b7, 0, none⟩) 1 1) 1 (askCells [(clockVb 0, .slice pv 1 cv)]) := ⟨rfl, .inr ⟨b7, 1, _, rfl, HLb7.out, HB70_6_7_20_13.out, Nat.le_refl _, by unfold maxLen; omega, rfl, rfl⟩⟩
          refine wp_append_src (.tmp 23) (.tmp 29) 40 rfl W.heap.size 147 i0 _ 9 88 Tryz.underlying40 hi hz0 hz1 hz2 rfl (by decide) (.slice (some ⟨b7, 0, none⟩) 1 1) 1 (askCells [(clockVb 0, .slice pv 1 cv)]) rfl hown1 (.slice (some ⟨g2, 0, none⟩) (k + 1) cap2) (k + 1) (askCells al2) rfl (SrcAt.of_own hown2 (askCells_one al2 w0_6_7_20_13 _ hws2)) hla (by unfold maxLen; omega) (by omega) HBL0_6_7_20_13.out.size ?_
          intro v14 w0_6_7_20_13_14 hown14 hg14
          have hA := AskRow.push (al := [(clockVb 0, .slice pv 1 cv)]) hown1 (fun t ht => by simp at ht; subst ht; exact HC60_6_7_20_13.out) al2 hws2 (by rw [h2]; rfl) rfl hown14 hg14
          have HA0_6_7_20_13_14 : Hid (AskRow w0_6_7_20_13_14 W.heap.size v14 (finAsk (k + 1))) := Lib.hid (by rw [hal2] at hA; exact hA)
          have HBL0_6_7_20_13_14 : Hid (Below W.heap.size W w0_6_7_20_13_14) := Lib.hid (below_grown (w := W) (w1 := w0_6_7_20_13) HBL0_6_7_20_13.out hg14 (fun q hq => own_row_ge hown1 q hq))
          have HBR0_6_7_20_13_14 := Lib.hid (Blk.beside HBR0_6_7_20_13.out hown1 hg14 (by decide))
          have HN200_6_7_20_13_14 := Lib.hid (Blk.beside HN200_6_7_20_13.out hown1 hg14 (by decide))
          clear hA hown14 hg14 hown1 hown2 hws2 hal2 hla
          refine hK.out _ _ ⟨HK.out _ (below_step HBW.out HBL0_6_7_20_13_14.out)⟩ (fun hHeld => ?_)
          clear hK K
          simp only [Act.put, List.setIfInBounds_toArray, List.set_cons_zero, List.set_cons_succ, List.getElem_toArray, List.getElem_cons_zero, List.getElem_cons_succ]
          refine wpAnyH_ready (rs := [15]) (by kernel_rfl) (by simp) ?_
          refine AllReadyH.cons rfl (fun K hK => ?_) (AllReadyH.nil)
          rw [if_pos (by rfl)]
          obtain ⟨p14, c14, hv14⟩ := HA0_6_7_20_13_14.out.asks.shape
          subst hv14
          go_simp
          go_at_call 72
          refine (step_ok c t lo _ _ _ _ 3 (finAsk (k + 1)) gs (by have h1 := finAsk_len (k + 1); omega) (finAsk_good _) _ (HC.out.blk.kept (below_step HBW.out HBL0_6_7_20_13_14.out)) (HT.out.1.below (below_step HBW.out HBL0_6_7_20_13_14.out)) hlo (HA0_6_7_20_13_14.out.asks.low (Nat.le_trans hlw HBW.out.size)) HT.out.2).mono ?_
          rintro e w0_6_7_20_13_14_15 ⟨⟨u, rfl, _, pu, nu, cu, rfl⟩, htk, ho⟩
          have HBR0_6_7_20_13_14_15 := Lib.hid (HBR0_6_7_20_13_14.out.grown ho (fun e => by injection e with e; have := HT.out.1.lt; omega))
          have HTK0_6_7_20_13_14_15 := Lib.hid htk
          have HO0_6_7_20_13_14_15 : Hid (Over t w w0_6_7_20_13_14_15) := Lib.hid ((Over.of_below (below_step HBW.out HBL0_6_7_20_13_14.out)).trans ho)
          have HCC0_6_7_20_13_14_15 := Lib.hid ((HC.out.below (below_step HBW.out HBL0_6_7_20_13_14.out)).over ho (HT.out.1.below (below_step HBW.out HBL0_6_7_20_13_14.out))).blk
          have HN200_6_7_20_13_14_15 := Lib.hid (HN200_6_7_20_13_14.out.grown ho (fun e => by injection e with e; have h1 := HT.out.1.lt; have h2 := HLn20.out; have h3 := HBW.out.size; omega))
          clear htk ho
          obtain ⟨ok, hok⟩ : ∃ ok, ok = goOn (finAsk (k + 1)) gs := ⟨_, rfl⟩
          rw [← hok]
          have HOK := Lib.hid hok
          clear hok
          go_wp2_with fail
          refine hK.out _ _ ⟨HCC0_6_7_20_13_14_15.out⟩ (fun hHeld => ?_)
          clear hK K
          refine wpAnyH_seq (is := [16, 17, 18, 19, 21]) (by kernel_rfl) (by kernel_rfl) (fun _ _ d _ _ h => by cases d <;> exact h) (by assumption) ?_
          iterate 5 (first | (refine TakeSeq.step (v := undef) rfl (Or.inr ⟨by rfl, rfl⟩) ?_; simp only [Act.put, List.setIfInBounds_toArray, List.set_cons_zero, List.set_cons_succ, List.getElem_toArray, List.getElem_cons_zero, List.getElem_cons_succ]) | (refine TakeSeq.step (v := ?_) rfl (Or.inl ⟨by rfl, ?_⟩) ?_; rotate_left 1; (focus (intro wq hSq; have hrd := hSq.rule; go_simp; with_reducible rfl)); simp only [Act.put, List.setIfInBounds_toArray, List.set_cons_zero, List.set_cons_succ, List.getElem_toArray, List.getElem_cons_zero, List.getElem_cons_succ]))
          refine TakeSeq.done ?_
          have k20 := HN200_6_7_20_13_14_15.out.cell
          have f20 := HN200_6_7_20_13_14_15.out.free
          have l20 := HN200_6_7_20_13_14_15.out.lt
          have HYY : Hid (c ≠ n20) := Lib.hid (fun e => by subst e; exact absurd (HCC0_6_7_20_13_14_15.out.type HN200_6_7_20_13_14_15.out).1 (by decide))
          have HRN : Hid (w.heap.size ≠ n20) := Lib.hid (by have h1 := HLn20.out; have h2 := HWS.out; omega)
          refine wpAnyH_ready (rs := [22]) (by kernel_rfl) (by simp) ?_
          refine AllReadyH.cons rfl (fun K hK => ?_) (AllReadyH.nil)
          rw [if_pos (by rfl)]
          go_simp
          refine hK.out _ _ (⟨(HCC0_6_7_20_13_14_15.out.aside HYY.out _).aside HYY.out _⟩) (fun hHeld => ?_)
          clear hK K
          refine wpAnyH_seq (is := [23]) (by kernel_rfl) (by kernel_rfl) (fun _ _ d _ _ h => by cases d <;> exact h) (by assumption) ?_
          iterate 1 (first | (refine TakeSeq.step (v := undef) rfl (Or.inr ⟨by rfl, rfl⟩) ?_; simp only [Act.put, List.setIfInBounds_toArray, List.set_cons_zero, List.set_cons_succ, List.getElem_toArray, List.getElem_cons_zero, List.getElem_cons_succ]) | (refine TakeSeq.step (v := ?_) rfl (Or.inl ⟨by rfl, ?_⟩) ?_; rotate_left 1; (focus (intro wq hSq; have hrd := hSq.rule; go_simp; with_reducible rfl)); simp only [Act.put, List.setIfInBounds_toArray, List.set_cons_zero, List.set_cons_succ, List.getElem_toArray, List.getElem_cons_zero, List.getElem_cons_succ]))
          refine TakeSeq.done ?_
          refine wpAnyH_done (by kernel_rfl) ?_ _
          have hne := HRN.out
          have hne2 : n20 ≠ w.heap.size := fun e => hne e.symm
          have B1 : Blk ((w0_6_7_20_13_14_15.setCell ⟨n20, 0, none⟩ (.int .i64 0)).setCell ⟨n20, 1, none⟩ (.int .i64 0)) n20 43 #[.int .i64 0, .int .i64 0] := Blk.all2 HN200_6_7_20_13_14_15.out _ _
          have B2 : Blk ((w0_6_7_20_13_14_15.setCell ⟨n20, 0, none⟩ (.int .i64 0)).setCell ⟨n20, 1, none⟩ (.int .i64 0)) w.heap.size 43 #[.int .i64 0, .int .i64 0] := (HBR0_6_7_20_13_14_15.out.aside hne _).aside hne _
          have ho1 : Over n20 w0_6_7_20_13_14_15 ((w0_6_7_20_13_14_15.setCell ⟨n20, 0, none⟩ (.int .i64 0)).setCell ⟨n20, 1, none⟩ (.int .i64 0)) := ((Over.refl _ _).put 0 _).put 1 _
          have HE := Lib.hid (And.intro (HTK0_6_7_20_13_14_15.out.over ho1 HN200_6_7_20_13_14_15.out (by decide) (by decide) (by decide) (by decide) (by decide)) (And.intro B2 ((HO0_6_7_20_13_14_15.out.own (p := ⟨n20, 0, none⟩) (by have h1 := HLn20.out; have h2 := HWS.out; show w.heap.size ≤ n20; omega) (.int .i64 0)).own (p := ⟨n20, 1, none⟩) (by have h1 := HLn20.out; have h2 := HWS.out; show w.heap.size ≤ n20; omega) (.int .i64 0))))
          have kx := B1.cell
          have ky := B2.cell
          have fy := B2.free
          have ly := B2.lt
          have lx := B1.lt
          generalize hz : (w0_6_7_20_13_14_15.setCell ⟨n20, 0, none⟩ (.int .i64 0)).setCell ⟨n20, 1, none⟩ (.int .i64 0) = wz at *
          clear hz B1 B2 ho1 k20 f20 l20 hne hne2
          go_wp2_with fail
          have hx := HE.out
          have ho2 : Over t w ((wz.setCell ⟨w.heap.size, 0, none⟩ (.int .i64 0)).setCell ⟨w.heap.size, 1, none⟩ (.int .i64 0)) := (hx.2.2.own (by simp) _).own (by simp) _
          have ho3 : Over w.heap.size wz ((wz.setCell ⟨w.heap.size, 0, none⟩ (.int .i64 0)).setCell ⟨w.heap.size, 1, none⟩ (.int .i64 0)) := ((Over.refl _ _).put 0 _).put 1 _
          refine bodyPost_ret (results_bt rfl _ _ w.heap.size _ _ _ rfl (Blk.all2 hx.2.1 _ _) Tryz.underlying43 rfl (by kernel_rfl)) rfl ⟨by rw [← HOK.out]; rfl, hx.1.over ho3 hx.2.1 (by decide) (by decide) (by decide) (by decide) (by decide), ho2⟩
      · skip
        rw [if_pos (by rfl)]
        go_simp
        go_at_call 77
        refine (HPG.out _ (below_step HBW.out HBL0_6.out)).mono ?_
        rintro e w0_6_13 ⟨⟨v2, rfl, hv2⟩, hb⟩
        have HBR0_6_13 := Lib.hid (Blk.kept HBR0_6.out hb)
        have HBL0_6_13 := Lib.hid (below_step HBL0_6.out hb)
        have HC60_6_13 := Lib.hid (WordsAt.below HC60_6.out hb)
        have HP130_6_13 : Hid (AskRow w0_6_13 W.heap.size v2 (pageVbs 0 (k + 1))) := Lib.hid (hv2.low HBL0_6.out.size)
        go_wp2_with fail
        refine hK.out _ _ ⟨HK.out _ (below_step HBW.out HBL0_6_13.out)⟩ (fun hHeld => ?_)
        clear hK K hv2 hb
        refine wpAnyH_ready (rs := [7, 20]) (by kernel_rfl) (by simp) ?_
        refine AllReadyH.cons rfl (fun K hK => ?_) (AllReadyH.cons rfl (fun K hK => ?_) (AllReadyH.nil))
        · skip
          rw [if_pos (by rfl)]
          go_simp
          go_wp2_with fail
          have hb : Below w0_6_13.heap.size w0_6_13 (w0_6_13.alloc (.cells (vbArr (clockVb 0) (.slice pv 1 cv)) 147)) := below_alloc (Below.refl _ _) _
          have HS := Lib.hid (KeepBlk.mk (HK.out _ (below_step (below_step HBW.out HBL0_6_13.out) hb)))
          refine hK.out _ _ ⟨HS.out.blk⟩ (fun hHeld => ?_)
          clear hK K HS
          have hmade : Blk (w0_6_13.alloc (.cells (vbArr (clockVb 0) (.slice pv 1 cv)) 147)) w0_6_13.heap.size 147 (vbArr (clockVb 0) (.slice pv 1 cv)) := Blk.made _ _ _
          simp only [vbArr, clockVb] at hmade hb
          generalize hgen : World.alloc w0_6_13 _ = w0_6_13_7 at *
          obtain ⟨b7, hb7⟩ : ∃ b, b = w0_6_13.heap.size := ⟨_, rfl⟩
          rw [← hb7] at hmade ⊢
          have HLb7 : Hid (W.heap.size ≤ b7) := Lib.hid (by rw [hb7]; exact HBL0_6_13.out.size)
          have HBR0_6_13_7 := Lib.hid (Blk.kept HBR0_6_13.out hb)
          have HBL0_6_13_7 := Lib.hid (below_step HBL0_6_13.out hb)
          have HC60_6_13_7 := Lib.hid (WordsAt.below HC60_6_13.out hb)
          have HP130_6_13_7 := Lib.hid (AskRow.below HP130_6_13.out hb)
          have HB70_6_13_7 := Lib.hid hmade
          clear hmade hb hgen hb7
          refine wpAnyH_ready (rs := [14, 20]) (by kernel_rfl) (by simp) ?_
          refine AllReadyH.cons rfl (fun K hK => ?_) (AllReadyH.cons rfl (fun K hK => ?_) (AllReadyH.nil))
          · skip
            rw [if_pos (by rfl)]
            obtain ⟨al2, hal2, hown2, hws2⟩ := HP130_6_13_7.out
            have h2 : al2.length = k + 1 := by have := congrArg List.length hal2; simpa [pageVbs] using this
            rw [h2] at hown2
            obtain ⟨g2, cap2, hvv⟩ := own_form hown2 (by omega)
            subst hvv
            have hla := askCells_len al2
            rw [h2] at hla
            have hown1 : w0_6_13_7.ownsRow W.heap.size 147 9 (.slice (some ⟨b7, 0, none⟩) 1 1) 1 (askCells [(clockVb 0, .slice pv 1 cv)]) := ⟨rfl, .inr ⟨b7, 1, _, rfl, HLb7.out, HB70_6_13_7.out, Nat.le_refl _, by unfold maxLen; omega, rfl, rfl⟩⟩
            refine wp_append_src (.tmp 23) (.tmp 29) 40 rfl W.heap.size 147 i0 _ 9 88 Tryz.underlying40 hi hz0 hz1 hz2 rfl (by decide) (.slice (some ⟨b7, 0, none⟩) 1 1) 1 (askCells [(clockVb 0, .slice pv 1 cv)]) rfl hown1 (.slice (some ⟨g2, 0, none⟩) (k + 1) cap2) (k + 1) (askCells al2) rfl (SrcAt.of_own hown2 (askCells_one al2 w0_6_13_7 _ hws2)) hla (by unfold maxLen; omega) (by omega) HBL0_6_13_7.out.size ?_
            intro v14 w0_6_13_7_14 hown14 hg14
            have hA := AskRow.push (al := [(clockVb 0, .slice pv 1 cv)]) hown1 (fun t ht => by simp at ht; subst ht; exact HC60_6_13_7.out) al2 hws2 (by rw [h2]; rfl) rfl hown14 hg14
            have HA0_6_13_7_14 : Hid (AskRow w0_6_13_7_14 W.heap.size v14 (finAsk (k + 1))) := Lib.hid (by rw [hal2] at hA; exact hA)
            have HBL0_6_13_7_14 : Hid (Below W.heap.size W w0_6_13_7_14) := Lib.hid (below_grown (w := W) (w1 := w0_6_13_7) HBL0_6_13_7.out hg14 (fun q hq => own_row_ge hown1 q hq))
            have HBR0_6_13_7_14 := Lib.hid (Blk.beside HBR0_6_13_7.out hown1 hg14 (by decide))
            clear hA hown14 hg14 hown1 hown2 hws2 hal2 hla
            refine hK.out _ _ ⟨HK.out _ (below_step HBW.out HBL0_6_13_7_14.out)⟩ (fun hHeld => ?_)
            clear hK K
            simp only [Act.put, List.setIfInBounds_toArray, List.set_cons_zero, List.set_cons_succ, List.getElem_toArray, List.getElem_cons_zero, List.getElem_cons_succ]
            refine wpAnyH_ready (rs := [15, 20]) (by kernel_rfl) (by simp) ?_
            refine AllReadyH.cons rfl (fun K hK => ?_) (AllReadyH.cons rfl (fun K hK => ?_) (AllReadyH.nil))
            · skip
              rw [if_pos (by rfl)]
              obtain ⟨p14, c14, hv14⟩ := HA0_6_13_7_14.out.asks.shape
              subst hv14
              go_simp
              go_at_call 72
              refine (step_ok c t lo _ _ _ _ 3 (finAsk (k + 1)) gs (by have h1 := finAsk_len (k + 1); omega) (finAsk_good _) _ (HC.out.blk.kept (below_step HBW.out HBL0_6_13_7_14.out)) (HT.out.1.below (below_step HBW.out HBL0_6_13_7_14.out)) hlo (HA0_6_13_7_14.out.asks.low (Nat.le_trans hlw HBW.out.size)) HT.out.2).mono ?_
              rintro e w0_6_13_7_14_15 ⟨⟨u, rfl, _, pu, nu, cu, rfl⟩, htk, ho⟩
              have HBR0_6_13_7_14_15 := Lib.hid (HBR0_6_13_7_14.out.grown ho (fun e => by injection e with e; have := HT.out.1.lt; omega))
              have HTK0_6_13_7_14_15 := Lib.hid htk
              have HO0_6_13_7_14_15 : Hid (Over t w w0_6_13_7_14_15) := Lib.hid ((Over.of_below (below_step HBW.out HBL0_6_13_7_14.out)).trans ho)
              have HCC0_6_13_7_14_15 := Lib.hid ((HC.out.below (below_step HBW.out HBL0_6_13_7_14.out)).over ho (HT.out.1.below (below_step HBW.out HBL0_6_13_7_14.out))).blk
              clear htk ho
              obtain ⟨ok, hok⟩ : ∃ ok, ok = goOn (finAsk (k + 1)) gs := ⟨_, rfl⟩
              rw [← hok]
              have HOK := Lib.hid hok
              clear hok
              go_wp2_with fail
              refine hK.out _ _ ⟨HCC0_6_13_7_14_15.out⟩ (fun hHeld => ?_)
              clear hK K
              refine wpAnyH_seq (is := [16, 17, 18, 19]) (by kernel_rfl) (by kernel_rfl) (fun _ _ d _ _ h => by cases d <;> exact h) (by assumption) ?_
              iterate 4 (first | (refine TakeSeq.step (v := undef) rfl (Or.inr ⟨by rfl, rfl⟩) ?_; simp only [Act.put, List.setIfInBounds_toArray, List.set_cons_zero, List.set_cons_succ, List.getElem_toArray, List.getElem_cons_zero, List.getElem_cons_succ]) | (refine TakeSeq.step (v := ?_) rfl (Or.inl ⟨by rfl, ?_⟩) ?_; rotate_left 1; (focus (intro wq hSq; have hrd := hSq.rule; go_simp; with_reducible rfl)); simp only [Act.put, List.setIfInBounds_toArray, List.set_cons_zero, List.set_cons_succ, List.getElem_toArray, List.getElem_cons_zero, List.getElem_cons_succ]))
              refine TakeSeq.done ?_
              refine wpAnyH_ready (rs := [20]) (by kernel_rfl) (by simp) ?_
              refine AllReadyH.cons rfl (fun K hK => ?_) (AllReadyH.nil)
              rw [if_pos (by rfl)]
              go_simp
              go_wp2_with fail
              have hb : Below w0_6_13_7_14_15.heap.size w0_6_13_7_14_15 (w0_6_13_7_14_15.alloc (.cells #[.int .i64 0, .int .i64 0] 43)) := below_alloc (Below.refl _ _) _
              refine hK.out _ _ ⟨Blk.kept HCC0_6_13_7_14_15.out hb⟩ (fun hHeld => ?_)
              clear hK K
              have hmade : Blk (w0_6_13_7_14_15.alloc (.cells #[.int .i64 0, .int .i64 0] 43)) w0_6_13_7_14_15.heap.size 43 #[.int .i64 0, .int .i64 0] := Blk.made _ _ _
              generalize hgen : World.alloc w0_6_13_7_14_15 _ = w0_6_13_7_14_15_20 at *
              obtain ⟨n20, hn20⟩ : ∃ b, b = w0_6_13_7_14_15.heap.size := ⟨_, rfl⟩
              rw [← hn20] at hmade ⊢
              have HLn20 : Hid (W.heap.size ≤ n20) := Lib.hid (by rw [hn20]; have h1 := HBR0_6_13_7_14_15.out.lt; have h2 := HWS.out; omega)
              have HBR0_6_13_7_14_15_20 := Lib.hid (Blk.kept HBR0_6_13_7_14_15.out hb)
              have HTK0_6_13_7_14_15_20 := Lib.hid (HTK0_6_13_7_14_15.out.below hb)
              have HO0_6_13_7_14_15_20 := Lib.hid (HO0_6_13_7_14_15.out.then_below hb)
              have HCC0_6_13_7_14_15_20 := Lib.hid (Blk.kept HCC0_6_13_7_14_15.out hb)
              have HN200_6_13_7_14_15_20 := Lib.hid hmade
              clear hmade hb hgen hn20
              refine wpAnyH_seq (is := [21]) (by kernel_rfl) (by kernel_rfl) (fun _ _ d _ _ h => by cases d <;> exact h) (by assumption) ?_
              iterate 1 (first | (refine TakeSeq.step (v := undef) rfl (Or.inr ⟨by rfl, rfl⟩) ?_; simp only [Act.put, List.setIfInBounds_toArray, List.set_cons_zero, List.set_cons_succ, List.getElem_toArray, List.getElem_cons_zero, List.getElem_cons_succ]) | (refine TakeSeq.step (v := ?_) rfl (Or.inl ⟨by rfl, ?_⟩) ?_; rotate_left 1; (focus (intro wq hSq; have hrd := hSq.rule; go_simp; with_reducible rfl)); simp only [Act.put, List.setIfInBounds_toArray, List.set_cons_zero, List.set_cons_succ, List.getElem_toArray, List.getElem_cons_zero, List.getElem_cons_succ]))
              refine TakeSeq.done ?_
              have k20 := HN200_6_13_7_14_15_20.out.cell
              have f20 := HN200_6_13_7_14_15_20.out.free
              have l20 := HN200_6_13_7_14_15_20.out.lt
              have HYY : Hid (c ≠ n20) := Lib.hid (fun e => by subst e; exact absurd (HCC0_6_13_7_14_15_20.out.type HN200_6_13_7_14_15_20.out).1 (by decide))
              have HRN : Hid (w.heap.size ≠ n20) := Lib.hid (by have h1 := HLn20.out; have h2 := HWS.out; omega)
              refine wpAnyH_ready (rs := [22]) (by kernel_rfl) (by simp) ?_
              refine AllReadyH.cons rfl (fun K hK => ?_) (AllReadyH.nil)
              rw [if_pos (by rfl)]
              go_simp
              refine hK.out _ _ (⟨(HCC0_6_13_7_14_15_20.out.aside HYY.out _).aside HYY.out _⟩) (fun hHeld => ?_)
              clear hK K
              refine wpAnyH_seq (is := [23]) (by kernel_rfl) (by kernel_rfl) (fun _ _ d _ _ h => by cases d <;> exact h) (by assumption) ?_
              iterate 1 (first | (refine TakeSeq.step (v := undef) rfl (Or.inr ⟨by rfl, rfl⟩) ?_; simp only [Act.put, List.setIfInBounds_toArray, List.set_cons_zero, List.set_cons_succ, List.getElem_toArray, List.getElem_cons_zero, List.getElem_cons_succ]) | (refine TakeSeq.step (v := ?_) rfl (Or.inl ⟨by rfl, ?_⟩) ?_; rotate_left 1; (focus (intro wq hSq; have hrd := hSq.rule; go_simp; with_reducible rfl)); simp only [Act.put, List.setIfInBounds_toArray, List.set_cons_zero, List.set_cons_succ, List.getElem_toArray, List.getElem_cons_zero, List.getElem_cons_succ]))
              refine TakeSeq.done ?_
              refine wpAnyH_done (by kernel_rfl) ?_ _
              have hne := HRN.out
              have hne2 : n20 ≠ w.heap.size := fun e => hne e.symm
              have B1 : Blk ((w0_6_13_7_14_15_20.setCell ⟨n20, 0, none⟩ (.int .i64 0)).setCell ⟨n20, 1, none⟩ (.int .i64 0)) n20 43 #[.int .i64 0, .int .i64 0] := Blk.all2 HN200_6_13_7_14_15_20.out _ _
              have B2 : Blk ((w0_6_13_7_14_15_20.setCell ⟨n20, 0, none⟩ (.int .i64 0)).setCell ⟨n20, 1, none⟩ (.int .i64 0)) w.heap.size 43 #[.int .i64 0, .int .i64 0] := (HBR0_6_13_7_14_15_20.out.aside hne _).aside hne _
              have ho1 : Over n20 w0_6_13_7_14_15_20 ((w0_6_13_7_14_15_20.setCell ⟨n20, 0, none⟩ (.int .i64 0)).setCell ⟨n20, 1, none⟩ (.int .i64 0)) := ((Over.refl _ _).put 0 _).put 1 _
              have HE := Lib.hid (And.intro (HTK0_6_13_7_14_15_20.out.over ho1 HN200_6_13_7_14_15_20.out (by decide) (by decide) (by decide) (by decide) (by decide)) (And.intro B2 ((HO0_6_13_7_14_15_20.out.own (p := ⟨n20, 0, none⟩) (by have h1 := HLn20.out; have h2 := HWS.out; show w.heap.size ≤ n20; omega) (.int .i64 0)).own (p := ⟨n20, 1, none⟩) (by have h1 := HLn20.out; have h2 := HWS.out; show w.heap.size ≤ n20; omega) (.int .i64 0))))
              have kx := B1.cell
              have ky := B2.cell
              have fy := B2.free
              have ly := B2.lt
              have lx := B1.lt
              generalize hz : (w0_6_13_7_14_15_20.setCell ⟨n20, 0, none⟩ (.int .i64 0)).setCell ⟨n20, 1, none⟩ (.int .i64 0) = wz at *
              clear hz B1 B2 ho1 k20 f20 l20 hne hne2
              go_wp2_with fail
              have hx := HE.out
              have ho2 : Over t w ((wz.setCell ⟨w.heap.size, 0, none⟩ (.int .i64 0)).setCell ⟨w.heap.size, 1, none⟩ (.int .i64 0)) := (hx.2.2.own (by simp) _).own (by simp) _
              have ho3 : Over w.heap.size wz ((wz.setCell ⟨w.heap.size, 0, none⟩ (.int .i64 0)).setCell ⟨w.heap.size, 1, none⟩ (.int .i64 0)) := ((Over.refl _ _).put 0 _).put 1 _
              refine bodyPost_ret (results_bt rfl _ _ w.heap.size _ _ _ rfl (Blk.all2 hx.2.1 _ _) Tryz.underlying43 rfl (by kernel_rfl)) rfl ⟨by rw [← HOK.out]; rfl, hx.1.over ho3 hx.2.1 (by decide) (by decide) (by decide) (by decide) (by decide), ho2⟩
            · skip
              rw [if_pos (by rfl)]
              go_simp
              go_wp2_with fail
              have hb : Below w0_6_13_7_14.heap.size w0_6_13_7_14 (w0_6_13_7_14.alloc (.cells #[.int .i64 0, .int .i64 0] 43)) := below_alloc (Below.refl _ _) _
              have HS := Lib.hid (KeepBlk.mk (HK.out _ (below_step (below_step HBW.out HBL0_6_13_7_14.out) hb)))
              refine hK.out _ _ ⟨HS.out.blk⟩ (fun hHeld => ?_)
              clear hK K HS
              have hmade : Blk (w0_6_13_7_14.alloc (.cells #[.int .i64 0, .int .i64 0] 43)) w0_6_13_7_14.heap.size 43 #[.int .i64 0, .int .i64 0] := Blk.made _ _ _
              generalize hgen : World.alloc w0_6_13_7_14 _ = w0_6_13_7_14_20 at *
              obtain ⟨n20, hn20⟩ : ∃ b, b = w0_6_13_7_14.heap.size := ⟨_, rfl⟩
              rw [← hn20] at hmade ⊢
              have HLn20 : Hid (W.heap.size ≤ n20) := Lib.hid (by rw [hn20]; exact HBL0_6_13_7_14.out.size)
              have HBR0_6_13_7_14_20 := Lib.hid (Blk.kept HBR0_6_13_7_14.out hb)
              have HBL0_6_13_7_14_20 := Lib.hid (below_step HBL0_6_13_7_14.out hb)
              have HA0_6_13_7_14_20 := Lib.hid (AskRow.below HA0_6_13_7_14.out hb)
              have HN200_6_13_7_14_20 := Lib.hid hmade
              clear hmade hb hgen hn20
              refine wpAnyH_ready (rs := [15]) (by kernel_rfl) (by simp) ?_
              refine AllReadyH.cons rfl (fun K hK => ?_) (AllReadyH.nil)
              rw [if_pos (by rfl)]
              obtain ⟨p14, c14, hv14⟩ := HA0_6_13_7_14_20.out.asks.shape
              subst hv14
              go_simp
              go_at_call 72
              refine (step_ok c t lo _ _ _ _ 3 (finAsk (k + 1)) gs (by have h1 := finAsk_len (k + 1); omega) (finAsk_good _) _ (HC.out.blk.kept (below_step HBW.out HBL0_6_13_7_14_20.out)) (HT.out.1.below (below_step HBW.out HBL0_6_13_7_14_20.out)) hlo (HA0_6_13_7_14_20.out.asks.low (Nat.le_trans hlw HBW.out.size)) HT.out.2).mono ?_
              rintro e w0_6_13_7_14_20_15 ⟨⟨u, rfl, _, pu, nu, cu, rfl⟩, htk, ho⟩
              have HBR0_6_13_7_14_20_15 := Lib.hid (HBR0_6_13_7_14_20.out.grown ho (fun e => by injection e with e; have := HT.out.1.lt; omega))
              have HTK0_6_13_7_14_20_15 := Lib.hid htk
              have HO0_6_13_7_14_20_15 : Hid (Over t w w0_6_13_7_14_20_15) := Lib.hid ((Over.of_below (below_step HBW.out HBL0_6_13_7_14_20.out)).trans ho)
              have HCC0_6_13_7_14_20_15 := Lib.hid ((HC.out.below (below_step HBW.out HBL0_6_13_7_14_20.out)).over ho (HT.out.1.below (below_step HBW.out HBL0_6_13_7_14_20.out))).blk
              have HN200_6_13_7_14_20_15 := Lib.hid (HN200_6_13_7_14_20.out.grown ho (fun e => by injection e with e; have h1 := HT.out.1.lt; have h2 := HLn20.out; have h3 := HBW.out.size; omega))
              clear htk ho
              obtain ⟨ok, hok⟩ : ∃ ok, ok = goOn (finAsk (k + 1)) gs := ⟨_, rfl⟩
              rw [← hok]
              have HOK := Lib.hid hok
              clear hok
              go_wp2_with fail
              refine hK.out _ _ ⟨HCC0_6_13_7_14_20_15.out⟩ (fun hHeld => ?_)
              clear hK K
              refine wpAnyH_seq (is := [16, 17, 18, 19, 21]) (by kernel_rfl) (by kernel_rfl) (fun _ _ d _ _ h => by cases d <;> exact h) (by assumption) ?_
              iterate 5 (first | (refine TakeSeq.step (v := undef) rfl (Or.inr ⟨by rfl, rfl⟩) ?_; simp only [Act.put, List.setIfInBounds_toArray, List.set_cons_zero, List.set_cons_succ, List.getElem_toArray, List.getElem_cons_zero, List.getElem_cons_succ]) | (refine TakeSeq.step (v := ?_) rfl (Or.inl ⟨by rfl, ?_⟩) ?_; rotate_left 1; (focus (intro wq hSq; have hrd := hSq.rule; go_simp; with_reducible rfl)); simp only [Act.put, List.setIfInBounds_toArray, List.set_cons_zero, List.set_cons_succ, List.getElem_toArray, List.getElem_cons_zero, List.getElem_cons_succ]))
              refine TakeSeq.done ?_
              have k20 := HN200_6_13_7_14_20_15.out.cell
              have f20 := HN200_6_13_7_14_20_15.out.free
              have l20 := HN200_6_13_7_14_20_15.out.lt
              have HYY : Hid (c ≠ n20) := Lib.hid (fun e => by subst e; exact absurd (HCC0_6_13_7_14_20_15.out.type HN200_6_13_7_14_20_15.out).1 (by decide))
              have HRN : Hid (w.heap.size ≠ n20) := Lib.hid (by have h1 := HLn20.out; have h2 := HWS.out; omega)
              refine wpAnyH_ready (rs := [22]) (by kernel_rfl) (by simp) ?_
              refine AllReadyH.cons rfl (fun K hK => ?_) (AllReadyH.nil)
              rw [if_pos (by rfl)]
              go_simp
              refine hK.out _ _ (⟨(HCC0_6_13_7_14_20_15.out.aside HYY.out _).aside HYY.out _⟩) (fun hHeld => ?_)
              clear hK K
              refine wpAnyH_seq (is := [23]) (by kernel_rfl) (by kernel_rfl) (fun _ _ d _ _ h => by cases d <;> exact h) (by assumption) ?_
              iterate 1 (first | (refine TakeSeq.step (v := undef) rfl (Or.inr ⟨by rfl, rfl⟩) ?_; simp only [Act.put, List.setIfInBounds_toArray, List.set_cons_zero, List.set_cons_succ, List.getElem_toArray, List.getElem_cons_zero, List.getElem_cons_succ]) | (refine TakeSeq.step (v := ?_) rfl (Or.inl ⟨by rfl, ?_⟩) ?_; rotate_left 1; (focus (intro wq hSq; have hrd := hSq.rule; go_simp; with_reducible rfl)); simp only [Act.put, List.setIfInBounds_toArray, List.set_cons_zero, List.set_cons_succ, List.getElem_toArray, List.getElem_cons_zero, List.getElem_cons_succ]))
              refine TakeSeq.done ?_
              refine wpAnyH_done (by kernel_rfl) ?_ _
              have hne := HRN.out
              have hne2 : n20 ≠ w.heap.size := fun e => hne e.symm
              have B1 : Blk ((w0_6_13_7_14_20_15.setCell ⟨n20, 0, none⟩ (.int .i64 0)).setCell ⟨n20, 1, none⟩ (.int .i64 0)) n20 43 #[.int .i64 0, .int .i64 0] := Blk.all2 HN200_6_13_7_14_20_15.out _ _
              have B2 : Blk ((w0_6_13_7_14_20_15.setCell ⟨n20, 0, none⟩ (.int .i64 0)).setCell ⟨n20, 1, none⟩ (.int .i64 0)) w.heap.size 43 #[.int .i64 0, .int .i64 0] := (HBR0_6_13_7_14_20_15.out.aside hne _).aside hne _
              have ho1 : Over n20 w0_6_13_7_14_20_15 ((w0_6_13_7_14_20_15.setCell ⟨n20, 0, none⟩ (.int .i64 0)).setCell ⟨n20, 1, none⟩ (.int .i64 0)) := ((Over.refl _ _).put 0 _).put 1 _
              have HE := Lib.hid (And.intro (HTK0_6_13_7_14_20_15.out.over ho1 HN200_6_13_7_14_20_15.out (by decide) (by decide) (by decide) (by decide) (by decide)) (And.intro B2 ((HO0_6_13_7_14_20_15.out.own (p := ⟨n20, 0, none⟩) (by have h1 := HLn20.out; have h2 := HWS.out; show w.heap.size ≤ n20; omega) (.int .i64 0)).own (p := ⟨n20, 1, none⟩) (by have h1 := HLn20.out; have h2 := HWS.out; show w.heap.size ≤ n20; omega) (.int .i64 0))))
              have kx := B1.cell
              have ky := B2.cell
              have fy := B2.free
              have ly := B2.lt
              have lx := B1.lt
              generalize hz : (w0_6_13_7_14_20_15.setCell ⟨n20, 0, none⟩ (.int .i64 0)).setCell ⟨n20, 1, none⟩ (.int .i64 0) = wz at *
              clear hz B1 B2 ho1 k20 f20 l20 hne hne2
              go_wp2_with fail
              have hx := HE.out
              have ho2 : Over t w ((wz.setCell ⟨w.heap.size, 0, none⟩ (.int .i64 0)).setCell ⟨w.heap.size, 1, none⟩ (.int .i64 0)) := (hx.2.2.own (by simp) _).own (by simp) _
              have ho3 : Over w.heap.size wz ((wz.setCell ⟨w.heap.size, 0, none⟩ (.int .i64 0)).setCell ⟨w.heap.size, 1, none⟩ (.int .i64 0)) := ((Over.refl _ _).put 0 _).put 1 _
              refine bodyPost_ret (results_bt rfl _ _ w.heap.size _ _ _ rfl (Blk.all2 hx.2.1 _ _) Tryz.underlying43 rfl (by kernel_rfl)) rfl ⟨by rw [← HOK.out]; rfl, hx.1.over ho3 hx.2.1 (by decide) (by decide) (by decide) (by decide) (by decide), ho2⟩
          · skip
            rw [if_pos (by rfl)]
            go_simp
            go_wp2_with fail
            have hb : Below w0_6_13_7.heap.size w0_6_13_7 (w0_6_13_7.alloc (.cells #[.int .i64 0, .int .i64 0] 43)) := below_alloc (Below.refl _ _) _
            have HS := Lib.hid (KeepBlk.mk (HK.out _ (below_step (below_step HBW.out HBL0_6_13_7.out) hb)))
            refine hK.out _ _ ⟨HS.out.blk⟩ (fun hHeld => ?_)
            clear hK K HS
            have hmade : Blk (w0_6_13_7.alloc (.cells #[.int .i64 0, .int .i64 0] 43)) w0_6_13_7.heap.size 43 #[.int .i64 0, .int .i64 0] := Blk.made _ _ _
            generalize hgen : World.alloc w0_6_13_7 _ = w0_6_13_7_20 at *
            obtain ⟨n20, hn20⟩ : ∃ b, b = w0_6_13_7.heap.size := ⟨_, rfl⟩
            rw [← hn20] at hmade ⊢
            have HLn20 : Hid (W.heap.size ≤ n20) := Lib.hid (by rw [hn20]; exact HBL0_6_13_7.out.size)
            have HBR0_6_13_7_20 := Lib.hid (Blk.kept HBR0_6_13_7.out hb)
            have HBL0_6_13_7_20 := Lib.hid (below_step HBL0_6_13_7.out hb)
            have HC60_6_13_7_20 := Lib.hid (WordsAt.below HC60_6_13_7.out hb)
            have HP130_6_13_7_20 := Lib.hid (AskRow.below HP130_6_13_7.out hb)
            have HB70_6_13_7_20 := Lib.hid (Blk.kept HB70_6_13_7.out hb)
            have HN200_6_13_7_20 := Lib.hid hmade
            clear hmade hb hgen hn20
            refine wpAnyH_ready (rs := [14]) (by kernel_rfl) (by simp) ?_
            refine AllReadyH.cons rfl (fun K hK => ?_) (AllReadyH.nil)
            rw [if_pos (by rfl)]
            obtain ⟨al2, hal2, hown2, hws2⟩ := HP130_6_13_7_20.out
            have h2 : al2.length = k + 1 := by have := congrArg List.length hal2; simpa [pageVbs] using this
            rw [h2] at hown2
            obtain ⟨g2, cap2, hvv⟩ := own_form hown2 (by omega)
            subst hvv
            have hla := askCells_len al2
            rw [h2] at hla
            have hown1 : w0_6_13_7_20.ownsRow W.heap.size 147 9 (.slice (some ⟨b7, 0, none⟩) 1 1) 1 (askCells [(clockVb 0, .slice pv 1 cv)]) := ⟨rfl, .inr ⟨b7, 1, _, rfl, HLb7.out, HB70_6_13_7_20.out, Nat.le_refl _, by unfold maxLen; omega, rfl, rfl⟩⟩
            refine wp_append_src (.tmp 23) (.tmp 29) 40 rfl W.heap.size 147 i0 _ 9 88 Tryz.underlying40 hi hz0 hz1 hz2 rfl (by decide) (.slice (some ⟨b7, 0, none⟩) 1 1) 1 (askCells [(clockVb 0, .slice pv 1 cv)]) rfl hown1 (.slice (some ⟨g2, 0, none⟩) (k + 1) cap2) (k + 1) (askCells al2) rfl (SrcAt.of_own hown2 (askCells_one al2 w0_6_13_7_20 _ hws2)) hla (by unfold maxLen; omega) (by omega) HBL0_6_13_7_20.out.size ?_
            intro v14 w0_6_13_7_20_14 hown14 hg14
            have hA := AskRow.push (al := [(clockVb 0, .slice pv 1 cv)]) hown1 (fun t ht => by simp at ht; subst ht; exact HC60_6_13_7_20.out) al2 hws2 (by rw [h2]; rfl) rfl hown14 hg14
            have HA0_6_13_7_20_14 : Hid (AskRow w0_6_13_7_20_14 W.heap.size v14 (finAsk (k + 1))) := Lib.hid (by rw [hal2] at hA; exact hA)
            have HBL0_6_13_7_20_14 : Hid (Below W.heap.size W w0_6_13_7_20_14) := Lib.hid (below_grown (w := W) (w1 := w0_6_13_7_20) HBL0_6_13_7_20.out hg14 (fun q hq => own_row_ge hown1 q hq))
            have HBR0_6_13_7_20_14 := Lib.hid (Blk.beside HBR0_6_13_7_20.out hown1 hg14 (by decide))
            have HN200_6_13_7_20_14 := Lib.hid (Blk.beside HN200_6_13_7_20.out hown1 hg14 (by decide))
            clear hA hown14 hg14 hown1 hown2 hws2 hal2 hla
            refine hK.out _ _ ⟨HK.out _ (below_step HBW.out HBL0_6_13_7_20_14.out)⟩ (fun hHeld => ?_)
            clear hK K
            simp only [Act.put, List.setIfInBounds_toArray, List.set_cons_zero, List.set_cons_succ, List.getElem_toArray, List.getElem_cons_zero, List.getElem_cons_succ]
            refine wpAnyH_ready (rs := [15]) (by kernel_rfl) (by simp) ?_
            refine AllReadyH.cons rfl (fun K hK => ?_) (AllReadyH.nil)
            rw [if_pos (by rfl)]
            obtain ⟨p14, c14, hv14⟩ := HA0_6_13_7_20_14.out.asks.shape
            subst hv14
            go_simp
            go_at_call 72
            refine (step_ok c t lo _ _ _ _ 3 (finAsk (k + 1)) gs (by have h1 := finAsk_len (k + 1); omega) (finAsk_good _) _ (HC.out.blk.kept (below_step HBW.out HBL0_6_13_7_20_14.out)) (HT.out.1.below (below_step HBW.out HBL0_6_13_7_20_14.out)) hlo (HA0_6_13_7_20_14.out.asks.low (Nat.le_trans hlw HBW.out.size)) HT.out.2).mono ?_
            rintro e w0_6_13_7_20_14_15 ⟨⟨u, rfl, _, pu, nu, cu, rfl⟩, htk, ho⟩
            have HBR0_6_13_7_20_14_15 := Lib.hid (HBR0_6_13_7_20_14.out.grown ho (fun e => by injection e with e; have := HT.out.1.lt; omega))
            have HTK0_6_13_7_20_14_15 := Lib.hid htk
            have HO0_6_13_7_20_14_15 : Hid (Over t w w0_6_13_7_20_14_15) := Lib.hid ((Over.of_below (below_step HBW.out HBL0_6_13_7_20_14.out)).trans ho)
            have HCC0_6_13_7_20_14_15 := Lib.hid ((HC.out.below (below_step HBW.out HBL0_6_13_7_20_14.out)).over ho (HT.out.1.below (below_step HBW.out HBL0_6_13_7_20_14.out))).blk
            have HN200_6_13_7_20_14_15 := Lib.hid (HN200_6_13_7_20_14.out.grown ho (fun e => by injection e with e; have h1 := HT.out.1.lt; have h2 := HLn20.out; have h3 := HBW.out.size; omega))
            clear htk ho
            obtain ⟨ok, hok⟩ : ∃ ok, ok = goOn (finAsk (k + 1)) gs := ⟨_, rfl⟩
            rw [← hok]
            have HOK := Lib.hid hok
            clear hok
            go_wp2_with fail
            refine hK.out _ _ ⟨HCC0_6_13_7_20_14_15.out⟩ (fun hHeld => ?_)
            clear hK K
            refine wpAnyH_seq (is := [16, 17, 18, 19, 21]) (by kernel_rfl) (by kernel_rfl) (fun _ _ d _ _ h => by cases d <;> exact h) (by assumption) ?_
            iterate 5 (first | (refine TakeSeq.step (v := undef) rfl (Or.inr ⟨by rfl, rfl⟩) ?_; simp only [Act.put, List.setIfInBounds_toArray, List.set_cons_zero, List.set_cons_succ, List.getElem_toArray, List.getElem_cons_zero, List.getElem_cons_succ]) | (refine TakeSeq.step (v := ?_) rfl (Or.inl ⟨by rfl, ?_⟩) ?_; rotate_left 1; (focus (intro wq hSq; have hrd := hSq.rule; go_simp; with_reducible rfl)); simp only [Act.put, List.setIfInBounds_toArray, List.set_cons_zero, List.set_cons_succ, List.getElem_toArray, List.getElem_cons_zero, List.getElem_cons_succ]))
            refine TakeSeq.done ?_
            have k20 := HN200_6_13_7_20_14_15.out.cell
            have f20 := HN200_6_13_7_20_14_15.out.free
            have l20 := HN200_6_13_7_20_14_15.out.lt
            have HYY : Hid (c ≠ n20) := Lib.hid (fun e => by subst e; exact absurd (HCC0_6_13_7_20_14_15.out.type HN200_6_13_7_20_14_15.out).1 (by decide))
            have HRN : Hid (w.heap.size ≠ n20) := Lib.hid (by have h1 := HLn20.out; have h2 := HWS.out; omega)
            refine wpAnyH_ready (rs := [22]) (by kernel_rfl) (by simp) ?_
            refine AllReadyH.cons rfl (fun K hK => ?_) (AllReadyH.nil)
            rw [if_pos (by rfl)]
            go_simp
            refine hK.out _ _ (⟨(HCC0_6_13_7_20_14_15.out.aside HYY.out _).aside HYY.out _⟩) (fun hHeld => ?_)
            clear hK K
            refine wpAnyH_seq (is := [23]) (by kernel_rfl) (by kernel_rfl) (fun _ _ d _ _ h => by cases d <;> exact h) (by assumption) ?_
            iterate 1 (first | (refine TakeSeq.step (v := undef) rfl (Or.inr ⟨by rfl, rfl⟩) ?_; simp only [Act.put, List.setIfInBounds_toArray, List.set_cons_zero, List.set_cons_succ, List.getElem_toArray, List.getElem_cons_zero, List.getElem_cons_succ]) | (refine TakeSeq.step (v := ?_) rfl (Or.inl ⟨by rfl, ?_⟩) ?_; rotate_left 1; (focus (intro wq hSq; have hrd := hSq.rule; go_simp; with_reducible rfl)); simp only [Act.put, List.setIfInBounds_toArray, List.set_cons_zero, List.set_cons_succ, List.getElem_toArray, List.getElem_cons_zero, List.getElem_cons_succ]))
            refine TakeSeq.done ?_
            refine wpAnyH_done (by kernel_rfl) ?_ _
            have hne := HRN.out
            have hne2 : n20 ≠ w.heap.size := fun e => hne e.symm
            have B1 : Blk ((w0_6_13_7_20_14_15.setCell ⟨n20, 0, none⟩ (.int .i64 0)).setCell ⟨n20, 1, none⟩ (.int .i64 0)) n20 43 #[.int .i64 0, .int .i64 0] := Blk.all2 HN200_6_13_7_20_14_15.out _ _
            have B2 : Blk ((w0_6_13_7_20_14_15.setCell ⟨n20, 0, none⟩ (.int .i64 0)).setCell ⟨n20, 1, none⟩ (.int .i64 0)) w.heap.size 43 #[.int .i64 0, .int .i64 0] := (HBR0_6_13_7_20_14_15.out.aside hne _).aside hne _
            have ho1 : Over n20 w0_6_13_7_20_14_15 ((w0_6_13_7_20_14_15.setCell ⟨n20, 0, none⟩ (.int .i64 0)).setCell ⟨n20, 1, none⟩ (.int .i64 0)) := ((Over.refl _ _).put 0 _).put 1 _
            have HE := Lib.hid (And.intro (HTK0_6_13_7_20_14_15.out.over ho1 HN200_6_13_7_20_14_15.out (by decide) (by decide) (by decide) (by decide) (by decide)) (And.intro B2 ((HO0_6_13_7_20_14_15.out.own (p := ⟨n20, 0, none⟩) (by have h1 := HLn20.out; have h2 := HWS.out; show w.heap.size ≤ n20; omega) (.int .i64 0)).own (p := ⟨n20, 1, none⟩) (by have h1 := HLn20.out; have h2 := HWS.out; show w.heap.size ≤ n20; omega) (.int .i64 0))))
            have kx := B1.cell
            have ky := B2.cell
            have fy := B2.free
            have ly := B2.lt
            have lx := B1.lt
            generalize hz : (w0_6_13_7_20_14_15.setCell ⟨n20, 0, none⟩ (.int .i64 0)).setCell ⟨n20, 1, none⟩ (.int .i64 0) = wz at *
            clear hz B1 B2 ho1 k20 f20 l20 hne hne2
            go_wp2_with fail
            have hx := HE.out
            have ho2 : Over t w ((wz.setCell ⟨w.heap.size, 0, none⟩ (.int .i64 0)).setCell ⟨w.heap.size, 1, none⟩ (.int .i64 0)) := (hx.2.2.own (by simp) _).own (by simp) _
            have ho3 : Over w.heap.size wz ((wz.setCell ⟨w.heap.size, 0, none⟩ (.int .i64 0)).setCell ⟨w.heap.size, 1, none⟩ (.int .i64 0)) := ((Over.refl _ _).put 0 _).put 1 _
            refine bodyPost_ret (results_bt rfl _ _ w.heap.size _ _ _ rfl (Blk.all2 hx.2.1 _ _) Tryz.underlying43 rfl (by kernel_rfl)) rfl ⟨by rw [← HOK.out]; rfl, hx.1.over ho3 hx.2.1 (by decide) (by decide) (by decide) (by decide) (by decide), ho2⟩
        · skip
          rw [if_pos (by rfl)]
          go_simp
          go_wp2_with fail
          have hb : Below w0_6_13.heap.size w0_6_13 (w0_6_13.alloc (.cells #[.int .i64 0, .int .i64 0] 43)) := below_alloc (Below.refl _ _) _
          have HS := Lib.hid (KeepBlk.mk (HK.out _ (below_step (below_step HBW.out HBL0_6_13.out) hb)))
          refine hK.out _ _ ⟨HS.out.blk⟩ (fun hHeld => ?_)
          clear hK K HS
          have hmade : Blk (w0_6_13.alloc (.cells #[.int .i64 0, .int .i64 0] 43)) w0_6_13.heap.size 43 #[.int .i64 0, .int .i64 0] := Blk.made _ _ _
          generalize hgen : World.alloc w0_6_13 _ = w0_6_13_20 at *
          obtain ⟨n20, hn20⟩ : ∃ b, b = w0_6_13.heap.size := ⟨_, rfl⟩
          rw [← hn20] at hmade ⊢
          have HLn20 : Hid (W.heap.size ≤ n20) := Lib.hid (by rw [hn20]; exact HBL0_6_13.out.size)
          have HBR0_6_13_20 := Lib.hid (Blk.kept HBR0_6_13.out hb)
          have HBL0_6_13_20 := Lib.hid (below_step HBL0_6_13.out hb)
          have HC60_6_13_20 := Lib.hid (WordsAt.below HC60_6_13.out hb)
          have HP130_6_13_20 := Lib.hid (AskRow.below HP130_6_13.out hb)
          have HN200_6_13_20 := Lib.hid hmade
          clear hmade hb hgen hn20
          refine wpAnyH_ready (rs := [7]) (by kernel_rfl) (by simp) ?_
          refine AllReadyH.cons rfl (fun K hK => ?_) (AllReadyH.nil)
          rw [if_pos (by rfl)]
          go_simp
          go_wp2_with fail
          have hb : Below w0_6_13_20.heap.size w0_6_13_20 (w0_6_13_20.alloc (.cells (vbArr (clockVb 0) (.slice pv 1 cv)) 147)) := below_alloc (Below.refl _ _) _
          have HS := Lib.hid (KeepBlk.mk (HK.out _ (below_step (below_step HBW.out HBL0_6_13_20.out) hb)))
          refine hK.out _ _ ⟨HS.out.blk⟩ (fun hHeld => ?_)
          clear hK K HS
          have hmade : Blk (w0_6_13_20.alloc (.cells (vbArr (clockVb 0) (.slice pv 1 cv)) 147)) w0_6_13_20.heap.size 147 (vbArr (clockVb 0) (.slice pv 1 cv)) := Blk.made _ _ _
          simp only [vbArr, clockVb] at hmade hb
          generalize hgen : World.alloc w0_6_13_20 _ = w0_6_13_20_7 at *
          obtain ⟨b7, hb7⟩ : ∃ b, b = w0_6_13_20.heap.size := ⟨_, rfl⟩
          rw [← hb7] at hmade ⊢
          have HLb7 : Hid (W.heap.size ≤ b7) := Lib.hid (by rw [hb7]; exact HBL0_6_13_20.out.size)
          have HBR0_6_13_20_7 := Lib.hid (Blk.kept HBR0_6_13_20.out hb)
          have HBL0_6_13_20_7 := Lib.hid (below_step HBL0_6_13_20.out hb)
          have HC60_6_13_20_7 := Lib.hid (WordsAt.below HC60_6_13_20.out hb)
          have HP130_6_13_20_7 := Lib.hid (AskRow.below HP130_6_13_20.out hb)
          have HN200_6_13_20_7 := Lib.hid (Blk.kept HN200_6_13_20.out hb)
          have HB70_6_13_20_7 := Lib.hid hmade
          clear hmade hb hgen hb7
          refine wpAnyH_ready (rs := [14]) (by kernel_rfl) (by simp) ?_
          refine AllReadyH.cons rfl (fun K hK => ?_) (AllReadyH.nil)
          rw [if_pos (by rfl)]
          obtain ⟨al2, hal2, hown2, hws2⟩ := HP130_6_13_20_7.out
          have h2 : al2.length = k + 1 := by have := congrArg List.length hal2; simpa [pageVbs] using this
          rw [h2] at hown2
          obtain ⟨g2, cap2, hvv⟩ := own_form hown2 (by omega)
          subst hvv
          have hla := askCells_len al2
          rw [h2] at hla
          have hown1 : w0_6_13_20_7.ownsRow W.heap.size 147 9 (.slice (some ⟨b7, 0, none⟩) 1 1) 1 (askCells [(clockVb 0, .slice pv 1 cv)]) := ⟨rfl, .inr ⟨b7, 1, _, rfl, HLb7.out, HB70_6_13_20_7.out, Nat.le_refl _, by unfold maxLen; omega, rfl, rfl⟩⟩
          refine wp_append_src (.tmp 23) (.tmp 29) 40 rfl W.heap.size 147 i0 _ 9 88 Tryz.underlying40 hi hz0 hz1 hz2 rfl (by decide) (.slice (some ⟨b7, 0, none⟩) 1 1) 1 (askCells [(clockVb 0, .slice pv 1 cv)]) rfl hown1 (.slice (some ⟨g2, 0, none⟩) (k + 1) cap2) (k + 1) (askCells al2) rfl (SrcAt.of_own hown2 (askCells_one al2 w0_6_13_20_7 _ hws2)) hla (by unfold maxLen; omega) (by omega) HBL0_6_13_20_7.out.size ?_
          intro v14 w0_6_13_20_7_14 hown14 hg14
          have hA := AskRow.push (al := [(clockVb 0, .slice pv 1 cv)]) hown1 (fun t ht => by simp at ht; subst ht; exact HC60_6_13_20_7.out) al2 hws2 (by rw [h2]; rfl) rfl hown14 hg14
          have HA0_6_13_20_7_14 : Hid (AskRow w0_6_13_20_7_14 W.heap.size v14 (finAsk (k + 1))) := Lib.hid (by rw [hal2] at hA; exact hA)
          have HBL0_6_13_20_7_14 : Hid (Below W.heap.size W w0_6_13_20_7_14) := Lib.hid (below_grown (w := W) (w1 := w0_6_13_20_7) HBL0_6_13_20_7.out hg14 (fun q hq => own_row_ge hown1 q hq))
          have HBR0_6_13_20_7_14 := Lib.hid (Blk.beside HBR0_6_13_20_7.out hown1 hg14 (by decide))
          have HN200_6_13_20_7_14 := Lib.hid (Blk.beside HN200_6_13_20_7.out hown1 hg14 (by decide))
          clear hA hown14 hg14 hown1 hown2 hws2 hal2 hla
          refine hK.out _ _ ⟨HK.out _ (below_step HBW.out HBL0_6_13_20_7_14.out)⟩ (fun hHeld => ?_)
          clear hK K
          simp only [Act.put, List.setIfInBounds_toArray, List.set_cons_zero, List.set_cons_succ, List.getElem_toArray, List.getElem_cons_zero, List.getElem_cons_succ]
          refine wpAnyH_ready (rs := [15]) (by kernel_rfl) (by simp) ?_
          refine AllReadyH.cons rfl (fun K hK => ?_) (AllReadyH.nil)
          rw [if_pos (by rfl)]
          obtain ⟨p14, c14, hv14⟩ := HA0_6_13_20_7_14.out.asks.shape
          subst hv14
          go_simp
          go_at_call 72
          refine (step_ok c t lo _ _ _ _ 3 (finAsk (k + 1)) gs (by have h1 := finAsk_len (k + 1); omega) (finAsk_good _) _ (HC.out.blk.kept (below_step HBW.out HBL0_6_13_20_7_14.out)) (HT.out.1.below (below_step HBW.out HBL0_6_13_20_7_14.out)) hlo (HA0_6_13_20_7_14.out.asks.low (Nat.le_trans hlw HBW.out.size)) HT.out.2).mono ?_
          rintro e w0_6_13_20_7_14_15 ⟨⟨u, rfl, _, pu, nu, cu, rfl⟩, htk, ho⟩
          have HBR0_6_13_20_7_14_15 := Lib.hid (HBR0_6_13_20_7_14.out.grown ho (fun e => by injection e with e; have := HT.out.1.lt; omega))
          have HTK0_6_13_20_7_14_15 := Lib.hid htk
          have HO0_6_13_20_7_14_15 : Hid (Over t w w0_6_13_20_7_14_15) := Lib.hid ((Over.of_below (below_step HBW.out HBL0_6_13_20_7_14.out)).trans ho)
          have HCC0_6_13_20_7_14_15 := Lib.hid ((HC.out.below (below_step HBW.out HBL0_6_13_20_7_14.out)).over ho (HT.out.1.below (below_step HBW.out HBL0_6_13_20_7_14.out))).blk
          have HN200_6_13_20_7_14_15 := Lib.hid (HN200_6_13_20_7_14.out.grown ho (fun e => by injection e with e; have h1 := HT.out.1.lt; have h2 := HLn20.out; have h3 := HBW.out.size; omega))
          clear htk ho
          obtain ⟨ok, hok⟩ : ∃ ok, ok = goOn (finAsk (k + 1)) gs := ⟨_, rfl⟩
          rw [← hok]
          have HOK := Lib.hid hok
          clear hok
          go_wp2_with fail
          refine hK.out _ _ ⟨HCC0_6_13_20_7_14_15.out⟩ (fun hHeld => ?_)
          clear hK K
          refine wpAnyH_seq (is := [16, 17, 18, 19, 21]) (by kernel_rfl) (by kernel_rfl) (fun _ _ d _ _ h => by cases d <;> exact h) (by assumption) ?_
          iterate 5 (first | (refine TakeSeq.step (v := undef) rfl (Or.inr ⟨by rfl, rfl⟩) ?_; simp only [Act.put, List.setIfInBounds_toArray, List.set_cons_zero, List.set_cons_succ, List.getElem_toArray, List.getElem_cons_zero, List.getElem_cons_succ]) | (refine TakeSeq.step (v := ?_) rfl (Or.inl ⟨by rfl, ?_⟩) ?_; rotate_left 1; (focus (intro wq hSq; have hrd := hSq.rule; go_simp; with_reducible rfl)); simp only [Act.put, List.setIfInBounds_toArray, List.set_cons_zero, List.set_cons_succ, List.getElem_toArray, List.getElem_cons_zero, List.getElem_cons_succ]))
          refine TakeSeq.done ?_
          have k20 := HN200_6_13_20_7_14_15.out.cell
          have f20 := HN200_6_13_20_7_14_15.out.free
          have l20 := HN200_6_13_20_7_14_15.out.lt
          have HYY : Hid (c ≠ n20) := Lib.hid (fun e => by subst e; exact absurd (HCC0_6_13_20_7_14_15.out.type HN200_6_13_20_7_14_15.out).1 (by decide))
          have HRN : Hid (w.heap.size ≠ n20) := Lib.hid (by have h1 := HLn20.out; have h2 := HWS.out; omega)
          refine wpAnyH_ready (rs := [22]) (by kernel_rfl) (by simp) ?_
          refine AllReadyH.cons rfl (fun K hK => ?_) (AllReadyH.nil)
          rw [if_pos (by rfl)]
          go_simp
          refine hK.out _ _ (⟨(HCC0_6_13_20_7_14_15.out.aside HYY.out _).aside HYY.out _⟩) (fun hHeld => ?_)
          clear hK K
          refine wpAnyH_seq (is := [23]) (by kernel_rfl) (by kernel_rfl) (fun _ _ d _ _ h => by cases d <;> exact h) (by assumption) ?_
          iterate 1 (first | (refine TakeSeq.step (v := undef) rfl (Or.inr ⟨by rfl, rfl⟩) ?_; simp only [Act.put, List.setIfInBounds_toArray, List.set_cons_zero, List.set_cons_succ, List.getElem_toArray, List.getElem_cons_zero, List.getElem_cons_succ]) | (refine TakeSeq.step (v := ?_) rfl (Or.inl ⟨by rfl, ?_⟩) ?_; rotate_left 1; (focus (intro wq hSq; have hrd := hSq.rule; go_simp; with_reducible rfl)); simp only [Act.put, List.setIfInBounds_toArray, List.set_cons_zero, List.set_cons_succ, List.getElem_toArray, List.getElem_cons_zero, List.getElem_cons_succ]))
          refine TakeSeq.done ?_
          refine wpAnyH_done (by kernel_rfl) ?_ _
          have hne := HRN.out
          have hne2 : n20 ≠ w.heap.size := fun e => hne e.symm
          have B1 : Blk ((w0_6_13_20_7_14_15.setCell ⟨n20, 0, none⟩ (.int .i64 0)).setCell ⟨n20, 1, none⟩ (.int .i64 0)) n20 43 #[.int .i64 0, .int .i64 0] := Blk.all2 HN200_6_13_20_7_14_15.out _ _
          have B2 : Blk ((w0_6_13_20_7_14_15.setCell ⟨n20, 0, none⟩ (.int .i64 0)).setCell ⟨n20, 1, none⟩ (.int .i64 0)) w.heap.size 43 #[.int .i64 0, .int .i64 0] := (HBR0_6_13_20_7_14_15.out.aside hne _).aside hne _
          have ho1 : Over n20 w0_6_13_20_7_14_15 ((w0_6_13_20_7_14_15.setCell ⟨n20, 0, none⟩ (.int .i64 0)).setCell ⟨n20, 1, none⟩ (.int .i64 0)) := ((Over.refl _ _).put 0 _).put 1 _
          have HE := Lib.hid (And.intro (HTK0_6_13_20_7_14_15.out.over ho1 HN200_6_13_20_7_14_15.out (by decide) (by decide) (by decide) (by decide) (by decide)) (And.intro B2 ((HO0_6_13_20_7_14_15.out.own (p := ⟨n20, 0, none⟩) (by have h1 := HLn20.out; have h2 := HWS.out; show w.heap.size ≤ n20; omega) (.int .i64 0)).own (p := ⟨n20, 1, none⟩) (by have h1 := HLn20.out; have h2 := HWS.out; show w.heap.size ≤ n20; omega) (.int .i64 0))))
          have kx := B1.cell
          have ky := B2.cell
          have fy := B2.free
          have ly := B2.lt
          have lx := B1.lt
          generalize hz : (w0_6_13_20_7_14_15.setCell ⟨n20, 0, none⟩ (.int .i64 0)).setCell ⟨n20, 1, none⟩ (.int .i64 0) = wz at *
          clear hz B1 B2 ho1 k20 f20 l20 hne hne2
          go_wp2_with fail
          have hx := HE.out
          have ho2 : Over t w ((wz.setCell ⟨w.heap.size, 0, none⟩ (.int .i64 0)).setCell ⟨w.heap.size, 1, none⟩ (.int .i64 0)) := (hx.2.2.own (by simp) _).own (by simp) _
          have ho3 : Over w.heap.size wz ((wz.setCell ⟨w.heap.size, 0, none⟩ (.int .i64 0)).setCell ⟨w.heap.size, 1, none⟩ (.int .i64 0)) := ((Over.refl _ _).put 0 _).put 1 _
          refine bodyPost_ret (results_bt rfl _ _ w.heap.size _ _ _ rfl (Blk.all2 hx.2.1 _ _) Tryz.underlying43 rfl (by kernel_rfl)) rfl ⟨by rw [← HOK.out]; rfl, hx.1.over ho3 hx.2.1 (by decide) (by decide) (by decide) (by decide) (by decide), ho2⟩
      · skip
        rw [if_pos (by rfl)]
        go_simp
        go_wp2_with fail
        have hb : Below w0_6.heap.size w0_6 (w0_6.alloc (.cells #[.int .i64 0, .int .i64 0] 43)) := below_alloc (Below.refl _ _) _
        have HS := Lib.hid (KeepBlk.mk (HK.out _ (below_step (below_step HBW.out HBL0_6.out) hb)))
        refine hK.out _ _ ⟨HS.out.blk⟩ (fun hHeld => ?_)
        clear hK K HS
        have hmade : Blk (w0_6.alloc (.cells #[.int .i64 0, .int .i64 0] 43)) w0_6.heap.size 43 #[.int .i64 0, .int .i64 0] := Blk.made _ _ _
        generalize hgen : World.alloc w0_6 _ = w0_6_20 at *
        obtain ⟨n20, hn20⟩ : ∃ b, b = w0_6.heap.size := ⟨_, rfl⟩
        rw [← hn20] at hmade ⊢
        have HLn20 : Hid (W.heap.size ≤ n20) := Lib.hid (by rw [hn20]; exact HBL0_6.out.size)
        have HBR0_6_20 := Lib.hid (Blk.kept HBR0_6.out hb)
        have HBL0_6_20 := Lib.hid (below_step HBL0_6.out hb)
        have HC60_6_20 := Lib.hid (WordsAt.below HC60_6.out hb)
        have HN200_6_20 := Lib.hid hmade
        clear hmade hb hgen hn20
        refine wpAnyH_ready (rs := [7, 13]) (by kernel_rfl) (by simp) ?_
        refine AllReadyH.cons rfl (fun K hK => ?_) (AllReadyH.cons rfl (fun K hK => ?_) (AllReadyH.nil))
        · skip
          rw [if_pos (by rfl)]
          go_simp
          go_wp2_with fail
          have hb : Below w0_6_20.heap.size w0_6_20 (w0_6_20.alloc (.cells (vbArr (clockVb 0) (.slice pv 1 cv)) 147)) := below_alloc (Below.refl _ _) _
          have HS := Lib.hid (KeepBlk.mk (HK.out _ (below_step (below_step HBW.out HBL0_6_20.out) hb)))
          refine hK.out _ _ ⟨HS.out.blk⟩ (fun hHeld => ?_)
          clear hK K HS
          have hmade : Blk (w0_6_20.alloc (.cells (vbArr (clockVb 0) (.slice pv 1 cv)) 147)) w0_6_20.heap.size 147 (vbArr (clockVb 0) (.slice pv 1 cv)) := Blk.made _ _ _
          simp only [vbArr, clockVb] at hmade hb
          generalize hgen : World.alloc w0_6_20 _ = w0_6_20_7 at *
          obtain ⟨b7, hb7⟩ : ∃ b, b = w0_6_20.heap.size := ⟨_, rfl⟩
          rw [← hb7] at hmade ⊢
          have HLb7 : Hid (W.heap.size ≤ b7) := Lib.hid (by rw [hb7]; exact HBL0_6_20.out.size)
          have HBR0_6_20_7 := Lib.hid (Blk.kept HBR0_6_20.out hb)
          have HBL0_6_20_7 := Lib.hid (below_step HBL0_6_20.out hb)
          have HC60_6_20_7 := Lib.hid (WordsAt.below HC60_6_20.out hb)
          have HN200_6_20_7 := Lib.hid (Blk.kept HN200_6_20.out hb)
          have HB70_6_20_7 := Lib.hid hmade
          clear hmade hb hgen hb7
          refine wpAnyH_ready (rs := [13]) (by kernel_rfl) (by simp) ?_
          refine AllReadyH.cons rfl (fun K hK => ?_) (AllReadyH.nil)
          rw [if_pos (by rfl)]
          go_simp
          go_at_call 77
          refine (HPG.out _ (below_step HBW.out HBL0_6_20_7.out)).mono ?_
          rintro e w0_6_20_7_13 ⟨⟨v2, rfl, hv2⟩, hb⟩
          have HBR0_6_20_7_13 := Lib.hid (Blk.kept HBR0_6_20_7.out hb)
          have HBL0_6_20_7_13 := Lib.hid (below_step HBL0_6_20_7.out hb)
          have HC60_6_20_7_13 := Lib.hid (WordsAt.below HC60_6_20_7.out hb)
          have HN200_6_20_7_13 := Lib.hid (Blk.kept HN200_6_20_7.out hb)
          have HB70_6_20_7_13 := Lib.hid (Blk.kept HB70_6_20_7.out hb)
          have HP130_6_20_7_13 : Hid (AskRow w0_6_20_7_13 W.heap.size v2 (pageVbs 0 (k + 1))) := Lib.hid (hv2.low HBL0_6_20_7.out.size)
          go_wp2_with fail
          refine hK.out _ _ ⟨HK.out _ (below_step HBW.out HBL0_6_20_7_13.out)⟩ (fun hHeld => ?_)
          clear hK K hv2 hb
          refine wpAnyH_ready (rs := [14]) (by kernel_rfl) (by simp) ?_
          refine AllReadyH.cons rfl (fun K hK => ?_) (AllReadyH.nil)
          rw [if_pos (by rfl)]
          obtain ⟨al2, hal2, hown2, hws2⟩ := HP130_6_20_7_13.out
          have h2 : al2.length = k + 1 := by have := congrArg List.length hal2; simpa [pageVbs] using this
          rw [h2] at hown2
          obtain ⟨g2, cap2, hvv⟩ := own_form hown2 (by omega)
          subst hvv
          have hla := askCells_len al2
          rw [h2] at hla
          have hown1 : w0_6_20_7_13.ownsRow W.heap.size 147 9 (.slice (some ⟨b7, 0, none⟩) 1 1) 1 (askCells [(clockVb 0, .slice pv 1 cv)]) := ⟨rfl, .inr ⟨b7, 1, _, rfl, HLb7.out, HB70_6_20_7_13.out, Nat.le_refl _, by unfold maxLen; omega, rfl, rfl⟩⟩
          refine wp_append_src (.tmp 23) (.tmp 29) 40 rfl W.heap.size 147 i0 _ 9 88 Tryz.underlying40 hi hz0 hz1 hz2 rfl (by decide) (.slice (some ⟨b7, 0, none⟩) 1 1) 1 (askCells [(clockVb 0, .slice pv 1 cv)]) rfl hown1 (.slice (some ⟨g2, 0, none⟩) (k + 1) cap2) (k + 1) (askCells al2) rfl (SrcAt.of_own hown2 (askCells_one al2 w0_6_20_7_13 _ hws2)) hla (by unfold maxLen; omega) (by omega) HBL0_6_20_7_13.out.size ?_
          intro v14 w0_6_20_7_13_14 hown14 hg14
          have hA := AskRow.push (al := [(clockVb 0, .slice pv 1 cv)]) hown1 (fun t ht => by simp at ht; subst ht; exact HC60_6_20_7_13.out) al2 hws2 (by rw [h2]; rfl) rfl hown14 hg14
          have HA0_6_20_7_13_14 : Hid (AskRow w0_6_20_7_13_14 W.heap.size v14 (finAsk (k + 1))) := Lib.hid (by rw [hal2] at hA; exact hA)
          have HBL0_6_20_7_13_14 : Hid (Below W.heap.size W w0_6_20_7_13_14) := Lib.hid (below_grown (w := W) (w1 := w0_6_20_7_13) HBL0_6_20_7_13.out hg14 (fun q hq => own_row_ge hown1 q hq))
          have HBR0_6_20_7_13_14 := Lib.hid (Blk.beside HBR0_6_20_7_13.out hown1 hg14 (by decide))
          have HN200_6_20_7_13_14 := Lib.hid (Blk.beside HN200_6_20_7_13.out hown1 hg14 (by decide))
          clear hA hown14 hg14 hown1 hown2 hws2 hal2 hla
          refine hK.out _ _ ⟨HK.out _ (below_step HBW.out HBL0_6_20_7_13_14.out)⟩ (fun hHeld => ?_)
          clear hK K
          simp only [Act.put, List.setIfInBounds_toArray, List.set_cons_zero, List.set_cons_succ, List.getElem_toArray, List.getElem_cons_zero, List.getElem_cons_succ]
          refine wpAnyH_ready (rs := [15]) (by kernel_rfl) (by simp) ?_
          refine AllReadyH.cons rfl (fun K hK => ?_) (AllReadyH.nil)
          rw [if_pos (by rfl)]
          obtain ⟨p14, c14, hv14⟩ := HA0_6_20_7_13_14.out.asks.shape
          subst hv14
          go_simp
          go_at_call 72
          refine (step_ok c t lo _ _ _ _ 3 (finAsk (k + 1)) gs (by have h1 := finAsk_len (k + 1); omega) (finAsk_good _) _ (HC.out.blk.kept (below_step HBW.out HBL0_6_20_7_13_14.out)) (HT.out.1.below (below_step HBW.out HBL0_6_20_7_13_14.out)) hlo (HA0_6_20_7_13_14.out.asks.low (Nat.le_trans hlw HBW.out.size)) HT.out.2).mono ?_
          rintro e w0_6_20_7_13_14_15 ⟨⟨u, rfl, _, pu, nu, cu, rfl⟩, htk, ho⟩
          have HBR0_6_20_7_13_14_15 := Lib.hid (HBR0_6_20_7_13_14.out.grown ho (fun e => by injection e with e; have := HT.out.1.lt; omega))
          have HTK0_6_20_7_13_14_15 := Lib.hid htk
          have HO0_6_20_7_13_14_15 : Hid (Over t w w0_6_20_7_13_14_15) := Lib.hid ((Over.of_below (below_step HBW.out HBL0_6_20_7_13_14.out)).trans ho)
          have HCC0_6_20_7_13_14_15 := Lib.hid ((HC.out.below (below_step HBW.out HBL0_6_20_7_13_14.out)).over ho (HT.out.1.below (below_step HBW.out HBL0_6_20_7_13_14.out))).blk
          have HN200_6_20_7_13_14_15 := Lib.hid (HN200_6_20_7_13_14.out.grown ho (fun e => by injection e with e; have h1 := HT.out.1.lt; have h2 := HLn20.out; have h3 := HBW.out.size; omega))
          clear htk ho
          obtain ⟨ok, hok⟩ : ∃ ok, ok = goOn (finAsk (k + 1)) gs := ⟨_, rfl⟩
          rw [← hok]
          have HOK := Lib.hid hok
          clear hok
          go_wp2_with fail
          refine hK.out _ _ ⟨HCC0_6_20_7_13_14_15.out⟩ (fun hHeld => ?_)
          clear hK K
          refine wpAnyH_seq (is := [16, 17, 18, 19, 21]) (by kernel_rfl) (by kernel_rfl) (fun _ _ d _ _ h => by cases d <;> exact h) (by assumption) ?_
          iterate 5 (first | (refine TakeSeq.step (v := undef) rfl (Or.inr ⟨by rfl, rfl⟩) ?_; simp only [Act.put, List.setIfInBounds_toArray, List.set_cons_zero, List.set_cons_succ, List.getElem_toArray, List.getElem_cons_zero, List.getElem_cons_succ]) | (refine TakeSeq.step (v := ?_) rfl (Or.inl ⟨by rfl, ?_⟩) ?_; rotate_left 1; (focus (intro wq hSq; have hrd := hSq.rule; go_simp; with_reducible rfl)); simp only [Act.put, List.setIfInBounds_toArray, List.set_cons_zero, List.set_cons_succ, List.getElem_toArray, List.getElem_cons_zero, List.getElem_cons_succ]))
          refine TakeSeq.done ?_
          have k20 := HN200_6_20_7_13_14_15.out.cell
          have f20 := HN200_6_20_7_13_14_15.out.free
          have l20 := HN200_6_20_7_13_14_15.out.lt
          have HYY : Hid (c ≠ n20) := Lib.hid (fun e => by subst e; exact absurd (HCC0_6_20_7_13_14_15.out.type HN200_6_20_7_13_14_15.out).1 (by decide))
          have HRN : Hid (w.heap.size ≠ n20) := Lib.hid (by have h1 := HLn20.out; have h2 := HWS.out; omega)
          refine wpAnyH_ready (rs := [22]) (by kernel_rfl) (by simp) ?_
          refine AllReadyH.cons rfl (fun K hK => ?_) (AllReadyH.nil)
          rw [if_pos (by rfl)]
          go_simp
          refine hK.out _ _ (⟨(HCC0_6_20_7_13_14_15.out.aside HYY.out _).aside HYY.out _⟩) (fun hHeld => ?_)
          clear hK K
          refine wpAnyH_seq (is := [23]) (by kernel_rfl) (by kernel_rfl) (fun _ _ d _ _ h => by cases d <;> exact h) (by assumption) ?_
          iterate 1 (first | (refine TakeSeq.step (v := undef) rfl (Or.inr ⟨by rfl, rfl⟩) ?_; simp only [Act.put, List.setIfInBounds_toArray, List.set_cons_zero, List.set_cons_succ, List.getElem_toArray, List.getElem_cons_zero, List.getElem_cons_succ]) | (refine TakeSeq.step (v := ?_) rfl (Or.inl ⟨by rfl, ?_⟩) ?_; rotate_left 1; (focus (intro wq hSq; have hrd := hSq.rule; go_simp; with_reducible rfl)); simp only [Act.put, List.setIfInBounds_toArray, List.set_cons_zero, List.set_cons_succ, List.getElem_toArray, List.getElem_cons_zero, List.getElem_cons_succ]))
          refine TakeSeq.done ?_
          refine wpAnyH_done (by kernel_rfl) ?_ _
          have hne := HRN.out
          have hne2 : n20 ≠ w.heap.size := fun e => hne e.symm
          have B1 : Blk ((w0_6_20_7_13_14_15.setCell ⟨n20, 0, none⟩ (.int .i64 0)).setCell ⟨n20, 1, none⟩ (.int .i64 0)) n20 43 #[.int .i64 0, .int .i64 0] := Blk.all2 HN200_6_20_7_13_14_15.out _ _
          have B2 : Blk ((w0_6_20_7_13_14_15.setCell ⟨n20, 0, none⟩ (.int .i64 0)).setCell ⟨n20, 1, none⟩ (.int .i64 0)) w.heap.size 43 #[.int .i64 0, .int .i64 0] := (HBR0_6_20_7_13_14_15.out.aside hne _).aside hne _
          have ho1 : Over n20 w0_6_20_7_13_14_15 ((w0_6_20_7_13_14_15.setCell ⟨n20, 0, none⟩ (.int .i64 0)).setCell ⟨n20, 1, none⟩ (.int .i64 0)) := ((Over.refl _ _).put 0 _).put 1 _
          have HE := Lib.hid (And.intro (HTK0_6_20_7_13_14_15.out.over ho1 HN200_6_20_7_13_14_15.out (by decide) (by decide) (by decide) (by decide) (by decide)) (And.intro B2 ((HO0_6_20_7_13_14_15.out.own (p := ⟨n20, 0, none⟩) (by have h1 := HLn20.out; have h2 := HWS.out; show w.heap.size ≤ n20; omega) (.int .i64 0)).own (p := ⟨n20, 1, none⟩) (by have h1 := HLn20.out; have h2 := HWS.out; show w.heap.size ≤ n20; omega) (.int .i64 0))))
          have kx := B1.cell
          have ky := B2.cell
          have fy := B2.free
          have ly := B2.lt
          have lx := B1.lt
          generalize hz : (w0_6_20_7_13_14_15.setCell ⟨n20, 0, none⟩ (.int .i64 0)).setCell ⟨n20, 1, none⟩ (.int .i64 0) = wz at *
          clear hz B1 B2 ho1 k20 f20 l20 hne hne2
          go_wp2_with fail
          have hx := HE.out
          have ho2 : Over t w ((wz.setCell ⟨w.heap.size, 0, none⟩ (.int .i64 0)).setCell ⟨w.heap.size, 1, none⟩ (.int .i64 0)) := (hx.2.2.own (by simp) _).own (by simp) _
          have ho3 : Over w.heap.size wz ((wz.setCell ⟨w.heap.size, 0, none⟩ (.int .i64 0)).setCell ⟨w.heap.size, 1, none⟩ (.int .i64 0)) := ((Over.refl _ _).put 0 _).put 1 _
          refine bodyPost_ret (results_bt rfl _ _ w.heap.size _ _ _ rfl (Blk.all2 hx.2.1 _ _) Tryz.underlying43 rfl (by kernel_rfl)) rfl ⟨by rw [← HOK.out]; rfl, hx.1.over ho3 hx.2.1 (by decide) (by decide) (by decide) (by decide) (by decide), ho2⟩
        · skip
          rw [if_pos (by rfl)]
          go_simp
          go_at_call 77
          refine (HPG.out _ (below_step HBW.out HBL0_6_20.out)).mono ?_
          rintro e w0_6_20_13 ⟨⟨v2, rfl, hv2⟩, hb⟩
          have HBR0_6_20_13 := Lib.hid (Blk.kept HBR0_6_20.out hb)
          have HBL0_6_20_13 := Lib.hid (below_step HBL0_6_20.out hb)
          have HC60_6_20_13 := Lib.hid (WordsAt.below HC60_6_20.out hb)
          have HN200_6_20_13 := Lib.hid (Blk.kept HN200_6_20.out hb)
          have HP130_6_20_13 : Hid (AskRow w0_6_20_13 W.heap.size v2 (pageVbs 0 (k + 1))) := Lib.hid (hv2.low HBL0_6_20.out.size)
          go_wp2_with fail
          refine hK.out _ _ ⟨HK.out _ (below_step HBW.out HBL0_6_20_13.out)⟩ (fun hHeld => ?_)
          clear hK K hv2 hb
          refine wpAnyH_ready (rs := [7]) (by kernel_rfl) (by simp) ?_
          refine AllReadyH.cons rfl (fun K hK => ?_) (AllReadyH.nil)
          rw [if_pos (by rfl)]
          go_simp
          go_wp2_with fail
          have hb : Below w0_6_20_13.heap.size w0_6_20_13 (w0_6_20_13.alloc (.cells (vbArr (clockVb 0) (.slice pv 1 cv)) 147)) := below_alloc (Below.refl _ _) _
          have HS := Lib.hid (KeepBlk.mk (HK.out _ (below_step (below_step HBW.out HBL0_6_20_13.out) hb)))
          refine hK.out _ _ ⟨HS.out.blk⟩ (fun hHeld => ?_)
          clear hK K HS
          have hmade : Blk (w0_6_20_13.alloc (.cells (vbArr (clockVb 0) (.slice pv 1 cv)) 147)) w0_6_20_13.heap.size 147 (vbArr (clockVb 0) (.slice pv 1 cv)) := Blk.made _ _ _
          simp only [vbArr, clockVb] at hmade hb
          generalize hgen : World.alloc w0_6_20_13 _ = w0_6_20_13_7 at *
          obtain ⟨b7, hb7⟩ : ∃ b, b = w0_6_20_13.heap.size := ⟨_, rfl⟩
          rw [← hb7] at hmade ⊢
          have HLb7 : Hid (W.heap.size ≤ b7) := Lib.hid (by rw [hb7]; exact HBL0_6_20_13.out.size)
          have HBR0_6_20_13_7 := Lib.hid (Blk.kept HBR0_6_20_13.out hb)
          have HBL0_6_20_13_7 := Lib.hid (below_step HBL0_6_20_13.out hb)
          have HC60_6_20_13_7 := Lib.hid (WordsAt.below HC60_6_20_13.out hb)
          have HN200_6_20_13_7 := Lib.hid (Blk.kept HN200_6_20_13.out hb)
          have HP130_6_20_13_7 := Lib.hid (AskRow.below HP130_6_20_13.out hb)
          have HB70_6_20_13_7 := Lib.hid hmade
          clear hmade hb hgen hb7
          refine wpAnyH_ready (rs := [14]) (by kernel_rfl) (by simp) ?_
          refine AllReadyH.cons rfl (fun K hK => ?_) (AllReadyH.nil)
          rw [if_pos (by rfl)]
          obtain ⟨al2, hal2, hown2, hws2⟩ := HP130_6_20_13_7.out
          have h2 : al2.length = k + 1 := by have := congrArg List.length hal2; simpa [pageVbs] using this
          rw [h2] at hown2
          obtain ⟨g2, cap2, hvv⟩ := own_form hown2 (by omega)
          subst hvv
          have hla := askCells_len al2
          rw [h2] at hla
          have hown1 : w0_6_20_13_7.ownsRow W.heap.size 147 9 (.slice (some ⟨b7, 0, none⟩) 1 1) 1 (askCells [(clockVb 0, .slice pv 1 cv)]) := ⟨rfl, .inr ⟨b7, 1, _, rfl, HLb7.out, HB70_6_20_13_7.out, Nat.le_refl _, by unfold maxLen; omega, rfl, rfl⟩⟩
          refine wp_append_src (.tmp 23) (.tmp 29) 40 rfl W.heap.size 147 i0 _ 9 88 Tryz.underlying40 hi hz0 hz1 hz2 rfl (by decide) (.slice (some ⟨b7, 0, none⟩) 1 1) 1 (askCells [(clockVb 0, .slice pv 1 cv)]) rfl hown1 (.slice (some ⟨g2, 0, none⟩) (k + 1) cap2) (k + 1) (askCells al2) rfl (SrcAt.of_own hown2 (askCells_one al2 w0_6_20_13_7 _ hws2)) hla (by unfold maxLen; omega) (by omega) HBL0_6_20_13_7.out.size ?_
          intro v14 w0_6_20_13_7_14 hown14 hg14
          have hA := AskRow.push (al := [(clockVb 0, .slice pv 1 cv)]) hown1 (fun t ht => by simp at ht; subst ht; exact HC60_6_20_13_7.out) al2 hws2 (by rw [h2]; rfl) rfl hown14 hg14
          have HA0_6_20_13_7_14 : Hid (AskRow w0_6_20_13_7_14 W.heap.size v14 (finAsk (k + 1))) := Lib.hid (by rw [hal2] at hA; exact hA)
          have HBL0_6_20_13_7_14 : Hid (Below W.heap.size W w0_6_20_13_7_14) := Lib.hid (below_grown (w := W) (w1 := w0_6_20_13_7) HBL0_6_20_13_7.out hg14 (fun q hq => own_row_ge hown1 q hq))
          have HBR0_6_20_13_7_14 := Lib.hid (Blk.beside HBR0_6_20_13_7.out hown1 hg14 (by decide))
          have HN200_6_20_13_7_14 := Lib.hid (Blk.beside HN200_6_20_13_7.out hown1 hg14 (by decide))
          clear hA hown14 hg14 hown1 hown2 hws2 hal2 hla
          refine hK.out _ _ ⟨HK.out _ (below_step HBW.out HBL0_6_20_13_7_14.out)⟩ (fun hHeld => ?_)
          clear hK K
          simp only [Act.put, List.setIfInBounds_toArray, List.set_cons_zero, List.set_cons_succ, List.getElem_toArray, List.getElem_cons_zero, List.getElem_cons_succ]
          refine wpAnyH_ready (rs := [15]) (by kernel_rfl) (by simp) ?_
          refine AllReadyH.cons rfl (fun K hK => ?_) (AllReadyH.nil)
          rw [if_pos (by rfl)]
          obtain ⟨p14, c14, hv14⟩ := HA0_6_20_13_7_14.out.asks.shape
          subst hv14
          go_simp
          go_at_call 72
          refine (step_ok c t lo _ _ _ _ 3 (finAsk (k + 1)) gs (by have h1 := finAsk_len (k + 1); omega) (finAsk_good _) _ (HC.out.blk.kept (below_step HBW.out HBL0_6_20_13_7_14.out)) (HT.out.1.below (below_step HBW.out HBL0_6_20_13_7_14.out)) hlo (HA0_6_20_13_7_14.out.asks.low (Nat.le_trans hlw HBW.out.size)) HT.out.2).mono ?_
          rintro e w0_6_20_13_7_14_15 ⟨⟨u, rfl, _, pu, nu, cu, rfl⟩, htk, ho⟩
          have HBR0_6_20_13_7_14_15 := Lib.hid (HBR0_6_20_13_7_14.out.grown ho (fun e => by injection e with e; have := HT.out.1.lt; omega))
          have HTK0_6_20_13_7_14_15 := Lib.hid htk
          have HO0_6_20_13_7_14_15 : Hid (Over t w w0_6_20_13_7_14_15) := Lib.hid ((Over.of_below (below_step HBW.out HBL0_6_20_13_7_14.out)).trans ho)
          have HCC0_6_20_13_7_14_15 := Lib.hid ((HC.out.below (below_step HBW.out HBL0_6_20_13_7_14.out)).over ho (HT.out.1.below (below_step HBW.out HBL0_6_20_13_7_14.out))).blk
          have HN200_6_20_13_7_14_15 := Lib.hid (HN200_6_20_13_7_14.out.grown ho (fun e => by injection e with e; have h1 := HT.out.1.lt; have h2 := HLn20.out; have h3 := HBW.out.size; omega))
          clear htk ho
          obtain ⟨ok, hok⟩ : ∃ ok, ok = goOn (finAsk (k + 1)) gs := ⟨_, rfl⟩
          rw [← hok]
          have HOK := Lib.hid hok
          clear hok
          go_wp2_with fail
          refine hK.out _ _ ⟨HCC0_6_20_13_7_14_15.out⟩ (fun hHeld => ?_)
          clear hK K
          refine wpAnyH_seq (is := [16, 17, 18, 19, 21]) (by kernel_rfl) (by kernel_rfl) (fun _ _ d _ _ h => by cases d <;> exact h) (by assumption) ?_
          iterate 5 (first | (refine TakeSeq.step (v := undef) rfl (Or.inr ⟨by rfl, rfl⟩) ?_; simp only [Act.put, List.setIfInBounds_toArray, List.set_cons_zero, List.set_cons_succ, List.getElem_toArray, List.getElem_cons_zero, List.getElem_cons_succ]) | (refine TakeSeq.step (v := ?_) rfl (Or.inl ⟨by rfl, ?_⟩) ?_; rotate_left 1; (focus (intro wq hSq; have hrd := hSq.rule; go_simp; with_reducible rfl)); simp only [Act.put, List.setIfInBounds_toArray, List.set_cons_zero, List.set_cons_succ, List.getElem_toArray, List.getElem_cons_zero, List.getElem_cons_succ]))
          refine TakeSeq.done ?_
          have k20 := HN200_6_20_13_7_14_15.out.cell
          have f20 := HN200_6_20_13_7_14_15.out.free
          have l20 := HN200_6_20_13_7_14_15.out.lt
          have HYY : Hid (c ≠ n20) := Lib.hid (fun e => by subst e; exact absurd (HCC0_6_20_13_7_14_15.out.type HN200_6_20_13_7_14_15.out).1 (by decide))
          have HRN : Hid (w.heap.size ≠ n20) := Lib.hid (by have h1 := HLn20.out; have h2 := HWS.out; omega)
          refine wpAnyH_ready (rs := [22]) (by kernel_rfl) (by simp) ?_
          refine AllReadyH.cons rfl (fun K hK => ?_) (AllReadyH.nil)
          rw [if_pos (by rfl)]
          go_simp
          refine hK.out _ _ (⟨(HCC0_6_20_13_7_14_15.out.aside HYY.out _).aside HYY.out _⟩) (fun hHeld => ?_)
          clear hK K
          refine wpAnyH_seq (is := [23]) (by kernel_rfl) (by kernel_rfl) (fun _ _ d _ _ h => by cases d <;> exact h) (by assumption) ?_
          iterate 1 (first | (refine TakeSeq.step (v := undef) rfl (Or.inr ⟨by rfl, rfl⟩) ?_; simp only [Act.put, List.setIfInBounds_toArray, List.set_cons_zero, List.set_cons_succ, List.getElem_toArray, List.getElem_cons_zero, List.getElem_cons_succ]) | (refine TakeSeq.step (v := ?_) rfl (Or.inl ⟨by rfl, ?_⟩) ?_; rotate_left 1; (focus (intro wq hSq; have hrd := hSq.rule; go_simp; with_reducible rfl)); simp only [Act.put, List.setIfInBounds_toArray, List.set_cons_zero, List.set_cons_succ, List.getElem_toArray, List.getElem_cons_zero, List.getElem_cons_succ]))
          refine TakeSeq.done ?_
          refine wpAnyH_done (by kernel_rfl) ?_ _
          have hne := HRN.out
          have hne2 : n20 ≠ w.heap.size := fun e => hne e.symm
          have B1 : Blk ((w0_6_20_13_7_14_15.setCell ⟨n20, 0, none⟩ (.int .i64 0)).setCell ⟨n20, 1, none⟩ (.int .i64 0)) n20 43 #[.int .i64 0, .int .i64 0] := Blk.all2 HN200_6_20_13_7_14_15.out _ _
          have B2 : Blk ((w0_6_20_13_7_14_15.setCell ⟨n20, 0, none⟩ (.int .i64 0)).setCell ⟨n20, 1, none⟩ (.int .i64 0)) w.heap.size 43 #[.int .i64 0, .int .i64 0] := (HBR0_6_20_13_7_14_15.out.aside hne _).aside hne _
          have ho1 : Over n20 w0_6_20_13_7_14_15 ((w0_6_20_13_7_14_15.setCell ⟨n20, 0, none⟩ (.int .i64 0)).setCell ⟨n20, 1, none⟩ (.int .i64 0)) := ((Over.refl _ _).put 0 _).put 1 _
          have HE := Lib.hid (And.intro (HTK0_6_20_13_7_14_15.out.over ho1 HN200_6_20_13_7_14_15.out (by decide) (by decide) (by decide) (by decide) (by decide)) (And.intro B2 ((HO0_6_20_13_7_14_15.out.own (p := ⟨n20, 0, none⟩) (by have h1 := HLn20.out; have h2 := HWS.out; show w.heap.size ≤ n20; omega) (.int .i64 0)).own (p := ⟨n20, 1, none⟩) (by have h1 := HLn20.out; have h2 := HWS.out; show w.heap.size ≤ n20; omega) (.int .i64 0))))
          have kx := B1.cell
          have ky := B2.cell
          have fy := B2.free
          have ly := B2.lt
          have lx := B1.lt
          generalize hz : (w0_6_20_13_7_14_15.setCell ⟨n20, 0, none⟩ (.int .i64 0)).setCell ⟨n20, 1, none⟩ (.int .i64 0) = wz at *
          clear hz B1 B2 ho1 k20 f20 l20 hne hne2
          go_wp2_with fail
          have hx := HE.out
          have ho2 : Over t w ((wz.setCell ⟨w.heap.size, 0, none⟩ (.int .i64 0)).setCell ⟨w.heap.size, 1, none⟩ (.int .i64 0)) := (hx.2.2.own (by simp) _).own (by simp) _
          have ho3 : Over w.heap.size wz ((wz.setCell ⟨w.heap.size, 0, none⟩ (.int .i64 0)).setCell ⟨w.heap.size, 1, none⟩ (.int .i64 0)) := ((Over.refl _ _).put 0 _).put 1 _
          refine bodyPost_ret (results_bt rfl _ _ w.heap.size _ _ _ rfl (Blk.all2 hx.2.1 _ _) Tryz.underlying43 rfl (by kernel_rfl)) rfl ⟨by rw [← HOK.out]; rfl, hx.1.over ho3 hx.2.1 (by decide) (by decide) (by decide) (by decide) (by decide), ho2⟩
    · skip
      rw [if_pos (by rfl)]
      go_simp
      go_wp2_with fail
      have hb : Below w0.heap.size w0 (w0.alloc (.cells #[.int .i64 0, .int .i64 0] 43)) := below_alloc (Below.refl _ _) _
      have HS := Lib.hid (KeepBlk.mk (HK.out _ (below_step (below_step HBW.out HBL0.out) hb)))
      refine hK.out _ _ ⟨HS.out.blk⟩ (fun hHeld => ?_)
      clear hK K HS
      have hmade : Blk (w0.alloc (.cells #[.int .i64 0, .int .i64 0] 43)) w0.heap.size 43 #[.int .i64 0, .int .i64 0] := Blk.made _ _ _
      generalize hgen : World.alloc w0 _ = w0_20 at *
      obtain ⟨n20, hn20⟩ : ∃ b, b = w0.heap.size := ⟨_, rfl⟩
      rw [← hn20] at hmade ⊢
      have HLn20 : Hid (W.heap.size ≤ n20) := Lib.hid (by rw [hn20]; exact HBL0.out.size)
      have HBR0_20 := Lib.hid (Blk.kept HBR0.out hb)
      have HBL0_20 := Lib.hid (below_step HBL0.out hb)
      have HN200_20 := Lib.hid hmade
      clear hmade hb hgen hn20
      refine wpAnyH_ready (rs := [6]) (by kernel_rfl) (by simp) ?_
      refine AllReadyH.cons rfl (fun K hK => ?_) (AllReadyH.nil)
      rw [if_pos (by rfl)]
      go_simp
      go_at_call 78
      refine (HCK.out _ (below_step HBW.out HBL0_20.out)).mono ?_
      rintro e w0_20_6 ⟨⟨v1, rfl, hwv⟩, hb⟩
      obtain ⟨pv, cv, rfl⟩ := RowAt.shape hwv
      have HBR0_20_6 := Lib.hid (Blk.kept HBR0_20.out hb)
      have HBL0_20_6 := Lib.hid (below_step HBL0_20.out hb)
      have HN200_20_6 := Lib.hid (Blk.kept HN200_20.out hb)
      have HC60_20_6 : Hid (WordsAt w0_20_6 W.heap.size (.slice pv 1 cv) [1]) := Lib.hid (RowAt.low hwv HBL0_20.out.size)
      simp only [vbArr, clockVb]
      go_wp2_with fail
      refine hK.out _ _ ⟨HK.out _ (below_step HBW.out HBL0_20_6.out)⟩ (fun hHeld => ?_)
      clear hK K hwv hb
      refine wpAnyH_ready (rs := [7, 13]) (by kernel_rfl) (by simp) ?_
      refine AllReadyH.cons rfl (fun K hK => ?_) (AllReadyH.cons rfl (fun K hK => ?_) (AllReadyH.nil))
      · skip
        rw [if_pos (by rfl)]
        go_simp
        go_wp2_with fail
        have hb : Below w0_20_6.heap.size w0_20_6 (w0_20_6.alloc (.cells (vbArr (clockVb 0) (.slice pv 1 cv)) 147)) := below_alloc (Below.refl _ _) _
        have HS := Lib.hid (KeepBlk.mk (HK.out _ (below_step (below_step HBW.out HBL0_20_6.out) hb)))
        refine hK.out _ _ ⟨HS.out.blk⟩ (fun hHeld => ?_)
        clear hK K HS
        have hmade : Blk (w0_20_6.alloc (.cells (vbArr (clockVb 0) (.slice pv 1 cv)) 147)) w0_20_6.heap.size 147 (vbArr (clockVb 0) (.slice pv 1 cv)) := Blk.made _ _ _
        simp only [vbArr, clockVb] at hmade hb
        generalize hgen : World.alloc w0_20_6 _ = w0_20_6_7 at *
        obtain ⟨b7, hb7⟩ : ∃ b, b = w0_20_6.heap.size := ⟨_, rfl⟩
        rw [← hb7] at hmade ⊢
        have HLb7 : Hid (W.heap.size ≤ b7) := Lib.hid (by rw [hb7]; exact HBL0_20_6.out.size)
        have HBR0_20_6_7 := Lib.hid (Blk.kept HBR0_20_6.out hb)
        have HBL0_20_6_7 := Lib.hid (below_step HBL0_20_6.out hb)
        have HN200_20_6_7 := Lib.hid (Blk.kept HN200_20_6.out hb)
        have HC60_20_6_7 := Lib.hid (WordsAt.below HC60_20_6.out hb)
        have HB70_20_6_7 := Lib.hid hmade
        clear hmade hb hgen hb7
        refine wpAnyH_ready (rs := [13]) (by kernel_rfl) (by simp) ?_
        refine AllReadyH.cons rfl (fun K hK => ?_) (AllReadyH.nil)
        rw [if_pos (by rfl)]
        go_simp
        go_at_call 77
        refine (HPG.out _ (below_step HBW.out HBL0_20_6_7.out)).mono ?_
        rintro e w0_20_6_7_13 ⟨⟨v2, rfl, hv2⟩, hb⟩
        have HBR0_20_6_7_13 := Lib.hid (Blk.kept HBR0_20_6_7.out hb)
        have HBL0_20_6_7_13 := Lib.hid (below_step HBL0_20_6_7.out hb)
        have HN200_20_6_7_13 := Lib.hid (Blk.kept HN200_20_6_7.out hb)
        have HC60_20_6_7_13 := Lib.hid (WordsAt.below HC60_20_6_7.out hb)
        have HB70_20_6_7_13 := Lib.hid (Blk.kept HB70_20_6_7.out hb)
        have HP130_20_6_7_13 : Hid (AskRow w0_20_6_7_13 W.heap.size v2 (pageVbs 0 (k + 1))) := Lib.hid (hv2.low HBL0_20_6_7.out.size)
        go_wp2_with fail
        refine hK.out _ _ ⟨HK.out _ (below_step HBW.out HBL0_20_6_7_13.out)⟩ (fun hHeld => ?_)
        clear hK K hv2 hb
        refine wpAnyH_ready (rs := [14]) (by kernel_rfl) (by simp) ?_
        refine AllReadyH.cons rfl (fun K hK => ?_) (AllReadyH.nil)
        rw [if_pos (by rfl)]
        obtain ⟨al2, hal2, hown2, hws2⟩ := HP130_20_6_7_13.out
        have h2 : al2.length = k + 1 := by have := congrArg List.length hal2; simpa [pageVbs] using this
        rw [h2] at hown2
        obtain ⟨g2, cap2, hvv⟩ := own_form hown2 (by omega)
        subst hvv
        have hla := askCells_len al2
        rw [h2] at hla
        have hown1 : w0_20_6_7_13.ownsRow W.heap.size 147 9 (.slice (some ⟨b7, 0, none⟩) 1 1) 1 (askCells [(clockVb 0, .slice pv 1 cv)]) := ⟨rfl, .inr ⟨b7, 1, _, rfl, HLb7.out, HB70_20_6_7_13.out, Nat.le_refl _, by unfold maxLen; omega, rfl, rfl⟩⟩
        refine wp_append_src (.tmp 23) (.tmp 29) 40 rfl W.heap.size 147 i0 _ 9 88 Tryz.underlying40 hi hz0 hz1 hz2 rfl (by decide) (.slice (some ⟨b7, 0, none⟩) 1 1) 1 (askCells [(clockVb 0, .slice pv 1 cv)]) rfl hown1 (.slice (some ⟨g2, 0, none⟩) (k + 1) cap2) (k + 1) (askCells al2) rfl (SrcAt.of_own hown2 (askCells_one al2 w0_20_6_7_13 _ hws2)) hla (by unfold maxLen; omega) (by omega) HBL0_20_6_7_13.out.size ?_
        intro v14 w0_20_6_7_13_14 hown14 hg14
        have hA := AskRow.push (al := [(clockVb 0, .slice pv 1 cv)]) hown1 (fun t ht => by simp at ht; subst ht; exact HC60_20_6_7_13.out) al2 hws2 (by rw [h2]; rfl) rfl hown14 hg14
        have HA0_20_6_7_13_14 : Hid (AskRow w0_20_6_7_13_14 W.heap.size v14 (finAsk (k + 1))) := Lib.hid (by rw [hal2] at hA; exact hA)
        have HBL0_20_6_7_13_14 : Hid (Below W.heap.size W w0_20_6_7_13_14) := Lib.hid (below_grown (w := W) (w1 := w0_20_6_7_13) HBL0_20_6_7_13.out hg14 (fun q hq => own_row_ge hown1 q hq))
        have HBR0_20_6_7_13_14 := Lib.hid (Blk.beside HBR0_20_6_7_13.out hown1 hg14 (by decide))
        have HN200_20_6_7_13_14 := Lib.hid (Blk.beside HN200_20_6_7_13.out hown1 hg14 (by decide))
        clear hA hown14 hg14 hown1 hown2 hws2 hal2 hla
        refine hK.out _ _ ⟨HK.out _ (below_step HBW.out HBL0_20_6_7_13_14.out)⟩ (fun hHeld => ?_)
        clear hK K
        simp only [Act.put, List.setIfInBounds_toArray, List.set_cons_zero, List.set_cons_succ, List.getElem_toArray, List.getElem_cons_zero, List.getElem_cons_succ]
        refine wpAnyH_ready (rs := [15]) (by kernel_rfl) (by simp) ?_
        refine AllReadyH.cons rfl (fun K hK => ?_) (AllReadyH.nil)
        rw [if_pos (by rfl)]
        obtain ⟨p14, c14, hv14⟩ := HA0_20_6_7_13_14.out.asks.shape
        subst hv14
        go_simp
        go_at_call 72
        refine (step_ok c t lo _ _ _ _ 3 (finAsk (k + 1)) gs (by have h1 := finAsk_len (k + 1); omega) (finAsk_good _) _ (HC.out.blk.kept (below_step HBW.out HBL0_20_6_7_13_14.out)) (HT.out.1.below (below_step HBW.out HBL0_20_6_7_13_14.out)) hlo (HA0_20_6_7_13_14.out.asks.low (Nat.le_trans hlw HBW.out.size)) HT.out.2).mono ?_
        rintro e w0_20_6_7_13_14_15 ⟨⟨u, rfl, _, pu, nu, cu, rfl⟩, htk, ho⟩
        have HBR0_20_6_7_13_14_15 := Lib.hid (HBR0_20_6_7_13_14.out.grown ho (fun e => by injection e with e; have := HT.out.1.lt; omega))
        have HTK0_20_6_7_13_14_15 := Lib.hid htk
        have HO0_20_6_7_13_14_15 : Hid (Over t w w0_20_6_7_13_14_15) := Lib.hid ((Over.of_below (below_step HBW.out HBL0_20_6_7_13_14.out)).trans ho)
        have HCC0_20_6_7_13_14_15 := Lib.hid ((HC.out.below (below_step HBW.out HBL0_20_6_7_13_14.out)).over ho (HT.out.1.below (below_step HBW.out HBL0_20_6_7_13_14.out))).blk
        have HN200_20_6_7_13_14_15 := Lib.hid (HN200_20_6_7_13_14.out.grown ho (fun e => by injection e with e; have h1 := HT.out.1.lt; have h2 := HLn20.out; have h3 := HBW.out.size; omega))
        clear htk ho
        obtain ⟨ok, hok⟩ : ∃ ok, ok = goOn (finAsk (k + 1)) gs := ⟨_, rfl⟩
        rw [← hok]
        have HOK := Lib.hid hok
        clear hok
        go_wp2_with fail
        refine hK.out _ _ ⟨HCC0_20_6_7_13_14_15.out⟩ (fun hHeld => ?_)
        clear hK K
        refine wpAnyH_seq (is := [16, 17, 18, 19, 21]) (by kernel_rfl) (by kernel_rfl) (fun _ _ d _ _ h => by cases d <;> exact h) (by assumption) ?_
        iterate 5 (first | (refine TakeSeq.step (v := undef) rfl (Or.inr ⟨by rfl, rfl⟩) ?_; simp only [Act.put, List.setIfInBounds_toArray, List.set_cons_zero, List.set_cons_succ, List.getElem_toArray, List.getElem_cons_zero, List.getElem_cons_succ]) | (refine TakeSeq.step (v := ?_) rfl (Or.inl ⟨by rfl, ?_⟩) ?_; rotate_left 1; (focus (intro wq hSq; have hrd := hSq.rule; go_simp; with_reducible rfl)); simp only [Act.put, List.setIfInBounds_toArray, List.set_cons_zero, List.set_cons_succ, List.getElem_toArray, List.getElem_cons_zero, List.getElem_cons_succ]))
        refine TakeSeq.done ?_
        have k20 := HN200_20_6_7_13_14_15.out.cell
        have f20 := HN200_20_6_7_13_14_15.out.free
        have l20 := HN200_20_6_7_13_14_15.out.lt
        have HYY : Hid (c ≠ n20) := Lib.hid (fun e => by subst e; exact absurd (HCC0_20_6_7_13_14_15.out.type HN200_20_6_7_13_14_15.out).1 (by decide))
        have HRN : Hid (w.heap.size ≠ n20) := Lib.hid (by have h1 := HLn20.out; have h2 := HWS.out; omega)
        refine wpAnyH_ready (rs := [22]) (by kernel_rfl) (by simp) ?_
        refine AllReadyH.cons rfl (fun K hK => ?_) (AllReadyH.nil)
        rw [if_pos (by rfl)]
        go_simp
        refine hK.out _ _ (⟨(HCC0_20_6_7_13_14_15.out.aside HYY.out _).aside HYY.out _⟩) (fun hHeld => ?_)
        clear hK K
        refine wpAnyH_seq (is := [23]) (by kernel_rfl) (by kernel_rfl) (fun _ _ d _ _ h => by cases d <;> exact h) (by assumption) ?_
        iterate 1 (first | (refine TakeSeq.step (v := undef) rfl (Or.inr ⟨by rfl, rfl⟩) ?_; simp only [Act.put, List.setIfInBounds_toArray, List.set_cons_zero, List.set_cons_succ, List.getElem_toArray, List.getElem_cons_zero, List.getElem_cons_succ]) | (refine TakeSeq.step (v := ?_) rfl (Or.inl ⟨by rfl, ?_⟩) ?_; rotate_left 1; (focus (intro wq hSq; have hrd := hSq.rule; go_simp; with_reducible rfl)); simp only [Act.put, List.setIfInBounds_toArray, List.set_cons_zero, List.set_cons_succ, List.getElem_toArray, List.getElem_cons_zero, List.getElem_cons_succ]))
        refine TakeSeq.done ?_
        refine wpAnyH_done (by kernel_rfl) ?_ _
        have hne := HRN.out
        have hne2 : n20 ≠ w.heap.size := fun e => hne e.symm
        have B1 : Blk ((w0_20_6_7_13_14_15.setCell ⟨n20, 0, none⟩ (.int .i64 0)).setCell ⟨n20, 1, none⟩ (.int .i64 0)) n20 43 #[.int .i64 0, .int .i64 0] := Blk.all2 HN200_20_6_7_13_14_15.out _ _
        have B2 : Blk ((w0_20_6_7_13_14_15.setCell ⟨n20, 0, none⟩ (.int .i64 0)).setCell ⟨n20, 1, none⟩ (.int .i64 0)) w.heap.size 43 #[.int .i64 0, .int .i64 0] := (HBR0_20_6_7_13_14_15.out.aside hne _).aside hne _
        have ho1 : Over n20 w0_20_6_7_13_14_15 ((w0_20_6_7_13_14_15.setCell ⟨n20, 0, none⟩ (.int .i64 0)).setCell ⟨n20, 1, none⟩ (.int .i64 0)) := ((Over.refl _ _).put 0 _).put 1 _
        have HE := Lib.hid (And.intro (HTK0_20_6_7_13_14_15.out.over ho1 HN200_20_6_7_13_14_15.out (by decide) (by decide) (by decide) (by decide) (by decide)) (And.intro B2 ((HO0_20_6_7_13_14_15.out.own (p := ⟨n20, 0, none⟩) (by have h1 := HLn20.out; have h2 := HWS.out; show w.heap.size ≤ n20; omega) (.int .i64 0)).own (p := ⟨n20, 1, none⟩) (by have h1 := HLn20.out; have h2 := HWS.out; show w.heap.size ≤ n20; omega) (.int .i64 0))))
        have kx := B1.cell
        have ky := B2.cell
        have fy := B2.free
        have ly := B2.lt
        have lx := B1.lt
        generalize hz : (w0_20_6_7_13_14_15.setCell ⟨n20, 0, none⟩ (.int .i64 0)).setCell ⟨n20, 1, none⟩ (.int .i64 0) = wz at *
        clear hz B1 B2 ho1 k20 f20 l20 hne hne2
        go_wp2_with fail
        have hx := HE.out
        have ho2 : Over t w ((wz.setCell ⟨w.heap.size, 0, none⟩ (.int .i64 0)).setCell ⟨w.heap.size, 1, none⟩ (.int .i64 0)) := (hx.2.2.own (by simp) _).own (by simp) _
        have ho3 : Over w.heap.size wz ((wz.setCell ⟨w.heap.size, 0, none⟩ (.int .i64 0)).setCell ⟨w.heap.size, 1, none⟩ (.int .i64 0)) := ((Over.refl _ _).put 0 _).put 1 _
        refine bodyPost_ret (results_bt rfl _ _ w.heap.size _ _ _ rfl (Blk.all2 hx.2.1 _ _) Tryz.underlying43 rfl (by kernel_rfl)) rfl ⟨by rw [← HOK.out]; rfl, hx.1.over ho3 hx.2.1 (by decide) (by decide) (by decide) (by decide) (by decide), ho2⟩
      · skip
        rw [if_pos (by rfl)]
        go_simp
        go_at_call 77
        refine (HPG.out _ (below_step HBW.out HBL0_20_6.out)).mono ?_
        rintro e w0_20_6_13 ⟨⟨v2, rfl, hv2⟩, hb⟩
        have HBR0_20_6_13 := Lib.hid (Blk.kept HBR0_20_6.out hb)
        have HBL0_20_6_13 := Lib.hid (below_step HBL0_20_6.out hb)
        have HN200_20_6_13 := Lib.hid (Blk.kept HN200_20_6.out hb)
        have HC60_20_6_13 := Lib.hid (WordsAt.below HC60_20_6.out hb)
        have HP130_20_6_13 : Hid (AskRow w0_20_6_13 W.heap.size v2 (pageVbs 0 (k + 1))) := Lib.hid (hv2.low HBL0_20_6.out.size)
        go_wp2_with fail
        refine hK.out _ _ ⟨HK.out _ (below_step HBW.out HBL0_20_6_13.out)⟩ (fun hHeld => ?_)
        clear hK K hv2 hb
        refine wpAnyH_ready (rs := [7]) (by kernel_rfl) (by simp) ?_
        refine AllReadyH.cons rfl (fun K hK => ?_) (AllReadyH.nil)
        rw [if_pos (by rfl)]
        go_simp
        go_wp2_with fail
        have hb : Below w0_20_6_13.heap.size w0_20_6_13 (w0_20_6_13.alloc (.cells (vbArr (clockVb 0) (.slice pv 1 cv)) 147)) := below_alloc (Below.refl _ _) _
        have HS := Lib.hid (KeepBlk.mk (HK.out _ (below_step (below_step HBW.out HBL0_20_6_13.out) hb)))
        refine hK.out _ _ ⟨HS.out.blk⟩ (fun hHeld => ?_)
        clear hK K HS
        have hmade : Blk (w0_20_6_13.alloc (.cells (vbArr (clockVb 0) (.slice pv 1 cv)) 147)) w0_20_6_13.heap.size 147 (vbArr (clockVb 0) (.slice pv 1 cv)) := Blk.made _ _ _
        simp only [vbArr, clockVb] at hmade hb
        generalize hgen : World.alloc w0_20_6_13 _ = w0_20_6_13_7 at *
        obtain ⟨b7, hb7⟩ : ∃ b, b = w0_20_6_13.heap.size := ⟨_, rfl⟩
        rw [← hb7] at hmade ⊢
        have HLb7 : Hid (W.heap.size ≤ b7) := Lib.hid (by rw [hb7]; exact HBL0_20_6_13.out.size)
        have HBR0_20_6_13_7 := Lib.hid (Blk.kept HBR0_20_6_13.out hb)
        have HBL0_20_6_13_7 := Lib.hid (below_step HBL0_20_6_13.out hb)
        have HN200_20_6_13_7 := Lib.hid (Blk.kept HN200_20_6_13.out hb)
        have HC60_20_6_13_7 := Lib.hid (WordsAt.below HC60_20_6_13.out hb)
        have HP130_20_6_13_7 := Lib.hid (AskRow.below HP130_20_6_13.out hb)
        have HB70_20_6_13_7 := Lib.hid hmade
        clear hmade hb hgen hb7
        refine wpAnyH_ready (rs := [14]) (by kernel_rfl) (by simp) ?_
        refine AllReadyH.cons rfl (fun K hK => ?_) (AllReadyH.nil)
        rw [if_pos (by rfl)]
        obtain ⟨al2, hal2, hown2, hws2⟩ := HP130_20_6_13_7.out
        have h2 : al2.length = k + 1 := by have := congrArg List.length hal2; simpa [pageVbs] using this
        rw [h2] at hown2
        obtain ⟨g2, cap2, hvv⟩ := own_form hown2 (by omega)
        subst hvv
        have hla := askCells_len al2
        rw [h2] at hla
        have hown1 : w0_20_6_13_7.ownsRow W.heap.size 147 9 (.slice (some ⟨b7, 0, none⟩) 1 1) 1 (askCells [(clockVb 0, .slice pv 1 cv)]) := ⟨rfl, .inr ⟨b7, 1, _, rfl, HLb7.out, HB70_20_6_13_7.out, Nat.le_refl _, by unfold maxLen; omega, rfl, rfl⟩⟩
        refine wp_append_src (.tmp 23) (.tmp 29) 40 rfl W.heap.size 147 i0 _ 9 88 Tryz.underlying40 hi hz0 hz1 hz2 rfl (by decide) (.slice (some ⟨b7, 0, none⟩) 1 1) 1 (askCells [(clockVb 0, .slice pv 1 cv)]) rfl hown1 (.slice (some ⟨g2, 0, none⟩) (k + 1) cap2) (k + 1) (askCells al2) rfl (SrcAt.of_own hown2 (askCells_one al2 w0_20_6_13_7 _ hws2)) hla (by unfold maxLen; omega) (by omega) HBL0_20_6_13_7.out.size ?_
        intro v14 w0_20_6_13_7_14 hown14 hg14
        have hA := AskRow.push (al := [(clockVb 0, .slice pv 1 cv)]) hown1 (fun t ht => by simp at ht; subst ht; exact HC60_20_6_13_7.out) al2 hws2 (by rw [h2]; rfl) rfl hown14 hg14
        have HA0_20_6_13_7_14 : Hid (AskRow w0_20_6_13_7_14 W.heap.size v14 (finAsk (k + 1))) := Lib.hid (by rw [hal2] at hA; exact hA)
        have HBL0_20_6_13_7_14 : Hid (Below W.heap.size W w0_20_6_13_7_14) := Lib.hid (below_grown (w := W) (w1 := w0_20_6_13_7) HBL0_20_6_13_7.out hg14 (fun q hq => own_row_ge hown1 q hq))
        have HBR0_20_6_13_7_14 := Lib.hid (Blk.beside HBR0_20_6_13_7.out hown1 hg14 (by decide))
        have HN200_20_6_13_7_14 := Lib.hid (Blk.beside HN200_20_6_13_7.out hown1 hg14 (by decide))
        clear hA hown14 hg14 hown1 hown2 hws2 hal2 hla
        refine hK.out _ _ ⟨HK.out _ (below_step HBW.out HBL0_20_6_13_7_14.out)⟩ (fun hHeld => ?_)
        clear hK K
        simp only [Act.put, List.setIfInBounds_toArray, List.set_cons_zero, List.set_cons_succ, List.getElem_toArray, List.getElem_cons_zero, List.getElem_cons_succ]
        refine wpAnyH_ready (rs := [15]) (by kernel_rfl) (by simp) ?_
        refine AllReadyH.cons rfl (fun K hK => ?_) (AllReadyH.nil)
        rw [if_pos (by rfl)]
        obtain ⟨p14, c14, hv14⟩ := HA0_20_6_13_7_14.out.asks.shape
        subst hv14
        go_simp
        go_at_call 72
        refine (step_ok c t lo _ _ _ _ 3 (finAsk (k + 1)) gs (by have h1 := finAsk_len (k + 1); omega) (finAsk_good _) _ (HC.out.blk.kept (below_step HBW.out HBL0_20_6_13_7_14.out)) (HT.out.1.below (below_step HBW.out HBL0_20_6_13_7_14.out)) hlo (HA0_20_6_13_7_14.out.asks.low (Nat.le_trans hlw HBW.out.size)) HT.out.2).mono ?_
        rintro e w0_20_6_13_7_14_15 ⟨⟨u, rfl, _, pu, nu, cu, rfl⟩, htk, ho⟩
        have HBR0_20_6_13_7_14_15 := Lib.hid (HBR0_20_6_13_7_14.out.grown ho (fun e => by injection e with e; have := HT.out.1.lt; omega))
        have HTK0_20_6_13_7_14_15 := Lib.hid htk
        have HO0_20_6_13_7_14_15 : Hid (Over t w w0_20_6_13_7_14_15) := Lib.hid ((Over.of_below (below_step HBW.out HBL0_20_6_13_7_14.out)).trans ho)
        have HCC0_20_6_13_7_14_15 := Lib.hid ((HC.out.below (below_step HBW.out HBL0_20_6_13_7_14.out)).over ho (HT.out.1.below (below_step HBW.out HBL0_20_6_13_7_14.out))).blk
        have HN200_20_6_13_7_14_15 := Lib.hid (HN200_20_6_13_7_14.out.grown ho (fun e => by injection e with e; have h1 := HT.out.1.lt; have h2 := HLn20.out; have h3 := HBW.out.size; omega))
        clear htk ho
        obtain ⟨ok, hok⟩ : ∃ ok, ok = goOn (finAsk (k + 1)) gs := ⟨_, rfl⟩
        rw [← hok]
        have HOK := Lib.hid hok
        clear hok
        go_wp2_with fail
        refine hK.out _ _ ⟨HCC0_20_6_13_7_14_15.out⟩ (fun hHeld => ?_)
        clear hK K
        refine wpAnyH_seq (is := [16, 17, 18, 19, 21]) (by kernel_rfl) (by kernel_rfl) (fun _ _ d _ _ h => by cases d <;> exact h) (by assumption) ?_
        iterate 5 (first | (refine TakeSeq.step (v := undef) rfl (Or.inr ⟨by rfl, rfl⟩) ?_; simp only [Act.put, List.setIfInBounds_toArray, List.set_cons_zero, List.set_cons_succ, List.getElem_toArray, List.getElem_cons_zero, List.getElem_cons_succ]) | (refine TakeSeq.step (v := ?_) rfl (Or.inl ⟨by rfl, ?_⟩) ?_; rotate_left 1; (focus (intro wq hSq; have hrd := hSq.rule; go_simp; with_reducible rfl)); simp only [Act.put, List.setIfInBounds_toArray, List.set_cons_zero, List.set_cons_succ, List.getElem_toArray, List.getElem_cons_zero, List.getElem_cons_succ]))
        refine TakeSeq.done ?_
        have k20 := HN200_20_6_13_7_14_15.out.cell
        have f20 := HN200_20_6_13_7_14_15.out.free
        have l20 := HN200_20_6_13_7_14_15.out.lt
        have HYY : Hid (c ≠ n20) := Lib.hid (fun e => by subst e; exact absurd (HCC0_20_6_13_7_14_15.out.type HN200_20_6_13_7_14_15.out).1 (by decide))
        have HRN : Hid (w.heap.size ≠ n20) := Lib.hid (by have h1 := HLn20.out; have h2 := HWS.out; omega)
        refine wpAnyH_ready (rs := [22]) (by kernel_rfl) (by simp) ?_
        refine AllReadyH.cons rfl (fun K hK => ?_) (AllReadyH.nil)
        rw [if_pos (by rfl)]
        go_simp
        refine hK.out _ _ (⟨(HCC0_20_6_13_7_14_15.out.aside HYY.out _).aside HYY.out _⟩) (fun hHeld => ?_)
        clear hK K
        refine wpAnyH_seq (is := [23]) (by kernel_rfl) (by kernel_rfl) (fun _ _ d _ _ h => by cases d <;> exact h) (by assumption) ?_
        iterate 1 (first | (refine TakeSeq.step (v := undef) rfl (Or.inr ⟨by rfl, rfl⟩) ?_; simp only [Act.put, List.setIfInBounds_toArray, List.set_cons_zero, List.set_cons_succ, List.getElem_toArray, List.getElem_cons_zero, List.getElem_cons_succ]) | (refine TakeSeq.step (v := ?_) rfl (Or.inl ⟨by rfl, ?_⟩) ?_; rotate_left 1; (focus (intro wq hSq; have hrd := hSq.rule; go_simp; with_reducible rfl)); simp only [Act.put, List.setIfInBounds_toArray, List.set_cons_zero, List.set_cons_succ, List.getElem_toArray, List.getElem_cons_zero, List.getElem_cons_succ]))
        refine TakeSeq.done ?_
        refine wpAnyH_done (by kernel_rfl) ?_ _
        have hne := HRN.out
        have hne2 : n20 ≠ w.heap.size := fun e => hne e.symm
        have B1 : Blk ((w0_20_6_13_7_14_15.setCell ⟨n20, 0, none⟩ (.int .i64 0)).setCell ⟨n20, 1, none⟩ (.int .i64 0)) n20 43 #[.int .i64 0, .int .i64 0] := Blk.all2 HN200_20_6_13_7_14_15.out _ _
        have B2 : Blk ((w0_20_6_13_7_14_15.setCell ⟨n20, 0, none⟩ (.int .i64 0)).setCell ⟨n20, 1, none⟩ (.int .i64 0)) w.heap.size 43 #[.int .i64 0, .int .i64 0] := (HBR0_20_6_13_7_14_15.out.aside hne _).aside hne _
        have ho1 : Over n20 w0_20_6_13_7_14_15 ((w0_20_6_13_7_14_15.setCell ⟨n20, 0, none⟩ (.int .i64 0)).setCell ⟨n20, 1, none⟩ (.int .i64 0)) := ((Over.refl _ _).put 0 _).put 1 _
        have HE := Lib.hid (And.intro (HTK0_20_6_13_7_14_15.out.over ho1 HN200_20_6_13_7_14_15.out (by decide) (by decide) (by decide) (by decide) (by decide)) (And.intro B2 ((HO0_20_6_13_7_14_15.out.own (p := ⟨n20, 0, none⟩) (by have h1 := HLn20.out; have h2 := HWS.out; show w.heap.size ≤ n20; omega) (.int .i64 0)).own (p := ⟨n20, 1, none⟩) (by have h1 := HLn20.out; have h2 := HWS.out; show w.heap.size ≤ n20; omega) (.int .i64 0))))
        have kx := B1.cell
        have ky := B2.cell
        have fy := B2.free
        have ly := B2.lt
        have lx := B1.lt
        generalize hz : (w0_20_6_13_7_14_15.setCell ⟨n20, 0, none⟩ (.int .i64 0)).setCell ⟨n20, 1, none⟩ (.int .i64 0) = wz at *
        clear hz B1 B2 ho1 k20 f20 l20 hne hne2
        go_wp2_with fail
        have hx := HE.out
        have ho2 : Over t w ((wz.setCell ⟨w.heap.size, 0, none⟩ (.int .i64 0)).setCell ⟨w.heap.size, 1, none⟩ (.int .i64 0)) := (hx.2.2.own (by simp) _).own (by simp) _
        have ho3 : Over w.heap.size wz ((wz.setCell ⟨w.heap.size, 0, none⟩ (.int .i64 0)).setCell ⟨w.heap.size, 1, none⟩ (.int .i64 0)) := ((Over.refl _ _).put 0 _).put 1 _
        refine bodyPost_ret (results_bt rfl _ _ w.heap.size _ _ _ rfl (Blk.all2 hx.2.1 _ _) Tryz.underlying43 rfl (by kernel_rfl)) rfl ⟨by rw [← HOK.out]; rfl, hx.1.over ho3 hx.2.1 (by decide) (by decide) (by decide) (by decide) (by decide), ho2⟩
end Go.Proofs.YtoidjgongafnkaaGreatDoor
