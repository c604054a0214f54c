/- Package commit: the pages of a member. -/
import Derived.Test.YtoidjgongafnkaaGreatDoorWCu
set_option linter.unusedVariables false
set_option linter.unusedSimpArgs false
set_option linter.unusedSectionVars false
set_option linter.constructorNameAsVariable false
namespace Go.Proofs.YtoidjgongafnkaaGreatDoor
open Go.RowKit

/-- A region whose loads read two blocks alone. -/
structure KeepTwo (c : Nat) (t : TypeId) (cs : Array Value) (c2 : Nat) (t2 : TypeId) (cs2 : Array Value) (wx : World) : Prop where
  one : Blk wx c t cs
  two : Blk wx c2 t2 cs2
theorem KeepTwo.rule {c c2 : Nat} {t t2 : TypeId} {cs cs2 : Array Value} {wx : World} (h : KeepTwo c t cs c2 t2 cs2 wx) : (∀ i, wx.cell? ⟨c, i, none⟩ = cs[i]?) ∧ ∀ i, wx.cell? ⟨c2, i, none⟩ = cs2[i]? := ⟨h.one.cell, h.two.cell⟩
theorem Blk.beside {w w' : World} {b base n size : Nat} {t e : TypeId} {cs : Array Value} {v : Value} {xs : List Value} (h : Blk w b t cs) (hown : w.ownsRow base e size v n xs) (hg : w.grownBy w' v.ownBlock) (ht : t ≠ e) : Blk w' b t cs :=
  h.grown hg (fun hh => by
    rcases hown.2 with ⟨rfl, _⟩ | ⟨g, cap, cur, rfl, _, hc, _⟩
    · simp [Value.ownBlock] at hh
    · simp [Value.ownBlock] at hh
      subst hh
      exact ht (h.type hc).1)
def pageVb (i j : Nat) : Cm.Vb := ⟨2, i, (96 + j) * 8, 0, 0, 0, [512, 0, 0, 0, 0, 0, 0, 0]⟩
def pageVbs (i k : Nat) : List Cm.Vb := (List.range k).map (pageVb i)
theorem pageVbs_succ (i k : Nat) : pageVbs i (k + 1) = pageVbs i k ++ [pageVb i k] := by simp [pageVbs, List.range_succ]
def PgLoop (i k : Nat) (W : World) (v iv : Value) (wr : World) : Prop := ∃ j : Nat, j ≤ k ∧ iv = .int .i64 j ∧ Hid (AskRow wr W.heap.size v (pageVbs i j) ∧ Below W.heap.size W wr)

set_option maxRecDepth 10000 in
set_option maxHeartbeats 2000000 in
theorem cPages_ok (lo2 c t m r k i : Nat) (vm vr vw : Value) (fl : Bool) (w : World) (hc : CAt w lo2 c t m r k vm vr vw) :
    Calls Tryz.prog 77 #[.pointer (some ⟨c, 0, none⟩), .agg #[.int .i64 i, .int .i64 1, .bool fl]] w (AsksPost (pageVbs i k) w) := by
  obtain ⟨i0, hi, hz0, hz1, hz2⟩ := info_parts infoVerb
  obtain ⟨pm, cm, rfl⟩ := own_shape hc.job.mem
  obtain ⟨pw, cw, rfl⟩ := own_shape hc.job.writes
  have HA : Hid (∀ W j q d, Below w.heap.size w W → WordsAt W 0 (.slice q 8 d) [512, 0, 0, 0, 0, 0, 0, 0] → Calls Tryz.prog 70 #[.pointer (some ⟨c, 0, none⟩), .agg #[.int .i64 i, .int .i64 1, .bool fl], .agg (rawArr (pageVb i j) (.slice q 8 d))] W (AddrPost (pageVb i j) W)) :=
    Lib.hid (fun W j q d hb hw => cAddress_ok (pageVb i j) 0 c t pm m cm vr _ q d fl W (hc.blk.kept hb) hw (.inr (by simp [pageVb])) (by simp [pageVb]))
  have k6 : w.cell? ⟨c, 6, none⟩ = some (.slice pw k cw) := hc.blk.cell 6
  have lc := hc.blk.lt
  have HC := Lib.hid hc
  have k4 := hc.job.k4
  clear hc
  unfold rawArr at HA
  simp only [pageVb] at HA
  go_enter Tryz.func77, Tryz.ntmps77
  go_wp2_with fail
  generalize hW : World.alloc _ _ = W
  have BM : Blk W w.heap.size 75 #[.int .i64 i, .int .i64 1, .bool fl] := by rw [← hW]; exact Blk.made w _ _
  have hbW : Below w.heap.size w W := by rw [← hW]; (repeat (first | with_reducible exact Below.refl _ _ | with_reducible assumption | with_reducible refine Below.setCell ?_ (by first | (simp; done) | (simp; omega)) _ | with_reducible refine below_alloc ?_ _ | with_reducible refine below_drewN ?_ _ | with_reducible refine Below.drew ?_ | with_reducible refine below_step ?_ (by assumption)))
  have HM : Hid (∀ wr, Below W.heap.size W wr → Blk wr w.heap.size 75 #[.int .i64 i, .int .i64 1, .bool fl]) := Lib.hid (fun wr h => BM.kept h)
  have HBW := Lib.hid hbW
  clear hW BM hbW k6
  go_loopw [5, 16] (fun v iv wr => PgLoop i k W v iv wr) (fun _ iv _ => ((k : Int) - intOf iv).toNat)
  case atStart => exact ⟨0, by omega, rfl, Lib.hid ⟨AskRow.nil _ _, Below.refl _ _⟩⟩
  case round =>
    obtain ⟨j, hk, rfl, H⟩ := hrel
    have hb2 : Below W.heap.size W wr := H.out.2
    have hb1 : Below w.heap.size w wr := below_step HBW.out hb2
    by_cases hk2 : j < k
    · have b1 : decide ((j : Int) < k) = true := by simp; omega
      have bk0 : (0 : Int) ≤ j := by omega
      have bk1 : (j : Int) < k := by omega
      obtain ⟨g, cap, hv⟩ := own_form HC.out.job.writes (by omega)
      simp only [Value.slice.injEq, true_and] at hv
      obtain ⟨rfl, rfl⟩ := hv
      have HG := Lib.hid (own_lt HC.out.job.writes).2
      have HCP : Hid (∀ i, i < k → ∀ j, j < 9 → w.cell? ⟨g, i * 9 + j, none⟩ = (pgVals (96 + (i : Int)))[j]?) := Lib.hid (fun k hk j hj => pg_cell HC.out.job.writes k hk j hj)
      have HB1 := Lib.hid hb1
      have c0 : wr.cell? ⟨g, j * 9, none⟩ = some (.int .i64 (96 + (j : Int))) := (HB1.out.cell (p := ⟨g, j * 9, none⟩) HG.out).trans (HCP.out j (by assumption) 0 (by omega))
      have c1 : wr.cell? ⟨g, j * 9 + 1, none⟩ = some (.int .u64 256) := (HB1.out.cell (p := ⟨g, j * 9 + 1, none⟩) HG.out).trans (HCP.out j (by assumption) 1 (by omega))
      have c2 : wr.cell? ⟨g, j * 9 + 2, none⟩ = some (.int .u64 0) := (HB1.out.cell (p := ⟨g, j * 9 + 2, none⟩) HG.out).trans (HCP.out j (by assumption) 2 (by omega))
      have c3 : wr.cell? ⟨g, j * 9 + 3, none⟩ = some (.int .u64 0) := (HB1.out.cell (p := ⟨g, j * 9 + 3, none⟩) HG.out).trans (HCP.out j (by assumption) 3 (by omega))
      have c4 : wr.cell? ⟨g, j * 9 + 4, none⟩ = some (.int .u64 0) := (HB1.out.cell (p := ⟨g, j * 9 + 4, none⟩) HG.out).trans (HCP.out j (by assumption) 4 (by omega))
      have c5 : wr.cell? ⟨g, j * 9 + 5, none⟩ = some (.int .u64 0) := (HB1.out.cell (p := ⟨g, j * 9 + 5, none⟩) HG.out).trans (HCP.out j (by assumption) 5 (by omega))
      have c6 : wr.cell? ⟨g, j * 9 + 6, none⟩ = some (.int .u64 0) := (HB1.out.cell (p := ⟨g, j * 9 + 6, none⟩) HG.out).trans (HCP.out j (by assumption) 6 (by omega))
      have c7 : wr.cell? ⟨g, j * 9 + 7, none⟩ = some (.int .u64 0) := (HB1.out.cell (p := ⟨g, j * 9 + 7, none⟩) HG.out).trans (HCP.out j (by assumption) 7 (by omega))
      have c8 : wr.cell? ⟨g, j * 9 + 8, none⟩ = some (.int .u64 0) := (HB1.out.cell (p := ⟨g, j * 9 + 8, none⟩) HG.out).trans (HCP.out j (by assumption) 8 (by omega))
      go_wp2_with fail
      go_at_call 128
      refine (applied_ok (96 + (j : Int)) _).mono ?_
      rintro e w2 ⟨v, rfl, hwv, hb3⟩
      obtain ⟨pv, cv, rfl⟩ := RowAt.shape hwv
      have BP : Blk w2 wr.heap.size 36 (pgVals (96 + (j : Int))) := Blk.kept (Blk.made wr _ _) hb3
      have hb4 : Below wr.heap.size wr w2 := by (repeat (first | with_reducible exact Below.refl _ _ | with_reducible assumption | with_reducible refine Below.setCell ?_ (by first | (simp; done) | (simp; omega)) _ | with_reducible refine below_alloc ?_ _ | with_reducible refine below_drewN ?_ _ | with_reducible refine Below.drew ?_ | with_reducible refine below_step ?_ (by assumption)))
      clear c0 c1 c2 c3 c4 c5 c6 c7 c8
      have BM2 := HM.out w2 (below_step hb2 hb4)
      have HX := Lib.hid (And.intro BP (And.intro BM2 (And.intro hwv (And.intro hb4 hb3))))
      clear BP BM2 hwv hb4 hb3
      go_wp2_with fail
      refine wp_region_held_drew (S := KeepTwo wr.heap.size 36 (pgVals (96 + (j : Int))) w.heap.size 75 #[.int .i64 i, .int .i64 1, .bool fl]) (by kernel_rfl) ⟨HX.out.1.drew, HX.out.2.1.drew⟩ ?_
      intro hSt
      unfold pgVals at hSt ⊢
      refine wpAnyH_seq (is := [0, 1, 2, 3, 4, 6]) (by kernel_rfl) (by kernel_rfl) (fun _ _ d _ _ h => by cases d <;> exact h) (by assumption) ?_
      iterate 6 (first | (refine TakeSeq.step (v := undef) rfl (Or.inr ⟨by rfl, rfl⟩) ?_; simp only [Act.put, List.setIfInBounds_toArray, List.set_cons_zero, List.set_cons_succ, List.getElem_toArray, List.getElem_cons_zero, List.getElem_cons_succ]) | (refine TakeSeq.step (v := ?_) rfl (Or.inl ⟨by rfl, ?_⟩) ?_; rotate_left 1; (focus (intro wq hSq; have hrd := hSq.rule; go_simp; with_reducible rfl)); simp only [Act.put, List.setIfInBounds_toArray, List.set_cons_zero, List.set_cons_succ, List.getElem_toArray, List.getElem_cons_zero, List.getElem_cons_succ]))
      refine TakeSeq.done ?_
      refine wpAnyH_ready (rs := [5]) (by kernel_rfl) (by simp) ?_
      refine AllReadyH.cons rfl (fun K hK => ?_) (AllReadyH.nil)
      rw [if_pos (by rfl)]
      go_simp
      go_at_call 71; refine (page_ok (96 + (j : Int)) (by omega) (by omega) _).mono ?_; rintro e w3 ⟨rfl, rfl⟩
      go_wp2_with fail
      refine hK.out _ _ (⟨HX.out.1.drew, HX.out.2.1.drew⟩) (fun hHeld => ?_)
      clear hK K
      refine wpAnyH_seq (is := [7]) (by kernel_rfl) (by kernel_rfl) (fun _ _ d _ _ h => by cases d <;> exact h) (by assumption) ?_
      iterate 1 (first | (refine TakeSeq.step (v := undef) rfl (Or.inr ⟨by rfl, rfl⟩) ?_; simp only [Act.put, List.setIfInBounds_toArray, List.set_cons_zero, List.set_cons_succ, List.getElem_toArray, List.getElem_cons_zero, List.getElem_cons_succ]) | (refine TakeSeq.step (v := ?_) rfl (Or.inl ⟨by rfl, ?_⟩) ?_; rotate_left 1; (focus (intro wq hSq; have hrd := hSq.rule; go_simp; with_reducible rfl)); simp only [Act.put, List.setIfInBounds_toArray, List.set_cons_zero, List.set_cons_succ, List.getElem_toArray, List.getElem_cons_zero, List.getElem_cons_succ]))
      refine TakeSeq.done ?_
      have HE8 : Hid (((96 + (j : Int)) * 8) = (((96 + j) * 8 : Nat) : Int)) := Lib.hid (by omega)
      have hs2 : wr.heap.size ≤ w2.heap.size := HX.out.2.2.2.1.size
      refine wpAnyH_ready (rs := [8]) (by kernel_rfl) (by simp) ?_
      refine AllReadyH.cons rfl (fun K hK => ?_) (AllReadyH.nil)
      rw [if_pos (by rfl)]
      go_simp
      go_at_call 70; rw [HE8.out]; refine (HA.out w2.drew j pv cv (by have := HX.out.2.2.2.1; (repeat (first | with_reducible exact Below.refl _ _ | with_reducible assumption | with_reducible refine Below.setCell ?_ (by first | (simp; done) | (simp; omega)) _ | with_reducible refine below_alloc ?_ _ | with_reducible refine below_drewN ?_ _ | with_reducible refine Below.drew ?_ | with_reducible refine below_step ?_ (by assumption)))) (show WordsAt w2.drew 0 _ _ from RowAt.low HX.out.2.2.1 (Nat.zero_le _))).mono ?_; rintro e w3 ⟨⟨v2, rfl, hw2⟩, hb3⟩
      go_wp2_with fail
      refine hK.out _ _ (⟨Blk.kept HX.out.1.drew hb3, Blk.kept HX.out.2.1.drew hb3⟩) (fun hHeld => ?_)
      clear hK K
      obtain ⟨pv2, cv2, rfl⟩ := RowAt.shape hw2
      have hbr : Below wr.heap.size wr w3 := by have := HX.out.2.2.2.1; (repeat (first | with_reducible exact Below.refl _ _ | with_reducible assumption | with_reducible refine Below.setCell ?_ (by first | (simp; done) | (simp; omega)) _ | with_reducible refine below_alloc ?_ _ | with_reducible refine below_drewN ?_ _ | with_reducible refine Below.drew ?_ | with_reducible refine below_step ?_ (by assumption)))
      obtain ⟨al, hal, hown, hws⟩ := H.out.1.below hbr
      have hall : al.length = j := by have := congrArg List.length hal; simpa [pageVbs] using this
      have hwW : W.heap.size ≤ wr.heap.size := hb2.size
      have hs3 : wr.heap.size ≤ w3.heap.size := hbr.size
      have hs4 : w2.heap.size ≤ w3.heap.size := by have := hb3.size; simpa only [size_drew] using this
      have HZ := Lib.hid (And.intro (Blk.kept HX.out.1.drew hb3) (Blk.kept HX.out.2.1.drew hb3))
      simp only [vbArr, pageVb]
      refine wpAnyH_ready (rs := [9]) (by kernel_rfl) (by simp) ?_
      refine AllReadyH.cons rfl (fun K hK => ?_) (AllReadyH.nil)
      rw [if_pos (by rfl)]
      go_simp
      refine hK.out _ _ (⟨HZ.out.1.alloc _, HZ.out.2.alloc _⟩) (fun hHeld => ?_)
      clear hK K
      refine wpAnyH_ready (rs := [10]) (by kernel_rfl) (by simp) ?_
      refine AllReadyH.cons rfl (fun K hK => ?_) (AllReadyH.nil)
      rw [if_pos (by rfl)]
      refine wp_append_mine (.tmp 25) (.tmp 34) 40 rfl W.heap.size 147 i0 _ 9 88 Tryz.underlying40 hi hz0 hz1 hz2 rfl (by decide) _ al.length (askCells al) rfl
        (own_below hown (below_alloc (Below.refl _ _) _)) ⟨w3.heap.size, 0, none⟩ 1 1 (vbCells (pageVb i j) (.slice pv2 8 cv2)) rfl rfl
        (lit_news (o := 0) (cs := vbArr (pageVb i j) (.slice pv2 8 cv2)) (Blk.made _ _ _)) (vbCells_one _ _ _ _) (by omega) (by unfold maxLen; omega) (by omega) (by simp; omega) ?_
      intro g4 cap4 w4 hown4 hg4
      have hb5 : Below W.heap.size W w4 := below_grown (w := W) (w1 := w3.alloc _) (by (repeat (first | with_reducible exact Below.refl _ _ | with_reducible assumption | with_reducible refine Below.setCell ?_ (by first | (simp; done) | (simp; omega)) _ | with_reducible refine below_alloc ?_ _ | with_reducible refine below_drewN ?_ _ | with_reducible refine Below.drew ?_ | with_reducible refine below_step ?_ (by assumption)))) hg4 (fun j hj => own_row_ge hown j hj)
      have hown' := own_below hown (below_alloc (Below.refl w3.heap.size w3) (.cells (vbArr (pageVb i j) (.slice pv2 8 cv2)) 147))
      have hA4 := AskRow.push hown' (fun t ht => (hws t ht).below (below_alloc (Below.refl _ _) _)) [(pageVb i j, .slice pv2 8 cv2)]
        (fun t ht => by simp at ht; subst ht; exact RowAt.low (WordsAt.below hw2 (below_alloc (Below.refl _ _) _)) (by simp; omega)) rfl (by simp [askCells]) hown4 hg4
      have H4 : Hid (AskRow w4 W.heap.size (.slice (some ⟨g4, 0, none⟩) (al.length + 1) cap4) (pageVbs i (j + 1)) ∧ Below W.heap.size W w4) := Lib.hid ⟨by rw [pageVbs_succ, ← hal]; exact hA4, hb5⟩
      rw [hall] at H4
      have HP := Lib.hid (And.intro (Blk.beside (HZ.out.1.alloc _) hown' hg4 (by decide)) (Blk.beside (HZ.out.2.alloc _) hown' hg4 (by decide)))
      clear hown4 hg4 hA4 hb5 hown hws hwW hal hown' hw2 hb3 hbr
      refine hK.out _ _ ⟨HP.out.1, HP.out.2⟩ (fun hHeld => ?_)
      clear hK K
      simp only [Act.put, List.setIfInBounds_toArray, List.set_cons_zero, List.set_cons_succ, List.getElem_toArray, List.getElem_cons_zero, List.getElem_cons_succ]
      refine wpAnyH_seq (is := [11]) (by kernel_rfl) (by kernel_rfl) (fun _ _ d _ _ h => by cases d <;> exact h) (by assumption) ?_
      iterate 1 (first | (refine TakeSeq.step (v := undef) rfl (Or.inr ⟨by rfl, rfl⟩) ?_; simp only [Act.put, List.setIfInBounds_toArray, List.set_cons_zero, List.set_cons_succ, List.getElem_toArray, List.getElem_cons_zero, List.getElem_cons_succ]) | (refine TakeSeq.step (v := ?_) rfl (Or.inl ⟨by rfl, ?_⟩) ?_; rotate_left 1; (focus (intro wq hSq; have hrd := hSq.rule; go_simp; with_reducible rfl)); simp only [Act.put, List.setIfInBounds_toArray, List.set_cons_zero, List.set_cons_succ, List.getElem_toArray, List.getElem_cons_zero, List.getElem_cons_succ]))
      refine TakeSeq.done ?_
      refine wpAnyH_done (by kernel_rfl) ?_ _
      go_wp2_with fail
      exact ⟨⟨j + 1, by omega, by simp, H4⟩, by simp [intOf]; omega⟩
    · have b1 : decide ((j : Int) < k) = false := by simp; omega
      obtain rfl : j = k := by omega
      go_wp2_with fail
      refine bodyPost_ret (results_tmp rfl _ _ _) rfl ⟨⟨u5, rfl, H.out.1.low HBW.out.size⟩, hb1⟩
end Go.Proofs.YtoidjgongafnkaaGreatDoor
