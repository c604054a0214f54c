/- Package commit: body and mark. -/
import Derived.Test.YtoidjgongafnkaaGreatDoorQf
set_option linter.unusedVariables false
set_option linter.unusedSimpArgs false
set_option linter.unusedSectionVars false
set_option linter.constructorNameAsVariable false
namespace Go.Proofs.YtoidjgongafnkaaGreatDoor
open Go.RowKit

/-- A region whose loads read block c alone. -/
structure KeepBlk (c : Nat) (t : TypeId) (cs : Array Value) (wx : World) : Prop where
  blk : Blk wx c t cs
theorem KeepBlk.rule {c : Nat} {t : TypeId} {cs : Array Value} {wx : World} (h : KeepBlk c t cs wx) : ∀ i, wx.cell? ⟨c, i, none⟩ = cs[i]? := h.blk.cell

set_option maxRecDepth 10000 in
theorem recValid_none (p : Option Addr) (cap : Nat) (w : World) :
    Calls Tryz.prog 34 #[.agg #[.int .i64 1, .slice p 0 cap], .int .i64 256] w fun e w' => e = .returned (.int .i64 1) ∧ Below w.heap.size w w' := by
  go_enter Tryz.func34, Tryz.ntmps34
  go_wp2_with (go_at_call 61; refine (recLines 256 (by omega) (by omega) _).mono ?_; rintro e w1 ⟨rfl, rfl⟩)
  refine bodyPost_ret (results_tmp rfl _ _ _) rfl ⟨rfl, by (repeat (first | with_reducible exact Below.refl _ _ | with_reducible assumption | with_reducible refine Below.setCell ?_ (by first | (simp; done) | (simp; omega)) _ | with_reducible refine below_alloc ?_ _ | with_reducible refine below_drewN ?_ _ | with_reducible refine Below.drew ?_ | with_reducible refine below_step ?_ (by assumption)))⟩
set_option maxRecDepth 10000 in
theorem recBody_none (p : Option Addr) (cap : Nat) (w : World) :
    Calls Tryz.prog 68 #[.agg #[.int .i64 1, .slice p 0 cap]] w fun e w' => e = .returned (.slice none 0 0) ∧ Below w.heap.size w w' := by
  go_enter Tryz.func68, Tryz.ntmps68
  go_wp2_with (go_at_call 34; refine (recValid_none _ _ _).mono ?_; rintro e w1 ⟨rfl, hb⟩)
  refine bodyPost_ret (results_tmp rfl _ _ _) rfl ⟨rfl, by (repeat (first | with_reducible exact Below.refl _ _ | with_reducible assumption | with_reducible refine Below.setCell ?_ (by first | (simp; done) | (simp; omega)) _ | with_reducible refine below_alloc ?_ _ | with_reducible refine below_drewN ?_ _ | with_reducible refine Below.drew ?_ | with_reducible refine below_step ?_ (by assumption)))⟩

/-- logrec.Body of a job's record. -/
def BodyPost (k : Nat) (w : World) (e : Ending) (w' : World) : Prop :=
  ∃ q n d c, e = .returned (.slice q n d) ∧ (0 < k → n = (Cm.bodyWords k c).length ∧ WordsAt w' w.heap.size (.slice q n d) (Cm.bodyWords k c)) ∧ Below w.heap.size w w'
theorem body_rec (lo k : Nat) (hk : k ≤ 4) (vw : Value) (w : World) (h : w.ownsRow lo 36 9 vw k (pgCells k)) :
    Calls Tryz.prog 68 #[.agg #[.int .i64 1, vw]] w (BodyPost k w) := by
  rcases k with _ | k
  · obtain ⟨p, c, rfl⟩ := own_zero h
    refine (recBody_none p c w).mono ?_
    rintro e w' ⟨rfl, hb⟩
    exact ⟨none, 0, 0, 0, rfl, fun h => by omega, hb⟩
  · obtain ⟨g, cap, rfl⟩ := own_form h (by omega)
    refine (recBody_ok (k + 1) g cap lo (by omega) (by omega) w h).mono ?_
    rintro e w' ⟨v, c, rfl, hw, hb⟩
    obtain ⟨p, d, rfl⟩ := RowAt.shape hw
    exact ⟨p, _, d, c, rfl, fun _ => ⟨rfl, hw⟩, hb⟩
theorem bodyWords_len (k : Nat) (c : Int) (hk : k ≤ 10) : 0 < (Cm.bodyWords k c).length ∧ (Cm.bodyWords k c).length ≤ 1000 := by
  have h := headWords_len k k
  have e : (Cm.bodyWords k c) = headWords k k ++ [c] := by simp [Cm.bodyWords, headWords]
  rw [e, List.length_append, h]
  simp; omega

set_option maxRecDepth 10000 in
set_option maxHeartbeats 1000000 in
theorem cBody_ok (lo lo2 c t m r k : Nat) (vm vr vw : Value) (gs : List (List (List Int))) (w : World) (hc : CAt w lo2 c t m r k vm vr vw) (ht : TkAt w t lo gs none) (hlo : True) (hlw : lo ≤ w.heap.size) (hlw2 : lo2 ≤ w.heap.size)
    (hf : ∀ ck, Fits (logAsk 56 m k (Cm.bodyWords k ck)) gs) :
    Calls Tryz.prog 39 #[.pointer (some ⟨c, 0, none⟩)] w (fun e w' => ∃ ck, FnPost t lo (logAsk 56 m k (Cm.bodyWords k ck)) gs w e w') := by
  obtain ⟨pm, cm, rfl⟩ := own_shape hc.job.mem
  obtain ⟨pr, cr, rfl⟩ := own_shape hc.job.reads
  obtain ⟨pw, cw, rfl⟩ := own_shape hc.job.writes
  have HC := Lib.hid hc
  have HT := Lib.hid (And.intro ht hf)
  have HK : Hid (∀ W, Below w.heap.size w W → Blk W c 77 #[Value.int .i64 0, .int .i64 1, .int .i64 108, .int .i64 0, .slice pm m cm, .slice pr r cr, .slice pw k cw, .pointer (some ⟨t, 0, none⟩), .int .i64 0, .int .i64 1, .bool true]) := Lib.hid (fun W hb => hc.blk.kept hb)
  have lc := hc.blk.lt
  have k4 := hc.job.k4
  clear hc ht hf
  go_enter Tryz.func39, Tryz.ntmps39
  go_wp2_with fail
  generalize hW : World.alloc _ _ = W
  have BR : Blk W w.heap.size 43 #[.int .i64 0, .int .i64 0] := by rw [← hW]; exact Blk.made w _ _
  have hbW : Below w.heap.size w W := by rw [← hW]; (repeat (first | with_reducible exact Below.refl _ _ | with_reducible assumption | with_reducible refine Below.setCell ?_ (by first | (simp; done) | (simp; omega)) _ | with_reducible refine below_alloc ?_ _ | with_reducible refine below_drewN ?_ _ | with_reducible refine Below.drew ?_ | with_reducible refine below_step ?_ (by assumption)))
  have HBR := Lib.hid (And.intro BR hbW)
  clear hW BR hbW
  refine wp_region_held_drew (S := KeepBlk c 77 #[Value.int .i64 0, .int .i64 1, .int .i64 108, .int .i64 0, .slice pm m cm, .slice pr r cr, .slice pw k cw, .pointer (some ⟨t, 0, none⟩), .int .i64 0, .int .i64 1, .bool true]) (by kernel_rfl) ⟨(HK.out W HBR.out.2).drew⟩ ?_
  intro hSt
  refine wpAnyH_seq (is := [0, 1, 2, 3, 4, 5, 7, 8, 9, 10]) (by kernel_rfl) (by kernel_rfl) (fun _ _ d _ _ h => by cases d <;> exact h) (by assumption) ?_
  iterate 10 (first | (refine TakeSeq.step (v := undef) rfl (Or.inr ⟨by rfl, rfl⟩) ?_; simp only [Act.put, List.setIfInBounds_toArray, List.set_cons_zero, List.set_cons_succ, List.getElem_toArray, List.getElem_cons_zero, List.getElem_cons_succ]) | (refine TakeSeq.step (v := ?_) rfl (Or.inl ⟨by rfl, ?_⟩) ?_; rotate_left 1; (focus (intro wq hSq; have hrd := hSq.rule; go_simp; with_reducible rfl)); simp only [Act.put, List.setIfInBounds_toArray, List.set_cons_zero, List.set_cons_succ, List.getElem_toArray, List.getElem_cons_zero, List.getElem_cons_succ]))
  refine TakeSeq.done ?_
  refine wpAnyH_ready (rs := [6]) (by kernel_rfl) (by simp) ?_
  refine AllReadyH.cons rfl (fun K hK => ?_) (AllReadyH.nil)
  rw [if_pos (by rfl)]
  go_simp
  go_at_call 67; refine (body0 _).mono ?_; rintro e w1 ⟨rfl, rfl⟩
  go_wp2_with fail
  refine hK.out _ _ (⟨(HK.out W HBR.out.2).drew⟩) (fun hHeld => ?_)
  clear hK K
  refine wpAnyH_ready (rs := [11]) (by kernel_rfl) (by simp) ?_
  refine AllReadyH.cons rfl (fun K hK => ?_) (AllReadyH.nil)
  rw [if_pos (by rfl)]
  go_simp
  go_at_call 35; refine (record_any _ _ _ _ _ _ _ _ _ _).mono ?_; rintro e w2 ⟨rfl, hb2⟩
  go_wp2_with fail
  refine hK.out _ _ (⟨HK.out _ (by have := HBR.out.2; (repeat (first | with_reducible exact Below.refl _ _ | with_reducible assumption | with_reducible refine Below.setCell ?_ (by first | (simp; done) | (simp; omega)) _ | with_reducible refine below_alloc ?_ _ | with_reducible refine below_drewN ?_ _ | with_reducible refine Below.drew ?_ | with_reducible refine below_step ?_ (by assumption))))⟩) (fun hHeld => ?_)
  clear hK K
  refine wpAnyH_ready (rs := [12]) (by kernel_rfl) (by simp) ?_
  refine AllReadyH.cons rfl (fun K hK => ?_) (AllReadyH.nil)
  rw [if_pos (by rfl)]
  go_simp
  go_at_call 68; refine (body_rec lo2 k k4 _ _ (own_below HC.out.job.writes (by have := HBR.out.2; (repeat (first | with_reducible exact Below.refl _ _ | with_reducible assumption | with_reducible refine Below.setCell ?_ (by first | (simp; done) | (simp; omega)) _ | with_reducible refine below_alloc ?_ _ | with_reducible refine below_drewN ?_ _ | with_reducible refine Below.drew ?_ | with_reducible refine below_step ?_ (by assumption)))))).mono ?_; rintro e w3 ⟨q, n, d, ck, rfl, hwd, hb3⟩
  go_wp2_with fail
  refine hK.out _ _ (⟨HK.out _ (by have := HBR.out.2; (repeat (first | with_reducible exact Below.refl _ _ | with_reducible assumption | with_reducible refine Below.setCell ?_ (by first | (simp; done) | (simp; omega)) _ | with_reducible refine below_alloc ?_ _ | with_reducible refine below_drewN ?_ _ | with_reducible refine Below.drew ?_ | with_reducible refine below_step ?_ (by assumption))))⟩) (fun hHeld => ?_)
  clear hK K
  have hb0 : Below W.heap.size W w3 := by (repeat (first | with_reducible exact Below.refl _ _ | with_reducible assumption | with_reducible refine Below.setCell ?_ (by first | (simp; done) | (simp; omega)) _ | with_reducible refine below_alloc ?_ _ | with_reducible refine below_drewN ?_ _ | with_reducible refine Below.drew ?_ | with_reducible refine below_step ?_ (by assumption)))
  have hb13 : Below w.heap.size w w3 := by have := HBR.out.2; (repeat (first | with_reducible exact Below.refl _ _ | with_reducible assumption | with_reducible refine Below.setCell ?_ (by first | (simp; done) | (simp; omega)) _ | with_reducible refine below_alloc ?_ _ | with_reducible refine below_drewN ?_ _ | with_reducible refine Below.drew ?_ | with_reducible refine below_step ?_ (by assumption)))
  have hwl : lo2 ≤ w2.heap.size := by have h1 := hb2.size; have h2 := HBR.out.2.size; simp only [size_drew] at h1; omega
  have hlen := bodyWords_len k ck (by omega)
  have HLOG : Hid (Calls Tryz.prog 66 #[.pointer (some ⟨c, 0, none⟩), .int .i64 56, .slice q n d, .int .i64 1] w3 (FnPost t lo (logAsk 56 m k (Cm.bodyWords k ck)) gs w3)) :=
    Lib.hid (log_ok lo lo2 c t m r k 56 _ _ _ 1 (Cm.bodyWords k ck) q d gs (by omega) w3 (HC.out.below hb13) (HT.out.1.below hb13) hlo (Nat.le_trans hlw hb13.size)
      (fun h0 => ⟨by have h := (hwd h0).2; rw [(hwd h0).1] at h; exact RowAt.low h hwl, hlen.1, hlen.2⟩) _ (fun h0 => by rw [(hwd h0).1]) ⟨_, _, _, rfl⟩ (HT.out.2 ck))
  have hcat := HC.out.below hb13
  have htk3 := HT.out.1.below hb13
  have BR3 := HBR.out.1.kept hb0
  have HX := Lib.hid (And.intro hcat (And.intro htk3 (And.intro BR3 hb13)))
  clear hb2 hb3 hwd hwl hlen hb13 hb0 hcat htk3 BR3
  refine wpAnyH_ready (rs := [13]) (by kernel_rfl) (by simp) ?_
  refine AllReadyH.cons rfl (fun K hK => ?_) (AllReadyH.nil)
  rw [if_pos (by rfl)]
  go_simp
  go_at_call 66; refine HLOG.out.mono ?_; rintro e w4 ⟨rfl, htk, ho⟩
  go_wp2_with fail
  refine hK.out _ _ (⟨(HX.out.1.over ho HX.out.2.1).blk⟩) (fun hHeld => ?_)
  clear hK K
  obtain ⟨ok, hok⟩ : ∃ ok, ok = goOn (logAsk 56 m k (Cm.bodyWords k ck)) gs := ⟨_, rfl⟩
  rw [← hok]
  have HOK := Lib.hid hok
  have BR4 := HX.out.2.2.1.grown ho (fun e => by injection e with e; have := HT.out.1.lt; omega)
  have BC4 := (HX.out.1.over ho HX.out.2.1).blk
  have ho4 : Over t w w4 := (Over.of_below HX.out.2.2.2).trans ho
  have HY := Lib.hid (And.intro BR4 (And.intro BC4 (And.intro htk ho4)))
  have k4 := BR4.cell
  have f4 := BR4.free
  have l4 := BR4.lt
  have hcr : c < w.heap.size := lc
  clear BR4 BC4 ho4 htk ho hok
  refine wpAnyH_seq (is := [14, 15]) (by kernel_rfl) (by kernel_rfl) (fun _ _ d _ _ h => by cases d <;> exact h) (by assumption) ?_
  iterate 2 (first | (refine TakeSeq.step (v := undef) rfl (Or.inr ⟨by rfl, rfl⟩) ?_; simp only [Act.put, List.setIfInBounds_toArray, List.set_cons_zero, List.set_cons_succ, List.getElem_toArray, List.getElem_cons_zero, List.getElem_cons_succ]) | (refine TakeSeq.step (v := ?_) rfl (Or.inl ⟨by rfl, ?_⟩) ?_; rotate_left 1; (focus (intro wq hSq; have hrd := hSq.rule; go_simp; with_reducible rfl)); simp only [Act.put, List.setIfInBounds_toArray, List.set_cons_zero, List.set_cons_succ, List.getElem_toArray, List.getElem_cons_zero, List.getElem_cons_succ]))
  refine TakeSeq.done ?_
  refine wpAnyH_ready (rs := [16]) (by kernel_rfl) (by simp) ?_
  refine AllReadyH.cons rfl (fun K hK => ?_) (AllReadyH.nil)
  rw [if_pos (by rfl)]
  go_simp
  refine hK.out _ _ (⟨(HY.out.2.1.aside (by simp; omega) _).aside (by simp; omega) _⟩) (fun hHeld => ?_)
  clear hK K
  refine wpAnyH_seq (is := [17]) (by kernel_rfl) (by kernel_rfl) (fun _ _ d _ _ h => by cases d <;> exact h) (by assumption) ?_
  iterate 1 (first | (refine TakeSeq.step (v := undef) rfl (Or.inr ⟨by rfl, rfl⟩) ?_; simp only [Act.put, List.setIfInBounds_toArray, List.set_cons_zero, List.set_cons_succ, List.getElem_toArray, List.getElem_cons_zero, List.getElem_cons_succ]) | (refine TakeSeq.step (v := ?_) rfl (Or.inl ⟨by rfl, ?_⟩) ?_; rotate_left 1; (focus (intro wq hSq; have hrd := hSq.rule; go_simp; with_reducible rfl)); simp only [Act.put, List.setIfInBounds_toArray, List.set_cons_zero, List.set_cons_succ, List.getElem_toArray, List.getElem_cons_zero, List.getElem_cons_succ]))
  refine TakeSeq.done ?_
  refine wpAnyH_done (by kernel_rfl) ?_ _
  go_wp2_with fail
  have hx := HY.out
  have ho2 : Over t w ((w4.setCell ⟨w.heap.size, 0, none⟩ (.int .i64 0)).setCell ⟨w.heap.size, 1, none⟩ (.int .i64 0)) := (hx.2.2.2.own (by simp) _).own (by simp) _
  have ho3 : Over w.heap.size w4 ((w4.setCell ⟨w.heap.size, 0, none⟩ (.int .i64 0)).setCell ⟨w.heap.size, 1, none⟩ (.int .i64 0)) := by (repeat (first | with_reducible exact Over.refl _ _ | with_reducible assumption | with_reducible refine Over.put ?_ _ _ | with_reducible refine Over.alloc ?_ _ | with_reducible refine Over.drew ?_ | with_reducible refine Over.own ?_ (by first | (simp; done) | (simp; omega)) _ | with_reducible refine Over.trans ?_ (by assumption) | with_reducible refine Over.then_below ?_ (by assumption)))
  refine bodyPost_ret (results_bt rfl _ _ w.heap.size _ _ _ rfl (Blk.all2 hx.1 _ _) Tryz.underlying43 rfl (by kernel_rfl)) rfl
    ⟨ck, by rw [← HOK.out]; rfl, hx.2.2.1.over ho3 hx.1 (by decide) (by decide) (by decide) (by decide) (by decide), ho2⟩
end Go.Proofs.YtoidjgongafnkaaGreatDoor
