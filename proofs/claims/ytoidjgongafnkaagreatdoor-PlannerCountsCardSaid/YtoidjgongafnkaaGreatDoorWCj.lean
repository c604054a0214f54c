/- Package commit: a job is valid. -/
import Derived.Test.YtoidjgongafnkaaGreatDoorQd
import Derived.Test.YtoidjgongafnkaaGreatDoorWCi
set_option linter.unusedVariables false
set_option linter.unusedSimpArgs false
set_option linter.unusedSectionVars false
set_option linter.constructorNameAsVariable false
namespace Go.Proofs.YtoidjgongafnkaaGreatDoor
open Go.RowKit

def jobCells (vm vr vw : Value) : Array Value := #[.int .i64 0, .int .i64 1, .int .i64 108, .int .i64 0, vm, vr, vw]
/-- A job of m members, r pages that are read, k that are written. -/
structure JobAt (w : World) (lo m r k : Nat) (vm vr vw : Value) : Prop where
  mem : w.ownsRow lo 75 3 vm m (memCells m)
  reads : w.ownsRow lo 38 2 vr r (seenCells r)
  writes : w.ownsRow lo 36 9 vw k (pgCells k)
  m1 : 1 ≤ m
  m4 : m ≤ 4
  r4 : r ≤ 4
  k4 : k ≤ 4
theorem JobAt.below {w w' : World} {lo m r k : Nat} {vm vr vw : Value} (h : JobAt w lo m r k vm vr vw) (hb : Below w.heap.size w w') : JobAt w' lo m r k vm vr vw :=
  ⟨own_below h.mem hb, own_below h.reads hb, own_below h.writes hb, h.m1, h.m4, h.r4, h.k4⟩

set_option maxRecDepth 10000 in
set_option maxHeartbeats 1000000 in
theorem jobWrites_no (lo m r k : Nat) (vm vr vw : Value) (l : Int) (hl : 100 ≤ l) (w : World) (h : JobAt w lo m r k vm vr vw) :
    Calls Tryz.prog 38 #[.agg (jobCells vm vr vw), .int .i64 l] w fun e w' => e = .returned (.bool false) ∧ Below w.heap.size w w' := by
  unfold jobCells
  obtain ⟨pw, cw, rfl⟩ := own_shape h.writes
  have HO := Lib.hid h.writes
  have hm1 := own_one h.mem
  have hr1 := own_one h.reads
  have k4 := h.k4
  clear h
  go_enter Tryz.func38, Tryz.ntmps38
  go_wp2_with fail
  obtain ⟨W, hW⟩ : ∃ W, W = w.alloc (.cells #[.int .i64 0, .int .i64 1, .int .i64 108, .int .i64 0, vm, vr, .slice pw k cw] 32) := ⟨_, rfl⟩
  rw [← hW]
  have hbw : Below w.heap.size w W := hW ▸ below_alloc (Below.refl _ _) _
  have HBW := Lib.hid hbw
  have HOW := Lib.hid (own_below HO.out hbw)
  clear hW hbw
  go_loopw [10] (fun i wr => MvA k W i wr) (fun i _ => ((k : Int) - intOf i).toNat)
  case atStart => exact ⟨0, by omega, rfl, Lib.hid (Below.refl _ _)⟩
  case round =>
    obtain ⟨j, hk, rfl, H⟩ := hrel
    have hb2 : Below W.heap.size W wr := H.out
    by_cases hk2 : j < k
    · have b1 : decide ((j : Int) < k) = true := by simp; omega
      have bk0 : (0 : Int) ≤ j := by omega
      have bk1 : (j : Int) < k := by omega
      obtain ⟨g, cap, hv⟩ := own_form HOW.out (by omega)
      simp only [Value.slice.injEq, true_and] at hv
      obtain ⟨rfl, rfl⟩ := hv
      have HC : Hid (∀ i, i < k → ∀ j, j < 9 → W.cell? ⟨g, i * 9 + j, none⟩ = (pgVals (96 + (i : Int)))[j]?) := Lib.hid (fun k hk j hj => pg_cell HOW.out k hk j hj)
      have HG := Lib.hid (own_lt HOW.out).2
      have b3 : (96 + (j : Int) == l) = false := by simp; omega
      have c0 : wr.cell? ⟨g, j * 9, none⟩ = some (.int .i64 (96 + (j : Int))) := (H.out.cell (p := ⟨g, j * 9, none⟩) HG.out).trans (HC.out j (by assumption) 0 (by omega))
      have c1 : wr.cell? ⟨g, j * 9 + 1, none⟩ = some (.int .u64 256) := (H.out.cell (p := ⟨g, j * 9 + 1, none⟩) HG.out).trans (HC.out j (by assumption) 1 (by omega))
      have c2 : wr.cell? ⟨g, j * 9 + 2, none⟩ = some (.int .u64 0) := (H.out.cell (p := ⟨g, j * 9 + 2, none⟩) HG.out).trans (HC.out j (by assumption) 2 (by omega))
      have c3 : wr.cell? ⟨g, j * 9 + 3, none⟩ = some (.int .u64 0) := (H.out.cell (p := ⟨g, j * 9 + 3, none⟩) HG.out).trans (HC.out j (by assumption) 3 (by omega))
      have c4 : wr.cell? ⟨g, j * 9 + 4, none⟩ = some (.int .u64 0) := (H.out.cell (p := ⟨g, j * 9 + 4, none⟩) HG.out).trans (HC.out j (by assumption) 4 (by omega))
      have c5 : wr.cell? ⟨g, j * 9 + 5, none⟩ = some (.int .u64 0) := (H.out.cell (p := ⟨g, j * 9 + 5, none⟩) HG.out).trans (HC.out j (by assumption) 5 (by omega))
      have c6 : wr.cell? ⟨g, j * 9 + 6, none⟩ = some (.int .u64 0) := (H.out.cell (p := ⟨g, j * 9 + 6, none⟩) HG.out).trans (HC.out j (by assumption) 6 (by omega))
      have c7 : wr.cell? ⟨g, j * 9 + 7, none⟩ = some (.int .u64 0) := (H.out.cell (p := ⟨g, j * 9 + 7, none⟩) HG.out).trans (HC.out j (by assumption) 7 (by omega))
      have c8 : wr.cell? ⟨g, j * 9 + 8, none⟩ = some (.int .u64 0) := (H.out.cell (p := ⟨g, j * 9 + 8, none⟩) HG.out).trans (HC.out j (by assumption) 8 (by omega))
      go_wp2_with fail
      exact ⟨⟨j + 1, by omega, by simp, Lib.hid (by (repeat (first | with_reducible exact Below.refl _ _ | with_reducible assumption | with_reducible refine Below.setCell ?_ (by first | (simp; done) | (simp; omega)) _ | with_reducible refine below_alloc ?_ _ | with_reducible refine below_drewN ?_ _ | with_reducible refine Below.drew ?_ | with_reducible refine below_step ?_ (by assumption))))⟩, by simp [intOf]; omega⟩
    · have b1 : decide ((j : Int) < k) = false := by simp; omega
      go_wp2_with fail
      refine bodyPost_ret (results_tmp rfl _ _ _) rfl ⟨rfl, below_step HBW.out H.out⟩

theorem record_any (pm pr pw : Option Addr) (nm cm nr cr nw cw : Nat) (w : World) :
    Calls Tryz.prog 35 #[.agg (jobCells (.slice pm nm cm) (.slice pr nr cr) (.slice pw nw cw))] w fun e w' => e = .returned (.agg #[.int .i64 1, .slice pw nw cw]) ∧ Below w.heap.size w w' := by
  unfold jobCells
  go_enter Tryz.func35, Tryz.ntmps35
  go_wp2
  refine bodyPost_ret (results_b rfl _ _ (w.heap.size + 1) 113 _ _ rfl (made22 w) Tryz.underlying113 rfl (by kernel_rfl)) rfl ⟨rfl, by (repeat (first | with_reducible exact Below.refl _ _ | with_reducible assumption | with_reducible refine Below.setCell ?_ (by first | (simp; done) | (simp; omega)) _ | with_reducible refine below_alloc ?_ _ | with_reducible refine below_drewN ?_ _ | with_reducible refine Below.drew ?_ | with_reducible refine below_step ?_ (by assumption)))⟩

set_option maxRecDepth 10000 in
set_option maxHeartbeats 2000000 in
theorem commitValid_ok (lo m r k : Nat) (vm vr vw : Value) (w : World) (h : JobAt w lo m r k vm vr vw) :
    Calls Tryz.prog 16 #[.agg (jobCells vm vr vw)] w fun e w' => e = .returned (.int .i64 0) ∧ Below w.heap.size w w' := by
  unfold jobCells
  obtain ⟨gm, cm, rfl⟩ := own_form h.mem (by have := h.m1; omega)
  obtain ⟨pr, cr, rfl⟩ := own_shape h.reads
  obtain ⟨pw, cw, rfl⟩ := own_shape h.writes
  have HJ := Lib.hid h
  have m1 := h.m1
  have m4 := h.m4
  have r4 := h.r4
  have k4 := h.k4
  clear h
  have b2 : decide ((24 : Int) < r) = false := decide_eq_false (by omega)
  go_enter Tryz.func16, Tryz.ntmps16
  go_wp2_with fail
  go_at_call 33
  refine (viewValid_ok m gm cm lo m1 (by omega) _ (own_below HJ.out.mem (below_alloc (Below.refl _ _) _))).mono ?_
  rintro e w1 ⟨rfl, hb⟩
  have B1 := (made1 w (t := 32) (cs := #[.int .i64 0, .int .i64 1, .int .i64 108, .int .i64 0, .slice (some ⟨gm, 0, none⟩) m cm, .slice pr r cr, .slice pw k cw])).kept hb
  have k1 := B1.cell
  have HB1 := Lib.hid (show Below w.heap.size w w1 by (repeat (first | with_reducible exact Below.refl _ _ | with_reducible assumption | with_reducible refine Below.setCell ?_ (by first | (simp; done) | (simp; omega)) _ | with_reducible refine below_alloc ?_ _ | with_reducible refine below_drewN ?_ _ | with_reducible refine Below.drew ?_ | with_reducible refine below_step ?_ (by assumption))))
  clear hb
  rcases k with _ | k
  case' zero =>
    go_upto_region 12 with (fail)
    obtain ⟨W, hW⟩ : ∃ W, W = w1 := ⟨_, rfl⟩
    rw [← hW] at HB1 B1 ⊢
    have BW := B1
    have HBW := HB1
    clear B1 HB1 k1 hW
  case' succ =>
    have b3 : decide ((0 : Int) < ((k + 1 : Nat) : Int)) = true := decide_eq_true (by omega)
    obtain ⟨gw, capw, hv⟩ := own_form HJ.out.writes (by omega)
    simp only [Value.slice.injEq, true_and] at hv
    obtain ⟨rfl, rfl⟩ := hv
    have hlt1 : w.heap.size < w1.heap.size := B1.lt
    go_wp2_with fail
    refine wp_region_held_drew (S := SteadyAll _) (by kernel_rfl) (SteadyAll.of (Below.refl _ _).drew) ?_
    intro hSt
    refine wpAnyH_seq (is := [0, 2, 3]) (by kernel_rfl) (by kernel_rfl) (fun _ _ d _ _ h => by cases d <;> exact h) (by assumption) ?_
    iterate 3 (first | (refine TakeSeq.step (v := undef) rfl (Or.inr ⟨by rfl, rfl⟩) ?_; simp only [Act.put, List.setIfInBounds_toArray, List.set_cons_zero, List.set_cons_succ, List.getElem_toArray, List.getElem_cons_zero, List.getElem_cons_succ]) | (refine TakeSeq.step (v := ?_) rfl (Or.inl ⟨by rfl, ?_⟩) ?_; rotate_left 1; (focus (intro wq hSq; have hrd := hSq.rule; go_simp; with_reducible rfl)); simp only [Act.put, List.setIfInBounds_toArray, List.set_cons_zero, List.set_cons_succ, List.getElem_toArray, List.getElem_cons_zero, List.getElem_cons_succ]))
    refine TakeSeq.done ?_
    refine wpAnyH_ready (rs := [1]) (by kernel_rfl) (by simp) ?_
    refine AllReadyH.cons rfl (fun K hK => ?_) (AllReadyH.nil)
    rw [if_pos (by rfl)]
    go_simp
    go_at_call 35; refine (record_any _ _ _ _ _ _ _ _ _ _).mono ?_; rintro e w2 ⟨rfl, hb2⟩
    go_wp2_with fail
    refine hK.out _ _ (SteadyAll.of (by (repeat (first | with_reducible exact Below.refl _ _ | with_reducible assumption | with_reducible refine Below.setCell ?_ (by first | (simp; done) | (simp; omega)) _ | with_reducible refine below_alloc ?_ _ | with_reducible refine below_drewN ?_ _ | with_reducible refine Below.drew ?_ | with_reducible refine below_step ?_ (by assumption))))) (fun hHeld => ?_)
    clear hK K
    refine wpAnyH_ready (rs := [4]) (by kernel_rfl) (by simp) ?_
    refine AllReadyH.cons rfl (fun K hK => ?_) (AllReadyH.nil)
    rw [if_pos (by rfl)]
    go_simp
    go_at_call 34; refine (recValid_ok (k + 1) gw cw lo 108 (by omega) (by omega) (by omega) (by omega) (by omega) _ (own_below (own_drew (own_below HJ.out.writes HB1.out)) hb2)).mono ?_; rintro e W ⟨rfl, hb3⟩
    go_wp2_with fail
    refine hK.out _ _ (SteadyAll.of (by (repeat (first | with_reducible exact Below.refl _ _ | with_reducible assumption | with_reducible refine Below.setCell ?_ (by first | (simp; done) | (simp; omega)) _ | with_reducible refine below_alloc ?_ _ | with_reducible refine below_drewN ?_ _ | with_reducible refine Below.drew ?_ | with_reducible refine below_step ?_ (by assumption))))) (fun hHeld => ?_)
    clear hK K
    refine wpAnyH_seq (is := [5]) (by kernel_rfl) (by kernel_rfl) (fun _ _ d _ _ h => by cases d <;> exact h) (by assumption) ?_
    iterate 1 (first | (refine TakeSeq.step (v := undef) rfl (Or.inr ⟨by rfl, rfl⟩) ?_; simp only [Act.put, List.setIfInBounds_toArray, List.set_cons_zero, List.set_cons_succ, List.getElem_toArray, List.getElem_cons_zero, List.getElem_cons_succ]) | (refine TakeSeq.step (v := ?_) rfl (Or.inl ⟨by rfl, ?_⟩) ?_; rotate_left 1; (focus (intro wq hSq; have hrd := hSq.rule; go_simp; with_reducible rfl)); simp only [Act.put, List.setIfInBounds_toArray, List.set_cons_zero, List.set_cons_succ, List.getElem_toArray, List.getElem_cons_zero, List.getElem_cons_succ]))
    refine TakeSeq.done ?_
    refine wpAnyH_done (by kernel_rfl) ?_ _
    have hb5 : Below w1.heap.size w1 W := by (repeat (first | with_reducible exact Below.refl _ _ | with_reducible assumption | with_reducible refine Below.setCell ?_ (by first | (simp; done) | (simp; omega)) _ | with_reducible refine below_alloc ?_ _ | with_reducible refine below_drewN ?_ _ | with_reducible refine Below.drew ?_ | with_reducible refine below_step ?_ (by assumption)))
    have BW := B1.below hb5 hlt1
    have HBW := Lib.hid (below_step HB1.out hb5)
    clear B1 hb2 hb3 hb5 k1 hlt1 HB1 hSt hHeld
    go_upto_region 12 with (fail)
  all_goals
    have HBJ : Hid (∀ wr, Below W.heap.size W wr → Blk wr w.heap.size 32 _) := Lib.hid (fun wr h => BW.kept h)
    have HJW : Hid (∀ wr, Below W.heap.size W wr → JobAt wr lo m r _ _ _ _) := Lib.hid (fun wr h => (HJ.out.below HBW.out).below h)
    have HXW : Hid (w.heap.size < W.heap.size) := Lib.hid BW.lt
    have kW := BW.cell
    clear BW
    go_wp2_with fail
    clear kW
    go_loopw [50] (fun i wr => MvA r W i wr) (fun i _ => ((r : Int) - intOf i).toNat)
    case' atStart => exact ⟨0, by omega, rfl, Lib.hid (Below.refl _ _)⟩
    case' round =>
      obtain ⟨j, hk, rfl, H⟩ := hrel
      have hb2 : Below W.heap.size W wr := H.out
      have kw := (HBJ.out wr hb2).cell
      by_cases hk2 : j < r
      · have b1 : decide ((j : Int) < r) = true := by simp; omega
        have bk0 : (0 : Int) ≤ j := by omega
        have bk1 : (j : Int) < r := by omega
        obtain ⟨g, cap, hv⟩ := own_form (HJW.out wr hb2).reads (by omega)
        simp only [Value.slice.injEq, true_and] at hv
        obtain ⟨rfl, rfl⟩ := hv
        obtain ⟨c0, c1⟩ := seen_cell (HJW.out wr hb2).reads j hk2
        have xw : w.heap.size < wr.heap.size := Nat.lt_of_lt_of_le HXW.out hb2.size
        go_wp2_with (go_at_call 36; refine (inHeap_ok (101 + (j : Int)) (by omega) (by omega) _).mono ?_; rintro e w3 ⟨rfl, rfl⟩)
        exact ⟨⟨j + 1, by omega, by simp, Lib.hid (by (repeat (first | with_reducible exact Below.refl _ _ | with_reducible assumption | with_reducible refine Below.setCell ?_ (by first | (simp; done) | (simp; omega)) _ | with_reducible refine below_alloc ?_ _ | with_reducible refine below_drewN ?_ _ | with_reducible refine Below.drew ?_ | with_reducible refine below_step ?_ (by assumption))))⟩, by simp [intOf]; omega⟩
      · have b1 : decide ((j : Int) < r) = false := by simp; omega
        obtain ⟨wo, rfl⟩ : ∃ wo : World, wo = wr := ⟨_, rfl⟩
        go_wp2_with fail
        clear kw
        go_loopw [64] (fun i wr => MvA r W i wr) (fun i _ => ((r : Int) - intOf i).toNat)
        case' atStart => exact ⟨0, by omega, rfl, H⟩
        case' round =>
          clear b1 hb2 H
          obtain ⟨j, hk, rfl, H⟩ := hrel
          have hb2 : Below W.heap.size W wr := H.out
          have kw := (HBJ.out wr hb2).cell
          by_cases hk2 : j < r
          · obtain ⟨g, cap, hv⟩ := own_form (HJW.out wr hb2).reads (by omega)
            simp only [Value.slice.injEq, true_and] at hv
            obtain ⟨rfl, rfl⟩ := hv
            have HSe : Hid (∀ j, j < r → wr.cell? ⟨g, j * 2, none⟩ = some (.int .i64 (101 + (j : Int))) ∧ wr.cell? ⟨g, j * 2 + 1, none⟩ = some (.int .u64 256)) := Lib.hid (fun j hj => seen_cell (HJW.out wr hb2).reads j hj)
            have gw : g < wr.heap.size := (own_lt (HJW.out wr hb2).reads).2
            have xw : w.heap.size < wr.heap.size := Nat.lt_of_lt_of_le HXW.out hb2.size
            rcases j with _ | q
            · have bk1 : (0 : Int) < r := by omega
              obtain ⟨c0, c1⟩ := HSe.out 0 hk2
              have c0' : wr.cell? ⟨g, 0, none⟩ = some (.int .i64 101) := by simpa using c0
              have c1' : wr.cell? ⟨g, 1, none⟩ = some (.int .u64 256) := by simpa using c1
              clear c0 c1
              go_wp2_with fail
              refine wp_region_held_drew (S := SteadyAll _) (by kernel_rfl) (SteadyAll.of (Below.refl _ _).drew) ?_
              intro hSt
              refine wpAnyH_seq (is := [0, 1, 2, 3, 4, 5, 6, 7, 8, 9, 10, 11, 12, 13, 14, 15, 16]) (by kernel_rfl) (by kernel_rfl) (fun _ _ d _ _ h => by cases d <;> exact h) (by assumption) ?_
              iterate 17 (first | (refine TakeSeq.step (v := undef) rfl (Or.inr ⟨by rfl, rfl⟩) ?_; simp only [Act.put, List.setIfInBounds_toArray, List.set_cons_zero, List.set_cons_succ, List.getElem_toArray, List.getElem_cons_zero, List.getElem_cons_succ]) | (refine TakeSeq.step (v := ?_) rfl (Or.inl ⟨by rfl, ?_⟩) ?_; rotate_left 1; (focus (intro wq hSq; have hrd := hSq.rule; go_simp; with_reducible rfl)); simp only [Act.put, List.setIfInBounds_toArray, List.set_cons_zero, List.set_cons_succ, List.getElem_toArray, List.getElem_cons_zero, List.getElem_cons_succ]))
              refine TakeSeq.done ?_
              refine wpAnyH_ready (rs := [17]) (by kernel_rfl) (by simp) ?_
              refine AllReadyH.cons rfl (fun K hK => ?_) (AllReadyH.nil)
              rw [if_pos (by rfl)]
              go_simp
              go_at_call 37; refine (unlocked256 _).mono ?_; rintro e w4 ⟨rfl, rfl⟩
              go_wp2_with fail
              refine hK.out _ _ (SteadyAll.of (by (repeat (first | with_reducible exact Below.refl _ _ | with_reducible assumption | with_reducible refine Below.setCell ?_ (by first | (simp; done) | (simp; omega)) _ | with_reducible refine below_alloc ?_ _ | with_reducible refine below_drewN ?_ _ | with_reducible refine Below.drew ?_ | with_reducible refine below_step ?_ (by assumption))))) (fun hHeld => ?_)
              clear hK K
              refine wpAnyH_seq (is := [18, 19, 20, 21, 22, 23]) (by kernel_rfl) (by kernel_rfl) (fun _ _ d _ _ h => by cases d <;> exact h) (by assumption) ?_
              iterate 6 (first | (refine TakeSeq.step (v := undef) rfl (Or.inr ⟨by rfl, rfl⟩) ?_; simp only [Act.put, List.setIfInBounds_toArray, List.set_cons_zero, List.set_cons_succ, List.getElem_toArray, List.getElem_cons_zero, List.getElem_cons_succ]) | (refine TakeSeq.step (v := ?_) rfl (Or.inl ⟨by rfl, ?_⟩) ?_; rotate_left 1; (focus (intro wq hSq; have hrd := hSq.rule; go_simp; with_reducible rfl)); simp only [Act.put, List.setIfInBounds_toArray, List.set_cons_zero, List.set_cons_succ, List.getElem_toArray, List.getElem_cons_zero, List.getElem_cons_succ]))
              refine TakeSeq.done ?_
              refine wpAnyH_ready (rs := [24]) (by kernel_rfl) (by simp) ?_
              refine AllReadyH.cons rfl (fun K hK => ?_) (AllReadyH.nil)
              rw [if_pos (by rfl)]
              go_simp
              go_at_call 38; refine (jobWrites_no lo m r _ _ _ _ _ (by omega) _ ((HJW.out wr hb2).below (by (repeat (first | with_reducible exact Below.refl _ _ | with_reducible assumption | with_reducible refine Below.setCell ?_ (by first | (simp; done) | (simp; omega)) _ | with_reducible refine below_alloc ?_ _ | with_reducible refine below_drewN ?_ _ | with_reducible refine Below.drew ?_ | with_reducible refine below_step ?_ (by assumption)))))).mono ?_; rintro e w4 ⟨rfl, hb4⟩
              go_wp2_with fail
              refine hK.out _ _ (SteadyAll.of (by (repeat (first | with_reducible exact Below.refl _ _ | with_reducible assumption | with_reducible refine Below.setCell ?_ (by first | (simp; done) | (simp; omega)) _ | with_reducible refine below_alloc ?_ _ | with_reducible refine below_drewN ?_ _ | with_reducible refine Below.drew ?_ | with_reducible refine below_step ?_ (by assumption))))) (fun hHeld => ?_)
              clear hK K
              refine wpAnyH_seq (is := [25]) (by kernel_rfl) (by kernel_rfl) (fun _ _ d _ _ h => by cases d <;> exact h) (by assumption) ?_
              iterate 1 (first | (refine TakeSeq.step (v := undef) rfl (Or.inr ⟨by rfl, rfl⟩) ?_; simp only [Act.put, List.setIfInBounds_toArray, List.set_cons_zero, List.set_cons_succ, List.getElem_toArray, List.getElem_cons_zero, List.getElem_cons_succ]) | (refine TakeSeq.step (v := ?_) rfl (Or.inl ⟨by rfl, ?_⟩) ?_; rotate_left 1; (focus (intro wq hSq; have hrd := hSq.rule; go_simp; with_reducible rfl)); simp only [Act.put, List.setIfInBounds_toArray, List.set_cons_zero, List.set_cons_succ, List.getElem_toArray, List.getElem_cons_zero, List.getElem_cons_succ]))
              refine TakeSeq.done ?_
              refine wpAnyH_done (by kernel_rfl) ?_ _
              go_wp2_with fail
              have hb6 : Below wr.heap.size wr w4 := by (repeat (first | with_reducible exact Below.refl _ _ | with_reducible assumption | with_reducible refine Below.setCell ?_ (by first | (simp; done) | (simp; omega)) _ | with_reducible refine below_alloc ?_ _ | with_reducible refine below_drewN ?_ _ | with_reducible refine Below.drew ?_ | with_reducible refine below_step ?_ (by assumption)))
              exact ⟨⟨1, by omega, rfl, Lib.hid (below_step hb2 hb6)⟩, by simp [intOf]; omega⟩
            · have b1 : decide (((q + 1 : Nat) : Int) < r) = true := decide_eq_true (by omega)
              have bk0 : (0 : Int) ≤ ((q + 1 : Nat) : Int) := by omega
              have bk1 : ((q + 1 : Nat) : Int) < r := by omega
              have e1 : ((q + 1 : Nat) : Int) - 1 = (q : Int) := by omega
              have b4 : decide ((0 : Int) < ((q + 1 : Nat) : Int)) = true := decide_eq_true (by omega)
              have b5 : decide (101 + ((q + 1 : Nat) : Int) ≤ 101 + (q : Int)) = false := decide_eq_false (by omega)
              have bm0 : (0 : Int) ≤ q := by omega
              have bm1 : (q : Int) < r := by omega
              obtain ⟨c0, c1⟩ := HSe.out (q + 1) hk2
              obtain ⟨d0, _⟩ := HSe.out q (by omega)
              go_wp2_with fail
              have b8 : decide ((q : Int) + 1 ≤ (q : Int)) = false := decide_eq_false (by omega)
              have e2 : IntKind.i64.wrap (q : Int) = (q : Int) := by rw [IntKind.wrap_i64]; omega
              refine wp_region_held_drew (S := SteadyAll _) (by kernel_rfl) (SteadyAll.of (Below.refl _ _).drew) ?_
              intro hSt
              refine wpAnyH_seq (is := [0, 1, 2, 3, 4, 5, 6, 7, 8, 9, 10, 11, 12, 13, 14, 15, 16]) (by kernel_rfl) (by kernel_rfl) (fun _ _ d _ _ h => by cases d <;> exact h) (by assumption) ?_
              iterate 17 (first | (refine TakeSeq.step (v := undef) rfl (Or.inr ⟨by rfl, rfl⟩) ?_; simp only [Act.put, List.setIfInBounds_toArray, List.set_cons_zero, List.set_cons_succ, List.getElem_toArray, List.getElem_cons_zero, List.getElem_cons_succ]) | (refine TakeSeq.step (v := ?_) rfl (Or.inl ⟨by rfl, ?_⟩) ?_; rotate_left 1; (focus (intro wq hSq; have hrd := hSq.rule; go_simp; with_reducible rfl)); simp only [Act.put, List.setIfInBounds_toArray, List.set_cons_zero, List.set_cons_succ, List.getElem_toArray, List.getElem_cons_zero, List.getElem_cons_succ]))
              refine TakeSeq.done ?_
              refine wpAnyH_ready (rs := [17]) (by kernel_rfl) (by simp) ?_
              refine AllReadyH.cons rfl (fun K hK => ?_) (AllReadyH.nil)
              rw [if_pos (by rfl)]
              go_simp
              go_at_call 37; refine (unlocked256 _).mono ?_; rintro e w4 ⟨rfl, rfl⟩
              go_wp2_with fail
              refine hK.out _ _ (SteadyAll.of (by (repeat (first | with_reducible exact Below.refl _ _ | with_reducible assumption | with_reducible refine Below.setCell ?_ (by first | (simp; done) | (simp; omega)) _ | with_reducible refine below_alloc ?_ _ | with_reducible refine below_drewN ?_ _ | with_reducible refine Below.drew ?_ | with_reducible refine below_step ?_ (by assumption))))) (fun hHeld => ?_)
              clear hK K
              refine wpAnyH_seq (is := [18, 19, 20, 21, 22, 23]) (by kernel_rfl) (by kernel_rfl) (fun _ _ d _ _ h => by cases d <;> exact h) (by assumption) ?_
              iterate 6 (first | (refine TakeSeq.step (v := undef) rfl (Or.inr ⟨by rfl, rfl⟩) ?_; simp only [Act.put, List.setIfInBounds_toArray, List.set_cons_zero, List.set_cons_succ, List.getElem_toArray, List.getElem_cons_zero, List.getElem_cons_succ]) | (refine TakeSeq.step (v := ?_) rfl (Or.inl ⟨by rfl, ?_⟩) ?_; rotate_left 1; (focus (intro wq hSq; have hrd := hSq.rule; go_simp; with_reducible rfl)); simp only [Act.put, List.setIfInBounds_toArray, List.set_cons_zero, List.set_cons_succ, List.getElem_toArray, List.getElem_cons_zero, List.getElem_cons_succ]))
              refine TakeSeq.done ?_
              refine wpAnyH_ready (rs := [24]) (by kernel_rfl) (by simp) ?_
              refine AllReadyH.cons rfl (fun K hK => ?_) (AllReadyH.nil)
              rw [if_pos (by rfl)]
              go_simp
              go_at_call 38; refine (jobWrites_no lo m r _ _ _ _ _ (by omega) _ ((HJW.out wr hb2).below (by (repeat (first | with_reducible exact Below.refl _ _ | with_reducible assumption | with_reducible refine Below.setCell ?_ (by first | (simp; done) | (simp; omega)) _ | with_reducible refine below_alloc ?_ _ | with_reducible refine below_drewN ?_ _ | with_reducible refine Below.drew ?_ | with_reducible refine below_step ?_ (by assumption)))))).mono ?_; rintro e w4 ⟨rfl, hb4⟩
              go_wp2_with fail
              refine hK.out _ _ (SteadyAll.of (by (repeat (first | with_reducible exact Below.refl _ _ | with_reducible assumption | with_reducible refine Below.setCell ?_ (by first | (simp; done) | (simp; omega)) _ | with_reducible refine below_alloc ?_ _ | with_reducible refine below_drewN ?_ _ | with_reducible refine Below.drew ?_ | with_reducible refine below_step ?_ (by assumption))))) (fun hHeld => ?_)
              clear hK K
              refine wpAnyH_seq (is := [25]) (by kernel_rfl) (by kernel_rfl) (fun _ _ d _ _ h => by cases d <;> exact h) (by assumption) ?_
              iterate 1 (first | (refine TakeSeq.step (v := undef) rfl (Or.inr ⟨by rfl, rfl⟩) ?_; simp only [Act.put, List.setIfInBounds_toArray, List.set_cons_zero, List.set_cons_succ, List.getElem_toArray, List.getElem_cons_zero, List.getElem_cons_succ]) | (refine TakeSeq.step (v := ?_) rfl (Or.inl ⟨by rfl, ?_⟩) ?_; rotate_left 1; (focus (intro wq hSq; have hrd := hSq.rule; go_simp; with_reducible rfl)); simp only [Act.put, List.setIfInBounds_toArray, List.set_cons_zero, List.set_cons_succ, List.getElem_toArray, List.getElem_cons_zero, List.getElem_cons_succ]))
              refine TakeSeq.done ?_
              refine wpAnyH_done (by kernel_rfl) ?_ _
              go_wp2_with fail
              have hb6 : Below wr.heap.size wr w4 := by (repeat (first | with_reducible exact Below.refl _ _ | with_reducible assumption | with_reducible refine Below.setCell ?_ (by first | (simp; done) | (simp; omega)) _ | with_reducible refine below_alloc ?_ _ | with_reducible refine below_drewN ?_ _ | with_reducible refine Below.drew ?_ | with_reducible refine below_step ?_ (by assumption)))
              exact ⟨⟨q + 1 + 1, by omega, by simp, Lib.hid (below_step hb2 hb6)⟩, by simp [intOf]; omega⟩
          · have b1 : decide ((j : Int) < r) = false := by simp; omega
            go_wp2_with fail
            refine bodyPost_ret (results_tmp rfl _ _ _) rfl ⟨rfl, below_step HBW.out H.out⟩
end Go.Proofs.YtoidjgongafnkaaGreatDoor
