/- bodegalaw24.TreeRoots: the walk, given awake. -/
import Derived.Test.YtjmpekanlmepmaaGreatDoorWM4
import Derived.Test.YtjmpekanlmepmaaGreatDoorWV1
import Derived.Deep.DeepCutAuto
set_option linter.unusedVariables false
set_option linter.unusedSimpArgs false
set_option linter.unusedSectionVars false
set_option linter.constructorNameAsVariable false
namespace Go.Proofs.YtjmpekanlmepmaaGreatDoor
open Go.RowKit

theorem readRoot_write (p : Bt.Page) (q : Bt.Ptr) (l : Int) (h : Bt.validRoot q l = true) : Bt.readRoot (Bt.writeRoot p q l) = some (q, l) := by
  have hp := Bt.pack_lt q
  have hu : Bt.unpack (Bt.pack q) = q := Bt.unpack_pack (by
    unfold Bt.validRoot at h
    split at h
    · left; assumption
    · right; simp only [Bool.and_eq_true] at h; exact h.1.1)
  unfold Bt.readRoot Bt.writeRoot
  simp only
  rw [show (Bt.pack q + l * 4294967296) % 4294967296 = Bt.pack q by omega, show (Bt.pack q + l * 4294967296) / 4294967296 = l by omega, hu, if_pos h]
theorem writeRoot_ok {p : Bt.Page} (hp : p.Ok) (q : Bt.Ptr) (l : Int) (h : Bt.validRoot q l = true) : (Bt.writeRoot p q l).Ok := by
  have hpk := Bt.pack_lt q
  have hl : 0 ≤ l ∧ l ≤ 8 := by
    unfold Bt.validRoot at h
    split at h
    · simp only [decide_eq_true_eq] at h; omega
    · simp only [Bool.and_eq_true, decide_eq_true_eq] at h; omega
  exact ⟨hp.head, by show 0 ≤ Bt.pack q + l * 4294967296 ∧ Bt.pack q + l * 4294967296 < 18446744073709551616; omega, hp.d1, hp.d2, hp.d3, hp.d4, hp.d5, hp.d6⟩

theorem ReadRoot_res (p : Bt.Page) (hp : p.Ok) (w : World) (hg : NoneAt w) : Calls Tryz.prog 15 #[.agg p.cells] w
    fun e w' => e = .returned (.tuple #[.agg (rootRes p).1.cells, .int .i64 (rootRes p).2.1, .int .i64 (rootRes p).2.2]) ∧ Below w.heap.size w w' := by
  by_cases h : p.line = 96
  · refine (ReadRoot_any p hp h w hg).mono ?_
    rintro e w' ⟨h1, h2⟩
    refine ⟨?_, h2⟩
    unfold rootRes
    rw [if_pos h]
    cases hr : Bt.readRoot p with
    | none => rw [hr] at h1; exact h1
    | some x => obtain ⟨q, l⟩ := x; rw [hr] at h1; exact h1
  · rw [rootRes_off p h]
    exact ReadRoot_off p h w hg
theorem WriteRoot_res (p : Bt.Page) (q : Bt.Ptr) (l : Int) (w : World) (hg : NoneAt w) : Calls Tryz.prog 17 #[.agg p.cells, .agg q.cells, .int .i64 l] w
    fun e w' => e = .returned (.tuple #[.agg (rootWritten p q l).1.cells, .int .i64 (rootWritten p q l).2]) ∧ Below w.heap.size w w' := by
  by_cases h : p.line = 96 ∧ Bt.validRoot q l = true
  · unfold rootWritten
    rw [if_pos h]
    exact WriteRoot_any p q l h.1 h.2 w hg
  · have h' : p.line ≠ 96 ∨ Bt.validRoot q l = false := by
      by_cases h1 : p.line = 96
      · right
        cases hv : Bt.validRoot q l with
        | false => rfl
        | true => exact absurd ⟨h1, hv⟩ h
      · exact .inl h1
    rw [rootWritten_bad p q l h']
    exact WriteRoot_bad p q l h' w hg

/-- Behind the first 'if': the page, the pointer, the level. -/
def RootsCut (w : World) (s2 : Value) (wx : World) : Prop :=
  ∃ (p : Bt.Page) (q : Bt.Ptr) (l : Int), p.Ok ∧ s2 = .int .i64 l ∧ Blk wx w.heap.size 25 p.cells ∧ Blk wx (w.heap.size + 1) 27 q.cells ∧ Below w.heap.size w wx

/-- The page that the reference has written lies in a block of its own. -/
def WroteCut (z : Bt.Page) (c : Int) (W : World) (s17 s18 : Value) (wx : World) : Prop :=
  ∃ O, s17 = .pointer (some ⟨O, 0, none⟩) ∧ s18 = .int .i64 c ∧ W.heap.size ≤ O ∧ Blk wx O 25 z.cells ∧ Below W.heap.size W wx

theorem u64_range (x : Int) : 0 ≤ IntKind.u64.wrap x ∧ IntKind.u64.wrap x < 18446744073709551616 := by rw [IntKind.wrap_u64]; omega

set_option maxRecDepth 10000 in
set_option maxHeartbeats 4000000 in
theorem roots_walk (p : Bt.Page) (hp : p.Ok) (q : Bt.Ptr) (hl : -9223372036854775808 ≤ q.line ∧ q.line ≤ 9223372036854775807) (hg : -9223372036854775808 ≤ q.gen ∧ q.gen ≤ 9223372036854775807) (l k : Int) (hlr : -9223372036854775808 ≤ l ∧ l ≤ 9223372036854775807) (hkr : -9223372036854775808 ≤ k ∧ k ≤ 9223372036854775807)
    (w : World) (hn : NoneAt w) (HA : Hid (∀ w', NoneAt w' → Calls Tryz.prog 21 #[] w' fun e w'' => e = .returned (.bool true) ∧ Below w'.heap.size w' w'')) :
    Calls Tryz.prog 3 #[.agg p.cells, .agg q.cells, .int .i64 l, .int .i64 k] w fun e w' => e = .returned (.bool true) ∧ Below w.heap.size w w' := by
  have HN := Lib.hid hn
  have HP := Lib.hid hp
  have h12 := Int.emod_lt_of_pos l (show (0 : Int) < 12 by omega)
  have h13 := Int.emod_nonneg l (show (12 : Int) ≠ 0 by omega)
  have e12 : IntKind.i64.wrap (pick l 12 - 1) = pick l 12 - 1 := by unfold pick; rw [IntKind.wrap_i64]; omega
  have e12' : wrap64 (pick l 12 - 1) = pick l 12 - 1 := by unfold pick wrap64; omega
  clear hn hp
  unfold Bt.Page.cells Bt.Ptr.cells
  go_enter Tryz.func3, Tryz.ntmps3
  go_upto_if 24 with (go_at_call 13; refine (Pick_any k 6 hkr (by omega) _).mono ?_; rintro e w1 ⟨rfl, rfl⟩)
  go_cut [2] (RootsCut w)
  case first =>
    by_cases hpk : 0 < pick k 6
    · by_cases ha : q.gen.tmod 7 = 0
      · have HAI := Lib.hid ha
        clear ha
        go_wp2_with fail
        go_at_call 14; refine (aim_nil q _ HAI.out).mono ?_; rintro e w1 ⟨rfl, hb1⟩; simp only [Bt.Ptr.cells, Bt.nilP]; ((obtain ⟨hc1, hf1⟩ := below_rules hb1; have hs1 := Below.size hb1; try simp only [size_alloc, size_setCell, size_drew, size_drewN] at hs1 hc1 hf1); (try have z1_w_0 : w.heap.size < w1.heap.size := by omega); (try have z1_w_1 : w.heap.size + 1 < w1.heap.size := by omega))
        have HB1 := Lib.hid hb1
        clear hb1
        go_wp2_with fail
        go_at_call 13; refine (Pick_any l 12 hlr (by omega) _).mono ?_; rintro e w2 ⟨rfl, rfl⟩
        go_wp2_with fail
        go_meet
        generalize hE : IntKind.u64.wrap (IntKind.u64.wrap (p.d0.tmod 3 * _) + _) = E
        have hEr : 0 ≤ E ∧ E < 18446744073709551616 := by rw [← hE]; exact u64_range _
        have hb1 := HB1.out
        have BP0 := Blk.kept (b := w.heap.size) (made12 w) hb1
        have BQ0 := Blk.kept (b := w.heap.size + 1) (made22 w) hb1
        exact ⟨⟨96, p.head, E, p.d1, p.d2, p.d3, p.d4, p.d5, p.d6⟩, Bt.nilP, _, ⟨HP.out.head, hEr, HP.out.d1, HP.out.d2, HP.out.d3, HP.out.d4, HP.out.d5, HP.out.d6⟩, rfl, Blk.cast (by (repeat (first | with_reducible exact BP0 | with_reducible apply Blk.put | with_reducible apply Blk.alloc | (with_reducible apply Blk.aside; (case hp => first | (simp; done) | (simp; omega))) | with_reducible apply Blk.drew))) (by rfl), Blk.cast (by (repeat (first | with_reducible exact BQ0 | with_reducible apply Blk.put | with_reducible apply Blk.alloc | (with_reducible apply Blk.aside; (case hp => first | (simp; done) | (simp; omega))) | with_reducible apply Blk.drew))) (by rfl), by (repeat (first | with_reducible exact Below.refl _ _ | with_reducible assumption | with_reducible refine Below.setCell ?_ (by first | (simp; done) | (simp; omega)) _ | with_reducible refine below_alloc ?_ _ | with_reducible refine below_drewN ?_ _ | with_reducible refine Below.drew ?_ | with_reducible refine below_step ?_ (by assumption)))⟩
      · have HAI := Lib.hid ha
        clear ha
        go_wp2_with fail
        go_at_call 14; refine (aim_some q _ HAI.out hl hg).mono ?_; rintro e w1 ⟨rfl, hb1⟩; simp only [Bt.Ptr.cells]; ((obtain ⟨hc1, hf1⟩ := below_rules hb1; have hs1 := Below.size hb1; try simp only [size_alloc, size_setCell, size_drew, size_drewN] at hs1 hc1 hf1); (try have z1_w_0 : w.heap.size < w1.heap.size := by omega); (try have z1_w_1 : w.heap.size + 1 < w1.heap.size := by omega))
        have HB1 := Lib.hid hb1
        clear hb1
        go_wp2_with fail
        go_at_call 13; refine (Pick_any l 12 hlr (by omega) _).mono ?_; rintro e w2 ⟨rfl, rfl⟩
        go_wp2_with fail
        go_meet
        generalize hE : IntKind.u64.wrap (IntKind.u64.wrap (p.d0.tmod 3 * _) + _) = E
        have hEr : 0 ≤ E ∧ E < 18446744073709551616 := by rw [← hE]; exact u64_range _
        have hb1 := HB1.out
        have BP0 := Blk.kept (b := w.heap.size) (made12 w) hb1
        have BQ0 := Blk.kept (b := w.heap.size + 1) (made22 w) hb1
        exact ⟨⟨96, p.head, E, p.d1, p.d2, p.d3, p.d4, p.d5, p.d6⟩, ⟨103 + pick q.line 154, pick q.gen 8⟩, _, ⟨HP.out.head, hEr, HP.out.d1, HP.out.d2, HP.out.d3, HP.out.d4, HP.out.d5, HP.out.d6⟩, rfl, Blk.cast (by (repeat (first | with_reducible exact BP0 | with_reducible apply Blk.put | with_reducible apply Blk.alloc | (with_reducible apply Blk.aside; (case hp => first | (simp; done) | (simp; omega))) | with_reducible apply Blk.drew))) (by rfl), Blk.cast (by (repeat (first | with_reducible exact BQ0 | with_reducible apply Blk.put | with_reducible apply Blk.alloc | (with_reducible apply Blk.aside; (case hp => first | (simp; done) | (simp; omega))) | with_reducible apply Blk.drew))) (by rfl), by (repeat (first | with_reducible exact Below.refl _ _ | with_reducible assumption | with_reducible refine Below.setCell ?_ (by first | (simp; done) | (simp; omega)) _ | with_reducible refine below_alloc ?_ _ | with_reducible refine below_drewN ?_ _ | with_reducible refine Below.drew ?_ | with_reducible refine below_step ?_ (by assumption)))⟩
    · go_wp2_with fail
      go_meet
      exact ⟨p, q, l, HP.out, rfl, made12 w, made22 w, by (repeat (first | with_reducible exact Below.refl _ _ | with_reducible assumption | with_reducible refine Below.setCell ?_ (by first | (simp; done) | (simp; omega)) _ | with_reducible refine below_alloc ?_ _ | with_reducible refine below_drewN ?_ _ | with_reducible refine Below.drew ?_ | with_reducible refine below_step ?_ (by assumption)))⟩
  case rest =>
    obtain ⟨p1, q1, l1, hp1, rfl, BP, BQ, hbc⟩ := hcut
    obtain ⟨⟨ra, rl, rc⟩, hr⟩ : ∃ r, rootRes p1 = r := ⟨_, rfl⟩
    have HR := Lib.hid hr
    have HP1 := Lib.hid hp1
    have HNC := Lib.hid (HN.out.below hbc)
    have HBC := Lib.hid hbc
    have kp := BP.cell
    have kq := BQ.cell
    have hs0 := BQ.lt
    have hs1 := BP.lt
    have n1 := neq_rptr
    have n2 := neq_ptr
    have pr : ∀ a b : Int, peq a b a b = true := fun a b => by simp [peq]
    unfold Bt.Page.cells at kp
    unfold Bt.Ptr.cells at kq
    clear BP BQ hbc hr hp1
    by_cases hv : p1.line = 96 ∧ Bt.validRoot q1 l1 = true
    · obtain ⟨D, hD⟩ : ∃ D, D = (Bt.writeRoot p1 q1 l1).d0 := ⟨_, rfl⟩
      have HW : Hid (rootWritten p1 q1 l1 = (⟨p1.line, p1.head, D, p1.d1, p1.d2, p1.d3, p1.d4, p1.d5, p1.d6⟩, 0)) := Lib.hid (by unfold rootWritten; rw [if_pos hv, hD]; rfl)
      have HZ : Hid (rootRes ⟨p1.line, p1.head, D, p1.d1, p1.d2, p1.d3, p1.d4, p1.d5, p1.d6⟩ = (q1, l1, 0)) := Lib.hid (by
        have e := readRoot_write p1 q1 l1 hv.2
        have e2 : Bt.writeRoot p1 q1 l1 = ⟨p1.line, p1.head, D, p1.d1, p1.d2, p1.d3, p1.d4, p1.d5, p1.d6⟩ := by rw [hD]; rfl
        rw [e2] at e
        unfold rootRes
        rw [if_pos hv.1, e])
      have HZO : Hid ((⟨p1.line, p1.head, D, p1.d1, p1.d2, p1.d3, p1.d4, p1.d5, p1.d6⟩ : Bt.Page).Ok) := Lib.hid (by
        have := writeRoot_ok HP1.out q1 l1 hv.2
        rw [hD]; exact this)
      clear hv hD
      go_wp2_with fail
      go_at_call 15; refine (ReadRoot_res p1 HP1.out _ ?hng).mono ?_
      case hng => exact HNC.out
      rintro e1 w1 ⟨rfl, hb1⟩
      rw [HR.out]; simp only [Bt.Ptr.cells]; ((obtain ⟨hc1, hf1⟩ := below_rules hb1; have hs1 := Below.size hb1; try simp only [size_alloc, size_setCell, size_drew, size_drewN] at hs1 hc1 hf1); (try have z1_w_0 : w.heap.size < w1.heap.size := by omega); (try have z1_w_1 : w.heap.size + 1 < w1.heap.size := by omega))
      have HB1 := Lib.hid hb1
      go_wp2_with fail
      go_at_call 16; refine (refReadRoot_any p1 HP1.out _).mono ?_; rintro e2 w2 ⟨rfl, hb2⟩; rw [HR.out]; simp only [Bt.Ptr.cells]; ((obtain ⟨hc2, hf2⟩ := below_rules hb2; have hs2 := Below.size hb2; try simp only [size_alloc, size_setCell, size_drew, size_drewN] at hs2 hc2 hf2); (try have z2_w_0 : w.heap.size < w2.heap.size := by omega); (try have z2_w_1 : w.heap.size + 1 < w2.heap.size := by omega); (try have z2_w1_0 : w1.heap.size < w2.heap.size := by omega))
      have HB2 := Lib.hid hb2
      go_wp2_with fail
      go_at_call 17; refine (WriteRoot_res p1 q1 l1 _ ?hng2).mono ?_
      case hng2 => exact HNC.out.below (by (repeat (first | with_reducible exact Below.refl _ _ | with_reducible assumption | with_reducible refine Below.setCell ?_ (by first | (simp; done) | (simp; omega)) _ | with_reducible refine below_alloc ?_ _ | with_reducible refine below_drewN ?_ _ | with_reducible refine Below.drew ?_ | with_reducible refine below_step ?_ (by assumption))))
      rintro e3 w3 ⟨rfl, hb3⟩
      rw [HW.out]; simp only [Bt.Page.cells]; ((obtain ⟨hc3, hf3⟩ := below_rules hb3; have hs3 := Below.size hb3; try simp only [size_alloc, size_setCell, size_drew, size_drewN] at hs3 hc3 hf3); (try have z3_w_0 : w.heap.size < w3.heap.size := by omega); (try have z3_w_1 : w.heap.size + 1 < w3.heap.size := by omega); (try have z3_w1_0 : w1.heap.size < w3.heap.size := by omega); (try have z3_w2_0 : w2.heap.size < w3.heap.size := by omega))
      have HB3 := Lib.hid hb3
      have hbA : Below wc.heap.size wc w3 := by (repeat (first | with_reducible exact Below.refl _ _ | with_reducible assumption | with_reducible refine Below.setCell ?_ (by first | (simp; done) | (simp; omega)) _ | with_reducible refine below_alloc ?_ _ | with_reducible refine below_drewN ?_ _ | with_reducible refine Below.drew ?_ | with_reducible refine below_step ?_ (by assumption)))
      have HBA := Lib.hid hbA
      clear hb1 hb2 hb3 hbA
      go_wp2_with fail
      go_cut [17, 18] (WroteCut (⟨p1.line, p1.head, D, p1.d1, p1.d2, p1.d3, p1.d4, p1.d5, p1.d6⟩ : Bt.Page) 0 (w3.alloc (.cells #[.int .i64 p1.line, .int .u64 p1.head, .int .u64 D, .int .u64 p1.d1, .int .u64 p1.d2, .int .u64 p1.d3, .int .u64 p1.d4, .int .u64 p1.d5, .int .u64 p1.d6] 25)))
      case first =>
        refine wp_region_held_drew (S := SteadyAll _) (by kernel_rfl) (SteadyAll.of (Below.refl _ _).drew) ?_
        intro hSt
        refine wpAnyH_seq (is := [0, 1, 3]) (by kernel_rfl) (by kernel_rfl) (fun _ _ d _ _ h => by cases d <;> exact h) (by assumption) ?_
        iterate 3 (first | (refine TakeSeq.step (v := undef) rfl (Or.inr ⟨by rfl, rfl⟩) ?_; simp only [Act.put, List.setIfInBounds_toArray, List.set_cons_zero, List.set_cons_succ, List.getElem_toArray, List.getElem_cons_zero, List.getElem_cons_succ]) | (refine TakeSeq.step (v := ?_) rfl (Or.inl ⟨by rfl, ?_⟩) ?_; rotate_left 1; (focus (intro wq hSq; have hrd := hSq.rule; go_simp; with_reducible rfl)); simp only [Act.put, List.setIfInBounds_toArray, List.set_cons_zero, List.set_cons_succ, List.getElem_toArray, List.getElem_cons_zero, List.getElem_cons_succ]))
        refine TakeSeq.done ?_
        refine wpAnyH_ready (rs := [2, 8]) (by kernel_rfl) (by simp) ?_
        refine AllReadyH.cons rfl (fun K hK => ?_) (AllReadyH.cons rfl (fun K hK => ?_) (AllReadyH.nil))
        · skip
          rw [if_pos (by rfl)]
          go_simp
          go_at_call 19; refine (ref_any q1 _).mono ?_; rintro e4 w4 ⟨rfl, hb4⟩; simp only [Bt.Ptr.cells]; ((obtain ⟨hc4, hf4⟩ := below_rules hb4; have hs4 := Below.size hb4; try simp only [size_alloc, size_setCell, size_drew, size_drewN] at hs4 hc4 hf4); (try have z4_w_0 : w.heap.size < w4.heap.size := by omega); (try have z4_w_1 : w.heap.size + 1 < w4.heap.size := by omega); (try have z4_w1_0 : w1.heap.size < w4.heap.size := by omega); (try have z4_w2_0 : w2.heap.size < w4.heap.size := by omega); (try have z4_w3_0 : w3.heap.size < w4.heap.size := by omega); (try have z4_w3_1 : w3.heap.size + 1 < w4.heap.size := by omega))
          go_wp2_with fail
          refine hK.out _ _ (SteadyAll.of (by (repeat (first | with_reducible exact Below.refl _ _ | with_reducible assumption | with_reducible refine Below.setCell ?_ (by first | (simp; done) | (simp; omega)) _ | with_reducible refine below_alloc ?_ _ | with_reducible refine below_drewN ?_ _ | with_reducible refine Below.drew ?_ | with_reducible refine below_step ?_ (by assumption))))) (fun hHeld => ?_)
          clear hK K
          refine wpAnyH_ready (rs := [4, 8]) (by kernel_rfl) (by simp) ?_
          refine AllReadyH.cons rfl (fun K hK => ?_) (AllReadyH.cons rfl (fun K hK => ?_) (AllReadyH.nil))
          · skip
            rw [if_pos (by rfl)]
            go_simp
            go_at_call 18; refine (refWriteRoot_any p1 q1 l1 _).mono ?_; rintro e5 w5 ⟨rfl, hb5⟩; rw [HW.out]; simp only [Bt.Page.cells]; ((obtain ⟨hc5, hf5⟩ := below_rules hb5; have hs5 := Below.size hb5; try simp only [size_alloc, size_setCell, size_drew, size_drewN] at hs5 hc5 hf5); (try have z5_w_0 : w.heap.size < w5.heap.size := by omega); (try have z5_w_1 : w.heap.size + 1 < w5.heap.size := by omega); (try have z5_w1_0 : w1.heap.size < w5.heap.size := by omega); (try have z5_w2_0 : w2.heap.size < w5.heap.size := by omega); (try have z5_w3_0 : w3.heap.size < w5.heap.size := by omega); (try have z5_w3_1 : w3.heap.size + 1 < w5.heap.size := by omega); (try have z5_w4_0 : w4.heap.size < w5.heap.size := by omega); (try have z5_w4_1 : w4.heap.size + 1 < w5.heap.size := by omega))
            go_wp2_with fail
            refine hK.out _ _ (SteadyAll.of (by (repeat (first | with_reducible exact Below.refl _ _ | with_reducible assumption | with_reducible refine Below.setCell ?_ (by first | (simp; done) | (simp; omega)) _ | with_reducible refine below_alloc ?_ _ | with_reducible refine below_drewN ?_ _ | with_reducible refine Below.drew ?_ | with_reducible refine below_step ?_ (by assumption))))) (fun hHeld => ?_)
            clear hK K
            refine wpAnyH_seq (is := [5, 6, 7]) (by kernel_rfl) (by kernel_rfl) (fun _ _ d _ _ h => by cases d <;> exact h) (by assumption) ?_
            iterate 3 (first | (refine TakeSeq.step (v := undef) rfl (Or.inr ⟨by rfl, rfl⟩) ?_; simp only [Act.put, List.setIfInBounds_toArray, List.set_cons_zero, List.set_cons_succ, List.getElem_toArray, List.getElem_cons_zero, List.getElem_cons_succ]) | (refine TakeSeq.step (v := ?_) rfl (Or.inl ⟨by rfl, ?_⟩) ?_; rotate_left 1; (focus (intro wq hSq; have hrd := hSq.rule; go_simp; with_reducible rfl)); simp only [Act.put, List.setIfInBounds_toArray, List.set_cons_zero, List.set_cons_succ, List.getElem_toArray, List.getElem_cons_zero, List.getElem_cons_succ]))
            refine TakeSeq.done ?_
            refine wpAnyH_ready (rs := [8]) (by kernel_rfl) (by simp) ?_
            refine AllReadyH.cons rfl (fun K hK => ?_) (AllReadyH.nil)
            rw [if_pos (by rfl)]
            go_simp
            refine hK.out _ _ (SteadyAll.of (by (repeat (first | with_reducible exact Below.refl _ _ | with_reducible assumption | with_reducible refine Below.setCell ?_ (by first | (simp; done) | (simp; omega)) _ | with_reducible refine below_alloc ?_ _ | with_reducible refine below_drewN ?_ _ | with_reducible refine Below.drew ?_ | with_reducible refine below_step ?_ (by assumption))))) (fun hHeld => ?_)
            clear hK K
            refine wpAnyH_ready (rs := [9]) (by kernel_rfl) (by simp) ?_
            refine AllReadyH.cons rfl (fun K hK => ?_) (AllReadyH.nil)
            rw [if_pos (by rfl)]
            go_simp
            refine hK.out _ _ (SteadyAll.of (by (repeat (first | with_reducible exact Below.refl _ _ | with_reducible assumption | with_reducible refine Below.setCell ?_ (by first | (simp; done) | (simp; omega)) _ | with_reducible refine below_alloc ?_ _ | with_reducible refine below_drewN ?_ _ | with_reducible refine Below.drew ?_ | with_reducible refine below_step ?_ (by assumption))))) (fun hHeld => ?_)
            clear hK K
            refine wpAnyH_seq (is := [10]) (by kernel_rfl) (by kernel_rfl) (fun _ _ d _ _ h => by cases d <;> exact h) (by assumption) ?_
            iterate 1 (first | (refine TakeSeq.step (v := undef) rfl (Or.inr ⟨by rfl, rfl⟩) ?_; simp only [Act.put, List.setIfInBounds_toArray, List.set_cons_zero, List.set_cons_succ, List.getElem_toArray, List.getElem_cons_zero, List.getElem_cons_succ]) | (refine TakeSeq.step (v := ?_) rfl (Or.inl ⟨by rfl, ?_⟩) ?_; rotate_left 1; (focus (intro wq hSq; have hrd := hSq.rule; go_simp; with_reducible rfl)); simp only [Act.put, List.setIfInBounds_toArray, List.set_cons_zero, List.set_cons_succ, List.getElem_toArray, List.getElem_cons_zero, List.getElem_cons_succ]))
            refine TakeSeq.done ?_
            refine wpAnyH_done (by kernel_rfl) ?_ _
            go_wp2_with fail
            go_meet
            exact ⟨_, rfl, rfl, by simp; omega, by repeat (first | with_reducible refine Blk.drew ?_ | exact Blk.made _ _ _), by (repeat (first | with_reducible exact Below.refl _ _ | with_reducible assumption | with_reducible refine Below.setCell ?_ (by first | (simp; done) | (simp; omega)) _ | with_reducible refine below_alloc ?_ _ | with_reducible refine below_drewN ?_ _ | with_reducible refine Below.drew ?_ | with_reducible refine below_step ?_ (by assumption)))⟩
          · skip
            rw [if_pos (by rfl)]
            go_simp
            refine hK.out _ _ (SteadyAll.of (by (repeat (first | with_reducible exact Below.refl _ _ | with_reducible assumption | with_reducible refine Below.setCell ?_ (by first | (simp; done) | (simp; omega)) _ | with_reducible refine below_alloc ?_ _ | with_reducible refine below_drewN ?_ _ | with_reducible refine Below.drew ?_ | with_reducible refine below_step ?_ (by assumption))))) (fun hHeld => ?_)
            clear hK K
            refine wpAnyH_ready (rs := [4]) (by kernel_rfl) (by simp) ?_
            refine AllReadyH.cons rfl (fun K hK => ?_) (AllReadyH.nil)
            rw [if_pos (by rfl)]
            go_simp
            go_at_call 18; refine (refWriteRoot_any p1 q1 l1 _).mono ?_; rintro e5 w5 ⟨rfl, hb5⟩; rw [HW.out]; simp only [Bt.Page.cells]; ((obtain ⟨hc5, hf5⟩ := below_rules hb5; have hs5 := Below.size hb5; try simp only [size_alloc, size_setCell, size_drew, size_drewN] at hs5 hc5 hf5); (try have z5_w_0 : w.heap.size < w5.heap.size := by omega); (try have z5_w_1 : w.heap.size + 1 < w5.heap.size := by omega); (try have z5_w1_0 : w1.heap.size < w5.heap.size := by omega); (try have z5_w2_0 : w2.heap.size < w5.heap.size := by omega); (try have z5_w3_0 : w3.heap.size < w5.heap.size := by omega); (try have z5_w3_1 : w3.heap.size + 1 < w5.heap.size := by omega); (try have z5_w4_0 : w4.heap.size < w5.heap.size := by omega); (try have z5_w4_1 : w4.heap.size + 1 < w5.heap.size := by omega))
            go_wp2_with fail
            refine hK.out _ _ (SteadyAll.of (by (repeat (first | with_reducible exact Below.refl _ _ | with_reducible assumption | with_reducible refine Below.setCell ?_ (by first | (simp; done) | (simp; omega)) _ | with_reducible refine below_alloc ?_ _ | with_reducible refine below_drewN ?_ _ | with_reducible refine Below.drew ?_ | with_reducible refine below_step ?_ (by assumption))))) (fun hHeld => ?_)
            clear hK K
            refine wpAnyH_seq (is := [5, 6, 7]) (by kernel_rfl) (by kernel_rfl) (fun _ _ d _ _ h => by cases d <;> exact h) (by assumption) ?_
            iterate 3 (first | (refine TakeSeq.step (v := undef) rfl (Or.inr ⟨by rfl, rfl⟩) ?_; simp only [Act.put, List.setIfInBounds_toArray, List.set_cons_zero, List.set_cons_succ, List.getElem_toArray, List.getElem_cons_zero, List.getElem_cons_succ]) | (refine TakeSeq.step (v := ?_) rfl (Or.inl ⟨by rfl, ?_⟩) ?_; rotate_left 1; (focus (intro wq hSq; have hrd := hSq.rule; go_simp; with_reducible rfl)); simp only [Act.put, List.setIfInBounds_toArray, List.set_cons_zero, List.set_cons_succ, List.getElem_toArray, List.getElem_cons_zero, List.getElem_cons_succ]))
            refine TakeSeq.done ?_
            refine wpAnyH_ready (rs := [9]) (by kernel_rfl) (by simp) ?_
            refine AllReadyH.cons rfl (fun K hK => ?_) (AllReadyH.nil)
            rw [if_pos (by rfl)]
            go_simp
            refine hK.out _ _ (SteadyAll.of (by (repeat (first | with_reducible exact Below.refl _ _ | with_reducible assumption | with_reducible refine Below.setCell ?_ (by first | (simp; done) | (simp; omega)) _ | with_reducible refine below_alloc ?_ _ | with_reducible refine below_drewN ?_ _ | with_reducible refine Below.drew ?_ | with_reducible refine below_step ?_ (by assumption))))) (fun hHeld => ?_)
            clear hK K
            refine wpAnyH_seq (is := [10]) (by kernel_rfl) (by kernel_rfl) (fun _ _ d _ _ h => by cases d <;> exact h) (by assumption) ?_
            iterate 1 (first | (refine TakeSeq.step (v := undef) rfl (Or.inr ⟨by rfl, rfl⟩) ?_; simp only [Act.put, List.setIfInBounds_toArray, List.set_cons_zero, List.set_cons_succ, List.getElem_toArray, List.getElem_cons_zero, List.getElem_cons_succ]) | (refine TakeSeq.step (v := ?_) rfl (Or.inl ⟨by rfl, ?_⟩) ?_; rotate_left 1; (focus (intro wq hSq; have hrd := hSq.rule; go_simp; with_reducible rfl)); simp only [Act.put, List.setIfInBounds_toArray, List.set_cons_zero, List.set_cons_succ, List.getElem_toArray, List.getElem_cons_zero, List.getElem_cons_succ]))
            refine TakeSeq.done ?_
            refine wpAnyH_done (by kernel_rfl) ?_ _
            go_wp2_with fail
            go_meet
            exact ⟨_, rfl, rfl, by simp; omega, Blk.cast (by have BB := Blk.kept (b := w4.heap.size) (made1 w4) hb5; (repeat (first | with_reducible exact BB | with_reducible apply Blk.put | with_reducible apply Blk.alloc | (with_reducible apply Blk.aside; (case hp => first | (simp; done) | (simp; omega))) | with_reducible apply Blk.drew))) (by rw [set9]; rfl), by (repeat (first | with_reducible exact Below.refl _ _ | with_reducible assumption | with_reducible refine Below.setCell ?_ (by first | (simp; done) | (simp; omega)) _ | with_reducible refine below_alloc ?_ _ | with_reducible refine below_drewN ?_ _ | with_reducible refine Below.drew ?_ | with_reducible refine below_step ?_ (by assumption)))⟩
        · skip
          rw [if_pos (by rfl)]
          go_simp
          refine hK.out _ _ (SteadyAll.of (by (repeat (first | with_reducible exact Below.refl _ _ | with_reducible assumption | with_reducible refine Below.setCell ?_ (by first | (simp; done) | (simp; omega)) _ | with_reducible refine below_alloc ?_ _ | with_reducible refine below_drewN ?_ _ | with_reducible refine Below.drew ?_ | with_reducible refine below_step ?_ (by assumption))))) (fun hHeld => ?_)
          clear hK K
          refine wpAnyH_ready (rs := [2]) (by kernel_rfl) (by simp) ?_
          refine AllReadyH.cons rfl (fun K hK => ?_) (AllReadyH.nil)
          rw [if_pos (by rfl)]
          go_simp
          go_at_call 19; refine (ref_any q1 _).mono ?_; rintro e4 w4 ⟨rfl, hb4⟩; simp only [Bt.Ptr.cells]; ((obtain ⟨hc4, hf4⟩ := below_rules hb4; have hs4 := Below.size hb4; try simp only [size_alloc, size_setCell, size_drew, size_drewN] at hs4 hc4 hf4); (try have z4_w_0 : w.heap.size < w4.heap.size := by omega); (try have z4_w_1 : w.heap.size + 1 < w4.heap.size := by omega); (try have z4_w1_0 : w1.heap.size < w4.heap.size := by omega); (try have z4_w2_0 : w2.heap.size < w4.heap.size := by omega); (try have z4_w3_0 : w3.heap.size < w4.heap.size := by omega); (try have z4_w3_1 : w3.heap.size + 1 < w4.heap.size := by omega))
          go_wp2_with fail
          refine hK.out _ _ (SteadyAll.of (by (repeat (first | with_reducible exact Below.refl _ _ | with_reducible assumption | with_reducible refine Below.setCell ?_ (by first | (simp; done) | (simp; omega)) _ | with_reducible refine below_alloc ?_ _ | with_reducible refine below_drewN ?_ _ | with_reducible refine Below.drew ?_ | with_reducible refine below_step ?_ (by assumption))))) (fun hHeld => ?_)
          clear hK K
          refine wpAnyH_ready (rs := [4]) (by kernel_rfl) (by simp) ?_
          refine AllReadyH.cons rfl (fun K hK => ?_) (AllReadyH.nil)
          rw [if_pos (by rfl)]
          go_simp
          go_at_call 18; refine (refWriteRoot_any p1 q1 l1 _).mono ?_; rintro e5 w5 ⟨rfl, hb5⟩; rw [HW.out]; simp only [Bt.Page.cells]; ((obtain ⟨hc5, hf5⟩ := below_rules hb5; have hs5 := Below.size hb5; try simp only [size_alloc, size_setCell, size_drew, size_drewN] at hs5 hc5 hf5); (try have z5_w_0 : w.heap.size < w5.heap.size := by omega); (try have z5_w_1 : w.heap.size + 1 < w5.heap.size := by omega); (try have z5_w1_0 : w1.heap.size < w5.heap.size := by omega); (try have z5_w2_0 : w2.heap.size < w5.heap.size := by omega); (try have z5_w3_0 : w3.heap.size < w5.heap.size := by omega); (try have z5_w3_1 : w3.heap.size + 1 < w5.heap.size := by omega); (try have z5_w4_0 : w4.heap.size < w5.heap.size := by omega); (try have z5_w4_1 : w4.heap.size + 1 < w5.heap.size := by omega))
          go_wp2_with fail
          refine hK.out _ _ (SteadyAll.of (by (repeat (first | with_reducible exact Below.refl _ _ | with_reducible assumption | with_reducible refine Below.setCell ?_ (by first | (simp; done) | (simp; omega)) _ | with_reducible refine below_alloc ?_ _ | with_reducible refine below_drewN ?_ _ | with_reducible refine Below.drew ?_ | with_reducible refine below_step ?_ (by assumption))))) (fun hHeld => ?_)
          clear hK K
          refine wpAnyH_seq (is := [5, 6, 7]) (by kernel_rfl) (by kernel_rfl) (fun _ _ d _ _ h => by cases d <;> exact h) (by assumption) ?_
          iterate 3 (first | (refine TakeSeq.step (v := undef) rfl (Or.inr ⟨by rfl, rfl⟩) ?_; simp only [Act.put, List.setIfInBounds_toArray, List.set_cons_zero, List.set_cons_succ, List.getElem_toArray, List.getElem_cons_zero, List.getElem_cons_succ]) | (refine TakeSeq.step (v := ?_) rfl (Or.inl ⟨by rfl, ?_⟩) ?_; rotate_left 1; (focus (intro wq hSq; have hrd := hSq.rule; go_simp; with_reducible rfl)); simp only [Act.put, List.setIfInBounds_toArray, List.set_cons_zero, List.set_cons_succ, List.getElem_toArray, List.getElem_cons_zero, List.getElem_cons_succ]))
          refine TakeSeq.done ?_
          refine wpAnyH_ready (rs := [9]) (by kernel_rfl) (by simp) ?_
          refine AllReadyH.cons rfl (fun K hK => ?_) (AllReadyH.nil)
          rw [if_pos (by rfl)]
          go_simp
          refine hK.out _ _ (SteadyAll.of (by (repeat (first | with_reducible exact Below.refl _ _ | with_reducible assumption | with_reducible refine Below.setCell ?_ (by first | (simp; done) | (simp; omega)) _ | with_reducible refine below_alloc ?_ _ | with_reducible refine below_drewN ?_ _ | with_reducible refine Below.drew ?_ | with_reducible refine below_step ?_ (by assumption))))) (fun hHeld => ?_)
          clear hK K
          refine wpAnyH_seq (is := [10]) (by kernel_rfl) (by kernel_rfl) (fun _ _ d _ _ h => by cases d <;> exact h) (by assumption) ?_
          iterate 1 (first | (refine TakeSeq.step (v := undef) rfl (Or.inr ⟨by rfl, rfl⟩) ?_; simp only [Act.put, List.setIfInBounds_toArray, List.set_cons_zero, List.set_cons_succ, List.getElem_toArray, List.getElem_cons_zero, List.getElem_cons_succ]) | (refine TakeSeq.step (v := ?_) rfl (Or.inl ⟨by rfl, ?_⟩) ?_; rotate_left 1; (focus (intro wq hSq; have hrd := hSq.rule; go_simp; with_reducible rfl)); simp only [Act.put, List.setIfInBounds_toArray, List.set_cons_zero, List.set_cons_succ, List.getElem_toArray, List.getElem_cons_zero, List.getElem_cons_succ]))
          refine TakeSeq.done ?_
          refine wpAnyH_done (by kernel_rfl) ?_ _
          go_wp2_with fail
          go_meet
          exact ⟨_, rfl, rfl, by simp, Blk.cast (by have BB := Blk.kept (Blk.kept (b := w3.heap.size + 1) (Blk.drew (Blk.made' (by simp))) hb4) hb5; (repeat (first | with_reducible exact BB | with_reducible apply Blk.put | with_reducible apply Blk.alloc | (with_reducible apply Blk.aside; (case hp => first | (simp; done) | (simp; omega))) | with_reducible apply Blk.drew))) (by rw [set9]; rfl), by (repeat (first | with_reducible exact Below.refl _ _ | with_reducible assumption | with_reducible refine Below.setCell ?_ (by first | (simp; done) | (simp; omega)) _ | with_reducible refine below_alloc ?_ _ | with_reducible refine below_drewN ?_ _ | with_reducible refine Below.drew ?_ | with_reducible refine below_step ?_ (by assumption)))⟩
      case rest =>
        rename World => wd
        obtain ⟨O, rfl, rfl, hO, BO, hbd⟩ := hcut
        ((obtain ⟨hc6, hf6⟩ := below_rules hbd; have hs6 := Below.size hbd; try simp only [size_alloc, size_setCell, size_drew, size_drewN] at hs6 hc6 hf6); (try have z6_w_0 : w.heap.size < wd.heap.size := by omega); (try have z6_w_1 : w.heap.size + 1 < wd.heap.size := by omega); (try have z6_w1_0 : w1.heap.size < wd.heap.size := by omega); (try have z6_w2_0 : w2.heap.size < wd.heap.size := by omega); (try have z6_w3_0 : w3.heap.size < wd.heap.size := by omega))
        have HNW := Lib.hid (HNC.out.below (below_step (below_alloc HBA.out _) hbd))
        have HBW := Lib.hid (below_step (below_step HBC.out (below_alloc HBA.out _)) hbd)
        have gO := BO.cell
        have hOl := BO.lt
        unfold Bt.Page.cells at gO
        clear BO hbd
        go_wp2_with fail
        refine wp_region_held_drew (S := SteadyAll _) (by kernel_rfl) (SteadyAll.of (Below.refl _ _).drew) ?_
        intro hSt
        refine wpAnyH_seq (is := [0, 2]) (by kernel_rfl) (by kernel_rfl) (fun _ _ d _ _ h => by cases d <;> exact h) (by assumption) ?_
        iterate 2 (first | (refine TakeSeq.step (v := undef) rfl (Or.inr ⟨by rfl, rfl⟩) ?_; simp only [Act.put, List.setIfInBounds_toArray, List.set_cons_zero, List.set_cons_succ, List.getElem_toArray, List.getElem_cons_zero, List.getElem_cons_succ]) | (refine TakeSeq.step (v := ?_) rfl (Or.inl ⟨by rfl, ?_⟩) ?_; rotate_left 1; (focus (intro wq hSq; have hrd := hSq.rule; go_simp; with_reducible rfl)); simp only [Act.put, List.setIfInBounds_toArray, List.set_cons_zero, List.set_cons_succ, List.getElem_toArray, List.getElem_cons_zero, List.getElem_cons_succ]))
        refine TakeSeq.done ?_
        refine wpAnyH_ready (rs := [1]) (by kernel_rfl) (by simp) ?_
        refine AllReadyH.cons rfl (fun K hK => ?_) (AllReadyH.nil)
        rw [if_pos (by rfl)]
        go_simp
        go_at_call 19; refine (ref_any ra _).mono ?_; rintro e7 w7 ⟨rfl, hb7⟩; simp only [Bt.Ptr.cells]; ((obtain ⟨hc7, hf7⟩ := below_rules hb7; have hs7 := Below.size hb7; try simp only [size_alloc, size_setCell, size_drew, size_drewN] at hs7 hc7 hf7); (try have z7_w_0 : w.heap.size < w7.heap.size := by omega); (try have z7_w_1 : w.heap.size + 1 < w7.heap.size := by omega); (try have z7_w1_0 : w1.heap.size < w7.heap.size := by omega); (try have z7_w2_0 : w2.heap.size < w7.heap.size := by omega); (try have z7_w3_0 : w3.heap.size < w7.heap.size := by omega))
        go_wp2_with fail
        refine hK.out _ _ (SteadyAll.of (by (repeat (first | with_reducible exact Below.refl _ _ | with_reducible assumption | with_reducible refine Below.setCell ?_ (by first | (simp; done) | (simp; omega)) _ | with_reducible refine below_alloc ?_ _ | with_reducible refine below_drewN ?_ _ | with_reducible refine Below.drew ?_ | with_reducible refine below_step ?_ (by assumption))))) (fun hHeld => ?_)
        clear hK K
        refine wpAnyH_seq (is := [3, 4, 5, 6, 7, 8, 9, 10, 11, 12, 13, 14, 15, 16]) (by kernel_rfl) (by kernel_rfl) (fun _ _ d _ _ h => by cases d <;> exact h) (by assumption) ?_
        iterate 14 (first | (refine TakeSeq.step (v := undef) rfl (Or.inr ⟨by rfl, rfl⟩) ?_; simp only [Act.put, List.setIfInBounds_toArray, List.set_cons_zero, List.set_cons_succ, List.getElem_toArray, List.getElem_cons_zero, List.getElem_cons_succ]) | (refine TakeSeq.step (v := ?_) rfl (Or.inl ⟨by rfl, ?_⟩) ?_; rotate_left 1; (focus (intro wq hSq; have hrd := hSq.rule; go_simp; with_reducible rfl)); simp only [Act.put, List.setIfInBounds_toArray, List.set_cons_zero, List.set_cons_succ, List.getElem_toArray, List.getElem_cons_zero, List.getElem_cons_succ]))
        refine TakeSeq.done ?_
        refine wpAnyH_ready (rs := [17]) (by kernel_rfl) (by simp) ?_
        refine AllReadyH.cons rfl (fun K hK => ?_) (AllReadyH.nil)
        rw [if_pos (by rfl)]
        go_simp
        go_at_call 20; refine (same_self ⟨p1.line, p1.head, D, p1.d1, p1.d2, p1.d3, p1.d4, p1.d5, p1.d6⟩ _).mono ?_; rintro e8 w8 ⟨rfl, hb8⟩; ((obtain ⟨hc8, hf8⟩ := below_rules hb8; have hs8 := Below.size hb8; try simp only [size_alloc, size_setCell, size_drew, size_drewN] at hs8 hc8 hf8); (try have z8_w_0 : w.heap.size < w8.heap.size := by omega); (try have z8_w_1 : w.heap.size + 1 < w8.heap.size := by omega); (try have z8_w1_0 : w1.heap.size < w8.heap.size := by omega); (try have z8_w2_0 : w2.heap.size < w8.heap.size := by omega); (try have z8_w3_0 : w3.heap.size < w8.heap.size := by omega))
        go_wp2_with fail
        refine hK.out _ _ (SteadyAll.of (by (repeat (first | with_reducible exact Below.refl _ _ | with_reducible assumption | with_reducible refine Below.setCell ?_ (by first | (simp; done) | (simp; omega)) _ | with_reducible refine below_alloc ?_ _ | with_reducible refine below_drewN ?_ _ | with_reducible refine Below.drew ?_ | with_reducible refine below_step ?_ (by assumption))))) (fun hHeld => ?_)
        clear hK K
        refine wpAnyH_seq (is := [18, 19, 20, 21, 22, 23, 24]) (by kernel_rfl) (by kernel_rfl) (fun _ _ d _ _ h => by cases d <;> exact h) (by assumption) ?_
        iterate 7 (first | (refine TakeSeq.step (v := undef) rfl (Or.inr ⟨by rfl, rfl⟩) ?_; simp only [Act.put, List.setIfInBounds_toArray, List.set_cons_zero, List.set_cons_succ, List.getElem_toArray, List.getElem_cons_zero, List.getElem_cons_succ]) | (refine TakeSeq.step (v := ?_) rfl (Or.inl ⟨by rfl, ?_⟩) ?_; rotate_left 1; (focus (intro wq hSq; have hrd := hSq.rule; go_simp; with_reducible rfl)); simp only [Act.put, List.setIfInBounds_toArray, List.set_cons_zero, List.set_cons_succ, List.getElem_toArray, List.getElem_cons_zero, List.getElem_cons_succ]))
        refine TakeSeq.done ?_
        refine wpAnyH_done (by kernel_rfl) ?_ _
        go_wp2_with fail
        go_at_call 15; refine (ReadRoot_res ⟨p1.line, p1.head, D, p1.d1, p1.d2, p1.d3, p1.d4, p1.d5, p1.d6⟩ HZO.out _ ?hng3).mono ?_
        case hng3 => exact HNW.out.below (by (repeat (first | with_reducible exact Below.refl _ _ | with_reducible assumption | with_reducible refine Below.setCell ?_ (by first | (simp; done) | (simp; omega)) _ | with_reducible refine below_alloc ?_ _ | with_reducible refine below_drewN ?_ _ | with_reducible refine Below.drew ?_ | with_reducible refine below_step ?_ (by assumption))))
        rintro e9 w9 ⟨rfl, hb9⟩
        rw [HZ.out]; simp only [Bt.Ptr.cells]; ((obtain ⟨hc9, hf9⟩ := below_rules hb9; have hs9 := Below.size hb9; try simp only [size_alloc, size_setCell, size_drew, size_drewN] at hs9 hc9 hf9); (try have z9_w_0 : w.heap.size < w9.heap.size := by omega); (try have z9_w_1 : w.heap.size + 1 < w9.heap.size := by omega); (try have z9_w1_0 : w1.heap.size < w9.heap.size := by omega); (try have z9_w2_0 : w2.heap.size < w9.heap.size := by omega); (try have z9_w3_0 : w3.heap.size < w9.heap.size := by omega))
        go_wp2_with fail
        go_at_call 21; refine (HA.out _ ?hna).mono ?_
        case hna => exact HNW.out.below (by (repeat (first | with_reducible exact Below.refl _ _ | with_reducible assumption | with_reducible refine Below.setCell ?_ (by first | (simp; done) | (simp; omega)) _ | with_reducible refine below_alloc ?_ _ | with_reducible refine below_drewN ?_ _ | with_reducible refine Below.drew ?_ | with_reducible refine below_step ?_ (by assumption))))
        rintro e10 w10 ⟨rfl, hb10⟩
        go_wp2_with fail
        go_ret
        have hbW := HBW.out
        exact ⟨rfl, by (repeat (first | with_reducible exact Below.refl _ _ | with_reducible assumption | with_reducible refine Below.setCell ?_ (by first | (simp; done) | (simp; omega)) _ | with_reducible refine below_alloc ?_ _ | with_reducible refine below_drewN ?_ _ | with_reducible refine Below.drew ?_ | with_reducible refine below_step ?_ (by assumption)))⟩
    · have HW : Hid (rootWritten p1 q1 l1 = (Bt.zeroPage, 1)) := Lib.hid (by unfold rootWritten; rw [if_neg hv])
      clear hv
      go_wp2_with fail
      go_at_call 15; refine (ReadRoot_res p1 HP1.out _ ?hng).mono ?_
      case hng => exact HNC.out
      rintro e1 w1 ⟨rfl, hb1⟩
      rw [HR.out]; simp only [Bt.Ptr.cells]; ((obtain ⟨hc1, hf1⟩ := below_rules hb1; have hs1 := Below.size hb1; try simp only [size_alloc, size_setCell, size_drew, size_drewN] at hs1 hc1 hf1); (try have z1_w_0 : w.heap.size < w1.heap.size := by omega); (try have z1_w_1 : w.heap.size + 1 < w1.heap.size := by omega))
      have HB1 := Lib.hid hb1
      go_wp2_with fail
      go_at_call 16; refine (refReadRoot_any p1 HP1.out _).mono ?_; rintro e2 w2 ⟨rfl, hb2⟩; rw [HR.out]; simp only [Bt.Ptr.cells]; ((obtain ⟨hc2, hf2⟩ := below_rules hb2; have hs2 := Below.size hb2; try simp only [size_alloc, size_setCell, size_drew, size_drewN] at hs2 hc2 hf2); (try have z2_w_0 : w.heap.size < w2.heap.size := by omega); (try have z2_w_1 : w.heap.size + 1 < w2.heap.size := by omega); (try have z2_w1_0 : w1.heap.size < w2.heap.size := by omega))
      have HB2 := Lib.hid hb2
      go_wp2_with fail
      go_at_call 17; refine (WriteRoot_res p1 q1 l1 _ ?hng2).mono ?_
      case hng2 => exact HNC.out.below (by (repeat (first | with_reducible exact Below.refl _ _ | with_reducible assumption | with_reducible refine Below.setCell ?_ (by first | (simp; done) | (simp; omega)) _ | with_reducible refine below_alloc ?_ _ | with_reducible refine below_drewN ?_ _ | with_reducible refine Below.drew ?_ | with_reducible refine below_step ?_ (by assumption))))
      rintro e3 w3 ⟨rfl, hb3⟩
      rw [HW.out]; simp only [Bt.Page.cells]; ((obtain ⟨hc3, hf3⟩ := below_rules hb3; have hs3 := Below.size hb3; try simp only [size_alloc, size_setCell, size_drew, size_drewN] at hs3 hc3 hf3); (try have z3_w_0 : w.heap.size < w3.heap.size := by omega); (try have z3_w_1 : w.heap.size + 1 < w3.heap.size := by omega); (try have z3_w1_0 : w1.heap.size < w3.heap.size := by omega); (try have z3_w2_0 : w2.heap.size < w3.heap.size := by omega))
      have HB3 := Lib.hid hb3
      have hbA : Below wc.heap.size wc w3 := by (repeat (first | with_reducible exact Below.refl _ _ | with_reducible assumption | with_reducible refine Below.setCell ?_ (by first | (simp; done) | (simp; omega)) _ | with_reducible refine below_alloc ?_ _ | with_reducible refine below_drewN ?_ _ | with_reducible refine Below.drew ?_ | with_reducible refine below_step ?_ (by assumption)))
      have HBA := Lib.hid hbA
      clear hb1 hb2 hb3 hbA
      go_wp2_with fail
      go_cut [17, 18] (WroteCut Bt.zeroPage 1 (w3.alloc (.cells #[.int .i64 Bt.zeroPage.line, .int .u64 Bt.zeroPage.head, .int .u64 Bt.zeroPage.d0, .int .u64 Bt.zeroPage.d1, .int .u64 Bt.zeroPage.d2, .int .u64 Bt.zeroPage.d3, .int .u64 Bt.zeroPage.d4, .int .u64 Bt.zeroPage.d5, .int .u64 Bt.zeroPage.d6] 25)))
      case first =>
        refine wp_region_held_drew (S := SteadyAll _) (by kernel_rfl) (SteadyAll.of (Below.refl _ _).drew) ?_
        intro hSt
        refine wpAnyH_seq (is := [0, 1, 3]) (by kernel_rfl) (by kernel_rfl) (fun _ _ d _ _ h => by cases d <;> exact h) (by assumption) ?_
        iterate 3 (first | (refine TakeSeq.step (v := undef) rfl (Or.inr ⟨by rfl, rfl⟩) ?_; simp only [Act.put, List.setIfInBounds_toArray, List.set_cons_zero, List.set_cons_succ, List.getElem_toArray, List.getElem_cons_zero, List.getElem_cons_succ]) | (refine TakeSeq.step (v := ?_) rfl (Or.inl ⟨by rfl, ?_⟩) ?_; rotate_left 1; (focus (intro wq hSq; have hrd := hSq.rule; go_simp; with_reducible rfl)); simp only [Act.put, List.setIfInBounds_toArray, List.set_cons_zero, List.set_cons_succ, List.getElem_toArray, List.getElem_cons_zero, List.getElem_cons_succ]))
        refine TakeSeq.done ?_
        refine wpAnyH_ready (rs := [2, 8]) (by kernel_rfl) (by simp) ?_
        refine AllReadyH.cons rfl (fun K hK => ?_) (AllReadyH.cons rfl (fun K hK => ?_) (AllReadyH.nil))
        · skip
          rw [if_pos (by rfl)]
          go_simp
          go_at_call 19; refine (ref_any q1 _).mono ?_; rintro e4 w4 ⟨rfl, hb4⟩; simp only [Bt.Ptr.cells]; ((obtain ⟨hc4, hf4⟩ := below_rules hb4; have hs4 := Below.size hb4; try simp only [size_alloc, size_setCell, size_drew, size_drewN] at hs4 hc4 hf4); (try have z4_w_0 : w.heap.size < w4.heap.size := by omega); (try have z4_w_1 : w.heap.size + 1 < w4.heap.size := by omega); (try have z4_w1_0 : w1.heap.size < w4.heap.size := by omega); (try have z4_w2_0 : w2.heap.size < w4.heap.size := by omega); (try have z4_w3_0 : w3.heap.size < w4.heap.size := by omega); (try have z4_w3_1 : w3.heap.size + 1 < w4.heap.size := by omega))
          go_wp2_with fail
          refine hK.out _ _ (SteadyAll.of (by (repeat (first | with_reducible exact Below.refl _ _ | with_reducible assumption | with_reducible refine Below.setCell ?_ (by first | (simp; done) | (simp; omega)) _ | with_reducible refine below_alloc ?_ _ | with_reducible refine below_drewN ?_ _ | with_reducible refine Below.drew ?_ | with_reducible refine below_step ?_ (by assumption))))) (fun hHeld => ?_)
          clear hK K
          refine wpAnyH_ready (rs := [4, 8]) (by kernel_rfl) (by simp) ?_
          refine AllReadyH.cons rfl (fun K hK => ?_) (AllReadyH.cons rfl (fun K hK => ?_) (AllReadyH.nil))
          · skip
            rw [if_pos (by rfl)]
            go_simp
            go_at_call 18; refine (refWriteRoot_any p1 q1 l1 _).mono ?_; rintro e5 w5 ⟨rfl, hb5⟩; rw [HW.out]; simp only [Bt.Page.cells]; ((obtain ⟨hc5, hf5⟩ := below_rules hb5; have hs5 := Below.size hb5; try simp only [size_alloc, size_setCell, size_drew, size_drewN] at hs5 hc5 hf5); (try have z5_w_0 : w.heap.size < w5.heap.size := by omega); (try have z5_w_1 : w.heap.size + 1 < w5.heap.size := by omega); (try have z5_w1_0 : w1.heap.size < w5.heap.size := by omega); (try have z5_w2_0 : w2.heap.size < w5.heap.size := by omega); (try have z5_w3_0 : w3.heap.size < w5.heap.size := by omega); (try have z5_w3_1 : w3.heap.size + 1 < w5.heap.size := by omega); (try have z5_w4_0 : w4.heap.size < w5.heap.size := by omega); (try have z5_w4_1 : w4.heap.size + 1 < w5.heap.size := by omega))
            go_wp2_with fail
            refine hK.out _ _ (SteadyAll.of (by (repeat (first | with_reducible exact Below.refl _ _ | with_reducible assumption | with_reducible refine Below.setCell ?_ (by first | (simp; done) | (simp; omega)) _ | with_reducible refine below_alloc ?_ _ | with_reducible refine below_drewN ?_ _ | with_reducible refine Below.drew ?_ | with_reducible refine below_step ?_ (by assumption))))) (fun hHeld => ?_)
            clear hK K
            refine wpAnyH_seq (is := [5, 6, 7]) (by kernel_rfl) (by kernel_rfl) (fun _ _ d _ _ h => by cases d <;> exact h) (by assumption) ?_
            iterate 3 (first | (refine TakeSeq.step (v := undef) rfl (Or.inr ⟨by rfl, rfl⟩) ?_; simp only [Act.put, List.setIfInBounds_toArray, List.set_cons_zero, List.set_cons_succ, List.getElem_toArray, List.getElem_cons_zero, List.getElem_cons_succ]) | (refine TakeSeq.step (v := ?_) rfl (Or.inl ⟨by rfl, ?_⟩) ?_; rotate_left 1; (focus (intro wq hSq; have hrd := hSq.rule; go_simp; with_reducible rfl)); simp only [Act.put, List.setIfInBounds_toArray, List.set_cons_zero, List.set_cons_succ, List.getElem_toArray, List.getElem_cons_zero, List.getElem_cons_succ]))
            refine TakeSeq.done ?_
            refine wpAnyH_ready (rs := [8]) (by kernel_rfl) (by simp) ?_
            refine AllReadyH.cons rfl (fun K hK => ?_) (AllReadyH.nil)
            rw [if_pos (by rfl)]
            go_simp
            refine hK.out _ _ (SteadyAll.of (by (repeat (first | with_reducible exact Below.refl _ _ | with_reducible assumption | with_reducible refine Below.setCell ?_ (by first | (simp; done) | (simp; omega)) _ | with_reducible refine below_alloc ?_ _ | with_reducible refine below_drewN ?_ _ | with_reducible refine Below.drew ?_ | with_reducible refine below_step ?_ (by assumption))))) (fun hHeld => ?_)
            clear hK K
            refine wpAnyH_ready (rs := [9]) (by kernel_rfl) (by simp) ?_
            refine AllReadyH.cons rfl (fun K hK => ?_) (AllReadyH.nil)
            rw [if_pos (by rfl)]
            go_simp
            refine hK.out _ _ (SteadyAll.of (by (repeat (first | with_reducible exact Below.refl _ _ | with_reducible assumption | with_reducible refine Below.setCell ?_ (by first | (simp; done) | (simp; omega)) _ | with_reducible refine below_alloc ?_ _ | with_reducible refine below_drewN ?_ _ | with_reducible refine Below.drew ?_ | with_reducible refine below_step ?_ (by assumption))))) (fun hHeld => ?_)
            clear hK K
            refine wpAnyH_seq (is := [10]) (by kernel_rfl) (by kernel_rfl) (fun _ _ d _ _ h => by cases d <;> exact h) (by assumption) ?_
            iterate 1 (first | (refine TakeSeq.step (v := undef) rfl (Or.inr ⟨by rfl, rfl⟩) ?_; simp only [Act.put, List.setIfInBounds_toArray, List.set_cons_zero, List.set_cons_succ, List.getElem_toArray, List.getElem_cons_zero, List.getElem_cons_succ]) | (refine TakeSeq.step (v := ?_) rfl (Or.inl ⟨by rfl, ?_⟩) ?_; rotate_left 1; (focus (intro wq hSq; have hrd := hSq.rule; go_simp; with_reducible rfl)); simp only [Act.put, List.setIfInBounds_toArray, List.set_cons_zero, List.set_cons_succ, List.getElem_toArray, List.getElem_cons_zero, List.getElem_cons_succ]))
            refine TakeSeq.done ?_
            refine wpAnyH_done (by kernel_rfl) ?_ _
            go_wp2_with fail
            go_meet
            exact ⟨_, rfl, rfl, by simp; omega, by repeat (first | with_reducible refine Blk.drew ?_ | exact Blk.made _ _ _), by (repeat (first | with_reducible exact Below.refl _ _ | with_reducible assumption | with_reducible refine Below.setCell ?_ (by first | (simp; done) | (simp; omega)) _ | with_reducible refine below_alloc ?_ _ | with_reducible refine below_drewN ?_ _ | with_reducible refine Below.drew ?_ | with_reducible refine below_step ?_ (by assumption)))⟩
          · skip
            rw [if_pos (by rfl)]
            go_simp
            refine hK.out _ _ (SteadyAll.of (by (repeat (first | with_reducible exact Below.refl _ _ | with_reducible assumption | with_reducible refine Below.setCell ?_ (by first | (simp; done) | (simp; omega)) _ | with_reducible refine below_alloc ?_ _ | with_reducible refine below_drewN ?_ _ | with_reducible refine Below.drew ?_ | with_reducible refine below_step ?_ (by assumption))))) (fun hHeld => ?_)
            clear hK K
            refine wpAnyH_ready (rs := [4]) (by kernel_rfl) (by simp) ?_
            refine AllReadyH.cons rfl (fun K hK => ?_) (AllReadyH.nil)
            rw [if_pos (by rfl)]
            go_simp
            go_at_call 18; refine (refWriteRoot_any p1 q1 l1 _).mono ?_; rintro e5 w5 ⟨rfl, hb5⟩; rw [HW.out]; simp only [Bt.Page.cells]; ((obtain ⟨hc5, hf5⟩ := below_rules hb5; have hs5 := Below.size hb5; try simp only [size_alloc, size_setCell, size_drew, size_drewN] at hs5 hc5 hf5); (try have z5_w_0 : w.heap.size < w5.heap.size := by omega); (try have z5_w_1 : w.heap.size + 1 < w5.heap.size := by omega); (try have z5_w1_0 : w1.heap.size < w5.heap.size := by omega); (try have z5_w2_0 : w2.heap.size < w5.heap.size := by omega); (try have z5_w3_0 : w3.heap.size < w5.heap.size := by omega); (try have z5_w3_1 : w3.heap.size + 1 < w5.heap.size := by omega); (try have z5_w4_0 : w4.heap.size < w5.heap.size := by omega); (try have z5_w4_1 : w4.heap.size + 1 < w5.heap.size := by omega))
            go_wp2_with fail
            refine hK.out _ _ (SteadyAll.of (by (repeat (first | with_reducible exact Below.refl _ _ | with_reducible assumption | with_reducible refine Below.setCell ?_ (by first | (simp; done) | (simp; omega)) _ | with_reducible refine below_alloc ?_ _ | with_reducible refine below_drewN ?_ _ | with_reducible refine Below.drew ?_ | with_reducible refine below_step ?_ (by assumption))))) (fun hHeld => ?_)
            clear hK K
            refine wpAnyH_seq (is := [5, 6, 7]) (by kernel_rfl) (by kernel_rfl) (fun _ _ d _ _ h => by cases d <;> exact h) (by assumption) ?_
            iterate 3 (first | (refine TakeSeq.step (v := undef) rfl (Or.inr ⟨by rfl, rfl⟩) ?_; simp only [Act.put, List.setIfInBounds_toArray, List.set_cons_zero, List.set_cons_succ, List.getElem_toArray, List.getElem_cons_zero, List.getElem_cons_succ]) | (refine TakeSeq.step (v := ?_) rfl (Or.inl ⟨by rfl, ?_⟩) ?_; rotate_left 1; (focus (intro wq hSq; have hrd := hSq.rule; go_simp; with_reducible rfl)); simp only [Act.put, List.setIfInBounds_toArray, List.set_cons_zero, List.set_cons_succ, List.getElem_toArray, List.getElem_cons_zero, List.getElem_cons_succ]))
            refine TakeSeq.done ?_
            refine wpAnyH_ready (rs := [9]) (by kernel_rfl) (by simp) ?_
            refine AllReadyH.cons rfl (fun K hK => ?_) (AllReadyH.nil)
            rw [if_pos (by rfl)]
            go_simp
            refine hK.out _ _ (SteadyAll.of (by (repeat (first | with_reducible exact Below.refl _ _ | with_reducible assumption | with_reducible refine Below.setCell ?_ (by first | (simp; done) | (simp; omega)) _ | with_reducible refine below_alloc ?_ _ | with_reducible refine below_drewN ?_ _ | with_reducible refine Below.drew ?_ | with_reducible refine below_step ?_ (by assumption))))) (fun hHeld => ?_)
            clear hK K
            refine wpAnyH_seq (is := [10]) (by kernel_rfl) (by kernel_rfl) (fun _ _ d _ _ h => by cases d <;> exact h) (by assumption) ?_
            iterate 1 (first | (refine TakeSeq.step (v := undef) rfl (Or.inr ⟨by rfl, rfl⟩) ?_; simp only [Act.put, List.setIfInBounds_toArray, List.set_cons_zero, List.set_cons_succ, List.getElem_toArray, List.getElem_cons_zero, List.getElem_cons_succ]) | (refine TakeSeq.step (v := ?_) rfl (Or.inl ⟨by rfl, ?_⟩) ?_; rotate_left 1; (focus (intro wq hSq; have hrd := hSq.rule; go_simp; with_reducible rfl)); simp only [Act.put, List.setIfInBounds_toArray, List.set_cons_zero, List.set_cons_succ, List.getElem_toArray, List.getElem_cons_zero, List.getElem_cons_succ]))
            refine TakeSeq.done ?_
            refine wpAnyH_done (by kernel_rfl) ?_ _
            go_wp2_with fail
            go_meet
            exact ⟨_, rfl, rfl, by simp; omega, Blk.cast (by have BB := Blk.kept (b := w4.heap.size) (made1 w4) hb5; (repeat (first | with_reducible exact BB | with_reducible apply Blk.put | with_reducible apply Blk.alloc | (with_reducible apply Blk.aside; (case hp => first | (simp; done) | (simp; omega))) | with_reducible apply Blk.drew))) (by rw [set9]; rfl), by (repeat (first | with_reducible exact Below.refl _ _ | with_reducible assumption | with_reducible refine Below.setCell ?_ (by first | (simp; done) | (simp; omega)) _ | with_reducible refine below_alloc ?_ _ | with_reducible refine below_drewN ?_ _ | with_reducible refine Below.drew ?_ | with_reducible refine below_step ?_ (by assumption)))⟩
        · skip
          rw [if_pos (by rfl)]
          go_simp
          refine hK.out _ _ (SteadyAll.of (by (repeat (first | with_reducible exact Below.refl _ _ | with_reducible assumption | with_reducible refine Below.setCell ?_ (by first | (simp; done) | (simp; omega)) _ | with_reducible refine below_alloc ?_ _ | with_reducible refine below_drewN ?_ _ | with_reducible refine Below.drew ?_ | with_reducible refine below_step ?_ (by assumption))))) (fun hHeld => ?_)
          clear hK K
          refine wpAnyH_ready (rs := [2]) (by kernel_rfl) (by simp) ?_
          refine AllReadyH.cons rfl (fun K hK => ?_) (AllReadyH.nil)
          rw [if_pos (by rfl)]
          go_simp
          go_at_call 19; refine (ref_any q1 _).mono ?_; rintro e4 w4 ⟨rfl, hb4⟩; simp only [Bt.Ptr.cells]; ((obtain ⟨hc4, hf4⟩ := below_rules hb4; have hs4 := Below.size hb4; try simp only [size_alloc, size_setCell, size_drew, size_drewN] at hs4 hc4 hf4); (try have z4_w_0 : w.heap.size < w4.heap.size := by omega); (try have z4_w_1 : w.heap.size + 1 < w4.heap.size := by omega); (try have z4_w1_0 : w1.heap.size < w4.heap.size := by omega); (try have z4_w2_0 : w2.heap.size < w4.heap.size := by omega); (try have z4_w3_0 : w3.heap.size < w4.heap.size := by omega); (try have z4_w3_1 : w3.heap.size + 1 < w4.heap.size := by omega))
          go_wp2_with fail
          refine hK.out _ _ (SteadyAll.of (by (repeat (first | with_reducible exact Below.refl _ _ | with_reducible assumption | with_reducible refine Below.setCell ?_ (by first | (simp; done) | (simp; omega)) _ | with_reducible refine below_alloc ?_ _ | with_reducible refine below_drewN ?_ _ | with_reducible refine Below.drew ?_ | with_reducible refine below_step ?_ (by assumption))))) (fun hHeld => ?_)
          clear hK K
          refine wpAnyH_ready (rs := [4]) (by kernel_rfl) (by simp) ?_
          refine AllReadyH.cons rfl (fun K hK => ?_) (AllReadyH.nil)
          rw [if_pos (by rfl)]
          go_simp
          go_at_call 18; refine (refWriteRoot_any p1 q1 l1 _).mono ?_; rintro e5 w5 ⟨rfl, hb5⟩; rw [HW.out]; simp only [Bt.Page.cells]; ((obtain ⟨hc5, hf5⟩ := below_rules hb5; have hs5 := Below.size hb5; try simp only [size_alloc, size_setCell, size_drew, size_drewN] at hs5 hc5 hf5); (try have z5_w_0 : w.heap.size < w5.heap.size := by omega); (try have z5_w_1 : w.heap.size + 1 < w5.heap.size := by omega); (try have z5_w1_0 : w1.heap.size < w5.heap.size := by omega); (try have z5_w2_0 : w2.heap.size < w5.heap.size := by omega); (try have z5_w3_0 : w3.heap.size < w5.heap.size := by omega); (try have z5_w3_1 : w3.heap.size + 1 < w5.heap.size := by omega); (try have z5_w4_0 : w4.heap.size < w5.heap.size := by omega); (try have z5_w4_1 : w4.heap.size + 1 < w5.heap.size := by omega))
          go_wp2_with fail
          refine hK.out _ _ (SteadyAll.of (by (repeat (first | with_reducible exact Below.refl _ _ | with_reducible assumption | with_reducible refine Below.setCell ?_ (by first | (simp; done) | (simp; omega)) _ | with_reducible refine below_alloc ?_ _ | with_reducible refine below_drewN ?_ _ | with_reducible refine Below.drew ?_ | with_reducible refine below_step ?_ (by assumption))))) (fun hHeld => ?_)
          clear hK K
          refine wpAnyH_seq (is := [5, 6, 7]) (by kernel_rfl) (by kernel_rfl) (fun _ _ d _ _ h => by cases d <;> exact h) (by assumption) ?_
          iterate 3 (first | (refine TakeSeq.step (v := undef) rfl (Or.inr ⟨by rfl, rfl⟩) ?_; simp only [Act.put, List.setIfInBounds_toArray, List.set_cons_zero, List.set_cons_succ, List.getElem_toArray, List.getElem_cons_zero, List.getElem_cons_succ]) | (refine TakeSeq.step (v := ?_) rfl (Or.inl ⟨by rfl, ?_⟩) ?_; rotate_left 1; (focus (intro wq hSq; have hrd := hSq.rule; go_simp; with_reducible rfl)); simp only [Act.put, List.setIfInBounds_toArray, List.set_cons_zero, List.set_cons_succ, List.getElem_toArray, List.getElem_cons_zero, List.getElem_cons_succ]))
          refine TakeSeq.done ?_
          refine wpAnyH_ready (rs := [9]) (by kernel_rfl) (by simp) ?_
          refine AllReadyH.cons rfl (fun K hK => ?_) (AllReadyH.nil)
          rw [if_pos (by rfl)]
          go_simp
          refine hK.out _ _ (SteadyAll.of (by (repeat (first | with_reducible exact Below.refl _ _ | with_reducible assumption | with_reducible refine Below.setCell ?_ (by first | (simp; done) | (simp; omega)) _ | with_reducible refine below_alloc ?_ _ | with_reducible refine below_drewN ?_ _ | with_reducible refine Below.drew ?_ | with_reducible refine below_step ?_ (by assumption))))) (fun hHeld => ?_)
          clear hK K
          refine wpAnyH_seq (is := [10]) (by kernel_rfl) (by kernel_rfl) (fun _ _ d _ _ h => by cases d <;> exact h) (by assumption) ?_
          iterate 1 (first | (refine TakeSeq.step (v := undef) rfl (Or.inr ⟨by rfl, rfl⟩) ?_; simp only [Act.put, List.setIfInBounds_toArray, List.set_cons_zero, List.set_cons_succ, List.getElem_toArray, List.getElem_cons_zero, List.getElem_cons_succ]) | (refine TakeSeq.step (v := ?_) rfl (Or.inl ⟨by rfl, ?_⟩) ?_; rotate_left 1; (focus (intro wq hSq; have hrd := hSq.rule; go_simp; with_reducible rfl)); simp only [Act.put, List.setIfInBounds_toArray, List.set_cons_zero, List.set_cons_succ, List.getElem_toArray, List.getElem_cons_zero, List.getElem_cons_succ]))
          refine TakeSeq.done ?_
          refine wpAnyH_done (by kernel_rfl) ?_ _
          go_wp2_with fail
          go_meet
          exact ⟨_, rfl, rfl, by simp, Blk.cast (by have BB := Blk.kept (Blk.kept (b := w3.heap.size + 1) (Blk.drew (Blk.made' (by simp))) hb4) hb5; (repeat (first | with_reducible exact BB | with_reducible apply Blk.put | with_reducible apply Blk.alloc | (with_reducible apply Blk.aside; (case hp => first | (simp; done) | (simp; omega))) | with_reducible apply Blk.drew))) (by rw [set9]; rfl), by (repeat (first | with_reducible exact Below.refl _ _ | with_reducible assumption | with_reducible refine Below.setCell ?_ (by first | (simp; done) | (simp; omega)) _ | with_reducible refine below_alloc ?_ _ | with_reducible refine below_drewN ?_ _ | with_reducible refine Below.drew ?_ | with_reducible refine below_step ?_ (by assumption)))⟩
      case rest =>
        rename World => wd
        obtain ⟨O, rfl, rfl, hO, BO, hbd⟩ := hcut
        ((obtain ⟨hc6, hf6⟩ := below_rules hbd; have hs6 := Below.size hbd; try simp only [size_alloc, size_setCell, size_drew, size_drewN] at hs6 hc6 hf6); (try have z6_w_0 : w.heap.size < wd.heap.size := by omega); (try have z6_w_1 : w.heap.size + 1 < wd.heap.size := by omega); (try have z6_w1_0 : w1.heap.size < wd.heap.size := by omega); (try have z6_w2_0 : w2.heap.size < wd.heap.size := by omega); (try have z6_w3_0 : w3.heap.size < wd.heap.size := by omega))
        have HNW := Lib.hid (HNC.out.below (below_step (below_alloc HBA.out _) hbd))
        have HBW := Lib.hid (below_step (below_step HBC.out (below_alloc HBA.out _)) hbd)
        have gO := BO.cell
        have hOl := BO.lt
        unfold Bt.Page.cells at gO
        clear BO hbd
        go_wp2_with fail
        refine wp_region_held_drew (S := SteadyAll _) (by kernel_rfl) (SteadyAll.of (Below.refl _ _).drew) ?_
        intro hSt
        refine wpAnyH_seq (is := [0, 2]) (by kernel_rfl) (by kernel_rfl) (fun _ _ d _ _ h => by cases d <;> exact h) (by assumption) ?_
        iterate 2 (first | (refine TakeSeq.step (v := undef) rfl (Or.inr ⟨by rfl, rfl⟩) ?_; simp only [Act.put, List.setIfInBounds_toArray, List.set_cons_zero, List.set_cons_succ, List.getElem_toArray, List.getElem_cons_zero, List.getElem_cons_succ]) | (refine TakeSeq.step (v := ?_) rfl (Or.inl ⟨by rfl, ?_⟩) ?_; rotate_left 1; (focus (intro wq hSq; have hrd := hSq.rule; go_simp; with_reducible rfl)); simp only [Act.put, List.setIfInBounds_toArray, List.set_cons_zero, List.set_cons_succ, List.getElem_toArray, List.getElem_cons_zero, List.getElem_cons_succ]))
        refine TakeSeq.done ?_
        refine wpAnyH_ready (rs := [1]) (by kernel_rfl) (by simp) ?_
        refine AllReadyH.cons rfl (fun K hK => ?_) (AllReadyH.nil)
        rw [if_pos (by rfl)]
        go_simp
        go_at_call 19; refine (ref_any ra _).mono ?_; rintro e7 w7 ⟨rfl, hb7⟩; simp only [Bt.Ptr.cells]; ((obtain ⟨hc7, hf7⟩ := below_rules hb7; have hs7 := Below.size hb7; try simp only [size_alloc, size_setCell, size_drew, size_drewN] at hs7 hc7 hf7); (try have z7_w_0 : w.heap.size < w7.heap.size := by omega); (try have z7_w_1 : w.heap.size + 1 < w7.heap.size := by omega); (try have z7_w1_0 : w1.heap.size < w7.heap.size := by omega); (try have z7_w2_0 : w2.heap.size < w7.heap.size := by omega); (try have z7_w3_0 : w3.heap.size < w7.heap.size := by omega))
        go_wp2_with fail
        refine hK.out _ _ (SteadyAll.of (by (repeat (first | with_reducible exact Below.refl _ _ | with_reducible assumption | with_reducible refine Below.setCell ?_ (by first | (simp; done) | (simp; omega)) _ | with_reducible refine below_alloc ?_ _ | with_reducible refine below_drewN ?_ _ | with_reducible refine Below.drew ?_ | with_reducible refine below_step ?_ (by assumption))))) (fun hHeld => ?_)
        clear hK K
        refine wpAnyH_seq (is := [3, 4, 5, 6, 7, 8, 9, 10, 11, 12, 13, 14, 15, 16]) (by kernel_rfl) (by kernel_rfl) (fun _ _ d _ _ h => by cases d <;> exact h) (by assumption) ?_
        iterate 14 (first | (refine TakeSeq.step (v := undef) rfl (Or.inr ⟨by rfl, rfl⟩) ?_; simp only [Act.put, List.setIfInBounds_toArray, List.set_cons_zero, List.set_cons_succ, List.getElem_toArray, List.getElem_cons_zero, List.getElem_cons_succ]) | (refine TakeSeq.step (v := ?_) rfl (Or.inl ⟨by rfl, ?_⟩) ?_; rotate_left 1; (focus (intro wq hSq; have hrd := hSq.rule; go_simp; with_reducible rfl)); simp only [Act.put, List.setIfInBounds_toArray, List.set_cons_zero, List.set_cons_succ, List.getElem_toArray, List.getElem_cons_zero, List.getElem_cons_succ]))
        refine TakeSeq.done ?_
        refine wpAnyH_ready (rs := [17]) (by kernel_rfl) (by simp) ?_
        refine AllReadyH.cons rfl (fun K hK => ?_) (AllReadyH.nil)
        rw [if_pos (by rfl)]
        go_simp
        go_at_call 20; refine (same_self Bt.zeroPage _).mono ?_; rintro e8 w8 ⟨rfl, hb8⟩; ((obtain ⟨hc8, hf8⟩ := below_rules hb8; have hs8 := Below.size hb8; try simp only [size_alloc, size_setCell, size_drew, size_drewN] at hs8 hc8 hf8); (try have z8_w_0 : w.heap.size < w8.heap.size := by omega); (try have z8_w_1 : w.heap.size + 1 < w8.heap.size := by omega); (try have z8_w1_0 : w1.heap.size < w8.heap.size := by omega); (try have z8_w2_0 : w2.heap.size < w8.heap.size := by omega); (try have z8_w3_0 : w3.heap.size < w8.heap.size := by omega))
        go_wp2_with fail
        refine hK.out _ _ (SteadyAll.of (by (repeat (first | with_reducible exact Below.refl _ _ | with_reducible assumption | with_reducible refine Below.setCell ?_ (by first | (simp; done) | (simp; omega)) _ | with_reducible refine below_alloc ?_ _ | with_reducible refine below_drewN ?_ _ | with_reducible refine Below.drew ?_ | with_reducible refine below_step ?_ (by assumption))))) (fun hHeld => ?_)
        clear hK K
        refine wpAnyH_seq (is := [18, 19, 20, 21, 22, 23, 24]) (by kernel_rfl) (by kernel_rfl) (fun _ _ d _ _ h => by cases d <;> exact h) (by assumption) ?_
        iterate 7 (first | (refine TakeSeq.step (v := undef) rfl (Or.inr ⟨by rfl, rfl⟩) ?_; simp only [Act.put, List.setIfInBounds_toArray, List.set_cons_zero, List.set_cons_succ, List.getElem_toArray, List.getElem_cons_zero, List.getElem_cons_succ]) | (refine TakeSeq.step (v := ?_) rfl (Or.inl ⟨by rfl, ?_⟩) ?_; rotate_left 1; (focus (intro wq hSq; have hrd := hSq.rule; go_simp; with_reducible rfl)); simp only [Act.put, List.setIfInBounds_toArray, List.set_cons_zero, List.set_cons_succ, List.getElem_toArray, List.getElem_cons_zero, List.getElem_cons_succ]))
        refine TakeSeq.done ?_
        refine wpAnyH_done (by kernel_rfl) ?_ _
        go_wp2_with fail
        go_at_call 21; refine (HA.out _ ?hna).mono ?_
        case hna => exact HNW.out.below (by (repeat (first | with_reducible exact Below.refl _ _ | with_reducible assumption | with_reducible refine Below.setCell ?_ (by first | (simp; done) | (simp; omega)) _ | with_reducible refine below_alloc ?_ _ | with_reducible refine below_drewN ?_ _ | with_reducible refine Below.drew ?_ | with_reducible refine below_step ?_ (by assumption))))
        rintro e10 w10 ⟨rfl, hb10⟩
        go_wp2_with fail
        go_ret
        have hbW := HBW.out
        exact ⟨rfl, by (repeat (first | with_reducible exact Below.refl _ _ | with_reducible assumption | with_reducible refine Below.setCell ?_ (by first | (simp; done) | (simp; omega)) _ | with_reducible refine below_alloc ?_ _ | with_reducible refine below_drewN ?_ _ | with_reducible refine Below.drew ?_ | with_reducible refine below_step ?_ (by assumption)))⟩
end Go.Proofs.YtjmpekanlmepmaaGreatDoor
