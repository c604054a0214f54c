/- Package btree: the step function: Raise. -/
import Derived.Test.YtjmpekanlmepmaaGreatDoorWJ5
set_option linter.unusedVariables false
set_option linter.unusedSimpArgs false
set_option linter.unusedSectionVars false
set_option linter.constructorNameAsVariable false
namespace Go.Proofs.YtjmpekanlmepmaaGreatDoor
open Go.RowKit

set_option maxRecDepth 10000 in
set_option maxHeartbeats 4000000 in
theorem next_raise (op : Bt.Op) (known : List Bt.Page) (fa ka : Option Addr) (fn fc kn kc : Nat) (w : World) (hf : PgRow w (.slice fa fn fc) op.fresh) (hk : PgRow w (.slice ka kn kc) known) (hn : NoneAt w)
    (hkind : op.kind = 6) (p : Bt.Page) (q : Bt.Ptr) (lv : Int) (hl : Bt.latest known 96 = some p) (hlk : Bt.locked p = false) (hr : Bt.readRoot p = some (q, lv))
    (s2 : Bt.St) (hsn : s2.need = []) (hso : Sorted2 s2.writes) (o : Bt.Out) (hoF : s2.ended = false → o = { s2.out with hops := 0, height := 0, dead := false, unposted := false }) (hoT : s2.ended = true → o = s2.out)
    (HM : Hid (∀ b w', IsRun (fun _ => False) op known (.slice fa fn fc) (.slice ka kn kc) { ({} : Bt.St) with rootPage := p, root := q } b w' →
      Calls Tryz.prog 56 #[.pointer (some ⟨b, 0, none⟩)] w' (RunPost (fun _ => False) op known (.slice fa fn fc) (.slice ka kn kc) s2 b (.tuple #[]) w'))) :
    Calls Tryz.prog 27 #[.agg (opCells op (.slice fa fn fc)), .slice ka kn kc] w (NextPost s2.writes o w) := by
  have Hf := Lib.hid hf
  have Hk := Lib.hid hk
  have Hn := Lib.hid hn
  have HV := Lib.hid (fun wx => isValid_raise op (.slice fa fn fc) wx hkind)
  have HRR := Lib.hid (fun b wx h1 h2 => readRoot_ok (fun _ => False) op known (.slice fa fn fc) (.slice ka kn kc) {} b p q lv wx h1 h2 hl hlk hr)
  have b1 : (op.kind == 1) = false := by simp [hkind]
  have b2 : (op.kind == 2) = false := by simp [hkind]
  have b3 : (op.kind == 3) = false := by simp [hkind]
  have b4 : (op.kind == 4) = false := by simp [hkind]
  have b5 : (op.kind == 5) = false := by simp [hkind]
  have b6 : (op.kind == 6) = true := by simp [hkind]
  clear hf hk hn hkind hl hlk hr
  unfold opCells at HV ⊢
  go_enter Tryz.func27, Tryz.ntmps27
  go_wp2_with fail
  go_at_call 49; refine (HV.out _).mono ?_; rintro e1 w1 ⟨rfl, hb1⟩; ((obtain ⟨hc1, hf1⟩ := below_rules hb1; have hs1 := Below.size hb1; try simp only [size_alloc, size_setCell, size_drew, size_drewN] at hs1 hc1 hf1); (try have z1_w_0 : w.heap.size < w1.heap.size := by omega); (try have z1_w_1 : w.heap.size + 1 < w1.heap.size := by omega))
  have HB1 := Lib.hid hb1
  go_wp2_with fail
  go_at_call 50; refine (HRR.out w1.heap.size _ ?hrun ?hlow).mono ?_
  case hrun => exact IsRun.start op known _ _ w1 (Hf.out.below (by (repeat (first | with_reducible exact Below.refl _ _ | with_reducible assumption | with_reducible refine Below.setCell ?_ (by first | (simp; done) | (simp; omega)) _ | with_reducible refine below_alloc ?_ _ | with_reducible refine below_drewN ?_ _ | with_reducible refine Below.drew ?_ | with_reducible refine below_step ?_ (by assumption))))) (Hk.out.below (by (repeat (first | with_reducible exact Below.refl _ _ | with_reducible assumption | with_reducible refine Below.setCell ?_ (by first | (simp; done) | (simp; omega)) _ | with_reducible refine below_alloc ?_ _ | with_reducible refine below_drewN ?_ _ | with_reducible refine Below.drew ?_ | with_reducible refine below_step ?_ (by assumption))))) (Hn.out.below (by (repeat (first | with_reducible exact Below.refl _ _ | with_reducible assumption | with_reducible refine Below.setCell ?_ (by first | (simp; done) | (simp; omega)) _ | with_reducible refine below_alloc ?_ _ | with_reducible refine below_drewN ?_ _ | with_reducible refine Below.drew ?_ | with_reducible refine below_step ?_ (by assumption)))))
  case hlow => exact fun c hc => hc.elim
  rintro e2 w2 ⟨rfl, hrun2, ho2⟩
  have HR2 := Lib.hid hrun2
  have HO2 := Lib.hid ho2
  clear hrun2
  ((obtain ⟨hc2, hf2⟩ := over_rules ho2; have hs2 := World.grownBy.size ho2; try simp only [size_alloc, size_setCell, size_drew, size_drewN] at hs2 hc2 hf2); (try have z2_w_0 : w.heap.size < w2.heap.size := by omega); (try have z2_w_1 : w.heap.size + 1 < w2.heap.size := by omega); (try have z2_w1_0 : w1.heap.size < w2.heap.size := by omega))
  go_wp2_with fail
  go_at_call 56; refine (HM.out w1.heap.size _ HR2.out).mono ?_
  rintro e3 w3 ⟨rfl, ⟨vn, vw, ve, vc, hr3, _⟩, ho3⟩
  have HR3 := Lib.hid hr3
  have HO3 := Lib.hid ho3
  obtain ⟨pn, cn, rfl⟩ : ∃ p cap, vn = .slice p 0 cap := own_zero (by have := hr3.need; rw [hsn] at this; exact this)
  have hse : ∀ (a : Addr) (m : Mode) (wx : World), (store a ve m).run Tryz.prog wx = stored Tryz.prog wx a ve m := fun a m wx => run_store Tryz.prog wx a ve m (own_one hr3.ents)
  have hsc : ∀ (a : Addr) (m : Mode) (wx : World), (store a vc m).run Tryz.prog wx = stored Tryz.prog wx a vc m := fun a m wx => run_store Tryz.prog wx a vc m (own_one hr3.check)
  have hc := hr3.blk.cell
  have hfb := hr3.blk.free
  have hb3 := hr3.blk.lt
  have k9 : w3.cell? ⟨w1.heap.size, 9, none⟩ = some (.slice pn 0 cn) := hc 9
  have k10 : w3.cell? ⟨w1.heap.size, 10, none⟩ = some (vw) := hc 10
  have k11 : w3.cell? ⟨w1.heap.size, 11, none⟩ = some (.int .i64 s2.out.code) := hc 11
  have k12 : w3.cell? ⟨w1.heap.size, 12, none⟩ = some (.bool s2.out.found) := hc 12
  have k13 : w3.cell? ⟨w1.heap.size, 13, none⟩ = some (.bool s2.out.done) := hc 13
  have k14 : w3.cell? ⟨w1.heap.size, 14, none⟩ = some (.bool s2.out.split) := hc 14
  have k15 : w3.cell? ⟨w1.heap.size, 15, none⟩ = some (.bool s2.out.unposted) := hc 15
  have k16 : w3.cell? ⟨w1.heap.size, 16, none⟩ = some (.bool s2.out.dead) := hc 16
  have k17 : w3.cell? ⟨w1.heap.size, 17, none⟩ = some (.bool s2.out.more) := hc 17
  have k18 : w3.cell? ⟨w1.heap.size, 18, none⟩ = some (.int .i64 s2.out.to.line) := hc 18
  have k19 : w3.cell? ⟨w1.heap.size, 19, none⟩ = some (.int .i64 s2.out.to.gen) := hc 19
  have k20 : w3.cell? ⟨w1.heap.size, 20, none⟩ = some (ve) := hc 20
  have k21 : w3.cell? ⟨w1.heap.size, 21, none⟩ = some (vc) := hc 21
  have k22 : w3.cell? ⟨w1.heap.size, 22, none⟩ = some (.int .i64 s2.out.hops) := hc 22
  have k23 : w3.cell? ⟨w1.heap.size, 23, none⟩ = some (.int .i64 s2.out.fresh) := hc 23
  have k24 : w3.cell? ⟨w1.heap.size, 24, none⟩ = some (.int .i64 s2.out.height) := hc 24
  have k36 : w3.cell? ⟨w1.heap.size, 36, none⟩ = some (.bool s2.ended) := hc 36
  clear hr3 hc
  ((obtain ⟨hc3, hf3⟩ := over_rules ho3; have hs3 := World.grownBy.size ho3; try simp only [size_alloc, size_setCell, size_drew, size_drewN] at hs3 hc3 hf3); (try have z3_w_0 : w.heap.size < w3.heap.size := by omega); (try have z3_w_1 : w.heap.size + 1 < w3.heap.size := by omega); (try have z3_w1_0 : w1.heap.size < w3.heap.size := by omega); (try have z3_w2_0 : w2.heap.size < w3.heap.size := by omega))
  rcases hen : s2.ended with _ | _
  · rw [hen] at k36
    go_wp2_with fail
    go_at_call 59; refine (sortFunc_sorted vw s2.writes _ ?hsr).mono ?_
    case hsr => exact sortedRow_of (base := w1.heap.size + 1) (by repeat (first | exact HR3.out.writes | refine own_aside ?_ (by show w1.heap.size < w1.heap.size + 1; omega) _)) rfl hso
    rintro e4 w4 ⟨rfl, hb4⟩
    ((obtain ⟨hc4, hf4⟩ := below_rules hb4; have hs4 := Below.size hb4; try simp only [size_alloc, size_setCell, size_drew, size_drewN] at hs4 hc4 hf4); (try have z4_w_0 : w.heap.size < w4.heap.size := by omega); (try have z4_w_1 : w.heap.size + 1 < w4.heap.size := by omega); (try have z4_w1_0 : w1.heap.size < w4.heap.size := by omega); (try have z4_w2_0 : w2.heap.size < w4.heap.size := by omega))
    have hb4' : w1.heap.size < w4.heap.size := by omega
    go_wp2_with fail
    refine wp_region_held_drew (S := SteadyBut (w.heap.size + 1) _) (by kernel_rfl) (SteadyBut.of (Below.refl _ _).drew) ?_
    intro hSt
    refine wpAnyH_seq (is := [0, 1, 2, 3, 4, 5, 6, 7]) (by kernel_rfl) (by kernel_rfl) (fun _ _ d _ _ h => by cases d <;> exact h) (by assumption) ?_
    iterate 8 (first | (refine TakeSeq.step (v := undef) rfl (Or.inr ⟨by rfl, rfl⟩) ?_; simp only [Act.put, List.setIfInBounds_toArray, List.set_cons_zero, List.set_cons_succ, List.getElem_toArray, List.getElem_cons_zero, List.getElem_cons_succ]) | (refine TakeSeq.step (v := ?_) rfl (Or.inl ⟨by rfl, ?_⟩) ?_; rotate_left 1; (focus (intro wq hSq; have hrd := hSq.rule; go_simp; with_reducible rfl)); simp only [Act.put, List.setIfInBounds_toArray, List.set_cons_zero, List.set_cons_succ, List.getElem_toArray, List.getElem_cons_zero, List.getElem_cons_succ]))
    refine TakeSeq.done ?_
    refine wpAnyH_seq (is := [8, 9]) (by kernel_rfl) (by kernel_rfl) (fun _ _ d _ _ h => by cases d <;> exact h) (by assumption) ?_
    iterate 2 (first | (refine TakeSeq.step (v := undef) rfl (Or.inr ⟨by rfl, rfl⟩) ?_; simp only [Act.put, List.setIfInBounds_toArray, List.set_cons_zero, List.set_cons_succ, List.getElem_toArray, List.getElem_cons_zero, List.getElem_cons_succ]) | (refine TakeSeq.step (v := ?_) rfl (Or.inl ⟨by rfl, ?_⟩) ?_; rotate_left 1; (focus (intro wq hSq; have hrd := hSq.rule; go_simp; with_reducible rfl)); simp only [Act.put, List.setIfInBounds_toArray, List.set_cons_zero, List.set_cons_succ, List.getElem_toArray, List.getElem_cons_zero, List.getElem_cons_succ]))
    refine TakeSeq.done ?_
    refine wpAnyH_ready (rs := [10]) (by kernel_rfl) (by simp) ?_
    refine AllReadyH.cons rfl (fun K hK => ?_) (AllReadyH.nil)
    rw [if_pos (by rfl)]
    go_simp
    refine hK.out _ _ ((by repeat (first | with_reducible exact SteadyBut.self _ _ | with_reducible refine SteadyBut.drew ?_ | with_reducible refine SteadyBut.alloc2 ?_ (by simp only [size_setCell, size_drew]) _ | with_reducible refine SteadyBut.set ?_ _ _))) (fun hHeld => ?_)
    clear hK K
    refine wpAnyH_seq (is := [11]) (by kernel_rfl) (by kernel_rfl) (fun _ _ d _ _ h => by cases d <;> exact h) (by assumption) ?_
    iterate 1 (first | (refine TakeSeq.step (v := undef) rfl (Or.inr ⟨by rfl, rfl⟩) ?_; simp only [Act.put, List.setIfInBounds_toArray, List.set_cons_zero, List.set_cons_succ, List.getElem_toArray, List.getElem_cons_zero, List.getElem_cons_succ]) | (refine TakeSeq.step (v := ?_) rfl (Or.inl ⟨by rfl, ?_⟩) ?_; rotate_left 1; (focus (intro wq hSq; have hrd := hSq.rule; go_simp; with_reducible rfl)); simp only [Act.put, List.setIfInBounds_toArray, List.set_cons_zero, List.set_cons_succ, List.getElem_toArray, List.getElem_cons_zero, List.getElem_cons_succ]))
    refine TakeSeq.done ?_
    refine wpAnyH_done (by kernel_rfl) ?_ _
    go_wp2_with fail
    have hb1 := HB1.out
    have ho2 := HO2.out
    have ho3 := HO3.out
    have hov : Over w1.heap.size w w4 := by (repeat (first | with_reducible exact Over.refl _ _ | with_reducible assumption | with_reducible refine Over.put ?_ _ _ | with_reducible refine Over.alloc ?_ _ | with_reducible refine Over.drew ?_ | with_reducible refine Over.own ?_ (by first | (simp; done) | (simp; omega)) _ | with_reducible refine Over.trans ?_ (by assumption) | with_reducible refine Over.then_below ?_ (by assumption)))
    have hbb : w1.heap.size < w1.heap.size + 1 := by omega
    have hgb : w.heap.size + 1 < w1.heap.size + 1 := by omega
    have hbs : w.heap.size ≤ w1.heap.size + 1 := by omega
    have O1 := Blk.kept (b := w.heap.size + 1) (t := 63) (cs := #[.int .i64 0, .bool false, .bool false, .bool false, .bool false, .bool false, .bool false, .int .i64 0, .int .i64 0, .slice none 0 0, .slice none 0 0, .int .i64 0, .int .i64 0, .int .i64 0]) (made22 w) hb1
    have O2 := (O1.alloc _).grown ho2 (by simp; omega)
    have O3 := O2.grown ho3 (by simp; omega)
    have O4 : Blk w4 (w.heap.size + 1) 63 #[.int .i64 0, .bool false, .bool false, .bool false, .bool false, .bool false, .bool false, .int .i64 0, .int .i64 0, .slice none 0 0, .slice none 0 0, .int .i64 0, .int .i64 0, .int .i64 0] := Blk.kept (by (repeat (first | with_reducible exact O3 | with_reducible apply Blk.put | with_reducible apply Blk.alloc | (with_reducible apply Blk.aside; (case hp => first | (simp; done) | (simp; omega))) | with_reducible apply Blk.drew))) hb4
    refine bodyPost_ret (results_ttbt rfl _ _ (w.heap.size + 1) _ _ _ rfl (by (repeat (first | with_reducible exact O4 | with_reducible apply Blk.put | with_reducible apply Blk.alloc | (with_reducible apply Blk.aside; (case hp => first | (simp; done) | (simp; omega))) | with_reducible apply Blk.drew))) Tryz.underlying63 rfl (by kernel_rfl)) rfl ⟨vw, ve, vc, ?_, ?_, ?_, ?_, ?_⟩
    · rw [set14, hoF hen]
      rfl
    · exact own_base (own_drew (own_put14 (own_below (own_aside (own_aside (own_aside (own_aside HR3.out.writes (p := ⟨w1.heap.size, 22, none⟩) hbb _) (p := ⟨w1.heap.size, 24, none⟩) hbb _) (p := ⟨w1.heap.size, 16, none⟩) hbb _) (p := ⟨w1.heap.size, 15, none⟩) hbb _) hb4) hgb _ _ _ _ _ _ _ _ _ _ _ _ _ _)) hbs
    · rw [hoF hen]
      exact own_base (own_drew (own_put14 (own_below (own_aside (own_aside (own_aside (own_aside HR3.out.ents (p := ⟨w1.heap.size, 22, none⟩) hbb _) (p := ⟨w1.heap.size, 24, none⟩) hbb _) (p := ⟨w1.heap.size, 16, none⟩) hbb _) (p := ⟨w1.heap.size, 15, none⟩) hbb _) hb4) hgb _ _ _ _ _ _ _ _ _ _ _ _ _ _)) hbs
    · rw [hoF hen]
      exact own_base (own_drew (own_put14 (own_below (own_aside (own_aside (own_aside (own_aside HR3.out.check (p := ⟨w1.heap.size, 22, none⟩) hbb _) (p := ⟨w1.heap.size, 24, none⟩) hbb _) (p := ⟨w1.heap.size, 16, none⟩) hbb _) (p := ⟨w1.heap.size, 15, none⟩) hbb _) hb4) hgb _ _ _ _ _ _ _ _ _ _ _ _ _ _)) hbs
    · exact Over.to_below (b := w1.heap.size) (Over.drew (Over.put14 hov (by omega) _ _ _ _ _ _ _ _ _ _ _ _ _ _)) (by omega)
  · rw [hen] at k36
    go_wp2_with fail
    go_at_call 59; refine (sortFunc_sorted vw s2.writes _ ?hsr).mono ?_
    case hsr => exact sortedRow_of (base := w1.heap.size + 1) (by repeat (first | exact HR3.out.writes | refine own_aside ?_ (by show w1.heap.size < w1.heap.size + 1; omega) _)) rfl hso
    rintro e4 w4 ⟨rfl, hb4⟩
    ((obtain ⟨hc4, hf4⟩ := below_rules hb4; have hs4 := Below.size hb4; try simp only [size_alloc, size_setCell, size_drew, size_drewN] at hs4 hc4 hf4); (try have z4_w_0 : w.heap.size < w4.heap.size := by omega); (try have z4_w_1 : w.heap.size + 1 < w4.heap.size := by omega); (try have z4_w1_0 : w1.heap.size < w4.heap.size := by omega); (try have z4_w2_0 : w2.heap.size < w4.heap.size := by omega))
    have hb4' : w1.heap.size < w4.heap.size := by omega
    go_wp2_with fail
    refine wp_region_held_drew (S := SteadyBut (w.heap.size + 1) _) (by kernel_rfl) (SteadyBut.of (Below.refl _ _).drew) ?_
    intro hSt
    refine wpAnyH_seq (is := [0, 1, 2, 3, 4, 5, 6, 7]) (by kernel_rfl) (by kernel_rfl) (fun _ _ d _ _ h => by cases d <;> exact h) (by assumption) ?_
    iterate 8 (first | (refine TakeSeq.step (v := undef) rfl (Or.inr ⟨by rfl, rfl⟩) ?_; simp only [Act.put, List.setIfInBounds_toArray, List.set_cons_zero, List.set_cons_succ, List.getElem_toArray, List.getElem_cons_zero, List.getElem_cons_succ]) | (refine TakeSeq.step (v := ?_) rfl (Or.inl ⟨by rfl, ?_⟩) ?_; rotate_left 1; (focus (intro wq hSq; have hrd := hSq.rule; go_simp; with_reducible rfl)); simp only [Act.put, List.setIfInBounds_toArray, List.set_cons_zero, List.set_cons_succ, List.getElem_toArray, List.getElem_cons_zero, List.getElem_cons_succ]))
    refine TakeSeq.done ?_
    refine wpAnyH_seq (is := [8, 9]) (by kernel_rfl) (by kernel_rfl) (fun _ _ d _ _ h => by cases d <;> exact h) (by assumption) ?_
    iterate 2 (first | (refine TakeSeq.step (v := undef) rfl (Or.inr ⟨by rfl, rfl⟩) ?_; simp only [Act.put, List.setIfInBounds_toArray, List.set_cons_zero, List.set_cons_succ, List.getElem_toArray, List.getElem_cons_zero, List.getElem_cons_succ]) | (refine TakeSeq.step (v := ?_) rfl (Or.inl ⟨by rfl, ?_⟩) ?_; rotate_left 1; (focus (intro wq hSq; have hrd := hSq.rule; go_simp; with_reducible rfl)); simp only [Act.put, List.setIfInBounds_toArray, List.set_cons_zero, List.set_cons_succ, List.getElem_toArray, List.getElem_cons_zero, List.getElem_cons_succ]))
    refine TakeSeq.done ?_
    refine wpAnyH_ready (rs := [10]) (by kernel_rfl) (by simp) ?_
    refine AllReadyH.cons rfl (fun K hK => ?_) (AllReadyH.nil)
    rw [if_pos (by rfl)]
    go_simp
    refine hK.out _ _ ((by repeat (first | with_reducible exact SteadyBut.self _ _ | with_reducible refine SteadyBut.drew ?_ | with_reducible refine SteadyBut.alloc2 ?_ (by simp only [size_setCell, size_drew]) _ | with_reducible refine SteadyBut.set ?_ _ _))) (fun hHeld => ?_)
    clear hK K
    refine wpAnyH_seq (is := [11]) (by kernel_rfl) (by kernel_rfl) (fun _ _ d _ _ h => by cases d <;> exact h) (by assumption) ?_
    iterate 1 (first | (refine TakeSeq.step (v := undef) rfl (Or.inr ⟨by rfl, rfl⟩) ?_; simp only [Act.put, List.setIfInBounds_toArray, List.set_cons_zero, List.set_cons_succ, List.getElem_toArray, List.getElem_cons_zero, List.getElem_cons_succ]) | (refine TakeSeq.step (v := ?_) rfl (Or.inl ⟨by rfl, ?_⟩) ?_; rotate_left 1; (focus (intro wq hSq; have hrd := hSq.rule; go_simp; with_reducible rfl)); simp only [Act.put, List.setIfInBounds_toArray, List.set_cons_zero, List.set_cons_succ, List.getElem_toArray, List.getElem_cons_zero, List.getElem_cons_succ]))
    refine TakeSeq.done ?_
    refine wpAnyH_done (by kernel_rfl) ?_ _
    go_wp2_with fail
    have hb1 := HB1.out
    have ho2 := HO2.out
    have ho3 := HO3.out
    have hov : Over w1.heap.size w w4 := by (repeat (first | with_reducible exact Over.refl _ _ | with_reducible assumption | with_reducible refine Over.put ?_ _ _ | with_reducible refine Over.alloc ?_ _ | with_reducible refine Over.drew ?_ | with_reducible refine Over.own ?_ (by first | (simp; done) | (simp; omega)) _ | with_reducible refine Over.trans ?_ (by assumption) | with_reducible refine Over.then_below ?_ (by assumption)))
    have hbb : w1.heap.size < w1.heap.size + 1 := by omega
    have hgb : w.heap.size + 1 < w1.heap.size + 1 := by omega
    have hbs : w.heap.size ≤ w1.heap.size + 1 := by omega
    have O1 := Blk.kept (b := w.heap.size + 1) (t := 63) (cs := #[.int .i64 0, .bool false, .bool false, .bool false, .bool false, .bool false, .bool false, .int .i64 0, .int .i64 0, .slice none 0 0, .slice none 0 0, .int .i64 0, .int .i64 0, .int .i64 0]) (made22 w) hb1
    have O2 := (O1.alloc _).grown ho2 (by simp; omega)
    have O3 := O2.grown ho3 (by simp; omega)
    have O4 : Blk w4 (w.heap.size + 1) 63 #[.int .i64 0, .bool false, .bool false, .bool false, .bool false, .bool false, .bool false, .int .i64 0, .int .i64 0, .slice none 0 0, .slice none 0 0, .int .i64 0, .int .i64 0, .int .i64 0] := Blk.kept (by (repeat (first | with_reducible exact O3 | with_reducible apply Blk.put | with_reducible apply Blk.alloc | (with_reducible apply Blk.aside; (case hp => first | (simp; done) | (simp; omega))) | with_reducible apply Blk.drew))) hb4
    refine bodyPost_ret (results_ttbt rfl _ _ (w.heap.size + 1) _ _ _ rfl (by (repeat (first | with_reducible exact O4 | with_reducible apply Blk.put | with_reducible apply Blk.alloc | (with_reducible apply Blk.aside; (case hp => first | (simp; done) | (simp; omega))) | with_reducible apply Blk.drew))) Tryz.underlying63 rfl (by kernel_rfl)) rfl ⟨vw, ve, vc, ?_, ?_, ?_, ?_, ?_⟩
    · rw [set14, hoT hen]
      rfl
    · exact own_base (own_drew (own_put14 (own_below HR3.out.writes hb4) hgb _ _ _ _ _ _ _ _ _ _ _ _ _ _)) hbs
    · rw [hoT hen]
      exact own_base (own_drew (own_put14 (own_below HR3.out.ents hb4) hgb _ _ _ _ _ _ _ _ _ _ _ _ _ _)) hbs
    · rw [hoT hen]
      exact own_base (own_drew (own_put14 (own_below HR3.out.check hb4) hgb _ _ _ _ _ _ _ _ _ _ _ _ _ _)) hbs
    · exact Over.to_below (b := w1.heap.size) (Over.drew (Over.put14 hov (by omega) _ _ _ _ _ _ _ _ _ _ _ _ _ _)) (by omega)
end Go.Proofs.YtjmpekanlmepmaaGreatDoor
