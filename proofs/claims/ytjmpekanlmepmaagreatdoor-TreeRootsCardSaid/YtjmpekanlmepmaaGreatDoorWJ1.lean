/- Package btree: the root page is read. -/
import Derived.Test.YtjmpekanlmepmaaGreatDoorQj
import Derived.Test.YtjmpekanlmepmaaGreatDoorQe
import Derived.Test.YtjmpekanlmepmaaGreatDoorWI6
set_option linter.unusedVariables false
set_option linter.unusedSimpArgs false
set_option linter.unusedSectionVars false
set_option linter.constructorNameAsVariable false
namespace Go.Proofs.YtjmpekanlmepmaaGreatDoor
open Go.RowKit

theorem IsRun.rootSet {A : Nat → Prop} {op : Bt.Op} {known : List Bt.Page} {vf vk : Value} {s : Bt.St} {b : Nat} {w : World} (h : IsRun A op known vf vk s b w) (p : Bt.Page) (q : Bt.Ptr) :
    IsRun A op known vf vk { s with rootPage := p, root := q } b (((((((((((w.setCell ⟨b, 25, none⟩ (.int .i64 p.line)).setCell ⟨b, 26, none⟩ (.int .u64 p.head)).setCell ⟨b, 27, none⟩ (.int .u64 p.d0)).setCell ⟨b, 28, none⟩ (.int .u64 p.d1)).setCell ⟨b, 29, none⟩ (.int .u64 p.d2)).setCell ⟨b, 30, none⟩ (.int .u64 p.d3)).setCell ⟨b, 31, none⟩ (.int .u64 p.d4)).setCell ⟨b, 32, none⟩ (.int .u64 p.d5)).setCell ⟨b, 33, none⟩ (.int .u64 p.d6)).setCell ⟨b, 34, none⟩ (.int .i64 q.line)).setCell ⟨b, 35, none⟩ (.int .i64 q.gen)) :=
  (((((((((((h.field (s' := { s with rootPage := { s.rootPage with line := p.line } }) 25 (.int .i64 p.line) (fun _ _ _ _ => rfl)).field (s' := { s with rootPage := { s.rootPage with line := p.line, head := p.head } }) 26 (.int .u64 p.head) (fun _ _ _ _ => rfl)).field (s' := { s with rootPage := { s.rootPage with line := p.line, head := p.head, d0 := p.d0 } }) 27 (.int .u64 p.d0) (fun _ _ _ _ => rfl)).field (s' := { s with rootPage := { s.rootPage with line := p.line, head := p.head, d0 := p.d0, d1 := p.d1 } }) 28 (.int .u64 p.d1) (fun _ _ _ _ => rfl)).field (s' := { s with rootPage := { s.rootPage with line := p.line, head := p.head, d0 := p.d0, d1 := p.d1, d2 := p.d2 } }) 29 (.int .u64 p.d2) (fun _ _ _ _ => rfl)).field (s' := { s with rootPage := { s.rootPage with line := p.line, head := p.head, d0 := p.d0, d1 := p.d1, d2 := p.d2, d3 := p.d3 } }) 30 (.int .u64 p.d3) (fun _ _ _ _ => rfl)).field (s' := { s with rootPage := { s.rootPage with line := p.line, head := p.head, d0 := p.d0, d1 := p.d1, d2 := p.d2, d3 := p.d3, d4 := p.d4 } }) 31 (.int .u64 p.d4) (fun _ _ _ _ => rfl)).field (s' := { s with rootPage := { s.rootPage with line := p.line, head := p.head, d0 := p.d0, d1 := p.d1, d2 := p.d2, d3 := p.d3, d4 := p.d4, d5 := p.d5 } }) 32 (.int .u64 p.d5) (fun _ _ _ _ => rfl)).field (s' := { s with rootPage := { s.rootPage with line := p.line, head := p.head, d0 := p.d0, d1 := p.d1, d2 := p.d2, d3 := p.d3, d4 := p.d4, d5 := p.d5, d6 := p.d6 } }) 33 (.int .u64 p.d6) (fun _ _ _ _ => rfl)).field (s' := { s with rootPage := p, root := ⟨q.line, s.root.gen⟩ }) 34 (.int .i64 q.line) (fun _ _ _ _ => rfl)).field (s' := { s with rootPage := p, root := q }) 35 (.int .i64 q.gen) (fun _ _ _ _ => rfl))

theorem SteadyBut.alloc2 {r : Nat} {w1 wx : World} (h : SteadyBut r w1 wx) (hs : wx.heap.size = w1.heap.size) (o : Obj) : SteadyBut r (w1.alloc o) (wx.alloc o) :=
  ⟨fun b i hb hr => by
    simp only [size_alloc] at hb
    by_cases hlt : b < w1.heap.size
    · have e1 := Below.heap_alloc w1 o b hlt
      have e2 := Below.heap_alloc wx o b (by omega)
      have := h.rule b i hlt hr
      simp only [World.cell?, e1, e2] at this ⊢
      exact this
    · have hb2 : b = w1.heap.size := by omega
      subst hb2
      have e1 := heap_alloc_new w1 o
      have e2 := heap_alloc_new wx o
      rw [hs] at e2
      simp only [World.cell?, e1, e2]⟩
theorem SteadyBut.drew {r : Nat} {w1 wx : World} (h : SteadyBut r w1 wx) : SteadyBut r w1 wx.drew := ⟨h.rule⟩
theorem SteadyBut.self (r : Nat) (w : World) : SteadyBut r w w := ⟨fun _ _ _ _ => rfl⟩

def KeepPost (A : Nat → Prop) (op : Bt.Op) (known : List Bt.Page) (vf vk : Value) (s : Bt.St) (b : Nat) (r : Value) (w : World) (e : Ending) (w' : World) : Prop :=
  e = .returned r ∧ IsRun A op known vf vk s b w' ∧ Over b w w'

set_option maxRecDepth 10000 in
set_option maxHeartbeats 2000000 in
theorem readRoot_ok (A : Nat → Prop) (op : Bt.Op) (known : List Bt.Page) (vf vk : Value) (s : Bt.St) (b : Nat) (p : Bt.Page) (q : Bt.Ptr) (lv : Int) (w : World) (h : IsRun A op known vf vk s b w) (hA : ∀ c, A c → c < w.heap.size)
    (hl : Bt.latest known 96 = some p) (hlk : Bt.locked p = false) (hr : Bt.readRoot p = some (q, lv)) :
    Calls Tryz.prog 50 #[.pointer (some ⟨b, 0, none⟩)] w (KeepPost A op known vf vk { s with rootPage := p, root := q } b (.bool true) w) := by
  have HR := Lib.hid h
  have HL := Lib.hid hl
  have HLK := Lib.hid hlk
  have HRR := Lib.hid hr
  have HPO : Hid p.Ok := Lib.hid (h.knownRow.ok p (latest_mem hl).1)
  have HPL : Hid (p.line = 96) := Lib.hid (latest_mem hl).2
  have HN : Hid (NoneAt w) := Lib.hid (by obtain ⟨vn, vw, ve, vc, hr, _⟩ := h; exact hr.none)
  have HK : Hid (PgRow w vk known) := Lib.hid h.knownRow
  have HPC : Hid (p.cells = #[.int .i64 p.line, .int .u64 p.head, .int .u64 p.d0, .int .u64 p.d1, .int .u64 p.d2, .int .u64 p.d3, .int .u64 p.d4, .int .u64 p.d5, .int .u64 p.d6]) := Lib.hid rfl
  have HQC : Hid (q.cells = #[.int .i64 q.line, .int .i64 q.gen]) := Lib.hid rfl
  have hlt := h.lt
  have hlt1 : b < w.heap.size + 1 := by omega
  obtain ⟨vn, vw, ve, vc, hc⟩ := h.cells
  have hfr := h.free
  have k0 : w.cell? ⟨b, 0, none⟩ = some (.int .i64 op.kind) := hc 0
  have k8 : w.cell? ⟨b, 8, none⟩ = some vk := hc 8
  have k25 : w.cell? ⟨b, 25, none⟩ = some (.int .i64 s.rootPage.line) := hc 25
  have k26 : w.cell? ⟨b, 26, none⟩ = some (.int .u64 s.rootPage.head) := hc 26
  have k27 : w.cell? ⟨b, 27, none⟩ = some (.int .u64 s.rootPage.d0) := hc 27
  have k28 : w.cell? ⟨b, 28, none⟩ = some (.int .u64 s.rootPage.d1) := hc 28
  have k29 : w.cell? ⟨b, 29, none⟩ = some (.int .u64 s.rootPage.d2) := hc 29
  have k30 : w.cell? ⟨b, 30, none⟩ = some (.int .u64 s.rootPage.d3) := hc 30
  have k31 : w.cell? ⟨b, 31, none⟩ = some (.int .u64 s.rootPage.d4) := hc 31
  have k32 : w.cell? ⟨b, 32, none⟩ = some (.int .u64 s.rootPage.d5) := hc 32
  have k33 : w.cell? ⟨b, 33, none⟩ = some (.int .u64 s.rootPage.d6) := hc 33
  have k34 : w.cell? ⟨b, 34, none⟩ = some (.int .i64 s.root.line) := hc 34
  have k35 : w.cell? ⟨b, 35, none⟩ = some (.int .i64 s.root.gen) := hc 35
  by_cases hk6 : op.kind = 6
  · have b6 : (op.kind == 6) = true := by simp [hk6]
    clear h hl hlk hr hc hk6
    go_enter Tryz.func50, Tryz.ntmps50
    go_wp2_with fail
    go_at_call 78; refine (Latest_any known vk 96 _ ?hpg).mono ?_; (case hpg => exact HK.out.below (by (repeat (first | with_reducible exact Below.refl _ _ | with_reducible assumption | with_reducible refine Below.setCell ?_ (by first | (simp; done) | (simp; omega)) _ | with_reducible refine below_alloc ?_ _ | with_reducible refine below_drewN ?_ _ | with_reducible refine Below.drew ?_ | with_reducible refine below_step ?_ (by assumption))))); rintro e1 w1 ⟨rfl, hb1⟩; rw [HL.out]; ((obtain ⟨hc1, hf1⟩ := below_rules hb1; have hs1 := Below.size hb1; try simp only [size_alloc, size_setCell, size_drew, size_drewN] at hs1 hc1 hf1); (try have z1_w_0 : w.heap.size < w1.heap.size := by omega))
    simp only [Option.getD_some, Option.isSome_some, HPC.out]
    have hb1' : b < w1.heap.size := by omega
    go_wp2_with fail
    go_at_call 80; refine (Locked_any p HPO.out _).mono ?_; rintro e2 w2 ⟨rfl, hb2⟩; rw [HLK.out]; ((obtain ⟨hc2, hf2⟩ := below_rules hb2; have hs2 := Below.size hb2; try simp only [size_alloc, size_setCell, size_drew, size_drewN] at hs2 hc2 hf2); (try have z2_w_0 : w.heap.size < w2.heap.size := by omega); (try have z2_w1_0 : w1.heap.size < w2.heap.size := by omega))
    have hb2' : b < w2.heap.size := by omega
    go_wp2_with fail
    go_at_call 15; refine (ReadRoot_any p HPO.out HPL.out _ ?hng).mono ?_; (case hng => exact HN.out.below (by (repeat (first | with_reducible exact Below.refl _ _ | with_reducible assumption | with_reducible refine Below.setCell ?_ (by first | (simp; done) | (simp; omega)) _ | with_reducible refine below_alloc ?_ _ | with_reducible refine below_drewN ?_ _ | with_reducible refine Below.drew ?_ | with_reducible refine below_step ?_ (by assumption))))); rintro e3 w3 ⟨hpo, hb3⟩
    rw [HRR.out] at hpo
    simp only [HQC.out] at hpo
    subst hpo
    ((obtain ⟨hc3, hf3⟩ := below_rules hb3; have hs3 := Below.size hb3; try simp only [size_alloc, size_setCell, size_drew, size_drewN] at hs3 hc3 hf3); (try have z3_w_0 : w.heap.size < w3.heap.size := by omega); (try have z3_w1_0 : w1.heap.size < w3.heap.size := by omega); (try have z3_w2_0 : w2.heap.size < w3.heap.size := by omega))
    have hb3' : b < w3.heap.size := by omega
    go_wp2_with fail
    have hb4' : b < w3.heap.size + 1 := by omega
    refine wp_region_held_drew (S := SteadyBut (b) _) (by kernel_rfl) (SteadyBut.of (Below.refl _ _).drew) ?_
    intro hSt
    refine wpAnyH_seq (is := [0, 1, 2, 3, 4, 5]) (by kernel_rfl) (by kernel_rfl) (fun _ _ d _ _ h => by cases d <;> exact h) (by assumption) ?_
    iterate 6 (first | (refine TakeSeq.step (v := undef) rfl (Or.inr ⟨by rfl, rfl⟩) ?_; simp only [Act.put, List.setIfInBounds_toArray, List.set_cons_zero, List.set_cons_succ, List.getElem_toArray, List.getElem_cons_zero, List.getElem_cons_succ]) | (refine TakeSeq.step (v := ?_) rfl (Or.inl ⟨by rfl, ?_⟩) ?_; rotate_left 1; (focus (intro wq hSq; have hrd := hSq.rule; go_simp; with_reducible rfl)); simp only [Act.put, List.setIfInBounds_toArray, List.set_cons_zero, List.set_cons_succ, List.getElem_toArray, List.getElem_cons_zero, List.getElem_cons_succ]))
    refine TakeSeq.done ?_
    refine wpAnyH_ready (rs := [6]) (by kernel_rfl) (by simp) ?_
    refine AllReadyH.cons rfl (fun K hK => ?_) (AllReadyH.nil)
    rw [if_pos (by rfl)]
    go_simp
    refine hK.out _ _ ((by repeat (first | with_reducible exact SteadyBut.self _ _ | with_reducible refine SteadyBut.drew ?_ | with_reducible refine SteadyBut.alloc2 ?_ (by simp only [size_setCell, size_drew]) _ | with_reducible refine SteadyBut.set ?_ _ _))) (fun hHeld => ?_)
    clear hK K
    refine wpAnyH_seq (is := [7, 8]) (by kernel_rfl) (by kernel_rfl) (fun _ _ d _ _ h => by cases d <;> exact h) (by assumption) ?_
    iterate 2 (first | (refine TakeSeq.step (v := undef) rfl (Or.inr ⟨by rfl, rfl⟩) ?_; simp only [Act.put, List.setIfInBounds_toArray, List.set_cons_zero, List.set_cons_succ, List.getElem_toArray, List.getElem_cons_zero, List.getElem_cons_succ]) | (refine TakeSeq.step (v := ?_) rfl (Or.inl ⟨by rfl, ?_⟩) ?_; rotate_left 1; (focus (intro wq hSq; have hrd := hSq.rule; go_simp; with_reducible rfl)); simp only [Act.put, List.setIfInBounds_toArray, List.set_cons_zero, List.set_cons_succ, List.getElem_toArray, List.getElem_cons_zero, List.getElem_cons_succ]))
    refine TakeSeq.done ?_
    refine wpAnyH_ready (rs := [9]) (by kernel_rfl) (by simp) ?_
    refine AllReadyH.cons rfl (fun K hK => ?_) (AllReadyH.nil)
    rw [if_pos (by rfl)]
    go_simp
    refine hK.out _ _ ((by repeat (first | with_reducible exact SteadyBut.self _ _ | with_reducible refine SteadyBut.drew ?_ | with_reducible refine SteadyBut.alloc2 ?_ (by simp only [size_setCell, size_drew]) _ | with_reducible refine SteadyBut.set ?_ _ _))) (fun hHeld => ?_)
    clear hK K
    refine wpAnyH_done (by kernel_rfl) ?_ _
    go_wp2_with fail
    refine bodyPost_ret (results_tmp rfl _ _ _) rfl ⟨rfl, ?_, by (repeat (first | with_reducible exact Over.refl _ _ | with_reducible assumption | with_reducible refine Over.put ?_ _ _ | with_reducible refine Over.alloc ?_ _ | with_reducible refine Over.drew ?_ | with_reducible refine Over.own ?_ (by first | (simp; done) | (simp; omega)) _ | with_reducible refine Over.trans ?_ (by assumption) | with_reducible refine Over.then_below ?_ (by assumption)))⟩
    exact (((HR.out.below (w' := w3) (by (repeat (first | with_reducible exact Below.refl _ _ | with_reducible assumption | with_reducible refine Below.setCell ?_ (by first | (simp; done) | (simp; omega)) _ | with_reducible refine below_alloc ?_ _ | with_reducible refine below_drewN ?_ _ | with_reducible refine Below.drew ?_ | with_reducible refine below_step ?_ (by assumption))))).rootSet p q).alloc _).drew
  · have b6 : (op.kind == 6) = false := by simp [hk6]
    clear h hl hlk hr hc hk6
    go_enter Tryz.func50, Tryz.ntmps50
    go_wp2_with fail
    go_at_call 78; refine (Latest_any known vk 96 _ ?hpg).mono ?_; (case hpg => exact HK.out.below (by (repeat (first | with_reducible exact Below.refl _ _ | with_reducible assumption | with_reducible refine Below.setCell ?_ (by first | (simp; done) | (simp; omega)) _ | with_reducible refine below_alloc ?_ _ | with_reducible refine below_drewN ?_ _ | with_reducible refine Below.drew ?_ | with_reducible refine below_step ?_ (by assumption))))); rintro e1 w1 ⟨rfl, hb1⟩; rw [HL.out]; ((obtain ⟨hc1, hf1⟩ := below_rules hb1; have hs1 := Below.size hb1; try simp only [size_alloc, size_setCell, size_drew, size_drewN] at hs1 hc1 hf1); (try have z1_w_0 : w.heap.size < w1.heap.size := by omega))
    simp only [Option.getD_some, Option.isSome_some, HPC.out]
    have hb1' : b < w1.heap.size := by omega
    go_wp2_with fail
    go_at_call 15; refine (ReadRoot_any p HPO.out HPL.out _ ?hng).mono ?_; (case hng => exact HN.out.below (by (repeat (first | with_reducible exact Below.refl _ _ | with_reducible assumption | with_reducible refine Below.setCell ?_ (by first | (simp; done) | (simp; omega)) _ | with_reducible refine below_alloc ?_ _ | with_reducible refine below_drewN ?_ _ | with_reducible refine Below.drew ?_ | with_reducible refine below_step ?_ (by assumption))))); rintro e3 w3 ⟨hpo, hb3⟩
    rw [HRR.out] at hpo
    simp only [HQC.out] at hpo
    subst hpo
    ((obtain ⟨hc3, hf3⟩ := below_rules hb3; have hs3 := Below.size hb3; try simp only [size_alloc, size_setCell, size_drew, size_drewN] at hs3 hc3 hf3); (try have z3_w_0 : w.heap.size < w3.heap.size := by omega); (try have z3_w1_0 : w1.heap.size < w3.heap.size := by omega))
    have hb3' : b < w3.heap.size := by omega
    go_wp2_with fail
    have hb4' : b < w3.heap.size + 1 := by omega
    refine wp_region_held_drew (S := SteadyBut (b) _) (by kernel_rfl) (SteadyBut.of (Below.refl _ _).drew) ?_
    intro hSt
    refine wpAnyH_seq (is := [0, 1, 2, 3, 4, 5]) (by kernel_rfl) (by kernel_rfl) (fun _ _ d _ _ h => by cases d <;> exact h) (by assumption) ?_
    iterate 6 (first | (refine TakeSeq.step (v := undef) rfl (Or.inr ⟨by rfl, rfl⟩) ?_; simp only [Act.put, List.setIfInBounds_toArray, List.set_cons_zero, List.set_cons_succ, List.getElem_toArray, List.getElem_cons_zero, List.getElem_cons_succ]) | (refine TakeSeq.step (v := ?_) rfl (Or.inl ⟨by rfl, ?_⟩) ?_; rotate_left 1; (focus (intro wq hSq; have hrd := hSq.rule; go_simp; with_reducible rfl)); simp only [Act.put, List.setIfInBounds_toArray, List.set_cons_zero, List.set_cons_succ, List.getElem_toArray, List.getElem_cons_zero, List.getElem_cons_succ]))
    refine TakeSeq.done ?_
    refine wpAnyH_ready (rs := [6]) (by kernel_rfl) (by simp) ?_
    refine AllReadyH.cons rfl (fun K hK => ?_) (AllReadyH.nil)
    rw [if_pos (by rfl)]
    go_simp
    refine hK.out _ _ ((by repeat (first | with_reducible exact SteadyBut.self _ _ | with_reducible refine SteadyBut.drew ?_ | with_reducible refine SteadyBut.alloc2 ?_ (by simp only [size_setCell, size_drew]) _ | with_reducible refine SteadyBut.set ?_ _ _))) (fun hHeld => ?_)
    clear hK K
    refine wpAnyH_seq (is := [7, 8]) (by kernel_rfl) (by kernel_rfl) (fun _ _ d _ _ h => by cases d <;> exact h) (by assumption) ?_
    iterate 2 (first | (refine TakeSeq.step (v := undef) rfl (Or.inr ⟨by rfl, rfl⟩) ?_; simp only [Act.put, List.setIfInBounds_toArray, List.set_cons_zero, List.set_cons_succ, List.getElem_toArray, List.getElem_cons_zero, List.getElem_cons_succ]) | (refine TakeSeq.step (v := ?_) rfl (Or.inl ⟨by rfl, ?_⟩) ?_; rotate_left 1; (focus (intro wq hSq; have hrd := hSq.rule; go_simp; with_reducible rfl)); simp only [Act.put, List.setIfInBounds_toArray, List.set_cons_zero, List.set_cons_succ, List.getElem_toArray, List.getElem_cons_zero, List.getElem_cons_succ]))
    refine TakeSeq.done ?_
    refine wpAnyH_ready (rs := [9]) (by kernel_rfl) (by simp) ?_
    refine AllReadyH.cons rfl (fun K hK => ?_) (AllReadyH.nil)
    rw [if_pos (by rfl)]
    go_simp
    refine hK.out _ _ ((by repeat (first | with_reducible exact SteadyBut.self _ _ | with_reducible refine SteadyBut.drew ?_ | with_reducible refine SteadyBut.alloc2 ?_ (by simp only [size_setCell, size_drew]) _ | with_reducible refine SteadyBut.set ?_ _ _))) (fun hHeld => ?_)
    clear hK K
    refine wpAnyH_done (by kernel_rfl) ?_ _
    go_wp2_with fail
    refine bodyPost_ret (results_tmp rfl _ _ _) rfl ⟨rfl, ?_, by (repeat (first | with_reducible exact Over.refl _ _ | with_reducible assumption | with_reducible refine Over.put ?_ _ _ | with_reducible refine Over.alloc ?_ _ | with_reducible refine Over.drew ?_ | with_reducible refine Over.own ?_ (by first | (simp; done) | (simp; omega)) _ | with_reducible refine Over.trans ?_ (by assumption) | with_reducible refine Over.then_below ?_ (by assumption)))⟩
    exact (((HR.out.below (w' := w3) (by (repeat (first | with_reducible exact Below.refl _ _ | with_reducible assumption | with_reducible refine Below.setCell ?_ (by first | (simp; done) | (simp; omega)) _ | with_reducible refine below_alloc ?_ _ | with_reducible refine below_drewN ?_ _ | with_reducible refine Below.drew ?_ | with_reducible refine below_step ?_ (by assumption))))).rootSet p q).alloc _).drew
end Go.Proofs.YtjmpekanlmepmaaGreatDoor
