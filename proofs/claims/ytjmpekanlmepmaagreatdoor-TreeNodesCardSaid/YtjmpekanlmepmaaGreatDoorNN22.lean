/- Package btree: the root page is read. -/
import Derived.Test.YtjmpekanlmepmaaGreatDoorNN20
import Derived.Test.YtjmpekanlmepmaaGreatDoorNN14
import Derived.Test.YtjmpekanlmepmaaGreatDoorNN21
set_option linter.all false
set_option maxRecDepth 20000
set_option maxHeartbeats 8000000
open Go.Lib (hid)
namespace Go.Proofs.YtjmpekanlmepmaaGreatDoor
open Go.RowKit
theorem IsRun.rootSet {A : Nat → Prop} {op : Bt.Op} {known : List Bt.Page} {vf vk : Value} {s : Bt.St} {b : Nat} {w : World} (h : IsRun A op known vf vk s b w) (p : Bt.Page) (q : Bt.Ptr) :
 IsRun A op known vf vk { s with rootPage := p, root := q } b (((((((((((w.setCell ⟨b, 25, none⟩ (.int .i64 p.line)).setCell ⟨b, 26, none⟩ (.int .u64 p.head)).setCell ⟨b, 27, none⟩ (.int .u64 p.d0)).setCell ⟨b, 28, none⟩ (.int .u64 p.d1)).setCell ⟨b, 29, none⟩ (.int .u64 p.d2)).setCell ⟨b, 30, none⟩ (.int .u64 p.d3)).setCell ⟨b, 31, none⟩ (.int .u64 p.d4)).setCell ⟨b, 32, none⟩ (.int .u64 p.d5)).setCell ⟨b, 33, none⟩ (.int .u64 p.d6)).setCell ⟨b, 34, none⟩ (.int .i64 q.line)).setCell ⟨b, 35, none⟩ (.int .i64 q.gen)) :=
 (((((((((((h.field (s' := { s with rootPage := { s.rootPage with line := p.line } }) 25 (.int .i64 p.line) (fun _ _ _ _ => rfl)).field (s' := { s with rootPage := { s.rootPage with line := p.line, head := p.head } }) 26 (.int .u64 p.head) (fun _ _ _ _ => rfl)).field (s' := { s with rootPage := { s.rootPage with line := p.line, head := p.head, d0 := p.d0 } }) 27 (.int .u64 p.d0) (fun _ _ _ _ => rfl)).field (s' := { s with rootPage := { s.rootPage with line := p.line, head := p.head, d0 := p.d0, d1 := p.d1 } }) 28 (.int .u64 p.d1) (fun _ _ _ _ => rfl)).field (s' := { s with rootPage := { s.rootPage with line := p.line, head := p.head, d0 := p.d0, d1 := p.d1, d2 := p.d2 } }) 29 (.int .u64 p.d2) (fun _ _ _ _ => rfl)).field (s' := { s with rootPage := { s.rootPage with line := p.line, head := p.head, d0 := p.d0, d1 := p.d1, d2 := p.d2, d3 := p.d3 } }) 30 (.int .u64 p.d3) (fun _ _ _ _ => rfl)).field (s' := { s with rootPage := { s.rootPage with line := p.line, head := p.head, d0 := p.d0, d1 := p.d1, d2 := p.d2, d3 := p.d3, d4 := p.d4 } }) 31 (.int .u64 p.d4) (fun _ _ _ _ => rfl)).field (s' := { s with rootPage := { s.rootPage with line := p.line, head := p.head, d0 := p.d0, d1 := p.d1, d2 := p.d2, d3 := p.d3, d4 := p.d4, d5 := p.d5 } }) 32 (.int .u64 p.d5) (fun _ _ _ _ => rfl)).field (s' := { s with rootPage := { s.rootPage with line := p.line, head := p.head, d0 := p.d0, d1 := p.d1, d2 := p.d2, d3 := p.d3, d4 := p.d4, d5 := p.d5, d6 := p.d6 } }) 33 (.int .u64 p.d6) (fun _ _ _ _ => rfl)).field (s' := { s with rootPage := p, root := ⟨q.line, s.root.gen⟩ }) 34 (.int .i64 q.line) (fun _ _ _ _ => rfl)).field (s' := { s with rootPage := p, root := q }) 35 (.int .i64 q.gen) (fun _ _ _ _ => rfl))
theorem SteadyBut.alloc2 {r : Nat} {w1 wx : World} (h : SteadyBut r w1 wx) (hs : wx.heap.size = w1.heap.size) (o : Obj) : SteadyBut r (w1.alloc o) (wx.alloc o) :=
 ⟨fun b i hb hr => by
  simp only [size_alloc] at hb
  by_cases hlt : b < w1.heap.size
  ·have e1 := Below.heap_alloc w1 o b hlt
   have e2 := Below.heap_alloc wx o b (by omega)
   have := h.rule b i hlt hr
   simp only [World.cell?, e1, e2] at this ⊢
   exact this
  ·have hb2 : b = w1.heap.size := by omega
   subst hb2
   have e1 := heap_alloc_new w1 o
   have e2 := heap_alloc_new wx o
   rw [hs] at e2
   simp only [World.cell?, e1, e2]⟩
theorem SteadyBut.drew {r : Nat} {w1 wx : World} (h : SteadyBut r w1 wx) : SteadyBut r w1 wx.drew := ⟨h.rule⟩
theorem SteadyBut.self (r : Nat) (w : World) : SteadyBut r w w := ⟨fun _ _ _ _ => rfl⟩
theorem qF {r : Nat} {w1 wx : World} (h : SteadyBut r w1 wx := by repeat (first | with_reducible exact SteadyBut.self _ _ | with_reducible refine SteadyBut.drew ?_ | with_reducible refine SteadyBut.alloc2 ?_ (by simp only [size_setCell, size_drew]) _ | with_reducible refine SteadyBut.set ?_ _ _)) : SteadyBut r w1 wx := h
def KeepPost (A : Nat → Prop) (op : Bt.Op) (known : List Bt.Page) (vf vk : Value) (s : Bt.St) (b : Nat) (r : Value) (w : World) (e : Ending) (w' : World) : Prop :=
 e = .returned r ∧ IsRun A op known vf vk s b w' ∧ Over b w w'
theorem readRoot_ok (A : Nat → Prop) (op : Bt.Op) (known : List Bt.Page) (vf vk : Value) (s : Bt.St) (b : Nat) (p : Bt.Page) (q : Bt.Ptr) (lv : Int) (w : World) (h : IsRun A op known vf vk s b w) (hA : ∀ c, A c → c < w.heap.size)
 (hl : Bt.latest known 96 = some p) (hlk : Bt.locked p = false) (hr : Bt.readRoot p = some (q, lv)) :
 Calls Tryz.prog 50 #[.pointer (some ⟨b, 0, none⟩)] w (KeepPost A op known vf vk { s with rootPage := p, root := q } b (.bool true) w) := by
 have HR := hid h
 have HL := hid hl
 have HLK := hid hlk
 have HRR := hid hr
 have HPO : Hid p.Ok := hid (h.knownRow.ok p (latest_mem hl).1)
 have HPL : Hid (p.line = 96) := hid (latest_mem hl).2
 have HN : Hid (NoneAt w) := hid (by obtain ⟨vn, vw, ve, vc, hr, _⟩ := h; exact hr.none)
 have HK : Hid (PgRow w vk known) := hid h.knownRow
 have HPC : Hid (p.cells = #[.int .i64 p.line, .int .u64 p.head, .int .u64 p.d0, .int .u64 p.d1, .int .u64 p.d2, .int .u64 p.d3, .int .u64 p.d4, .int .u64 p.d5, .int .u64 p.d6]) := hid rfl
 have HQC : Hid (q.cells = #[.int .i64 q.line, .int .i64 q.gen]) := hid rfl
 have hlt := h.lt
 have hlt1 : b < w.heap.size + 1 := by omega
 obtain ⟨vn, vw, ve, vc, hc⟩ := h.cells
 have hfr := h.free
 have k0 : w.cell? ⟨b, 0, none⟩ = some (.int .i64 op.kind) := hc 0
 have k8 : w.cell? ⟨b, 8, none⟩ = some vk := hc 8
 have k25 : w.cell? ⟨b, 25, none⟩ = some (.int .i64 s.rootPage.line) := hc 25
 have k26 : w.cell? ⟨b, 26, none⟩ = some (.int .u64 s.rootPage.head) := hc 26
 have k27 : w.cell? ⟨b, 27, none⟩ = some (.int .u64 s.rootPage.d0) := hc 27
 have k28 : w.cell? ⟨b, 28, none⟩ = some (.int .u64 s.rootPage.d1) := hc 28
 have k29 : w.cell? ⟨b, 29, none⟩ = some (.int .u64 s.rootPage.d2) := hc 29
 have k30 : w.cell? ⟨b, 30, none⟩ = some (.int .u64 s.rootPage.d3) := hc 30
 have k31 : w.cell? ⟨b, 31, none⟩ = some (.int .u64 s.rootPage.d4) := hc 31
 have k32 : w.cell? ⟨b, 32, none⟩ = some (.int .u64 s.rootPage.d5) := hc 32
 have k33 : w.cell? ⟨b, 33, none⟩ = some (.int .u64 s.rootPage.d6) := hc 33
 have k34 : w.cell? ⟨b, 34, none⟩ = some (.int .i64 s.root.line) := hc 34
 have k35 : w.cell? ⟨b, 35, none⟩ = some (.int .i64 s.root.gen) := hc 35
 by_cases hk6 : op.kind = 6
 ·have b6 : (op.kind == 6) = true := by simp [hk6]
  clear h hl hlk hr hc hk6
  go_enter Tryz.func50, Tryz.ntmps50
  go_wp2_with fail
  go_at_call 78; refine (Latest_any known vk 96 _ ?hpg).mono ?_; (case hpg => exact HK.out.below qL); rintro e1 w1 ⟨rfl, hb1⟩; rw [HL.out]; ((obtain ⟨hc1, hf1, hs1⟩ := qR hb1); (try have := qN0 w w1))
  simp only [Option.getD_some, Option.isSome_some, HPC.out]
  have hb1' : b < w1.heap.size := by omega
  go_wp2_with fail
  go_at_call 80; refine (Locked_any p HPO.out _).mono ?_; rintro e2 w2 ⟨rfl, hb2⟩; rw [HLK.out]; ((obtain ⟨hc2, hf2, hs2⟩ := qR hb2); (try have := qN0 w w2); (try have := qN0 w1 w2))
  have hb2' : b < w2.heap.size := by omega
  go_wp2_with fail
  go_at_call 15; refine (ReadRoot_any p HPO.out HPL.out _ ?hng).mono ?_; (case hng => exact HN.out.below qL); rintro e3 w3 ⟨hpo, hb3⟩
  rw [HRR.out] at hpo
  simp only [HQC.out] at hpo
  subst hpo
  ((obtain ⟨hc3, hf3, hs3⟩ := qR hb3); (try have := qN0 w w3); (try have := qN0 w1 w3); (try have := qN0 w2 w3))
  have hb3' : b < w3.heap.size := by omega
  go_wp2_with fail
  have hb4' : b < w3.heap.size + 1 := by omega
  refine qB (b) fun hSt => ?_
  refine qS [0, 1, 2, 3, 4, 5] ?_
  iterate 6 (refine qT ?_; simp only [Act.put, qY])
  refine TakeSeq.done ?_
  refine qH 6 fun K hK => ?_
  go_simp
  refine hK.out _ _ qF (fun hHeld => ?_)
  clear hK K
  refine qS [7, 8] ?_
  iterate 2 (refine qT ?_; simp only [Act.put, qY])
  refine TakeSeq.done ?_
  refine qH 9 fun K hK => ?_
  go_simp
  refine hK.out _ _ qF (fun hHeld => ?_)
  clear hK K
  refine qD ?_ _
  go_wp2_with fail
  refine bodyPost_ret (results_tmp rfl _ _ _) rfl ⟨rfl, ?_, qV⟩
  exact (((HR.out.below (w' := w3) qL).rootSet p q).alloc _).drew
 ·have b6 : (op.kind == 6) = false := by simp [hk6]
  clear h hl hlk hr hc hk6
  go_enter Tryz.func50, Tryz.ntmps50
  go_wp2_with fail
  go_at_call 78; refine (Latest_any known vk 96 _ ?hpg).mono ?_; (case hpg => exact HK.out.below qL); rintro e1 w1 ⟨rfl, hb1⟩; rw [HL.out]; ((obtain ⟨hc1, hf1, hs1⟩ := qR hb1); (try have := qN0 w w1))
  simp only [Option.getD_some, Option.isSome_some, HPC.out]
  have hb1' : b < w1.heap.size := by omega
  go_wp2_with fail
  go_at_call 15; refine (ReadRoot_any p HPO.out HPL.out _ ?hng).mono ?_; (case hng => exact HN.out.below qL); rintro e3 w3 ⟨hpo, hb3⟩
  rw [HRR.out] at hpo
  simp only [HQC.out] at hpo
  subst hpo
  ((obtain ⟨hc3, hf3, hs3⟩ := qR hb3); (try have := qN0 w w3); (try have := qN0 w1 w3))
  have hb3' : b < w3.heap.size := by omega
  go_wp2_with fail
  have hb4' : b < w3.heap.size + 1 := by omega
  refine qB (b) fun hSt => ?_
  refine qS [0, 1, 2, 3, 4, 5] ?_
  iterate 6 (refine qT ?_; simp only [Act.put, qY])
  refine TakeSeq.done ?_
  refine qH 6 fun K hK => ?_
  go_simp
  refine hK.out _ _ qF (fun hHeld => ?_)
  clear hK K
  refine qS [7, 8] ?_
  iterate 2 (refine qT ?_; simp only [Act.put, qY])
  refine TakeSeq.done ?_
  refine qH 9 fun K hK => ?_
  go_simp
  refine hK.out _ _ qF (fun hHeld => ?_)
  clear hK K
  refine qD ?_ _
  go_wp2_with fail
  refine bodyPost_ret (results_tmp rfl _ _ _) rfl ⟨rfl, ?_, qV⟩
  exact (((HR.out.below (w' := w3) qL).rootSet p q).alloc _).drew
def opCells (op : Bt.Op) (vf : Value) : Array Value := #[.int .i64 op.kind, .int .u32 op.key, .int .u32 op.last, .int .i64 op.to.line, .int .i64 op.to.gen, .int .i64 op.level, .int .i64 op.limit, vf]
theorem isKey_any (k : Int) (w : World) : Calls Tryz.prog 77 #[.int .u32 k] w fun e w' => e = .returned (.bool (Bt.isKey k)) ∧ w = w' := by
 go_enter Tryz.func77, Tryz.ntmps77
 go_wp2
 all_goals go_ret
 all_goals
  refine ⟨ret_bool ?_, rfl⟩
  unfold Bt.isKey Bt.maxKey
  first | (simp [*]; done) | (simp; omega)
theorem isValid_insert (op : Bt.Op) (vf : Value) (w : World) (hk : op.kind = 2) (hv : Bt.isKey op.key = true) (hp : Bt.validP op.to = true) :
 Calls Tryz.prog 49 #[.agg (opCells op vf)] w fun e w' => e = .returned (.bool true) ∧ Below w.heap.size w w' := by
 have HV := hid hv
 have HP := hid hp
 have b6 : (op.kind == 6) = false := by simp [hk]
 have b5 : (op.kind == 5) = false := by simp [hk]
 have b2 : (op.kind == 2) = true := by simp [hk]
 clear hk hv hp
 unfold opCells
 go_enter Tryz.func49, Tryz.ntmps49
 go_wp2_with fail
 go_at_call 77; refine (isKey_any op.key _).mono ?_; rintro e w1 ⟨rfl, rfl⟩; rw [HV.out]
 go_wp2_with fail
 go_at_call 75; refine (Valid_any op.to.line op.to.gen _).mono ?_; rintro e w1 ⟨rfl, hb⟩
 rw [show Bt.validP ⟨op.to.line, op.to.gen⟩ = true from HP.out]
 go_wp2_with fail
 refine bodyPost_ret (results_tmp rfl _ _ _) rfl ⟨rfl, qL⟩
theorem isValid_raise (op : Bt.Op) (vf : Value) (w : World) (hk : op.kind = 6) :
 Calls Tryz.prog 49 #[.agg (opCells op vf)] w fun e w' => e = .returned (.bool true) ∧ Below w.heap.size w w' := by
 have b6 : (op.kind == 6) = true := by simp [hk]
 clear hk
 unfold opCells
 go_enter Tryz.func49, Tryz.ntmps49
 go_wp2_with fail
 refine bodyPost_ret (results_tmp rfl _ _ _) rfl ⟨rfl, qL⟩
def cmpPage : Value := .func (.func 60) #[] #[]
theorem cmpPage_any (p q : Bt.Page) (w : World) : Calls Tryz.prog 60 #[.agg p.cells, .agg q.cells] w fun e w' => e = .returned (.int .i64 (Lib.compareInt p.line q.line)) ∧ Below w.heap.size w w' := by
 unfold Bt.Page.cells
 go_enter Tryz.func60, Tryz.ntmps60
 go_wp2_with (go_at_call 61; refine (Tryz.cmp_Compare_int p.line q.line _).mono ?_; rintro e w1 ⟨rfl, hw⟩; subst hw)
 go_ret
 exact ⟨rfl, qL⟩
theorem isort0 (p : Option Addr) (cap : Nat) (w : World) : Calls Tryz.prog 111 #[.slice p 0 cap, .int .i64 0, .int .i64 0, cmpPage] w fun e w' => e = .returned (.tuple #[]) ∧ Below w.heap.size w w' := by
 unfold cmpPage
 go_enter Tryz.func111, Tryz.ntmps111
 go_wp2_with fail
 refine wp_loop_rounds 1 ?_
 rw [rounds_succ]
 go_wp2_with fail
 exact bodyPost_end (results_none rfl _ _ _) rfl ⟨rfl, qL⟩
theorem isort1 (p : Option Addr) (cap : Nat) (w : World) : Calls Tryz.prog 111 #[.slice p 1 cap, .int .i64 0, .int .i64 1, cmpPage] w fun e w' => e = .returned (.tuple #[]) ∧ Below w.heap.size w w' := by
 unfold cmpPage
 go_enter Tryz.func111, Tryz.ntmps111
 go_wp2_with fail
 refine wp_loop_rounds 1 ?_
 rw [rounds_succ]
 go_wp2_with fail
 exact bodyPost_end (results_none rfl _ _ _) rfl ⟨rfl, qL⟩
theorem isort2 (g cap base : Nat) (p q : Bt.Page) (hpq : p.line ≤ q.line) (w : World) (h : w.ownsRow base 25 9 (.slice (some ⟨g, 0, none⟩) 2 cap) 2 (pageCells [p, q])) :
 Calls Tryz.prog 111 #[.slice (some ⟨g, 0, none⟩) 2 cap, .int .i64 0, .int .i64 2, cmpPage] w fun e w' => e = .returned (.tuple #[]) ∧ Below w.heap.size w w' := by
 have hlt := (own_lt h).2
 have hr0 : w.rangeAt g (0 * 9) p.cells.toList := fun j u hu => by
  have hj : j < 9 := by have := (List.getElem?_eq_some_iff.1 hu).1; simpa [Bt.Page.cells] using this
  refine own_cells h _ _ ?_
  rw [Nat.zero_mul, Nat.zero_add]
  simp only [pageCells, List.flatMap_cons]
  rw [List.getElem?_append_left (by simpa [Bt.Page.cells] using hj)]
  exact hu
 have hr1 : w.rangeAt g (1 * 9) q.cells.toList := fun j u hu => by
  have hj : j < 9 := by have := (List.getElem?_eq_some_iff.1 hu).1; simpa [Bt.Page.cells] using this
  refine own_cells h _ _ ?_
  simp only [pageCells, List.flatMap_cons]
  rw [List.getElem?_append_right (by simp [Bt.Page.cells])]
  have e1 : 1 * 9 + j - p.cells.toList.length = j := by simp [Bt.Page.cells]
  rw [e1, List.getElem?_append_left (by simpa [Bt.Page.cells] using hj)]
  exact hu
 obtain ⟨c0, c1, c2, c3, c4, c5, c6, c7, c8⟩ := nine hr0
 obtain ⟨d0, d1, d2, d3, d4, d5, d6, d7, d8⟩ := nine hr1
 have hcmp : decide (Lib.compareInt q.line p.line < 0) = false := by
  simp only [Lib.compareInt]
  split
  ·omega
  ·split <;> rfl
 simp only [Nat.zero_mul, Nat.zero_add, Nat.one_mul] at c0 c1 c2 c3 c4 c5 c6 c7 c8 d0 d1 d2 d3 d4 d5 d6 d7 d8
 clear h hr0 hr1
 have wr0 : IntKind.i64.wrap 0 = 0 := by rfl
 unfold cmpPage
 go_enter Tryz.func111, Tryz.ntmps111
 go_wp2_with fail
 refine wp_loop_rounds 2 ?_
 rw [rounds_succ]
 go_wp2_with fail
 refine wp_loop_rounds 1 ?_
 rw [rounds_succ]
 go_wp2_with fail
 refine qA fun hSt => ?_
 refine qS [0, 1, 2, 3, 4, 5, 6, 7, 8, 9, 10, 11, 12, 13] ?_
 iterate 14 (refine qT ?_; simp only [Act.put, qY])
 refine TakeSeq.done ?_
 refine qH 14 fun K hK => ?_
 go_simp
 go_at_call 60; refine (cmpPage_any q p _).mono ?_; rintro e w1 ⟨rfl, hb⟩; ((obtain ⟨hc1, hf1, hs1⟩ := qR hb); (try have := qN0 w w1))
 go_wp2_with fail
 refine hK.out _ _ (SteadyAll.of qL) (fun hHeld => ?_)
 clear hK K
 refine qS [15, 16] ?_
 iterate 2 (refine qT ?_; simp only [Act.put, qY])
 refine TakeSeq.done ?_
 refine qD ?_ _
 go_wp2_with fail
 rw [rounds_succ]
 go_wp2_with fail
 exact bodyPost_end (results_none rfl _ _ _) rfl ⟨rfl, qL⟩
theorem sG27 {P : Prop} (h : P := by
 unfold cmpPage at h ⊢
 go_enter Tryz.func95, Tryz.ntmps95
 go_wp2_with fail
 refine wp_loop_rounds 1 ?_
 rw [rounds_succ]
 go_wp2_with fail
 go_at_call 111; refine h.out.mono ?_; rintro e w1 ⟨rfl, hb⟩
 go_wp2_with fail
 exact bodyPost_ret (results_none rfl _ _ _) rfl ⟨rfl, hb⟩) : P := h
theorem pdq0 (v : Value) (lim : Int) (w : World) (h : Hid (Calls Tryz.prog 111 #[v, .int .i64 0, .int .i64 0, cmpPage] w fun e w' => e = .returned (.tuple #[]) ∧ Below w.heap.size w w')) :
 Calls Tryz.prog 95 #[v, .int .i64 0, .int .i64 0, .int .i64 lim, cmpPage] w fun e w' => e = .returned (.tuple #[]) ∧ Below w.heap.size w w' := by
 exact sG27
theorem pdq1 (v : Value) (lim : Int) (w : World) (h : Hid (Calls Tryz.prog 111 #[v, .int .i64 0, .int .i64 1, cmpPage] w fun e w' => e = .returned (.tuple #[]) ∧ Below w.heap.size w w')) :
 Calls Tryz.prog 95 #[v, .int .i64 0, .int .i64 1, .int .i64 lim, cmpPage] w fun e w' => e = .returned (.tuple #[]) ∧ Below w.heap.size w w' := by
 exact sG27
theorem pdq2 (v : Value) (lim : Int) (w : World) (h : Hid (Calls Tryz.prog 111 #[v, .int .i64 0, .int .i64 2, cmpPage] w fun e w' => e = .returned (.tuple #[]) ∧ Below w.heap.size w w')) :
 Calls Tryz.prog 95 #[v, .int .i64 0, .int .i64 2, .int .i64 lim, cmpPage] w fun e w' => e = .returned (.tuple #[]) ∧ Below w.heap.size w w' := by
 exact sG27
def SortedRow (w : World) (v : Value) (l : List Bt.Page) : Prop := (∃ p cap, v = .slice p 0 cap) ∨ (∃ p cap, v = .slice p 1 cap) ∨ ∃ g cap base p q, v = .slice (some ⟨g, 0, none⟩) 2 cap ∧ l = [p, q] ∧ p.line ≤ q.line ∧ w.ownsRow base 25 9 v 2 (pageCells l)
theorem sortFunc_sorted (v : Value) (l : List Bt.Page) (w : World) (h : SortedRow w v l) : Calls Tryz.prog 59 #[v, cmpPage] w fun e w' => e = .returned (.tuple #[]) ∧ Below w.heap.size w w' := by
 rcases h with ⟨p, cap, rfl⟩ | ⟨p, cap, rfl⟩ | ⟨g, cap, base, p, q, rfl, rfl, hpq, hown⟩
 ·have HH := hid (pdq0 (.slice p 0 cap) (Lib.bitLen 0) w (hid (isort0 p cap w)))
  unfold cmpPage at HH ⊢
  go_enter Tryz.func59, Tryz.ntmps59
  go_wp2_with fail
  go_at_call 96; refine (Tryz.bits_Len 0 _ (by omega) (by omega)).mono ?_; rintro e w1 ⟨rfl, hw⟩; obtain rfl : w = w1 := hw.symm; clear hw
  go_wp2_with fail
  go_at_call 95; refine HH.out.mono ?_; rintro e w1 ⟨rfl, hb⟩
  go_wp2_with fail
  exact bodyPost_end (results_none rfl _ _ _) rfl ⟨rfl, hb⟩
 ·have HH := hid (pdq1 (.slice p 1 cap) (Lib.bitLen 1) w (hid (isort1 p cap w)))
  unfold cmpPage at HH ⊢
  go_enter Tryz.func59, Tryz.ntmps59
  go_wp2_with fail
  go_at_call 96; refine (Tryz.bits_Len 1 _ (by omega) (by omega)).mono ?_; rintro e w1 ⟨rfl, hw⟩; obtain rfl : w = w1 := hw.symm; clear hw
  go_wp2_with fail
  go_at_call 95; refine HH.out.mono ?_; rintro e w1 ⟨rfl, hb⟩
  go_wp2_with fail
  exact bodyPost_end (results_none rfl _ _ _) rfl ⟨rfl, hb⟩
 ·have HH := hid (pdq2 (.slice (some ⟨g, 0, none⟩) 2 cap) (Lib.bitLen 2) w (hid (isort2 g cap base p q hpq w hown)))
  unfold cmpPage at HH ⊢
  go_enter Tryz.func59, Tryz.ntmps59
  go_wp2_with fail
  go_at_call 96; refine (Tryz.bits_Len 2 _ (by omega) (by omega)).mono ?_; rintro e w1 ⟨rfl, hw⟩; obtain rfl : w = w1 := hw.symm; clear hw
  go_wp2_with fail
  go_at_call 95; refine HH.out.mono ?_; rintro e w1 ⟨rfl, hb⟩
  go_wp2_with fail
  exact bodyPost_end (results_none rfl _ _ _) rfl ⟨rfl, hb⟩
theorem store_fit (A : Nat → Prop) (op : Bt.Op) (known : List Bt.Page) (vf vk : Value) (s : Bt.St) (b : Nat) (page : Bt.Page) (n : Bt.Node) (es : List Bt.Entry) (a0 : Option Addr) (n0 c0 g cap : Nat) (w : World) (h : IsRun A op known vf vk s b w) (hA : ∀ c, A c → c < w.heap.size)
 (hp : page.Ok) (hn : NodeOk { n with entries := es }) (he : EntRow w (.slice (some ⟨g, 0, none⟩) es.length cap) es) (h5 : es.length ≤ 5) :
 Calls Tryz.prog 86 #[.pointer (some ⟨b, 0, none⟩), .agg (foundCells page n (.slice a0 n0 c0)), .slice (some ⟨g, 0, none⟩) es.length cap, .slice none 0 0] w (RunPost A op known vf vk (s.store op page n es []) b (.tuple #[]) w) := by
 have HX : Hid (s.store op page n es [] = s.finish [({ n with entries := es } : Bt.Node).fill page] []) := hid (by simp [Bt.St.store, h5])
 have HR := hid h
 have HP := hid hp
 have HN := hid hn
 have HE := hid he
 have HRC : ∀ r : Bt.Page, Hid (r.cells = #[.int .i64 r.line, .int .u64 r.head, .int .u64 r.d0, .int .u64 r.d1, .int .u64 r.d2, .int .u64 r.d3, .int .u64 r.d4, .int .u64 r.d5, .int .u64 r.d6]) := fun r => hid rfl
 have HFC := HRC (({ n with entries := es } : Bt.Node).fill page)
 have hlt := h.lt
 have hlt1 : b < w.heap.size + 1 := by omega
 have b1 : decide ((es.length : Int) ≤ 5) = true := by simp; omega
 clear h hp hn he
 unfold foundCells
 go_enter Tryz.func86, Tryz.ntmps86
 go_wp2_with fail
 go_at_call 64; refine (fill_any { n with entries := es } (.slice (some ⟨g, 0, none⟩) es.length cap) page HP.out HN.out _ ?hpf).mono ?_
 case hpf => exact HE.out.below qL
 rintro e1 w1 ⟨rfl, hb1⟩
 rw [HFC.out]
 ((obtain ⟨hc1, hf1, hs1⟩ := qR hb1); (try have := qN0 w w1); (try have := qN1 w w1))
 have HB1 := hid hb1
 go_wp2_with fail
 go_at_call 94; refine (done_none (New A w) op known vf vk s b [({ n with entries := es } : Bt.Node).fill page] w1.heap.size 1 1 _ ?hrun ?hw (.inr (by omega))).mono ?_
 case hrun => exact (HR.out.imp (fun c hc => .inl hc)).below qL
 case hw => exact own_pages1 _ _ _ (by omega)
 rintro e2 w2 ⟨rfl, hrun2, ho2⟩
 have HR2 := hid hrun2
 clear hrun2
 go_wp2_with fail
 refine bodyPost_ret (results_none rfl _ _ _) rfl ⟨rfl, ?_, qV⟩
 rw [HX.out]
 refine HR2.out.imp (fun c hc => ?_)
 rcases hc with h1 | h1
 ·exact h1
 ·exact .inr (by simp at h1; omega)
end Go.Proofs.YtjmpekanlmepmaaGreatDoor
