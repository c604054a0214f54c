/- Package btree: the root page is read. -/
import Derived.Test.YtcoiehgcfjfhaaaGreatDoorQ04
import Derived.Test.YtcoiehgcfjfhaaaGreatDoorQ03
import Derived.Test.YtcoiehgcfjfhaaaGreatDoorQ01
import Derived.Test.YtcoiehgcfjfhaaaGreatDoorQ02
set_option linter.all false
set_option maxRecDepth 20000
set_option maxHeartbeats 8000000
open Go.Lib (hid)
namespace Go.Proofs.YtcoiehgcfjfhaaaGreatDoor
open Go.RowKit
theorem IsRun.rootSet {A : Nat → Prop} {op : Bt.Op} {known : List Bt.Page} {vf vk : Value} {s : Bt.St} {b : Nat} {w : World} (h : IsRun A op known vf vk s b w) (p : Bt.Page) (q : Bt.Ptr) :
    IsRun A op known vf vk { s with rootPage := p, root := q } b (((((((((((w.setCell ⟨b, 25, none⟩ (.int .i64 p.line)).setCell ⟨b, 26, none⟩ (.int .u64 p.head)).setCell ⟨b, 27, none⟩ (.int .u64 p.d0)).setCell ⟨b, 28, none⟩ (.int .u64 p.d1)).setCell ⟨b, 29, none⟩ (.int .u64 p.d2)).setCell ⟨b, 30, none⟩ (.int .u64 p.d3)).setCell ⟨b, 31, none⟩ (.int .u64 p.d4)).setCell ⟨b, 32, none⟩ (.int .u64 p.d5)).setCell ⟨b, 33, none⟩ (.int .u64 p.d6)).setCell ⟨b, 34, none⟩ (.int .i64 q.line)).setCell ⟨b, 35, none⟩ (.int .i64 q.gen)) :=
  (((((((((((h.field (s' := { s with rootPage := { s.rootPage with line := p.line } }) 25 (.int .i64 p.line) (fun _ _ _ _ => rfl)).field (s' := { s with rootPage := { s.rootPage with line := p.line, head := p.head } }) 26 (.int .u64 p.head) (fun _ _ _ _ => rfl)).field (s' := { s with rootPage := { s.rootPage with line := p.line, head := p.head, d0 := p.d0 } }) 27 (.int .u64 p.d0) (fun _ _ _ _ => rfl)).field (s' := { s with rootPage := { s.rootPage with line := p.line, head := p.head, d0 := p.d0, d1 := p.d1 } }) 28 (.int .u64 p.d1) (fun _ _ _ _ => rfl)).field (s' := { s with rootPage := { s.rootPage with line := p.line, head := p.head, d0 := p.d0, d1 := p.d1, d2 := p.d2 } }) 29 (.int .u64 p.d2) (fun _ _ _ _ => rfl)).field (s' := { s with rootPage := { s.rootPage with line := p.line, head := p.head, d0 := p.d0, d1 := p.d1, d2 := p.d2, d3 := p.d3 } }) 30 (.int .u64 p.d3) (fun _ _ _ _ => rfl)).field (s' := { s with rootPage := { s.rootPage with line := p.line, head := p.head, d0 := p.d0, d1 := p.d1, d2 := p.d2, d3 := p.d3, d4 := p.d4 } }) 31 (.int .u64 p.d4) (fun _ _ _ _ => rfl)).field (s' := { s with rootPage := { s.rootPage with line := p.line, head := p.head, d0 := p.d0, d1 := p.d1, d2 := p.d2, d3 := p.d3, d4 := p.d4, d5 := p.d5 } }) 32 (.int .u64 p.d5) (fun _ _ _ _ => rfl)).field (s' := { s with rootPage := { s.rootPage with line := p.line, head := p.head, d0 := p.d0, d1 := p.d1, d2 := p.d2, d3 := p.d3, d4 := p.d4, d5 := p.d5, d6 := p.d6 } }) 33 (.int .u64 p.d6) (fun _ _ _ _ => rfl)).field (s' := { s with rootPage := p, root := ⟨q.line, s.root.gen⟩ }) 34 (.int .i64 q.line) (fun _ _ _ _ => rfl)).field (s' := { s with rootPage := p, root := q }) 35 (.int .i64 q.gen) (fun _ _ _ _ => rfl))
theorem SteadyBut.alloc2 {r : Nat} {w1 wx : World} (h : SteadyBut r w1 wx) (hs : wx.heap.size = w1.heap.size) (o : Obj) : SteadyBut r (w1.alloc o) (wx.alloc o) :=
  ⟨fun b i hb hr => by
    simp only [size_alloc] at hb
    by_cases hlt : b < w1.heap.size
    · have e1 := Below.heap_alloc w1 o b hlt
      have e2 := Below.heap_alloc wx o b (by omega)
      have := h.rule b i hlt hr
      simp only [World.cell?, e1, e2] at this ⊢
      exact this
    · have hb2 : b = w1.heap.size := by omega
      subst hb2
      have e1 := heap_alloc_new w1 o
      have e2 := heap_alloc_new wx o
      rw [hs] at e2
      simp only [World.cell?, e1, e2]⟩
theorem SteadyBut.drew {r : Nat} {w1 wx : World} (h : SteadyBut r w1 wx) : SteadyBut r w1 wx.drew := ⟨h.rule⟩
theorem SteadyBut.self (r : Nat) (w : World) : SteadyBut r w w := ⟨fun _ _ _ _ => rfl⟩
theorem qF {r : Nat} {w1 wx : World} (h : SteadyBut r w1 wx := by repeat (first | with_reducible exact SteadyBut.self _ _ | with_reducible refine SteadyBut.drew ?_ | with_reducible refine SteadyBut.alloc2 ?_ (by simp only [size_setCell, size_drew]) _ | with_reducible refine SteadyBut.set ?_ _ _)) : SteadyBut r w1 wx := h
def KeepPost (A : Nat → Prop) (op : Bt.Op) (known : List Bt.Page) (vf vk : Value) (s : Bt.St) (b : Nat) (r : Value) (w : World) (e : Ending) (w' : World) : Prop :=
  e = .returned r ∧ IsRun A op known vf vk s b w' ∧ Over b w w'
theorem readRoot_ok (A : Nat → Prop) (op : Bt.Op) (known : List Bt.Page) (vf vk : Value) (s : Bt.St) (b : Nat) (p : Bt.Page) (q : Bt.Ptr) (lv : Int) (w : World) (h : IsRun A op known vf vk s b w) (hA : ∀ c, A c → c < w.heap.size)
    (hl : Bt.latest known 96 = some p) (hlk : Bt.locked p = false) (hr : Bt.readRoot p = some (q, lv)) :
    Calls Tryz.prog 138 #[.pointer (some ⟨b, 0, none⟩)] w (KeepPost A op known vf vk { s with rootPage := p, root := q } b (.bool true) w) := by
  have HR := hid h
  have HL := hid hl
  have HLK := hid hlk
  have HRR := hid hr
  have HPO : Hid p.Ok := hid (h.knownRow.ok p (latest_mem hl).1)
  have HPL : Hid (p.line = 96) := hid (latest_mem hl).2
  have HN : Hid (NoneAt w) := hid (by obtain ⟨vn, vw, ve, vc, hr, _⟩ := h; exact hr.none)
  have HK : Hid (PgRow w vk known) := hid h.knownRow
  have HPC : Hid (p.cells = #[.int .i64 p.line, .int .u64 p.head, .int .u64 p.d0, .int .u64 p.d1, .int .u64 p.d2, .int .u64 p.d3, .int .u64 p.d4, .int .u64 p.d5, .int .u64 p.d6]) := hid rfl
  have HQC : Hid (q.cells = #[.int .i64 q.line, .int .i64 q.gen]) := hid rfl
  have hlt := h.lt
  have hlt1 : b < w.heap.size + 1 := by omega
  obtain ⟨vn, vw, ve, vc, hc⟩ := h.cells
  have hfr := h.free
  have k0 : w.cell? ⟨b, 0, none⟩ = some (.int .i64 op.kind) := hc 0
  have k8 : w.cell? ⟨b, 8, none⟩ = some vk := hc 8
  have k25 : w.cell? ⟨b, 25, none⟩ = some (.int .i64 s.rootPage.line) := hc 25
  have k26 : w.cell? ⟨b, 26, none⟩ = some (.int .u64 s.rootPage.head) := hc 26
  have k27 : w.cell? ⟨b, 27, none⟩ = some (.int .u64 s.rootPage.d0) := hc 27
  have k28 : w.cell? ⟨b, 28, none⟩ = some (.int .u64 s.rootPage.d1) := hc 28
  have k29 : w.cell? ⟨b, 29, none⟩ = some (.int .u64 s.rootPage.d2) := hc 29
  have k30 : w.cell? ⟨b, 30, none⟩ = some (.int .u64 s.rootPage.d3) := hc 30
  have k31 : w.cell? ⟨b, 31, none⟩ = some (.int .u64 s.rootPage.d4) := hc 31
  have k32 : w.cell? ⟨b, 32, none⟩ = some (.int .u64 s.rootPage.d5) := hc 32
  have k33 : w.cell? ⟨b, 33, none⟩ = some (.int .u64 s.rootPage.d6) := hc 33
  have k34 : w.cell? ⟨b, 34, none⟩ = some (.int .i64 s.root.line) := hc 34
  have k35 : w.cell? ⟨b, 35, none⟩ = some (.int .i64 s.root.gen) := hc 35
  by_cases hk6 : op.kind = 6
  · have b6 : (op.kind == 6) = true := by simp [hk6]
    clear h hl hlk hr hc hk6
    go_enter Tryz.func138, Tryz.ntmps138
    go_wp2_with fail
    go_at_call 60; refine (Latest_any known vk 96 _ ?hpg).mono ?_; (case hpg => exact HK.out.below qL); rintro e1 w1 ⟨rfl, hb1⟩; rw [HL.out]; ((obtain ⟨hc1, hf1, hs1⟩ := qR hb1); (try have := qN0 w w1))
    simp only [Option.getD_some, Option.isSome_some, HPC.out]
    have hb1' : b < w1.heap.size := by omega
    go_wp2_with fail
    go_at_call 62; refine (Locked_any p HPO.out _).mono ?_; rintro e2 w2 ⟨rfl, hb2⟩; rw [HLK.out]; ((obtain ⟨hc2, hf2, hs2⟩ := qR hb2); (try have := qN0 w w2); (try have := qN0 w1 w2))
    have hb2' : b < w2.heap.size := by omega
    go_wp2_with fail
    go_at_call 179; refine (ReadRoot_any p HPO.out HPL.out _ ?hng).mono ?_; (case hng => exact HN.out.below qL); rintro e3 w3 ⟨hpo, hb3⟩
    rw [HRR.out] at hpo
    simp only [HQC.out] at hpo
    subst hpo
    ((obtain ⟨hc3, hf3, hs3⟩ := qR hb3); (try have := qN0 w w3); (try have := qN0 w1 w3); (try have := qN0 w2 w3))
    have hb3' : b < w3.heap.size := by omega
    go_wp2_with fail
    have hb4' : b < w3.heap.size + 1 := by omega
    refine qB (b) fun hSt => ?_
    refine qS [0, 1, 2, 3, 4, 5] ?_
    iterate 6 (refine qT ?_; simp only [Act.put, qY])
    refine TakeSeq.done ?_
    refine qH 6 fun K hK => ?_
    go_simp
    refine hK.out _ _ qF (fun hHeld => ?_)
    clear hK K
    refine qS [7, 8] ?_
    iterate 2 (refine qT ?_; simp only [Act.put, qY])
    refine TakeSeq.done ?_
    refine qH 9 fun K hK => ?_
    go_simp
    refine hK.out _ _ qF (fun hHeld => ?_)
    clear hK K
    refine qD ?_ _
    go_wp2_with fail
    refine bodyPost_ret (results_tmp rfl _ _ _) rfl ⟨rfl, ?_, qV⟩
    exact (((HR.out.below (w' := w3) qL).rootSet p q).alloc _).drew
  · have b6 : (op.kind == 6) = false := by simp [hk6]
    clear h hl hlk hr hc hk6
    go_enter Tryz.func138, Tryz.ntmps138
    go_wp2_with fail
    go_at_call 60; refine (Latest_any known vk 96 _ ?hpg).mono ?_; (case hpg => exact HK.out.below qL); rintro e1 w1 ⟨rfl, hb1⟩; rw [HL.out]; ((obtain ⟨hc1, hf1, hs1⟩ := qR hb1); (try have := qN0 w w1))
    simp only [Option.getD_some, Option.isSome_some, HPC.out]
    have hb1' : b < w1.heap.size := by omega
    go_wp2_with fail
    go_at_call 179; refine (ReadRoot_any p HPO.out HPL.out _ ?hng).mono ?_; (case hng => exact HN.out.below qL); rintro e3 w3 ⟨hpo, hb3⟩
    rw [HRR.out] at hpo
    simp only [HQC.out] at hpo
    subst hpo
    ((obtain ⟨hc3, hf3, hs3⟩ := qR hb3); (try have := qN0 w w3); (try have := qN0 w1 w3))
    have hb3' : b < w3.heap.size := by omega
    go_wp2_with fail
    have hb4' : b < w3.heap.size + 1 := by omega
    refine qB (b) fun hSt => ?_
    refine qS [0, 1, 2, 3, 4, 5] ?_
    iterate 6 (refine qT ?_; simp only [Act.put, qY])
    refine TakeSeq.done ?_
    refine qH 6 fun K hK => ?_
    go_simp
    refine hK.out _ _ qF (fun hHeld => ?_)
    clear hK K
    refine qS [7, 8] ?_
    iterate 2 (refine qT ?_; simp only [Act.put, qY])
    refine TakeSeq.done ?_
    refine qH 9 fun K hK => ?_
    go_simp
    refine hK.out _ _ qF (fun hHeld => ?_)
    clear hK K
    refine qD ?_ _
    go_wp2_with fail
    refine bodyPost_ret (results_tmp rfl _ _ _) rfl ⟨rfl, ?_, qV⟩
    exact (((HR.out.below (w' := w3) qL).rootSet p q).alloc _).drew
def opCells (op : Bt.Op) (vf : Value) : Array Value := #[.int .i64 op.kind, .int .u32 op.key, .int .u32 op.last, .int .i64 op.to.line, .int .i64 op.to.gen, .int .i64 op.level, .int .i64 op.limit, vf]
theorem isKey_any (k : Int) (w : World) : Calls Tryz.prog 176 #[.int .u32 k] w fun e w' => e = .returned (.bool (Bt.isKey k)) ∧ w = w' := by
  go_enter Tryz.func176, Tryz.ntmps176
  go_wp2
  all_goals go_ret
  all_goals
    refine ⟨ret_bool ?_, rfl⟩
    unfold Bt.isKey Bt.maxKey
    first | (simp [*]; done) | (simp; omega)
theorem isValid_insert (op : Bt.Op) (vf : Value) (w : World) (hk : op.kind = 2) (hv : Bt.isKey op.key = true) (hp : Bt.validP op.to = true) :
    Calls Tryz.prog 137 #[.agg (opCells op vf)] w fun e w' => e = .returned (.bool true) ∧ Below w.heap.size w w' := by
  have HV := hid hv
  have HP := hid hp
  have b6 : (op.kind == 6) = false := by simp [hk]
  have b5 : (op.kind == 5) = false := by simp [hk]
  have b2 : (op.kind == 2) = true := by simp [hk]
  clear hk hv hp
  unfold opCells
  go_enter Tryz.func137, Tryz.ntmps137
  go_wp2_with fail
  go_at_call 176; refine (isKey_any op.key _).mono ?_; rintro e w1 ⟨rfl, rfl⟩; rw [HV.out]
  go_wp2_with fail
  go_at_call 136; refine (Valid_any op.to.line op.to.gen _).mono ?_; rintro e w1 ⟨rfl, hb⟩
  rw [show Bt.validP ⟨op.to.line, op.to.gen⟩ = true from HP.out]
  go_wp2_with fail
  refine bodyPost_ret (results_tmp rfl _ _ _) rfl ⟨rfl, qL⟩
def cmpPage : Value := .func (.func 148) #[] #[]
theorem cmpPage_any (p q : Bt.Page) (w : World) : Calls Tryz.prog 148 #[.agg p.cells, .agg q.cells] w fun e w' => e = .returned (.int .i64 (Lib.compareInt p.line q.line)) ∧ Below w.heap.size w w' := by
  unfold Bt.Page.cells
  go_enter Tryz.func148, Tryz.ntmps148
  go_wp2_with (go_at_call 149; refine (Tryz.cmp_Compare_int p.line q.line _).mono ?_; rintro e w1 ⟨rfl, hw⟩; subst hw)
  go_ret
  exact ⟨rfl, qL⟩
theorem isort0 (p : Option Addr) (cap : Nat) (w : World) : Calls Tryz.prog 241 #[.slice p 0 cap, .int .i64 0, .int .i64 0, cmpPage] w fun e w' => e = .returned (.tuple #[]) ∧ Below w.heap.size w w' := by
  unfold cmpPage
  go_enter Tryz.func241, Tryz.ntmps241
  go_wp2_with fail
  refine wp_loop_rounds 1 ?_
  rw [rounds_succ]
  go_wp2_with fail
  exact bodyPost_end (results_none rfl _ _ _) rfl ⟨rfl, qL⟩
theorem isort1 (p : Option Addr) (cap : Nat) (w : World) : Calls Tryz.prog 241 #[.slice p 1 cap, .int .i64 0, .int .i64 1, cmpPage] w fun e w' => e = .returned (.tuple #[]) ∧ Below w.heap.size w w' := by
  unfold cmpPage
  go_enter Tryz.func241, Tryz.ntmps241
  go_wp2_with fail
  refine wp_loop_rounds 1 ?_
  rw [rounds_succ]
  go_wp2_with fail
  exact bodyPost_end (results_none rfl _ _ _) rfl ⟨rfl, qL⟩
theorem isort2 (g cap base : Nat) (p q : Bt.Page) (hpq : p.line ≤ q.line) (w : World) (h : w.ownsRow base 75 9 (.slice (some ⟨g, 0, none⟩) 2 cap) 2 (pageCells [p, q])) :
    Calls Tryz.prog 241 #[.slice (some ⟨g, 0, none⟩) 2 cap, .int .i64 0, .int .i64 2, cmpPage] w fun e w' => e = .returned (.tuple #[]) ∧ Below w.heap.size w w' := by
  have hlt := (own_lt h).2
  have hr0 : w.rangeAt g (0 * 9) p.cells.toList := fun j u hu => by
    have hj : j < 9 := by have := (List.getElem?_eq_some_iff.1 hu).1; simpa [Bt.Page.cells] using this
    refine own_cells h _ _ ?_
    rw [Nat.zero_mul, Nat.zero_add]
    simp only [pageCells, List.flatMap_cons]
    rw [List.getElem?_append_left (by simpa [Bt.Page.cells] using hj)]
    exact hu
  have hr1 : w.rangeAt g (1 * 9) q.cells.toList := fun j u hu => by
    have hj : j < 9 := by have := (List.getElem?_eq_some_iff.1 hu).1; simpa [Bt.Page.cells] using this
    refine own_cells h _ _ ?_
    simp only [pageCells, List.flatMap_cons]
    rw [List.getElem?_append_right (by simp [Bt.Page.cells])]
    have e1 : 1 * 9 + j - p.cells.toList.length = j := by simp [Bt.Page.cells]
    rw [e1, List.getElem?_append_left (by simpa [Bt.Page.cells] using hj)]
    exact hu
  obtain ⟨c0, c1, c2, c3, c4, c5, c6, c7, c8⟩ := nine hr0
  obtain ⟨d0, d1, d2, d3, d4, d5, d6, d7, d8⟩ := nine hr1
  have hcmp : decide (Lib.compareInt q.line p.line < 0) = false := by
    simp only [Lib.compareInt]
    split
    · omega
    · split <;> rfl
  simp only [Nat.zero_mul, Nat.zero_add, Nat.one_mul] at c0 c1 c2 c3 c4 c5 c6 c7 c8 d0 d1 d2 d3 d4 d5 d6 d7 d8
  clear h hr0 hr1
  have wr0 : IntKind.i64.wrap 0 = 0 := by rfl
  unfold cmpPage
  go_enter Tryz.func241, Tryz.ntmps241
  go_wp2_with fail
  refine wp_loop_rounds 2 ?_
  rw [rounds_succ]
  go_wp2_with fail
  refine wp_loop_rounds 1 ?_
  rw [rounds_succ]
  go_wp2_with fail
  refine qA fun hSt => ?_
  refine qS [0, 1, 2, 3, 4, 5, 6, 7, 8, 9, 10, 11, 12, 13] ?_
  iterate 14 (refine qT ?_; simp only [Act.put, qY])
  refine TakeSeq.done ?_
  refine qH 14 fun K hK => ?_
  go_simp
  go_at_call 148; refine (cmpPage_any q p _).mono ?_; rintro e w1 ⟨rfl, hb⟩; ((obtain ⟨hc1, hf1, hs1⟩ := qR hb); (try have := qN0 w w1))
  go_wp2_with fail
  refine hK.out _ _ (SteadyAll.of qL) (fun hHeld => ?_)
  clear hK K
  refine qS [15, 16] ?_
  iterate 2 (refine qT ?_; simp only [Act.put, qY])
  refine TakeSeq.done ?_
  refine qD ?_ _
  go_wp2_with fail
  rw [rounds_succ]
  go_wp2_with fail
  exact bodyPost_end (results_none rfl _ _ _) rfl ⟨rfl, qL⟩
theorem pdq0 (v : Value) (lim : Int) (w : World) (h : Hid (Calls Tryz.prog 241 #[v, .int .i64 0, .int .i64 0, cmpPage] w fun e w' => e = .returned (.tuple #[]) ∧ Below w.heap.size w w')) :
    Calls Tryz.prog 195 #[v, .int .i64 0, .int .i64 0, .int .i64 lim, cmpPage] w fun e w' => e = .returned (.tuple #[]) ∧ Below w.heap.size w w' := by
  unfold cmpPage at h ⊢
  go_enter Tryz.func195, Tryz.ntmps195
  go_wp2_with fail
  refine wp_loop_rounds 1 ?_
  rw [rounds_succ]
  go_wp2_with fail
  go_at_call 241; refine h.out.mono ?_; rintro e w1 ⟨rfl, hb⟩
  go_wp2_with fail
  exact bodyPost_ret (results_none rfl _ _ _) rfl ⟨rfl, hb⟩
theorem pdq1 (v : Value) (lim : Int) (w : World) (h : Hid (Calls Tryz.prog 241 #[v, .int .i64 0, .int .i64 1, cmpPage] w fun e w' => e = .returned (.tuple #[]) ∧ Below w.heap.size w w')) :
    Calls Tryz.prog 195 #[v, .int .i64 0, .int .i64 1, .int .i64 lim, cmpPage] w fun e w' => e = .returned (.tuple #[]) ∧ Below w.heap.size w w' := by
  unfold cmpPage at h ⊢
  go_enter Tryz.func195, Tryz.ntmps195
  go_wp2_with fail
  refine wp_loop_rounds 1 ?_
  rw [rounds_succ]
  go_wp2_with fail
  go_at_call 241; refine h.out.mono ?_; rintro e w1 ⟨rfl, hb⟩
  go_wp2_with fail
  exact bodyPost_ret (results_none rfl _ _ _) rfl ⟨rfl, hb⟩
theorem pdq2 (v : Value) (lim : Int) (w : World) (h : Hid (Calls Tryz.prog 241 #[v, .int .i64 0, .int .i64 2, cmpPage] w fun e w' => e = .returned (.tuple #[]) ∧ Below w.heap.size w w')) :
    Calls Tryz.prog 195 #[v, .int .i64 0, .int .i64 2, .int .i64 lim, cmpPage] w fun e w' => e = .returned (.tuple #[]) ∧ Below w.heap.size w w' := by
  unfold cmpPage at h ⊢
  go_enter Tryz.func195, Tryz.ntmps195
  go_wp2_with fail
  refine wp_loop_rounds 1 ?_
  rw [rounds_succ]
  go_wp2_with fail
  go_at_call 241; refine h.out.mono ?_; rintro e w1 ⟨rfl, hb⟩
  go_wp2_with fail
  exact bodyPost_ret (results_none rfl _ _ _) rfl ⟨rfl, hb⟩
def SortedRow (w : World) (v : Value) (l : List Bt.Page) : Prop := (∃ p cap, v = .slice p 0 cap) ∨ (∃ p cap, v = .slice p 1 cap) ∨ ∃ g cap base p q, v = .slice (some ⟨g, 0, none⟩) 2 cap ∧ l = [p, q] ∧ p.line ≤ q.line ∧ w.ownsRow base 75 9 v 2 (pageCells l)
theorem sortFunc_sorted (v : Value) (l : List Bt.Page) (w : World) (h : SortedRow w v l) : Calls Tryz.prog 147 #[v, cmpPage] w fun e w' => e = .returned (.tuple #[]) ∧ Below w.heap.size w w' := by
  rcases h with ⟨p, cap, rfl⟩ | ⟨p, cap, rfl⟩ | ⟨g, cap, base, p, q, rfl, rfl, hpq, hown⟩
  · have HH := hid (pdq0 (.slice p 0 cap) (Lib.bitLen 0) w (hid (isort0 p cap w)))
    unfold cmpPage at HH ⊢
    go_enter Tryz.func147, Tryz.ntmps147
    go_wp2_with fail
    go_at_call 77; refine (Tryz.bits_Len 0 _ (by omega) (by omega)).mono ?_; rintro e w1 ⟨rfl, hw⟩; obtain rfl : w = w1 := hw.symm; clear hw
    go_wp2_with fail
    go_at_call 195; refine HH.out.mono ?_; rintro e w1 ⟨rfl, hb⟩
    go_wp2_with fail
    exact bodyPost_end (results_none rfl _ _ _) rfl ⟨rfl, hb⟩
  · have HH := hid (pdq1 (.slice p 1 cap) (Lib.bitLen 1) w (hid (isort1 p cap w)))
    unfold cmpPage at HH ⊢
    go_enter Tryz.func147, Tryz.ntmps147
    go_wp2_with fail
    go_at_call 77; refine (Tryz.bits_Len 1 _ (by omega) (by omega)).mono ?_; rintro e w1 ⟨rfl, hw⟩; obtain rfl : w = w1 := hw.symm; clear hw
    go_wp2_with fail
    go_at_call 195; refine HH.out.mono ?_; rintro e w1 ⟨rfl, hb⟩
    go_wp2_with fail
    exact bodyPost_end (results_none rfl _ _ _) rfl ⟨rfl, hb⟩
  · have HH := hid (pdq2 (.slice (some ⟨g, 0, none⟩) 2 cap) (Lib.bitLen 2) w (hid (isort2 g cap base p q hpq w hown)))
    unfold cmpPage at HH ⊢
    go_enter Tryz.func147, Tryz.ntmps147
    go_wp2_with fail
    go_at_call 77; refine (Tryz.bits_Len 2 _ (by omega) (by omega)).mono ?_; rintro e w1 ⟨rfl, hw⟩; obtain rfl : w = w1 := hw.symm; clear hw
    go_wp2_with fail
    go_at_call 195; refine HH.out.mono ?_; rintro e w1 ⟨rfl, hb⟩
    go_wp2_with fail
    exact bodyPost_end (results_none rfl _ _ _) rfl ⟨rfl, hb⟩
theorem insert_plant (A : Nat → Prop) (op : Bt.Op) (known : List Bt.Page) (vf vk : Value) (s : Bt.St) (b : Nat) (w : World) (h : IsRun A op known vf vk s b w) (hA : ∀ c, A c → c < w.heap.size) (hroot : s.root = Bt.nilP)
    (HP : Hid (∀ w', IsRun A op known vf vk s b w' → (∀ c, A c → c < w'.heap.size) → Calls Tryz.prog 183 #[.pointer (some ⟨b, 0, none⟩), .agg (⟨op.key, op.to⟩ : Bt.Entry).cells] w' (RunPost A op known vf vk (s.plant op ⟨op.key, op.to⟩) b (.tuple #[]) w'))) :
    Calls Tryz.prog 140 #[.pointer (some ⟨b, 0, none⟩)] w (RunPost A op known vf vk (s.insert op known) b (.tuple #[]) w) := by
  have HX : Hid (s.insert op known = s.plant op ⟨op.key, op.to⟩) := hid (by simp [Bt.St.insert, hroot])
  have HR := hid h
  have hlt := h.lt
  have hlt1 : b < w.heap.size + 1 := by omega
  obtain ⟨vn, vw, ve, vc, hc⟩ := h.cells
  have k1 : w.cell? ⟨b, 1, none⟩ = some (.int .u32 op.key) := hc 1
  have k3 : w.cell? ⟨b, 3, none⟩ = some (.int .i64 op.to.line) := hc 3
  have k4 : w.cell? ⟨b, 4, none⟩ = some (.int .i64 op.to.gen) := hc 4
  have k34 : w.cell? ⟨b, 34, none⟩ = some (.int .i64 s.root.line) := hc 34
  have k35 : w.cell? ⟨b, 35, none⟩ = some (.int .i64 s.root.gen) := hc 35
  have hp : peq s.root.line s.root.gen 0 0 = true := by rw [peq_nil]; simp [hroot]
  have eq := eql_ptr
  have hn : NoneAt w := by obtain ⟨vn, vw, ve, vc, hr, _⟩ := h; exact hr.none
  obtain ⟨g0, g1, gl⟩ := hn
  have gl1 : 1 < w.heap.size + 1 := by omega
  clear h hc hroot
  go_enter Tryz.func140, Tryz.ntmps140
  go_wp2_with fail
  refine qA fun hSt => ?_
  refine qS [0, 1, 2, 3, 4, 5, 6, 7, 8, 9, 10] ?_
  iterate 11 (refine qT ?_; simp only [Act.put, qY])
  refine TakeSeq.done ?_
  refine qH 11 fun K hK => ?_
  go_simp
  refine hK.out _ _ (SteadyAll.of qL) (fun hHeld => ?_)
  clear hK K
  refine qH 12 fun K hK => ?_
  go_simp
  refine hK.out _ _ (SteadyAll.of qL) (fun hHeld => ?_)
  clear hK K
  refine qD ?_ _
  go_wp2_with fail
  refine qA fun hSt => ?_
  refine qS [0, 1, 2, 3, 4, 5] ?_
  iterate 6 (refine qT ?_; simp only [Act.put, qY])
  refine TakeSeq.done ?_
  refine qD ?_ _
  go_wp2_with fail
  go_at_call 183; refine (HP.out _ ?hrun ?hlow).mono ?_
  case hrun => exact HR.out.below qL
  case hlow => exact fun c hc => by have := hA c hc; simp; omega
  rintro e w1 ⟨rfl, hrun1, ho1⟩
  have HR1 := hid hrun1
  clear hrun1
  go_wp2_with fail
  refine bodyPost_ret (results_none rfl _ _ _) rfl ⟨rfl, ?_, qV⟩
  rw [HX.out]
  refine HR1.out.imp (fun c hc => ?_)
  rcases hc with h1 | h1
  · exact .inl h1
  · exact .inr (by simp at h1; omega)
structure SteadyTwo (r g : Nat) (w1 wx : World) : Prop where
  rule : ∀ b o, b < w1.heap.size → (b < r ∨ r < b) → (b < g ∨ g < b) → wx.cell? ⟨b, o, none⟩ = w1.cell? ⟨b, o, none⟩
theorem SteadyTwo.of {r g : Nat} {w1 wx : World} (h : Below w1.heap.size w1 wx) : SteadyTwo r g w1 wx := ⟨fun b o hb _ _ => h.cell (p := ⟨b, o, none⟩) hb⟩
def outCells (o : Bt.Out) (ve vc : Value) : Array Value :=
  #[.int .i64 o.code, .bool o.found, .bool o.done, .bool o.split, .bool o.unposted, .bool o.dead, .bool o.more, .int .i64 o.to.line, .int .i64 o.to.gen, ve, vc, .int .i64 o.hops, .int .i64 o.fresh, .int .i64 o.height]
theorem set14 (x0 x1 x2 x3 x4 x5 x6 x7 x8 x9 x10 x11 x12 x13 v0 v1 v2 v3 v4 v5 v6 v7 v8 v9 v10 v11 v12 v13 : Value) : ((((((((((((((#[x0, x1, x2, x3, x4, x5, x6, x7, x8, x9, x10, x11, x12, x13].setIfInBounds 0 v0).setIfInBounds 1 v1).setIfInBounds 2 v2).setIfInBounds 3 v3).setIfInBounds 4 v4).setIfInBounds 5 v5).setIfInBounds 6 v6).setIfInBounds 7 v7).setIfInBounds 8 v8).setIfInBounds 9 v9).setIfInBounds 10 v10).setIfInBounds 11 v11).setIfInBounds 12 v12).setIfInBounds 13 v13) = #[v0, v1, v2, v3, v4, v5, v6, v7, v8, v9, v10, v11, v12, v13] := by kernel_rfl
theorem own_put14 {w : World} {base n size g : Nat} {e : TypeId} {v : Value} {xs : List Value} (h : w.ownsRow base e size v n xs) (hg : g < base) (v0 v1 v2 v3 v4 v5 v6 v7 v8 v9 v10 v11 v12 v13 : Value) : ((((((((((((((w.setCell ⟨g, 0, none⟩ v0).setCell ⟨g, 1, none⟩ v1).setCell ⟨g, 2, none⟩ v2).setCell ⟨g, 3, none⟩ v3).setCell ⟨g, 4, none⟩ v4).setCell ⟨g, 5, none⟩ v5).setCell ⟨g, 6, none⟩ v6).setCell ⟨g, 7, none⟩ v7).setCell ⟨g, 8, none⟩ v8).setCell ⟨g, 9, none⟩ v9).setCell ⟨g, 10, none⟩ v10).setCell ⟨g, 11, none⟩ v11).setCell ⟨g, 12, none⟩ v12).setCell ⟨g, 13, none⟩ v13).ownsRow base e size v n xs := (own_aside (own_aside (own_aside (own_aside (own_aside (own_aside (own_aside (own_aside (own_aside (own_aside (own_aside (own_aside (own_aside (own_aside h (p := ⟨g, 0, none⟩) hg v0) (p := ⟨g, 1, none⟩) hg v1) (p := ⟨g, 2, none⟩) hg v2) (p := ⟨g, 3, none⟩) hg v3) (p := ⟨g, 4, none⟩) hg v4) (p := ⟨g, 5, none⟩) hg v5) (p := ⟨g, 6, none⟩) hg v6) (p := ⟨g, 7, none⟩) hg v7) (p := ⟨g, 8, none⟩) hg v8) (p := ⟨g, 9, none⟩) hg v9) (p := ⟨g, 10, none⟩) hg v10) (p := ⟨g, 11, none⟩) hg v11) (p := ⟨g, 12, none⟩) hg v12) (p := ⟨g, 13, none⟩) hg v13)
theorem Over.put14 {b g : Nat} {w w1 : World} (h : Over b w w1) (hg : w.heap.size ≤ g) (v0 v1 v2 v3 v4 v5 v6 v7 v8 v9 v10 v11 v12 v13 : Value) : Over b w ((((((((((((((w1.setCell ⟨g, 0, none⟩ v0).setCell ⟨g, 1, none⟩ v1).setCell ⟨g, 2, none⟩ v2).setCell ⟨g, 3, none⟩ v3).setCell ⟨g, 4, none⟩ v4).setCell ⟨g, 5, none⟩ v5).setCell ⟨g, 6, none⟩ v6).setCell ⟨g, 7, none⟩ v7).setCell ⟨g, 8, none⟩ v8).setCell ⟨g, 9, none⟩ v9).setCell ⟨g, 10, none⟩ v10).setCell ⟨g, 11, none⟩ v11).setCell ⟨g, 12, none⟩ v12).setCell ⟨g, 13, none⟩ v13) := (Over.own (Over.own (Over.own (Over.own (Over.own (Over.own (Over.own (Over.own (Over.own (Over.own (Over.own (Over.own (Over.own (Over.own h (p := ⟨g, 0, none⟩) hg v0) (p := ⟨g, 1, none⟩) hg v1) (p := ⟨g, 2, none⟩) hg v2) (p := ⟨g, 3, none⟩) hg v3) (p := ⟨g, 4, none⟩) hg v4) (p := ⟨g, 5, none⟩) hg v5) (p := ⟨g, 6, none⟩) hg v6) (p := ⟨g, 7, none⟩) hg v7) (p := ⟨g, 8, none⟩) hg v8) (p := ⟨g, 9, none⟩) hg v9) (p := ⟨g, 10, none⟩) hg v10) (p := ⟨g, 11, none⟩) hg v11) (p := ⟨g, 12, none⟩) hg v12) (p := ⟨g, 13, none⟩) hg v13)
theorem own_drew {w : World} {base n size : Nat} {e : TypeId} {v : Value} {xs : List Value} (h : w.ownsRow base e size v n xs) : w.drew.ownsRow base e size v n xs := h
def NextPost (writes : List Bt.Page) (o : Bt.Out) (w : World) (e : Ending) (w' : World) : Prop :=
  ∃ vw ve vc, e = .returned (.tuple #[.slice none 0 0, vw, .agg (outCells o ve vc), .bool true]) ∧ w'.ownsRow w.heap.size 75 9 vw writes.length (pageCells writes) ∧
    w'.ownsRow w.heap.size 173 3 ve o.entries.length (entCells o.entries) ∧ w'.ownsRow w.heap.size 3 1 vc o.check.length (intCells o.check) ∧ Below w.heap.size w w'
theorem Over.to_below {b : Nat} {w w' : World} (h : Over b w w') (hb : w.heap.size ≤ b) : Below w.heap.size w w' :=
  ⟨h.os, h.tape, h.output, h.size, fun k hk => h.block k hk (by simp; omega)⟩
def Sorted2 (l : List Bt.Page) : Prop := l = [] ∨ (∃ p, l = [p]) ∨ ∃ p q, l = [p, q] ∧ p.line ≤ q.line
theorem sortedRow_of {w : World} {base n : Nat} {v : Value} {l : List Bt.Page} (h : w.ownsRow base 75 9 v n (pageCells l)) (hn : l.length = n) (hs : Sorted2 l) : SortedRow w v l := by
  subst hn
  rcases hs with rfl | ⟨p, rfl⟩ | ⟨p, q, rfl, hpq⟩
  · left
    rcases h.2 with ⟨rfl, _⟩ | ⟨g, cap, _, rfl, _⟩
    · exact ⟨_, _, rfl⟩
    · exact ⟨_, _, rfl⟩
  · obtain ⟨g, cap, rfl⟩ := own_form h (by simp)
    exact .inr (.inl ⟨_, _, rfl⟩)
  · obtain ⟨g, cap, rfl⟩ := own_form h (by simp)
    exact .inr (.inr ⟨g, cap, base, p, q, rfl, rfl, hpq, h⟩)
theorem own_zero {w : World} {base size : Nat} {e : TypeId} {v : Value} {xs : List Value} (h : w.ownsRow base e size v 0 xs) : ∃ p cap, v = .slice p 0 cap := by
  rcases h.2 with ⟨rfl, _⟩ | ⟨g, cap, _, rfl, _⟩
  · exact ⟨_, _, rfl⟩
  · exact ⟨_, _, rfl⟩
theorem IsRun.start (op : Bt.Op) (known : List Bt.Page) (vf vk : Value) (w : World) (hf : PgRow w vf op.fresh) (hk : PgRow w vk known) (hn : NoneAt w) :
    IsRun (fun _ => False) op known vf vk {} w.heap.size (w.alloc (.cells (runCells op vf vk {} (.slice none 0 0) (.slice none 0 0) (.slice none 0 0) (.slice none 0 0)) 266)) := by
  have hb : Below w.heap.size w (w.alloc (.cells (runCells op vf vk {} (.slice none 0 0) (.slice none 0 0) (.slice none 0 0) (.slice none 0 0)) 266)) := qL
  have hap : ∀ (v : Value) (l : List Bt.Page), PgRow w v l → ∀ c n m, v = .slice (some ⟨c, 0, none⟩) n m → c < w.heap.size := fun v l h c n m hv => by
    rcases h.form with ⟨h1, _⟩ | ⟨c', cap, h1, h2, _⟩
    · rw [h1] at hv; simp at hv
    · rw [h1] at hv; simp at hv; omega
  refine ⟨_, _, _, _, RunAt.mk (Blk.made _ _ _) (hk.below hb) (hap _ _ hk) (hf.below hb) (hap _ _ hf) (World.ownsRow_nil _ _ _ _) (World.ownsRow_nil _ _ _ _) (World.ownsRow_nil _ _ _ _) (World.ownsRow_nil _ _ _ _) (hn.below hb) hn.lt, ?_, ?_, ?_, ?_⟩ <;>
    (intro c hc; simp [Value.ownBlock] at hc)
theorem next_insert (op : Bt.Op) (known : List Bt.Page) (fa ka : Option Addr) (fn fc kn kc : Nat) (w : World) (hf : PgRow w (.slice fa fn fc) op.fresh) (hk : PgRow w (.slice ka kn kc) known) (hn : NoneAt w)
    (hkind : op.kind = 2) (hv : Bt.isKey op.key = true) (hto : Bt.validP op.to = true) (p : Bt.Page) (q : Bt.Ptr) (lv : Int) (hl : Bt.latest known 96 = some p) (hlk : Bt.locked p = false) (hr : Bt.readRoot p = some (q, lv))
    (s2 : Bt.St) (hsn : s2.need = []) (hso : Sorted2 s2.writes) (o : Bt.Out) (hoF : s2.ended = false → o = { s2.out with hops := 0, height := 0, dead := false, unposted := false }) (hoT : s2.ended = true → o = s2.out)
    (HM : Hid (∀ b w', IsRun (fun _ => False) op known (.slice fa fn fc) (.slice ka kn kc) { ({} : Bt.St) with rootPage := p, root := q } b w' →
      Calls Tryz.prog 140 #[.pointer (some ⟨b, 0, none⟩)] w' (RunPost (fun _ => False) op known (.slice fa fn fc) (.slice ka kn kc) s2 b (.tuple #[]) w'))) :
    Calls Tryz.prog 93 #[.agg (opCells op (.slice fa fn fc)), .slice ka kn kc] w (NextPost s2.writes o w) := by
  have Hf := hid hf
  have Hk := hid hk
  have Hn := hid hn
  have HV := hid (fun wx => isValid_insert op (.slice fa fn fc) wx hkind hv hto)
  have HRR := hid (fun b wx h1 h2 => readRoot_ok (fun _ => False) op known (.slice fa fn fc) (.slice ka kn kc) {} b p q lv wx h1 h2 hl hlk hr)
  have b1 : (op.kind == 1) = false := by simp [hkind]
  have b2 : (op.kind == 2) = true := by simp [hkind]
  clear hf hk hn hkind hv hto hl hlk hr
  unfold opCells at HV ⊢
  go_enter Tryz.func93, Tryz.ntmps93
  go_wp2_with fail
  go_at_call 137; refine (HV.out _).mono ?_; rintro e1 w1 ⟨rfl, hb1⟩; ((obtain ⟨hc1, hf1, hs1⟩ := qR hb1); (try have := qN0 w w1); (try have := qN1 w w1))
  have HB1 := hid hb1
  go_wp2_with fail
  go_at_call 138; refine (HRR.out w1.heap.size _ ?hrun ?hlow).mono ?_
  case hrun => exact IsRun.start op known _ _ w1 (Hf.out.below qL) (Hk.out.below qL) (Hn.out.below qL)
  case hlow => exact fun c hc => hc.elim
  rintro e2 w2 ⟨rfl, hrun2, ho2⟩
  have HR2 := hid hrun2
  have HO2 := hid ho2
  clear hrun2
  ((obtain ⟨hc2, hf2, hs2⟩ := qO ho2); (try have := qN0 w w2); (try have := qN1 w w2); (try have := qN0 w1 w2))
  go_wp2_with fail
  go_at_call 140; refine (HM.out w1.heap.size _ HR2.out).mono ?_
  rintro e3 w3 ⟨rfl, ⟨vn, vw, ve, vc, hr3, _⟩, ho3⟩
  have HR3 := hid hr3
  have HO3 := hid ho3
  obtain ⟨pn, cn, rfl⟩ : ∃ p cap, vn = .slice p 0 cap := own_zero (by have := hr3.need; rw [hsn] at this; exact this)
  have hse := qSt hr3.ents
  have hsc := qSt hr3.check
  have hc := hr3.blk.cell
  have hfb := hr3.blk.free
  have hb3 := hr3.blk.lt
  have k9 : w3.cell? ⟨w1.heap.size, 9, none⟩ = some (.slice pn 0 cn) := hc 9
  have k10 : w3.cell? ⟨w1.heap.size, 10, none⟩ = some (vw) := hc 10
  have k11 : w3.cell? ⟨w1.heap.size, 11, none⟩ = some (.int .i64 s2.out.code) := hc 11
  have k12 : w3.cell? ⟨w1.heap.size, 12, none⟩ = some (.bool s2.out.found) := hc 12
  have k13 : w3.cell? ⟨w1.heap.size, 13, none⟩ = some (.bool s2.out.done) := hc 13
  have k14 : w3.cell? ⟨w1.heap.size, 14, none⟩ = some (.bool s2.out.split) := hc 14
  have k15 : w3.cell? ⟨w1.heap.size, 15, none⟩ = some (.bool s2.out.unposted) := hc 15
  have k16 : w3.cell? ⟨w1.heap.size, 16, none⟩ = some (.bool s2.out.dead) := hc 16
  have k17 : w3.cell? ⟨w1.heap.size, 17, none⟩ = some (.bool s2.out.more) := hc 17
  have k18 : w3.cell? ⟨w1.heap.size, 18, none⟩ = some (.int .i64 s2.out.to.line) := hc 18
  have k19 : w3.cell? ⟨w1.heap.size, 19, none⟩ = some (.int .i64 s2.out.to.gen) := hc 19
  have k20 : w3.cell? ⟨w1.heap.size, 20, none⟩ = some (ve) := hc 20
  have k21 : w3.cell? ⟨w1.heap.size, 21, none⟩ = some (vc) := hc 21
  have k22 : w3.cell? ⟨w1.heap.size, 22, none⟩ = some (.int .i64 s2.out.hops) := hc 22
  have k23 : w3.cell? ⟨w1.heap.size, 23, none⟩ = some (.int .i64 s2.out.fresh) := hc 23
  have k24 : w3.cell? ⟨w1.heap.size, 24, none⟩ = some (.int .i64 s2.out.height) := hc 24
  have k36 : w3.cell? ⟨w1.heap.size, 36, none⟩ = some (.bool s2.ended) := hc 36
  clear hr3 hc
  ((obtain ⟨hc3, hf3, hs3⟩ := qO ho3); (try have := qN0 w w3); (try have := qN1 w w3); (try have := qN0 w1 w3); (try have := qN0 w2 w3))
  rcases hen : s2.ended with _ | _
  · rw [hen] at k36
    go_wp2_with fail
    go_at_call 147; refine (sortFunc_sorted vw s2.writes _ ?hsr).mono ?_
    case hsr => exact sortedRow_of (base := w1.heap.size + 1) (by repeat (first | exact HR3.out.writes | refine own_aside ?_ (by show w1.heap.size < w1.heap.size + 1; omega) _)) rfl hso
    rintro e4 w4 ⟨rfl, hb4⟩
    ((obtain ⟨hc4, hf4, hs4⟩ := qR hb4); (try have := qN0 w w4); (try have := qN1 w w4); (try have := qN0 w1 w4); (try have := qN0 w2 w4))
    have hb4' : w1.heap.size < w4.heap.size := by omega
    go_wp2_with fail
    refine qB (w.heap.size + 1) fun hSt => ?_
    refine qS [0, 1, 2, 3, 4, 5, 6, 7] ?_
    iterate 8 (refine qT ?_; simp only [Act.put, qY])
    refine TakeSeq.done ?_
    refine qS [8, 9] ?_
    iterate 2 (refine qT ?_; simp only [Act.put, qY])
    refine TakeSeq.done ?_
    refine qH 10 fun K hK => ?_
    go_simp
    refine hK.out _ _ qF (fun hHeld => ?_)
    clear hK K
    refine qS [11] ?_
    refine qT ?_; simp only [Act.put, qY]
    refine TakeSeq.done ?_
    refine qD ?_ _
    go_wp2_with fail
    have hb1 := HB1.out
    have ho2 := HO2.out
    have ho3 := HO3.out
    have hov : Over w1.heap.size w w4 := qV
    have hbb : w1.heap.size < w1.heap.size + 1 := by omega
    have hgb : w.heap.size + 1 < w1.heap.size + 1 := by omega
    have hbs : w.heap.size ≤ w1.heap.size + 1 := by omega
    have O1 := Blk.kept (b := w.heap.size + 1) (t := 164) (cs := #[.int .i64 0, .bool false, .bool false, .bool false, .bool false, .bool false, .bool false, .int .i64 0, .int .i64 0, .slice none 0 0, .slice none 0 0, .int .i64 0, .int .i64 0, .int .i64 0]) (made22 w) hb1
    have O2 := (O1.alloc _).grown ho2 (by simp; omega)
    have O3 := O2.grown ho3 (by simp; omega)
    have O4 : Blk w4 (w.heap.size + 1) 164 #[.int .i64 0, .bool false, .bool false, .bool false, .bool false, .bool false, .bool false, .int .i64 0, .int .i64 0, .slice none 0 0, .slice none 0 0, .int .i64 0, .int .i64 0, .int .i64 0] := Blk.kept (by have B := O3; exact qK) hb4
    refine bodyPost_ret (results_ttbt rfl _ _ (w.heap.size + 1) _ _ _ rfl (by have B := O4; exact qK) Tryz.underlying164 rfl (by kernel_rfl)) rfl ⟨vw, ve, vc, ?_, ?_, ?_, ?_, ?_⟩
    · rw [set14, hoF hen]
      rfl
    · exact own_base (own_drew (own_put14 (own_below (own_aside (own_aside (own_aside (own_aside HR3.out.writes (p := ⟨w1.heap.size, 22, none⟩) hbb _) (p := ⟨w1.heap.size, 24, none⟩) hbb _) (p := ⟨w1.heap.size, 16, none⟩) hbb _) (p := ⟨w1.heap.size, 15, none⟩) hbb _) hb4) hgb _ _ _ _ _ _ _ _ _ _ _ _ _ _)) hbs
    · rw [hoF hen]
      exact own_base (own_drew (own_put14 (own_below (own_aside (own_aside (own_aside (own_aside HR3.out.ents (p := ⟨w1.heap.size, 22, none⟩) hbb _) (p := ⟨w1.heap.size, 24, none⟩) hbb _) (p := ⟨w1.heap.size, 16, none⟩) hbb _) (p := ⟨w1.heap.size, 15, none⟩) hbb _) hb4) hgb _ _ _ _ _ _ _ _ _ _ _ _ _ _)) hbs
    · rw [hoF hen]
      exact own_base (own_drew (own_put14 (own_below (own_aside (own_aside (own_aside (own_aside HR3.out.check (p := ⟨w1.heap.size, 22, none⟩) hbb _) (p := ⟨w1.heap.size, 24, none⟩) hbb _) (p := ⟨w1.heap.size, 16, none⟩) hbb _) (p := ⟨w1.heap.size, 15, none⟩) hbb _) hb4) hgb _ _ _ _ _ _ _ _ _ _ _ _ _ _)) hbs
    · exact Over.to_below (b := w1.heap.size) (Over.drew (Over.put14 hov (by omega) _ _ _ _ _ _ _ _ _ _ _ _ _ _)) (by omega)
  · rw [hen] at k36
    go_wp2_with fail
    go_at_call 147; refine (sortFunc_sorted vw s2.writes _ ?hsr).mono ?_
    case hsr => exact sortedRow_of (base := w1.heap.size + 1) (by repeat (first | exact HR3.out.writes | refine own_aside ?_ (by show w1.heap.size < w1.heap.size + 1; omega) _)) rfl hso
    rintro e4 w4 ⟨rfl, hb4⟩
    ((obtain ⟨hc4, hf4, hs4⟩ := qR hb4); (try have := qN0 w w4); (try have := qN1 w w4); (try have := qN0 w1 w4); (try have := qN0 w2 w4))
    have hb4' : w1.heap.size < w4.heap.size := by omega
    go_wp2_with fail
    refine qB (w.heap.size + 1) fun hSt => ?_
    refine qS [0, 1, 2, 3, 4, 5, 6, 7] ?_
    iterate 8 (refine qT ?_; simp only [Act.put, qY])
    refine TakeSeq.done ?_
    refine qS [8, 9] ?_
    iterate 2 (refine qT ?_; simp only [Act.put, qY])
    refine TakeSeq.done ?_
    refine qH 10 fun K hK => ?_
    go_simp
    refine hK.out _ _ qF (fun hHeld => ?_)
    clear hK K
    refine qS [11] ?_
    refine qT ?_; simp only [Act.put, qY]
    refine TakeSeq.done ?_
    refine qD ?_ _
    go_wp2_with fail
    have hb1 := HB1.out
    have ho2 := HO2.out
    have ho3 := HO3.out
    have hov : Over w1.heap.size w w4 := qV
    have hbb : w1.heap.size < w1.heap.size + 1 := by omega
    have hgb : w.heap.size + 1 < w1.heap.size + 1 := by omega
    have hbs : w.heap.size ≤ w1.heap.size + 1 := by omega
    have O1 := Blk.kept (b := w.heap.size + 1) (t := 164) (cs := #[.int .i64 0, .bool false, .bool false, .bool false, .bool false, .bool false, .bool false, .int .i64 0, .int .i64 0, .slice none 0 0, .slice none 0 0, .int .i64 0, .int .i64 0, .int .i64 0]) (made22 w) hb1
    have O2 := (O1.alloc _).grown ho2 (by simp; omega)
    have O3 := O2.grown ho3 (by simp; omega)
    have O4 : Blk w4 (w.heap.size + 1) 164 #[.int .i64 0, .bool false, .bool false, .bool false, .bool false, .bool false, .bool false, .int .i64 0, .int .i64 0, .slice none 0 0, .slice none 0 0, .int .i64 0, .int .i64 0, .int .i64 0] := Blk.kept (by have B := O3; exact qK) hb4
    refine bodyPost_ret (results_ttbt rfl _ _ (w.heap.size + 1) _ _ _ rfl (by have B := O4; exact qK) Tryz.underlying164 rfl (by kernel_rfl)) rfl ⟨vw, ve, vc, ?_, ?_, ?_, ?_, ?_⟩
    · rw [set14, hoT hen]
      rfl
    · exact own_base (own_drew (own_put14 (own_below HR3.out.writes hb4) hgb _ _ _ _ _ _ _ _ _ _ _ _ _ _)) hbs
    · rw [hoT hen]
      exact own_base (own_drew (own_put14 (own_below HR3.out.ents hb4) hgb _ _ _ _ _ _ _ _ _ _ _ _ _ _)) hbs
    · rw [hoT hen]
      exact own_base (own_drew (own_put14 (own_below HR3.out.check hb4) hgb _ _ _ _ _ _ _ _ _ _ _ _ _ _)) hbs
    · exact Over.to_below (b := w1.heap.size) (Over.drew (Over.put14 hov (by omega) _ _ _ _ _ _ _ _ _ _ _ _ _ _)) (by omega)
structure HNone (w : World) : Prop where
  c0 : w.cell? ⟨2, 0, none⟩ = some (.int .i64 0)
  c1 : w.cell? ⟨2, 1, none⟩ = some (.int .i64 0)
  lt : 2 < w.heap.size
theorem HNone.below {w w' : World} (h : HNone w) (hb : Below w.heap.size w w') : HNone w' :=
  ⟨(hb.cell (p := ⟨2, 0, none⟩) h.lt).trans h.c0, (hb.cell (p := ⟨2, 1, none⟩) h.lt).trans h.c1, Nat.lt_of_lt_of_le h.lt hb.size⟩
theorem hiUnpack_0 (w : World) : Calls Tryz.prog 292 #[.int .u32 0] w fun e w' => e = .returned (.tuple #[.agg #[.int .i64 0, .int .i64 0], .bool true]) ∧ Below w.heap.size w w' := by
  have HU : Hid (∀ W, Calls Tryz.prog 135 #[.int .u32 0] W fun e w' => e = .returned (.agg #[.int .i64 0, .int .i64 0]) ∧ Below W.heap.size W w') := hid (fun W => Unpack_any 0 (by omega) (by omega) W)
  go_enter Tryz.func292, Tryz.ntmps292
  go_wp2_with fail
  go_at_call 135; refine (HU.out _).mono ?_; rintro e w1 ⟨rfl, hb1⟩; ((obtain ⟨hc1, hf1, hs1⟩ := qR hb1); (try have := qN0 w w1); (try have := qN1 w w1))
  go_wp2_with fail
  have B := (Blk.made w 154 #[.int .i64 0, .int .i64 0]).kept hb1
  go_region
  go_wp2_with fail
  (refine bodyPost_ret (results_bt rfl _ _ (w.heap.size) _ _ _ rfl (by exact qK) Tryz.underlying154 rfl (by kernel_rfl)) rfl ⟨?_, ?_⟩)
  · rfl
  · exact qL
theorem hiIsField_0 (w : World) (hn : HNone w) : Calls Tryz.prog 310 #[.agg #[.int .i64 0, .int .i64 0]] w fun e w' => e = .returned (.bool true) ∧ Below w.heap.size w w' := by
  obtain ⟨c0, c1, lt⟩ := hn
  have ne := neq_ptr
  have eq := eql_ptr
  have e1 : peq 0 0 0 0 = true := rfl
  go_enter Tryz.func310, Tryz.ntmps310
  go_wp2_with fail
  refine bodyPost_ret (results_tmp rfl _ _ _) rfl ⟨rfl, qL⟩
def rootCells (fl fg dep l0 g0 : Int) : Array Value := #[.int .i64 fl, .int .i64 fg, .int .i64 dep, .int .i64 l0, .int .i64 g0, .int .i64 0, .int .i64 0, .int .i64 0, .int .i64 0, .int .i64 0, .int .i64 0]
theorem eql_root0 (w : World) : (binOp .eql 335 (.agg (rootCells 0 0 0 0 0)) (.agg (rootCells 0 0 0 0 0))).run Tryz.prog w = .ok (.bool true) w := by
  kernel_rfl
theorem hiRootValid_0 (w : World) (hn : HNone w) : Calls Tryz.prog 293 #[.agg (rootCells 0 0 0 0 0)] w fun e w' => e = .returned (.bool true) ∧ Below w.heap.size w w' := by
  obtain ⟨c0, c1, lt⟩ := hn
  have ne := neq_ptr
  have eq := eql_ptr
  have e1 : peq 0 0 0 0 = true := rfl
  have er := eql_root0
  unfold rootCells at er ⊢
  go_enter Tryz.func293, Tryz.ntmps293
  go_wp2_with fail
  refine bodyPost_ret (results_tmp rfl _ _ _) rfl ⟨rfl, qL⟩
theorem hiPagesOf_0 (w : World) : Calls Tryz.prog 311 #[.int .i64 0] w fun e w' => e = .returned (.int .i64 1) ∧ w = w' := by
  go_enter Tryz.func311, Tryz.ntmps311
  go_wp2
  refine bodyPost_ret (results_tmp rfl _ _ _) rfl ⟨rfl, rfl⟩
def zRootP : Bt.Page := ⟨96, 256, 0, 0, 0, 0, 0, 0, 0⟩
theorem hiReadRoot_0 (w : World) (hn : HNone w) : Calls Tryz.prog 254 #[.agg zRootP.cells] w fun e w' => e = .returned (.tuple #[.agg (rootCells 0 0 0 0 0), .int .i64 0]) ∧ Below w.heap.size w w' := by
  have HU := hid (fun W => hiUnpack_0 W)
  have HV := hid (fun W h => hiRootValid_0 W h)
  have HN := hid hn
  clear hn
  unfold Bt.Page.cells zRootP
  unfold rootCells at HV ⊢
  go_enter Tryz.func254, Tryz.ntmps254
  go_wp2_with fail
  go_at_call 292; refine (HU.out _).mono ?_; rintro e w1 ⟨rfl, hb1⟩; ((obtain ⟨hc1, hf1, hs1⟩ := qR hb1); (try have := qN0 w w1); (try have := qN1 w w1); (try have := qN2 w w1))
  have KP := ((Blk.made w 75 #[.int .i64 96, .int .u64 256, .int .u64 0, .int .u64 0, .int .u64 0, .int .u64 0, .int .u64 0, .int .u64 0, .int .u64 0]).alloc (.cells #[.int .i64 0, .int .i64 0, .int .i64 0, .int .i64 0, .int .i64 0, .int .i64 0, .int .i64 0, .int .i64 0, .int .i64 0, .int .i64 0, .int .i64 0] 335)).kept hb1
  have KR := (Blk.made' (w := w.alloc (.cells #[.int .i64 96, .int .u64 256, .int .u64 0, .int .u64 0, .int .u64 0, .int .u64 0, .int .u64 0, .int .u64 0, .int .u64 0] 75)) (t := 335) (cs := #[.int .i64 0, .int .i64 0, .int .i64 0, .int .i64 0, .int .i64 0, .int .i64 0, .int .i64 0, .int .i64 0, .int .i64 0, .int .i64 0, .int .i64 0]) rfl).kept hb1
  have hbw : Below w.heap.size w w1 := qL
  go_wp2_with fail
  have KQ := Blk.made' (w := w1.alloc (.cells #[.int .i64 0, .int .i64 0] 154)) (t := 335) (cs := #[.int .i64 0, .int .i64 0, .int .i64 0, .int .i64 0, .int .i64 0, .int .i64 0, .int .i64 0, .int .i64 0, .int .i64 0, .int .i64 0, .int .i64 0]) rfl
  rw [size_alloc] at KR
  have KQ' := KQ
  rw [size_alloc] at KQ'
  obtain ⟨wx, hwx⟩ : ∃ wx, ((w1.alloc (.cells #[.int .i64 0, .int .i64 0] 154)).alloc (.cells #[.int .i64 0, .int .i64 0, .int .i64 0, .int .i64 0, .int .i64 0, .int .i64 0, .int .i64 0, .int .i64 0, .int .i64 0, .int .i64 0, .int .i64 0] 335)) = wx := ⟨_, rfl⟩
  have hb2 : Below w1.heap.size w1 wx := by rw [← hwx]; exact qL
  obtain ⟨r, hr⟩ : ∃ r, w1.heap.size + 1 = r := ⟨_, rfl⟩
  have hwr : w.heap.size + 1 < r := by have := KR.lt; omega
  have HX := hid (And.intro (KP.kept hb2) (And.intro (KR.kept hb2) (And.intro (show Blk wx r _ _ by rw [← hwx, ← hr]; exact KQ') (show Below w.heap.size w wx from qL))))
  have hsx : r < wx.heap.size := HX.out.2.2.1.lt
  rw [hwx, hr]
  clear KP KR KQ hbw hb1 hb2 hc1 hf1 hs1 hwx hr
  go_loopw [29, 6] (fun i ok wr => ∃ k : Nat, i = .int .i64 k ∧ ok = .bool true ∧ k ≤ 4 ∧ Hid (Blk wr w.heap.size 75 #[.int .i64 96, .int .u64 256, .int .u64 0, .int .u64 0, .int .u64 0, .int .u64 0, .int .u64 0, .int .u64 0, .int .u64 0] ∧ Blk wr (w.heap.size + 1) 335 #[.int .i64 0, .int .i64 0, .int .i64 0, .int .i64 0, .int .i64 0, .int .i64 0, .int .i64 0, .int .i64 0, .int .i64 0, .int .i64 0, .int .i64 0] ∧ Blk wr r 335 #[.int .i64 0, .int .i64 0, .int .i64 0, .int .i64 0, .int .i64 0, .int .i64 0, .int .i64 0, .int .i64 0, .int .i64 0, .int .i64 0, .int .i64 0] ∧ Below w.heap.size w wr)) (fun i _ _ => (4 - intOf i).toNat)
  case atStart => exact ⟨0, rfl, rfl, by omega, HX⟩
  case round =>
    obtain ⟨k, rfl, rfl, hk, HR⟩ := hrel
    obtain ⟨w3, hw3⟩ : ∃ w3, w3 = wr := ⟨_, rfl⟩
    subst hw3
    have kp := HR.out.1.cell
    have kq := HR.out.2.2.1.cell
    have fq := HR.out.2.2.1.free
    have lq := HR.out.2.2.1.lt
    have lw := HR.out.2.1.lt
    have lw0 := HR.out.1.lt
    rcases (by omega : k = 0 ∨ k = 1 ∨ k = 2 ∨ k = 3 ∨ k = 4) with rfl | rfl | rfl | rfl | rfl
    iterate 4 focus (
      go_wp2_with fail
      go_at_call 292; refine (HU.out _).mono ?_; rintro e w4 ⟨rfl, hb4⟩; ((obtain ⟨hc4, hf4, hs4⟩ := qR hb4); (try have := qN0 w3 w4))
      have hr4 : r < w4.heap.size := by omega
      go_wp2_with fail
      have B1 := HR.out.1.kept hb4
      have B2 := HR.out.2.1.kept hb4
      have B3 := HR.out.2.2.1.kept hb4
      have hbr := HR.out.2.2.2
      refine ⟨⟨_, rfl, rfl, by decide, hid ⟨?_, ?_, ?_, ?_⟩⟩, by simp [intOf]⟩
      · (repeat (first | with_reducible exact B1 | with_reducible apply Blk.put | with_reducible apply Blk.alloc | (with_reducible apply Blk.aside; (case hp => first | (simp; done) | (simp; omega))) | with_reducible apply Blk.drew))
      · (repeat (first | with_reducible exact B2 | with_reducible apply Blk.put | with_reducible apply Blk.alloc | (with_reducible apply Blk.aside; (case hp => first | (simp; done) | (simp; omega))) | with_reducible apply Blk.drew))
      · apply Blk.cast
        · (repeat (first | with_reducible exact B3 | with_reducible apply Blk.put | with_reducible apply Blk.alloc | (with_reducible apply Blk.aside; (case hp => first | (simp; done) | (simp; omega))) | with_reducible apply Blk.drew))
        · rfl
      · exact qL)
    have hn3 : HNone w3 := HN.out.below HR.out.2.2.2
    go_wp2_with fail
    go_at_call 293; refine (HV.out _ hn3).mono ?_; rintro e w4 ⟨rfl, hb4⟩; ((obtain ⟨hc4, hf4, hs4⟩ := qR hb4); (try have := qN0 w3 w4))
    have hr4 : r < w4.heap.size := by omega
    have lw4 : w.heap.size + 1 < w4.heap.size := by omega
    have B2 := HR.out.2.1.kept hb4
    have hbr := HR.out.2.2.2
    have kr := HR.out.2.1.cell
    have fr := HR.out.2.1.free
    go_wp2_with fail
    have hb5 : Below w.heap.size w w4 := qL
    have hl : w.heap.size ≤ w.heap.size + 1 := by omega
    refine bodyPost_ret (results_bt rfl _ _ (w.heap.size + 1) _ _ _ rfl (Blk.cast (((((((((((B2.put 0 _).put 1 _).put 2 _).put 3 _).put 4 _).put 5 _).put 6 _).put 7 _).put 8 _).put 9 _).put 10 _) rfl) Tryz.underlying335 rfl (by kernel_rfl)) rfl ⟨rfl, (((((((((((hb5.setCell hl _).setCell hl _).setCell hl _).setCell hl _).setCell hl _).setCell hl _).setCell hl _).setCell hl _).setCell hl _).setCell hl _).setCell hl _)⟩
def hrCells (kind key tl tg : Int) (vf vk vw : Value) (code : Int) (done : Bool) (vc : Value) (fresh ln hd : Int) : Array Value :=
  #[.int .i64 kind, .int .u32 key, .int .i64 tl, .int .i64 tg, vf, vk, .slice none 0 0, vw, .int .i64 code, .bool false, .bool done, .bool false, .bool false, .bool false, .int .i64 0, .int .i64 0, vc, .int .i64 0, .int .i64 fresh,
    .int .i64 ln, .int .u64 hd, .int .u64 0, .int .u64 0, .int .u64 0, .int .u64 0, .int .u64 0, .int .u64 0, .int .u64 0,
    .int .i64 0, .int .i64 0, .int .i64 0, .int .i64 0, .int .i64 0, .int .i64 0, .int .i64 0, .int .i64 0, .int .i64 0, .int .i64 0, .int .i64 0]
theorem sb_drew {r : Nat} {w1 wx : World} (h : SteadyBut r w1 wx) : SteadyBut r w1 wx.drew := ⟨h.rule⟩
theorem sb_self (r : Nat) (w : World) : SteadyBut r w w := ⟨fun _ _ _ _ => rfl⟩
theorem blk_over {w w' : World} {b r : Nat} {t : TypeId} {cs : Array Value} (h : Blk w b t cs) (ho : Over r w w') (hne : b ≠ r) : Blk w' b t cs := (ho.block b h.lt (by simpa using hne)).trans h
theorem hiFail (r : Nat) (kind key tl tg : Int) (vf vk vw : Value) (code : Int) (done : Bool) (vc : Value) (fresh ln hd code2 : Int) (p2 : Option Addr) (n2 c2 : Nat) (w : World) (B : Blk w r 337 (hrCells kind key tl tg vf vk vw code done vc fresh ln hd)) :
    Calls Tryz.prog 253 #[.pointer (some ⟨r, 0, none⟩), .int .i64 code2, .slice p2 n2 c2] w fun e w' => e = .returned (.bool false) ∧ Blk w' r 337 (hrCells kind key tl tg vf vk (.slice none 0 0) code2 done (.slice p2 n2 c2) fresh ln hd) ∧ Over r w w' := by
  have kc := B.cell
  have fc := B.free
  have lc := B.lt
  have HB := hid B
  clear B
  unfold hrCells at kc
  go_enter Tryz.func253, Tryz.ntmps253
  go_wp2_with fail
  refine bodyPost_ret (results_tmp rfl _ _ _) rfl ⟨rfl, ?_, ?_⟩
  · apply Blk.cast
    · have B := HB.out
      (repeat (first | with_reducible exact B | with_reducible apply Blk.put | with_reducible apply Blk.alloc | (with_reducible apply Blk.aside; (case hp => first | (simp; done) | (simp; omega))) | with_reducible apply Blk.drew))
    · rfl
  · exact qV
theorem hiAbsent (r : Nat) (kind key tl tg : Int) (vf vk vw : Value) (code : Int) (done : Bool) (vc : Value) (fresh : Int) (w : World) (B : Blk w r 337 (hrCells kind key tl tg vf vk vw code done vc fresh 96 256)) :
    Calls Tryz.prog 255 #[.pointer (some ⟨r, 0, none⟩), .int .i64 0] w fun e w' => e = .returned (.tuple #[]) ∧ (∃ g, Blk w' r 337 (hrCells kind key tl tg vf vk (.slice none 0 0) 0 done (.slice (some ⟨g, 0, none⟩) 1 1) fresh 96 256) ∧ w.heap.size ≤ g ∧ Blk w' g 3 #[.int .i64 96]) ∧ Over r w w' := by
  have HF := hid (fun p2 n2 c2 W h => hiFail r kind key tl tg vf vk vw code done vc fresh 96 256 0 p2 n2 c2 W h)
  have HL : Hid (∀ W, Calls Tryz.prog 62 #[.agg zRootP.cells] W fun e w' => e = .returned (.bool false) ∧ Below W.heap.size W w') := hid (fun W => Locked_any zRootP ⟨by decide, by decide, by decide, by decide, by decide, by decide, by decide, by decide⟩ W)
  have kc := B.cell
  have lc := B.lt
  have HB := hid B
  clear B
  unfold hrCells at kc
  unfold Bt.Page.cells zRootP at HL
  simp only at HL
  go_enter Tryz.func255, Tryz.ntmps255
  go_wp2_with fail
  go_at_call 62; refine (HL.out _).mono ?_; rintro e w1 ⟨rfl, hb1⟩; ((obtain ⟨hc1, hf1, hs1⟩ := qR hb1); (try have := qN0 w w1))
  go_wp2_with fail
  go_at_call 253
  refine (HF.out _ _ _ _ ((HB.out.kept hb1).alloc _)).mono ?_
  rintro e w2 ⟨rfl, B2, ho⟩
  have K2 := (Blk.made w1 3 #[.int .i64 96])
  have hne : w1.heap.size ≠ r := by omega
  have K3 := blk_over K2 ho hne
  go_wp2_with fail
  refine bodyPost_end (results_none rfl _ _ _) rfl ⟨rfl, ⟨_, B2, hs1, K3⟩, ?_⟩
  exact ((Over.of_below hb1).trans (Over.of_below (below_alloc (Below.refl _ _) _))).trans ho
theorem hiReadRootRun (ks : List Bt.Page) (hlat : Bt.latest ks 96 = some zRootP) (r : Nat) (kind key tl tg : Int) (hk : kind = 1 ∨ kind = 2) (vf vk : Value) (w : World) (hn : HNone w) (B : Blk w r 337 (hrCells kind key tl tg vf vk (.slice none 0 0) 0 false (.slice none 0 0) 0 0 0)) (hp : PgRow w vk ks) (hrn : 2 ≠ r) :
    Calls Tryz.prog 200 #[.pointer (some ⟨r, 0, none⟩)] w fun e w' => e = .returned (.bool true) ∧ Blk w' r 337 (hrCells kind key tl tg vf vk (.slice none 0 0) 0 false (.slice none 0 0) 0 96 256) ∧ Over r w w' := by
  have HR := hid (fun W h => hiReadRoot_0 W h)
  have HLA : Hid (Calls Tryz.prog 60 #[vk, .int .i64 96] w fun e w' => e = .returned (.tuple #[.agg zRootP.cells, .bool true]) ∧ Below w.heap.size w w') := hid (by
    have h := Latest_any ks vk 96 w hp
    rw [hlat] at h
    exact h)
  have hk5 : (kind == 5) = false := by rcases hk with rfl | rfl <;> rfl
  have kc := B.cell
  have fc := B.free
  have lc := B.lt
  have HB := hid (And.intro B hn)
  clear B hlat hp hk
  unfold hrCells at kc
  unfold Bt.Page.cells zRootP at HLA HR
  unfold rootCells at HR
  simp only at HLA HR
  go_enter Tryz.func200, Tryz.ntmps200
  go_wp2_with fail
  go_at_call 60; refine HLA.out.mono ?_; rintro e w1 ⟨rfl, hb1⟩; ((obtain ⟨hc1, hf1, hs1⟩ := qR hb1); (try have := qN0 w w1))
  have lr1 : r < w1.heap.size := by omega
  go_wp2_with fail
  go_at_call 254; refine (HR.out _ ((HB.out.2.below hb1).below qL)).mono ?_; rintro e w2 ⟨rfl, hb2⟩; ((obtain ⟨hc2, hf2, hs2⟩ := qR hb2); (try have := qN0 w w2); (try have := qN0 w1 w2))
  have lr2 : r < w2.heap.size := by omega
  have B2 := (((HB.out.1.kept hb1).alloc _)).kept hb2
  have ho2 : Over r w w2 := (((Over.of_below hb1).trans (Over.of_below (below_alloc (Below.refl _ _) _)))).trans (Over.of_below hb2)
  have HX := hid (And.intro B2 ho2)
  clear B2 ho2
  go_wp2_with fail
  obtain ⟨w5, hw5⟩ : ∃ w5, w2.alloc (.cells #[.int .i64 0, .int .i64 0, .int .i64 0, .int .i64 0, .int .i64 0, .int .i64 0, .int .i64 0, .int .i64 0, .int .i64 0, .int .i64 0, .int .i64 0] 335) = w5 := ⟨_, rfl⟩
  have hb5 : Below w2.heap.size w2 w5 := by rw [← hw5]; exact qL
  have K5 : Blk w5 w2.heap.size 335 #[.int .i64 0, .int .i64 0, .int .i64 0, .int .i64 0, .int .i64 0, .int .i64 0, .int .i64 0, .int .i64 0, .int .i64 0, .int .i64 0, .int .i64 0] := by rw [← hw5]; exact Blk.made _ _ _
  have P5 := ((Blk.made w1 75 #[.int .i64 96, .int .u64 256, .int .u64 0, .int .u64 0, .int .u64 0, .int .u64 0, .int .u64 0, .int .u64 0, .int .u64 0]).kept hb2).kept hb5
  have R5 := HX.out.1.kept hb5
  have ho5 := HX.out.2.trans (Over.of_below hb5)
  have z1 : w1.heap.size ≠ r := by omega
  have z2 : w2.heap.size ≠ r := by omega
  have z3 : r < w5.heap.size := R5.lt
  have z4 : w1.heap.size < w5.heap.size := P5.lt
  have z5 : w2.heap.size < w5.heap.size := K5.lt
  have HY := hid (And.intro R5 ho5)
  have p5 := P5.cell
  have k5 := K5.cell
  have r5 := R5.cell
  have f5 := R5.free
  unfold hrCells at r5
  rw [hw5]
  clear hw5 hb5 R5 ho5 P5 K5 hc1 hf1 hs1 hc2 hf2 hs2 hb1 hb2 kc fc
  refine qB (r) fun hSt => ?_
  refine qS [0, 1, 2, 3, 4, 5] ?_
  iterate 6 (refine qT ?_; simp only [Act.put, qY])
  refine TakeSeq.done ?_
  refine qH 6 fun K hK => ?_
  go_simp
  refine hK.out _ _ ((by repeat (first | with_reducible exact sb_self _ _ | with_reducible refine sb_drew ?_ | with_reducible refine SteadyBut.set ?_ _ _))) (fun hHeld => ?_)
  clear hK K
  refine qS [7, 8] ?_
  iterate 2 (refine qT ?_; simp only [Act.put, qY])
  refine TakeSeq.done ?_
  refine qH 9 fun K hK => ?_
  go_simp
  refine hK.out _ _ ((by repeat (first | with_reducible exact sb_self _ _ | with_reducible refine sb_drew ?_ | with_reducible refine SteadyBut.set ?_ _ _))) (fun hHeld => ?_)
  clear hK K
  refine qD ?_ _
  go_wp2_with fail
  have B := HY.out.1
  have ho6 := HY.out.2
  refine bodyPost_ret (results_tmp rfl _ _ _) rfl ⟨rfl, ?_, ?_⟩
  · apply Blk.cast
    · (repeat (first | with_reducible exact B | with_reducible apply Blk.put | with_reducible apply Blk.alloc | (with_reducible apply Blk.aside; (case hp => first | (simp; done) | (simp; omega))) | with_reducible apply Blk.drew))
    · kernel_rfl
  · exact qV
end Go.Proofs.YtcoiehgcfjfhaaaGreatDoor
