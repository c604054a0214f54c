/- Package btree: a fresh page. Package btree: an operation is done. -/
import Derived.Test.YtjmpekanlmepmaaGreatDoorWH1
set_option linter.unusedVariables false
set_option linter.unusedSimpArgs false
set_option linter.unusedSectionVars false
set_option linter.constructorNameAsVariable false
namespace Go.Proofs.YtjmpekanlmepmaaGreatDoor
open Go.RowKit

theorem IsRun.cells {A : Nat → Prop} {op : Bt.Op} {known : List Bt.Page} {vf vk : Value} {s : Bt.St} {b : Nat} {w : World} (h : IsRun A op known vf vk s b w) : ∃ vn vw ve vc, ∀ i, w.cell? ⟨b, i, none⟩ = (runCells op vf vk s vn vw ve vc)[i]? := by
  obtain ⟨vn, vw, ve, vc, hr, _⟩ := h
  exact ⟨vn, vw, ve, vc, hr.blk.cell⟩
theorem IsRun.free {A : Nat → Prop} {op : Bt.Op} {known : List Bt.Page} {vf vk : Value} {s : Bt.St} {b : Nat} {w : World} (h : IsRun A op known vf vk s b w) : ∀ i, w.frozen? ⟨b, i, none⟩ = false := by
  obtain ⟨vn, vw, ve, vc, hr, _⟩ := h
  exact hr.blk.free
theorem IsRun.freshRow {A : Nat → Prop} {op : Bt.Op} {known : List Bt.Page} {vf vk : Value} {s : Bt.St} {b : Nat} {w : World} (h : IsRun A op known vf vk s b w) : PgRow w vf op.fresh ∧ ∀ c n m, vf = .slice (some ⟨c, 0, none⟩) n m → c < b := by
  obtain ⟨vn, vw, ve, vc, hr, _⟩ := h
  exact ⟨hr.fresh, hr.apartf⟩
/-- A field of the struct that is no slice is stored. -/
theorem IsRun.field {A : Nat → Prop} {op : Bt.Op} {known : List Bt.Page} {vf vk : Value} {s s' : Bt.St} {b : Nat} {w : World} (h : IsRun A op known vf vk s b w) (i : Nat) (u : Value)
    (hc : ∀ vn vw ve vc, (runCells op vf vk s vn vw ve vc).setIfInBounds i u = runCells op vf vk s' vn vw ve vc) (h1 : s'.need = s.need := by rfl) (h2 : s'.writes = s.writes := by rfl)
    (h3 : s'.out.entries = s.out.entries := by rfl) (h4 : s'.out.check = s.out.check := by rfl) : IsRun A op known vf vk s' b (w.setCell ⟨b, i, none⟩ u) := by
  obtain ⟨vn, vw, ve, vc, hr, hh⟩ := h
  exact ⟨vn, vw, ve, vc, hr.over ((Over.refl b w).put i u) ((hr.blk.put i u).cast (hc vn vw ve vc)) h1 h2 h3 h4, hh⟩
theorem IsRun.alloc {A : Nat → Prop} {op : Bt.Op} {known : List Bt.Page} {vf vk : Value} {s : Bt.St} {b : Nat} {w : World} (h : IsRun A op known vf vk s b w) (o : Obj) : IsRun A op known vf vk s b (w.alloc o) := h.below (below_alloc (Below.refl _ _) _)
theorem IsRun.drew {A : Nat → Prop} {op : Bt.Op} {known : List Bt.Page} {vf vk : Value} {s : Bt.St} {b : Nat} {w : World} (h : IsRun A op known vf vk s b w) : IsRun A op known vf vk s b w.drew := h.below (Below.refl _ _).drew
theorem IsRun.put9 {A : Nat → Prop} {op : Bt.Op} {known : List Bt.Page} {vf vk : Value} {s : Bt.St} {b g : Nat} {w : World} (h : IsRun A op known vf vk s b w) (hg : b < g) (hA : ¬ A g) (v0 v1 v2 v3 v4 v5 v6 v7 v8 : Value) :
    IsRun A op known vf vk s b (((((((((w.setCell ⟨g, 0, none⟩ v0).setCell ⟨g, 1, none⟩ v1).setCell ⟨g, 2, none⟩ v2).setCell ⟨g, 3, none⟩ v3).setCell ⟨g, 4, none⟩ v4).setCell ⟨g, 5, none⟩ v5).setCell ⟨g, 6, none⟩ v6).setCell ⟨g, 7, none⟩ v7).setCell ⟨g, 8, none⟩ v8) :=
  ((((((((h.cell hg hA 0 v0).cell hg hA 1 v1).cell hg hA 2 v2).cell hg hA 3 v3).cell hg hA 4 v4).cell hg hA 5 v5).cell hg hA 6 v6).cell hg hA 7 v7).cell hg hA 8 v8

/-- A page, and whether there is one. -/
def PageRes (A : Nat → Prop) (op : Bt.Op) (known : List Bt.Page) (vf vk : Value) (b : Nat) (res : Bt.St × Option Bt.Page) (w : World) (e : Ending) (w' : World) : Prop :=
  IsRun (match res.2 with | none => New A w | some _ => A) op known vf vk res.1 b w' ∧ Over b w w' ∧ e = .returned (.tuple #[.agg (res.2.getD Bt.zeroPage).cells, .bool res.2.isSome])

set_option maxRecDepth 10000 in
set_option maxHeartbeats 2000000 in
theorem fresh_empty (A : Nat → Prop) (op : Bt.Op) (known : List Bt.Page) (vf vk : Value) (s : Bt.St) (b : Nat) (vt : Value) (taken : List Int) (w : World) (h : IsRun A op known vf vk s b w) (hA : ∀ c, A c → c < w.heap.size) (hf : op.fresh = []) :
    Calls Tryz.prog 93 #[.pointer (some ⟨b, 0, none⟩), vt] w (PageRes A op known vf vk b (s.fresh op taken) w) := by
  have HX : Hid (s.fresh op taken = (({ s with out := { s.out with fresh := 1 } } : Bt.St).fail 18 [], none)) := Lib.hid (by simp only [Bt.St.fresh, hf])
  have HR := Lib.hid h
  have hlt := h.lt
  have hlt1 : b < w.heap.size + 1 := by omega
  obtain ⟨vn, vw, ve, vc, hc⟩ := h.cells
  have hfr := h.free
  have k7 : w.cell? ⟨b, 7, none⟩ = some vf := hc 7
  have k23 : w.cell? ⟨b, 23, none⟩ = some (.int .i64 s.out.fresh) := hc 23
  have hvf : ∃ p cap, vf = .slice p 0 cap := by
    rcases h.freshRow.1.form with ⟨rfl, _⟩ | ⟨c, cap, rfl, _⟩
    · exact ⟨_, _, rfl⟩
    · rw [hf]; exact ⟨_, _, rfl⟩
  obtain ⟨p, cap, rfl⟩ := hvf
  clear h hc hf
  go_enter Tryz.func93, Tryz.ntmps93
  go_wp2_with fail
  go_at_call 81; refine (fail_none A op known (.slice p 0 cap) vk { s with out := { s.out with fresh := 1 } } b 18 _ ?hrun).mono ?_
  case hrun => exact (HR.out.field (s' := { s with out := { s.out with fresh := 1 } }) 23 _ (fun _ _ _ _ => rfl)).below (by (repeat (first | with_reducible exact Below.refl _ _ | with_reducible assumption | with_reducible refine Below.setCell ?_ (by first | (simp; done) | (simp; omega)) _ | with_reducible refine below_alloc ?_ _ | with_reducible refine below_drewN ?_ _ | with_reducible refine Below.drew ?_ | with_reducible refine below_step ?_ (by assumption))))
  rintro e w1 ⟨rfl, hrun1, ho1⟩
  have HR1 := Lib.hid hrun1
  clear hrun1
  ((obtain ⟨hc1, hf1⟩ := over_rules ho1; have hs1 := World.grownBy.size ho1; try simp only [size_alloc, size_setCell, size_drew, size_drewN] at hs1 hc1 hf1); (try have z1_w_0 : w.heap.size < w1.heap.size := by omega))
  go_wp2_with fail
  have BF := (Blk.made' (w := w.setCell ⟨b, 23, none⟩ (.int .i64 1)) (n := w.heap.size) (t := 25) (cs := #[.int .i64 0, .int .u64 0, .int .u64 0, .int .u64 0, .int .u64 0, .int .u64 0, .int .u64 0, .int .u64 0, .int .u64 0]) (by simp [World.setCell])).grown ho1 (by simp; omega)
  refine bodyPost_ret (results_bt rfl _ _ (w.heap.size) _ _ _ rfl (by (repeat (first | with_reducible exact BF | with_reducible apply Blk.put | with_reducible apply Blk.alloc | (with_reducible apply Blk.aside; (case hp => first | (simp; done) | (simp; omega))) | with_reducible apply Blk.drew))) Tryz.underlying25 rfl (by kernel_rfl)) rfl ?_
  rw [HX.out]
  have hna : ¬ New A ((w.setCell ⟨b, 23, none⟩ (.int .i64 1)).alloc (.cells #[.int .i64 0, .int .u64 0, .int .u64 0, .int .u64 0, .int .u64 0, .int .u64 0, .int .u64 0, .int .u64 0, .int .u64 0] 25)) w.heap.size := by
    rintro (h1 | h1)
    · have := hA _ h1; omega
    · simp at h1; omega
  refine ⟨(HR1.out.put9 (by omega) hna _ _ _ _ _ _ _ _ _).imp (fun c hc => by
    rcases hc with h1 | h1
    · exact .inl h1
    · exact .inr (by simp at h1; omega)), by (repeat (first | with_reducible exact Over.refl _ _ | with_reducible assumption | with_reducible refine Over.put ?_ _ _ | with_reducible refine Over.alloc ?_ _ | with_reducible refine Over.drew ?_ | with_reducible refine Over.own ?_ (by first | (simp; done) | (simp; omega)) _ | with_reducible refine Over.trans ?_ (by assumption) | with_reducible refine Over.then_below ?_ (by assumption))), ?_⟩
  rw [set9]
  rfl

set_option maxRecDepth 10000 in
set_option maxHeartbeats 2000000 in
theorem fresh_one (A : Nat → Prop) (op : Bt.Op) (known : List Bt.Page) (vf vk : Value) (s : Bt.St) (b : Nat) (vt : Value) (taken : List Int) (w : World) (h : IsRun A op known vf vk s b w) (hA : ∀ c, A c → c < w.heap.size)
    (p q : Bt.Page) (rest : List Bt.Page) (hf : op.fresh = p :: rest) (ha : Bt.allocate p 4 0 = (q, 0)) (hq : q.line ∉ taken) (ht : w.ownsRow 0 3 1 vt taken.length (intCells taken)) :
    Calls Tryz.prog 93 #[.pointer (some ⟨b, 0, none⟩), vt] w (PageRes A op known vf vk b (s, some q) w) := by
  have HR := Lib.hid h
  have hlt := h.lt
  have hlt1 : b < w.heap.size + 1 := by omega
  obtain ⟨vn, vw, ve, vc, hc⟩ := h.cells
  have k7 : w.cell? ⟨b, 7, none⟩ = some vf := hc 7
  obtain ⟨hrow, hap⟩ := h.freshRow
  have HP : Hid p.Ok := Lib.hid (hrow.ok p (by rw [hf]; simp))
  have hvf : ∃ c n cap, vf = .slice (some ⟨c, 0, none⟩) (n + 1) cap ∧ c < w.heap.size ∧ w.rangeAt c (0 * 9) p.cells.toList := by
    rcases hrow.form with ⟨_, h0⟩ | ⟨c, cap, hv, hl, hcells⟩
    · rw [hf] at h0; cases h0
    · exact ⟨c, rest.length, cap, by rw [hv, hf]; rfl, hl, fun j u hu => hcells 0 p (by rw [hf]; rfl) j u (by simpa using hu)⟩
  obtain ⟨c, n, cap, rfl, hcl, hcells⟩ := hvf
  obtain ⟨c0, c1, c2, c3, c4, c5, c6, c7, c8⟩ := nine hcells
  have b1 : (((n + 1 : Nat) : Int) == 0) = false := by simp; omega
  have b2 : (0 : Int) < ((n + 1 : Nat) : Int) := by omega
  have HQ : Hid (q.cells = #[.int .i64 q.line, .int .u64 q.head, .int .u64 q.d0, .int .u64 q.d1, .int .u64 q.d2, .int .u64 q.d3, .int .u64 q.d4, .int .u64 q.d5, .int .u64 q.d6]) := Lib.hid rfl
  have HA := Lib.hid ha
  have HT : ∀ w', Below w.heap.size w w' → Calls Tryz.prog 110 #[vt, .int .i64 q.line] w' fun e w'' => e = .returned (.bool false) ∧ w'' = w' := by
    intro w' hb
    have ht' := own_below ht hb
    by_cases h0 : taken.length = 0
    · rcases ht'.2 with ⟨rfl, _⟩ | ⟨g, cp, cur, rfl, _⟩
      · exact Tryz.slices_Contains_int_empty _ _ _ _
      · rw [h0]; exact Tryz.slices_Contains_int_empty _ _ _ _
    · obtain ⟨g, cp, rfl⟩ := own_form ht' (by omega)
      refine (Tryz.slices_Contains_int g 0 taken.length cp taken q.line w' (Nat.le_refl _) (by have := own_cap ht'; unfold maxLen at this; omega) (fun j hj => ?_)).mono ?_
      · rw [Nat.zero_add]
        refine own_cells ht' j _ ?_
        simp [intCells, List.getD_eq_getElem?_getD, hj]
      · rintro e w'' ⟨rfl, rfl⟩
        refine ⟨?_, rfl⟩
        rw [List.take_length]
        simp [hq]
  have HTT := Lib.hid HT
  clear h hc hf hrow hcells ha hq ht HT
  simp only [Nat.zero_mul, Nat.zero_add] at c0 c1 c2 c3 c4 c5 c6 c7 c8
  go_enter Tryz.func93, Tryz.ntmps93
  go_wp2_with fail
  go_at_call 109; refine (Allocate_any p HP.out _).mono ?_
  rintro e w1 ⟨rfl, hb⟩
  rw [HA.out, HQ.out]
  ((obtain ⟨hc1, hf1⟩ := below_rules hb; have hs1 := Below.size hb; try simp only [size_alloc, size_setCell, size_drew, size_drewN] at hs1 hc1 hf1); (try have z1_w_0 : w.heap.size < w1.heap.size := by omega))
  go_wp2_with fail
  go_at_call 110; refine (HTT.out _ (by (repeat (first | with_reducible exact Below.refl _ _ | with_reducible assumption | with_reducible refine Below.setCell ?_ (by first | (simp; done) | (simp; omega)) _ | with_reducible refine below_alloc ?_ _ | with_reducible refine below_drewN ?_ _ | with_reducible refine Below.drew ?_ | with_reducible refine below_step ?_ (by assumption))))).mono ?_
  rintro e w2 ⟨rfl, hw⟩; subst hw
  go_wp2_with fail
  have BF := (Blk.made w 25 #[.int .i64 0, .int .u64 0, .int .u64 0, .int .u64 0, .int .u64 0, .int .u64 0, .int .u64 0, .int .u64 0, .int .u64 0]).kept hb
  refine bodyPost_ret (results_bt rfl _ _ (w.heap.size) _ _ _ rfl (by (repeat (first | with_reducible exact BF | with_reducible apply Blk.put | with_reducible apply Blk.alloc | (with_reducible apply Blk.aside; (case hp => first | (simp; done) | (simp; omega))) | with_reducible apply Blk.drew))) Tryz.underlying25 rfl (by kernel_rfl)) rfl ?_
  refine ⟨(by (repeat (first | with_reducible exact HR.out | (with_reducible refine IsRun.cell ?_ (by omega) (fun h1 => by have := hA _ h1; omega) _ _) | with_reducible refine IsRun.alloc ?_ _ | with_reducible refine IsRun.drew ?_ | with_reducible refine IsRun.below ?_ (by assumption))) : IsRun A op known (.slice (some ⟨c, 0, none⟩) (n + 1) cap) vk s b _), by (repeat (first | with_reducible exact Over.refl _ _ | with_reducible assumption | with_reducible refine Over.put ?_ _ _ | with_reducible refine Over.alloc ?_ _ | with_reducible refine Over.drew ?_ | with_reducible refine Over.own ?_ (by first | (simp; done) | (simp; omega)) _ | with_reducible refine Over.trans ?_ (by assumption) | with_reducible refine Over.then_below ?_ (by assumption))), ?_⟩
  rw [set9]
  show _ = Ending.returned (.tuple #[.agg q.cells, .bool true])
  rw [HQ.out]
  rfl
end Go.Proofs.YtjmpekanlmepmaaGreatDoor
namespace Go.Proofs.YtjmpekanlmepmaaGreatDoor
open Go.RowKit

/-- The pages to write are stored. -/
theorem IsRun.setWrites {A : Nat → Prop} {op : Bt.Op} {known : List Bt.Page} {vf vk : Value} {s : Bt.St} {b : Nat} {w : World} (h : IsRun A op known vf vk s b w) (writes : List Bt.Page) (v : Value)
    (hw : w.ownsRow (b + 1) 25 9 v writes.length (pageCells writes)) (hv : ∀ c, v.ownBlock = some c → A c) : IsRun A op known vf vk { s with writes := writes } b (w.setCell ⟨b, 10, none⟩ v) := by
  obtain ⟨vn, vw, ve, vc, hr, h1, h2, h3, h4⟩ := h
  have ho : Over b w (w.setCell ⟨b, 10, none⟩ v) := (Over.refl b w).put 10 v
  exact ⟨vn, v, ve, vc, ⟨(hr.blk.put 10 v).cast rfl, hr.known.over ho hr.apart, hr.apart, hr.fresh.over ho hr.apartf, hr.apartf, own_over hr.need ho (by omega), own_over hw ho (by omega), own_over hr.ents ho (by omega), own_over hr.check ho (by omega), hr.none.over ho hr.pos, hr.pos⟩, h1, hv, h3, h4⟩

set_option maxRecDepth 10000 in
set_option maxHeartbeats 2000000 in
theorem done_none (A : Nat → Prop) (op : Bt.Op) (known : List Bt.Page) (vf vk : Value) (s : Bt.St) (b : Nat) (writes : List Bt.Page) (G m cw : Nat) (w : World) (h : IsRun A op known vf vk s b w)
    (hw : w.ownsRow (b + 1) 25 9 (.slice (some ⟨G, 0, none⟩) m cw) writes.length (pageCells writes)) (hv : A G) :
    Calls Tryz.prog 94 #[.pointer (some ⟨b, 0, none⟩), (.slice (some ⟨G, 0, none⟩) m cw), .slice none 0 0] w (RunPost A op known vf vk (s.finish writes []) b (.tuple #[]) w) := by
  have HR := Lib.hid h
  have HW := Lib.hid hw
  have HV := Lib.hid hv
  have hlt := h.lt
  obtain ⟨vn, vw, ve, vc, hc⟩ := h.cells
  have hfr := h.free
  have k13 : w.cell? ⟨b, 13, none⟩ = some (.bool s.out.done) := hc 13
  have k10 : w.cell? ⟨b, 10, none⟩ = some vw := hc 10
  clear h hw hv hc
  go_enter Tryz.func94, Tryz.ntmps94
  go_wp2_with fail
  go_at_call 81; refine (fail_none A op known vf vk { s with writes := writes, out := { s.out with done := true } } b 0 _ ?hrun).mono ?_
  case hrun => exact (HR.out.field (s' := { s with out := { s.out with done := true } }) 13 _ (fun _ _ _ _ => rfl)).setWrites writes _ (own_aside HW.out (by show b < b + 1; omega) _) (fun c hc => by simp [Value.ownBlock] at hc; subst hc; exact HV.out)
  rintro e w1 ⟨rfl, hrun1, ho1⟩
  have HR1 := Lib.hid hrun1
  clear hrun1
  go_wp2_with fail
  refine bodyPost_end (results_none rfl _ _ _) rfl ?_
  exact ⟨rfl, HR1.out.imp (fun c hc => by
    rcases hc with h1 | h1
    · exact .inl h1
    · exact .inr (by simpa using h1)), by (repeat (first | with_reducible exact Over.refl _ _ | with_reducible assumption | with_reducible refine Over.put ?_ _ _ | with_reducible refine Over.alloc ?_ _ | with_reducible refine Over.drew ?_ | with_reducible refine Over.own ?_ (by first | (simp; done) | (simp; omega)) _ | with_reducible refine Over.trans ?_ (by assumption) | with_reducible refine Over.then_below ?_ (by assumption)))⟩

/-- With lines, which lie in block g. -/
def DonePost (A : Nat → Prop) (op : Bt.Op) (known : List Bt.Page) (vf vk : Value) (s : Bt.St) (b g : Nat) (w : World) (e : Ending) (w' : World) : Prop :=
  e = .returned (.tuple #[]) ∧ IsRun (fun c => A c ∨ c = g) op known vf vk s b w' ∧ OverTwo b g w w'

theorem OverTwo.of_over {b g : Nat} {w w0 w' : World} (h : Over b w w0) (h2 : OverTwo b g w0 w') : OverTwo b g w w' :=
  ⟨h2.os.trans h.os, h2.tape.trans h.tape, h2.output.trans h.output, Nat.le_trans h.size h2.size, fun k hk hn hg => (h2.block k (Nat.lt_of_lt_of_le hk h.size) hn hg).trans (h.block k hk (by simpa using hn))⟩

set_option maxRecDepth 10000 in
set_option maxHeartbeats 2000000 in
theorem done_some (A : Nat → Prop) (op : Bt.Op) (known : List Bt.Page) (vf vk : Value) (s : Bt.St) (b g n cap : Nat) (writes : List Bt.Page) (check : List Int) (G m cw : Nat) (w : World) (h : IsRun A op known vf vk s b w)
    (hw : w.ownsRow (b + 1) 25 9 (.slice (some ⟨G, 0, none⟩) m cw) writes.length (pageCells writes)) (hv : A G) (hq : w.ownsRow (b + 1) 3 1 (.slice (some ⟨g, 0, none⟩) n cap) n (intCells check)) (hn : check.length = n) (hsmall : n ≤ 1000000) (hg : ¬ A g) :
    Calls Tryz.prog 94 #[.pointer (some ⟨b, 0, none⟩), (.slice (some ⟨G, 0, none⟩) m cw), .slice (some ⟨g, 0, none⟩) n cap] w (DonePost A op known vf vk (s.finish writes check) b g w) := by
  have HR := Lib.hid h
  have HW := Lib.hid hw
  have HV := Lib.hid hv
  have HQ := Lib.hid hq
  have hlt := h.lt
  obtain ⟨vn, vw, ve, vc, hc⟩ := h.cells
  have hfr := h.free
  have k13 : w.cell? ⟨b, 13, none⟩ = some (.bool s.out.done) := hc 13
  have k10 : w.cell? ⟨b, 10, none⟩ = some vw := hc 10
  clear h hw hv hc hq
  go_enter Tryz.func94, Tryz.ntmps94
  go_wp2_with fail
  have hrun := (HR.out.field (s' := { s with out := { s.out with done := true } }) 13 _ (fun _ _ _ _ => rfl)).setWrites writes _ (own_aside HW.out (by show b < b + 1; omega) _) (fun c hc => by simp [Value.ownBlock] at hc; subst hc; exact HV.out)
  obtain ⟨un, uw, ue, uc, hrun, ha1, ha2, ha3, ha4⟩ := hrun
  go_at_call 81; refine (fail_some op known vf vk { s with writes := writes, out := { s.out with done := true } } b g n cap un uw ue uc check 0 _ hrun ?hq hn hsmall (fun e => hg (ha1 _ e)) (fun e => hg (ha2 _ e)) (fun e => hg (ha3 _ e))).mono ?_
  case hq => exact own_aside (own_aside HQ.out (by show b < b + 1; omega) _) (by show b < b + 1; omega) _
  rintro e w1 ⟨rfl, ⟨m, cp, hr1⟩, ho1⟩
  have HR1 := Lib.hid hr1
  have HA := Lib.hid (And.intro ha1 (And.intro ha2 ha3))
  clear hr1 hrun ha1 ha2 ha3 ha4
  go_wp2_with fail
  refine bodyPost_end (results_none rfl _ _ _) rfl ?_
  exact ⟨rfl, ⟨un, uw, ue, _, HR1.out, fun c hc => .inl (HA.out.1 c hc), fun c hc => .inl (HA.out.2.1 c hc), fun c hc => .inl (HA.out.2.2 c hc), fun c hc => .inr (by simp [Value.ownBlock] at hc; exact hc.symm)⟩, OverTwo.of_over (by (repeat (first | with_reducible exact Over.refl _ _ | with_reducible assumption | with_reducible refine Over.put ?_ _ _ | with_reducible refine Over.alloc ?_ _ | with_reducible refine Over.drew ?_ | with_reducible refine Over.own ?_ (by first | (simp; done) | (simp; omega)) _ | with_reducible refine Over.trans ?_ (by assumption) | with_reducible refine Over.then_below ?_ (by assumption)))) ho1⟩
end Go.Proofs.YtjmpekanlmepmaaGreatDoor
