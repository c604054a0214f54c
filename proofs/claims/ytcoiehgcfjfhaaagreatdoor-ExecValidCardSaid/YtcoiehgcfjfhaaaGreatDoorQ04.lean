/- slices.Sort and slices.Compact on rows of the call's own. -/
import Derived.Test.YtcoiehgcfjfhaaaGreatDoorQ01
import Derived.Test.YtcoiehgcfjfhaaaGreatDoorQ03
import Derived.Test.YtcoiehgcfjfhaaaGreatDoorQ02
import Derived.Deep.DeepCutAuto
import Derived.Deep.Light
import Derived.IntWalk
set_option linter.all false
set_option maxRecDepth 20000
set_option maxHeartbeats 8000000
open Go.Lib (hid)
namespace Go.Proofs.YtcoiehgcfjfhaaaGreatDoor
open Go.RowKit
theorem fail_none (A : Nat → Prop) (op : Bt.Op) (known : List Bt.Page) (vf vk : Value) (s : Bt.St) (b : Nat) (c : Int) (w : World) (h : IsRun A op known vf vk s b w) :
    Calls Tryz.prog 178 #[.pointer (some ⟨b, 0, none⟩), .int .i64 c, .slice none 0 0] w (RunPost A op known vf vk (s.fail c []) b (.bool false) w) := by
  obtain ⟨vn, vw, ve, vc, hr, h1, h2, h3, h4⟩ := h
  have HR := hid hr
  have HA := hid (And.intro h1 (And.intro h2 h3))
  have hlt := hr.blk.lt
  have k11 : w.cell? ⟨b, 11, none⟩ = some (.int .i64 s.out.code) := hr.blk.cell 11
  have k21 : w.cell? ⟨b, 21, none⟩ = some vc := hr.blk.cell 21
  have f9 := hr.blk.free
  clear hr h1 h2 h3 h4
  go_enter Tryz.func178, Tryz.ntmps178
  go_wp2_with fail
  go_at_call 37; refine (Tryz.slices_Sort_int_none none 0 _).mono ?_; rintro e w1 ⟨rfl, hw⟩; obtain rfl : w = w1 := hw.symm; clear hw
  go_wp2_with fail
  go_at_call 99; refine (Tryz.slices_Compact_int_empty none 0 _).mono ?_; rintro e w2 ⟨rfl, hw⟩; obtain rfl : w = w2 := hw.symm; clear hw
  go_wp2_with fail
  go_ret
  have hr := HR.out
  refine ⟨rfl, ⟨vn, vw, ve, .slice none 0 0, ?_, fun c hc => .inl (HA.out.1 c hc), fun c hc => .inl (HA.out.2.1 c hc), fun c hc => .inl (HA.out.2.2 c hc), fun c hc => by simp [Value.ownBlock] at hc⟩, qV⟩
  have ho : Over b w ((w.setCell ⟨b, 11, none⟩ (.int .i64 c)).setCell ⟨b, 21, none⟩ (.slice none 0 0)) := qV
  exact ⟨((hr.blk.put 11 _).put 21 _).cast rfl, hr.known.over ho hr.apart, hr.apart, hr.fresh.over ho hr.apartf, hr.apartf,
    own_over hr.need ho (by omega), own_over hr.writes ho (by omega), own_over hr.ents ho (by omega), World.ownsRow_nil _ _ _ _, hr.none.over ho hr.pos, hr.pos⟩
structure OverTwo (b g : Nat) (w w' : World) : Prop where
  os : w'.os = w.os
  tape : w'.tape = w.tape
  output : w'.output = w.output
  size : w.heap.size ≤ w'.heap.size
  block : ∀ k, k < w.heap.size → k ≠ b → k ≠ g → w'.heap[k]? = w.heap[k]?
def foundCells (p : Bt.Page) (n : Bt.Node) (v : Value) : Array Value :=
  #[.int .i64 p.line, .int .u64 p.head, .int .u64 p.d0, .int .u64 p.d1, .int .u64 p.d2, .int .u64 p.d3, .int .u64 p.d4, .int .u64 p.d5, .int .u64 p.d6,
    .int .i64 n.level, .bool n.leftmost, .bool n.dead, .int .u32 n.high, .int .i64 n.right.line, .int .i64 n.right.gen, v]
theorem IsRun.cell {A : Nat → Prop} {op : Bt.Op} {known : List Bt.Page} {vf vk : Value} {s : Bt.St} {b g : Nat} {w : World} (h : IsRun A op known vf vk s b w) (hg : b < g) (hA : ¬ A g) (i : Nat) (u : Value) : IsRun A op known vf vk s b (w.setCell ⟨g, i, none⟩ u) :=
  h.set (p := ⟨g, i, none⟩) hg hA u
theorem own_base {w : World} {base base' n size : Nat} {e : TypeId} {v : Value} {xs : List Value} (h : w.ownsRow base e size v n xs) (hb : base' ≤ base) : w.ownsRow base' e size v n xs := by
  refine ⟨h.1, ?_⟩
  rcases h.2 with h1 | ⟨c, cap, cur, hv, hbase, hr⟩
  · exact .inl h1
  · exact .inr ⟨c, cap, cur, hv, by omega, hr⟩
theorem IsRun.cells {A : Nat → Prop} {op : Bt.Op} {known : List Bt.Page} {vf vk : Value} {s : Bt.St} {b : Nat} {w : World} (h : IsRun A op known vf vk s b w) : ∃ vn vw ve vc, ∀ i, w.cell? ⟨b, i, none⟩ = (runCells op vf vk s vn vw ve vc)[i]? := by
  obtain ⟨vn, vw, ve, vc, hr, _⟩ := h
  exact ⟨vn, vw, ve, vc, hr.blk.cell⟩
theorem IsRun.free {A : Nat → Prop} {op : Bt.Op} {known : List Bt.Page} {vf vk : Value} {s : Bt.St} {b : Nat} {w : World} (h : IsRun A op known vf vk s b w) : ∀ i, w.frozen? ⟨b, i, none⟩ = false := by
  obtain ⟨vn, vw, ve, vc, hr, _⟩ := h
  exact hr.blk.free
theorem IsRun.freshRow {A : Nat → Prop} {op : Bt.Op} {known : List Bt.Page} {vf vk : Value} {s : Bt.St} {b : Nat} {w : World} (h : IsRun A op known vf vk s b w) : PgRow w vf op.fresh ∧ ∀ c n m, vf = .slice (some ⟨c, 0, none⟩) n m → c < b := by
  obtain ⟨vn, vw, ve, vc, hr, _⟩ := h
  exact ⟨hr.fresh, hr.apartf⟩
theorem IsRun.field {A : Nat → Prop} {op : Bt.Op} {known : List Bt.Page} {vf vk : Value} {s s' : Bt.St} {b : Nat} {w : World} (h : IsRun A op known vf vk s b w) (i : Nat) (u : Value)
    (hc : ∀ vn vw ve vc, (runCells op vf vk s vn vw ve vc).setIfInBounds i u = runCells op vf vk s' vn vw ve vc) (h1 : s'.need = s.need := by rfl) (h2 : s'.writes = s.writes := by rfl)
    (h3 : s'.out.entries = s.out.entries := by rfl) (h4 : s'.out.check = s.out.check := by rfl) : IsRun A op known vf vk s' b (w.setCell ⟨b, i, none⟩ u) := by
  obtain ⟨vn, vw, ve, vc, hr, hh⟩ := h
  exact ⟨vn, vw, ve, vc, hr.over ((Over.refl b w).put i u) ((hr.blk.put i u).cast (hc vn vw ve vc)) h1 h2 h3 h4, hh⟩
theorem IsRun.alloc {A : Nat → Prop} {op : Bt.Op} {known : List Bt.Page} {vf vk : Value} {s : Bt.St} {b : Nat} {w : World} (h : IsRun A op known vf vk s b w) (o : Obj) : IsRun A op known vf vk s b (w.alloc o) := h.below (below_alloc (Below.refl _ _) _)
theorem IsRun.drew {A : Nat → Prop} {op : Bt.Op} {known : List Bt.Page} {vf vk : Value} {s : Bt.St} {b : Nat} {w : World} (h : IsRun A op known vf vk s b w) : IsRun A op known vf vk s b w.drew := h.below (Below.refl _ _).drew
theorem IsRun.put9 {A : Nat → Prop} {op : Bt.Op} {known : List Bt.Page} {vf vk : Value} {s : Bt.St} {b g : Nat} {w : World} (h : IsRun A op known vf vk s b w) (hg : b < g) (hA : ¬ A g) (v0 v1 v2 v3 v4 v5 v6 v7 v8 : Value) :
    IsRun A op known vf vk s b (((((((((w.setCell ⟨g, 0, none⟩ v0).setCell ⟨g, 1, none⟩ v1).setCell ⟨g, 2, none⟩ v2).setCell ⟨g, 3, none⟩ v3).setCell ⟨g, 4, none⟩ v4).setCell ⟨g, 5, none⟩ v5).setCell ⟨g, 6, none⟩ v6).setCell ⟨g, 7, none⟩ v7).setCell ⟨g, 8, none⟩ v8) :=
  ((((((((h.cell hg hA 0 v0).cell hg hA 1 v1).cell hg hA 2 v2).cell hg hA 3 v3).cell hg hA 4 v4).cell hg hA 5 v5).cell hg hA 6 v6).cell hg hA 7 v7).cell hg hA 8 v8
def PageRes (A : Nat → Prop) (op : Bt.Op) (known : List Bt.Page) (vf vk : Value) (b : Nat) (res : Bt.St × Option Bt.Page) (w : World) (e : Ending) (w' : World) : Prop :=
  IsRun (match res.2 with | none => New A w | some _ => A) op known vf vk res.1 b w' ∧ Over b w w' ∧ e = .returned (.tuple #[.agg (res.2.getD Bt.zeroPage).cells, .bool res.2.isSome])
theorem fresh_empty (A : Nat → Prop) (op : Bt.Op) (known : List Bt.Page) (vf vk : Value) (s : Bt.St) (b : Nat) (vt : Value) (taken : List Int) (w : World) (h : IsRun A op known vf vk s b w) (hA : ∀ c, A c → c < w.heap.size) (hf : op.fresh = []) :
    Calls Tryz.prog 191 #[.pointer (some ⟨b, 0, none⟩), vt] w (PageRes A op known vf vk b (s.fresh op taken) w) := by
  have HX : Hid (s.fresh op taken = (({ s with out := { s.out with fresh := 1 } } : Bt.St).fail 18 [], none)) := hid (by simp only [Bt.St.fresh, hf])
  have HR := hid h
  have hlt := h.lt
  have hlt1 : b < w.heap.size + 1 := by omega
  obtain ⟨vn, vw, ve, vc, hc⟩ := h.cells
  have hfr := h.free
  have k7 : w.cell? ⟨b, 7, none⟩ = some vf := hc 7
  have k23 : w.cell? ⟨b, 23, none⟩ = some (.int .i64 s.out.fresh) := hc 23
  have hvf : ∃ p cap, vf = .slice p 0 cap := by
    rcases h.freshRow.1.form with ⟨rfl, _⟩ | ⟨c, cap, rfl, _⟩
    · exact ⟨_, _, rfl⟩
    · rw [hf]; exact ⟨_, _, rfl⟩
  obtain ⟨p, cap, rfl⟩ := hvf
  clear h hc hf
  go_enter Tryz.func191, Tryz.ntmps191
  go_wp2_with fail
  go_at_call 178; refine (fail_none A op known (.slice p 0 cap) vk { s with out := { s.out with fresh := 1 } } b 18 _ ?hrun).mono ?_
  case hrun => exact (HR.out.field (s' := { s with out := { s.out with fresh := 1 } }) 23 _ (fun _ _ _ _ => rfl)).below qL
  rintro e w1 ⟨rfl, hrun1, ho1⟩
  have HR1 := hid hrun1
  clear hrun1
  ((obtain ⟨hc1, hf1, hs1⟩ := qO ho1); (try have := qN0 w w1))
  go_wp2_with fail
  have BF := (Blk.made' (w := w.setCell ⟨b, 23, none⟩ (.int .i64 1)) (n := w.heap.size) (t := 75) (cs := #[.int .i64 0, .int .u64 0, .int .u64 0, .int .u64 0, .int .u64 0, .int .u64 0, .int .u64 0, .int .u64 0, .int .u64 0]) (by simp [World.setCell])).grown ho1 (by simp; omega)
  refine bodyPost_ret (results_bt rfl _ _ (w.heap.size) _ _ _ rfl (by have B := BF; exact qK) Tryz.underlying75 rfl (by kernel_rfl)) rfl ?_
  rw [HX.out]
  have hna : ¬ New A ((w.setCell ⟨b, 23, none⟩ (.int .i64 1)).alloc (.cells #[.int .i64 0, .int .u64 0, .int .u64 0, .int .u64 0, .int .u64 0, .int .u64 0, .int .u64 0, .int .u64 0, .int .u64 0] 75)) w.heap.size := by
    rintro (h1 | h1)
    · have := hA _ h1; omega
    · simp at h1; omega
  refine ⟨(HR1.out.put9 (by omega) hna _ _ _ _ _ _ _ _ _).imp (fun c hc => by
    rcases hc with h1 | h1
    · exact .inl h1
    · exact .inr (by simp at h1; omega)), qV, ?_⟩
  rw [set9]
  rfl
theorem fresh_one (A : Nat → Prop) (op : Bt.Op) (known : List Bt.Page) (vf vk : Value) (s : Bt.St) (b : Nat) (vt : Value) (taken : List Int) (w : World) (h : IsRun A op known vf vk s b w) (hA : ∀ c, A c → c < w.heap.size)
    (p q : Bt.Page) (rest : List Bt.Page) (hf : op.fresh = p :: rest) (ha : Bt.allocate p 4 0 = (q, 0)) (hq : q.line ∉ taken) (ht : w.ownsRow 0 3 1 vt taken.length (intCells taken)) :
    Calls Tryz.prog 191 #[.pointer (some ⟨b, 0, none⟩), vt] w (PageRes A op known vf vk b (s, some q) w) := by
  have HR := hid h
  have hlt := h.lt
  have hlt1 : b < w.heap.size + 1 := by omega
  obtain ⟨vn, vw, ve, vc, hc⟩ := h.cells
  have k7 : w.cell? ⟨b, 7, none⟩ = some vf := hc 7
  obtain ⟨hrow, hap⟩ := h.freshRow
  have HP : Hid p.Ok := hid (hrow.ok p (by rw [hf]; simp))
  have hvf : ∃ c n cap, vf = .slice (some ⟨c, 0, none⟩) (n + 1) cap ∧ c < w.heap.size ∧ w.rangeAt c (0 * 9) p.cells.toList := by
    rcases hrow.form with ⟨_, h0⟩ | ⟨c, cap, hv, hl, hcells⟩
    · rw [hf] at h0; cases h0
    · exact ⟨c, rest.length, cap, by rw [hv, hf]; rfl, hl, fun j u hu => hcells 0 p (by rw [hf]; rfl) j u (by simpa using hu)⟩
  obtain ⟨c, n, cap, rfl, hcl, hcells⟩ := hvf
  obtain ⟨c0, c1, c2, c3, c4, c5, c6, c7, c8⟩ := nine hcells
  have b1 : (((n + 1 : Nat) : Int) == 0) = false := by simp; omega
  have b2 : (0 : Int) < ((n + 1 : Nat) : Int) := by omega
  have HQ : Hid (q.cells = #[.int .i64 q.line, .int .u64 q.head, .int .u64 q.d0, .int .u64 q.d1, .int .u64 q.d2, .int .u64 q.d3, .int .u64 q.d4, .int .u64 q.d5, .int .u64 q.d6]) := hid rfl
  have HA := hid ha
  have HT : ∀ w', Below w.heap.size w w' → Calls Tryz.prog 240 #[vt, .int .i64 q.line] w' fun e w'' => e = .returned (.bool false) ∧ w'' = w' := by
    intro w' hb
    have ht' := own_below ht hb
    by_cases h0 : taken.length = 0
    · rcases ht'.2 with ⟨rfl, _⟩ | ⟨g, cp, cur, rfl, _⟩
      · exact Tryz.slices_Contains_int_empty _ _ _ _
      · rw [h0]; exact Tryz.slices_Contains_int_empty _ _ _ _
    · obtain ⟨g, cp, rfl⟩ := own_form ht' (by omega)
      refine (Tryz.slices_Contains_int g 0 taken.length cp taken q.line w' (Nat.le_refl _) (by have := own_cap ht'; unfold maxLen at this; omega) (fun j hj => ?_)).mono ?_
      · rw [Nat.zero_add]
        refine own_cells ht' j _ ?_
        simp [intCells, List.getD_eq_getElem?_getD, hj]
      · rintro e w'' ⟨rfl, rfl⟩
        refine ⟨?_, rfl⟩
        rw [List.take_length]
        simp [hq]
  have HTT := hid HT
  clear h hc hf hrow hcells ha hq ht HT
  simp only [Nat.zero_mul, Nat.zero_add] at c0 c1 c2 c3 c4 c5 c6 c7 c8
  go_enter Tryz.func191, Tryz.ntmps191
  go_wp2_with fail
  go_at_call 108; refine (Allocate_any p HP.out _).mono ?_
  rintro e w1 ⟨rfl, hb⟩
  rw [HA.out, HQ.out]
  ((obtain ⟨hc1, hf1, hs1⟩ := qR hb); (try have := qN0 w w1))
  go_wp2_with fail
  go_at_call 240; refine (HTT.out _ qL).mono ?_
  rintro e w2 ⟨rfl, hw⟩; subst hw
  go_wp2_with fail
  have BF := (Blk.made w 75 #[.int .i64 0, .int .u64 0, .int .u64 0, .int .u64 0, .int .u64 0, .int .u64 0, .int .u64 0, .int .u64 0, .int .u64 0]).kept hb
  refine bodyPost_ret (results_bt rfl _ _ (w.heap.size) _ _ _ rfl (by have B := BF; exact qK) Tryz.underlying75 rfl (by kernel_rfl)) rfl ?_
  refine ⟨(by (repeat (first | with_reducible exact HR.out | (with_reducible refine IsRun.cell ?_ (by omega) (fun h1 => by have := hA _ h1; omega) _ _) | with_reducible refine IsRun.alloc ?_ _ | with_reducible refine IsRun.drew ?_ | with_reducible refine IsRun.below ?_ (by assumption))) : IsRun A op known (.slice (some ⟨c, 0, none⟩) (n + 1) cap) vk s b _), qV, ?_⟩
  rw [set9]
  show _ = Ending.returned (.tuple #[.agg q.cells, .bool true])
  rw [HQ.out]
  rfl
theorem IsRun.setWrites {A : Nat → Prop} {op : Bt.Op} {known : List Bt.Page} {vf vk : Value} {s : Bt.St} {b : Nat} {w : World} (h : IsRun A op known vf vk s b w) (writes : List Bt.Page) (v : Value)
    (hw : w.ownsRow (b + 1) 75 9 v writes.length (pageCells writes)) (hv : ∀ c, v.ownBlock = some c → A c) : IsRun A op known vf vk { s with writes := writes } b (w.setCell ⟨b, 10, none⟩ v) := by
  obtain ⟨vn, vw, ve, vc, hr, h1, h2, h3, h4⟩ := h
  have ho : Over b w (w.setCell ⟨b, 10, none⟩ v) := (Over.refl b w).put 10 v
  exact ⟨vn, v, ve, vc, ⟨(hr.blk.put 10 v).cast rfl, hr.known.over ho hr.apart, hr.apart, hr.fresh.over ho hr.apartf, hr.apartf, own_over hr.need ho (by omega), own_over hw ho (by omega), own_over hr.ents ho (by omega), own_over hr.check ho (by omega), hr.none.over ho hr.pos, hr.pos⟩, h1, hv, h3, h4⟩
theorem done_none (A : Nat → Prop) (op : Bt.Op) (known : List Bt.Page) (vf vk : Value) (s : Bt.St) (b : Nat) (writes : List Bt.Page) (G m cw : Nat) (w : World) (h : IsRun A op known vf vk s b w)
    (hw : w.ownsRow (b + 1) 75 9 (.slice (some ⟨G, 0, none⟩) m cw) writes.length (pageCells writes)) (hv : A G) :
    Calls Tryz.prog 193 #[.pointer (some ⟨b, 0, none⟩), (.slice (some ⟨G, 0, none⟩) m cw), .slice none 0 0] w (RunPost A op known vf vk (s.finish writes []) b (.tuple #[]) w) := by
  have HR := hid h
  have HW := hid hw
  have HV := hid hv
  have hlt := h.lt
  obtain ⟨vn, vw, ve, vc, hc⟩ := h.cells
  have hfr := h.free
  have k13 : w.cell? ⟨b, 13, none⟩ = some (.bool s.out.done) := hc 13
  have k10 : w.cell? ⟨b, 10, none⟩ = some vw := hc 10
  clear h hw hv hc
  go_enter Tryz.func193, Tryz.ntmps193
  go_wp2_with fail
  go_at_call 178; refine (fail_none A op known vf vk { s with writes := writes, out := { s.out with done := true } } b 0 _ ?hrun).mono ?_
  case hrun => exact (HR.out.field (s' := { s with out := { s.out with done := true } }) 13 _ (fun _ _ _ _ => rfl)).setWrites writes _ (own_aside HW.out (by show b < b + 1; omega) _) (fun c hc => by simp [Value.ownBlock] at hc; subst hc; exact HV.out)
  rintro e w1 ⟨rfl, hrun1, ho1⟩
  have HR1 := hid hrun1
  clear hrun1
  go_wp2_with fail
  refine bodyPost_end (results_none rfl _ _ _) rfl ?_
  exact ⟨rfl, HR1.out.imp (fun c hc => by
    rcases hc with h1 | h1
    · exact .inl h1
    · exact .inr (by simpa using h1)), qV⟩
theorem IsRun.knownRow {A : Nat → Prop} {op : Bt.Op} {known : List Bt.Page} {vf vk : Value} {s : Bt.St} {b : Nat} {w : World} (h : IsRun A op known vf vk s b w) : PgRow w vk known := by
  obtain ⟨vn, vw, ve, vc, hr, _⟩ := h
  exact hr.known
structure DescAt (A : Nat → Prop) (op : Bt.Op) (known : List Bt.Page) (vf vk : Value) (s : Bt.St) (b g : Nat) (page : Bt.Page) (n : Bt.Node) (v : Value) (w0 wr : World) : Prop where
  blk : Blk wr g 310 (foundCells page n v)
  own : wr.ownsRow (w0.heap.size + 1) 173 3 v n.entries.length (entCells n.entries)
  run : IsRun A op known vf vk s b wr
  over : Over b w0 wr
theorem validRoot_any (q : Bt.Ptr) (l : Int) (w : World) (hg : NoneAt w) : Calls Tryz.prog 233 #[.agg q.cells, .int .i64 l] w fun e w' => e = .returned (.bool (Bt.validRoot q l)) ∧ Below w.heap.size w w' := by
  obtain ⟨g0, g1, gl⟩ := hg
  have ne := neq_ptr
  have eq := eql_ptr
  unfold Bt.Ptr.cells
  by_cases hq : q = Bt.nilP
  · have HX : Hid (Bt.validRoot q l = decide (l = 0)) := hid (by simp [Bt.validRoot, hq])
    have hp : peq q.line q.gen 0 0 = true := by rw [peq_nil]; simp [hq]
    clear hq
    go_enter Tryz.func233, Tryz.ntmps233
    go_wp2_with fail
    go_ret
    refine ⟨ret_bool ?_, qL⟩
    rw [HX.out, Bool.eq_iff_iff]
    simp
  · have HX : Hid (Bt.validRoot q l = (Bt.validP q && decide (0 ≤ l) && decide (l ≤ 8))) := hid (by simp [Bt.validRoot, hq])
    have hp : peq q.line q.gen 0 0 = false := by rw [peq_nil]; simp [hq]
    clear hq
    rcases hv : Bt.validP q with _ | _
    all_goals
      have HV := hid hv
      clear hv
      go_enter Tryz.func233, Tryz.ntmps233
      go_wp2_with (go_at_call 136; refine (Valid_any _ _ _).mono ?_; rintro e w1 ⟨rfl, hb⟩; rw [HV.out]; ((obtain ⟨hc1, hf1, hs1⟩ := qR hb); (try have := qN0 w w1)))
      all_goals go_ret
    · exact ⟨ret_bool (by rw [HX.out, HV.out]; rfl), qL⟩
    all_goals
      refine ⟨ret_bool ?_, qL⟩
      rw [HX.out, HV.out]
      go_light
      first | (simp [*]; done) | (simp; omega)
def RootPost (p : Bt.Page) (w : World) (e : Ending) (w' : World) : Prop :=
  (match Bt.readRoot p with
  | none => e = .returned (.tuple #[.agg Bt.nilP.cells, .int .i64 0, .int .i64 14])
  | some (q, l) => e = .returned (.tuple #[.agg q.cells, .int .i64 l, .int .i64 0])) ∧ Below w.heap.size w w'
theorem ReadRoot_any (p : Bt.Page) (hp : p.Ok) (hl : p.line = 96) (w : World) (hg : NoneAt w) : Calls Tryz.prog 179 #[.agg p.cells] w (RootPost p w) := by
  have Hg := hid hg
  obtain ⟨g0, g1, gl⟩ := hg
  have hpd := hp.d0
  have bl : (p.line != 96) = false := by simp [hl]
  have e5 : IntKind.u32.wrap p.d0 = p.d0 % 4294967296 := by rw [IntKind.wrap_u32]
  have e6 : IntKind.i64.wrap (p.d0 / 4294967296) = p.d0 / 4294967296 := IntWalk.i64_in _ (by omega)
  have hq : Bt.unpack (p.d0 % 4294967296) = ⟨p.d0 % 256, p.d0 % 4294967296 / 256⟩ := by unfold Bt.unpack; congr 1; omega
  rcases hv : Bt.validRoot (Bt.unpack (p.d0 % 4294967296)) (p.d0 / 4294967296) with _ | _
  · have HX : Hid (Bt.readRoot p = none) := hid (by simp [Bt.readRoot, hv])
    rw [hq] at hv
    have HV := hid hv
    clear hv hq hl
    unfold Bt.Page.cells
    go_enter Tryz.func179, Tryz.ntmps179
    go_wp2_with fail
    refine qB (w.heap.size + 1) fun hSt => ?_
    refine qS [0, 1, 2, 3, 5, 6, 7, 8, 9] ?_
    iterate 9 (refine qT ?_; simp only [Act.put, qY])
    refine TakeSeq.done ?_
    refine qH 4 fun K hK => ?_
    go_simp
    go_at_call 135; refine (Unpack_any _ (by omega) (by omega) _).mono ?_; rintro e w1 ⟨rfl, hb⟩; ((obtain ⟨hc1, hf1, hs1⟩ := qR hb); (try have := qN0 w w1); (try have := qN1 w w1))
    go_wp2_with fail
    refine hK.out _ _ (SteadyBut.of qL) (fun hHeld => ?_)
    clear hK K
    refine qH 10 fun K hK => ?_
    go_simp
    refine hK.out _ _ qE (fun hHeld => ?_)
    clear hK K
    refine qS [11] ?_
    refine qT ?_; simp only [Act.put, qY]
    refine TakeSeq.done ?_
    refine qD ?_ _
    go_wp2_with fail
    go_at_call 233; refine (validRoot_any ⟨p.d0 % 256, p.d0 % 4294967296 / 256⟩ _ _ ?hng).mono ?_
    case hng => exact Hg.out.below qL
    rintro e w2 ⟨rfl, hb2⟩; rw [HV.out]; ((obtain ⟨hc2, hf2, hs2⟩ := qR hb2); (try have := qN0 w w2); (try have := qN1 w w2))
    have gl1 : 1 < w1.heap.size := by omega
    have gl2 : 1 < w2.heap.size := by omega
    go_wp2_with fail
    have B := ((made22 w (t := 154) (cs := #[.int .i64 0, .int .i64 0])).drew.kept hb)
    have B2 := (B.all2 (.int .i64 (p.d0 % 256)) (.int .i64 (p.d0 % 4294967296 / 256))).kept hb2
    (refine bodyPost_ret (results_btt rfl _ _ (w.heap.size + 1) _ _ _ rfl (by have B := B2; exact qK) Tryz.underlying154 rfl (by kernel_rfl)) rfl ⟨?_, ?_⟩)
    · rw [HX.out, set2]; rfl
    · exact qL
  · have HX : Hid (Bt.readRoot p = some (⟨p.d0 % 256, p.d0 % 4294967296 / 256⟩, p.d0 / 4294967296)) := hid (by rw [hq] at hv; simp [Bt.readRoot, hq, hv])
    rw [hq] at hv
    have HV := hid hv
    clear hv hq hl
    unfold Bt.Page.cells
    go_enter Tryz.func179, Tryz.ntmps179
    go_wp2_with fail
    refine qB (w.heap.size + 1) fun hSt => ?_
    refine qS [0, 1, 2, 3, 5, 6, 7, 8, 9] ?_
    iterate 9 (refine qT ?_; simp only [Act.put, qY])
    refine TakeSeq.done ?_
    refine qH 4 fun K hK => ?_
    go_simp
    go_at_call 135; refine (Unpack_any _ (by omega) (by omega) _).mono ?_; rintro e w1 ⟨rfl, hb⟩; ((obtain ⟨hc1, hf1, hs1⟩ := qR hb); (try have := qN0 w w1); (try have := qN1 w w1))
    go_wp2_with fail
    refine hK.out _ _ (SteadyBut.of qL) (fun hHeld => ?_)
    clear hK K
    refine qH 10 fun K hK => ?_
    go_simp
    refine hK.out _ _ qE (fun hHeld => ?_)
    clear hK K
    refine qS [11] ?_
    refine qT ?_; simp only [Act.put, qY]
    refine TakeSeq.done ?_
    refine qD ?_ _
    go_wp2_with fail
    go_at_call 233; refine (validRoot_any ⟨p.d0 % 256, p.d0 % 4294967296 / 256⟩ _ _ ?hng).mono ?_
    case hng => exact Hg.out.below qL
    rintro e w2 ⟨rfl, hb2⟩; rw [HV.out]; ((obtain ⟨hc2, hf2, hs2⟩ := qR hb2); (try have := qN0 w w2); (try have := qN1 w w2))
    have gl1 : 1 < w1.heap.size := by omega
    have gl2 : 1 < w2.heap.size := by omega
    go_wp2_with fail
    have B := ((made22 w (t := 154) (cs := #[.int .i64 0, .int .i64 0])).drew.kept hb)
    have B2 := (B.all2 (.int .i64 (p.d0 % 256)) (.int .i64 (p.d0 % 4294967296 / 256))).kept hb2
    (refine bodyPost_ret (results_btt rfl _ _ (w.heap.size + 1) _ _ _ rfl (by have B := B2; exact qK) Tryz.underlying154 rfl (by kernel_rfl)) rfl ⟨?_, ?_⟩)
    · rw [HX.out, set2]; rfl
    · exact qL
theorem word_conv (q : Bt.Ptr) (l : Int) (hl : 0 ≤ l ∧ l < 4294967296) : bits .or .u64 (Bt.pack q) (l * 4294967296) = Bt.pack q + l * 4294967296 := word_or (Bt.pack q) l (pack_bound q) hl
theorem WriteRoot_any (p : Bt.Page) (q : Bt.Ptr) (l : Int) (hl : p.line = 96) (hv : Bt.validRoot q l = true) (w : World) (hg : NoneAt w) :
    Calls Tryz.prog 192 #[.agg p.cells, .agg q.cells, .int .i64 l] w fun e w' => e = .returned (.tuple #[.agg (Bt.writeRoot p q l).cells, .int .i64 0]) ∧ Below w.heap.size w w' := by
  have Hg := hid hg
  have bl : (p.line != 96) = false := by simp [hl]
  have hlv : 0 ≤ l ∧ l ≤ 8 := by
    unfold Bt.validRoot at hv
    split at hv
    · simp at hv; omega
    · simp at hv; omega
  have hpk := pack_bound q
  have e1 := word_conv q l (by omega)
  have HV := hid hv
  clear hv hl
  unfold Bt.Page.cells
  have hqc : q.cells = #[.int .i64 q.line, .int .i64 q.gen] := rfl
  rw [hqc]
  clear hqc
  go_enter Tryz.func192, Tryz.ntmps192
  go_wp2_with fail
  go_at_call 233; refine (validRoot_any q _ _ ?hng).mono ?_
  case hng => exact Hg.out.below qL
  rintro e w1 ⟨rfl, hb⟩; rw [HV.out]; ((obtain ⟨hc1, hf1, hs1⟩ := qR hb); (try have := qN0 w w1); (try have := qN1 w w1); (try have := qN2 w w1))
  go_wp2_with fail
  go_at_call 207; refine (Pack_any q.line q.gen _).mono ?_; rintro e w2 ⟨rfl, hb2⟩; ((obtain ⟨hc2, hf2, hs2⟩ := qR hb2); (try have := qN0 w w2); (try have := qN1 w w2); (try have := qN2 w w2))
  have hx : ∀ u, (w2.setCell ⟨w.heap.size, 2, none⟩ u).cell? ⟨w.heap.size, 2, none⟩ = some u := fun u => (((((made1 w (t := 75) (cs := p.cells)).alloc _).alloc _).kept hb).kept hb2).put 2 u |>.cell 2
  go_wp2_with fail
  have B := ((made33 w (t := 75) (cs := Bt.zeroPage.cells)).kept hb).kept hb2
  rw [zeroPage_cells] at B
  (refine bodyPost_ret (results_bt rfl _ _ (w.heap.size + 1 + 1) _ _ _ rfl (by exact qK) Tryz.underlying75 rfl (by kernel_rfl)) rfl ⟨?_, ?_⟩)
  · rw [set9]
    have a2 : IntKind.u64.wrap (Bt.pack ⟨q.line, q.gen⟩) = Bt.pack q := by show IntKind.u64.wrap (Bt.pack q) = _; rw [IntKind.wrap_u64]; omega
    rw [a2, e1]
    rfl
  · exact qL
theorem alloc_good {p q : Bt.Page} (hp : p.Ok) (h : Bt.allocate p 4 0 = (q, 0)) : q.Ok ∧ Bt.validP (Bt.at_ q) = true ∧ q.line = p.line ∧ q.head = p.head ∧ q.d0 = 4 + (Bt.tagGen p.d0 + 1) * 256 := by
  unfold Bt.allocate at h
  have hg : 0 ≤ Bt.tagGen p.d0 ∧ Bt.tagGen p.d0 < 16777216 := by unfold Bt.tagGen; omega
  split at h
  · simp at h
  · split at h
    · simp at h
    · split at h
      · simp at h
      · split at h
        · simp at h
        · rename_i h1 h2 h3 h4
          simp only [Prod.mk.injEq, and_true] at h
          subst h
          have hd : Bt.packTag 4 (Bt.tagGen p.d0 + 1) 0 = 4 + (Bt.tagGen p.d0 + 1) * 256 := by unfold Bt.packTag; omega
          have h5 : Bt.tagGen (4 + (Bt.tagGen p.d0 + 1) * 256) = Bt.tagGen p.d0 + 1 := by
            generalize Bt.tagGen p.d0 = t at *
            unfold Bt.tagGen
            omega
          refine ⟨⟨hp.head, ?_, ?_, ?_, ?_, ?_, ?_, ?_⟩, ?_, rfl, rfl, hd⟩
          · show (0 : Int) ≤ Bt.packTag 4 (Bt.tagGen p.d0 + 1) 0 ∧ Bt.packTag 4 (Bt.tagGen p.d0 + 1) 0 < 18446744073709551616
            rw [hd]; omega
          all_goals first | (show (0 : Int) ≤ 0 ∧ (0 : Int) < 18446744073709551616; omega) | skip
          show Bt.validP ⟨p.line, Bt.tagGen (Bt.packTag 4 (Bt.tagGen p.d0 + 1) 0)⟩ = true
          rw [hd, h5]
          simp only [Bt.validP, Bool.and_eq_true, decide_eq_true_eq]
          refine ⟨⟨?_, by omega⟩, by omega⟩
          simpa using fun e => h1 (Or.inl e)
def plantLeaf (e : Bt.Entry) : Bt.Node := ⟨0, true, false, Bt.maxHigh, Bt.nilP, [e]⟩
theorem plant_empty (A : Nat → Prop) (op : Bt.Op) (known : List Bt.Page) (vf vk : Value) (s : Bt.St) (b : Nat) (e : Bt.Entry) (w : World) (h : IsRun A op known vf vk s b w) (hA : ∀ c, A c → c < w.heap.size)
    (hrp : s.rootPage.Ok) (hlk : Bt.locked s.rootPage = false) (hf : op.fresh = []) :
    Calls Tryz.prog 183 #[.pointer (some ⟨b, 0, none⟩), .agg e.cells] w (RunPost A op known vf vk (s.plant op e) b (.tuple #[]) w) := by
  have HX : Hid (s.plant op e = (s.fresh op []).1) := hid (by simp [Bt.St.plant, hlk, Bt.St.fresh, hf])
  have HY : Hid ((s.fresh op []).2 = none) := hid (by simp [Bt.St.fresh, hf])
  have HR := hid h
  have HF := hid hf
  have HRP := hid hrp
  have HLK := hid hlk
  have hlt := h.lt
  have hlt1 : b < w.heap.size + 1 := by omega
  obtain ⟨vn, vw, ve, vc, hc⟩ := h.cells
  have k25 : w.cell? ⟨b, 25, none⟩ = some (.int .i64 s.rootPage.line) := hc 25
  have k26 : w.cell? ⟨b, 26, none⟩ = some (.int .u64 s.rootPage.head) := hc 26
  have k27 : w.cell? ⟨b, 27, none⟩ = some (.int .u64 s.rootPage.d0) := hc 27
  have k28 : w.cell? ⟨b, 28, none⟩ = some (.int .u64 s.rootPage.d1) := hc 28
  have k29 : w.cell? ⟨b, 29, none⟩ = some (.int .u64 s.rootPage.d2) := hc 29
  have k30 : w.cell? ⟨b, 30, none⟩ = some (.int .u64 s.rootPage.d3) := hc 30
  have k31 : w.cell? ⟨b, 31, none⟩ = some (.int .u64 s.rootPage.d4) := hc 31
  have k32 : w.cell? ⟨b, 32, none⟩ = some (.int .u64 s.rootPage.d5) := hc 32
  have k33 : w.cell? ⟨b, 33, none⟩ = some (.int .u64 s.rootPage.d6) := hc 33
  clear h hc hf hrp hlk
  unfold Bt.Entry.cells
  go_enter Tryz.func183, Tryz.ntmps183
  go_wp2_with fail
  go_at_call 62; refine (Locked_any s.rootPage HRP.out _).mono ?_; rintro e w1 ⟨rfl, hb⟩; rw [HLK.out]; ((obtain ⟨hc1, hf1, hs1⟩ := qR hb); (try have := qN0 w w1); (try have := qN1 w w1))
  have HB := hid hb
  go_wp2_with fail
  go_at_call 191; refine (fresh_empty A op known vf vk s b _ [] _ ?hrun ?hlow HF.out).mono ?_
  case hrun => exact HR.out.below qL
  case hlow => exact fun c hc => by have := hA c hc; omega
  rintro e w2 ⟨hrun2, ho2, rfl⟩
  rw [HY.out]
  rw [HY.out] at hrun2
  have HR2 := hid (show IsRun (New A _) op known vf vk _ b w2 from hrun2)
  clear hrun2
  ((obtain ⟨hc2, hf2, hs2⟩ := qO ho2); (try have := qN0 w w2); (try have := qN1 w w2); (try have := qN0 w1 w2))
  simp only [Option.getD_none, Option.isSome_none, zeroPage_cells]
  go_wp2_with fail
  refine bodyPost_ret (results_none rfl _ _ _) rfl ⟨rfl, ?_, qV⟩
  rw [HX.out]
  refine IsRun.alloc (IsRun.imp HR2.out (fun c hc => ?_)) _ |>.below qL
  rcases hc with h1 | h1
  · exact .inl h1
  · exact .inr (by omega)
theorem SteadyBut.over {r : Nat} {w1 wx : World} (h : Over r w1 wx) : SteadyBut r w1 wx := ⟨fun b o hb hr => (over_rules h).1 b o hb hr⟩
theorem own_pages2 (w : World) (base : Nat) (R F : Bt.Page) (hb : base ≤ w.heap.size) : (w.alloc (.cells #[.int .i64 R.line, .int .u64 R.head, .int .u64 R.d0, .int .u64 R.d1, .int .u64 R.d2, .int .u64 R.d3, .int .u64 R.d4, .int .u64 R.d5, .int .u64 R.d6, .int .i64 F.line, .int .u64 F.head, .int .u64 F.d0, .int .u64 F.d1, .int .u64 F.d2, .int .u64 F.d3, .int .u64 F.d4, .int .u64 F.d5, .int .u64 F.d6] 75)).ownsRow base 75 9 (.slice (some ⟨w.heap.size, 0, none⟩) 2 2) 2 (pageCells [R, F]) :=
  ⟨rfl, .inr ⟨w.heap.size, 2, _, rfl, hb, Blk.made' rfl, Nat.le_refl _, by unfold maxLen; omega, rfl, rfl⟩⟩
theorem own_pages1 (w : World) (base : Nat) (R : Bt.Page) (hb : base ≤ w.heap.size) : (w.alloc (.cells #[.int .i64 R.line, .int .u64 R.head, .int .u64 R.d0, .int .u64 R.d1, .int .u64 R.d2, .int .u64 R.d3, .int .u64 R.d4, .int .u64 R.d5, .int .u64 R.d6] 75)).ownsRow base 75 9 (.slice (some ⟨w.heap.size, 0, none⟩) 1 1) 1 (pageCells [R]) :=
  ⟨rfl, .inr ⟨w.heap.size, 1, _, rfl, hb, Blk.made' rfl, Nat.le_refl _, by unfold maxLen; omega, rfl, rfl⟩⟩
def PlantCut (R q : Bt.Page) (e : Bt.Entry) (w2 : World) (s7 : Value) (wx : World) : Prop :=
  ∃ G : Nat, s7 = .pointer (some ⟨G, 0, none⟩) ∧ w2.heap.size ≤ G ∧ Blk wx G 75 R.cells ∧ Blk wx w2.heap.size 75 q.cells ∧ Blk wx (w2.heap.size + 1) 173 e.cells ∧
    Blk wx (w2.heap.size + 1 + 1) 308 (nodeCells (plantLeaf e) (.slice (some ⟨w2.heap.size + 1, 0, none⟩) 1 1)) ∧ Below w2.heap.size w2 wx
theorem plant_one (A : Nat → Prop) (op : Bt.Op) (known : List Bt.Page) (vf vk : Value) (s : Bt.St) (b : Nat) (e : Bt.Entry) (w : World) (h : IsRun A op known vf vk s b w) (hA : ∀ c, A c → c < w.heap.size)
    (hrp : s.rootPage.Ok) (hlk : Bt.locked s.rootPage = false) (hrl : s.rootPage.line = 96)
    (p q : Bt.Page) (rest : List Bt.Page) (hf : op.fresh = p :: rest) (hpo : p.Ok) (ha : Bt.allocate p 4 0 = (q, 0)) (hek : 0 ≤ e.key ∧ e.key < 4294967296) :
    Calls Tryz.prog 183 #[.pointer (some ⟨b, 0, none⟩), .agg e.cells] w (RunPost A op known vf vk (s.plant op e) b (.tuple #[]) w) := by
  have HX : Hid (s.plant op e = s.finish [Bt.writeRoot s.rootPage (Bt.at_ q) 0, (plantLeaf e).fill q] []) := hid (by simp [Bt.St.plant, hlk, Bt.St.fresh, hf, ha, plantLeaf])
  obtain ⟨hqo, hqv, hql, hqh, hqd⟩ := alloc_good hpo ha
  have HQ : Hid (q.cells = #[.int .i64 q.line, .int .u64 q.head, .int .u64 q.d0, .int .u64 q.d1, .int .u64 q.d2, .int .u64 q.d3, .int .u64 q.d4, .int .u64 q.d5, .int .u64 q.d6]) := hid rfl
  have HRC : ∀ r : Bt.Page, Hid (r.cells = #[.int .i64 r.line, .int .u64 r.head, .int .u64 r.d0, .int .u64 r.d1, .int .u64 r.d2, .int .u64 r.d3, .int .u64 r.d4, .int .u64 r.d5, .int .u64 r.d6]) := fun r => hid rfl
  have HVR : Hid (Bt.validRoot (Bt.at_ q) 0 = true) := hid (by simp [Bt.validRoot, hqv])
  have HQO := hid hqo
  have HA := hid ha
  have HRL := hid hrl
  have HNO : Hid (NodeOk (plantLeaf e)) := hid ⟨by simp [plantLeaf], by simp [plantLeaf, Bt.maxHigh], by simp [plantLeaf]⟩
  have HNA : Hid (NoneAt w) := hid (by obtain ⟨vn, vw, ve, vc, hr, _⟩ := h; exact hr.none)
  have HR := hid h
  have HF := hid hf
  have HRP := hid hrp
  have HLK := hid hlk
  have hlt := h.lt
  have hlt1 : b < w.heap.size + 1 := by omega
  obtain ⟨vn, vw, ve, vc, hc⟩ := h.cells
  have k25 : w.cell? ⟨b, 25, none⟩ = some (.int .i64 s.rootPage.line) := hc 25
  have k26 : w.cell? ⟨b, 26, none⟩ = some (.int .u64 s.rootPage.head) := hc 26
  have k27 : w.cell? ⟨b, 27, none⟩ = some (.int .u64 s.rootPage.d0) := hc 27
  have k28 : w.cell? ⟨b, 28, none⟩ = some (.int .u64 s.rootPage.d1) := hc 28
  have k29 : w.cell? ⟨b, 29, none⟩ = some (.int .u64 s.rootPage.d2) := hc 29
  have k30 : w.cell? ⟨b, 30, none⟩ = some (.int .u64 s.rootPage.d3) := hc 30
  have k31 : w.cell? ⟨b, 31, none⟩ = some (.int .u64 s.rootPage.d4) := hc 31
  have k32 : w.cell? ⟨b, 32, none⟩ = some (.int .u64 s.rootPage.d5) := hc 32
  have k33 : w.cell? ⟨b, 33, none⟩ = some (.int .u64 s.rootPage.d6) := hc 33
  clear h hc hf hrp hlk hqo hqv hql hqh hqd ha hrl
  unfold Bt.Entry.cells
  go_enter Tryz.func183, Tryz.ntmps183
  go_wp2_with fail
  go_at_call 62; refine (Locked_any s.rootPage HRP.out _).mono ?_; rintro e w1 ⟨rfl, hb⟩; rw [HLK.out]; ((obtain ⟨hc1, hf1, hs1⟩ := qR hb); (try have := qN0 w w1); (try have := qN1 w w1))
  have HB := hid hb
  go_wp2_with fail
  go_at_call 191; refine (fresh_one A op known vf vk s b _ [] _ ?hrun ?hlow p q rest HF.out HA.out (by simp) (World.ownsRow_nil _ _ _ _)).mono ?_
  case hrun => exact HR.out.below qL
  case hlow => exact fun c hc => by have := hA c hc; omega
  rintro e1 w2 ⟨hrun2, ho2, rfl⟩
  have HR2 := hid hrun2
  clear hrun2
  ((obtain ⟨hc2, hf2, hs2⟩ := qO ho2); (try have := qN0 w w2); (try have := qN1 w w2); (try have := qN0 w1 w2))
  simp only [Option.getD_some, Option.isSome_some, HQ.out]
  obtain ⟨un, uw, ue, uc, hc⟩ := HR2.out.cells
  have j25 : w2.cell? ⟨b, 25, none⟩ = some (.int .i64 s.rootPage.line) := hc 25
  have j26 : w2.cell? ⟨b, 26, none⟩ = some (.int .u64 s.rootPage.head) := hc 26
  have j27 : w2.cell? ⟨b, 27, none⟩ = some (.int .u64 s.rootPage.d0) := hc 27
  have j28 : w2.cell? ⟨b, 28, none⟩ = some (.int .u64 s.rootPage.d1) := hc 28
  have j29 : w2.cell? ⟨b, 29, none⟩ = some (.int .u64 s.rootPage.d2) := hc 29
  have j30 : w2.cell? ⟨b, 30, none⟩ = some (.int .u64 s.rootPage.d3) := hc 30
  have j31 : w2.cell? ⟨b, 31, none⟩ = some (.int .u64 s.rootPage.d4) := hc 31
  have j32 : w2.cell? ⟨b, 32, none⟩ = some (.int .u64 s.rootPage.d5) := hc 32
  have j33 : w2.cell? ⟨b, 33, none⟩ = some (.int .u64 s.rootPage.d6) := hc 33
  have hq0 : b < w2.heap.size := by omega
  have hq1 : b < w2.heap.size + 1 := by omega
  have hq2 : b < w2.heap.size + 1 + 1 := by omega
  have hq3 : b < w2.heap.size + 1 + 1 + 1 := by omega
  clear hc
  have HN2 : Hid (NoneAt w2) := hid (by obtain ⟨vn, vw, ve, vc, hr, _⟩ := HR2.out; exact hr.none)
  have HWC := HRC (Bt.writeRoot s.rootPage (Bt.at_ q) 0)
  go_wp2_with fail
  go_cut [7] (PlantCut (Bt.writeRoot s.rootPage (Bt.at_ q) 0) q e w2)
  case first =>
    refine qA fun hSt => ?_
    refine qS [0, 1, 2, 3, 4] ?_
    iterate 5 (refine qT ?_; simp only [Act.put, qY])
    refine TakeSeq.done ?_
    refine wpAnyH_ready (rs := [5, 10]) (by kernel_rfl) (by simp) ?_
    refine AllReadyH.cons rfl (fun K hK => ?_) (AllReadyH.cons rfl (fun K hK => ?_) (AllReadyH.nil))
    · skip
      rw [if_pos (by rfl)]
      go_simp
      go_at_call 110; refine (At_any q HQO.out _).mono ?_; rintro e3 w3 ⟨rfl, hb3⟩; ((obtain ⟨hc3, hf3, hs3⟩ := qR hb3); (try have := qN0 w2 w3); (try have := qN1 w2 w3); (try have := qN2 w2 w3); (try have := qN3 w2 w3))
      go_wp2_with fail
      refine hK.out _ _ (SteadyAll.of qL) (fun hHeld => ?_)
      clear hK K
      refine wpAnyH_ready (rs := [6, 10]) (by kernel_rfl) (by simp) ?_
      refine AllReadyH.cons rfl (fun K hK => ?_) (AllReadyH.cons rfl (fun K hK => ?_) (AllReadyH.nil))
      · skip
        rw [if_pos (by rfl)]
        go_simp
        go_at_call 192; refine (WriteRoot_any s.rootPage (Bt.at_ q) 0 HRL.out HVR.out _ ?hng).mono ?_; (case hng => exact HN2.out.below qL); rintro e4 w4 ⟨rfl, hb4⟩; rw [HWC.out]; ((obtain ⟨hc4, hf4, hs4⟩ := qR hb4); (try have := qN0 w2 w4); (try have := qN1 w2 w4); (try have := qN2 w2 w4); (try have := qN3 w2 w4); (try have := qN0 w3 w4))
        go_wp2_with fail
        refine hK.out _ _ (SteadyAll.of qL) (fun hHeld => ?_)
        clear hK K
        refine qS [7, 8, 9] ?_
        iterate 3 (refine qT ?_; simp only [Act.put, qY])
        refine TakeSeq.done ?_
        refine qH 10 fun K hK => ?_
        go_simp
        refine hK.out _ _ (SteadyAll.of qL) (fun hHeld => ?_)
        clear hK K
        refine qH 11 fun K hK => ?_
        go_simp
        refine hK.out _ _ (SteadyAll.of qL) (fun hHeld => ?_)
        clear hK K
        refine qS [12] ?_
        refine qT ?_; simp only [Act.put, qY]
        refine TakeSeq.done ?_
        refine qD ?_ _
        go_wp2_with fail
        have BQ : Blk (w2.alloc (.cells #[.int .i64 q.line, .int .u64 q.head, .int .u64 q.d0, .int .u64 q.d1, .int .u64 q.d2, .int .u64 q.d3, .int .u64 q.d4, .int .u64 q.d5, .int .u64 q.d6] 75)) w2.heap.size 75 q.cells := Blk.made _ _ _
        have BE : Blk ((w2.alloc (.cells #[.int .i64 q.line, .int .u64 q.head, .int .u64 q.d0, .int .u64 q.d1, .int .u64 q.d2, .int .u64 q.d3, .int .u64 q.d4, .int .u64 q.d5, .int .u64 q.d6] 75)).alloc (.cells #[.int .u32 e.key, .int .i64 e.to.line, .int .i64 e.to.gen] 173)) (w2.heap.size + 1) 173 e.cells := made22 _
        have BN : Blk (((w2.alloc (.cells #[.int .i64 q.line, .int .u64 q.head, .int .u64 q.d0, .int .u64 q.d1, .int .u64 q.d2, .int .u64 q.d3, .int .u64 q.d4, .int .u64 q.d5, .int .u64 q.d6] 75)).alloc (.cells #[.int .u32 e.key, .int .i64 e.to.line, .int .i64 e.to.gen] 173)).alloc (.cells #[.int .i64 0, .bool true, .bool false, .int .u32 4294967295, .int .i64 0, .int .i64 0, .slice (some ⟨w2.heap.size + 1, 0, none⟩) 1 1] 308)) (w2.heap.size + 1 + 1) 308 (nodeCells (plantLeaf e) (.slice (some ⟨w2.heap.size + 1, 0, none⟩) 1 1)) := made33 _
        go_meet
        exact ⟨_, rfl, by omega, Blk.made _ _ _, by (repeat (first | with_reducible exact BQ | with_reducible apply Blk.put | with_reducible apply Blk.alloc | (with_reducible apply Blk.aside; (case hp => first | (simp; done) | (simp; omega))) | with_reducible apply Blk.drew | with_reducible refine Blk.kept ?_ (by assumption))), by (repeat (first | with_reducible exact BE | with_reducible apply Blk.put | with_reducible apply Blk.alloc | (with_reducible apply Blk.aside; (case hp => first | (simp; done) | (simp; omega))) | with_reducible apply Blk.drew | with_reducible refine Blk.kept ?_ (by assumption))), by (repeat (first | with_reducible exact BN | with_reducible apply Blk.put | with_reducible apply Blk.alloc | (with_reducible apply Blk.aside; (case hp => first | (simp; done) | (simp; omega))) | with_reducible apply Blk.drew | with_reducible refine Blk.kept ?_ (by assumption))), qL⟩
      · skip
        rw [if_pos (by rfl)]
        go_simp
        refine hK.out _ _ (SteadyAll.of qL) (fun hHeld => ?_)
        clear hK K
        refine qH 6 fun K hK => ?_
        go_simp
        go_at_call 192; refine (WriteRoot_any s.rootPage (Bt.at_ q) 0 HRL.out HVR.out _ ?hng).mono ?_; (case hng => exact HN2.out.below qL); rintro e4 w4 ⟨rfl, hb4⟩; rw [HWC.out]; ((obtain ⟨hc4, hf4, hs4⟩ := qR hb4); (try have := qN0 w2 w4); (try have := qN1 w2 w4); (try have := qN2 w2 w4); (try have := qN3 w2 w4); (try have := qN0 w3 w4))
        go_wp2_with fail
        refine hK.out _ _ (SteadyAll.of qL) (fun hHeld => ?_)
        clear hK K
        refine qS [7, 8, 9] ?_
        iterate 3 (refine qT ?_; simp only [Act.put, qY])
        refine TakeSeq.done ?_
        refine qH 11 fun K hK => ?_
        go_simp
        refine hK.out _ _ (SteadyAll.of qL) (fun hHeld => ?_)
        clear hK K
        refine qS [12] ?_
        refine qT ?_; simp only [Act.put, qY]
        refine TakeSeq.done ?_
        refine qD ?_ _
        go_wp2_with fail
        have BQ : Blk (w2.alloc (.cells #[.int .i64 q.line, .int .u64 q.head, .int .u64 q.d0, .int .u64 q.d1, .int .u64 q.d2, .int .u64 q.d3, .int .u64 q.d4, .int .u64 q.d5, .int .u64 q.d6] 75)) w2.heap.size 75 q.cells := Blk.made _ _ _
        have BE : Blk ((w2.alloc (.cells #[.int .i64 q.line, .int .u64 q.head, .int .u64 q.d0, .int .u64 q.d1, .int .u64 q.d2, .int .u64 q.d3, .int .u64 q.d4, .int .u64 q.d5, .int .u64 q.d6] 75)).alloc (.cells #[.int .u32 e.key, .int .i64 e.to.line, .int .i64 e.to.gen] 173)) (w2.heap.size + 1) 173 e.cells := made22 _
        have BN : Blk (((w2.alloc (.cells #[.int .i64 q.line, .int .u64 q.head, .int .u64 q.d0, .int .u64 q.d1, .int .u64 q.d2, .int .u64 q.d3, .int .u64 q.d4, .int .u64 q.d5, .int .u64 q.d6] 75)).alloc (.cells #[.int .u32 e.key, .int .i64 e.to.line, .int .i64 e.to.gen] 173)).alloc (.cells #[.int .i64 0, .bool true, .bool false, .int .u32 4294967295, .int .i64 0, .int .i64 0, .slice (some ⟨w2.heap.size + 1, 0, none⟩) 1 1] 308)) (w2.heap.size + 1 + 1) 308 (nodeCells (plantLeaf e) (.slice (some ⟨w2.heap.size + 1, 0, none⟩) 1 1)) := made33 _
        have BG0 := (Blk.made w3 75 #[.int .i64 0, .int .u64 0, .int .u64 0, .int .u64 0, .int .u64 0, .int .u64 0, .int .u64 0, .int .u64 0, .int .u64 0]).kept hb4
        go_meet
        exact ⟨_, rfl, by omega, Blk.cast (by have B := BG0; exact qK) (by rw [set9]; rfl), by (repeat (first | with_reducible exact BQ | with_reducible apply Blk.put | with_reducible apply Blk.alloc | (with_reducible apply Blk.aside; (case hp => first | (simp; done) | (simp; omega))) | with_reducible apply Blk.drew | with_reducible refine Blk.kept ?_ (by assumption))), by (repeat (first | with_reducible exact BE | with_reducible apply Blk.put | with_reducible apply Blk.alloc | (with_reducible apply Blk.aside; (case hp => first | (simp; done) | (simp; omega))) | with_reducible apply Blk.drew | with_reducible refine Blk.kept ?_ (by assumption))), by (repeat (first | with_reducible exact BN | with_reducible apply Blk.put | with_reducible apply Blk.alloc | (with_reducible apply Blk.aside; (case hp => first | (simp; done) | (simp; omega))) | with_reducible apply Blk.drew | with_reducible refine Blk.kept ?_ (by assumption))), qL⟩
    · skip
      rw [if_pos (by rfl)]
      go_simp
      refine hK.out _ _ (SteadyAll.of qL) (fun hHeld => ?_)
      clear hK K
      refine qH 5 fun K hK => ?_
      go_simp
      go_at_call 110; refine (At_any q HQO.out _).mono ?_; rintro e3 w3 ⟨rfl, hb3⟩; ((obtain ⟨hc3, hf3, hs3⟩ := qR hb3); (try have := qN0 w2 w3); (try have := qN1 w2 w3); (try have := qN2 w2 w3); (try have := qN3 w2 w3))
      go_wp2_with fail
      refine hK.out _ _ (SteadyAll.of qL) (fun hHeld => ?_)
      clear hK K
      refine qH 6 fun K hK => ?_
      go_simp
      go_at_call 192; refine (WriteRoot_any s.rootPage (Bt.at_ q) 0 HRL.out HVR.out _ ?hng).mono ?_; (case hng => exact HN2.out.below qL); rintro e4 w4 ⟨rfl, hb4⟩; rw [HWC.out]; ((obtain ⟨hc4, hf4, hs4⟩ := qR hb4); (try have := qN0 w2 w4); (try have := qN1 w2 w4); (try have := qN2 w2 w4); (try have := qN3 w2 w4); (try have := qN0 w3 w4))
      go_wp2_with fail
      refine hK.out _ _ (SteadyAll.of qL) (fun hHeld => ?_)
      clear hK K
      refine qS [7, 8, 9] ?_
      iterate 3 (refine qT ?_; simp only [Act.put, qY])
      refine TakeSeq.done ?_
      refine qH 11 fun K hK => ?_
      go_simp
      refine hK.out _ _ (SteadyAll.of qL) (fun hHeld => ?_)
      clear hK K
      refine qS [12] ?_
      refine qT ?_; simp only [Act.put, qY]
      refine TakeSeq.done ?_
      refine qD ?_ _
      go_wp2_with fail
      have BQ : Blk (w2.alloc (.cells #[.int .i64 q.line, .int .u64 q.head, .int .u64 q.d0, .int .u64 q.d1, .int .u64 q.d2, .int .u64 q.d3, .int .u64 q.d4, .int .u64 q.d5, .int .u64 q.d6] 75)) w2.heap.size 75 q.cells := Blk.made _ _ _
      have BE : Blk ((w2.alloc (.cells #[.int .i64 q.line, .int .u64 q.head, .int .u64 q.d0, .int .u64 q.d1, .int .u64 q.d2, .int .u64 q.d3, .int .u64 q.d4, .int .u64 q.d5, .int .u64 q.d6] 75)).alloc (.cells #[.int .u32 e.key, .int .i64 e.to.line, .int .i64 e.to.gen] 173)) (w2.heap.size + 1) 173 e.cells := made22 _
      have BN : Blk (((w2.alloc (.cells #[.int .i64 q.line, .int .u64 q.head, .int .u64 q.d0, .int .u64 q.d1, .int .u64 q.d2, .int .u64 q.d3, .int .u64 q.d4, .int .u64 q.d5, .int .u64 q.d6] 75)).alloc (.cells #[.int .u32 e.key, .int .i64 e.to.line, .int .i64 e.to.gen] 173)).alloc (.cells #[.int .i64 0, .bool true, .bool false, .int .u32 4294967295, .int .i64 0, .int .i64 0, .slice (some ⟨w2.heap.size + 1, 0, none⟩) 1 1] 308)) (w2.heap.size + 1 + 1) 308 (nodeCells (plantLeaf e) (.slice (some ⟨w2.heap.size + 1, 0, none⟩) 1 1)) := made33 _
      have BG0 := (Blk.kept (b := w2.heap.size + 1 + 1 + 1) (t := 75) (cs := #[.int .i64 0, .int .u64 0, .int .u64 0, .int .u64 0, .int .u64 0, .int .u64 0, .int .u64 0, .int .u64 0, .int .u64 0]) (Blk.drew (made44 w2)) hb3).kept hb4
      go_meet
      exact ⟨_, rfl, by omega, Blk.cast (by have B := BG0; exact qK) (by rw [set9]; rfl), by (repeat (first | with_reducible exact BQ | with_reducible apply Blk.put | with_reducible apply Blk.alloc | (with_reducible apply Blk.aside; (case hp => first | (simp; done) | (simp; omega))) | with_reducible apply Blk.drew | with_reducible refine Blk.kept ?_ (by assumption))), by (repeat (first | with_reducible exact BE | with_reducible apply Blk.put | with_reducible apply Blk.alloc | (with_reducible apply Blk.aside; (case hp => first | (simp; done) | (simp; omega))) | with_reducible apply Blk.drew | with_reducible refine Blk.kept ?_ (by assumption))), by (repeat (first | with_reducible exact BN | with_reducible apply Blk.put | with_reducible apply Blk.alloc | (with_reducible apply Blk.aside; (case hp => first | (simp; done) | (simp; omega))) | with_reducible apply Blk.drew | with_reducible refine Blk.kept ?_ (by assumption))), qL⟩
  case rest =>
    obtain ⟨G, rfl, hG, BG, BQ, BE, BN, hbc⟩ := hcut
    have HBG := hid BG
    have HBE := hid BE
    have HBN := hid BN
    have gG := BG.cell
    rw [HWC.out] at gG
    have gQ := BQ.cell
    rw [HQ.out] at gQ
    have gN : ∀ i, wc.cell? ⟨w2.heap.size + 1 + 1, i, none⟩ = (#[.int .i64 0, .bool true, .bool false, .int .u32 4294967295, .int .i64 0, .int .i64 0, .slice (some ⟨w2.heap.size + 1, 0, none⟩) 1 1] : Array Value)[i]? := BN.cell
    have hGc : G < wc.heap.size := BG.lt
    have hNc : w2.heap.size + 1 + 1 < wc.heap.size := BN.lt
    have hsz2 := hbc.size
    have hQc : w2.heap.size < wc.heap.size := BQ.lt
    have HFC := HRC ((plantLeaf e).fill q)
    have HER : Hid (EntRow wc (.slice (some ⟨w2.heap.size + 1, 0, none⟩) 1 1) (plantLeaf e).entries) := hid ⟨by intro e1 he1; simp [plantLeaf] at he1; subst he1; exact hek, by simp [plantLeaf, maxLen], .inr ⟨w2.heap.size + 1, 0, 1, rfl, BE.lt, by
      intro i p hi j u hu
      match i with
      | 0 =>
        obtain rfl : e = p := by simpa [plantLeaf] using hi
        rw [BE.cell]
        simpa using hu
      | i + 1 => simp [plantLeaf] at hi⟩⟩
    have hp1 : b < G := by omega
    have hp2 : b < w2.heap.size + 1 + 1 := by omega
    have HBC := hid hbc
    have hq4 : b < wc.heap.size := by omega
    clear BG BQ BE BN hbc
    have HR2N : Hid (IsRun (New A w) op known vf vk s b w2) := hid (HR2.out.imp (fun c hc => .inl hc))
    go_wp2_with fail
    refine qB (b) fun hSt => ?_
    refine qS [0, 1, 2, 3] ?_
    iterate 4 (refine qT ?_; simp only [Act.put, qY])
    refine TakeSeq.done ?_
    refine qH 4 fun K hK => ?_
    go_simp
    go_at_call 194; refine (fill_any (plantLeaf e) _ q HQO.out HNO.out _ ?hpf).mono ?_; (case hpf => exact HER.out.below qL); rintro e5 w5 ⟨rfl, hb5⟩; rw [HFC.out]; ((obtain ⟨hc5, hf5, hs5⟩ := qR hb5); (try have := qN0 wc w5))
    go_wp2_with fail
    refine hK.out _ _ (SteadyBut.of qL) (fun hHeld => ?_)
    clear hK K
    refine qH 5 fun K hK => ?_
    go_simp
    refine hK.out _ _ (SteadyBut.of qL) (fun hHeld => ?_)
    clear hK K
    refine qH 6 fun K hK => ?_
    go_simp
    have hbc := HBC.out; go_at_call 193; refine (done_none (New A w) op known vf vk s b [Bt.writeRoot s.rootPage (Bt.at_ q) 0, (plantLeaf e).fill q] w5.heap.size 2 2 _ ?hrun ?hw (.inr (by omega))).mono ?_; (case hrun => exact HR2N.out.below qL); (case hw => exact own_pages2 _ _ _ _ (by omega)); rintro e6 w6 ⟨rfl, hrun6, ho6⟩; have HR6 := hid hrun6; clear hrun6
    go_wp2_with fail
    refine hK.out _ _ (SteadyBut.over qV) (fun hHeld => ?_)
    clear hK K
    refine qD ?_ _
    go_wp2_with fail
    have hbc := HBC.out
    have hb := HB.out
    refine bodyPost_end (results_none rfl _ _ _) rfl ⟨rfl, ?_, qV⟩
    rw [HX.out]
    refine HR6.out.imp (fun c hc => ?_)
    rcases hc with h1 | h1
    · exact h1
    · exact .inr (by simp at h1; omega)
end Go.Proofs.YtcoiehgcfjfhaaaGreatDoor
