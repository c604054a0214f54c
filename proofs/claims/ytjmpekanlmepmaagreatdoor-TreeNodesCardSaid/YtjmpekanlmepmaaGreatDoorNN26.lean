/- Package bodegalaw24: an index, one operation with all pages known: it needs no fresh page. -/
import Derived.Test.YtjmpekanlmepmaaGreatDoorNN25
import Derived.Test.YtjmpekanlmepmaaGreatDoorNN14
set_option linter.all false
set_option maxRecDepth 20000
set_option maxHeartbeats 8000000
open Go.Lib (hid)
namespace Go.Proofs.YtjmpekanlmepmaaGreatDoor
open Go.RowKit
def ixCells (P n cap : Nat) (next : Int) (vk vt vg : Value) : Array Value := #[.slice (some ⟨P, 0, none⟩) n cap, .int .i64 next, vk, vt, vg]
structure PagesAt (P cap : Nat) (pages : List Bt.Page) (w : World) : Prop where
 row : PgRow w (.slice (some ⟨P, 0, none⟩) pages.length cap) pages
 free : ∀ i, w.frozen? ⟨P, i, none⟩ = false
 lt : P < w.heap.size
 blk : ∃ cs, Blk w P 25 cs
def up (x : Int) : Int := (x + 256) % 18446744073709551616
def bump (p : Bt.Page) : Bt.Page := { p with head := up p.head }
def applyWrite (pages : List Bt.Page) (p : Bt.Page) : List Bt.Page := pages.set (p.line - 96).toNat (bump p)
def applyWrites (pages ws : List Bt.Page) : List Bt.Page := ws.foldl applyWrite pages
theorem applyWrites_succ (pages ws : List Bt.Page) (k : Nat) (h : k < ws.length) : applyWrites pages (ws.take (k + 1)) = applyWrite (applyWrites pages (ws.take k)) ws[k] := by
 unfold applyWrites
 rw [List.take_succ_eq_append_getElem h, List.foldl_append]
 rfl
theorem applyWrites_length (pages ws : List Bt.Page) : (applyWrites pages ws).length = pages.length := by
 induction ws generalizing pages with
 | nil => rfl
 | cons p ws ih =>
   show (applyWrites (applyWrite pages p) ws).length = _
   rw [ih]; simp [applyWrite]
def WritesFit (pages ws : List Bt.Page) : Prop :=
 (∀ k (h : k < ws.length), 96 ≤ ws[k].line ∧ ws[k].line < 96 + pages.length ∧ (∃ q, (applyWrites pages (ws.take k))[(ws[k].line - 96).toNat]? = some q ∧ q.head = ws[k].head) ∧ ws[k].Ok) ∧
 ∀ k (h : k + 1 < ws.length), ws[k].line < ws[k + 1].line
def RunCut (writes : List Bt.Page) (o : Bt.Out) (w : World) (s6 s7 s8 s9 : Value) (wx : World) : Prop :=
 ∃ (vw ve vc : Value) (O : Nat), s6 = .slice none 0 0 ∧ vw = s7 ∧ s8 = .pointer (some ⟨O, 0, none⟩) ∧ s9 = .bool true ∧ w.heap.size ≤ O ∧ Blk wx O 63 (outCells o ve vc) ∧
  wx.ownsRow (w.heap.size + 1 + 1) 25 9 vw writes.length (pageCells writes) ∧ wx.ownsRow (w.heap.size + 1 + 1) 69 3 ve o.entries.length (entCells o.entries) ∧ wx.ownsRow (w.heap.size + 1 + 1) 3 1 vc o.check.length (intCells o.check) ∧ Blk wx (w.heap.size + 1) 63 #[.int .i64 0, .bool false, .bool false, .bool false, .bool false, .bool false, .bool false, .int .i64 0, .int .i64 0, .slice none 0 0, .slice none 0 0, .int .i64 0, .int .i64 0, .int .i64 0] ∧ Below w.heap.size w wx
def IxPost (x P cap : Nat) (pages : List Bt.Page) (next : Int) (vk vt vg : Value) (o : Bt.Out) (w : World) (e : Ending) (w' : World) : Prop :=
 ∃ ve vc, e = .returned (.tuple #[.agg (outCells o ve vc), .bool true]) ∧ Blk w' x 58 (ixCells P pages.length cap next vk vt vg) ∧ PagesAt P cap pages w' ∧ OverTwo x P w w' ∧ NoneAt w' ∧ w'.ownsRow w.heap.size 69 3 ve o.entries.length (entCells o.entries) ∧ w'.ownsRow w.heap.size 3 1 vc o.check.length (intCells o.check)
theorem OverTwo.single {x P : Nat} {w w' : World} (h : Over P w w') : OverTwo x P w w' := ⟨h.os, h.tape, h.output, h.size, fun j hj _ h2 => h.block j hj (by simpa using h2)⟩
theorem own_any {w : World} {base n size : Nat} {e : TypeId} {v : Value} {xs : List Value} (h : w.ownsRow base e size v n xs) : (n = 0 ∧ v = .slice none 0 0) ∨ ∃ g cap, v = .slice (some ⟨g, 0, none⟩) n cap := by
 rcases h.2 with ⟨rfl, h0⟩ | ⟨g, cap, _, rfl, _⟩
 ·exact .inl ⟨h0, rfl⟩
 ·exact .inr ⟨g, cap, rfl⟩
theorem pageCells_get (ps : List Bt.Page) (i : Nat) (p : Bt.Page) (h : ps[i]? = some p) (j : Nat) (u : Value) (hu : p.cells[j]? = some u) : (pageCells ps)[i * 9 + j]? = some u := by
 have hj : j < 9 := by have := (Array.getElem?_eq_some_iff.1 hu).1; simpa [Bt.Page.cells] using this
 induction ps generalizing i with
 | nil => simp at h
 | cons x ps ih =>
   cases i with
   | zero =>
     simp at h
     subst h
     simp only [pageCells, List.flatMap_cons, Nat.zero_mul, Nat.zero_add]
     rw [List.getElem?_append_left (by simp [Bt.Page.cells]; omega)]
     simpa using hu
   | succ i =>
     simp only [List.getElem?_cons_succ] at h
     have := ih i h
     simp only [pageCells, List.flatMap_cons]
     rw [List.getElem?_append_right (by simp [Bt.Page.cells]; omega)]
     have e1 : (i + 1) * 9 + j - x.cells.toList.length = i * 9 + j := by simp [Bt.Page.cells]; omega
     rw [e1]
     exact this
theorem own_page {w : World} {base g n cap k : Nat} {ps : List Bt.Page} (h : w.ownsRow base 25 9 (.slice (some ⟨g, 0, none⟩) n cap) n (pageCells ps)) (hk : k < ps.length) : w.rangeAt g (k * 9) ps[k].cells.toList := fun j u hu =>
 own_cells h _ _ (pageCells_get ps k ps[k] (List.getElem?_eq_getElem hk) j u (by simpa using hu))
theorem PagesAt.aside {P cap : Nat} {pages : List Bt.Page} {w : World} (h : PagesAt P cap pages w) {q : Addr} (hq : P ≠ q.block) (u : Value) : PagesAt P cap pages (w.setCell q u) := by
 have hb : (w.setCell q u).heap[P]? = w.heap[P]? := heap_setCell_other w q P u hq
 have hs : (w.setCell q u).heap.size = w.heap.size := by simp [World.setCell]
 refine ⟨⟨h.row.ok, h.row.len, ?_⟩, fun i => ?_, by rw [hs]; exact h.lt, by obtain ⟨cs, hc⟩ := h.blk; exact ⟨cs, hc.aside hq u⟩⟩
 ·rcases h.row.form with h1 | ⟨c, cp, hv, hlt, hcells⟩
  ·exact .inl h1
  ·refine .inr ⟨c, cp, hv, by rw [hs]; exact hlt, fun i p hi j v hv2 => ?_⟩
   simp only [Value.slice.injEq, Option.some.injEq, Addr.mk.injEq, and_true, true_and] at hv
   obtain ⟨rfl, rfl⟩ := hv
   have := hcells i p hi j v hv2
   simpa only [World.cell?, hb] using this
 ·have := h.free i
  simpa only [World.frozen?, hb] using this
theorem NoneAt.aside {w : World} (h : NoneAt w) {q : Addr} (hq : 0 < q.block) (u : Value) : NoneAt (w.setCell q u) := by
 have hb : (w.setCell q u).heap[0]? = w.heap[0]? := heap_setCell_other w q _ u (by omega)
 refine ⟨?_, ?_, by simpa [World.setCell] using h.lt⟩
 ·have := h.c0; simpa only [World.cell?, hb] using this
 ·have := h.c1; simpa only [World.cell?, hb] using this
theorem PagesAt.put14 {P cap g : Nat} {pages : List Bt.Page} {w : World} (h : PagesAt P cap pages w) (hg : P ≠ g) (v0 v1 v2 v3 v4 v5 v6 v7 v8 v9 v10 v11 v12 v13 : Value) : PagesAt P cap pages ((((((((((((((w.setCell ⟨g, 0, none⟩ v0).setCell ⟨g, 1, none⟩ v1).setCell ⟨g, 2, none⟩ v2).setCell ⟨g, 3, none⟩ v3).setCell ⟨g, 4, none⟩ v4).setCell ⟨g, 5, none⟩ v5).setCell ⟨g, 6, none⟩ v6).setCell ⟨g, 7, none⟩ v7).setCell ⟨g, 8, none⟩ v8).setCell ⟨g, 9, none⟩ v9).setCell ⟨g, 10, none⟩ v10).setCell ⟨g, 11, none⟩ v11).setCell ⟨g, 12, none⟩ v12).setCell ⟨g, 13, none⟩ v13) := (PagesAt.aside (PagesAt.aside (PagesAt.aside (PagesAt.aside (PagesAt.aside (PagesAt.aside (PagesAt.aside (PagesAt.aside (PagesAt.aside (PagesAt.aside (PagesAt.aside (PagesAt.aside (PagesAt.aside (PagesAt.aside h (q := ⟨g, 0, none⟩) hg v0) (q := ⟨g, 1, none⟩) hg v1) (q := ⟨g, 2, none⟩) hg v2) (q := ⟨g, 3, none⟩) hg v3) (q := ⟨g, 4, none⟩) hg v4) (q := ⟨g, 5, none⟩) hg v5) (q := ⟨g, 6, none⟩) hg v6) (q := ⟨g, 7, none⟩) hg v7) (q := ⟨g, 8, none⟩) hg v8) (q := ⟨g, 9, none⟩) hg v9) (q := ⟨g, 10, none⟩) hg v10) (q := ⟨g, 11, none⟩) hg v11) (q := ⟨g, 12, none⟩) hg v12) (q := ⟨g, 13, none⟩) hg v13)
theorem NoneAt.put14 {g : Nat} {w : World} (h : NoneAt w) (hg : 0 < g) (v0 v1 v2 v3 v4 v5 v6 v7 v8 v9 v10 v11 v12 v13 : Value) : NoneAt ((((((((((((((w.setCell ⟨g, 0, none⟩ v0).setCell ⟨g, 1, none⟩ v1).setCell ⟨g, 2, none⟩ v2).setCell ⟨g, 3, none⟩ v3).setCell ⟨g, 4, none⟩ v4).setCell ⟨g, 5, none⟩ v5).setCell ⟨g, 6, none⟩ v6).setCell ⟨g, 7, none⟩ v7).setCell ⟨g, 8, none⟩ v8).setCell ⟨g, 9, none⟩ v9).setCell ⟨g, 10, none⟩ v10).setCell ⟨g, 11, none⟩ v11).setCell ⟨g, 12, none⟩ v12).setCell ⟨g, 13, none⟩ v13) := (NoneAt.aside (NoneAt.aside (NoneAt.aside (NoneAt.aside (NoneAt.aside (NoneAt.aside (NoneAt.aside (NoneAt.aside (NoneAt.aside (NoneAt.aside (NoneAt.aside (NoneAt.aside (NoneAt.aside (NoneAt.aside h (q := ⟨g, 0, none⟩) hg v0) (q := ⟨g, 1, none⟩) hg v1) (q := ⟨g, 2, none⟩) hg v2) (q := ⟨g, 3, none⟩) hg v3) (q := ⟨g, 4, none⟩) hg v4) (q := ⟨g, 5, none⟩) hg v5) (q := ⟨g, 6, none⟩) hg v6) (q := ⟨g, 7, none⟩) hg v7) (q := ⟨g, 8, none⟩) hg v8) (q := ⟨g, 9, none⟩) hg v9) (q := ⟨g, 10, none⟩) hg v10) (q := ⟨g, 11, none⟩) hg v11) (q := ⟨g, 12, none⟩) hg v12) (q := ⟨g, 13, none⟩) hg v13)
theorem PagesAt.row_at {P cap k : Nat} {pages : List Bt.Page} {w : World} (h : PagesAt P cap pages w) (hk : k < pages.length) : w.rangeAt P (k * 9) pages[k].cells.toList := by
 rcases h.row.form with ⟨h1, _⟩ | ⟨c, cp, hv, hlt, hcells⟩
 ·simp at h1
 ·simp only [Value.slice.injEq, Option.some.injEq, Addr.mk.injEq, and_true, true_and] at hv
  obtain ⟨rfl, rfl⟩ := hv
  exact page_cells hcells k hk
theorem PagesAt.drew {P cap : Nat} {pages : List Bt.Page} {w : World} (h : PagesAt P cap pages w) : PagesAt P cap pages w.drew := ⟨h.row.below (Below.refl _ _).drew, h.free, h.lt, h.blk⟩
theorem PagesAt.write {P cap a : Nat} {pages : List Bt.Page} {w : World} (h : PagesAt P cap pages w) (ha : a < pages.length) (p : Bt.Page) (hp : p.Ok) : PagesAt P cap (pages.set a (bump p)) ((((((((((w.setCell ⟨P, a * 9, none⟩ (.int .i64 p.line)).setCell ⟨P, a * 9 + 1, none⟩ (.int .u64 p.head)).setCell ⟨P, a * 9 + 2, none⟩ (.int .u64 p.d0)).setCell ⟨P, a * 9 + 3, none⟩ (.int .u64 p.d1)).setCell ⟨P, a * 9 + 4, none⟩ (.int .u64 p.d2)).setCell ⟨P, a * 9 + 5, none⟩ (.int .u64 p.d3)).setCell ⟨P, a * 9 + 6, none⟩ (.int .u64 p.d4)).setCell ⟨P, a * 9 + 7, none⟩ (.int .u64 p.d5)).setCell ⟨P, a * 9 + 8, none⟩ (.int .u64 p.d6)).setCell ⟨P, a * 9 + 1, none⟩ (.int .u64 (up p.head))) := by
 obtain ⟨cs, hc⟩ := h.blk
 have hr := h.row_at ha
 have hlt : a * 9 + 8 < cs.size := by
  have := hr 8 (.int .u64 pages[a].d6) rfl
  rw [hc.cell] at this
  exact (Array.getElem?_eq_some_iff.1 this).1
 have hb := ((((((((((hc.put (a * 9) (.int .i64 p.line)).put (a * 9 + 1) (.int .u64 p.head)).put (a * 9 + 2) (.int .u64 p.d0)).put (a * 9 + 3) (.int .u64 p.d1)).put (a * 9 + 4) (.int .u64 p.d2)).put (a * 9 + 5) (.int .u64 p.d3)).put (a * 9 + 6) (.int .u64 p.d4)).put (a * 9 + 7) (.int .u64 p.d5)).put (a * 9 + 8) (.int .u64 p.d6)).put (a * 9 + 1) (.int .u64 (up p.head)))
 refine ⟨⟨fun q hq => ?_, by simpa using h.row.len, .inr ⟨P, cap, by simp, hb.lt, fun i q hi j u hu => ?_⟩⟩, hb.free, hb.lt, ⟨_, hb⟩⟩
 ·rcases List.mem_or_eq_of_mem_set hq with h1 | rfl
  ·exact h.row.ok q h1
  ·exact ⟨⟨Int.emod_nonneg _ (by omega), Int.emod_lt_of_pos _ (by omega)⟩, hp.d0, hp.d1, hp.d2, hp.d3, hp.d4, hp.d5, hp.d6⟩
 ·have hj : j < 9 := by have := (Array.getElem?_eq_some_iff.1 hu).1; simpa [Bt.Page.cells] using this
  rw [hb.cell]
  by_cases hia : i = a
  ·subst hia
   rw [List.getElem?_set_self ha] at hi
   obtain rfl := Option.some.inj hi
   match j, hj with
   | 0, _ =>
     simp only [Array.getElem?_setIfInBounds]
     rw [← hu]
     simp [bump, Bt.Page.cells]
     try omega
   | 1, _ =>
     simp only [Array.getElem?_setIfInBounds]
     rw [← hu]
     simp [bump, Bt.Page.cells]
     try omega
   | 2, _ =>
     simp only [Array.getElem?_setIfInBounds]
     rw [← hu]
     simp [bump, Bt.Page.cells]
     try omega
   | 3, _ =>
     simp only [Array.getElem?_setIfInBounds]
     rw [← hu]
     simp [bump, Bt.Page.cells]
     try omega
   | 4, _ =>
     simp only [Array.getElem?_setIfInBounds]
     rw [← hu]
     simp [bump, Bt.Page.cells]
     try omega
   | 5, _ =>
     simp only [Array.getElem?_setIfInBounds]
     rw [← hu]
     simp [bump, Bt.Page.cells]
     try omega
   | 6, _ =>
     simp only [Array.getElem?_setIfInBounds]
     rw [← hu]
     simp [bump, Bt.Page.cells]
     try omega
   | 7, _ =>
     simp only [Array.getElem?_setIfInBounds]
     rw [← hu]
     simp [bump, Bt.Page.cells]
     try omega
   | 8, _ =>
     simp only [Array.getElem?_setIfInBounds]
     rw [← hu]
     simp [bump, Bt.Page.cells]
     try omega
  ·rw [List.getElem?_set_ne (Ne.symm hia)] at hi
   have hil : i < pages.length := (List.getElem?_eq_some_iff.1 hi).1
   have h1 := h.row_at hil j u (by rw [List.getElem?_eq_getElem hil] at hi; rw [Option.some.inj hi]; simpa using hu)
   rw [hc.cell] at h1
   rw [← h1]
   simp only [Array.getElem?_setIfInBounds]
   repeat rw [if_neg (by omega)]
theorem own_put10 {w : World} {base n size : Nat} {e : TypeId} {v : Value} {xs : List Value} (h : w.ownsRow base e size v n xs) {P a : Nat} (hP : P < base) (v0 v1 v2 v3 v4 v5 v6 v7 v8 v9 : Value) : ((((((((((w.setCell ⟨P, a * 9, none⟩ v0).setCell ⟨P, a * 9 + 1, none⟩ v1).setCell ⟨P, a * 9 + 2, none⟩ v2).setCell ⟨P, a * 9 + 3, none⟩ v3).setCell ⟨P, a * 9 + 4, none⟩ v4).setCell ⟨P, a * 9 + 5, none⟩ v5).setCell ⟨P, a * 9 + 6, none⟩ v6).setCell ⟨P, a * 9 + 7, none⟩ v7).setCell ⟨P, a * 9 + 8, none⟩ v8).setCell ⟨P, a * 9 + 1, none⟩ v9).ownsRow base e size v n xs := (own_aside (own_aside (own_aside (own_aside (own_aside (own_aside (own_aside (own_aside (own_aside (own_aside h (p := ⟨P, a * 9, none⟩) hP v0) (p := ⟨P, a * 9 + 1, none⟩) hP v1) (p := ⟨P, a * 9 + 2, none⟩) hP v2) (p := ⟨P, a * 9 + 3, none⟩) hP v3) (p := ⟨P, a * 9 + 4, none⟩) hP v4) (p := ⟨P, a * 9 + 5, none⟩) hP v5) (p := ⟨P, a * 9 + 6, none⟩) hP v6) (p := ⟨P, a * 9 + 7, none⟩) hP v7) (p := ⟨P, a * 9 + 8, none⟩) hP v8) (p := ⟨P, a * 9 + 1, none⟩) hP v9)
structure RunSt (x P cap R O : Nat) (pages : List Bt.Page) (next : Int) (vk vt vg : Value) (ws : List Bt.Page) (o : Bt.Out) (vw ve vc : Value) (w : World) (k : Nat) (wr : World) : Prop where
 blkx : Blk wr x 58 #[.slice (some ⟨P, 0, none⟩) pages.length cap, .int .i64 next, vk, vt, vg]
 pg : PagesAt P cap (applyWrites pages (ws.take k)) wr
 own : wr.ownsRow (R + 1) 25 9 vw ws.length (pageCells ws)
 blkO : Blk wr O 63 (outCells o ve vc)
 blkR : Blk wr R 63 #[.int .i64 0, .bool false, .bool false, .bool false, .bool false, .bool false, .bool false, .int .i64 0, .int .i64 0, .slice none 0 0, .slice none 0 0, .int .i64 0, .int .i64 0, .int .i64 0]
 none : NoneAt wr
 over : Over P w wr
 rowe : wr.ownsRow (R + 1) 69 3 ve o.entries.length (entCells o.entries)
 rowc : wr.ownsRow (R + 1) 3 1 vc o.check.length (intCells o.check)
theorem RunSt.drewN {x P cap R O : Nat} {pages : List Bt.Page} {next : Int} {vk vt vg : Value} {ws : List Bt.Page} {o : Bt.Out} {vw ve vc : Value} {w wr : World} {k : Nat} (h : RunSt x P cap R O pages next vk vt vg ws o vw ve vc w k wr) (n : Nat) : RunSt x P cap R O pages next vk vt vg ws o vw ve vc w k (wr.drewN n) :=
 ⟨h.blkx, ⟨h.pg.row.below (below_drewN (Below.refl _ _) n), h.pg.free, h.pg.lt, h.pg.blk⟩, h.own, h.blkO, h.blkR, h.none.below (below_drewN (Below.refl _ _) n), h.over.then_below (below_drewN (Below.refl _ _) n), h.rowe, h.rowc⟩
theorem runSt_step {x P cap R O : Nat} {pages : List Bt.Page} {next : Int} {vk vt vg : Value} {ws : List Bt.Page} {o : Bt.Out} {vw ve vc : Value} {w wz : World} {k : Nat} (h : RunSt x P cap R O pages next vk vt vg ws o vw ve vc w k wz)
 (hk : k < ws.length) (p : Bt.Page) (hp : p = ws[k]) (a : Nat) (ha : p.line = 96 + a) (hal : a < pages.length) (hok : p.Ok) (hPx : P < x) (hO : P < O) (hR : P < R) (hgP : 0 < P) :
 RunSt x P cap R O pages next vk vt vg ws o vw ve vc w (k + 1) ((((((((((wz.setCell ⟨P, a * 9, none⟩ (.int .i64 p.line)).setCell ⟨P, a * 9 + 1, none⟩ (.int .u64 p.head)).setCell ⟨P, a * 9 + 2, none⟩ (.int .u64 p.d0)).setCell ⟨P, a * 9 + 3, none⟩ (.int .u64 p.d1)).setCell ⟨P, a * 9 + 4, none⟩ (.int .u64 p.d2)).setCell ⟨P, a * 9 + 5, none⟩ (.int .u64 p.d3)).setCell ⟨P, a * 9 + 6, none⟩ (.int .u64 p.d4)).setCell ⟨P, a * 9 + 7, none⟩ (.int .u64 p.d5)).setCell ⟨P, a * 9 + 8, none⟩ (.int .u64 p.d6)).setCell ⟨P, a * 9 + 1, none⟩ (.int .u64 (up p.head))).drew := by
 have hxP : x ≠ P := by omega
 have hOP : O ≠ P := by omega
 have hRP : R ≠ P := by omega
 have hvP : vw.ownBlock ≠ some P := own_not h.own (by omega)
 have hpg := PagesAt.write h.pg (a := a) (by rw [applyWrites_length]; exact hal) p hok
 refine ⟨Blk.drew ((((((((((h.blkx.aside (p := ⟨P, a * 9, none⟩) hxP (.int .i64 p.line)).aside (p := ⟨P, a * 9 + 1, none⟩) hxP (.int .u64 p.head)).aside (p := ⟨P, a * 9 + 2, none⟩) hxP (.int .u64 p.d0)).aside (p := ⟨P, a * 9 + 3, none⟩) hxP (.int .u64 p.d1)).aside (p := ⟨P, a * 9 + 4, none⟩) hxP (.int .u64 p.d2)).aside (p := ⟨P, a * 9 + 5, none⟩) hxP (.int .u64 p.d3)).aside (p := ⟨P, a * 9 + 6, none⟩) hxP (.int .u64 p.d4)).aside (p := ⟨P, a * 9 + 7, none⟩) hxP (.int .u64 p.d5)).aside (p := ⟨P, a * 9 + 8, none⟩) hxP (.int .u64 p.d6)).aside (p := ⟨P, a * 9 + 1, none⟩) hxP (.int .u64 (up p.head))), ?_, own_drew (own_set (own_set (own_set (own_set (own_set (own_set (own_set (own_set (own_set (own_set h.own (p := ⟨P, a * 9, none⟩) hvP (.int .i64 p.line)) (p := ⟨P, a * 9 + 1, none⟩) hvP (.int .u64 p.head)) (p := ⟨P, a * 9 + 2, none⟩) hvP (.int .u64 p.d0)) (p := ⟨P, a * 9 + 3, none⟩) hvP (.int .u64 p.d1)) (p := ⟨P, a * 9 + 4, none⟩) hvP (.int .u64 p.d2)) (p := ⟨P, a * 9 + 5, none⟩) hvP (.int .u64 p.d3)) (p := ⟨P, a * 9 + 6, none⟩) hvP (.int .u64 p.d4)) (p := ⟨P, a * 9 + 7, none⟩) hvP (.int .u64 p.d5)) (p := ⟨P, a * 9 + 8, none⟩) hvP (.int .u64 p.d6)) (p := ⟨P, a * 9 + 1, none⟩) hvP (.int .u64 (up p.head))), Blk.drew ((((((((((h.blkO.aside (p := ⟨P, a * 9, none⟩) hOP (.int .i64 p.line)).aside (p := ⟨P, a * 9 + 1, none⟩) hOP (.int .u64 p.head)).aside (p := ⟨P, a * 9 + 2, none⟩) hOP (.int .u64 p.d0)).aside (p := ⟨P, a * 9 + 3, none⟩) hOP (.int .u64 p.d1)).aside (p := ⟨P, a * 9 + 4, none⟩) hOP (.int .u64 p.d2)).aside (p := ⟨P, a * 9 + 5, none⟩) hOP (.int .u64 p.d3)).aside (p := ⟨P, a * 9 + 6, none⟩) hOP (.int .u64 p.d4)).aside (p := ⟨P, a * 9 + 7, none⟩) hOP (.int .u64 p.d5)).aside (p := ⟨P, a * 9 + 8, none⟩) hOP (.int .u64 p.d6)).aside (p := ⟨P, a * 9 + 1, none⟩) hOP (.int .u64 (up p.head))), Blk.drew ((((((((((h.blkR.aside (p := ⟨P, a * 9, none⟩) hRP (.int .i64 p.line)).aside (p := ⟨P, a * 9 + 1, none⟩) hRP (.int .u64 p.head)).aside (p := ⟨P, a * 9 + 2, none⟩) hRP (.int .u64 p.d0)).aside (p := ⟨P, a * 9 + 3, none⟩) hRP (.int .u64 p.d1)).aside (p := ⟨P, a * 9 + 4, none⟩) hRP (.int .u64 p.d2)).aside (p := ⟨P, a * 9 + 5, none⟩) hRP (.int .u64 p.d3)).aside (p := ⟨P, a * 9 + 6, none⟩) hRP (.int .u64 p.d4)).aside (p := ⟨P, a * 9 + 7, none⟩) hRP (.int .u64 p.d5)).aside (p := ⟨P, a * 9 + 8, none⟩) hRP (.int .u64 p.d6)).aside (p := ⟨P, a * 9 + 1, none⟩) hRP (.int .u64 (up p.head))), ?_, Over.drew (Over.put (Over.put (Over.put (Over.put (Over.put (Over.put (Over.put (Over.put (Over.put (Over.put h.over (a * 9) (.int .i64 p.line)) (a * 9 + 1) (.int .u64 p.head)) (a * 9 + 2) (.int .u64 p.d0)) (a * 9 + 3) (.int .u64 p.d1)) (a * 9 + 4) (.int .u64 p.d2)) (a * 9 + 5) (.int .u64 p.d3)) (a * 9 + 6) (.int .u64 p.d4)) (a * 9 + 7) (.int .u64 p.d5)) (a * 9 + 8) (.int .u64 p.d6)) (a * 9 + 1) (.int .u64 (up p.head))), own_drew (own_put10 h.rowe (by omega) _ _ _ _ _ _ _ _ _ _), own_drew (own_put10 h.rowc (by omega) _ _ _ _ _ _ _ _ _ _)⟩
 ·rw [applyWrites_succ pages ws k hk, ← hp]
  have e : (p.line - 96).toNat = a := by omega
  unfold applyWrite
  rw [e]
  exact hpg.drew
 ·exact NoneAt.below (NoneAt.aside (NoneAt.aside (NoneAt.aside (NoneAt.aside (NoneAt.aside (NoneAt.aside (NoneAt.aside (NoneAt.aside (NoneAt.aside (NoneAt.aside h.none (q := ⟨P, a * 9, none⟩) hgP (.int .i64 p.line)) (q := ⟨P, a * 9 + 1, none⟩) hgP (.int .u64 p.head)) (q := ⟨P, a * 9 + 2, none⟩) hgP (.int .u64 p.d0)) (q := ⟨P, a * 9 + 3, none⟩) hgP (.int .u64 p.d1)) (q := ⟨P, a * 9 + 4, none⟩) hgP (.int .u64 p.d2)) (q := ⟨P, a * 9 + 5, none⟩) hgP (.int .u64 p.d3)) (q := ⟨P, a * 9 + 6, none⟩) hgP (.int .u64 p.d4)) (q := ⟨P, a * 9 + 7, none⟩) hgP (.int .u64 p.d5)) (q := ⟨P, a * 9 + 8, none⟩) hgP (.int .u64 p.d6)) (q := ⟨P, a * 9 + 1, none⟩) hgP (.int .u64 (up p.head))) (Below.refl _ _).drew
def RunLoop (x P cap R O : Nat) (pages : List Bt.Page) (next : Int) (vk vt vg : Value) (ws : List Bt.Page) (o : Bt.Out) (vw ve vc : Value) (w : World) (i : Value) (wr : World) : Prop :=
 ∃ k : Nat, k ≤ ws.length ∧ i = .int .i64 k ∧ Hid (RunSt x P cap R O pages next vk vt vg ws o vw ve vc w k wr)
theorem run_plain (x P cap : Nat) (pages : List Bt.Page) (next : Int) (vk vt vg : Value) (op : Bt.Op) (ws : List Bt.Page) (o : Bt.Out) (w : World) (hx : Blk w x 58 (ixCells P pages.length cap next vk vt vg)) (hP : PagesAt P cap pages w) (hn : NoneAt w)
 (hPx : P < x) (hgP : 0 < P) (hgx : 0 < x) (ho : o.code = 0) (hfit : WritesFit pages ws) (hsm : pages.length ≤ 1000000) (hws : ws.length ≤ 2)
 (HN : Hid (∀ w', PgRow w' (.slice (some ⟨P, 0, none⟩) pages.length cap) pages → NoneAt w' → Calls Tryz.prog 27 #[.agg (opCells op (.slice none 0 0)), .slice (some ⟨P, 0, none⟩) pages.length cap] w' (NextPost ws o w'))) :
 Calls Tryz.prog 31 #[.pointer (some ⟨x, 0, none⟩), .agg (opCells op (.slice none 0 0))] w (IxPost x P cap (applyWrites pages ws) next vk vt vg o w) := by
 have HX := hid hx
 have HPA := hid hP
 have HNO := hid hn
 have HFIT := hid hfit
 have hxlt := hx.lt
 have hPlt := hP.lt
 have kx : ∀ i, w.cell? ⟨x, i, none⟩ = (#[.slice (some ⟨P, 0, none⟩) pages.length cap, .int .i64 next, vk, vt, vg] : Array Value)[i]? := hx.cell
 have b0 : (o.code == 0) = true := by simp [ho]
 have b18 : (o.code == 18) = false := by simp [ho]
 have bn0 : (o.code != 0) = false := by simp [ho]
 have x1 : x < w.heap.size + 1 := by omega
 have x2 : x < w.heap.size + 1 + 1 := by omega
 clear hx hP hn hfit ho
 unfold opCells at HN ⊢
 go_enter Tryz.func31, Tryz.ntmps31
 go_wp2_with fail
 go_cut [6, 7, 8, 9] (RunCut ws o w)
 case first =>
  refine qA fun hSt => ?_
  refine qS [0, 1, 2, 3, 4] ?_
  iterate 5 (refine qT ?_; simp only [Act.put, qY])
  refine TakeSeq.done ?_
  refine wpAnyH_ready (rs := [5, 11]) (by kernel_rfl) (by simp) ?_
  refine AllReadyH.cons rfl (fun K hK => ?_) (AllReadyH.cons rfl (fun K hK => ?_) (AllReadyH.nil))
  ·skip
   rw [if_pos (by rfl)]
   go_simp
   go_at_call 27; refine (HN.out _ ?hpg ?hng).mono ?_; (case hpg => exact HPA.out.row.below qL); (case hng => exact HNO.out.below qL); rintro e1 w1 ⟨vw, ve, vc, rfl, how, hoe, hoc, hb1⟩; simp only [outCells]; ((obtain ⟨hc1, hf1, hs1⟩ := qR hb1); (try have := qN0 w w1); (try have := qN1 w w1)); have HOW := hid how; have HOE := hid hoe; have HOC := hid hoc; have hse := qSt hoe; have hsc := qSt hoc; clear how hoe hoc
   go_wp2_with fail
   refine hK.out _ _ (SteadyAll.of qL) (fun hHeld => ?_)
   clear hK K
   refine qS [6, 7, 8, 9, 10] ?_
   iterate 5 (refine qT ?_; simp only [Act.put, qY])
   refine TakeSeq.done ?_
   refine qH 11 fun K hK => ?_
   go_simp
   refine hK.out _ _ (SteadyAll.of qL) (fun hHeld => ?_)
   clear hK K
   refine qS [12, 13] ?_
   iterate 2 (refine qT ?_; simp only [Act.put, qY])
   refine TakeSeq.done ?_
   refine qH 14 fun K hK => ?_
   go_simp
   refine hK.out _ _ (SteadyAll.of qL) (fun hHeld => ?_)
   clear hK K
   refine qS [15] ?_
   refine qT ?_; simp only [Act.put, qY]
   refine TakeSeq.done ?_
   refine qD ?_ _
   go_wp2_with fail
   have BR0 := Blk.kept (b := w.heap.size + 1) (t := 63) (cs := #[.int .i64 0, .bool false, .bool false, .bool false, .bool false, .bool false, .bool false, .int .i64 0, .int .i64 0, .slice none 0 0, .slice none 0 0, .int .i64 0, .int .i64 0, .int .i64 0]) (Blk.drew (made22 w)) hb1
   go_meet
   exact ⟨vw, ve, vc, _, rfl, rfl, rfl, rfl, by omega, by repeat (first | with_reducible refine Blk.drew ?_ | exact Blk.made _ _ _), own_base (own_below HOW.out qL) (by simp), own_base (own_below HOE.out qL) (by simp), own_base (own_below HOC.out qL) (by simp), by (have B := BR0; exact qK), qL⟩
  ·skip
   rw [if_pos (by rfl)]
   go_simp
   refine hK.out _ _ (SteadyAll.of qL) (fun hHeld => ?_)
   clear hK K
   refine qH 5 fun K hK => ?_
   go_simp
   go_at_call 27; refine (HN.out _ ?hpg ?hng).mono ?_; (case hpg => exact HPA.out.row.below qL); (case hng => exact HNO.out.below qL); rintro e1 w1 ⟨vw, ve, vc, rfl, how, hoe, hoc, hb1⟩; simp only [outCells]; ((obtain ⟨hc1, hf1, hs1⟩ := qR hb1); (try have := qN0 w w1); (try have := qN1 w w1); (try have := qN2 w w1)); have HOW := hid how; have HOE := hid hoe; have HOC := hid hoc; have hse := qSt hoe; have hsc := qSt hoc; clear how hoe hoc
   go_wp2_with fail
   refine hK.out _ _ (SteadyAll.of qL) (fun hHeld => ?_)
   clear hK K
   refine qS [6, 7, 8, 9, 10, 12, 13] ?_
   iterate 7 (refine qT ?_; simp only [Act.put, qY])
   refine TakeSeq.done ?_
   refine qH 14 fun K hK => ?_
   go_simp
   refine hK.out _ _ (SteadyAll.of qL) (fun hHeld => ?_)
   clear hK K
   refine qS [15] ?_
   refine qT ?_; simp only [Act.put, qY]
   refine TakeSeq.done ?_
   refine qD ?_ _
   go_wp2_with fail
   have BG0 := Blk.kept (b := w.heap.size + 1 + 1) (t := 63) (cs := #[.int .i64 0, .bool false, .bool false, .bool false, .bool false, .bool false, .bool false, .int .i64 0, .int .i64 0, .slice none 0 0, .slice none 0 0, .int .i64 0, .int .i64 0, .int .i64 0]) (Blk.drew (made33 w)) hb1
   have BR0 := Blk.kept (b := w.heap.size + 1) (t := 63) (cs := #[.int .i64 0, .bool false, .bool false, .bool false, .bool false, .bool false, .bool false, .int .i64 0, .int .i64 0, .slice none 0 0, .slice none 0 0, .int .i64 0, .int .i64 0, .int .i64 0]) (Blk.drew (made23 w)) hb1
   go_meet
   exact ⟨vw, ve, vc, w.heap.size + 1 + 1, rfl, rfl, rfl, rfl, by omega, Blk.cast (by have B := BG0; exact qK) (by rw [set14]; rfl), own_base (own_put14 (base := w.heap.size + 1 + 1 + 1) (own_base HOW.out (by simp)) (by omega) _ _ _ _ _ _ _ _ _ _ _ _ _ _) (by omega), own_base (own_put14 (base := w.heap.size + 1 + 1 + 1) (own_base HOE.out (by simp)) (by omega) _ _ _ _ _ _ _ _ _ _ _ _ _ _) (by omega), own_base (own_put14 (base := w.heap.size + 1 + 1 + 1) (own_base HOC.out (by simp)) (by omega) _ _ _ _ _ _ _ _ _ _ _ _ _ _) (by omega), by (have B := BR0; exact qK), qL⟩
 case rest =>
  obtain ⟨vw, ve, vc, O, rfl, rfl, rfl, rfl, hO, BO, how, hoe, hoc, BR, hbc⟩ := hcut
  have hvw : ∃ a c, vw = .slice a ws.length c := by
   rcases own_any how with ⟨h0, rfl⟩ | ⟨g, c, rfl⟩
   ·rw [h0]; exact ⟨_, _, rfl⟩
   ·exact ⟨_, _, rfl⟩
  obtain ⟨va, vcap, rfl⟩ := hvw
  have HS0 : Hid (RunSt x P cap (w.heap.size + 1) O pages next vk vt vg ws o (.slice va ws.length vcap) ve vc w 0 wc) := hid ⟨HX.out.kept hbc, ⟨HPA.out.row.below hbc, fun i => by rw [hbc.frozen (p := ⟨P, i, none⟩) hPlt]; exact HPA.out.free i, Nat.lt_of_lt_of_le hPlt hbc.size, by obtain ⟨cs, hc⟩ := HPA.out.blk; exact ⟨cs, hc.kept hbc⟩⟩, how, BO, BR, HNO.out.below hbc, Over.of_below hbc, hoe, hoc⟩
  have hse := qSt hoe
  have hsc := qSt hoc
  have gO : ∀ i, wc.cell? ⟨O, i, none⟩ = (outCells o ve vc)[i]? := BO.cell
  unfold outCells at gO
  clear BO BR hbc how hoe hoc
  go_wp2_with fail
  go_loopw [11] (fun i wr => RunLoop x P cap (w.heap.size + 1) O pages next vk vt vg ws o (.slice va ws.length vcap) ve vc w i wr) (fun i _ => ((ws.length : Int) - intOf i).toNat)
  case atStart => exact ⟨0, Nat.zero_le _, rfl, HS0⟩
  case round =>
   obtain ⟨k, hk, rfl, HA⟩ := hrel
   by_cases hk2 : k < ws.length
   ·skip
    have hfit := HFIT.out.1 k hk2
    obtain ⟨p, hpk⟩ : ∃ p, p = ws[k] := ⟨_, rfl⟩
    rw [← hpk] at hfit
    obtain ⟨a, ha⟩ : ∃ a : Nat, p.line = 96 + a := ⟨(p.line - 96).toNat, by omega⟩
    obtain ⟨hf1, hf2, ⟨q, hq, hqh⟩, hf4⟩ := hfit
    have haq : (p.line - 96).toNat = a := by omega
    rw [haq] at hq
    have halt : a < pages.length := by omega
    have halt2 : a < (applyWrites pages (ws.take k)).length := by rw [applyWrites_length]; exact halt
    have hqe : (applyWrites pages (ws.take k))[a] = q := by rw [List.getElem?_eq_getElem halt2] at hq; exact Option.some.inj hq
    obtain ⟨e0, e1, e2, e3, e4, e5, e6, e7, e8⟩ := nine (HA.out.pg.row_at halt2)
    rw [hqe] at e0 e1 e2 e3 e4 e5 e6 e7 e8
    rw [hqh] at e1
    have hw := HA.out.own
    obtain ⟨g, c, hv⟩ : ∃ g c, (Value.slice va ws.length vcap) = .slice (some ⟨g, 0, none⟩) ws.length c := by
     rcases own_any hw with ⟨h0, _⟩ | ⟨g, c, hv⟩
     ·omega
     ·exact ⟨g, c, hv⟩
    simp only [Value.slice.injEq, true_and] at hv
    obtain ⟨rfl, rfl⟩ := hv
    obtain ⟨c0, c1, c2, c3, c4, c5, c6, c7, c8⟩ := nine (own_page hw hk2)
    rw [← hpk] at c0 c1 c2 c3 c4 c5 c6 c7 c8
    have hml : pages.length ≤ 1000000 := hsm
    have wl1 : wrap64 (p.line - 96) = a := by unfold wrap64; omega
    have wl2 : IntKind.i64.wrap (p.line - 96) = a := by rw [IntKind.wrap_i64]; omega
    have hgw := own_lt hw
    have HD : Hid (∀ m, k = m + 1 → ∃ l : Int, wr.cell? ⟨g, m * 9, none⟩ = some (.int .i64 l) ∧ l < p.line) := hid (fun m hm => by
     have hm1 : m < ws.length := by omega
     obtain ⟨d0, _⟩ := nine (own_page hw hm1)
     refine ⟨_, d0, ?_⟩
     have := HFIT.out.2 m (by omega)
     subst hm
     rw [hpk]
     exact this)
    have hfP := HA.out.pg.free
    have hPl : P < wr.heap.size := HA.out.pg.lt
    have hPg : P < g := by omega
    have hxl : x < wr.heap.size := HA.out.blkx.lt
    have gx : ∀ i, wr.cell? ⟨x, i, none⟩ = (#[.slice (some ⟨P, 0, none⟩) pages.length cap, .int .i64 next, vk, vt, vg] : Array Value)[i]? := HA.out.blkx.cell
    have hgl : g < wr.heap.size := hgw.2
    have bk : decide ((k : Int) < ws.length) = true := by simp; omega
    have bk0 : (0 : Int) ≤ k := by omega
    have bk1 : (k : Int) < ws.length := by omega
    have ba0 : (0 : Int) ≤ a := by omega
    have ba1 : (a : Int) < pages.length := by omega
    have ba2 : decide ((a : Int) < 0) = false := by simp
    have ba3 : decide ((pages.length : Int) ≤ a) = false := by simp; omega
    have ba5 : decide (pages.length ≤ a) = false := by simp; omega
    have ba4 : (p.head != p.head) = false := by simp
    have wh1 : IntKind.u64.wrap (p.head + 256) = up p.head := by rw [IntKind.wrap_u64]; rfl
    have HP4 := hid hf4
    have HPK := hid hpk
    have HHA := hid ha
    clear hf1 hf2 hq hqh hqe haq hpk hf4 hw gO ha
    rcases Nat.eq_zero_or_pos k with hkz | hkp
    ·subst hkz
     simp only [Nat.zero_mul, Nat.zero_add] at c0 c1 c2 c3 c4 c5 c6 c7 c8
     have bkz : decide ((0 : Int) < ws.length) = true := by simp; omega
     have bkz1 : (0 : Int) < ws.length := by omega
     clear bk bk0 bk1
     go_wp2_with fail
     go_quiet (fail)
     have HZ : RunSt x P cap (w.heap.size + 1) O pages next vk vt vg ws o (.slice (some ⟨g, 0, none⟩) ws.length vcap) ve vc w 0 (wr.drewN nq) := HA.out.drewN nq
     have e0' := e0
     change (wr.drewN nq).cell? ⟨P, a * 9, none⟩ = _ at e0'
     have e1' := e1
     change (wr.drewN nq).cell? ⟨P, a * 9 + 1, none⟩ = _ at e1'
     have e2' := e2
     change (wr.drewN nq).cell? ⟨P, a * 9 + 2, none⟩ = _ at e2'
     have e3' := e3
     change (wr.drewN nq).cell? ⟨P, a * 9 + 3, none⟩ = _ at e3'
     have e4' := e4
     change (wr.drewN nq).cell? ⟨P, a * 9 + 4, none⟩ = _ at e4'
     have e5' := e5
     change (wr.drewN nq).cell? ⟨P, a * 9 + 5, none⟩ = _ at e5'
     have e6' := e6
     change (wr.drewN nq).cell? ⟨P, a * 9 + 6, none⟩ = _ at e6'
     have e7' := e7
     change (wr.drewN nq).cell? ⟨P, a * 9 + 7, none⟩ = _ at e7'
     have e8' := e8
     change (wr.drewN nq).cell? ⟨P, a * 9 + 8, none⟩ = _ at e8'
     have c0' := c0
     change (wr.drewN nq).cell? ⟨g, 0, none⟩ = _ at c0'
     have c1' := c1
     change (wr.drewN nq).cell? ⟨g, 1, none⟩ = _ at c1'
     have c2' := c2
     change (wr.drewN nq).cell? ⟨g, 2, none⟩ = _ at c2'
     have c3' := c3
     change (wr.drewN nq).cell? ⟨g, 3, none⟩ = _ at c3'
     have c4' := c4
     change (wr.drewN nq).cell? ⟨g, 4, none⟩ = _ at c4'
     have c5' := c5
     change (wr.drewN nq).cell? ⟨g, 5, none⟩ = _ at c5'
     have c6' := c6
     change (wr.drewN nq).cell? ⟨g, 6, none⟩ = _ at c6'
     have c7' := c7
     change (wr.drewN nq).cell? ⟨g, 7, none⟩ = _ at c7'
     have c8' := c8
     change (wr.drewN nq).cell? ⟨g, 8, none⟩ = _ at c8'
     have gx' : ∀ i, (wr.drewN nq).cell? ⟨x, i, none⟩ = (#[.slice (some ⟨P, 0, none⟩) pages.length cap, .int .i64 next, vk, vt, vg] : Array Value)[i]? := gx
     have hfP' : ∀ i, (wr.drewN nq).frozen? ⟨P, i, none⟩ = false := hfP
     have hxl' : x < (wr.drewN nq).heap.size := hxl
     have hgl' : g < (wr.drewN nq).heap.size := hgl
     have hPl' : P < (wr.drewN nq).heap.size := hPl
     clear e0 e1 e2 e3 e4 e5 e6 e7 e8 c0 c1 c2 c3 c4 c5 c6 c7 c8 gx hfP hxl hgl hPl
     have HZZ := hid HZ
     clear HZ
     generalize wr.drewN nq = wz at *
     go_wp2_with fail
     refine qB (P) fun hSt => ?_
     refine qS [0, 1, 2, 3, 4, 5, 6, 7, 8, 9] ?_
     iterate 10 (refine qT ?_; simp only [Act.put, qY])
     refine TakeSeq.done ?_
     refine qH 10 fun K hK => ?_
     go_simp
     refine hK.out _ _ qF (fun hHeld => ?_)
     clear hK K
     refine qD ?_ _
     go_wp2_with fail
     exact ⟨⟨0 + 1, by omega, rfl, hid (runSt_step HZZ.out hk2 p HPK.out a HHA.out halt HP4.out hPx (by omega) (by omega) hgP)⟩, by simp [intOf]; omega⟩
    ·obtain ⟨m, hm⟩ : ∃ m, k = m + 1 := ⟨k - 1, by omega⟩
     obtain ⟨l, hl1, hl2⟩ := HD.out m hm
     have bkp : decide ((0 : Int) < k) = true := by simp; omega
     have bkp2 : decide (0 < k) = true := by simp; omega
     have wk1 : IntKind.i64.wrap ((k : Int) - 1) = m := by rw [IntKind.wrap_i64]; omega
     have wk2 : wrap64 ((k : Int) - 1) = m := by unfold wrap64; omega
     have bm0 : (0 : Int) ≤ m := by omega
     have bm1 : (m : Int) < ws.length := by omega
     have bll : decide (p.line ≤ l) = false := by simp; omega
     have HM := hid hm
     have HL2 := hid hl2
     clear hm hl2
     go_wp2_with fail
     go_quiet (fail)
     have HZ : RunSt x P cap (w.heap.size + 1) O pages next vk vt vg ws o (.slice (some ⟨g, 0, none⟩) ws.length vcap) ve vc w k (wr.drewN nq) := HA.out.drewN nq
     have e0' := e0
     change (wr.drewN nq).cell? ⟨P, a * 9, none⟩ = _ at e0'
     have e1' := e1
     change (wr.drewN nq).cell? ⟨P, a * 9 + 1, none⟩ = _ at e1'
     have e2' := e2
     change (wr.drewN nq).cell? ⟨P, a * 9 + 2, none⟩ = _ at e2'
     have e3' := e3
     change (wr.drewN nq).cell? ⟨P, a * 9 + 3, none⟩ = _ at e3'
     have e4' := e4
     change (wr.drewN nq).cell? ⟨P, a * 9 + 4, none⟩ = _ at e4'
     have e5' := e5
     change (wr.drewN nq).cell? ⟨P, a * 9 + 5, none⟩ = _ at e5'
     have e6' := e6
     change (wr.drewN nq).cell? ⟨P, a * 9 + 6, none⟩ = _ at e6'
     have e7' := e7
     change (wr.drewN nq).cell? ⟨P, a * 9 + 7, none⟩ = _ at e7'
     have e8' := e8
     change (wr.drewN nq).cell? ⟨P, a * 9 + 8, none⟩ = _ at e8'
     have c0' := c0
     change (wr.drewN nq).cell? ⟨g, k * 9, none⟩ = _ at c0'
     have c1' := c1
     change (wr.drewN nq).cell? ⟨g, k * 9 + 1, none⟩ = _ at c1'
     have c2' := c2
     change (wr.drewN nq).cell? ⟨g, k * 9 + 2, none⟩ = _ at c2'
     have c3' := c3
     change (wr.drewN nq).cell? ⟨g, k * 9 + 3, none⟩ = _ at c3'
     have c4' := c4
     change (wr.drewN nq).cell? ⟨g, k * 9 + 4, none⟩ = _ at c4'
     have c5' := c5
     change (wr.drewN nq).cell? ⟨g, k * 9 + 5, none⟩ = _ at c5'
     have c6' := c6
     change (wr.drewN nq).cell? ⟨g, k * 9 + 6, none⟩ = _ at c6'
     have c7' := c7
     change (wr.drewN nq).cell? ⟨g, k * 9 + 7, none⟩ = _ at c7'
     have c8' := c8
     change (wr.drewN nq).cell? ⟨g, k * 9 + 8, none⟩ = _ at c8'
     have gx' : ∀ i, (wr.drewN nq).cell? ⟨x, i, none⟩ = (#[.slice (some ⟨P, 0, none⟩) pages.length cap, .int .i64 next, vk, vt, vg] : Array Value)[i]? := gx
     have hfP' : ∀ i, (wr.drewN nq).frozen? ⟨P, i, none⟩ = false := hfP
     have hxl' : x < (wr.drewN nq).heap.size := hxl
     have hgl' : g < (wr.drewN nq).heap.size := hgl
     have hPl' : P < (wr.drewN nq).heap.size := hPl
     clear hl1 e0 e1 e2 e3 e4 e5 e6 e7 e8 c0 c1 c2 c3 c4 c5 c6 c7 c8 gx hfP hxl hgl hPl
     have HZZ := hid HZ
     clear HZ
     generalize wr.drewN nq = wz at *
     go_wp2_with fail
     refine qB (P) fun hSt => ?_
     refine qS [0, 1, 2, 3, 4, 5, 6, 7, 8, 9] ?_
     iterate 10 (refine qT ?_; simp only [Act.put, qY])
     refine TakeSeq.done ?_
     refine qH 10 fun K hK => ?_
     go_simp
     refine hK.out _ _ qF (fun hHeld => ?_)
     clear hK K
     refine qD ?_ _
     go_wp2_with fail
     exact ⟨⟨k + 1, by omega, by rw [show ((k : Int) + 1) = ((k + 1 : Nat) : Int) by omega], hid (runSt_step HZZ.out hk2 p HPK.out a HHA.out halt HP4.out hPx (by omega) (by omega) hgP)⟩, by simp [intOf]; omega⟩
   ·have b1 : decide ((k : Int) < ws.length) = false := by simp; omega
    have hkl : k = ws.length := by omega
    have gO2 : ∀ i, wr.cell? ⟨O, i, none⟩ = (outCells o ve vc)[i]? := HA.out.blkO.cell
    unfold outCells at gO2
    have hfR := HA.out.blkR.free
    have gR := HA.out.blkR.cell
    clear gO
    go_wp2_with fail
    have BR := HA.out.blkR
    have BX : Blk wr x 58 (ixCells P pages.length cap next vk vt vg) := HA.out.blkx
    have hkt : ws.take k = ws := by rw [hkl, List.take_length]
    have hpg := HA.out.pg
    rw [hkt] at hpg
    refine bodyPost_ret (results_bt rfl _ _ (w.heap.size + 1) _ _ _ rfl (by have B := BR; exact qK) Tryz.underlying63 rfl (by kernel_rfl)) rfl ⟨ve, vc, ?_, ?_, ?_, ?_, ?_, ?_, ?_⟩
    ·rw [set14]
     rfl
    ·rw [applyWrites_length]
     exact (by have B := BX; exact qK)
    ·exact PagesAt.put14 hpg (by omega) _ _ _ _ _ _ _ _ _ _ _ _ _ _
    ·exact OverTwo.single (Over.put14 HA.out.over (by omega) _ _ _ _ _ _ _ _ _ _ _ _ _ _)
    ·exact NoneAt.put14 HA.out.none (by omega) _ _ _ _ _ _ _ _ _ _ _ _ _ _
    ·exact own_base (own_put14 HA.out.rowe (by omega) _ _ _ _ _ _ _ _ _ _ _ _ _ _) (by omega)
    ·exact own_base (own_put14 HA.out.rowc (by omega) _ _ _ _ _ _ _ _ _ _ _ _ _ _) (by omega)
end Go.Proofs.YtjmpekanlmepmaaGreatDoor
