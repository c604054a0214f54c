/- Package btree: the step function: Insert and Raise. -/
import Derived.Test.YtjmpekanlmepmaaGreatDoorNN22
import Derived.Test.YtjmpekanlmepmaaGreatDoorNN24
set_option linter.all false
set_option maxRecDepth 20000
set_option maxHeartbeats 8000000
open Go.Lib (hid)
namespace Go.Proofs.YtjmpekanlmepmaaGreatDoor
open Go.RowKit
def outCells (o : Bt.Out) (ve vc : Value) : Array Value :=
 #[.int .i64 o.code, .bool o.found, .bool o.done, .bool o.split, .bool o.unposted, .bool o.dead, .bool o.more, .int .i64 o.to.line, .int .i64 o.to.gen, ve, vc, .int .i64 o.hops, .int .i64 o.fresh, .int .i64 o.height]
theorem set14 (x0 x1 x2 x3 x4 x5 x6 x7 x8 x9 x10 x11 x12 x13 v0 v1 v2 v3 v4 v5 v6 v7 v8 v9 v10 v11 v12 v13 : Value) : ((((((((((((((#[x0, x1, x2, x3, x4, x5, x6, x7, x8, x9, x10, x11, x12, x13].setIfInBounds 0 v0).setIfInBounds 1 v1).setIfInBounds 2 v2).setIfInBounds 3 v3).setIfInBounds 4 v4).setIfInBounds 5 v5).setIfInBounds 6 v6).setIfInBounds 7 v7).setIfInBounds 8 v8).setIfInBounds 9 v9).setIfInBounds 10 v10).setIfInBounds 11 v11).setIfInBounds 12 v12).setIfInBounds 13 v13) = #[v0, v1, v2, v3, v4, v5, v6, v7, v8, v9, v10, v11, v12, v13] := by kernel_rfl
theorem own_put14 {w : World} {base n size g : Nat} {e : TypeId} {v : Value} {xs : List Value} (h : w.ownsRow base e size v n xs) (hg : g < base) (v0 v1 v2 v3 v4 v5 v6 v7 v8 v9 v10 v11 v12 v13 : Value) : ((((((((((((((w.setCell ⟨g, 0, none⟩ v0).setCell ⟨g, 1, none⟩ v1).setCell ⟨g, 2, none⟩ v2).setCell ⟨g, 3, none⟩ v3).setCell ⟨g, 4, none⟩ v4).setCell ⟨g, 5, none⟩ v5).setCell ⟨g, 6, none⟩ v6).setCell ⟨g, 7, none⟩ v7).setCell ⟨g, 8, none⟩ v8).setCell ⟨g, 9, none⟩ v9).setCell ⟨g, 10, none⟩ v10).setCell ⟨g, 11, none⟩ v11).setCell ⟨g, 12, none⟩ v12).setCell ⟨g, 13, none⟩ v13).ownsRow base e size v n xs := (own_aside (own_aside (own_aside (own_aside (own_aside (own_aside (own_aside (own_aside (own_aside (own_aside (own_aside (own_aside (own_aside (own_aside h (p := ⟨g, 0, none⟩) hg v0) (p := ⟨g, 1, none⟩) hg v1) (p := ⟨g, 2, none⟩) hg v2) (p := ⟨g, 3, none⟩) hg v3) (p := ⟨g, 4, none⟩) hg v4) (p := ⟨g, 5, none⟩) hg v5) (p := ⟨g, 6, none⟩) hg v6) (p := ⟨g, 7, none⟩) hg v7) (p := ⟨g, 8, none⟩) hg v8) (p := ⟨g, 9, none⟩) hg v9) (p := ⟨g, 10, none⟩) hg v10) (p := ⟨g, 11, none⟩) hg v11) (p := ⟨g, 12, none⟩) hg v12) (p := ⟨g, 13, none⟩) hg v13)
theorem Over.put14 {b g : Nat} {w w1 : World} (h : Over b w w1) (hg : w.heap.size ≤ g) (v0 v1 v2 v3 v4 v5 v6 v7 v8 v9 v10 v11 v12 v13 : Value) : Over b w ((((((((((((((w1.setCell ⟨g, 0, none⟩ v0).setCell ⟨g, 1, none⟩ v1).setCell ⟨g, 2, none⟩ v2).setCell ⟨g, 3, none⟩ v3).setCell ⟨g, 4, none⟩ v4).setCell ⟨g, 5, none⟩ v5).setCell ⟨g, 6, none⟩ v6).setCell ⟨g, 7, none⟩ v7).setCell ⟨g, 8, none⟩ v8).setCell ⟨g, 9, none⟩ v9).setCell ⟨g, 10, none⟩ v10).setCell ⟨g, 11, none⟩ v11).setCell ⟨g, 12, none⟩ v12).setCell ⟨g, 13, none⟩ v13) := (Over.own (Over.own (Over.own (Over.own (Over.own (Over.own (Over.own (Over.own (Over.own (Over.own (Over.own (Over.own (Over.own (Over.own h (p := ⟨g, 0, none⟩) hg v0) (p := ⟨g, 1, none⟩) hg v1) (p := ⟨g, 2, none⟩) hg v2) (p := ⟨g, 3, none⟩) hg v3) (p := ⟨g, 4, none⟩) hg v4) (p := ⟨g, 5, none⟩) hg v5) (p := ⟨g, 6, none⟩) hg v6) (p := ⟨g, 7, none⟩) hg v7) (p := ⟨g, 8, none⟩) hg v8) (p := ⟨g, 9, none⟩) hg v9) (p := ⟨g, 10, none⟩) hg v10) (p := ⟨g, 11, none⟩) hg v11) (p := ⟨g, 12, none⟩) hg v12) (p := ⟨g, 13, none⟩) hg v13)
theorem own_drew {w : World} {base n size : Nat} {e : TypeId} {v : Value} {xs : List Value} (h : w.ownsRow base e size v n xs) : w.drew.ownsRow base e size v n xs := h
def NextPost (writes : List Bt.Page) (o : Bt.Out) (w : World) (e : Ending) (w' : World) : Prop :=
 ∃ vw ve vc, e = .returned (.tuple #[.slice none 0 0, vw, .agg (outCells o ve vc), .bool true]) ∧ w'.ownsRow w.heap.size 25 9 vw writes.length (pageCells writes) ∧
  w'.ownsRow w.heap.size 69 3 ve o.entries.length (entCells o.entries) ∧ w'.ownsRow w.heap.size 3 1 vc o.check.length (intCells o.check) ∧ Below w.heap.size w w'
theorem Over.to_below {b : Nat} {w w' : World} (h : Over b w w') (hb : w.heap.size ≤ b) : Below w.heap.size w w' :=
 ⟨h.os, h.tape, h.output, h.size, fun k hk => h.block k hk (by simp; omega)⟩
def Sorted2 (l : List Bt.Page) : Prop := l = [] ∨ (∃ p, l = [p]) ∨ ∃ p q, l = [p, q] ∧ p.line ≤ q.line
theorem sortedRow_of {w : World} {base n : Nat} {v : Value} {l : List Bt.Page} (h : w.ownsRow base 25 9 v n (pageCells l)) (hn : l.length = n) (hs : Sorted2 l) : SortedRow w v l := by
 subst hn
 rcases hs with rfl | ⟨p, rfl⟩ | ⟨p, q, rfl, hpq⟩
 ·left
  rcases h.2 with ⟨rfl, _⟩ | ⟨g, cap, _, rfl, _⟩
  ·exact ⟨_, _, rfl⟩
  ·exact ⟨_, _, rfl⟩
 ·obtain ⟨g, cap, rfl⟩ := own_form h (by simp)
  exact .inr (.inl ⟨_, _, rfl⟩)
 ·obtain ⟨g, cap, rfl⟩ := own_form h (by simp)
  exact .inr (.inr ⟨g, cap, base, p, q, rfl, rfl, hpq, h⟩)
theorem own_zero {w : World} {base size : Nat} {e : TypeId} {v : Value} {xs : List Value} (h : w.ownsRow base e size v 0 xs) : ∃ p cap, v = .slice p 0 cap := by
 rcases h.2 with ⟨rfl, _⟩ | ⟨g, cap, _, rfl, _⟩
 ·exact ⟨_, _, rfl⟩
 ·exact ⟨_, _, rfl⟩
theorem IsRun.start (op : Bt.Op) (known : List Bt.Page) (vf vk : Value) (w : World) (hf : PgRow w vf op.fresh) (hk : PgRow w vk known) (hn : NoneAt w) :
 IsRun (fun _ => False) op known vf vk {} w.heap.size (w.alloc (.cells (runCells op vf vk {} (.slice none 0 0) (.slice none 0 0) (.slice none 0 0) (.slice none 0 0)) 118)) := by
 have hb : Below w.heap.size w (w.alloc (.cells (runCells op vf vk {} (.slice none 0 0) (.slice none 0 0) (.slice none 0 0) (.slice none 0 0)) 118)) := qL
 have hap : ∀ (v : Value) (l : List Bt.Page), PgRow w v l → ∀ c n m, v = .slice (some ⟨c, 0, none⟩) n m → c < w.heap.size := fun v l h c n m hv => by
  rcases h.form with ⟨h1, _⟩ | ⟨c', cap, h1, h2, _⟩
  ·rw [h1] at hv; simp at hv
  ·rw [h1] at hv; simp at hv; omega
 refine ⟨_, _, _, _, RunAt.mk (Blk.made _ _ _) (hk.below hb) (hap _ _ hk) (hf.below hb) (hap _ _ hf) (World.ownsRow_nil _ _ _ _) (World.ownsRow_nil _ _ _ _) (World.ownsRow_nil _ _ _ _) (World.ownsRow_nil _ _ _ _) (hn.below hb) hn.lt, ?_, ?_, ?_, ?_⟩ <;>
  (intro c hc; simp [Value.ownBlock] at hc)
theorem sG3 {P : Prop} (h : P := by
 rintro e3 w3 ⟨rfl, ⟨vn, vw, ve, vc, hr3, _⟩, ho3⟩
 have HR3 := hid hr3
 have HO3 := hid ho3
 obtain ⟨pn, cn, rfl⟩ : ∃ p cap, vn = .slice p 0 cap := own_zero (by have := hr3.need; rw [hsn] at this; exact this)
 have hse := qSt hr3.ents
 have hsc := qSt hr3.check
 have hc := hr3.blk.cell
 have hfb := hr3.blk.free
 have hb3 := hr3.blk.lt
 have k9 : w3.cell? ⟨w1.heap.size, 9, none⟩ = some (.slice pn 0 cn) := hc 9
 have k10 : w3.cell? ⟨w1.heap.size, 10, none⟩ = some (vw) := hc 10
 have k11 : w3.cell? ⟨w1.heap.size, 11, none⟩ = some (.int .i64 s2.out.code) := hc 11
 have k12 : w3.cell? ⟨w1.heap.size, 12, none⟩ = some (.bool s2.out.found) := hc 12
 have k13 : w3.cell? ⟨w1.heap.size, 13, none⟩ = some (.bool s2.out.done) := hc 13
 have k14 : w3.cell? ⟨w1.heap.size, 14, none⟩ = some (.bool s2.out.split) := hc 14
 have k15 : w3.cell? ⟨w1.heap.size, 15, none⟩ = some (.bool s2.out.unposted) := hc 15
 have k16 : w3.cell? ⟨w1.heap.size, 16, none⟩ = some (.bool s2.out.dead) := hc 16
 have k17 : w3.cell? ⟨w1.heap.size, 17, none⟩ = some (.bool s2.out.more) := hc 17
 have k18 : w3.cell? ⟨w1.heap.size, 18, none⟩ = some (.int .i64 s2.out.to.line) := hc 18
 have k19 : w3.cell? ⟨w1.heap.size, 19, none⟩ = some (.int .i64 s2.out.to.gen) := hc 19
 have k20 : w3.cell? ⟨w1.heap.size, 20, none⟩ = some (ve) := hc 20
 have k21 : w3.cell? ⟨w1.heap.size, 21, none⟩ = some (vc) := hc 21
 have k22 : w3.cell? ⟨w1.heap.size, 22, none⟩ = some (.int .i64 s2.out.hops) := hc 22
 have k23 : w3.cell? ⟨w1.heap.size, 23, none⟩ = some (.int .i64 s2.out.fresh) := hc 23
 have k24 : w3.cell? ⟨w1.heap.size, 24, none⟩ = some (.int .i64 s2.out.height) := hc 24
 have k36 : w3.cell? ⟨w1.heap.size, 36, none⟩ = some (.bool s2.ended) := hc 36
 clear hr3 hc
 ((obtain ⟨hc3, hf3, hs3⟩ := qO ho3); (try have := qN0 w w3); (try have := qN1 w w3); (try have := qN0 w1 w3); (try have := qN0 w2 w3))
 rcases hen : s2.ended with _ | _
 ·rw [hen] at k36
  go_wp2_with fail
  go_at_call 59; refine (sortFunc_sorted vw s2.writes _ ?hsr).mono ?_
  case hsr => exact sortedRow_of (base := w1.heap.size + 1) (by repeat (first | exact HR3.out.writes | refine own_aside ?_ (by show w1.heap.size < w1.heap.size + 1; omega) _)) rfl hso
  rintro e4 w4 ⟨rfl, hb4⟩
  ((obtain ⟨hc4, hf4, hs4⟩ := qR hb4); (try have := qN0 w w4); (try have := qN1 w w4); (try have := qN0 w1 w4); (try have := qN0 w2 w4))
  have hb4' : w1.heap.size < w4.heap.size := by omega
  go_wp2_with fail
  refine qB (w.heap.size + 1) fun hSt => ?_
  refine qS [0, 1, 2, 3, 4, 5, 6, 7] ?_
  iterate 8 (refine qT ?_; simp only [Act.put, qY])
  refine TakeSeq.done ?_
  refine qS [8, 9] ?_
  iterate 2 (refine qT ?_; simp only [Act.put, qY])
  refine TakeSeq.done ?_
  refine qH 10 fun K hK => ?_
  go_simp
  refine hK.out _ _ qF (fun hHeld => ?_)
  clear hK K
  refine qS [11] ?_
  refine qT ?_; simp only [Act.put, qY]
  refine TakeSeq.done ?_
  refine qD ?_ _
  go_wp2_with fail
  have hb1 := HB1.out
  have ho2 := HO2.out
  have ho3 := HO3.out
  have hov : Over w1.heap.size w w4 := qV
  have hbb : w1.heap.size < w1.heap.size + 1 := by omega
  have hgb : w.heap.size + 1 < w1.heap.size + 1 := by omega
  have hbs : w.heap.size ≤ w1.heap.size + 1 := by omega
  have O1 := Blk.kept (b := w.heap.size + 1) (t := 63) (cs := #[.int .i64 0, .bool false, .bool false, .bool false, .bool false, .bool false, .bool false, .int .i64 0, .int .i64 0, .slice none 0 0, .slice none 0 0, .int .i64 0, .int .i64 0, .int .i64 0]) (made22 w) hb1
  have O2 := (O1.alloc _).grown ho2 (by simp; omega)
  have O3 := O2.grown ho3 (by simp; omega)
  have O4 : Blk w4 (w.heap.size + 1) 63 #[.int .i64 0, .bool false, .bool false, .bool false, .bool false, .bool false, .bool false, .int .i64 0, .int .i64 0, .slice none 0 0, .slice none 0 0, .int .i64 0, .int .i64 0, .int .i64 0] := Blk.kept (by have B := O3; exact qK) hb4
  refine bodyPost_ret (results_ttbt rfl _ _ (w.heap.size + 1) _ _ _ rfl (by have B := O4; exact qK) Tryz.underlying63 rfl (by kernel_rfl)) rfl ⟨vw, ve, vc, ?_, ?_, ?_, ?_, ?_⟩
  ·rw [set14, hoF hen]
   rfl
  ·exact own_base (own_drew (own_put14 (own_below (own_aside (own_aside (own_aside (own_aside HR3.out.writes (p := ⟨w1.heap.size, 22, none⟩) hbb _) (p := ⟨w1.heap.size, 24, none⟩) hbb _) (p := ⟨w1.heap.size, 16, none⟩) hbb _) (p := ⟨w1.heap.size, 15, none⟩) hbb _) hb4) hgb _ _ _ _ _ _ _ _ _ _ _ _ _ _)) hbs
  ·rw [hoF hen]
   exact own_base (own_drew (own_put14 (own_below (own_aside (own_aside (own_aside (own_aside HR3.out.ents (p := ⟨w1.heap.size, 22, none⟩) hbb _) (p := ⟨w1.heap.size, 24, none⟩) hbb _) (p := ⟨w1.heap.size, 16, none⟩) hbb _) (p := ⟨w1.heap.size, 15, none⟩) hbb _) hb4) hgb _ _ _ _ _ _ _ _ _ _ _ _ _ _)) hbs
  ·rw [hoF hen]
   exact own_base (own_drew (own_put14 (own_below (own_aside (own_aside (own_aside (own_aside HR3.out.check (p := ⟨w1.heap.size, 22, none⟩) hbb _) (p := ⟨w1.heap.size, 24, none⟩) hbb _) (p := ⟨w1.heap.size, 16, none⟩) hbb _) (p := ⟨w1.heap.size, 15, none⟩) hbb _) hb4) hgb _ _ _ _ _ _ _ _ _ _ _ _ _ _)) hbs
  ·exact Over.to_below (b := w1.heap.size) (Over.drew (Over.put14 hov (by omega) _ _ _ _ _ _ _ _ _ _ _ _ _ _)) (by omega)
 ·rw [hen] at k36
  go_wp2_with fail
  go_at_call 59; refine (sortFunc_sorted vw s2.writes _ ?hsr).mono ?_
  case hsr => exact sortedRow_of (base := w1.heap.size + 1) (by repeat (first | exact HR3.out.writes | refine own_aside ?_ (by show w1.heap.size < w1.heap.size + 1; omega) _)) rfl hso
  rintro e4 w4 ⟨rfl, hb4⟩
  ((obtain ⟨hc4, hf4, hs4⟩ := qR hb4); (try have := qN0 w w4); (try have := qN1 w w4); (try have := qN0 w1 w4); (try have := qN0 w2 w4))
  have hb4' : w1.heap.size < w4.heap.size := by omega
  go_wp2_with fail
  refine qB (w.heap.size + 1) fun hSt => ?_
  refine qS [0, 1, 2, 3, 4, 5, 6, 7] ?_
  iterate 8 (refine qT ?_; simp only [Act.put, qY])
  refine TakeSeq.done ?_
  refine qS [8, 9] ?_
  iterate 2 (refine qT ?_; simp only [Act.put, qY])
  refine TakeSeq.done ?_
  refine qH 10 fun K hK => ?_
  go_simp
  refine hK.out _ _ qF (fun hHeld => ?_)
  clear hK K
  refine qS [11] ?_
  refine qT ?_; simp only [Act.put, qY]
  refine TakeSeq.done ?_
  refine qD ?_ _
  go_wp2_with fail
  have hb1 := HB1.out
  have ho2 := HO2.out
  have ho3 := HO3.out
  have hov : Over w1.heap.size w w4 := qV
  have hbb : w1.heap.size < w1.heap.size + 1 := by omega
  have hgb : w.heap.size + 1 < w1.heap.size + 1 := by omega
  have hbs : w.heap.size ≤ w1.heap.size + 1 := by omega
  have O1 := Blk.kept (b := w.heap.size + 1) (t := 63) (cs := #[.int .i64 0, .bool false, .bool false, .bool false, .bool false, .bool false, .bool false, .int .i64 0, .int .i64 0, .slice none 0 0, .slice none 0 0, .int .i64 0, .int .i64 0, .int .i64 0]) (made22 w) hb1
  have O2 := (O1.alloc _).grown ho2 (by simp; omega)
  have O3 := O2.grown ho3 (by simp; omega)
  have O4 : Blk w4 (w.heap.size + 1) 63 #[.int .i64 0, .bool false, .bool false, .bool false, .bool false, .bool false, .bool false, .int .i64 0, .int .i64 0, .slice none 0 0, .slice none 0 0, .int .i64 0, .int .i64 0, .int .i64 0] := Blk.kept (by have B := O3; exact qK) hb4
  refine bodyPost_ret (results_ttbt rfl _ _ (w.heap.size + 1) _ _ _ rfl (by have B := O4; exact qK) Tryz.underlying63 rfl (by kernel_rfl)) rfl ⟨vw, ve, vc, ?_, ?_, ?_, ?_, ?_⟩
  ·rw [set14, hoT hen]
   rfl
  ·exact own_base (own_drew (own_put14 (own_below HR3.out.writes hb4) hgb _ _ _ _ _ _ _ _ _ _ _ _ _ _)) hbs
  ·rw [hoT hen]
   exact own_base (own_drew (own_put14 (own_below HR3.out.ents hb4) hgb _ _ _ _ _ _ _ _ _ _ _ _ _ _)) hbs
  ·rw [hoT hen]
   exact own_base (own_drew (own_put14 (own_below HR3.out.check hb4) hgb _ _ _ _ _ _ _ _ _ _ _ _ _ _)) hbs
  ·exact Over.to_below (b := w1.heap.size) (Over.drew (Over.put14 hov (by omega) _ _ _ _ _ _ _ _ _ _ _ _ _ _)) (by omega)) : P := h
theorem wG7 {P : Prop} (h : P := by
 go_enter Tryz.func27, Tryz.ntmps27
 go_wp2_with fail
 go_at_call 49; refine (HV.out _).mono ?_; rintro e1 w1 ⟨rfl, hb1⟩; ((obtain ⟨hc1, hf1, hs1⟩ := qR hb1); (try have := qN0 w w1); (try have := qN1 w w1))
 have HB1 := hid hb1
 go_wp2_with fail
 go_at_call 50; refine (HRR.out w1.heap.size _ ?hrun ?hlow).mono ?_
 case hrun => exact IsRun.start op known _ _ w1 (Hf.out.below qL) (Hk.out.below qL) (Hn.out.below qL)
 case hlow => exact fun c hc => hc.elim
 rintro e2 w2 ⟨rfl, hrun2, ho2⟩
 have HR2 := hid hrun2
 have HO2 := hid ho2
 clear hrun2
 ((obtain ⟨hc2, hf2, hs2⟩ := qO ho2); (try have := qN0 w w2); (try have := qN1 w w2); (try have := qN0 w1 w2))
 go_wp2_with fail
 first
  | clear tg59
    go_at_call 52; refine (HM.out w1.heap.size _ HR2.out).mono ?_
    exact sG3
  | clear tg60
    go_at_call 56; refine (HM.out w1.heap.size _ HR2.out).mono ?_
    exact sG3) : P := h
theorem next_insert (op : Bt.Op) (known : List Bt.Page) (fa ka : Option Addr) (fn fc kn kc : Nat) (w : World) (hf : PgRow w (.slice fa fn fc) op.fresh) (hk : PgRow w (.slice ka kn kc) known) (hn : NoneAt w)
 (hkind : op.kind = 2) (hv : Bt.isKey op.key = true) (hto : Bt.validP op.to = true) (p : Bt.Page) (q : Bt.Ptr) (lv : Int) (hl : Bt.latest known 96 = some p) (hlk : Bt.locked p = false) (hr : Bt.readRoot p = some (q, lv))
 (s2 : Bt.St) (hsn : s2.need = []) (hso : Sorted2 s2.writes) (o : Bt.Out) (hoF : s2.ended = false → o = { s2.out with hops := 0, height := 0, dead := false, unposted := false }) (hoT : s2.ended = true → o = s2.out)
 (HM : Hid (∀ b w', IsRun (fun _ => False) op known (.slice fa fn fc) (.slice ka kn kc) { ({} : Bt.St) with rootPage := p, root := q } b w' →
  Calls Tryz.prog 52 #[.pointer (some ⟨b, 0, none⟩)] w' (RunPost (fun _ => False) op known (.slice fa fn fc) (.slice ka kn kc) s2 b (.tuple #[]) w'))) :
 Calls Tryz.prog 27 #[.agg (opCells op (.slice fa fn fc)), .slice ka kn kc] w (NextPost s2.writes o w) := by
 have Hf := hid hf
 have Hk := hid hk
 have Hn := hid hn
 have HV := hid (fun wx => isValid_insert op (.slice fa fn fc) wx hkind hv hto)
 have HRR := hid (fun b wx h1 h2 => readRoot_ok (fun _ => False) op known (.slice fa fn fc) (.slice ka kn kc) {} b p q lv wx h1 h2 hl hlk hr)
 have b1 : (op.kind == 1) = false := by simp [hkind]
 have b2 : (op.kind == 2) = true := by simp [hkind]
 clear hf hk hn hkind hv hto hl hlk hr
 unfold opCells at HV ⊢
 have tg59 := trivial
 exact wG7
end Go.Proofs.YtjmpekanlmepmaaGreatDoor
