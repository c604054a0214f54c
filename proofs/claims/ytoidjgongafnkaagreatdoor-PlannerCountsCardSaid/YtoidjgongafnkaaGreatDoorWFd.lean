/- The reference's fabric: a batch is posted. -/
import Derived.Test.YtoidjgongafnkaaGreatDoorQi
import Derived.Test.YtoidjgongafnkaaGreatDoorWFq
set_option linter.unusedVariables false
set_option linter.unusedSimpArgs false
set_option linter.unusedSectionVars false
set_option linter.constructorNameAsVariable false
namespace Go.Proofs.YtoidjgongafnkaaGreatDoor
open Go.RowKit

/-- The queues behind a batch. -/
def postQ (n : Nat) (l : List Cm.Vb) : List (List Cm.Pend) := (List.range n).map fun k => (Cm.pend l).filter (fun x => x.v.node = k)
theorem pend_snoc (l : List Cm.Vb) (x : Cm.Vb) : Cm.pend (l ++ [x]) = Cm.pend l ++ [⟨x, 0, [], l.length⟩] := by
  simp [Cm.pend, List.zipIdx_append]
theorem pend_len (l : List Cm.Vb) : (Cm.pend l).length = l.length := by simp [Cm.pend]
theorem postQ_len (n : Nat) (l : List Cm.Vb) : (postQ n l).length = n := by simp [postQ]
theorem postQ_get (n : Nat) (l : List Cm.Vb) (k : Nat) (q : List Cm.Pend) (h : (postQ n l)[k]? = some q) : k < n ∧ q = (Cm.pend l).filter (fun x => x.v.node = k) := by
  unfold postQ at h
  rw [List.getElem?_map] at h
  rcases hr : (List.range n)[k]? with _ | j
  · rw [hr] at h; simp at h
  · rw [hr] at h
    simp only [Option.map_some, Option.some.injEq] at h
    obtain ⟨h1, h2⟩ := List.getElem?_eq_some_iff.1 hr
    simp at h1 h2
    subst h2
    exact ⟨h1, h.symm⟩
theorem postQ_at (n : Nat) (l : List Cm.Vb) (k : Nat) (h : k < n) : (postQ n l)[k]? = some ((Cm.pend l).filter (fun x => x.v.node = k)) := by
  simp [postQ, h]
theorem postQ_nil (n : Nat) (q : List (List Cm.Pend)) (hl : q.length = n) (hq : ∀ l ∈ q, l = []) : q = postQ n [] := by
  apply List.ext_getElem?
  intro k
  by_cases hk : k < n
  · rw [postQ_at n [] k hk, List.getElem?_eq_getElem (by omega), hq _ (List.getElem_mem ..)]
    simp [Cm.pend]
  · rw [List.getElem?_eq_none (by omega), List.getElem?_eq_none (by rw [postQ_len]; omega)]
theorem postQ_short (n : Nat) (l : List Cm.Vb) (k : Nat) : ((Cm.pend l).filter (fun x => x.v.node = k)).length ≤ l.length := by
  have := List.length_filter_le (fun x : Cm.Pend => decide (x.v.node = k)) (Cm.pend l)
  rw [pend_len] at this
  exact this
theorem AsksAt.mod {S : Nat → Prop} {w w' : World} {lo : Nat} {v : Value} {l : List Cm.Vb} (h : AsksAt w lo v l) (hm : Mod S w w') (hs : ∀ k, S k → ∃ t' cs', Blk w k t' cs' ∧ t' ≠ 147 ∧ t' ≠ 33) : AsksAt w' lo v l := by
  obtain ⟨al, h1, h2, h3⟩ := h
  refine ⟨al, h1, h2.mod hm (fun k hk => ?_), fun t ht => (h3 t ht).mod hm (fun k hk => ?_)⟩
  · obtain ⟨t', cs', a, b, c⟩ := hs k hk
    exact .inr ⟨t', cs', a, b⟩
  · obtain ⟨t', cs', a, b, c⟩ := hs k hk
    exact .inr ⟨t', cs', a, c⟩
/-- The cells of a batch's verb. -/
theorem AsksAt.verb {w : World} {lo : Nat} {p : Option Addr} {c : Nat} {l : List Cm.Vb} (h : AsksAt w lo (.slice p l.length c) l) (i : Nat) (x : Cm.Vb) (hi : l[i]? = some x) :
    ∃ b o pv cv, p = some ⟨b, o, none⟩ ∧ (∃ cs, Blk w b 147 cs) ∧ WordsAt w lo (.slice pv x.words.length cv) x.words ∧ ∀ j, j < 9 → w.cell? ⟨b, o + i * 9 + j, none⟩ = (vbArr x (.slice pv x.words.length cv))[j]? := by
  obtain ⟨al, h1, h2, h3⟩ := h
  have hil := (List.getElem?_eq_some_iff.1 hi).1
  have hal : al.length = l.length := by rw [← h1]; simp
  obtain ⟨b, o, cap, cs, hv, hlo, hcap, hb, hc⟩ : ∃ b o cap cs, Value.slice p l.length c = .slice (some ⟨b, o, none⟩) al.length cap ∧ lo ≤ b ∧ al.length ≤ cap ∧ Blk w b 147 cs ∧ ∀ j u, (askCells al)[j]? = some u → cs[o + j]? = some u := by
    rcases h2.2 with ⟨h0, _⟩ | h0
    · omega
    · exact h0
  obtain ⟨t, ht⟩ : ∃ t, al[i]? = some t := ⟨_, List.getElem?_eq_getElem (by omega)⟩
  have htx : t.1 = x := by
    have : (al.map (·.1))[i]? = some x := by rw [h1]; exact hi
    rw [List.getElem?_map, ht] at this
    simpa using this
  subst htx
  have hw := h3 t (List.mem_of_getElem? ht)
  obtain ⟨pv, cv, hpv⟩ := RowAt.shape hw
  rw [hpv] at hw
  simp only [Value.slice.injEq] at hv
  refine ⟨b, o, pv, cv, hv.1, ⟨cs, hb⟩, hw, fun j hj => ?_⟩
  have hf := flat_at (fun t : Cm.Vb × Value => vbCells t.1 t.2) 9 (fun _ => rfl) al i t ht j hj
  rw [hpv] at hf
  obtain ⟨u, hu⟩ : ∃ u, (vbCells t.1 (.slice pv t.1.words.length cv))[j]? = some u := ⟨_, List.getElem?_eq_getElem (by simpa [vbCells] using hj)⟩
  have := hc (i * 9 + j) u (hf.trans hu)
  rw [← Nat.add_assoc] at this
  rw [hb.cell, this, ← hu]
  simp [vbArr, vbCells]

theorem infoDone : (Tryz.prog.info? 151).map (fun i => (i.zero, i.size, i.bytes)) = some (some (.agg #[.int .i64 0, .slice none 0 0]), 2, 32) := by kernel_rfl
theorem infoBool : (Tryz.prog.info? 4).map (fun i => (i.zero, i.size, i.bytes)) = some (some (.bool false), 1, 1) := by kernel_rfl
theorem made_cells (z : Array Value) (n j : Nat) (hj : j < n) : (madeCells z n)[j]? = some (z[j % z.size]!) := by simp [madeCells, hj]
theorem make_done (W : World) (L : Nat) (hL : L ≤ 1000) : (Instr.makeSlice 50 (.int .i64 (L : Int)) (.int .i64 (L : Int))).run Tryz.prog W = .ok (.slice (some ⟨W.heap.size, 0, none⟩) L L) (W.alloc (.cells (madeCells #[.int .i64 0, .slice none 0 0] (L * 2)) 151)) := by
  obtain ⟨i0, hi, hz0, hz1, hz2⟩ := info_parts infoDone
  have := run_make (P := Tryz.prog) W 50 151 i0 _ Tryz.underlying50 hi hz0 .i64 .i64 L L (by omega) (by omega) (by rw [hz2]; omega) (by omega)
  rw [hz1] at this
  simpa [Value.cells] using this
theorem make_bool (W : World) (L : Nat) (hL : L ≤ 1000) : (Instr.makeSlice 63 (.int .i64 (L : Int)) (.int .i64 (L : Int))).run Tryz.prog W = .ok (.slice (some ⟨W.heap.size, 0, none⟩) L L) (W.alloc (.cells (madeCells #[.bool false] L) 4)) := by
  obtain ⟨i0, hi, hz0, hz1, hz2⟩ := info_parts infoBool
  have := run_make (P := Tryz.prog) W 63 4 i0 _ Tryz.underlying63 hi hz0 .i64 .i64 L L (by omega) (by omega) (by rw [hz2]; omega) (by omega)
  rw [hz1] at this
  simpa [Value.cells] using this
def PostLoop1 (L : Nat) (W : World) (iv : Value) (wr : World) : Prop := ∃ i : Nat, i ≤ L ∧ iv = .int .i64 i ∧ Hid (Below W.heap.size W wr)
def PostLoop2 (g : Geo) (B : Nat) (l : List Cm.Vb) (W : World) (iv : Value) (wr : World) : Prop := ∃ i : Nat, i ≤ l.length ∧ iv = .int .i64 i ∧ Hid (g.Pairs wr B (postQ g.mb.length (l.take i)) ∧ Mod (fun k => k = g.pr) W wr)
def PostCut (g : Geo) (L : Nat) (W wx : World) : Prop :=
  ∃ dn hv csd csh, W.heap.size ≤ dn ∧ W.heap.size ≤ hv ∧ Mod (fun k => k = g.cl) W wx ∧ g.Client wx true (.slice (some ⟨dn, 0, none⟩) L L) (.slice (some ⟨hv, 0, none⟩) L L) ∧ Blk wx dn 151 csd ∧ Blk wx hv 4 csh ∧
    ∀ i, i < L → csh[i]? = some (.bool false) ∧ csd[i * 2]? = some (.int .i64 0) ∧ csd[i * 2 + 1]? = some (.slice none 0 0)
def FPost (g : Geo) (B : Nat) (l : List Cm.Vb) (w : World) (e : Ending) (w' : World) : Prop :=
  e = .returned (.int .i64 0) ∧ ∃ dn hv, w.heap.size ≤ dn ∧ w.heap.size ≤ hv ∧ g.Client w' true (.slice (some ⟨dn, 0, none⟩) l.length l.length) (.slice (some ⟨hv, 0, none⟩) l.length l.length) ∧ g.Pairs w' B (postQ g.mb.length l) ∧
    DnAt w' B dn hv l.length l.length (l.map fun _ => none) ∧ Mod (fun k => k = g.pr ∨ k = g.cl) w w'

theorem post_leafA (g : Geo) (L : Nat) (w : World) (on : Bool) (vd vh : Value) (h : g.Client w on vd vh) : PostCut g L w ((((((w.setCell ⟨g.cl, 2, none⟩ (.bool true)).setCell ⟨g.cl, 3, none⟩ (.slice (some ⟨w.heap.size, 0, none⟩) L L)).setCell ⟨g.cl, 4, none⟩ (.slice (some ⟨w.heap.size + 1, 0, none⟩) L L)).alloc (.cells (madeCells #[.int .i64 0, .slice none 0 0] (L * 2)) 151)).alloc (.cells (madeCells #[.bool false] L) 4)).drew) := by
  obtain ⟨csc, tr, po, BC, c0, c1, c2, c3, c4, c5, c6⟩ := h
  have hs : 7 ≤ csc.size := by have := (Array.getElem?_eq_some_iff.1 c6).1; omega
  have m1 := ((((((Mod.refl (fun k => k = g.cl) w).put (p := ⟨g.cl, 2, none⟩) (.inl rfl) (.bool true)).put (p := ⟨g.cl, 3, none⟩) (.inl rfl) (.slice (some ⟨w.heap.size, 0, none⟩) L L)).put (p := ⟨g.cl, 4, none⟩) (.inl rfl) (.slice (some ⟨w.heap.size + 1, 0, none⟩) L L)).alloc (.cells (madeCells #[.int .i64 0, .slice none 0 0] (L * 2)) 151)).alloc (.cells (madeCells #[.bool false] L) 4)).drew
  have b1 := ((((BC.put 2 (.bool true)).put 3 (.slice (some ⟨w.heap.size, 0, none⟩) L L)).put 4 (.slice (some ⟨w.heap.size + 1, 0, none⟩) L L)).alloc (.cells (madeCells #[.int .i64 0, .slice none 0 0] (L * 2)) 151)).alloc (.cells (madeCells #[.bool false] L) 4)
  have e : (((w.setCell ⟨g.cl, 2, none⟩ (.bool true)).setCell ⟨g.cl, 3, none⟩ (.slice (some ⟨w.heap.size, 0, none⟩) L L)).setCell ⟨g.cl, 4, none⟩ (.slice (some ⟨w.heap.size + 1, 0, none⟩) L L)).heap.size = w.heap.size := by simp
  generalize ((w.setCell ⟨g.cl, 2, none⟩ (.bool true)).setCell ⟨g.cl, 3, none⟩ (.slice (some ⟨w.heap.size, 0, none⟩) L L)).setCell ⟨g.cl, 4, none⟩ (.slice (some ⟨w.heap.size + 1, 0, none⟩) L L) = w' at *
  have d1 := made12 (w := w') (cs := (madeCells #[.int .i64 0, .slice none 0 0] (L * 2))) (t := 151) (o := (.cells (madeCells #[.bool false] L) 4))
  have d2 := made22 (w := w') (o := (.cells (madeCells #[.int .i64 0, .slice none 0 0] (L * 2)) 151)) (cs := (madeCells #[.bool false] L)) (t := 4)
  rw [e] at d1 d2
  refine ⟨w.heap.size, w.heap.size + 1, madeCells #[.int .i64 0, .slice none 0 0] (L * 2), madeCells #[.bool false] L, by omega, by omega, m1, ⟨_, tr, po, b1, ?_, ?_, ?_, ?_, ?_, ?_, ?_⟩, d1, d2, fun i hi => ⟨?_, ?_, ?_⟩⟩
  · simp [Array.getElem?_setIfInBounds, c0]
  · simp [Array.getElem?_setIfInBounds, c1]
  · simp [Array.getElem?_setIfInBounds]; omega
  · simp [Array.getElem?_setIfInBounds]; omega
  · simp [Array.getElem?_setIfInBounds]; omega
  · simp [Array.getElem?_setIfInBounds, c5]
  · simp [Array.getElem?_setIfInBounds, c6]
  · rw [made_cells _ _ _ hi]; simp [Nat.mod_one]
  · rw [made_cells _ _ _ (by omega)]; simp
  · rw [made_cells _ _ _ (by omega)]; simp [Nat.add_mod]
theorem post_leafB (g : Geo) (L : Nat) (w : World) (on : Bool) (vd vh : Value) (h : g.Client w on vd vh) : PostCut g L w ((((((w.setCell ⟨g.cl, 2, none⟩ (.bool true)).setCell ⟨g.cl, 3, none⟩ (.slice (some ⟨w.heap.size + 1, 0, none⟩) L L)).setCell ⟨g.cl, 4, none⟩ (.slice (some ⟨w.heap.size, 0, none⟩) L L)).alloc (.cells (madeCells #[.bool false] L) 4)).alloc (.cells (madeCells #[.int .i64 0, .slice none 0 0] (L * 2)) 151)).drew) := by
  obtain ⟨csc, tr, po, BC, c0, c1, c2, c3, c4, c5, c6⟩ := h
  have hs : 7 ≤ csc.size := by have := (Array.getElem?_eq_some_iff.1 c6).1; omega
  have m1 := ((((((Mod.refl (fun k => k = g.cl) w).put (p := ⟨g.cl, 2, none⟩) (.inl rfl) (.bool true)).put (p := ⟨g.cl, 3, none⟩) (.inl rfl) (.slice (some ⟨w.heap.size + 1, 0, none⟩) L L)).put (p := ⟨g.cl, 4, none⟩) (.inl rfl) (.slice (some ⟨w.heap.size, 0, none⟩) L L)).alloc (.cells (madeCells #[.bool false] L) 4)).alloc (.cells (madeCells #[.int .i64 0, .slice none 0 0] (L * 2)) 151)).drew
  have b1 := ((((BC.put 2 (.bool true)).put 3 (.slice (some ⟨w.heap.size + 1, 0, none⟩) L L)).put 4 (.slice (some ⟨w.heap.size, 0, none⟩) L L)).alloc (.cells (madeCells #[.bool false] L) 4)).alloc (.cells (madeCells #[.int .i64 0, .slice none 0 0] (L * 2)) 151)
  have e : (((w.setCell ⟨g.cl, 2, none⟩ (.bool true)).setCell ⟨g.cl, 3, none⟩ (.slice (some ⟨w.heap.size + 1, 0, none⟩) L L)).setCell ⟨g.cl, 4, none⟩ (.slice (some ⟨w.heap.size, 0, none⟩) L L)).heap.size = w.heap.size := by simp
  generalize ((w.setCell ⟨g.cl, 2, none⟩ (.bool true)).setCell ⟨g.cl, 3, none⟩ (.slice (some ⟨w.heap.size + 1, 0, none⟩) L L)).setCell ⟨g.cl, 4, none⟩ (.slice (some ⟨w.heap.size, 0, none⟩) L L) = w' at *
  have d1 := made12 (w := w') (cs := (madeCells #[.bool false] L)) (t := 4) (o := (.cells (madeCells #[.int .i64 0, .slice none 0 0] (L * 2)) 151))
  have d2 := made22 (w := w') (o := (.cells (madeCells #[.bool false] L) 4)) (cs := (madeCells #[.int .i64 0, .slice none 0 0] (L * 2))) (t := 151)
  rw [e] at d1 d2
  refine ⟨w.heap.size + 1, w.heap.size, madeCells #[.int .i64 0, .slice none 0 0] (L * 2), madeCells #[.bool false] L, by omega, by omega, m1, ⟨_, tr, po, b1, ?_, ?_, ?_, ?_, ?_, ?_, ?_⟩, d2, d1, fun i hi => ⟨?_, ?_, ?_⟩⟩
  · simp [Array.getElem?_setIfInBounds, c0]
  · simp [Array.getElem?_setIfInBounds, c1]
  · simp [Array.getElem?_setIfInBounds]; omega
  · simp [Array.getElem?_setIfInBounds]; omega
  · simp [Array.getElem?_setIfInBounds]; omega
  · simp [Array.getElem?_setIfInBounds, c5]
  · simp [Array.getElem?_setIfInBounds, c6]
  · rw [made_cells _ _ _ hi]; simp [Nat.mod_one]
  · rw [made_cells _ _ _ (by omega)]; simp
  · rw [made_cells _ _ _ (by omega)]; simp [Nat.add_mod]
theorem post_fin (g : Geo) (B : Nat) (l : List Cm.Vb) (w w2 w4 wc wf : World) (dn hv : Nat) (csd csh : Array Value) (vd vh : Value) (hg : g.At w B) (hb : Below w.heap.size w w2) (hp : g.Pairs w4 B (postQ g.mb.length l)) (h24 : Mod (fun k => k = g.pr) w2 w4) (hn : g.cl ≠ g.pr) (h4c : Mod (fun k => k = g.cl) w4 wc)
    (hd : w4.heap.size ≤ dn) (hv' : w4.heap.size ≤ hv) (BD : Blk wc dn 151 csd) (BH : Blk wc hv 4 csh) (hz : ∀ i, i < l.length → csh[i]? = some (.bool false) ∧ csd[i * 2]? = some (.int .i64 0) ∧ csd[i * 2 + 1]? = some (.slice none 0 0))
    (hm : Mod (fun k => k = g.cl) wc wf) (hc : g.Client wf true (.slice (some ⟨dn, 0, none⟩) l.length l.length) (.slice (some ⟨hv, 0, none⟩) l.length l.length)) : FPost g B l w (.returned (.int .i64 0)) wf := by
  have s1 := hb.size
  have s2 := h24.size
  have s3 := hg.size
  have s4 := hg.lc
  have hmf := h4c.trans hm
  refine ⟨rfl, dn, hv, by omega, by omega, hc, hp.mod hmf (fun e => hn e.symm) (fun k hk => .inl (by omega)), ⟨by omega, by omega, csd, csh, hm.blk BD (by omega), hm.blk BH (by omega), by simp, by simp, fun i o ho => ?_⟩, ?_⟩
  · have hi : i < l.length := by have := (List.getElem?_eq_some_iff.1 ho).1; simpa using this
    have ho2 : o = none := by
      rw [List.getElem?_map] at ho
      rcases hl : l[i]? with _ | x
      · rw [hl] at ho; simp at ho
      · rw [hl] at ho; simpa using ho.symm
    subst ho2
    obtain ⟨a, b, c⟩ := hz i hi
    exact ⟨a, b, _, c, fun ws hw => by simp at hw⟩
  · exact (((Mod.of_below hb).trans (h24.imp (fun k hk => .inl hk))).trans (h4c.imp (fun k hk => .inr hk))).trans (hm.imp (fun k hk => .inr hk))

set_option maxRecDepth 10000 in
set_option maxHeartbeats 4000000 in
theorem fabPost_ok (g : Geo) (B lo0 : Nat) (l : List Cm.Vb) (q : List (List Cm.Pend)) (vd vh : Value) (p : Option Addr) (c : Nat) (w : World) (hg : g.At w B) (hc : g.Client w false vd vh) (hp : g.Pairs w B q) (hq : ∀ l ∈ q, l = [])
    (hl : AsksAt w lo0 (.slice p l.length c) l) (hl1 : 1 ≤ l.length) (hl2 : l.length ≤ 100) (hok : ∀ x ∈ l, x.Ok ∧ x.node < g.mb.length ∧ x.words.length ≤ 100) :
    Calls Tryz.prog 25 #[.pointer (some ⟨g.f, 0, none⟩), .int .i64 0, .slice p l.length c] w (FPost g B l w) := by
  have HA : Hid (∀ W, Below w.heap.size w W → Calls Tryz.prog 52 #[.pointer (some ⟨g.f, 0, none⟩), .int .i64 0] W fun e w' => e = .returned (.bool true) ∧ W = w') := Lib.hid (fun W hb => alive_ok g B false vd vh W (hg.below hb) (hc.below hb))
  have HG := Lib.hid (And.intro hg (And.intro hc (And.intro hp (And.intro hl (And.intro hok hq)))))
  have hf := hg.fab
  unfold Geo.fcs at hf
  have kf := hf.cell
  have lf := hf.lt
  obtain ⟨csc, tr, po, hb, c0, c1, c2, c3, c4, c5, c6⟩ := hc
  have k2 : w.cell? ⟨g.cl, 2, none⟩ = some (.bool false) := (hb.cell _).trans c2
  have ll := hb.lt
  clear hg hp hq hl hok hf hb c0 c1 c2 c3 c4 c5 c6
  have b0 : ((l.length : Int) == 0) = false := by rw [beq_eq_false_iff_ne]; omega
  have b1 : decide ((1024 : Int) < l.length) = false := by simp; omega
  go_enter Tryz.func25, Tryz.ntmps25
  go_wp2_with fail
  go_at_call 52
  refine (HA.out _ (Below.refl _ _)).mono ?_
  rintro e w1 ⟨rfl, rfl⟩
  go_wp2_with fail
  go_loopw [7] (fun iv wr => PostLoop1 l.length w iv wr) (fun iv _ => ((l.length : Int) - intOf iv).toNat)
  case atStart => exact ⟨0, by omega, rfl, Lib.hid (Below.refl _ _)⟩
  case round =>
    obtain ⟨i, hi, rfl, H⟩ := hrel
    clear kf lf k2 ll
    have hf := (HG.out.1.below H.out).fab
    unfold Geo.fcs at hf
    have kf := hf.cell
    have lf := hf.lt
    clear hf
    by_cases hi2 : i < l.length
    · obtain ⟨x, hx⟩ : ∃ x, l[i]? = some x := ⟨_, List.getElem?_eq_getElem hi2⟩
      obtain ⟨b, o, pv, cv, rfl, ⟨csb, hbl⟩, hwx, hc9⟩ := AsksAt.verb (HG.out.2.2.2.1.below H.out) i x hx
      have hxo := HG.out.2.2.2.2.1 x (List.mem_of_getElem? hx)
      have e0 : wr.cell? ⟨b, o + i * 9, none⟩ = some (.int .i64 x.kind) := hc9 0 (by omega)
      have e1 : wr.cell? ⟨b, o + i * 9 + 1, none⟩ = some (.int .i64 x.node) := hc9 1 (by omega)
      have e2 : wr.cell? ⟨b, o + i * 9 + 2, none⟩ = some (.int .i64 x.at_) := hc9 2 (by omega)
      have e3 : wr.cell? ⟨b, o + i * 9 + 3, none⟩ = some (.int .i64 x.n) := hc9 3 (by omega)
      have e4 : wr.cell? ⟨b, o + i * 9 + 4, none⟩ = some (.int .u64 x.old) := hc9 4 (by omega)
      have e5 : wr.cell? ⟨b, o + i * 9 + 5, none⟩ = some (.int .u64 x.new) := hc9 5 (by omega)
      have e6 : wr.cell? ⟨b, o + i * 9 + 6, none⟩ = some (.slice pv x.words.length cv) := hc9 6 (by omega)
      have e7 : wr.cell? ⟨b, o + i * 9 + 7, none⟩ = some (.int .u64 1) := hc9 7 (by omega)
      have e8 : wr.cell? ⟨b, o + i * 9 + 8, none⟩ = some (.int .i64 1) := hc9 8 (by omega)
      have iz0 : (0 : Int) ≤ i := by omega
      have iz1 : (i : Int) < l.length := by omega
      have HVa : Hid (∀ W, Calls Tryz.prog 53 #[.agg #[.int .i64 x.kind, .int .i64 x.node, .int .i64 x.at_, .int .i64 x.n, .int .u64 x.old, .int .u64 x.new, .slice pv x.words.length cv, .int .u64 1, .int .i64 1], .int .i64 (g.mb.length : Nat), .int .i64 (108 : Nat)] W fun e w' => e = .returned (.int .i64 0) ∧ Below W.heap.size W w') := Lib.hid (fun W => refValid_ok x pv cv g.mb.length W hxo.1 (by have := HG.out.1.m4; omega) hxo.2.1)
      have hbl := hbl.lt
      clear hc9 hwx hxo hx
      go_wp2_with fail
      refine wp_region_held_drew (S := SteadyAll _) (by kernel_rfl) (SteadyAll.of (Below.refl _ _).drew) ?_
      intro hSt
      refine wpAnyH_seq (is := [0, 1, 2, 3, 4, 5, 6, 7, 8, 9, 10, 11, 12]) (by kernel_rfl) (by kernel_rfl) (fun _ _ d _ _ h => by cases d <;> exact h) (by assumption) ?_
      iterate 13 (first | (refine TakeSeq.step (v := undef) rfl (Or.inr ⟨by rfl, rfl⟩) ?_; simp only [Act.put, List.setIfInBounds_toArray, List.set_cons_zero, List.set_cons_succ, List.getElem_toArray, List.getElem_cons_zero, List.getElem_cons_succ]) | (refine TakeSeq.step (v := ?_) rfl (Or.inl ⟨by rfl, ?_⟩) ?_; rotate_left 1; (focus (intro wq hSq; have hrd := hSq.rule; go_simp; with_reducible rfl)); simp only [Act.put, List.setIfInBounds_toArray, List.set_cons_zero, List.set_cons_succ, List.getElem_toArray, List.getElem_cons_zero, List.getElem_cons_succ]))
      refine TakeSeq.done ?_
      refine wpAnyH_ready (rs := [13]) (by kernel_rfl) (by simp) ?_
      refine AllReadyH.cons rfl (fun K hK => ?_) (AllReadyH.nil)
      rw [if_pos (by rfl)]
      go_simp
      go_at_call 53; refine (HVa.out _).mono ?_; rintro e w2 ⟨rfl, hb2⟩
      go_wp2_with fail
      refine hK.out _ _ (SteadyAll.of (by (repeat (first | with_reducible exact Below.refl _ _ | with_reducible assumption | with_reducible refine Below.setCell ?_ (by first | (simp; done) | (simp; omega)) _ | with_reducible refine below_alloc ?_ _ | with_reducible refine below_drewN ?_ _ | with_reducible refine Below.drew ?_ | with_reducible refine below_step ?_ (by assumption))))) (fun hHeld => ?_)
      clear hK K
      refine wpAnyH_seq (is := [14]) (by kernel_rfl) (by kernel_rfl) (fun _ _ d _ _ h => by cases d <;> exact h) (by assumption) ?_
      iterate 1 (first | (refine TakeSeq.step (v := undef) rfl (Or.inr ⟨by rfl, rfl⟩) ?_; simp only [Act.put, List.setIfInBounds_toArray, List.set_cons_zero, List.set_cons_succ, List.getElem_toArray, List.getElem_cons_zero, List.getElem_cons_succ]) | (refine TakeSeq.step (v := ?_) rfl (Or.inl ⟨by rfl, ?_⟩) ?_; rotate_left 1; (focus (intro wq hSq; have hrd := hSq.rule; go_simp; with_reducible rfl)); simp only [Act.put, List.setIfInBounds_toArray, List.set_cons_zero, List.set_cons_succ, List.getElem_toArray, List.getElem_cons_zero, List.getElem_cons_succ]))
      refine TakeSeq.done ?_
      refine wpAnyH_done (by kernel_rfl) ?_ _
      have HB2 : Hid (Below w.heap.size w w2) := Lib.hid (by have := H.out; (repeat (first | with_reducible exact Below.refl _ _ | with_reducible assumption | with_reducible refine Below.setCell ?_ (by first | (simp; done) | (simp; omega)) _ | with_reducible refine below_alloc ?_ _ | with_reducible refine below_drewN ?_ _ | with_reducible refine Below.drew ?_ | with_reducible refine below_step ?_ (by assumption))))
      clear hb2 hSt H
      go_wp2_with fail
      exact ⟨⟨i + 1, by omega, by simp, HB2⟩, by simp [intOf]; omega⟩
    · obtain rfl : i = l.length := by omega
      have bz : ¬ l.length < l.length := by omega
      obtain ⟨w2, hw2, HBW⟩ : ∃ w2, w2 = wr ∧ Hid (Below w.heap.size w w2) := ⟨wr, rfl, H⟩
      subst hw2
      clear kf lf H bz hi2 hi
      have HNE : Hid ((g.f ≠ g.pr ∧ g.nd ≠ g.pr ∧ g.lv ≠ g.pr ∧ g.cl ≠ g.pr) ∧ g.cl ≠ g.f) := Lib.hid (by
        obtain ⟨csn, hn, -⟩ := HG.out.1.nodes
        obtain ⟨csl, hv, -⟩ := HG.out.1.live
        obtain ⟨-, csp, hpp, -⟩ := HG.out.2.2.1
        obtain ⟨csc, _, _, hcc, -⟩ := HG.out.2.1
        exact ⟨⟨HG.out.1.fab.ne hpp (by decide), hn.ne hpp (by decide), hv.ne hpp (by decide), hcc.ne hpp (by decide)⟩, hcc.ne HG.out.1.fab (by decide)⟩)
      go_wp2_with fail
      go_loopw [9] (fun iv wr2 => PostLoop2 g B l w2 iv wr2) (fun iv _ => ((l.length : Int) - intOf iv).toNat)
      case atStart => exact ⟨0, by omega, rfl, Lib.hid ⟨by
        rw [List.take_zero, ← postQ_nil g.mb.length q HG.out.2.2.1.1 HG.out.2.2.2.2.2]
        exact HG.out.2.2.1.below HBW.out, Mod.refl _ _⟩⟩
      case round =>
        obtain ⟨i, hi, rfl, H⟩ := hrel
        have hAt := (HG.out.1.below HBW.out).mod H.out.2 HNE.out.1.1 HNE.out.1.2.1 HNE.out.1.2.2.1
        have hf := hAt.fab
        unfold Geo.fcs at hf
        have kf := hf.cell
        have lf := hf.lt
        have hsB := hAt.size
        have HAt := Lib.hid hAt
        obtain ⟨csl, hlv, hl0⟩ := hAt.live
        have kl : wr.cell? ⟨g.lv, 0, none⟩ = some (.slice (some ⟨g.pr, 0, none⟩) g.mb.length g.cp) := (hlv.cell _).trans hl0
        have llv := hlv.lt
        have hm4 := hAt.m4
        have hlp := hAt.lp
        clear hf hlv hl0 hAt
        by_cases hi2 : i < l.length
        · obtain ⟨x, hx⟩ : ∃ x, l[i]? = some x := ⟨_, List.getElem?_eq_getElem hi2⟩
          have hAsk : AsksAt wr lo0 (.slice p l.length c) l := (HG.out.2.2.2.1.below HBW.out).mod H.out.2 (fun k hk => by
            obtain ⟨-, csp, hpp, -⟩ := HG.out.2.2.1.below HBW.out
            exact ⟨_, _, hk ▸ hpp, by decide, by decide⟩)
          obtain ⟨b, o, pv, cv, rfl, ⟨csb, hbv⟩, hwx, hc9⟩ := AsksAt.verb hAsk i x hx
          have hbl := hbv.lt
          have hxo := HG.out.2.2.2.2.1 x (List.mem_of_getElem? hx)
          have e0 : wr.cell? ⟨b, o + i * 9, none⟩ = some (.int .i64 x.kind) := hc9 0 (by omega)
          have e1 : wr.cell? ⟨b, o + i * 9 + 1, none⟩ = some (.int .i64 x.node) := hc9 1 (by omega)
          have e2 : wr.cell? ⟨b, o + i * 9 + 2, none⟩ = some (.int .i64 x.at_) := hc9 2 (by omega)
          have e3 : wr.cell? ⟨b, o + i * 9 + 3, none⟩ = some (.int .i64 x.n) := hc9 3 (by omega)
          have e4 : wr.cell? ⟨b, o + i * 9 + 4, none⟩ = some (.int .u64 x.old) := hc9 4 (by omega)
          have e5 : wr.cell? ⟨b, o + i * 9 + 5, none⟩ = some (.int .u64 x.new) := hc9 5 (by omega)
          have e6 : wr.cell? ⟨b, o + i * 9 + 6, none⟩ = some (.slice pv x.words.length cv) := hc9 6 (by omega)
          have e7 : wr.cell? ⟨b, o + i * 9 + 7, none⟩ = some (.int .u64 1) := hc9 7 (by omega)
          have e8 : wr.cell? ⟨b, o + i * 9 + 8, none⟩ = some (.int .i64 1) := hc9 8 (by omega)
          have iz0 : (0 : Int) ≤ i := by omega
          have iz1 : (i : Int) < l.length := by omega
          have in0 : (0 : Int) ≤ x.node := by omega
          have in1 : (x.node : Int) < g.mb.length := by have := hxo.2.1; omega
          obtain ⟨hpl, csp, hpp, hps⟩ := H.out.1
          have hxk : (postQ g.mb.length (l.take i))[x.node]? = some ((Cm.pend (l.take i)).filter (fun y => y.v.node = x.node)) := postQ_at _ _ _ hxo.2.1
          obtain ⟨-, -, hn2, vq, hv3, hvq⟩ := hps _ _ hxk
          have hqs : ((Cm.pend (l.take i)).filter (fun y => y.v.node = x.node)).length ≤ 100 := by
            have h1 := postQ_short g.mb.length (l.take i) x.node
            have h2 : (l.take i).length ≤ 100 := by rw [List.length_take]; omega
            omega
          have HPP : Hid (∀ W, Below wr.heap.size wr W → Calls Tryz.prog 54 #[.pointer (some ⟨g.pr, x.node * 4, none⟩), .agg #[.int .i64 x.kind, .int .i64 x.node, .int .i64 x.at_, .int .i64 x.n, .int .u64 x.old, .int .u64 x.new, .slice pv x.words.length cv, .int .u64 1, .int .i64 1], .int .i64 108, .int .i64 (i : Nat)] W (PPost g.pr (x.node * 4) B csp ((Cm.pend (l.take i)).filter (fun y => y.v.node = x.node) ++ [⟨x, 0, [], i⟩]) W)) := Lib.hid (fun W hbW =>
            pairPost_ok x pv cv lo0 B g.pr (x.node * 4) i csp vq _ W hxo.1 (by have := hxo.2.1; omega) hqs (hwx.below hbW) hxo.2.2 (by omega) (Nat.le_trans hsB hbW.size) hlp (hpp.kept hbW) hn2 hv3 (hvq.below hbW))
          have hd1 : g.f < g.pr ∨ g.pr < g.f := by have := HNE.out.1.1; omega
          have hd2 : g.lv < g.pr ∨ g.pr < g.lv := by have := HNE.out.1.2.2.1; omega
          have hd3 : b < g.pr ∨ g.pr < b := by have := hbv.ne hpp (by decide); omega
          have HX := Lib.hid (And.intro hx (And.intro hxo (And.intro hps (And.intro hpp (And.intro hv3 hpl)))))
          clear hbv hc9 hwx hxo hx hps hpp hn2 hv3 hvq hxk hqs hAsk hpl
          go_wp2_with fail
          refine wp_region_held_drew (S := SteadyBut (g.pr) _) (by kernel_rfl) (SteadyBut.of (Below.refl _ _).drew) ?_
          intro hSt
          refine wpAnyH_seq (is := [0, 1, 2, 3, 4, 5, 6, 7, 8, 9, 10, 11, 12, 13, 14, 15, 16, 17, 18, 19, 20, 21]) (by kernel_rfl) (by kernel_rfl) (fun _ _ d _ _ h => by cases d <;> exact h) (by assumption) ?_
          iterate 22 (first | (refine TakeSeq.step (v := undef) rfl (Or.inr ⟨by rfl, rfl⟩) ?_; simp only [Act.put, List.setIfInBounds_toArray, List.set_cons_zero, List.set_cons_succ, List.getElem_toArray, List.getElem_cons_zero, List.getElem_cons_succ]) | (refine TakeSeq.step (v := ?_) rfl (Or.inl ⟨by rfl, ?_⟩) ?_; rotate_left 1; (focus (intro wq hSq; have hrd := hSq.rule; go_simp; with_reducible rfl)); simp only [Act.put, List.setIfInBounds_toArray, List.set_cons_zero, List.set_cons_succ, List.getElem_toArray, List.getElem_cons_zero, List.getElem_cons_succ]))
          refine TakeSeq.done ?_
          refine wpAnyH_ready (rs := [22]) (by kernel_rfl) (by simp) ?_
          refine AllReadyH.cons rfl (fun K hK => ?_) (AllReadyH.nil)
          rw [if_pos (by rfl)]
          go_simp
          go_at_call 54; refine (HPP.out _ (by (repeat (first | with_reducible exact Below.refl _ _ | with_reducible assumption | with_reducible refine Below.setCell ?_ (by first | (simp; done) | (simp; omega)) _ | with_reducible refine below_alloc ?_ _ | with_reducible refine below_drewN ?_ _ | with_reducible refine Below.drew ?_ | with_reducible refine below_step ?_ (by assumption))))).mono ?_; rintro e w3 ⟨rfl, hpq, hov⟩
          go_wp2_with fail
          refine hK.out _ _ (SteadyBut.over ((Over.of_below (by (repeat (first | with_reducible exact Below.refl _ _ | with_reducible assumption | with_reducible refine Below.setCell ?_ (by first | (simp; done) | (simp; omega)) _ | with_reducible refine below_alloc ?_ _ | with_reducible refine below_drewN ?_ _ | with_reducible refine Below.drew ?_ | with_reducible refine below_step ?_ (by assumption))))).trans hov)) (fun hHeld => ?_)
          clear hK K
          refine wpAnyH_done (by kernel_rfl) ?_ _
          have hS3 : Mod (fun k => k = g.pr) wr w3 := (Mod.of_below (by (repeat (first | with_reducible exact Below.refl _ _ | with_reducible assumption | with_reducible refine Below.setCell ?_ (by first | (simp; done) | (simp; omega)) _ | with_reducible refine below_alloc ?_ _ | with_reducible refine below_drewN ?_ _ | with_reducible refine Below.drew ?_ | with_reducible refine below_step ?_ (by assumption))))).over hov (.inl rfl)
          have hQ3 : g.Pairs w3 B (postQ g.mb.length (l.take (i + 1))) := by
            obtain ⟨hx, hxo, hps, hpp, hv3, hpl⟩ := HX.out
            obtain ⟨v', hb', hq'⟩ := hpq
            refine ⟨by rw [postQ_len], _, hb', fun k lk hk => ?_⟩
            obtain ⟨hkn, rfl⟩ := postQ_get _ _ _ _ hk
            obtain ⟨f0, f1, f2, v, f3, f4⟩ := hps k _ (postQ_at _ _ k hkn)
            rw [Array.getElem?_setIfInBounds_ne (by omega), Array.getElem?_setIfInBounds_ne (by omega), Array.getElem?_setIfInBounds_ne (by omega)]
            refine ⟨f0, f1, f2, ?_⟩
            have hti : (l.take i).length = i := by rw [List.length_take]; omega
            have e : Cm.pend (l.take (i + 1)) = Cm.pend (l.take i) ++ [⟨x, 0, [], i⟩] := by
              rw [List.take_add_one, hx, Option.toList_some, pend_snoc, hti]
            rw [e, List.filter_append]
            by_cases hkx : x.node = k
            · subst hkx
              refine ⟨v', ?_, ?_⟩
              · rw [Array.getElem?_setIfInBounds, if_pos rfl, if_pos (Array.getElem?_eq_some_iff.1 hv3).1]
              · simpa using hq'
            · refine ⟨v, ?_, ?_⟩
              · rw [Array.getElem?_setIfInBounds_ne (by omega)]
                exact f3
              · have : [(⟨x, 0, [], i⟩ : Cm.Pend)].filter (fun y => y.v.node = k) = [] := by simp [hkx]
                rw [this, List.append_nil]
                exact f4.mod hS3 (fun b hb => .inl (by omega))
          have H3 := Lib.hid (And.intro hQ3 (H.out.2.trans hS3))
          clear hSt hpq hov hS3 hQ3 H HX
          go_wp2_with fail
          exact ⟨⟨i + 1, by omega, by simp, H3⟩, by simp [intOf]; omega⟩
        · obtain rfl : i = l.length := by omega
          have bz : ¬ l.length < l.length := by omega
          obtain ⟨w4, hw4, H4⟩ : ∃ w4, w4 = wr ∧ Hid (g.Pairs w4 B (postQ g.mb.length l) ∧ Mod (fun k => k = g.pr) w2 w4) := ⟨wr, rfl, Lib.hid (by have := H.out; rwa [List.take_length] at this)⟩
          subst hw4
          clear kl llv H bz hi2 hi
          go_upto_region 20 with (fail)
          have hmk1 : ∀ W : World, (Instr.makeSlice 50 (.int .i64 (l.length : Int)) (.int .i64 (l.length : Int))).run Tryz.prog W = .ok (.slice (some ⟨W.heap.size, 0, none⟩) l.length l.length) (W.alloc (.cells (madeCells #[.int .i64 0, .slice none 0 0] (l.length * 2)) 151)) := fun W => make_done W l.length (by omega)
          have hmk2 : ∀ W : World, (Instr.makeSlice 63 (.int .i64 (l.length : Int)) (.int .i64 (l.length : Int))).run Tryz.prog W = .ok (.slice (some ⟨W.heap.size, 0, none⟩) l.length l.length) (W.alloc (.cells (madeCells #[.bool false] l.length) 4)) := fun W => make_bool W l.length (by omega)
          have hC4 := (HG.out.2.1.below HBW.out).mod H4.out.2 HNE.out.1.2.2.2
          have HC4 := Lib.hid hC4
          obtain ⟨csc, tr, po, BC, c0, c1, c2, c3, c4, c5, c6⟩ := hC4
          have HCS : Hid (7 ≤ csc.size ∧ csc[0]? = some (.bool true) ∧ csc[1]? = some (.int .i64 1) ∧ csc[5]? = some (.int .i64 tr) ∧ csc[6]? = some (.int .i64 po)) := Lib.hid ⟨by have := (Array.getElem?_eq_some_iff.1 c6).1; omega, c0, c1, c5, c6⟩
          have k2 : w4.cell? ⟨g.cl, 2, none⟩ = some (.bool false) := (BC.cell _).trans c2
          have k3 : w4.cell? ⟨g.cl, 3, none⟩ = some vd := (BC.cell _).trans c3
          have k4 : w4.cell? ⟨g.cl, 4, none⟩ = some vh := (BC.cell _).trans c4
          have fc := BC.free
          have lc := BC.lt
          clear c0 c1 c2 c3 c4 c5 c6
          go_cut [] from 91 to 105 (fun wx => PostCut g l.length w4 wx)
          case first =>
            refine wp_region_held_drew (S := SteadyBut (g.cl) _) (by kernel_rfl) (SteadyBut.of (Below.refl _ _).drew) ?_
            intro hSt
            refine wpAnyH_seq (is := [0, 1, 2, 3, 4, 6, 7, 9, 10]) (by kernel_rfl) (by kernel_rfl) (fun _ _ d _ _ h => by cases d <;> exact h) (by assumption) ?_
            iterate 9 (first | (refine TakeSeq.step (v := undef) rfl (Or.inr ⟨by rfl, rfl⟩) ?_; simp only [Act.put, List.setIfInBounds_toArray, List.set_cons_zero, List.set_cons_succ, List.getElem_toArray, List.getElem_cons_zero, List.getElem_cons_succ]) | (refine TakeSeq.step (v := ?_) rfl (Or.inl ⟨by rfl, ?_⟩) ?_; rotate_left 1; (focus (intro wq hSq; have hrd := hSq.rule; go_simp; with_reducible rfl)); simp only [Act.put, List.setIfInBounds_toArray, List.set_cons_zero, List.set_cons_succ, List.getElem_toArray, List.getElem_cons_zero, List.getElem_cons_succ]))
            refine TakeSeq.done ?_
            refine wpAnyH_ready (rs := [5, 8, 11]) (by kernel_rfl) (by simp) ?_
            refine AllReadyH.cons rfl (fun K hK => ?_) (AllReadyH.cons rfl (fun K hK => ?_) (AllReadyH.cons rfl (fun K hK => ?_) (AllReadyH.nil)))
            · skip
              rw [if_pos (by rfl)]
              go_simp
              refine hK.out _ _ (SteadyBut.over (by (repeat (first | with_reducible exact Over.refl _ _ | with_reducible assumption | with_reducible refine Over.put ?_ _ _ | with_reducible refine Over.alloc ?_ _ | with_reducible refine Over.drew ?_ | with_reducible refine Over.own ?_ (by first | (simp; done) | (simp; omega)) _ | with_reducible refine Over.trans ?_ (by assumption) | with_reducible refine Over.then_below ?_ (by assumption))))) (fun hHeld => ?_)
              clear hK K
              refine wpAnyH_ready (rs := [8, 11]) (by kernel_rfl) (by simp) ?_
              refine AllReadyH.cons rfl (fun K hK => ?_) (AllReadyH.cons rfl (fun K hK => ?_) (AllReadyH.nil))
              · skip
                rw [if_pos (by rfl)]
                go_simp
                refine hK.out _ _ (SteadyBut.over (by (repeat (first | with_reducible exact Over.refl _ _ | with_reducible assumption | with_reducible refine Over.put ?_ _ _ | with_reducible refine Over.alloc ?_ _ | with_reducible refine Over.drew ?_ | with_reducible refine Over.own ?_ (by first | (simp; done) | (simp; omega)) _ | with_reducible refine Over.trans ?_ (by assumption) | with_reducible refine Over.then_below ?_ (by assumption))))) (fun hHeld => ?_)
                clear hK K
                refine wpAnyH_ready (rs := [11]) (by kernel_rfl) (by simp) ?_
                refine AllReadyH.cons rfl (fun K hK => ?_) (AllReadyH.nil)
                rw [if_pos (by rfl)]
                go_simp
                refine hK.out _ _ (SteadyBut.over (by (repeat (first | with_reducible exact Over.refl _ _ | with_reducible assumption | with_reducible refine Over.put ?_ _ _ | with_reducible refine Over.alloc ?_ _ | with_reducible refine Over.drew ?_ | with_reducible refine Over.own ?_ (by first | (simp; done) | (simp; omega)) _ | with_reducible refine Over.trans ?_ (by assumption) | with_reducible refine Over.then_below ?_ (by assumption))))) (fun hHeld => ?_)
                clear hK K
                refine wpAnyH_seq (is := [12, 13]) (by kernel_rfl) (by kernel_rfl) (fun _ _ d _ _ h => by cases d <;> exact h) (by assumption) ?_
                iterate 2 (first | (refine TakeSeq.step (v := undef) rfl (Or.inr ⟨by rfl, rfl⟩) ?_; simp only [Act.put, List.setIfInBounds_toArray, List.set_cons_zero, List.set_cons_succ, List.getElem_toArray, List.getElem_cons_zero, List.getElem_cons_succ]) | (refine TakeSeq.step (v := ?_) rfl (Or.inl ⟨by rfl, ?_⟩) ?_; rotate_left 1; (focus (intro wq hSq; have hrd := hSq.rule; go_simp; with_reducible rfl)); simp only [Act.put, List.setIfInBounds_toArray, List.set_cons_zero, List.set_cons_succ, List.getElem_toArray, List.getElem_cons_zero, List.getElem_cons_succ]))
                refine TakeSeq.done ?_
                refine wpAnyH_ready (rs := [14]) (by kernel_rfl) (by simp) ?_
                refine AllReadyH.cons rfl (fun K hK => ?_) (AllReadyH.nil)
                rw [if_pos (by rfl)]
                go_simp
                refine hK.out _ _ (SteadyBut.over (by (repeat (first | with_reducible exact Over.refl _ _ | with_reducible assumption | with_reducible refine Over.put ?_ _ _ | with_reducible refine Over.alloc ?_ _ | with_reducible refine Over.drew ?_ | with_reducible refine Over.own ?_ (by first | (simp; done) | (simp; omega)) _ | with_reducible refine Over.trans ?_ (by assumption) | with_reducible refine Over.then_below ?_ (by assumption))))) (fun hHeld => ?_)
                clear hK K
                refine wpAnyH_seq (is := [15, 16]) (by kernel_rfl) (by kernel_rfl) (fun _ _ d _ _ h => by cases d <;> exact h) (by assumption) ?_
                iterate 2 (first | (refine TakeSeq.step (v := undef) rfl (Or.inr ⟨by rfl, rfl⟩) ?_; simp only [Act.put, List.setIfInBounds_toArray, List.set_cons_zero, List.set_cons_succ, List.getElem_toArray, List.getElem_cons_zero, List.getElem_cons_succ]) | (refine TakeSeq.step (v := ?_) rfl (Or.inl ⟨by rfl, ?_⟩) ?_; rotate_left 1; (focus (intro wq hSq; have hrd := hSq.rule; go_simp; with_reducible rfl)); simp only [Act.put, List.setIfInBounds_toArray, List.set_cons_zero, List.set_cons_succ, List.getElem_toArray, List.getElem_cons_zero, List.getElem_cons_succ]))
                refine TakeSeq.done ?_
                refine wpAnyH_ready (rs := [17]) (by kernel_rfl) (by simp) ?_
                refine AllReadyH.cons rfl (fun K hK => ?_) (AllReadyH.nil)
                rw [if_pos (by rfl)]
                go_simp
                refine hK.out _ _ (SteadyBut.over (by (repeat (first | with_reducible exact Over.refl _ _ | with_reducible assumption | with_reducible refine Over.put ?_ _ _ | with_reducible refine Over.alloc ?_ _ | with_reducible refine Over.drew ?_ | with_reducible refine Over.own ?_ (by first | (simp; done) | (simp; omega)) _ | with_reducible refine Over.trans ?_ (by assumption) | with_reducible refine Over.then_below ?_ (by assumption))))) (fun hHeld => ?_)
                clear hK K
                refine wpAnyH_done (by kernel_rfl) ?_ _
                go_wp2_with fail
                go_meet
                exact post_leafA g l.length w4 _ _ _ HC4.out
              · skip
                rw [if_pos (by rfl)]
                go_simp
                refine hK.out _ _ (SteadyBut.over (by (repeat (first | with_reducible exact Over.refl _ _ | with_reducible assumption | with_reducible refine Over.put ?_ _ _ | with_reducible refine Over.alloc ?_ _ | with_reducible refine Over.drew ?_ | with_reducible refine Over.own ?_ (by first | (simp; done) | (simp; omega)) _ | with_reducible refine Over.trans ?_ (by assumption) | with_reducible refine Over.then_below ?_ (by assumption))))) (fun hHeld => ?_)
                clear hK K
                refine wpAnyH_seq (is := [12, 13]) (by kernel_rfl) (by kernel_rfl) (fun _ _ d _ _ h => by cases d <;> exact h) (by assumption) ?_
                iterate 2 (first | (refine TakeSeq.step (v := undef) rfl (Or.inr ⟨by rfl, rfl⟩) ?_; simp only [Act.put, List.setIfInBounds_toArray, List.set_cons_zero, List.set_cons_succ, List.getElem_toArray, List.getElem_cons_zero, List.getElem_cons_succ]) | (refine TakeSeq.step (v := ?_) rfl (Or.inl ⟨by rfl, ?_⟩) ?_; rotate_left 1; (focus (intro wq hSq; have hrd := hSq.rule; go_simp; with_reducible rfl)); simp only [Act.put, List.setIfInBounds_toArray, List.set_cons_zero, List.set_cons_succ, List.getElem_toArray, List.getElem_cons_zero, List.getElem_cons_succ]))
                refine TakeSeq.done ?_
                refine wpAnyH_ready (rs := [8, 14]) (by kernel_rfl) (by simp) ?_
                refine AllReadyH.cons rfl (fun K hK => ?_) (AllReadyH.cons rfl (fun K hK => ?_) (AllReadyH.nil))
                · skip
                  rw [if_pos (by rfl)]
                  go_simp
                  refine hK.out _ _ (SteadyBut.over (by (repeat (first | with_reducible exact Over.refl _ _ | with_reducible assumption | with_reducible refine Over.put ?_ _ _ | with_reducible refine Over.alloc ?_ _ | with_reducible refine Over.drew ?_ | with_reducible refine Over.own ?_ (by first | (simp; done) | (simp; omega)) _ | with_reducible refine Over.trans ?_ (by assumption) | with_reducible refine Over.then_below ?_ (by assumption))))) (fun hHeld => ?_)
                  clear hK K
                  refine wpAnyH_ready (rs := [14]) (by kernel_rfl) (by simp) ?_
                  refine AllReadyH.cons rfl (fun K hK => ?_) (AllReadyH.nil)
                  rw [if_pos (by rfl)]
                  go_simp
                  refine hK.out _ _ (SteadyBut.over (by (repeat (first | with_reducible exact Over.refl _ _ | with_reducible assumption | with_reducible refine Over.put ?_ _ _ | with_reducible refine Over.alloc ?_ _ | with_reducible refine Over.drew ?_ | with_reducible refine Over.own ?_ (by first | (simp; done) | (simp; omega)) _ | with_reducible refine Over.trans ?_ (by assumption) | with_reducible refine Over.then_below ?_ (by assumption))))) (fun hHeld => ?_)
                  clear hK K
                  refine wpAnyH_seq (is := [15, 16]) (by kernel_rfl) (by kernel_rfl) (fun _ _ d _ _ h => by cases d <;> exact h) (by assumption) ?_
                  iterate 2 (first | (refine TakeSeq.step (v := undef) rfl (Or.inr ⟨by rfl, rfl⟩) ?_; simp only [Act.put, List.setIfInBounds_toArray, List.set_cons_zero, List.set_cons_succ, List.getElem_toArray, List.getElem_cons_zero, List.getElem_cons_succ]) | (refine TakeSeq.step (v := ?_) rfl (Or.inl ⟨by rfl, ?_⟩) ?_; rotate_left 1; (focus (intro wq hSq; have hrd := hSq.rule; go_simp; with_reducible rfl)); simp only [Act.put, List.setIfInBounds_toArray, List.set_cons_zero, List.set_cons_succ, List.getElem_toArray, List.getElem_cons_zero, List.getElem_cons_succ]))
                  refine TakeSeq.done ?_
                  refine wpAnyH_ready (rs := [17]) (by kernel_rfl) (by simp) ?_
                  refine AllReadyH.cons rfl (fun K hK => ?_) (AllReadyH.nil)
                  rw [if_pos (by rfl)]
                  go_simp
                  refine hK.out _ _ (SteadyBut.over (by (repeat (first | with_reducible exact Over.refl _ _ | with_reducible assumption | with_reducible refine Over.put ?_ _ _ | with_reducible refine Over.alloc ?_ _ | with_reducible refine Over.drew ?_ | with_reducible refine Over.own ?_ (by first | (simp; done) | (simp; omega)) _ | with_reducible refine Over.trans ?_ (by assumption) | with_reducible refine Over.then_below ?_ (by assumption))))) (fun hHeld => ?_)
                  clear hK K
                  refine wpAnyH_done (by kernel_rfl) ?_ _
                  go_wp2_with fail
                  go_meet
                  exact post_leafA g l.length w4 _ _ _ HC4.out
                · skip
                  rw [if_pos (by rfl)]
                  go_simp
                  refine hK.out _ _ (SteadyBut.over (by (repeat (first | with_reducible exact Over.refl _ _ | with_reducible assumption | with_reducible refine Over.put ?_ _ _ | with_reducible refine Over.alloc ?_ _ | with_reducible refine Over.drew ?_ | with_reducible refine Over.own ?_ (by first | (simp; done) | (simp; omega)) _ | with_reducible refine Over.trans ?_ (by assumption) | with_reducible refine Over.then_below ?_ (by assumption))))) (fun hHeld => ?_)
                  clear hK K
                  refine wpAnyH_ready (rs := [8]) (by kernel_rfl) (by simp) ?_
                  refine AllReadyH.cons rfl (fun K hK => ?_) (AllReadyH.nil)
                  rw [if_pos (by rfl)]
                  go_simp
                  refine hK.out _ _ (SteadyBut.over (by (repeat (first | with_reducible exact Over.refl _ _ | with_reducible assumption | with_reducible refine Over.put ?_ _ _ | with_reducible refine Over.alloc ?_ _ | with_reducible refine Over.drew ?_ | with_reducible refine Over.own ?_ (by first | (simp; done) | (simp; omega)) _ | with_reducible refine Over.trans ?_ (by assumption) | with_reducible refine Over.then_below ?_ (by assumption))))) (fun hHeld => ?_)
                  clear hK K
                  refine wpAnyH_seq (is := [15, 16]) (by kernel_rfl) (by kernel_rfl) (fun _ _ d _ _ h => by cases d <;> exact h) (by assumption) ?_
                  iterate 2 (first | (refine TakeSeq.step (v := undef) rfl (Or.inr ⟨by rfl, rfl⟩) ?_; simp only [Act.put, List.setIfInBounds_toArray, List.set_cons_zero, List.set_cons_succ, List.getElem_toArray, List.getElem_cons_zero, List.getElem_cons_succ]) | (refine TakeSeq.step (v := ?_) rfl (Or.inl ⟨by rfl, ?_⟩) ?_; rotate_left 1; (focus (intro wq hSq; have hrd := hSq.rule; go_simp; with_reducible rfl)); simp only [Act.put, List.setIfInBounds_toArray, List.set_cons_zero, List.set_cons_succ, List.getElem_toArray, List.getElem_cons_zero, List.getElem_cons_succ]))
                  refine TakeSeq.done ?_
                  refine wpAnyH_ready (rs := [17]) (by kernel_rfl) (by simp) ?_
                  refine AllReadyH.cons rfl (fun K hK => ?_) (AllReadyH.nil)
                  rw [if_pos (by rfl)]
                  go_simp
                  refine hK.out _ _ (SteadyBut.over (by (repeat (first | with_reducible exact Over.refl _ _ | with_reducible assumption | with_reducible refine Over.put ?_ _ _ | with_reducible refine Over.alloc ?_ _ | with_reducible refine Over.drew ?_ | with_reducible refine Over.own ?_ (by first | (simp; done) | (simp; omega)) _ | with_reducible refine Over.trans ?_ (by assumption) | with_reducible refine Over.then_below ?_ (by assumption))))) (fun hHeld => ?_)
                  clear hK K
                  refine wpAnyH_done (by kernel_rfl) ?_ _
                  go_wp2_with fail
                  go_meet
                  exact post_leafA g l.length w4 _ _ _ HC4.out
            · skip
              rw [if_pos (by rfl)]
              go_simp
              refine hK.out _ _ (SteadyBut.over (by (repeat (first | with_reducible exact Over.refl _ _ | with_reducible assumption | with_reducible refine Over.put ?_ _ _ | with_reducible refine Over.alloc ?_ _ | with_reducible refine Over.drew ?_ | with_reducible refine Over.own ?_ (by first | (simp; done) | (simp; omega)) _ | with_reducible refine Over.trans ?_ (by assumption) | with_reducible refine Over.then_below ?_ (by assumption))))) (fun hHeld => ?_)
              clear hK K
              refine wpAnyH_ready (rs := [5, 11]) (by kernel_rfl) (by simp) ?_
              refine AllReadyH.cons rfl (fun K hK => ?_) (AllReadyH.cons rfl (fun K hK => ?_) (AllReadyH.nil))
              · skip
                rw [if_pos (by rfl)]
                go_simp
                refine hK.out _ _ (SteadyBut.over (by (repeat (first | with_reducible exact Over.refl _ _ | with_reducible assumption | with_reducible refine Over.put ?_ _ _ | with_reducible refine Over.alloc ?_ _ | with_reducible refine Over.drew ?_ | with_reducible refine Over.own ?_ (by first | (simp; done) | (simp; omega)) _ | with_reducible refine Over.trans ?_ (by assumption) | with_reducible refine Over.then_below ?_ (by assumption))))) (fun hHeld => ?_)
                clear hK K
                refine wpAnyH_ready (rs := [11]) (by kernel_rfl) (by simp) ?_
                refine AllReadyH.cons rfl (fun K hK => ?_) (AllReadyH.nil)
                rw [if_pos (by rfl)]
                go_simp
                refine hK.out _ _ (SteadyBut.over (by (repeat (first | with_reducible exact Over.refl _ _ | with_reducible assumption | with_reducible refine Over.put ?_ _ _ | with_reducible refine Over.alloc ?_ _ | with_reducible refine Over.drew ?_ | with_reducible refine Over.own ?_ (by first | (simp; done) | (simp; omega)) _ | with_reducible refine Over.trans ?_ (by assumption) | with_reducible refine Over.then_below ?_ (by assumption))))) (fun hHeld => ?_)
                clear hK K
                refine wpAnyH_seq (is := [12, 13]) (by kernel_rfl) (by kernel_rfl) (fun _ _ d _ _ h => by cases d <;> exact h) (by assumption) ?_
                iterate 2 (first | (refine TakeSeq.step (v := undef) rfl (Or.inr ⟨by rfl, rfl⟩) ?_; simp only [Act.put, List.setIfInBounds_toArray, List.set_cons_zero, List.set_cons_succ, List.getElem_toArray, List.getElem_cons_zero, List.getElem_cons_succ]) | (refine TakeSeq.step (v := ?_) rfl (Or.inl ⟨by rfl, ?_⟩) ?_; rotate_left 1; (focus (intro wq hSq; have hrd := hSq.rule; go_simp; with_reducible rfl)); simp only [Act.put, List.setIfInBounds_toArray, List.set_cons_zero, List.set_cons_succ, List.getElem_toArray, List.getElem_cons_zero, List.getElem_cons_succ]))
                refine TakeSeq.done ?_
                refine wpAnyH_ready (rs := [14]) (by kernel_rfl) (by simp) ?_
                refine AllReadyH.cons rfl (fun K hK => ?_) (AllReadyH.nil)
                rw [if_pos (by rfl)]
                go_simp
                refine hK.out _ _ (SteadyBut.over (by (repeat (first | with_reducible exact Over.refl _ _ | with_reducible assumption | with_reducible refine Over.put ?_ _ _ | with_reducible refine Over.alloc ?_ _ | with_reducible refine Over.drew ?_ | with_reducible refine Over.own ?_ (by first | (simp; done) | (simp; omega)) _ | with_reducible refine Over.trans ?_ (by assumption) | with_reducible refine Over.then_below ?_ (by assumption))))) (fun hHeld => ?_)
                clear hK K
                refine wpAnyH_seq (is := [15, 16]) (by kernel_rfl) (by kernel_rfl) (fun _ _ d _ _ h => by cases d <;> exact h) (by assumption) ?_
                iterate 2 (first | (refine TakeSeq.step (v := undef) rfl (Or.inr ⟨by rfl, rfl⟩) ?_; simp only [Act.put, List.setIfInBounds_toArray, List.set_cons_zero, List.set_cons_succ, List.getElem_toArray, List.getElem_cons_zero, List.getElem_cons_succ]) | (refine TakeSeq.step (v := ?_) rfl (Or.inl ⟨by rfl, ?_⟩) ?_; rotate_left 1; (focus (intro wq hSq; have hrd := hSq.rule; go_simp; with_reducible rfl)); simp only [Act.put, List.setIfInBounds_toArray, List.set_cons_zero, List.set_cons_succ, List.getElem_toArray, List.getElem_cons_zero, List.getElem_cons_succ]))
                refine TakeSeq.done ?_
                refine wpAnyH_ready (rs := [17]) (by kernel_rfl) (by simp) ?_
                refine AllReadyH.cons rfl (fun K hK => ?_) (AllReadyH.nil)
                rw [if_pos (by rfl)]
                go_simp
                refine hK.out _ _ (SteadyBut.over (by (repeat (first | with_reducible exact Over.refl _ _ | with_reducible assumption | with_reducible refine Over.put ?_ _ _ | with_reducible refine Over.alloc ?_ _ | with_reducible refine Over.drew ?_ | with_reducible refine Over.own ?_ (by first | (simp; done) | (simp; omega)) _ | with_reducible refine Over.trans ?_ (by assumption) | with_reducible refine Over.then_below ?_ (by assumption))))) (fun hHeld => ?_)
                clear hK K
                refine wpAnyH_done (by kernel_rfl) ?_ _
                go_wp2_with fail
                go_meet
                exact post_leafB g l.length w4 _ _ _ HC4.out
              · skip
                rw [if_pos (by rfl)]
                go_simp
                refine hK.out _ _ (SteadyBut.over (by (repeat (first | with_reducible exact Over.refl _ _ | with_reducible assumption | with_reducible refine Over.put ?_ _ _ | with_reducible refine Over.alloc ?_ _ | with_reducible refine Over.drew ?_ | with_reducible refine Over.own ?_ (by first | (simp; done) | (simp; omega)) _ | with_reducible refine Over.trans ?_ (by assumption) | with_reducible refine Over.then_below ?_ (by assumption))))) (fun hHeld => ?_)
                clear hK K
                refine wpAnyH_ready (rs := [5]) (by kernel_rfl) (by simp) ?_
                refine AllReadyH.cons rfl (fun K hK => ?_) (AllReadyH.nil)
                rw [if_pos (by rfl)]
                go_simp
                refine hK.out _ _ (SteadyBut.over (by (repeat (first | with_reducible exact Over.refl _ _ | with_reducible assumption | with_reducible refine Over.put ?_ _ _ | with_reducible refine Over.alloc ?_ _ | with_reducible refine Over.drew ?_ | with_reducible refine Over.own ?_ (by first | (simp; done) | (simp; omega)) _ | with_reducible refine Over.trans ?_ (by assumption) | with_reducible refine Over.then_below ?_ (by assumption))))) (fun hHeld => ?_)
                clear hK K
                refine wpAnyH_seq (is := [12, 13]) (by kernel_rfl) (by kernel_rfl) (fun _ _ d _ _ h => by cases d <;> exact h) (by assumption) ?_
                iterate 2 (first | (refine TakeSeq.step (v := undef) rfl (Or.inr ⟨by rfl, rfl⟩) ?_; simp only [Act.put, List.setIfInBounds_toArray, List.set_cons_zero, List.set_cons_succ, List.getElem_toArray, List.getElem_cons_zero, List.getElem_cons_succ]) | (refine TakeSeq.step (v := ?_) rfl (Or.inl ⟨by rfl, ?_⟩) ?_; rotate_left 1; (focus (intro wq hSq; have hrd := hSq.rule; go_simp; with_reducible rfl)); simp only [Act.put, List.setIfInBounds_toArray, List.set_cons_zero, List.set_cons_succ, List.getElem_toArray, List.getElem_cons_zero, List.getElem_cons_succ]))
                refine TakeSeq.done ?_
                refine wpAnyH_ready (rs := [14]) (by kernel_rfl) (by simp) ?_
                refine AllReadyH.cons rfl (fun K hK => ?_) (AllReadyH.nil)
                rw [if_pos (by rfl)]
                go_simp
                refine hK.out _ _ (SteadyBut.over (by (repeat (first | with_reducible exact Over.refl _ _ | with_reducible assumption | with_reducible refine Over.put ?_ _ _ | with_reducible refine Over.alloc ?_ _ | with_reducible refine Over.drew ?_ | with_reducible refine Over.own ?_ (by first | (simp; done) | (simp; omega)) _ | with_reducible refine Over.trans ?_ (by assumption) | with_reducible refine Over.then_below ?_ (by assumption))))) (fun hHeld => ?_)
                clear hK K
                refine wpAnyH_seq (is := [15, 16]) (by kernel_rfl) (by kernel_rfl) (fun _ _ d _ _ h => by cases d <;> exact h) (by assumption) ?_
                iterate 2 (first | (refine TakeSeq.step (v := undef) rfl (Or.inr ⟨by rfl, rfl⟩) ?_; simp only [Act.put, List.setIfInBounds_toArray, List.set_cons_zero, List.set_cons_succ, List.getElem_toArray, List.getElem_cons_zero, List.getElem_cons_succ]) | (refine TakeSeq.step (v := ?_) rfl (Or.inl ⟨by rfl, ?_⟩) ?_; rotate_left 1; (focus (intro wq hSq; have hrd := hSq.rule; go_simp; with_reducible rfl)); simp only [Act.put, List.setIfInBounds_toArray, List.set_cons_zero, List.set_cons_succ, List.getElem_toArray, List.getElem_cons_zero, List.getElem_cons_succ]))
                refine TakeSeq.done ?_
                refine wpAnyH_ready (rs := [17]) (by kernel_rfl) (by simp) ?_
                refine AllReadyH.cons rfl (fun K hK => ?_) (AllReadyH.nil)
                rw [if_pos (by rfl)]
                go_simp
                refine hK.out _ _ (SteadyBut.over (by (repeat (first | with_reducible exact Over.refl _ _ | with_reducible assumption | with_reducible refine Over.put ?_ _ _ | with_reducible refine Over.alloc ?_ _ | with_reducible refine Over.drew ?_ | with_reducible refine Over.own ?_ (by first | (simp; done) | (simp; omega)) _ | with_reducible refine Over.trans ?_ (by assumption) | with_reducible refine Over.then_below ?_ (by assumption))))) (fun hHeld => ?_)
                clear hK K
                refine wpAnyH_done (by kernel_rfl) ?_ _
                go_wp2_with fail
                go_meet
                exact post_leafB g l.length w4 _ _ _ HC4.out
            · skip
              rw [if_pos (by rfl)]
              go_simp
              refine hK.out _ _ (SteadyBut.over (by (repeat (first | with_reducible exact Over.refl _ _ | with_reducible assumption | with_reducible refine Over.put ?_ _ _ | with_reducible refine Over.alloc ?_ _ | with_reducible refine Over.drew ?_ | with_reducible refine Over.own ?_ (by first | (simp; done) | (simp; omega)) _ | with_reducible refine Over.trans ?_ (by assumption) | with_reducible refine Over.then_below ?_ (by assumption))))) (fun hHeld => ?_)
              clear hK K
              refine wpAnyH_ready (rs := [5, 8]) (by kernel_rfl) (by simp) ?_
              refine AllReadyH.cons rfl (fun K hK => ?_) (AllReadyH.cons rfl (fun K hK => ?_) (AllReadyH.nil))
              · skip
                rw [if_pos (by rfl)]
                go_simp
                refine hK.out _ _ (SteadyBut.over (by (repeat (first | with_reducible exact Over.refl _ _ | with_reducible assumption | with_reducible refine Over.put ?_ _ _ | with_reducible refine Over.alloc ?_ _ | with_reducible refine Over.drew ?_ | with_reducible refine Over.own ?_ (by first | (simp; done) | (simp; omega)) _ | with_reducible refine Over.trans ?_ (by assumption) | with_reducible refine Over.then_below ?_ (by assumption))))) (fun hHeld => ?_)
                clear hK K
                refine wpAnyH_seq (is := [12, 13]) (by kernel_rfl) (by kernel_rfl) (fun _ _ d _ _ h => by cases d <;> exact h) (by assumption) ?_
                iterate 2 (first | (refine TakeSeq.step (v := undef) rfl (Or.inr ⟨by rfl, rfl⟩) ?_; simp only [Act.put, List.setIfInBounds_toArray, List.set_cons_zero, List.set_cons_succ, List.getElem_toArray, List.getElem_cons_zero, List.getElem_cons_succ]) | (refine TakeSeq.step (v := ?_) rfl (Or.inl ⟨by rfl, ?_⟩) ?_; rotate_left 1; (focus (intro wq hSq; have hrd := hSq.rule; go_simp; with_reducible rfl)); simp only [Act.put, List.setIfInBounds_toArray, List.set_cons_zero, List.set_cons_succ, List.getElem_toArray, List.getElem_cons_zero, List.getElem_cons_succ]))
                refine TakeSeq.done ?_
                refine wpAnyH_ready (rs := [8, 14]) (by kernel_rfl) (by simp) ?_
                refine AllReadyH.cons rfl (fun K hK => ?_) (AllReadyH.cons rfl (fun K hK => ?_) (AllReadyH.nil))
                · skip
                  rw [if_pos (by rfl)]
                  go_simp
                  refine hK.out _ _ (SteadyBut.over (by (repeat (first | with_reducible exact Over.refl _ _ | with_reducible assumption | with_reducible refine Over.put ?_ _ _ | with_reducible refine Over.alloc ?_ _ | with_reducible refine Over.drew ?_ | with_reducible refine Over.own ?_ (by first | (simp; done) | (simp; omega)) _ | with_reducible refine Over.trans ?_ (by assumption) | with_reducible refine Over.then_below ?_ (by assumption))))) (fun hHeld => ?_)
                  clear hK K
                  refine wpAnyH_ready (rs := [14]) (by kernel_rfl) (by simp) ?_
                  refine AllReadyH.cons rfl (fun K hK => ?_) (AllReadyH.nil)
                  rw [if_pos (by rfl)]
                  go_simp
                  refine hK.out _ _ (SteadyBut.over (by (repeat (first | with_reducible exact Over.refl _ _ | with_reducible assumption | with_reducible refine Over.put ?_ _ _ | with_reducible refine Over.alloc ?_ _ | with_reducible refine Over.drew ?_ | with_reducible refine Over.own ?_ (by first | (simp; done) | (simp; omega)) _ | with_reducible refine Over.trans ?_ (by assumption) | with_reducible refine Over.then_below ?_ (by assumption))))) (fun hHeld => ?_)
                  clear hK K
                  refine wpAnyH_seq (is := [15, 16]) (by kernel_rfl) (by kernel_rfl) (fun _ _ d _ _ h => by cases d <;> exact h) (by assumption) ?_
                  iterate 2 (first | (refine TakeSeq.step (v := undef) rfl (Or.inr ⟨by rfl, rfl⟩) ?_; simp only [Act.put, List.setIfInBounds_toArray, List.set_cons_zero, List.set_cons_succ, List.getElem_toArray, List.getElem_cons_zero, List.getElem_cons_succ]) | (refine TakeSeq.step (v := ?_) rfl (Or.inl ⟨by rfl, ?_⟩) ?_; rotate_left 1; (focus (intro wq hSq; have hrd := hSq.rule; go_simp; with_reducible rfl)); simp only [Act.put, List.setIfInBounds_toArray, List.set_cons_zero, List.set_cons_succ, List.getElem_toArray, List.getElem_cons_zero, List.getElem_cons_succ]))
                  refine TakeSeq.done ?_
                  refine wpAnyH_ready (rs := [17]) (by kernel_rfl) (by simp) ?_
                  refine AllReadyH.cons rfl (fun K hK => ?_) (AllReadyH.nil)
                  rw [if_pos (by rfl)]
                  go_simp
                  refine hK.out _ _ (SteadyBut.over (by (repeat (first | with_reducible exact Over.refl _ _ | with_reducible assumption | with_reducible refine Over.put ?_ _ _ | with_reducible refine Over.alloc ?_ _ | with_reducible refine Over.drew ?_ | with_reducible refine Over.own ?_ (by first | (simp; done) | (simp; omega)) _ | with_reducible refine Over.trans ?_ (by assumption) | with_reducible refine Over.then_below ?_ (by assumption))))) (fun hHeld => ?_)
                  clear hK K
                  refine wpAnyH_done (by kernel_rfl) ?_ _
                  go_wp2_with fail
                  go_meet
                  exact post_leafA g l.length w4 _ _ _ HC4.out
                · skip
                  rw [if_pos (by rfl)]
                  go_simp
                  refine hK.out _ _ (SteadyBut.over (by (repeat (first | with_reducible exact Over.refl _ _ | with_reducible assumption | with_reducible refine Over.put ?_ _ _ | with_reducible refine Over.alloc ?_ _ | with_reducible refine Over.drew ?_ | with_reducible refine Over.own ?_ (by first | (simp; done) | (simp; omega)) _ | with_reducible refine Over.trans ?_ (by assumption) | with_reducible refine Over.then_below ?_ (by assumption))))) (fun hHeld => ?_)
                  clear hK K
                  refine wpAnyH_ready (rs := [8]) (by kernel_rfl) (by simp) ?_
                  refine AllReadyH.cons rfl (fun K hK => ?_) (AllReadyH.nil)
                  rw [if_pos (by rfl)]
                  go_simp
                  refine hK.out _ _ (SteadyBut.over (by (repeat (first | with_reducible exact Over.refl _ _ | with_reducible assumption | with_reducible refine Over.put ?_ _ _ | with_reducible refine Over.alloc ?_ _ | with_reducible refine Over.drew ?_ | with_reducible refine Over.own ?_ (by first | (simp; done) | (simp; omega)) _ | with_reducible refine Over.trans ?_ (by assumption) | with_reducible refine Over.then_below ?_ (by assumption))))) (fun hHeld => ?_)
                  clear hK K
                  refine wpAnyH_seq (is := [15, 16]) (by kernel_rfl) (by kernel_rfl) (fun _ _ d _ _ h => by cases d <;> exact h) (by assumption) ?_
                  iterate 2 (first | (refine TakeSeq.step (v := undef) rfl (Or.inr ⟨by rfl, rfl⟩) ?_; simp only [Act.put, List.setIfInBounds_toArray, List.set_cons_zero, List.set_cons_succ, List.getElem_toArray, List.getElem_cons_zero, List.getElem_cons_succ]) | (refine TakeSeq.step (v := ?_) rfl (Or.inl ⟨by rfl, ?_⟩) ?_; rotate_left 1; (focus (intro wq hSq; have hrd := hSq.rule; go_simp; with_reducible rfl)); simp only [Act.put, List.setIfInBounds_toArray, List.set_cons_zero, List.set_cons_succ, List.getElem_toArray, List.getElem_cons_zero, List.getElem_cons_succ]))
                  refine TakeSeq.done ?_
                  refine wpAnyH_ready (rs := [17]) (by kernel_rfl) (by simp) ?_
                  refine AllReadyH.cons rfl (fun K hK => ?_) (AllReadyH.nil)
                  rw [if_pos (by rfl)]
                  go_simp
                  refine hK.out _ _ (SteadyBut.over (by (repeat (first | with_reducible exact Over.refl _ _ | with_reducible assumption | with_reducible refine Over.put ?_ _ _ | with_reducible refine Over.alloc ?_ _ | with_reducible refine Over.drew ?_ | with_reducible refine Over.own ?_ (by first | (simp; done) | (simp; omega)) _ | with_reducible refine Over.trans ?_ (by assumption) | with_reducible refine Over.then_below ?_ (by assumption))))) (fun hHeld => ?_)
                  clear hK K
                  refine wpAnyH_done (by kernel_rfl) ?_ _
                  go_wp2_with fail
                  go_meet
                  exact post_leafA g l.length w4 _ _ _ HC4.out
              · skip
                rw [if_pos (by rfl)]
                go_simp
                refine hK.out _ _ (SteadyBut.over (by (repeat (first | with_reducible exact Over.refl _ _ | with_reducible assumption | with_reducible refine Over.put ?_ _ _ | with_reducible refine Over.alloc ?_ _ | with_reducible refine Over.drew ?_ | with_reducible refine Over.own ?_ (by first | (simp; done) | (simp; omega)) _ | with_reducible refine Over.trans ?_ (by assumption) | with_reducible refine Over.then_below ?_ (by assumption))))) (fun hHeld => ?_)
                clear hK K
                refine wpAnyH_ready (rs := [5]) (by kernel_rfl) (by simp) ?_
                refine AllReadyH.cons rfl (fun K hK => ?_) (AllReadyH.nil)
                rw [if_pos (by rfl)]
                go_simp
                refine hK.out _ _ (SteadyBut.over (by (repeat (first | with_reducible exact Over.refl _ _ | with_reducible assumption | with_reducible refine Over.put ?_ _ _ | with_reducible refine Over.alloc ?_ _ | with_reducible refine Over.drew ?_ | with_reducible refine Over.own ?_ (by first | (simp; done) | (simp; omega)) _ | with_reducible refine Over.trans ?_ (by assumption) | with_reducible refine Over.then_below ?_ (by assumption))))) (fun hHeld => ?_)
                clear hK K
                refine wpAnyH_seq (is := [12, 13]) (by kernel_rfl) (by kernel_rfl) (fun _ _ d _ _ h => by cases d <;> exact h) (by assumption) ?_
                iterate 2 (first | (refine TakeSeq.step (v := undef) rfl (Or.inr ⟨by rfl, rfl⟩) ?_; simp only [Act.put, List.setIfInBounds_toArray, List.set_cons_zero, List.set_cons_succ, List.getElem_toArray, List.getElem_cons_zero, List.getElem_cons_succ]) | (refine TakeSeq.step (v := ?_) rfl (Or.inl ⟨by rfl, ?_⟩) ?_; rotate_left 1; (focus (intro wq hSq; have hrd := hSq.rule; go_simp; with_reducible rfl)); simp only [Act.put, List.setIfInBounds_toArray, List.set_cons_zero, List.set_cons_succ, List.getElem_toArray, List.getElem_cons_zero, List.getElem_cons_succ]))
                refine TakeSeq.done ?_
                refine wpAnyH_ready (rs := [14]) (by kernel_rfl) (by simp) ?_
                refine AllReadyH.cons rfl (fun K hK => ?_) (AllReadyH.nil)
                rw [if_pos (by rfl)]
                go_simp
                refine hK.out _ _ (SteadyBut.over (by (repeat (first | with_reducible exact Over.refl _ _ | with_reducible assumption | with_reducible refine Over.put ?_ _ _ | with_reducible refine Over.alloc ?_ _ | with_reducible refine Over.drew ?_ | with_reducible refine Over.own ?_ (by first | (simp; done) | (simp; omega)) _ | with_reducible refine Over.trans ?_ (by assumption) | with_reducible refine Over.then_below ?_ (by assumption))))) (fun hHeld => ?_)
                clear hK K
                refine wpAnyH_seq (is := [15, 16]) (by kernel_rfl) (by kernel_rfl) (fun _ _ d _ _ h => by cases d <;> exact h) (by assumption) ?_
                iterate 2 (first | (refine TakeSeq.step (v := undef) rfl (Or.inr ⟨by rfl, rfl⟩) ?_; simp only [Act.put, List.setIfInBounds_toArray, List.set_cons_zero, List.set_cons_succ, List.getElem_toArray, List.getElem_cons_zero, List.getElem_cons_succ]) | (refine TakeSeq.step (v := ?_) rfl (Or.inl ⟨by rfl, ?_⟩) ?_; rotate_left 1; (focus (intro wq hSq; have hrd := hSq.rule; go_simp; with_reducible rfl)); simp only [Act.put, List.setIfInBounds_toArray, List.set_cons_zero, List.set_cons_succ, List.getElem_toArray, List.getElem_cons_zero, List.getElem_cons_succ]))
                refine TakeSeq.done ?_
                refine wpAnyH_ready (rs := [17]) (by kernel_rfl) (by simp) ?_
                refine AllReadyH.cons rfl (fun K hK => ?_) (AllReadyH.nil)
                rw [if_pos (by rfl)]
                go_simp
                refine hK.out _ _ (SteadyBut.over (by (repeat (first | with_reducible exact Over.refl _ _ | with_reducible assumption | with_reducible refine Over.put ?_ _ _ | with_reducible refine Over.alloc ?_ _ | with_reducible refine Over.drew ?_ | with_reducible refine Over.own ?_ (by first | (simp; done) | (simp; omega)) _ | with_reducible refine Over.trans ?_ (by assumption) | with_reducible refine Over.then_below ?_ (by assumption))))) (fun hHeld => ?_)
                clear hK K
                refine wpAnyH_done (by kernel_rfl) ?_ _
                go_wp2_with fail
                go_meet
                exact post_leafB g l.length w4 _ _ _ HC4.out
          case rest =>
            obtain ⟨dn, hv, csd, csh, hd1, hd2, hm, hcl, hbd, hbh, hcz⟩ := hcut
            obtain ⟨csc5, tr5, po5, BC5, d0, d1, d2, d3, d4, d5, d6⟩ := hcl
            have k5 : wc.cell? ⟨g.cl, 5, none⟩ = some (.int .i64 tr5) := (BC5.cell _).trans d5
            have k6 : wc.cell? ⟨g.cl, 6, none⟩ = some (.int .i64 po5) := (BC5.cell _).trans d6
            have fc5 := BC5.free
            have lc5 := BC5.lt
            have hs7 : 7 ≤ csc5.size := by have := (Array.getElem?_eq_some_iff.1 d6).1; omega
            have HF : Hid (∀ wf, Mod (fun k => k = g.cl) wc wf → g.Client wf true (.slice (some ⟨dn, 0, none⟩) l.length l.length) (.slice (some ⟨hv, 0, none⟩) l.length l.length) → FPost g B l w (.returned (.int .i64 0)) wf) := Lib.hid (fun wf h1 h2 =>
              post_fin g B l w w2 w4 wc wf dn hv csd csh vd vh HG.out.1 HBW.out H4.out.1 H4.out.2 HNE.out.1.2.2.2 hm hd1 hd2 hbd hbh hcz h1 h2)
            have HC5 : Hid (∀ a b : Int, g.Client (((wc.setCell ⟨g.cl, 5, none⟩ (.int .i64 a)).setCell ⟨g.cl, 6, none⟩ (.int .i64 b)).drew) true (.slice (some ⟨dn, 0, none⟩) l.length l.length) (.slice (some ⟨hv, 0, none⟩) l.length l.length) ∧ Mod (fun k => k = g.cl) wc (((wc.setCell ⟨g.cl, 5, none⟩ (.int .i64 a)).setCell ⟨g.cl, 6, none⟩ (.int .i64 b)).drew)) := Lib.hid (fun a b => by
              refine ⟨⟨_, a, b, (BC5.put 5 (.int .i64 a)).put 6 (.int .i64 b), ?_, ?_, ?_, ?_, ?_, ?_, ?_⟩, (((Mod.refl (fun k => k = g.cl) wc).put (p := ⟨g.cl, 5, none⟩) (.inl rfl) (.int .i64 a)).put (p := ⟨g.cl, 6, none⟩) (.inl rfl) (.int .i64 b)).drew⟩
              · simp [Array.getElem?_setIfInBounds, d0]
              · simp [Array.getElem?_setIfInBounds, d1]
              · simp [Array.getElem?_setIfInBounds, d2]
              · simp [Array.getElem?_setIfInBounds, d3]
              · simp [Array.getElem?_setIfInBounds, d4]
              · simp [Array.getElem?_setIfInBounds]; omega
              · simp [Array.getElem?_setIfInBounds]; omega)
            clear BC5 d0 d1 d2 d3 d4 d5 d6 hbd hbh hcz hm kf lf hs7 BC k2 k3 k4 fc lc
            go_wp2_with fail
            refine wp_region_held_drew (S := SteadyBut (g.cl) _) (by kernel_rfl) (SteadyBut.of (Below.refl _ _).drew) ?_
            intro hSt
            refine wpAnyH_seq (is := [0, 1, 2, 3, 4, 7, 8, 9, 11, 12]) (by kernel_rfl) (by kernel_rfl) (fun _ _ d _ _ h => by cases d <;> exact h) (by assumption) ?_
            iterate 10 (first | (refine TakeSeq.step (v := undef) rfl (Or.inr ⟨by rfl, rfl⟩) ?_; simp only [Act.put, List.setIfInBounds_toArray, List.set_cons_zero, List.set_cons_succ, List.getElem_toArray, List.getElem_cons_zero, List.getElem_cons_succ]) | (refine TakeSeq.step (v := ?_) rfl (Or.inl ⟨by rfl, ?_⟩) ?_; rotate_left 1; (focus (intro wq hSq; have hrd := hSq.rule; go_simp; with_reducible rfl)); simp only [Act.put, List.setIfInBounds_toArray, List.set_cons_zero, List.set_cons_succ, List.getElem_toArray, List.getElem_cons_zero, List.getElem_cons_succ]))
            refine TakeSeq.done ?_
            refine wpAnyH_ready (rs := [5, 10]) (by kernel_rfl) (by simp) ?_
            refine AllReadyH.cons rfl (fun K hK => ?_) (AllReadyH.cons rfl (fun K hK => ?_) (AllReadyH.nil))
            · skip
              rw [if_pos (by rfl)]
              go_simp
              refine hK.out _ _ (SteadyBut.over (by (repeat (first | with_reducible exact Over.refl _ _ | with_reducible assumption | with_reducible refine Over.put ?_ _ _ | with_reducible refine Over.alloc ?_ _ | with_reducible refine Over.drew ?_ | with_reducible refine Over.own ?_ (by first | (simp; done) | (simp; omega)) _ | with_reducible refine Over.trans ?_ (by assumption) | with_reducible refine Over.then_below ?_ (by assumption))))) (fun hHeld => ?_)
              clear hK K
              refine wpAnyH_seq (is := [6]) (by kernel_rfl) (by kernel_rfl) (fun _ _ d _ _ h => by cases d <;> exact h) (by assumption) ?_
              iterate 1 (first | (refine TakeSeq.step (v := undef) rfl (Or.inr ⟨by rfl, rfl⟩) ?_; simp only [Act.put, List.setIfInBounds_toArray, List.set_cons_zero, List.set_cons_succ, List.getElem_toArray, List.getElem_cons_zero, List.getElem_cons_succ]) | (refine TakeSeq.step (v := ?_) rfl (Or.inl ⟨by rfl, ?_⟩) ?_; rotate_left 1; (focus (intro wq hSq; have hrd := hSq.rule; go_simp; with_reducible rfl)); simp only [Act.put, List.setIfInBounds_toArray, List.set_cons_zero, List.set_cons_succ, List.getElem_toArray, List.getElem_cons_zero, List.getElem_cons_succ]))
              refine TakeSeq.done ?_
              refine wpAnyH_ready (rs := [10]) (by kernel_rfl) (by simp) ?_
              refine AllReadyH.cons rfl (fun K hK => ?_) (AllReadyH.nil)
              rw [if_pos (by rfl)]
              go_simp
              refine hK.out _ _ (SteadyBut.over (by (repeat (first | with_reducible exact Over.refl _ _ | with_reducible assumption | with_reducible refine Over.put ?_ _ _ | with_reducible refine Over.alloc ?_ _ | with_reducible refine Over.drew ?_ | with_reducible refine Over.own ?_ (by first | (simp; done) | (simp; omega)) _ | with_reducible refine Over.trans ?_ (by assumption) | with_reducible refine Over.then_below ?_ (by assumption))))) (fun hHeld => ?_)
              clear hK K
              refine wpAnyH_seq (is := [13, 14, 15]) (by kernel_rfl) (by kernel_rfl) (fun _ _ d _ _ h => by cases d <;> exact h) (by assumption) ?_
              iterate 3 (first | (refine TakeSeq.step (v := undef) rfl (Or.inr ⟨by rfl, rfl⟩) ?_; simp only [Act.put, List.setIfInBounds_toArray, List.set_cons_zero, List.set_cons_succ, List.getElem_toArray, List.getElem_cons_zero, List.getElem_cons_succ]) | (refine TakeSeq.step (v := ?_) rfl (Or.inl ⟨by rfl, ?_⟩) ?_; rotate_left 1; (focus (intro wq hSq; have hrd := hSq.rule; go_simp; with_reducible rfl)); simp only [Act.put, List.setIfInBounds_toArray, List.set_cons_zero, List.set_cons_succ, List.getElem_toArray, List.getElem_cons_zero, List.getElem_cons_succ]))
              refine TakeSeq.done ?_
              refine wpAnyH_ready (rs := [16]) (by kernel_rfl) (by simp) ?_
              refine AllReadyH.cons rfl (fun K hK => ?_) (AllReadyH.nil)
              rw [if_pos (by rfl)]
              go_simp
              refine hK.out _ _ (SteadyBut.over (by (repeat (first | with_reducible exact Over.refl _ _ | with_reducible assumption | with_reducible refine Over.put ?_ _ _ | with_reducible refine Over.alloc ?_ _ | with_reducible refine Over.drew ?_ | with_reducible refine Over.own ?_ (by first | (simp; done) | (simp; omega)) _ | with_reducible refine Over.trans ?_ (by assumption) | with_reducible refine Over.then_below ?_ (by assumption))))) (fun hHeld => ?_)
              clear hK K
              refine wpAnyH_seq (is := [17, 18]) (by kernel_rfl) (by kernel_rfl) (fun _ _ d _ _ h => by cases d <;> exact h) (by assumption) ?_
              iterate 2 (first | (refine TakeSeq.step (v := undef) rfl (Or.inr ⟨by rfl, rfl⟩) ?_; simp only [Act.put, List.setIfInBounds_toArray, List.set_cons_zero, List.set_cons_succ, List.getElem_toArray, List.getElem_cons_zero, List.getElem_cons_succ]) | (refine TakeSeq.step (v := ?_) rfl (Or.inl ⟨by rfl, ?_⟩) ?_; rotate_left 1; (focus (intro wq hSq; have hrd := hSq.rule; go_simp; with_reducible rfl)); simp only [Act.put, List.setIfInBounds_toArray, List.set_cons_zero, List.set_cons_succ, List.getElem_toArray, List.getElem_cons_zero, List.getElem_cons_succ]))
              refine TakeSeq.done ?_
              refine wpAnyH_ready (rs := [19]) (by kernel_rfl) (by simp) ?_
              refine AllReadyH.cons rfl (fun K hK => ?_) (AllReadyH.nil)
              rw [if_pos (by rfl)]
              go_simp
              refine hK.out _ _ (SteadyBut.over (by (repeat (first | with_reducible exact Over.refl _ _ | with_reducible assumption | with_reducible refine Over.put ?_ _ _ | with_reducible refine Over.alloc ?_ _ | with_reducible refine Over.drew ?_ | with_reducible refine Over.own ?_ (by first | (simp; done) | (simp; omega)) _ | with_reducible refine Over.trans ?_ (by assumption) | with_reducible refine Over.then_below ?_ (by assumption))))) (fun hHeld => ?_)
              clear hK K
              refine wpAnyH_done (by kernel_rfl) ?_ _
              go_wp2_with fail
              refine bodyPost_ret (results_tmp rfl _ _ _) rfl ?_
              exact HF.out _ (HC5.out _ _).2 (HC5.out _ _).1
            · skip
              rw [if_pos (by rfl)]
              go_simp
              refine hK.out _ _ (SteadyBut.over (by (repeat (first | with_reducible exact Over.refl _ _ | with_reducible assumption | with_reducible refine Over.put ?_ _ _ | with_reducible refine Over.alloc ?_ _ | with_reducible refine Over.drew ?_ | with_reducible refine Over.own ?_ (by first | (simp; done) | (simp; omega)) _ | with_reducible refine Over.trans ?_ (by assumption) | with_reducible refine Over.then_below ?_ (by assumption))))) (fun hHeld => ?_)
              clear hK K
              refine wpAnyH_seq (is := [13]) (by kernel_rfl) (by kernel_rfl) (fun _ _ d _ _ h => by cases d <;> exact h) (by assumption) ?_
              iterate 1 (first | (refine TakeSeq.step (v := undef) rfl (Or.inr ⟨by rfl, rfl⟩) ?_; simp only [Act.put, List.setIfInBounds_toArray, List.set_cons_zero, List.set_cons_succ, List.getElem_toArray, List.getElem_cons_zero, List.getElem_cons_succ]) | (refine TakeSeq.step (v := ?_) rfl (Or.inl ⟨by rfl, ?_⟩) ?_; rotate_left 1; (focus (intro wq hSq; have hrd := hSq.rule; go_simp; with_reducible rfl)); simp only [Act.put, List.setIfInBounds_toArray, List.set_cons_zero, List.set_cons_succ, List.getElem_toArray, List.getElem_cons_zero, List.getElem_cons_succ]))
              refine TakeSeq.done ?_
              refine wpAnyH_ready (rs := [5]) (by kernel_rfl) (by simp) ?_
              refine AllReadyH.cons rfl (fun K hK => ?_) (AllReadyH.nil)
              rw [if_pos (by rfl)]
              go_simp
              refine hK.out _ _ (SteadyBut.over (by (repeat (first | with_reducible exact Over.refl _ _ | with_reducible assumption | with_reducible refine Over.put ?_ _ _ | with_reducible refine Over.alloc ?_ _ | with_reducible refine Over.drew ?_ | with_reducible refine Over.own ?_ (by first | (simp; done) | (simp; omega)) _ | with_reducible refine Over.trans ?_ (by assumption) | with_reducible refine Over.then_below ?_ (by assumption))))) (fun hHeld => ?_)
              clear hK K
              refine wpAnyH_seq (is := [6, 14, 15]) (by kernel_rfl) (by kernel_rfl) (fun _ _ d _ _ h => by cases d <;> exact h) (by assumption) ?_
              iterate 3 (first | (refine TakeSeq.step (v := undef) rfl (Or.inr ⟨by rfl, rfl⟩) ?_; simp only [Act.put, List.setIfInBounds_toArray, List.set_cons_zero, List.set_cons_succ, List.getElem_toArray, List.getElem_cons_zero, List.getElem_cons_succ]) | (refine TakeSeq.step (v := ?_) rfl (Or.inl ⟨by rfl, ?_⟩) ?_; rotate_left 1; (focus (intro wq hSq; have hrd := hSq.rule; go_simp; with_reducible rfl)); simp only [Act.put, List.setIfInBounds_toArray, List.set_cons_zero, List.set_cons_succ, List.getElem_toArray, List.getElem_cons_zero, List.getElem_cons_succ]))
              refine TakeSeq.done ?_
              refine wpAnyH_ready (rs := [16]) (by kernel_rfl) (by simp) ?_
              refine AllReadyH.cons rfl (fun K hK => ?_) (AllReadyH.nil)
              rw [if_pos (by rfl)]
              go_simp
              refine hK.out _ _ (SteadyBut.over (by (repeat (first | with_reducible exact Over.refl _ _ | with_reducible assumption | with_reducible refine Over.put ?_ _ _ | with_reducible refine Over.alloc ?_ _ | with_reducible refine Over.drew ?_ | with_reducible refine Over.own ?_ (by first | (simp; done) | (simp; omega)) _ | with_reducible refine Over.trans ?_ (by assumption) | with_reducible refine Over.then_below ?_ (by assumption))))) (fun hHeld => ?_)
              clear hK K
              refine wpAnyH_seq (is := [17, 18]) (by kernel_rfl) (by kernel_rfl) (fun _ _ d _ _ h => by cases d <;> exact h) (by assumption) ?_
              iterate 2 (first | (refine TakeSeq.step (v := undef) rfl (Or.inr ⟨by rfl, rfl⟩) ?_; simp only [Act.put, List.setIfInBounds_toArray, List.set_cons_zero, List.set_cons_succ, List.getElem_toArray, List.getElem_cons_zero, List.getElem_cons_succ]) | (refine TakeSeq.step (v := ?_) rfl (Or.inl ⟨by rfl, ?_⟩) ?_; rotate_left 1; (focus (intro wq hSq; have hrd := hSq.rule; go_simp; with_reducible rfl)); simp only [Act.put, List.setIfInBounds_toArray, List.set_cons_zero, List.set_cons_succ, List.getElem_toArray, List.getElem_cons_zero, List.getElem_cons_succ]))
              refine TakeSeq.done ?_
              refine wpAnyH_ready (rs := [19]) (by kernel_rfl) (by simp) ?_
              refine AllReadyH.cons rfl (fun K hK => ?_) (AllReadyH.nil)
              rw [if_pos (by rfl)]
              go_simp
              refine hK.out _ _ (SteadyBut.over (by (repeat (first | with_reducible exact Over.refl _ _ | with_reducible assumption | with_reducible refine Over.put ?_ _ _ | with_reducible refine Over.alloc ?_ _ | with_reducible refine Over.drew ?_ | with_reducible refine Over.own ?_ (by first | (simp; done) | (simp; omega)) _ | with_reducible refine Over.trans ?_ (by assumption) | with_reducible refine Over.then_below ?_ (by assumption))))) (fun hHeld => ?_)
              clear hK K
              refine wpAnyH_done (by kernel_rfl) ?_ _
              go_wp2_with fail
              refine bodyPost_ret (results_tmp rfl _ _ _) rfl ?_
              exact HF.out _ (HC5.out _ _).2 (HC5.out _ _).1
end Go.Proofs.YtoidjgongafnkaaGreatDoor
