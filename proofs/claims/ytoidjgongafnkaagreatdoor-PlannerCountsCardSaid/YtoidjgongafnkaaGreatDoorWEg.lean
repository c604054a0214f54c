/- The reference's fabric: a verb goes one piece on; plain facts. -/
import Derived.Test.YtoidjgongafnkaaGreatDoorWEe
import Derived.Deep.MidRow
set_option linter.unusedVariables false
set_option linter.unusedSimpArgs false
set_option linter.unusedSectionVars false
set_option linter.constructorNameAsVariable false
namespace Go.Proofs.YtoidjgongafnkaaGreatDoor
open Go.RowKit

theorem pieces_len (f : Nat) : ∀ a l, l ≤ f → (Cm.pieces f a l).length ≤ l := by
  induction f with
  | zero => intro a l h; simp [Cm.pieces]
  | succ f ih =>
    intro a l h
    rcases l with _ | l
    · simp [Cm.pieces]
    · rw [pieces_step _ _ _ (by omega)]
      have h1 : 1 ≤ min (l + 1) (8 - a % 8) := by omega
      have := ih (a + min (l + 1) (8 - a % 8)) (l + 1 - min (l + 1) (8 - a % 8)) (by omega)
      simp only [List.length_cons]
      omega
theorem pcCells_at {w : World} {base g cap : Nat} {l : List (Nat × Nat)} (h : w.ownsRow base 215 2 (.slice (some ⟨g, 0, none⟩) l.length cap) l.length (pcCells l)) (i : Nat) (pc : Nat × Nat) (hi : l[i]? = some pc) :
    w.cell? ⟨g, i * 2, none⟩ = some (.int .i64 pc.1) ∧ w.cell? ⟨g, i * 2 + 1, none⟩ = some (.int .i64 pc.2) := by
  have h1 := flat_at (fun t : Nat × Nat => [Value.int .i64 (t.1 : Int), Value.int .i64 (t.2 : Int)]) 2 (fun _ => rfl) l i pc hi
  exact ⟨own_cells h (i * 2) _ ((h1 0 (by omega)).trans rfl), own_cells h _ _ ((h1 1 (by omega)).trans rfl)⟩
theorem results_bttt {P : Program} {fn : Func} {p u u2 u3 : Tmp} {ty : TypeId} (h : fn.results = #[.cell p ty, .tmp u, .tmp u2, .tmp u3]) (tmps : Array Value) (w : World) (g : Nat) (t : TypeId) (cs : Array Value) (d : TypeDesc)
    (hp : tmps.getD p undef = .pointer (some ⟨g, 0, none⟩)) (hg : Blk w g t cs) (hu : P.underlying ty = some d) (hd : (match d with | .struct _ | .array _ _ => true | _ => false) = true) (hi : (P.info? ty).map (·.size) = some cs.size) :
    (results fn tmps).run P w = .ok (.tuple #[.agg cs, tmps.getD u undef, tmps.getD u2 undef, tmps.getD u3 undef]) w := by
  have e : (results fn tmps).run P w = ((asAddr (tmps.getD p undef)).run P w).andThen fun a w₁ => ((loadVar ty a).run P w₁).andThen fun v w₂ => .ok (.tuple #[v, tmps.getD u undef, tmps.getD u2 undef, tmps.getD u3 undef]) w₂ := by
    simp only [results, h]
    simp [Sem.run_bind, Result.andThen]
  rw [e, hp]
  simp [asAddr, Result.andThen, run_loadVar_row w g t ty cs (0, 0) d hg hu hd hi]
/-- The block of an own row. -/
theorem own_blk {w : World} {base e size g n cap : Nat} {xs : List Value} (h : w.ownsRow base e size (.slice (some ⟨g, 0, none⟩) n cap) n xs) : base ≤ g ∧ n ≤ cap ∧ ∃ cur, Blk w g e cur ∧ n * size ≤ cur.size ∧ ∀ (j : Nat) u, xs[j]? = some u → cur[j]? = some u := by
  have hc := fun j u hj => own_cells h j u hj
  rcases h.2 with ⟨h1, _⟩ | ⟨g', cap', cur, hv, hb, hh, hn, _, hs, ht⟩
  · simp at h1
  · simp only [Value.slice.injEq, Option.some.injEq, Addr.mk.injEq, and_true, true_and] at hv
    obtain ⟨rfl, rfl⟩ := hv
    refine ⟨hb, hn, cur, hh, by rw [hs]; exact Nat.mul_le_mul_right _ hn, fun j u hj => ?_⟩
    have := hc j u hj
    rwa [(show Blk w g e cur from hh).cell] at this
/-- Cells of one block are written. -/
theorem setCells_cut {b : Nat} {t : TypeId} (vs : List Value) : ∀ (o : Nat) (w : World) (cur : Array Value), Blk w b t cur → (∃ cur', Blk (w.setCells b o vs) b t cur') ∧ Over b w (w.setCells b o vs) := by
  induction vs with
  | nil => intro o w cur h; exact ⟨⟨cur, h⟩, Over.refl _ _⟩
  | cons v vs ih =>
    intro o w cur h
    obtain ⟨h1, h2⟩ := ih (o + 1) (w.setCell ⟨b, o, none⟩ v) _ (h.put o v)
    exact ⟨h1, ((Over.refl b w).put o v).trans h2⟩
/-- The first of a row's elements is written over. -/
theorem row_set {w : World} {g : Nat} {t : TypeId} {cur : Array Value} (h : Blk w g t cur) (ys zs : List Value) (old : List Value) (hs : ys.length ≤ cur.size) (hc : ∀ (j : Nat) u, (old ++ zs)[j]? = some u → cur[j]? = some u) (hl : old.length = ys.length) :
    ∃ cur', Blk (w.setCells g 0 ys) g t cur' ∧ ∀ (j : Nat) u, (ys ++ zs)[j]? = some u → cur'[0 + j]? = some u := by
  obtain ⟨⟨cur', h1⟩, _⟩ := setCells_cut ys 0 w cur h
  refine ⟨cur', h1, fun j u hj => ?_⟩
  rw [Nat.zero_add, ← h1.cell]
  by_cases hjl : j < ys.length
  · rw [List.getElem?_append_left hjl] at hj
    have := World.cell?_setCells_in g ys 0 w (fun i hi => by rw [h.cell, Array.getElem?_eq_getElem (by omega)]; rfl) j hjl
    rw [Nat.zero_add] at this
    rw [this, ← hj, List.getElem?_eq_getElem hjl]
  · rw [World.cell?_setCells_out g ys 0 w ⟨g, j, none⟩ (fun _ _ => .inr (by show 0 + ys.length ≤ j; omega)), h.cell]
    rw [List.getElem?_append_right (by omega)] at hj
    exact hc j u (by rw [List.getElem?_append_right (by omega), hl]; exact hj)
/-- The pair's queue and the answer behind one piece of its first verb. -/
def stepNext (x : Cm.Pend) (ws : List Int) : Cm.Pend := { x with exec := x.exec + 1, got := x.got ++ ws }
def PStep (br o b lo : Nat) (cs : Array Value) (x : Cm.Pend) (rest : List Cm.Pend) (m : Cm.Mem) (pc : Nat × Nat) (w : World) (e : Ending) (w' : World) : Prop :=
  (∃ v', Blk w' br 107 (cs.setIfInBounds (o + 3) v') ∧
    ((x.exec + 1 < x.v.pieces.length ∧ e = .returned (.tuple #[.agg #[.int .i64 0, .slice none 0 0], .int .i64 (-1), .bool false, .bool true]) ∧ QueueAt w' lo v' (stepNext x (x.v.exec m pc).1 :: rest))
     ∨ (¬ x.exec + 1 < x.v.pieces.length ∧ ∃ vg, e = .returned (.tuple #[.agg #[.int .i64 0, vg], .int .i64 x.slot, .bool true, .bool true]) ∧ W0 w' lo vg (x.got ++ (x.v.exec m pc).1) ∧ QueueAt w' lo v' rest))) ∧
  MemAt w' b (x.v.exec m pc).2 ∧ Mod (fun k => k = br ∨ k = b) w w'
end Go.Proofs.YtoidjgongafnkaaGreatDoor
