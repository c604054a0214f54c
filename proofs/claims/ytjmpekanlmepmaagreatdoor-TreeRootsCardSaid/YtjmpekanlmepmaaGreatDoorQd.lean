/- Entries as cells; the append of one entry. Rows of seven words. -/
import Derived.Test.YtjmpekanlmepmaaGreatDoorQc
import Derived.IntWalk
import Derived.ChangeKeysEq
set_option linter.unusedVariables false
set_option linter.unusedSimpArgs false
set_option linter.unusedSectionVars false
set_option linter.constructorNameAsVariable false
namespace Go.Proofs.YtjmpekanlmepmaaGreatDoor
open Go.RowKit

def entCells (es : List Bt.Entry) : List Value := es.flatMap (fun e => e.cells.toList)
theorem entCells_length (es : List Bt.Entry) : (entCells es).length = es.length * 3 := by
  induction es with
  | nil => rfl
  | cons e es ih => simp only [entCells, List.flatMap_cons, List.length_append] at ih ⊢; rw [ih]; simp [Bt.Entry.cells]; omega
theorem entCells_append (a b : List Bt.Entry) : entCells (a ++ b) = entCells a ++ entCells b := by simp [entCells]
theorem entCells_get (es : List Bt.Entry) (i : Nat) (e : Bt.Entry) (h : es[i]? = some e) (j : Nat) (u : Value) (hu : e.cells[j]? = some u) : (entCells es)[i * 3 + j]? = some u := by
  induction es generalizing i with
  | nil => simp at h
  | cons x es ih =>
    have hj : j < 3 := by
      have := (Array.getElem?_eq_some_iff.1 hu).1
      simpa [Bt.Entry.cells] using this
    cases i with
    | zero =>
      simp at h
      subst h
      simp only [entCells, List.flatMap_cons, Nat.zero_mul, Nat.zero_add]
      rw [List.getElem?_append_left (by simp [Bt.Entry.cells]; omega)]
      simpa using hu
    | succ i =>
      simp only [List.getElem?_cons_succ] at h
      have := ih i h
      simp only [entCells, List.flatMap_cons]
      rw [List.getElem?_append_right (by simp [Bt.Entry.cells]; omega)]
      have e1 : (i + 1) * 3 + j - x.cells.toList.length = i * 3 + j := by simp [Bt.Entry.cells]; omega
      rw [e1]
      exact this

/-- A row of entries of the call's own. -/
theorem EntRow.of_own {w : World} {base n : Nat} {v : Value} {es : List Bt.Entry} (h : w.ownsRow base 69 3 v n (entCells es)) (hn : es.length = n) (hok : ∀ e ∈ es, e.Ok) : EntRow w v es := by
  subst hn
  rcases h.2 with ⟨rfl, h0⟩ | ⟨g, cap, cur, rfl, hb, hc, h1, h2, h3, h4⟩
  · exact ⟨hok, by omega, .inl ⟨rfl, List.length_eq_zero_iff.1 h0⟩⟩
  · refine ⟨hok, by omega, .inr ⟨g, 0, cap, rfl, ?_, fun i p hi j u hu => ?_⟩⟩
    · exact (Array.getElem?_eq_some_iff.1 hc).1
    · have hx := entCells_get es i p hi j u hu
      rw [Nat.zero_add]
      exact own_cells (w := w) (g := g) ⟨h.1, .inr ⟨g, cap, cur, rfl, hb, hc, h1, h2, h3, h4⟩⟩ _ _ hx

theorem infoEntry : (Tryz.prog.info? 69).map (fun i => (i.zero, i.size, i.bytes)) = some (some (.agg #[.int .u32 0, .int .i64 0, .int .i64 0]), 3, 24) := by kernel_rfl

theorem three_news {w : World} {b : Nat} {x y z : Value} (hx : w.cell? ⟨b, 0, none⟩ = some x) (hy : w.cell? ⟨b, 1, none⟩ = some y) (hz : w.cell? ⟨b, 2, none⟩ = some z) : ∀ j v, [x, y, z][j]? = some v → w.cell? ((⟨b, 0, none⟩ : Addr).add j) = some v := by
  intro j v hv
  match j with
  | 0 => simp at hv; subst hv; exact hx
  | 1 => simp at hv; subst hv; exact hy
  | 2 => simp at hv; subst hv; exact hz
  | j + 3 => simp at hv

section
variable {w w' : World} {base n size : Nat} {e : TypeId} {v : Value} {xs : List Value}
theorem own_below (h : w.ownsRow base e size v n xs) (hb : Below w.heap.size w w') : w'.ownsRow base e size v n xs := by
  refine ⟨h.1, ?_⟩
  rcases h.2 with h1 | ⟨g, cap, cur, hv, hbase, hc, h1, h2, h3, h4⟩
  · exact .inl h1
  · exact .inr ⟨g, cap, cur, hv, hbase, (hb.block g (Array.getElem?_eq_some_iff.1 hc).1).trans hc, h1, h2, h3, h4⟩
theorem own_aside (h : w.ownsRow base e size v n xs) {p : Addr} (hp : p.block < base) (u : Value) : (w.setCell p u).ownsRow base e size v n xs := by
  refine ⟨h.1, ?_⟩
  rcases h.2 with h1 | ⟨g, cap, cur, hv, hbase, hc, h1, h2, h3, h4⟩
  · exact .inl h1
  · exact .inr ⟨g, cap, cur, hv, hbase, (heap_setCell_other w p g u (by omega)).trans hc, h1, h2, h3, h4⟩
theorem own_ne {b : Nat} (h : w.ownsRow base e size v n xs) (hb : b < base) : some b ≠ v.ownBlock := by
  rcases h.2 with ⟨rfl, _⟩ | ⟨g, cap, cur, rfl, hbase, _⟩
  · simp [Value.ownBlock]
  · simp [Value.ownBlock]; omega
theorem own_row_ge (h : w.ownsRow base e size v n xs) : ∀ k, v.ownBlock = some k → base ≤ k := by
  rcases h.2 with ⟨rfl, _⟩ | ⟨g, cap, cur, rfl, hbase, _⟩
  · simp [Value.ownBlock]
  · intro k hk; simp [Value.ownBlock] at hk; omega
end
end Go.Proofs.YtjmpekanlmepmaaGreatDoor
namespace Go.Proofs.YtjmpekanlmepmaaGreatDoor
open Go.RowKit

/-- Are two rows of seven words the same? -/
def weq (a0 a1 a2 a3 a4 a5 a6 b0 b1 b2 b3 b4 b5 b6 : Int) : Bool := decide (a0 = b0 ∧ a1 = b1 ∧ a2 = b2 ∧ a3 = b3 ∧ a4 = b4 ∧ a5 = b5 ∧ a6 = b6)
theorem infoWord : (Tryz.prog.info? 22).map (fun i => (i.zero, i.size, i.bytes)) = some (some (.int .u64 0), 1, 8) := by kernel_rfl
theorem neq_words (a0 a1 a2 a3 a4 a5 a6 b0 b1 b2 b3 b4 b5 b6 : Int) (w : World) :
    (binOp .neq 23 (.agg #[.int .u64 a0, .int .u64 a1, .int .u64 a2, .int .u64 a3, .int .u64 a4, .int .u64 a5, .int .u64 a6]) (.agg #[.int .u64 b0, .int .u64 b1, .int .u64 b2, .int .u64 b3, .int .u64 b4, .int .u64 b5, .int .u64 b6])).run Tryz.prog w =
      .ok (.bool (!weq a0 a1 a2 a3 a4 a5 a6 b0 b1 b2 b3 b4 b5 b6)) w := by
  obtain ⟨i, hi, _, hsz, _⟩ := info_parts infoWord
  have hc : Tryz.prog.cellsOf 22 = 1 := by kernel_rfl
  have hu : Tryz.prog.underlying 22 = some (.int .u64) := by kernel_rfl
  rw [run_neq_struct, run_equalIn_array (d := 9999) (hu := Tryz.underlying23) (hi := hi), hc]
  simp [Op.eqItems, List.range, List.range.loop, go_sem, hu, weq]
  repeat' split
  all_goals simp [*]
theorem field_data (x0 x1 x2 x3 x4 x5 x6 x7 x8 : Value) (w : World) : (Instr.field 25 (.agg #[x0, x1, x2, x3, x4, x5, x6, x7, x8]) 2).run Tryz.prog w = .ok (.agg #[x2, x3, x4, x5, x6, x7, x8]) w := by kernel_rfl
theorem fill_same (n : Bt.Node) (p : Bt.Page) : weq (n.fill p).d0 (n.fill p).d1 (n.fill p).d2 (n.fill p).d3 (n.fill p).d4 (n.fill p).d5 (n.fill p).d6 p.d0 p.d1 p.d2 p.d3 p.d4 p.d5 p.d6 = decide (n.fill p = p) := by
  obtain ⟨l, h, d0, d1, d2, d3, d4, d5, d6⟩ := p
  simp only [weq, Bt.Node.fill, Bt.Page.mk.injEq, true_and]
  congr

end Go.Proofs.YtjmpekanlmepmaaGreatDoor
