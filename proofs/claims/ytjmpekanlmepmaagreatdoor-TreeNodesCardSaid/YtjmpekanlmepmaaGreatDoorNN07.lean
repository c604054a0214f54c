/- Package btree: nodes: what can be stored: the walks behind the first tests (printed by valid_gen.py). -/
import Derived.Test.YtjmpekanlmepmaaGreatDoorNN05
import Derived.Deep.Light
set_option linter.all false
set_option maxRecDepth 20000
set_option maxHeartbeats 8000000
open Go.Lib (hid)
namespace Go.Proofs.YtjmpekanlmepmaaGreatDoor
open Go.RowKit
theorem lastKey_get (es : List Bt.Entry) (k : Nat) (hk : k + 1 = es.length) : Bt.lastKey es = es[k].key := by
 induction es generalizing k with
 | nil => simp at hk
 | cons e es ih =>
   cases es with
   | nil => simp at hk; subst hk; rfl
   | cons e2 es =>
     cases k with
     | zero => simp at hk
     | succ k => simp only [Bt.lastKey, List.getElem_cons_succ]; exact ih k (by simpa using hk)
theorem sG2 {P : Prop} (h : P := by
 subst hv
 have H0 := hid hes
 have l0 : n.entries.length = 0 := by rw [hes]; rfl
 have L0 := hid l0
 clear hes l0
 clear h h1 h2 he hL
 have ne := neq_ptr
 have eq := eql_ptr
 have tg61 := trivial
 have tg65 := trivial
 have tg66 := trivial
 exact wG8) : P := h
theorem wG5 {P : Prop} (h : P := by
 have HX : Hid (n.valid = if 0 < n.level then !n.dead && decide (Bt.lastKey n.entries = n.high) else if n.dead = true ∧ (0 < n.entries.length ∨ n.leftmost = true ∨ n.right = Bt.nilP) then false else decide (Bt.lastKey n.entries ≤ n.high) && decide (Bt.lastKey n.entries ≤ Bt.maxKey)) :=
  hid (by simp only [Bt.Node.valid]; rw [if_neg h, if_neg (by simp [Bt.maxHigh, h1, h2])])
 have He := hid he
 obtain ⟨g0, g1, gl⟩ := hg
 have hlen := he.len
 unfold maxLen at hlen
 unfold nodeCells
 have a1 : decide (n.level < 0) = false := by simp; omega
 have a2 : decide (8 < n.level) = false := by simp; omega
 have a3 : decide (5 < (n.entries.length : Int)) = false := by simp; omega
 have a4 : (n.high == 0) = false := by simp; omega
 have HR : Hid (Bt.rising n.entries = true) := hid (by cases hr : Bt.rising n.entries <;> simp_all)
 have hp : peq n.right.line n.right.gen 0 0 = true := by rw [peq_nil]; simp [h1]
 have hm : (n.high == 4294967295) = true := by simp [h2]
 have HN : Hid (n.right = Bt.nilP) := hid h1
 first
  | clear tg41
    have aL : decide (0 < n.level) = false := by simp; omega
    have HL0 : Hid (n.level ≤ 0) := hid hL
    first
     | clear tg42
       have HD := hid hD
       first
        | clear tg43
          rw [hes] at hv
          exact sG2
        | clear tg44
          exact sG2
     | clear tg45
       exact sG6
  | clear tg46
    have aL : decide (0 < n.level) = true := by simp; omega
    have HL0 : Hid (0 < n.level) := hid hL
    first
     | clear tg47
       have HD := hid hD
       first
        | clear tg48
          rw [hes] at hv
          exact sG2
        | clear tg49
          exact sG2
     | clear tg50
       exact sG6) : P := h
theorem sG21 {P : Prop} (h : P := by
 have tg46 := trivial
 have tg47 := trivial
 have tg49 := trivial
 exact wG5) : P := h
set_option maxRecDepth 100000 in
theorem valid_d1p (n : Bt.Node) (v : Value) (w : World) (he : EntRow w v n.entries) (hg : NoneAt w) (h : ¬ (n.level < 0 ∨ 8 < n.level ∨ 5 < n.entries.length ∨ Bt.rising n.entries = false ∨ n.high = 0))
 (h1 : n.right = Bt.nilP) (h2 : n.high = 4294967295) (hL : 0 < n.level) (hD : n.dead = true) (hv : v = .slice none 0 0) (hes : n.entries = []) :
 Calls Tryz.prog 63 #[.agg (nodeCells n v)] w fun e w' => e = .returned (.bool n.valid) ∧ Below w.heap.size w w' := by
 exact sG21
set_option maxRecDepth 100000 in
theorem valid_d1q (n : Bt.Node) (v : Value) (w : World) (he : EntRow w v n.entries) (hg : NoneAt w) (h : ¬ (n.level < 0 ∨ 8 < n.level ∨ 5 < n.entries.length ∨ Bt.rising n.entries = false ∨ n.high = 0))
 (h1 : n.right = Bt.nilP) (h2 : n.high = 4294967295) (hL : 0 < n.level) (hD : n.dead = false) (hv : v = .slice none 0 0) (hes : n.entries = []) :
 Calls Tryz.prog 63 #[.agg (nodeCells n v)] w fun e w' => e = .returned (.bool n.valid) ∧ Below w.heap.size w w' := by
 exact sG21
theorem sG20 {P : Prop} (h : P := by
 have tg41 := trivial
 have tg42 := trivial
 have tg44 := trivial
 exact wG5) : P := h
set_option maxRecDepth 100000 in
theorem valid_d1r (n : Bt.Node) (v : Value) (w : World) (he : EntRow w v n.entries) (hg : NoneAt w) (h : ¬ (n.level < 0 ∨ 8 < n.level ∨ 5 < n.entries.length ∨ Bt.rising n.entries = false ∨ n.high = 0))
 (h1 : n.right = Bt.nilP) (h2 : n.high = 4294967295) (hL : n.level ≤ 0) (hD : n.dead = true) (hv : v = .slice none 0 0) (hes : n.entries = []) :
 Calls Tryz.prog 63 #[.agg (nodeCells n v)] w fun e w' => e = .returned (.bool n.valid) ∧ Below w.heap.size w w' := by
 exact sG20
set_option maxRecDepth 100000 in
theorem valid_d1s (n : Bt.Node) (v : Value) (w : World) (he : EntRow w v n.entries) (hg : NoneAt w) (h : ¬ (n.level < 0 ∨ 8 < n.level ∨ 5 < n.entries.length ∨ Bt.rising n.entries = false ∨ n.high = 0))
 (h1 : n.right = Bt.nilP) (h2 : n.high = 4294967295) (hL : n.level ≤ 0) (hD : n.dead = false) (hv : v = .slice none 0 0) (hes : n.entries = []) :
 Calls Tryz.prog 63 #[.agg (nodeCells n v)] w fun e w' => e = .returned (.bool n.valid) ∧ Below w.heap.size w w' := by
 exact sG20
theorem sG17 {P : Prop} (h : P := by
 have tg46 := trivial
 have tg47 := trivial
 have tg48 := trivial
 exact wG5) : P := h
set_option maxRecDepth 100000 in
theorem valid_d2p (n : Bt.Node) (v : Value) (w : World) (he : EntRow w v n.entries) (hg : NoneAt w) (h : ¬ (n.level < 0 ∨ 8 < n.level ∨ 5 < n.entries.length ∨ Bt.rising n.entries = false ∨ n.high = 0))
 (h1 : n.right = Bt.nilP) (h2 : n.high = 4294967295) (hL : 0 < n.level) (hD : n.dead = true) (b off cap : Nat) (hv : v = .slice (some ⟨b, off, none⟩) n.entries.length cap) (hes : n.entries = []) :
 Calls Tryz.prog 63 #[.agg (nodeCells n v)] w fun e w' => e = .returned (.bool n.valid) ∧ Below w.heap.size w w' := by
 exact sG17
set_option maxRecDepth 100000 in
theorem valid_d2q (n : Bt.Node) (v : Value) (w : World) (he : EntRow w v n.entries) (hg : NoneAt w) (h : ¬ (n.level < 0 ∨ 8 < n.level ∨ 5 < n.entries.length ∨ Bt.rising n.entries = false ∨ n.high = 0))
 (h1 : n.right = Bt.nilP) (h2 : n.high = 4294967295) (hL : 0 < n.level) (hD : n.dead = false) (b off cap : Nat) (hv : v = .slice (some ⟨b, off, none⟩) n.entries.length cap) (hes : n.entries = []) :
 Calls Tryz.prog 63 #[.agg (nodeCells n v)] w fun e w' => e = .returned (.bool n.valid) ∧ Below w.heap.size w w' := by
 exact sG17
theorem sG16 {P : Prop} (h : P := by
 have tg41 := trivial
 have tg42 := trivial
 have tg43 := trivial
 exact wG5) : P := h
set_option maxRecDepth 100000 in
theorem valid_d2r (n : Bt.Node) (v : Value) (w : World) (he : EntRow w v n.entries) (hg : NoneAt w) (h : ¬ (n.level < 0 ∨ 8 < n.level ∨ 5 < n.entries.length ∨ Bt.rising n.entries = false ∨ n.high = 0))
 (h1 : n.right = Bt.nilP) (h2 : n.high = 4294967295) (hL : n.level ≤ 0) (hD : n.dead = true) (b off cap : Nat) (hv : v = .slice (some ⟨b, off, none⟩) n.entries.length cap) (hes : n.entries = []) :
 Calls Tryz.prog 63 #[.agg (nodeCells n v)] w fun e w' => e = .returned (.bool n.valid) ∧ Below w.heap.size w w' := by
 exact sG16
set_option maxRecDepth 100000 in
theorem valid_d2s (n : Bt.Node) (v : Value) (w : World) (he : EntRow w v n.entries) (hg : NoneAt w) (h : ¬ (n.level < 0 ∨ 8 < n.level ∨ 5 < n.entries.length ∨ Bt.rising n.entries = false ∨ n.high = 0))
 (h1 : n.right = Bt.nilP) (h2 : n.high = 4294967295) (hL : n.level ≤ 0) (hD : n.dead = false) (b off cap : Nat) (hv : v = .slice (some ⟨b, off, none⟩) n.entries.length cap) (hes : n.entries = []) :
 Calls Tryz.prog 63 #[.agg (nodeCells n v)] w fun e w' => e = .returned (.bool n.valid) ∧ Below w.heap.size w w' := by
 exact sG16
theorem sG6 {P : Prop} (h : P := by
 have HD := hid hD
 subst hv
 obtain ⟨k, hk⟩ : ∃ k, k + 1 = n.entries.length := ⟨n.entries.length - 1, by omega⟩
 have hk2 : k < n.entries.length := by omega
 obtain ⟨c0, c1, c2⟩ := three hcells hk2
 have hix : (n.entries.length : Int) - 1 = (k : Int) := by omega
 have HL : Hid (Bt.lastKey n.entries = n.entries[k].key) := hid (lastKey_get n.entries k hk)
 have hpos : decide (0 < (n.entries.length : Int)) = true := by simp; omega
 have hk3 : (k : Int) < (n.entries.length : Int) := by omega
 clear hcells c1 c2
 generalize hpk : n.entries[k].key = pk at c0 HL
 clear hpk hk
 clear h h1 h2 he hL
 have ne := neq_ptr
 have eq := eql_ptr
 have tg68 := trivial
 have tg70 := trivial
 exact wG8) : P := h
theorem sG23 {P : Prop} (h : P := by
 have tg46 := trivial
 have tg50 := trivial
 exact wG5) : P := h
set_option maxRecDepth 100000 in
theorem valid_d3p (n : Bt.Node) (v : Value) (w : World) (he : EntRow w v n.entries) (hg : NoneAt w) (h : ¬ (n.level < 0 ∨ 8 < n.level ∨ 5 < n.entries.length ∨ Bt.rising n.entries = false ∨ n.high = 0))
 (h1 : n.right = Bt.nilP) (h2 : n.high = 4294967295) (hL : 0 < n.level) (hD : n.dead = true) (b off cap : Nat) (hv : v = .slice (some ⟨b, off, none⟩) n.entries.length cap) (hlt : b < w.heap.size) (hes : 0 < n.entries.length) (hcells : ∀ (i : Nat) (p : Bt.Entry), n.entries[i]? = some p → ∀ (j : Nat) (u : Value), p.cells[j]? = some u → w.cell? ⟨b, off + i * 3 + j, none⟩ = some u) :
 Calls Tryz.prog 63 #[.agg (nodeCells n v)] w fun e w' => e = .returned (.bool n.valid) ∧ Below w.heap.size w w' := by
 exact sG23
set_option maxRecDepth 100000 in
theorem valid_d3q (n : Bt.Node) (v : Value) (w : World) (he : EntRow w v n.entries) (hg : NoneAt w) (h : ¬ (n.level < 0 ∨ 8 < n.level ∨ 5 < n.entries.length ∨ Bt.rising n.entries = false ∨ n.high = 0))
 (h1 : n.right = Bt.nilP) (h2 : n.high = 4294967295) (hL : 0 < n.level) (hD : n.dead = false) (b off cap : Nat) (hv : v = .slice (some ⟨b, off, none⟩) n.entries.length cap) (hlt : b < w.heap.size) (hes : 0 < n.entries.length) (hcells : ∀ (i : Nat) (p : Bt.Entry), n.entries[i]? = some p → ∀ (j : Nat) (u : Value), p.cells[j]? = some u → w.cell? ⟨b, off + i * 3 + j, none⟩ = some u) :
 Calls Tryz.prog 63 #[.agg (nodeCells n v)] w fun e w' => e = .returned (.bool n.valid) ∧ Below w.heap.size w w' := by
 exact sG23
theorem sG22 {P : Prop} (h : P := by
 have tg41 := trivial
 have tg45 := trivial
 exact wG5) : P := h
set_option maxRecDepth 100000 in
theorem valid_d3r (n : Bt.Node) (v : Value) (w : World) (he : EntRow w v n.entries) (hg : NoneAt w) (h : ¬ (n.level < 0 ∨ 8 < n.level ∨ 5 < n.entries.length ∨ Bt.rising n.entries = false ∨ n.high = 0))
 (h1 : n.right = Bt.nilP) (h2 : n.high = 4294967295) (hL : n.level ≤ 0) (hD : n.dead = true) (b off cap : Nat) (hv : v = .slice (some ⟨b, off, none⟩) n.entries.length cap) (hlt : b < w.heap.size) (hes : 0 < n.entries.length) (hcells : ∀ (i : Nat) (p : Bt.Entry), n.entries[i]? = some p → ∀ (j : Nat) (u : Value), p.cells[j]? = some u → w.cell? ⟨b, off + i * 3 + j, none⟩ = some u) :
 Calls Tryz.prog 63 #[.agg (nodeCells n v)] w fun e w' => e = .returned (.bool n.valid) ∧ Below w.heap.size w w' := by
 exact sG22
set_option maxRecDepth 100000 in
theorem valid_d3s (n : Bt.Node) (v : Value) (w : World) (he : EntRow w v n.entries) (hg : NoneAt w) (h : ¬ (n.level < 0 ∨ 8 < n.level ∨ 5 < n.entries.length ∨ Bt.rising n.entries = false ∨ n.high = 0))
 (h1 : n.right = Bt.nilP) (h2 : n.high = 4294967295) (hL : n.level ≤ 0) (hD : n.dead = false) (b off cap : Nat) (hv : v = .slice (some ⟨b, off, none⟩) n.entries.length cap) (hlt : b < w.heap.size) (hes : 0 < n.entries.length) (hcells : ∀ (i : Nat) (p : Bt.Entry), n.entries[i]? = some p → ∀ (j : Nat) (u : Value), p.cells[j]? = some u → w.cell? ⟨b, off + i * 3 + j, none⟩ = some u) :
 Calls Tryz.prog 63 #[.agg (nodeCells n v)] w fun e w' => e = .returned (.bool n.valid) ∧ Below w.heap.size w w' := by
 exact sG22
end Go.Proofs.YtjmpekanlmepmaaGreatDoor
