/- Package btree: nodes: what can be stored: the walks behind the first tests (printed by valid_gen.py). -/
import Derived.Test.YtjmpekanlmepmaaGreatDoorBB08
import Derived.Deep.Light
set_option linter.all false
set_option maxRecDepth 20000
set_option maxHeartbeats 8000000
open Go.Lib (hid)
namespace Go.Proofs.YtjmpekanlmepmaaGreatDoor
open Go.RowKit
theorem Z44 (es : List Bt.Entry) (k : Nat) (hk : k + 1 = es.length) : Bt.Z03 es = es[k].key := by
 induction es generalizing k with
 | nil => simp at hk
 | cons e es ih =>
   cases es with
   | nil => simp at hk; subst hk; rfl
   | cons e2 es =>
     cases k with
     | zero => simp at hk
     | succ k => simp only [Bt.Z03, List.getElem_cons_succ]; exact ih k (by simpa using hk)
theorem sG4 {P : Prop} (h : P := by
 subst hv
 have H0 := hid hes
 have l0 : n.entries.length = 0 := by rw [hes]; rfl
 have L0 := hid l0
 clear hes l0
 clear h h1 h2 he hL
 have ne := Z0U
 have eq := eql_ptr
 have tg108 := trivial
 have tg112 := trivial
 have tg113 := trivial
 exact wG17) : P := h
theorem wG7 {P : Prop} (h : P := by
 have HX : Hid (n.valid = if 0 < n.level then !n.dead && decide (Bt.Z03 n.entries = n.high) else if n.dead = true ∧ (0 < n.entries.length ∨ n.leftmost = true ∨ n.right = Bt.nilP) then false else decide (Bt.Z03 n.entries ≤ n.high) && decide (Bt.Z03 n.entries ≤ Bt.Z0e)) :=
  hid (by simp only [Bt.Node.valid]; rw [if_neg h, if_neg (by simp [Bt.Z08, h1, h2])])
 have He := hid he
 obtain ⟨g0, g1, gl⟩ := hg
 have hlen := he.len
 unfold maxLen at hlen
 unfold Z02
 have a1 : decide (n.level < 0) = false := by simp; omega
 have a2 : decide (8 < n.level) = false := by simp; omega
 have a3 : decide (5 < (n.entries.length : Int)) = false := by simp; omega
 have a4 : (n.high == 0) = false := by simp; omega
 have HR : Hid (Bt.rising n.entries = true) := hid (by cases hr : Bt.rising n.entries <;> simp_all)
 have hp : peq n.right.line n.right.gen 0 0 = true := by rw [Z0j]; simp [h1]
 have hm : (n.high == 4294967295) = true := by simp [h2]
 have HN : Hid (n.right = Bt.nilP) := hid h1
 first
  | clear tg49
    have aL : decide (0 < n.level) = false := by simp; omega
    have HL0 : Hid (n.level ≤ 0) := hid hL
    first
     | clear tg50
       have HD := hid hD
       first
        | clear tg51
          rw [hes] at hv
          exact sG4
        | clear tg52
          exact sG4
     | clear tg53
       exact sG9
  | clear tg54
    have aL : decide (0 < n.level) = true := by simp; omega
    have HL0 : Hid (0 < n.level) := hid hL
    first
     | clear tg55
       have HD := hid hD
       first
        | clear tg56
          rw [hes] at hv
          exact sG4
        | clear tg57
          exact sG4
     | clear tg58
       exact sG9) : P := h
theorem sG28 {P : Prop} (h : P := by
 have tg54 := trivial
 have tg55 := trivial
 have tg57 := trivial
 exact wG7) : P := h
set_option maxRecDepth 100000 in
theorem Za1 (n : Bt.Node) (v : Value) (w : World) (he : EntRow w v n.entries) (hg : NoneAt w) (h : ¬ (n.level < 0 ∨ 8 < n.level ∨ 5 < n.entries.length ∨ Bt.rising n.entries = false ∨ n.high = 0))
 (h1 : n.right = Bt.nilP) (h2 : n.high = 4294967295) (hL : 0 < n.level) (hD : n.dead = true) (hv : v = .slice none 0 0) (hes : n.entries = []) :
 Calls Tryz.prog 63 #[.agg (Z02 n v)] w fun e w' => e = .returned (.bool n.valid) ∧ Below w.heap.size w w' := by
 exact sG28
set_option maxRecDepth 100000 in
theorem Za0 (n : Bt.Node) (v : Value) (w : World) (he : EntRow w v n.entries) (hg : NoneAt w) (h : ¬ (n.level < 0 ∨ 8 < n.level ∨ 5 < n.entries.length ∨ Bt.rising n.entries = false ∨ n.high = 0))
 (h1 : n.right = Bt.nilP) (h2 : n.high = 4294967295) (hL : 0 < n.level) (hD : n.dead = false) (hv : v = .slice none 0 0) (hes : n.entries = []) :
 Calls Tryz.prog 63 #[.agg (Z02 n v)] w fun e w' => e = .returned (.bool n.valid) ∧ Below w.heap.size w w' := by
 exact sG28
theorem sG27 {P : Prop} (h : P := by
 have tg49 := trivial
 have tg50 := trivial
 have tg52 := trivial
 exact wG7) : P := h
set_option maxRecDepth 100000 in
theorem Z9Z (n : Bt.Node) (v : Value) (w : World) (he : EntRow w v n.entries) (hg : NoneAt w) (h : ¬ (n.level < 0 ∨ 8 < n.level ∨ 5 < n.entries.length ∨ Bt.rising n.entries = false ∨ n.high = 0))
 (h1 : n.right = Bt.nilP) (h2 : n.high = 4294967295) (hL : n.level ≤ 0) (hD : n.dead = true) (hv : v = .slice none 0 0) (hes : n.entries = []) :
 Calls Tryz.prog 63 #[.agg (Z02 n v)] w fun e w' => e = .returned (.bool n.valid) ∧ Below w.heap.size w w' := by
 exact sG27
set_option maxRecDepth 100000 in
theorem Z9Y (n : Bt.Node) (v : Value) (w : World) (he : EntRow w v n.entries) (hg : NoneAt w) (h : ¬ (n.level < 0 ∨ 8 < n.level ∨ 5 < n.entries.length ∨ Bt.rising n.entries = false ∨ n.high = 0))
 (h1 : n.right = Bt.nilP) (h2 : n.high = 4294967295) (hL : n.level ≤ 0) (hD : n.dead = false) (hv : v = .slice none 0 0) (hes : n.entries = []) :
 Calls Tryz.prog 63 #[.agg (Z02 n v)] w fun e w' => e = .returned (.bool n.valid) ∧ Below w.heap.size w w' := by
 exact sG27
theorem sG24 {P : Prop} (h : P := by
 have tg54 := trivial
 have tg55 := trivial
 have tg56 := trivial
 exact wG7) : P := h
set_option maxRecDepth 100000 in
theorem Z9X (n : Bt.Node) (v : Value) (w : World) (he : EntRow w v n.entries) (hg : NoneAt w) (h : ¬ (n.level < 0 ∨ 8 < n.level ∨ 5 < n.entries.length ∨ Bt.rising n.entries = false ∨ n.high = 0))
 (h1 : n.right = Bt.nilP) (h2 : n.high = 4294967295) (hL : 0 < n.level) (hD : n.dead = true) (b off cap : Nat) (hv : v = .slice (some ⟨b, off, none⟩) n.entries.length cap) (hes : n.entries = []) :
 Calls Tryz.prog 63 #[.agg (Z02 n v)] w fun e w' => e = .returned (.bool n.valid) ∧ Below w.heap.size w w' := by
 exact sG24
set_option maxRecDepth 100000 in
theorem Z9W (n : Bt.Node) (v : Value) (w : World) (he : EntRow w v n.entries) (hg : NoneAt w) (h : ¬ (n.level < 0 ∨ 8 < n.level ∨ 5 < n.entries.length ∨ Bt.rising n.entries = false ∨ n.high = 0))
 (h1 : n.right = Bt.nilP) (h2 : n.high = 4294967295) (hL : 0 < n.level) (hD : n.dead = false) (b off cap : Nat) (hv : v = .slice (some ⟨b, off, none⟩) n.entries.length cap) (hes : n.entries = []) :
 Calls Tryz.prog 63 #[.agg (Z02 n v)] w fun e w' => e = .returned (.bool n.valid) ∧ Below w.heap.size w w' := by
 exact sG24
theorem sG23 {P : Prop} (h : P := by
 have tg49 := trivial
 have tg50 := trivial
 have tg51 := trivial
 exact wG7) : P := h
set_option maxRecDepth 100000 in
theorem Z9V (n : Bt.Node) (v : Value) (w : World) (he : EntRow w v n.entries) (hg : NoneAt w) (h : ¬ (n.level < 0 ∨ 8 < n.level ∨ 5 < n.entries.length ∨ Bt.rising n.entries = false ∨ n.high = 0))
 (h1 : n.right = Bt.nilP) (h2 : n.high = 4294967295) (hL : n.level ≤ 0) (hD : n.dead = true) (b off cap : Nat) (hv : v = .slice (some ⟨b, off, none⟩) n.entries.length cap) (hes : n.entries = []) :
 Calls Tryz.prog 63 #[.agg (Z02 n v)] w fun e w' => e = .returned (.bool n.valid) ∧ Below w.heap.size w w' := by
 exact sG23
set_option maxRecDepth 100000 in
theorem Z9U (n : Bt.Node) (v : Value) (w : World) (he : EntRow w v n.entries) (hg : NoneAt w) (h : ¬ (n.level < 0 ∨ 8 < n.level ∨ 5 < n.entries.length ∨ Bt.rising n.entries = false ∨ n.high = 0))
 (h1 : n.right = Bt.nilP) (h2 : n.high = 4294967295) (hL : n.level ≤ 0) (hD : n.dead = false) (b off cap : Nat) (hv : v = .slice (some ⟨b, off, none⟩) n.entries.length cap) (hes : n.entries = []) :
 Calls Tryz.prog 63 #[.agg (Z02 n v)] w fun e w' => e = .returned (.bool n.valid) ∧ Below w.heap.size w w' := by
 exact sG23
theorem sG9 {P : Prop} (h : P := by
 have HD := hid hD
 subst hv
 obtain ⟨k, hk⟩ : ∃ k, k + 1 = n.entries.length := ⟨n.entries.length - 1, by omega⟩
 have hk2 : k < n.entries.length := by omega
 obtain ⟨c0, c1, c2⟩ := three hcells hk2
 have hix : (n.entries.length : Int) - 1 = (k : Int) := by omega
 have HL : Hid (Bt.Z03 n.entries = n.entries[k].key) := hid (Z44 n.entries k hk)
 have hpos : decide (0 < (n.entries.length : Int)) = true := by simp; omega
 have hk3 : (k : Int) < (n.entries.length : Int) := by omega
 clear hcells c1 c2
 generalize hpk : n.entries[k].key = pk at c0 HL
 clear hpk hk
 clear h h1 h2 he hL
 have ne := Z0U
 have eq := eql_ptr
 have tg115 := trivial
 have tg117 := trivial
 exact wG17) : P := h
theorem sG30 {P : Prop} (h : P := by
 have tg54 := trivial
 have tg58 := trivial
 exact wG7) : P := h
set_option maxRecDepth 100000 in
theorem Z9T (n : Bt.Node) (v : Value) (w : World) (he : EntRow w v n.entries) (hg : NoneAt w) (h : ¬ (n.level < 0 ∨ 8 < n.level ∨ 5 < n.entries.length ∨ Bt.rising n.entries = false ∨ n.high = 0))
 (h1 : n.right = Bt.nilP) (h2 : n.high = 4294967295) (hL : 0 < n.level) (hD : n.dead = true) (b off cap : Nat) (hv : v = .slice (some ⟨b, off, none⟩) n.entries.length cap) (hlt : b < w.heap.size) (hes : 0 < n.entries.length) (hcells : ∀ (i : Nat) (p : Bt.Entry), n.entries[i]? = some p → ∀ (j : Nat) (u : Value), p.cells[j]? = some u → w.cell? ⟨b, off + i * 3 + j, none⟩ = some u) :
 Calls Tryz.prog 63 #[.agg (Z02 n v)] w fun e w' => e = .returned (.bool n.valid) ∧ Below w.heap.size w w' := by
 exact sG30
set_option maxRecDepth 100000 in
theorem Z9S (n : Bt.Node) (v : Value) (w : World) (he : EntRow w v n.entries) (hg : NoneAt w) (h : ¬ (n.level < 0 ∨ 8 < n.level ∨ 5 < n.entries.length ∨ Bt.rising n.entries = false ∨ n.high = 0))
 (h1 : n.right = Bt.nilP) (h2 : n.high = 4294967295) (hL : 0 < n.level) (hD : n.dead = false) (b off cap : Nat) (hv : v = .slice (some ⟨b, off, none⟩) n.entries.length cap) (hlt : b < w.heap.size) (hes : 0 < n.entries.length) (hcells : ∀ (i : Nat) (p : Bt.Entry), n.entries[i]? = some p → ∀ (j : Nat) (u : Value), p.cells[j]? = some u → w.cell? ⟨b, off + i * 3 + j, none⟩ = some u) :
 Calls Tryz.prog 63 #[.agg (Z02 n v)] w fun e w' => e = .returned (.bool n.valid) ∧ Below w.heap.size w w' := by
 exact sG30
theorem sG29 {P : Prop} (h : P := by
 have tg49 := trivial
 have tg53 := trivial
 exact wG7) : P := h
set_option maxRecDepth 100000 in
theorem Z9R (n : Bt.Node) (v : Value) (w : World) (he : EntRow w v n.entries) (hg : NoneAt w) (h : ¬ (n.level < 0 ∨ 8 < n.level ∨ 5 < n.entries.length ∨ Bt.rising n.entries = false ∨ n.high = 0))
 (h1 : n.right = Bt.nilP) (h2 : n.high = 4294967295) (hL : n.level ≤ 0) (hD : n.dead = true) (b off cap : Nat) (hv : v = .slice (some ⟨b, off, none⟩) n.entries.length cap) (hlt : b < w.heap.size) (hes : 0 < n.entries.length) (hcells : ∀ (i : Nat) (p : Bt.Entry), n.entries[i]? = some p → ∀ (j : Nat) (u : Value), p.cells[j]? = some u → w.cell? ⟨b, off + i * 3 + j, none⟩ = some u) :
 Calls Tryz.prog 63 #[.agg (Z02 n v)] w fun e w' => e = .returned (.bool n.valid) ∧ Below w.heap.size w w' := by
 exact sG29
set_option maxRecDepth 100000 in
theorem Z9Q (n : Bt.Node) (v : Value) (w : World) (he : EntRow w v n.entries) (hg : NoneAt w) (h : ¬ (n.level < 0 ∨ 8 < n.level ∨ 5 < n.entries.length ∨ Bt.rising n.entries = false ∨ n.high = 0))
 (h1 : n.right = Bt.nilP) (h2 : n.high = 4294967295) (hL : n.level ≤ 0) (hD : n.dead = false) (b off cap : Nat) (hv : v = .slice (some ⟨b, off, none⟩) n.entries.length cap) (hlt : b < w.heap.size) (hes : 0 < n.entries.length) (hcells : ∀ (i : Nat) (p : Bt.Entry), n.entries[i]? = some p → ∀ (j : Nat) (u : Value), p.cells[j]? = some u → w.cell? ⟨b, off + i * 3 + j, none⟩ = some u) :
 Calls Tryz.prog 63 #[.agg (Z02 n v)] w fun e w' => e = .returned (.bool n.valid) ∧ Below w.heap.size w w' := by
 exact sG29
end Go.Proofs.YtjmpekanlmepmaaGreatDoor
