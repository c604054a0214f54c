/- Package btree: nodes: what can be stored: the walks behind the first tests (printed by valid_gen.py). -/
import Derived.Test.YtjmpekanlmepmaaGreatDoorNN05
import Derived.Deep.Light
set_option linter.all false
set_option maxRecDepth 20000
set_option maxHeartbeats 8000000
open Go.Lib (hid)
namespace Go.Proofs.YtjmpekanlmepmaaGreatDoor
open Go.RowKit
theorem sG7 {P : Prop} (h : P := by
 have ne := neq_ptr
 have eq := eql_ptr
 have tg61 := trivial
 have tg62 := trivial
 have tg64 := trivial
 exact wG8) : P := h
theorem wG2 {P : Prop} (h : P := by
 have HX : Hid (n.valid = false) := hid (by simp only [Bt.Node.valid]; rw [if_neg h, if_pos (by simp [Bt.maxHigh, h1, h2])])
 have He := hid he
 obtain ⟨g0, g1, gl⟩ := hg
 have hlen := he.len
 unfold maxLen at hlen
 unfold nodeCells
 have a1 : decide (n.level < 0) = false := by simp; omega
 have a2 : decide (8 < n.level) = false := by simp; omega
 have a3 : decide (5 < (n.entries.length : Int)) = false := by simp; omega
 have a4 : (n.high == 0) = false := by simp; omega
 have HR : Hid (Bt.rising n.entries = true) := hid (by cases hr : Bt.rising n.entries <;> simp_all)
 first
  | clear tg5
    have hp : peq n.right.line n.right.gen 0 0 = false := by rw [peq_nil]; simp [h1]
    have HV := hid h2
    first
     | clear tg6
       subst hv
       first
        | clear tg7
          have H0 := hid hes
          have l0 : n.entries.length = 0 := by rw [hes]; rfl
          have L0 := hid l0
          clear hes l0
          clear h h1 h2 he
          exact sG7
        | clear tg8
          clear h h1 h2 he
          exact sG7
     | clear tg9
       rw [hes] at hv
       subst hv
       have H0 := hid hes
       have l0 : n.entries.length = 0 := by rw [hes]; rfl
       have L0 := hid l0
       clear hes l0
       clear h h1 h2 he
       exact sG7
  | clear tg10
    have hp : peq n.right.line n.right.gen 0 0 = true := by rw [peq_nil]; simp [h1]
    have hm : (n.high == 4294967295) = false := by simp [h2]
    first
     | clear tg11
       subst hv
       first
        | clear tg12
          have H0 := hid hes
          have l0 : n.entries.length = 0 := by rw [hes]; rfl
          have L0 := hid l0
          clear hes l0
          exact sG11
        | clear tg13
          exact sG11
     | clear tg14
       rw [hes] at hv
       subst hv
       have H0 := hid hes
       have l0 : n.entries.length = 0 := by rw [hes]; rfl
       have L0 := hid l0
       clear hes l0
       exact sG11) : P := h
set_option maxRecDepth 100000 in
theorem valid_a1 (n : Bt.Node) (v : Value) (w : World) (he : EntRow w v n.entries) (hg : NoneAt w) (h : ¬ (n.level < 0 ∨ 8 < n.level ∨ 5 < n.entries.length ∨ Bt.rising n.entries = false ∨ n.high = 0))
 (h1 : n.right ≠ Bt.nilP) (h2 : Bt.validP n.right = false)  (hv : v = .slice none 0 0) (hes : n.entries = []) :
 Calls Tryz.prog 63 #[.agg (nodeCells n v)] w fun e w' => e = .returned (.bool n.valid) ∧ Below w.heap.size w w' := by
 have tg5 := trivial
 have tg6 := trivial
 have tg7 := trivial
 exact wG2
set_option maxRecDepth 100000 in
theorem valid_a2 (n : Bt.Node) (v : Value) (w : World) (he : EntRow w v n.entries) (hg : NoneAt w) (h : ¬ (n.level < 0 ∨ 8 < n.level ∨ 5 < n.entries.length ∨ Bt.rising n.entries = false ∨ n.high = 0))
 (h1 : n.right ≠ Bt.nilP) (h2 : Bt.validP n.right = false)  (b off cap : Nat) (hv : v = .slice (some ⟨b, off, none⟩) n.entries.length cap) (hes : n.entries = []) :
 Calls Tryz.prog 63 #[.agg (nodeCells n v)] w fun e w' => e = .returned (.bool n.valid) ∧ Below w.heap.size w w' := by
 have tg5 := trivial
 have tg9 := trivial
 exact wG2
set_option maxRecDepth 100000 in
theorem valid_a3 (n : Bt.Node) (v : Value) (w : World) (he : EntRow w v n.entries) (hg : NoneAt w) (h : ¬ (n.level < 0 ∨ 8 < n.level ∨ 5 < n.entries.length ∨ Bt.rising n.entries = false ∨ n.high = 0))
 (h1 : n.right ≠ Bt.nilP) (h2 : Bt.validP n.right = false)  (b off cap : Nat) (hv : v = .slice (some ⟨b, off, none⟩) n.entries.length cap) (hes : 0 < n.entries.length) :
 Calls Tryz.prog 63 #[.agg (nodeCells n v)] w fun e w' => e = .returned (.bool n.valid) ∧ Below w.heap.size w w' := by
 have tg5 := trivial
 have tg6 := trivial
 have tg8 := trivial
 exact wG2
theorem sG11 {P : Prop} (h : P := by
 clear h h1 h2 he
 have ne := neq_ptr
 have eq := eql_ptr
 have tg61 := trivial
 have tg65 := trivial
 have tg67 := trivial
 exact wG8) : P := h
set_option maxRecDepth 100000 in
theorem valid_b1 (n : Bt.Node) (v : Value) (w : World) (he : EntRow w v n.entries) (hg : NoneAt w) (h : ¬ (n.level < 0 ∨ 8 < n.level ∨ 5 < n.entries.length ∨ Bt.rising n.entries = false ∨ n.high = 0))
 (h1 : n.right = Bt.nilP) (h2 : n.high ≠ 4294967295)  (hv : v = .slice none 0 0) (hes : n.entries = []) :
 Calls Tryz.prog 63 #[.agg (nodeCells n v)] w fun e w' => e = .returned (.bool n.valid) ∧ Below w.heap.size w w' := by
 have tg10 := trivial
 have tg11 := trivial
 have tg12 := trivial
 exact wG2
set_option maxRecDepth 100000 in
theorem valid_b2 (n : Bt.Node) (v : Value) (w : World) (he : EntRow w v n.entries) (hg : NoneAt w) (h : ¬ (n.level < 0 ∨ 8 < n.level ∨ 5 < n.entries.length ∨ Bt.rising n.entries = false ∨ n.high = 0))
 (h1 : n.right = Bt.nilP) (h2 : n.high ≠ 4294967295)  (b off cap : Nat) (hv : v = .slice (some ⟨b, off, none⟩) n.entries.length cap) (hes : n.entries = []) :
 Calls Tryz.prog 63 #[.agg (nodeCells n v)] w fun e w' => e = .returned (.bool n.valid) ∧ Below w.heap.size w w' := by
 have tg10 := trivial
 have tg14 := trivial
 exact wG2
set_option maxRecDepth 100000 in
theorem valid_b3 (n : Bt.Node) (v : Value) (w : World) (he : EntRow w v n.entries) (hg : NoneAt w) (h : ¬ (n.level < 0 ∨ 8 < n.level ∨ 5 < n.entries.length ∨ Bt.rising n.entries = false ∨ n.high = 0))
 (h1 : n.right = Bt.nilP) (h2 : n.high ≠ 4294967295)  (b off cap : Nat) (hv : v = .slice (some ⟨b, off, none⟩) n.entries.length cap) (hes : 0 < n.entries.length) :
 Calls Tryz.prog 63 #[.agg (nodeCells n v)] w fun e w' => e = .returned (.bool n.valid) ∧ Below w.heap.size w w' := by
 have tg10 := trivial
 have tg11 := trivial
 have tg13 := trivial
 exact wG2
theorem wG1 {P : Prop} (h : P := by
 have HX : Hid (n.valid = false) := hid (by simp only [Bt.Node.valid]; rw [if_neg h, if_pos (by simp [Bt.maxHigh, h1, h2, h3])])
 have He := hid he
 obtain ⟨g0, g1, gl⟩ := hg
 have hlen := he.len
 unfold maxLen at hlen
 unfold nodeCells
 have a1 : decide (n.level < 0) = false := by simp; omega
 have a2 : decide (8 < n.level) = false := by simp; omega
 have a3 : decide (5 < (n.entries.length : Int)) = false := by simp; omega
 have a4 : (n.high == 0) = false := by simp; omega
 have HR : Hid (Bt.rising n.entries = true) := hid (by cases hr : Bt.rising n.entries <;> simp_all)
 have hp : peq n.right.line n.right.gen 0 0 = false := by rw [peq_nil]; simp [h1]
 have HV := hid h2
 have hm : (n.high == 4294967295) = true := by simp [h3]
 first
  | clear tg1
    subst hv
    first
     | clear tg2
       have H0 := hid hes
       have l0 : n.entries.length = 0 := by rw [hes]; rfl
       have L0 := hid l0
       clear hes l0
       clear h h1 h2 he h3
       exact sG7
     | clear tg3
       clear h h1 h2 he h3
       exact sG7
  | clear tg4
    rw [hes] at hv
    subst hv
    have H0 := hid hes
    have l0 : n.entries.length = 0 := by rw [hes]; rfl
    have L0 := hid l0
    clear hes l0
    clear h h1 h2 he h3
    exact sG7) : P := h
set_option maxRecDepth 100000 in
theorem valid_c1 (n : Bt.Node) (v : Value) (w : World) (he : EntRow w v n.entries) (hg : NoneAt w) (h : ¬ (n.level < 0 ∨ 8 < n.level ∨ 5 < n.entries.length ∨ Bt.rising n.entries = false ∨ n.high = 0))
 (h1 : n.right ≠ Bt.nilP) (h2 : Bt.validP n.right = true) (h3 : n.high = 4294967295)  (hv : v = .slice none 0 0) (hes : n.entries = []) :
 Calls Tryz.prog 63 #[.agg (nodeCells n v)] w fun e w' => e = .returned (.bool n.valid) ∧ Below w.heap.size w w' := by
 have tg1 := trivial
 have tg2 := trivial
 exact wG1
set_option maxRecDepth 100000 in
theorem valid_c2 (n : Bt.Node) (v : Value) (w : World) (he : EntRow w v n.entries) (hg : NoneAt w) (h : ¬ (n.level < 0 ∨ 8 < n.level ∨ 5 < n.entries.length ∨ Bt.rising n.entries = false ∨ n.high = 0))
 (h1 : n.right ≠ Bt.nilP) (h2 : Bt.validP n.right = true) (h3 : n.high = 4294967295)  (b off cap : Nat) (hv : v = .slice (some ⟨b, off, none⟩) n.entries.length cap) (hes : n.entries = []) :
 Calls Tryz.prog 63 #[.agg (nodeCells n v)] w fun e w' => e = .returned (.bool n.valid) ∧ Below w.heap.size w w' := by
 have tg4 := trivial
 exact wG1
set_option maxRecDepth 100000 in
theorem valid_c3 (n : Bt.Node) (v : Value) (w : World) (he : EntRow w v n.entries) (hg : NoneAt w) (h : ¬ (n.level < 0 ∨ 8 < n.level ∨ 5 < n.entries.length ∨ Bt.rising n.entries = false ∨ n.high = 0))
 (h1 : n.right ≠ Bt.nilP) (h2 : Bt.validP n.right = true) (h3 : n.high = 4294967295)  (b off cap : Nat) (hv : v = .slice (some ⟨b, off, none⟩) n.entries.length cap) (hes : 0 < n.entries.length) :
 Calls Tryz.prog 63 #[.agg (nodeCells n v)] w fun e w' => e = .returned (.bool n.valid) ∧ Below w.heap.size w w' := by
 have tg1 := trivial
 have tg3 := trivial
 exact wG1
end Go.Proofs.YtjmpekanlmepmaaGreatDoor
