/- Package btree: nodes: what can be stored: the walks behind the first tests (printed by valid_gen.py). -/
import Derived.Test.YtjmpekanlmepmaaGreatDoorB09
import Derived.Deep.Light
import Derived.Test.YtjmpekanlmepmaaGreatDoorB10
import Derived.IntWalk
set_option linter.all false
namespace Go.Proofs.YtjmpekanlmepmaaGreatDoor
open Go.RowKit
theorem lastKey_get2 (es : List Bt.Entry) (k : Nat) (hk : k + 1 = es.length) : Bt.lastKey es = es[k].key := by
 induction es generalizing k with
 | nil => simp at hk
 | cons e es ih =>
   cases es with
   | nil => simp at hk; subst hk; rfl
   | cons e2 es =>
     cases k with
     | zero => simp at hk
     | succ k => simp only [Bt.lastKey, List.getElem_cons_succ]; exact ih k (by simpa using hk)
set_option maxRecDepth 20000 in
theorem sG3 {P : Prop} (h : P := by
 subst hv
 have H0 := Lib.hid hes
 have l0 : n.entries.length = 0 := by rw [hes]; rfl
 have L0 := Lib.hid l0
 clear hes l0
 clear h h1 h2 he h3 hL
 have ne := neq_ptr
 have eq := eql_ptr
 have tg108 := trivial
 have tg109 := trivial
 have tg110 := trivial
 exact wG17) : P := h
set_option maxRecDepth 20000 in
theorem wG6 {P : Prop} (h : P := by
 have HX : Hid (n.valid = if 0 < n.level then !n.dead && decide (Bt.lastKey n.entries = n.high) else if n.dead = true ∧ (0 < n.entries.length ∨ n.leftmost = true ∨ n.right = Bt.nilP) then false else decide (Bt.lastKey n.entries ≤ n.high) && decide (Bt.lastKey n.entries ≤ Bt.maxKey)) :=
  Lib.hid (by simp only [Bt.Node.valid]; rw [if_neg h, if_neg (by simp [Bt.maxHigh, h1, h2, h3])])
 have He := Lib.hid he
 obtain ⟨g0, g1, gl⟩ := hg
 have hlen := he.len
 unfold maxLen at hlen
 unfold nodeCells
 have a1 : decide (n.level < 0) = false := by simp; omega
 have a2 : decide (8 < n.level) = false := by simp; omega
 have a3 : decide (5 < (n.entries.length : Int)) = false := by simp; omega
 have a4 : (n.high == 0) = false := by simp; omega
 have HR : Hid (Bt.rising n.entries = true) := Lib.hid (by cases hr : Bt.rising n.entries <;> simp_all)
 have hp : peq n.right.line n.right.gen 0 0 = false := by rw [peq_nil]; simp [h1]
 have HV := Lib.hid h2
 have hm : (n.high == 4294967295) = false := by simp [h3]
 have HN : Hid (n.right ≠ Bt.nilP) := Lib.hid h1
 first
  | clear tg39
    have aL : decide (0 < n.level) = false := by simp; omega
    have HL0 : Hid (n.level ≤ 0) := Lib.hid hL
    first
     | clear tg40
       have HD := Lib.hid hD
       first
        | clear tg41
          rw [hes] at hv
          exact sG3
        | clear tg42
          exact sG3
     | clear tg43
       exact sG6
  | clear tg44
    have aL : decide (0 < n.level) = true := by simp; omega
    have HL0 : Hid (0 < n.level) := Lib.hid hL
    first
     | clear tg45
       have HD := Lib.hid hD
       first
        | clear tg46
          rw [hes] at hv
          exact sG3
        | clear tg47
          exact sG3
     | clear tg48
       exact sG6) : P := h
set_option maxRecDepth 20000 in
theorem sG22 {P : Prop} (h : P := by
 have tg44 := trivial
 have tg45 := trivial
 have tg47 := trivial
 exact wG6) : P := h
set_option maxRecDepth 100000 in
set_option maxHeartbeats 1000000 in
theorem valid_e1p (n : Bt.Node) (v : Value) (w : World) (he : EntRow w v n.entries) (hg : NoneAt w) (h : ¬ (n.level < 0 ∨ 8 < n.level ∨ 5 < n.entries.length ∨ Bt.rising n.entries = false ∨ n.high = 0))
 (h1 : n.right ≠ Bt.nilP) (h2 : Bt.validP n.right = true) (h3 : n.high ≠ 4294967295) (hL : 0 < n.level) (hD : n.dead = true) (hv : v = .slice none 0 0) (hes : n.entries = []) :
 Calls Tryz.prog 63 #[.agg (nodeCells n v)] w fun e w' => e = .returned (.bool n.valid) ∧ Below w.heap.size w w' := by
 exact sG22
set_option maxRecDepth 100000 in
set_option maxHeartbeats 1000000 in
theorem valid_e1q (n : Bt.Node) (v : Value) (w : World) (he : EntRow w v n.entries) (hg : NoneAt w) (h : ¬ (n.level < 0 ∨ 8 < n.level ∨ 5 < n.entries.length ∨ Bt.rising n.entries = false ∨ n.high = 0))
 (h1 : n.right ≠ Bt.nilP) (h2 : Bt.validP n.right = true) (h3 : n.high ≠ 4294967295) (hL : 0 < n.level) (hD : n.dead = false) (hv : v = .slice none 0 0) (hes : n.entries = []) :
 Calls Tryz.prog 63 #[.agg (nodeCells n v)] w fun e w' => e = .returned (.bool n.valid) ∧ Below w.heap.size w w' := by
 exact sG22
set_option maxRecDepth 20000 in
theorem sG21 {P : Prop} (h : P := by
 have tg39 := trivial
 have tg40 := trivial
 have tg42 := trivial
 exact wG6) : P := h
set_option maxRecDepth 100000 in
set_option maxHeartbeats 1000000 in
theorem valid_e1r (n : Bt.Node) (v : Value) (w : World) (he : EntRow w v n.entries) (hg : NoneAt w) (h : ¬ (n.level < 0 ∨ 8 < n.level ∨ 5 < n.entries.length ∨ Bt.rising n.entries = false ∨ n.high = 0))
 (h1 : n.right ≠ Bt.nilP) (h2 : Bt.validP n.right = true) (h3 : n.high ≠ 4294967295) (hL : n.level ≤ 0) (hD : n.dead = true) (hv : v = .slice none 0 0) (hes : n.entries = []) :
 Calls Tryz.prog 63 #[.agg (nodeCells n v)] w fun e w' => e = .returned (.bool n.valid) ∧ Below w.heap.size w w' := by
 exact sG21
set_option maxRecDepth 100000 in
set_option maxHeartbeats 1000000 in
theorem valid_e1s (n : Bt.Node) (v : Value) (w : World) (he : EntRow w v n.entries) (hg : NoneAt w) (h : ¬ (n.level < 0 ∨ 8 < n.level ∨ 5 < n.entries.length ∨ Bt.rising n.entries = false ∨ n.high = 0))
 (h1 : n.right ≠ Bt.nilP) (h2 : Bt.validP n.right = true) (h3 : n.high ≠ 4294967295) (hL : n.level ≤ 0) (hD : n.dead = false) (hv : v = .slice none 0 0) (hes : n.entries = []) :
 Calls Tryz.prog 63 #[.agg (nodeCells n v)] w fun e w' => e = .returned (.bool n.valid) ∧ Below w.heap.size w w' := by
 exact sG21
set_option maxRecDepth 20000 in
theorem sG20 {P : Prop} (h : P := by
 have tg44 := trivial
 have tg45 := trivial
 have tg46 := trivial
 exact wG6) : P := h
set_option maxRecDepth 100000 in
set_option maxHeartbeats 1000000 in
theorem valid_e2p (n : Bt.Node) (v : Value) (w : World) (he : EntRow w v n.entries) (hg : NoneAt w) (h : ¬ (n.level < 0 ∨ 8 < n.level ∨ 5 < n.entries.length ∨ Bt.rising n.entries = false ∨ n.high = 0))
 (h1 : n.right ≠ Bt.nilP) (h2 : Bt.validP n.right = true) (h3 : n.high ≠ 4294967295) (hL : 0 < n.level) (hD : n.dead = true) (b off cap : Nat) (hv : v = .slice (some ⟨b, off, none⟩) n.entries.length cap) (hes : n.entries = []) :
 Calls Tryz.prog 63 #[.agg (nodeCells n v)] w fun e w' => e = .returned (.bool n.valid) ∧ Below w.heap.size w w' := by
 exact sG20
set_option maxRecDepth 100000 in
set_option maxHeartbeats 1000000 in
theorem valid_e2q (n : Bt.Node) (v : Value) (w : World) (he : EntRow w v n.entries) (hg : NoneAt w) (h : ¬ (n.level < 0 ∨ 8 < n.level ∨ 5 < n.entries.length ∨ Bt.rising n.entries = false ∨ n.high = 0))
 (h1 : n.right ≠ Bt.nilP) (h2 : Bt.validP n.right = true) (h3 : n.high ≠ 4294967295) (hL : 0 < n.level) (hD : n.dead = false) (b off cap : Nat) (hv : v = .slice (some ⟨b, off, none⟩) n.entries.length cap) (hes : n.entries = []) :
 Calls Tryz.prog 63 #[.agg (nodeCells n v)] w fun e w' => e = .returned (.bool n.valid) ∧ Below w.heap.size w w' := by
 exact sG20
set_option maxRecDepth 20000 in
theorem sG19 {P : Prop} (h : P := by
 have tg39 := trivial
 have tg40 := trivial
 have tg41 := trivial
 exact wG6) : P := h
set_option maxRecDepth 100000 in
set_option maxHeartbeats 1000000 in
theorem valid_e2r (n : Bt.Node) (v : Value) (w : World) (he : EntRow w v n.entries) (hg : NoneAt w) (h : ¬ (n.level < 0 ∨ 8 < n.level ∨ 5 < n.entries.length ∨ Bt.rising n.entries = false ∨ n.high = 0))
 (h1 : n.right ≠ Bt.nilP) (h2 : Bt.validP n.right = true) (h3 : n.high ≠ 4294967295) (hL : n.level ≤ 0) (hD : n.dead = true) (b off cap : Nat) (hv : v = .slice (some ⟨b, off, none⟩) n.entries.length cap) (hes : n.entries = []) :
 Calls Tryz.prog 63 #[.agg (nodeCells n v)] w fun e w' => e = .returned (.bool n.valid) ∧ Below w.heap.size w w' := by
 exact sG19
set_option maxRecDepth 100000 in
set_option maxHeartbeats 1000000 in
theorem valid_e2s (n : Bt.Node) (v : Value) (w : World) (he : EntRow w v n.entries) (hg : NoneAt w) (h : ¬ (n.level < 0 ∨ 8 < n.level ∨ 5 < n.entries.length ∨ Bt.rising n.entries = false ∨ n.high = 0))
 (h1 : n.right ≠ Bt.nilP) (h2 : Bt.validP n.right = true) (h3 : n.high ≠ 4294967295) (hL : n.level ≤ 0) (hD : n.dead = false) (b off cap : Nat) (hv : v = .slice (some ⟨b, off, none⟩) n.entries.length cap) (hes : n.entries = []) :
 Calls Tryz.prog 63 #[.agg (nodeCells n v)] w fun e w' => e = .returned (.bool n.valid) ∧ Below w.heap.size w w' := by
 exact sG19
set_option maxRecDepth 20000 in
theorem sG6 {P : Prop} (h : P := by
 have HD := Lib.hid hD
 subst hv
 obtain ⟨k, hk⟩ : ∃ k, k + 1 = n.entries.length := ⟨n.entries.length - 1, by omega⟩
 have hk2 : k < n.entries.length := by omega
 obtain ⟨c0, c1, c2⟩ := three hcells hk2
 have hix : (n.entries.length : Int) - 1 = (k : Int) := by omega
 have HL : Hid (Bt.lastKey n.entries = n.entries[k].key) := Lib.hid (lastKey_get2 n.entries k hk)
 have hpos : decide (0 < (n.entries.length : Int)) = true := by simp; omega
 have hk3 : (k : Int) < (n.entries.length : Int) := by omega
 clear hcells c1 c2
 generalize hpk : n.entries[k].key = pk at c0 HL
 clear hpk hk
 clear h h1 h2 he h3 hL
 have ne := neq_ptr
 have eq := eql_ptr
 have tg115 := trivial
 have tg116 := trivial
 exact wG17) : P := h
set_option maxRecDepth 20000 in
theorem sG26 {P : Prop} (h : P := by
 have tg44 := trivial
 have tg48 := trivial
 exact wG6) : P := h
set_option maxRecDepth 100000 in
set_option maxHeartbeats 1000000 in
theorem valid_e3p (n : Bt.Node) (v : Value) (w : World) (he : EntRow w v n.entries) (hg : NoneAt w) (h : ¬ (n.level < 0 ∨ 8 < n.level ∨ 5 < n.entries.length ∨ Bt.rising n.entries = false ∨ n.high = 0))
 (h1 : n.right ≠ Bt.nilP) (h2 : Bt.validP n.right = true) (h3 : n.high ≠ 4294967295) (hL : 0 < n.level) (hD : n.dead = true) (b off cap : Nat) (hv : v = .slice (some ⟨b, off, none⟩) n.entries.length cap) (hlt : b < w.heap.size) (hes : 0 < n.entries.length) (hcells : ∀ (i : Nat) (p : Bt.Entry), n.entries[i]? = some p → ∀ (j : Nat) (u : Value), p.cells[j]? = some u → w.cell? ⟨b, off + i * 3 + j, none⟩ = some u) :
 Calls Tryz.prog 63 #[.agg (nodeCells n v)] w fun e w' => e = .returned (.bool n.valid) ∧ Below w.heap.size w w' := by
 exact sG26
set_option maxRecDepth 100000 in
set_option maxHeartbeats 1000000 in
theorem valid_e3q (n : Bt.Node) (v : Value) (w : World) (he : EntRow w v n.entries) (hg : NoneAt w) (h : ¬ (n.level < 0 ∨ 8 < n.level ∨ 5 < n.entries.length ∨ Bt.rising n.entries = false ∨ n.high = 0))
 (h1 : n.right ≠ Bt.nilP) (h2 : Bt.validP n.right = true) (h3 : n.high ≠ 4294967295) (hL : 0 < n.level) (hD : n.dead = false) (b off cap : Nat) (hv : v = .slice (some ⟨b, off, none⟩) n.entries.length cap) (hlt : b < w.heap.size) (hes : 0 < n.entries.length) (hcells : ∀ (i : Nat) (p : Bt.Entry), n.entries[i]? = some p → ∀ (j : Nat) (u : Value), p.cells[j]? = some u → w.cell? ⟨b, off + i * 3 + j, none⟩ = some u) :
 Calls Tryz.prog 63 #[.agg (nodeCells n v)] w fun e w' => e = .returned (.bool n.valid) ∧ Below w.heap.size w w' := by
 exact sG26
set_option maxRecDepth 20000 in
theorem sG25 {P : Prop} (h : P := by
 have tg39 := trivial
 have tg43 := trivial
 exact wG6) : P := h
set_option maxRecDepth 100000 in
set_option maxHeartbeats 1000000 in
theorem valid_e3r (n : Bt.Node) (v : Value) (w : World) (he : EntRow w v n.entries) (hg : NoneAt w) (h : ¬ (n.level < 0 ∨ 8 < n.level ∨ 5 < n.entries.length ∨ Bt.rising n.entries = false ∨ n.high = 0))
 (h1 : n.right ≠ Bt.nilP) (h2 : Bt.validP n.right = true) (h3 : n.high ≠ 4294967295) (hL : n.level ≤ 0) (hD : n.dead = true) (b off cap : Nat) (hv : v = .slice (some ⟨b, off, none⟩) n.entries.length cap) (hlt : b < w.heap.size) (hes : 0 < n.entries.length) (hcells : ∀ (i : Nat) (p : Bt.Entry), n.entries[i]? = some p → ∀ (j : Nat) (u : Value), p.cells[j]? = some u → w.cell? ⟨b, off + i * 3 + j, none⟩ = some u) :
 Calls Tryz.prog 63 #[.agg (nodeCells n v)] w fun e w' => e = .returned (.bool n.valid) ∧ Below w.heap.size w w' := by
 exact sG25
set_option maxRecDepth 100000 in
set_option maxHeartbeats 1000000 in
theorem valid_e3s (n : Bt.Node) (v : Value) (w : World) (he : EntRow w v n.entries) (hg : NoneAt w) (h : ¬ (n.level < 0 ∨ 8 < n.level ∨ 5 < n.entries.length ∨ Bt.rising n.entries = false ∨ n.high = 0))
 (h1 : n.right ≠ Bt.nilP) (h2 : Bt.validP n.right = true) (h3 : n.high ≠ 4294967295) (hL : n.level ≤ 0) (hD : n.dead = false) (b off cap : Nat) (hv : v = .slice (some ⟨b, off, none⟩) n.entries.length cap) (hlt : b < w.heap.size) (hes : 0 < n.entries.length) (hcells : ∀ (i : Nat) (p : Bt.Entry), n.entries[i]? = some p → ∀ (j : Nat) (u : Value), p.cells[j]? = some u → w.cell? ⟨b, off + i * 3 + j, none⟩ = some u) :
 Calls Tryz.prog 63 #[.agg (nodeCells n v)] w fun e w' => e = .returned (.bool n.valid) ∧ Below w.heap.size w w' := by
 exact sG25
theorem valid_any (n : Bt.Node) (v : Value) (w : World) (he : EntRow w v n.entries) (hg : NoneAt w) :
 Calls Tryz.prog 63 #[.agg (nodeCells n v)] w fun e w' => e = .returned (.bool n.valid) ∧ Below w.heap.size w w' := by
 by_cases h : n.level < 0 ∨ 8 < n.level ∨ 5 < n.entries.length ∨ Bt.rising n.entries = false ∨ n.high = 0
 · exact valid_1 n v w he h
 by_cases h1 : n.right = Bt.nilP
 · by_cases h2 : n.high = 4294967295
   · rcases he.form with ⟨hv, hes⟩ | ⟨b, off, cap, hv, hlt, hcells⟩
     · by_cases hL : 0 < n.level
       · rcases hD : n.dead with _ | _
         · exact valid_d1q n v w he hg h h1 h2 hL hD hv hes
         · exact valid_d1p n v w he hg h h1 h2 hL hD hv hes
       · rcases hD : n.dead with _ | _
         · exact valid_d1s n v w he hg h h1 h2 (by omega) hD hv hes
         · exact valid_d1r n v w he hg h h1 h2 (by omega) hD hv hes
     · by_cases hz : n.entries = []
       · by_cases hL : 0 < n.level
         · rcases hD : n.dead with _ | _
           · exact valid_d2q n v w he hg h h1 h2 hL hD b off cap hv hz
           · exact valid_d2p n v w he hg h h1 h2 hL hD b off cap hv hz
         · rcases hD : n.dead with _ | _
           · exact valid_d2s n v w he hg h h1 h2 (by omega) hD b off cap hv hz
           · exact valid_d2r n v w he hg h h1 h2 (by omega) hD b off cap hv hz
       · by_cases hL : 0 < n.level
         · rcases hD : n.dead with _ | _
           · exact valid_d3q n v w he hg h h1 h2 hL hD b off cap hv hlt (List.length_pos_iff.2 hz) hcells
           · exact valid_d3p n v w he hg h h1 h2 hL hD b off cap hv hlt (List.length_pos_iff.2 hz) hcells
         · rcases hD : n.dead with _ | _
           · exact valid_d3s n v w he hg h h1 h2 (by omega) hD b off cap hv hlt (List.length_pos_iff.2 hz) hcells
           · exact valid_d3r n v w he hg h h1 h2 (by omega) hD b off cap hv hlt (List.length_pos_iff.2 hz) hcells
   · rcases he.form with ⟨hv, hes⟩ | ⟨b, off, cap, hv, hlt, hcells⟩
     · exact valid_b1 n v w he hg h h1 h2 hv hes
     · by_cases hz : n.entries = []
       · exact valid_b2 n v w he hg h h1 h2 b off cap hv hz
       · exact valid_b3 n v w he hg h h1 h2 b off cap hv (List.length_pos_iff.2 hz)
 · rcases h2 : Bt.validP n.right with _ | _
   · rcases he.form with ⟨hv, hes⟩ | ⟨b, off, cap, hv, hlt, hcells⟩
     · exact valid_a1 n v w he hg h h1 h2 hv hes
     · by_cases hz : n.entries = []
       · exact valid_a2 n v w he hg h h1 h2 b off cap hv hz
       · exact valid_a3 n v w he hg h h1 h2 b off cap hv (List.length_pos_iff.2 hz)
   · by_cases h3 : n.high = 4294967295
     · rcases he.form with ⟨hv, hes⟩ | ⟨b, off, cap, hv, hlt, hcells⟩
       · exact valid_c1 n v w he hg h h1 h2 h3 hv hes
       · by_cases hz : n.entries = []
         · exact valid_c2 n v w he hg h h1 h2 h3 b off cap hv hz
         · exact valid_c3 n v w he hg h h1 h2 h3 b off cap hv (List.length_pos_iff.2 hz)
     · rcases he.form with ⟨hv, hes⟩ | ⟨b, off, cap, hv, hlt, hcells⟩
       · by_cases hL : 0 < n.level
         · rcases hD : n.dead with _ | _
           · exact valid_e1q n v w he hg h h1 h2 h3 hL hD hv hes
           · exact valid_e1p n v w he hg h h1 h2 h3 hL hD hv hes
         · rcases hD : n.dead with _ | _
           · exact valid_e1s n v w he hg h h1 h2 h3 (by omega) hD hv hes
           · exact valid_e1r n v w he hg h h1 h2 h3 (by omega) hD hv hes
       · by_cases hz : n.entries = []
         · by_cases hL : 0 < n.level
           · rcases hD : n.dead with _ | _
             · exact valid_e2q n v w he hg h h1 h2 h3 hL hD b off cap hv hz
             · exact valid_e2p n v w he hg h h1 h2 h3 hL hD b off cap hv hz
           · rcases hD : n.dead with _ | _
             · exact valid_e2s n v w he hg h h1 h2 h3 (by omega) hD b off cap hv hz
             · exact valid_e2r n v w he hg h h1 h2 h3 (by omega) hD b off cap hv hz
         · by_cases hL : 0 < n.level
           · rcases hD : n.dead with _ | _
             · exact valid_e3q n v w he hg h h1 h2 h3 hL hD b off cap hv hlt (List.length_pos_iff.2 hz) hcells
             · exact valid_e3p n v w he hg h h1 h2 h3 hL hD b off cap hv hlt (List.length_pos_iff.2 hz) hcells
           · rcases hD : n.dead with _ | _
             · exact valid_e3s n v w he hg h h1 h2 h3 (by omega) hD b off cap hv hlt (List.length_pos_iff.2 hz) hcells
             · exact valid_e3r n v w he hg h h1 h2 h3 (by omega) hD b off cap hv hlt (List.length_pos_iff.2 hz) hcells
theorem pack_bound (p : Bt.Ptr) : 0 ≤ Bt.pack p ∧ Bt.pack p < 4294967296 := by
 unfold Bt.pack Bt.validP Bt.inHeap
 split
 · rename_i h
   simp at h
   omega
 · omega
/-- What fill's loop has written. -/
def wordUpto (es : List Bt.Entry) (k j : Nat) : Int := if j < k then Bt.wordAt es j else 0
def fillUpto (n : Bt.Node) (p : Bt.Page) (k : Nat) : Bt.Page :=
 ⟨p.line, p.head, Bt.packTag (Bt.tagKind p.d0) (Bt.tagGen p.d0) n.aux, n.high + Bt.pack n.right * 4294967296,
  wordUpto n.entries k 0, wordUpto n.entries k 1, wordUpto n.entries k 2, wordUpto n.entries k 3, wordUpto n.entries k 4⟩
theorem wordUpto_all (es : List Bt.Entry) (h : es.length ≤ 5) (j : Nat) : wordUpto es es.length j = Bt.wordAt es j := by
 unfold wordUpto
 split
 · rfl
 · rename_i hj
   unfold Bt.wordAt
   rw [List.getElem?_eq_none (by omega)]
theorem fillUpto_all (n : Bt.Node) (p : Bt.Page) (h : n.entries.length ≤ 5) : fillUpto n p n.entries.length = n.fill p := by
 unfold fillUpto Bt.Node.fill
 simp only [wordUpto_all _ h]
structure NodeOk (n : Bt.Node) : Prop where
 level : 0 ≤ n.level ∧ n.level ≤ 255
 high : 0 ≤ n.high ∧ n.high < 4294967296
 len : n.entries.length ≤ 5
theorem aux_or (l c : Int) (h0 : 0 ≤ l ∧ l ≤ 255) (h1 : 0 ≤ c ∧ c ≤ 5) : bits .or .u32 l (c * 256) = l + c * 256 := or_u32_join' 8 l (c * 256) (by omega) (by omega) (by omega) (by omega) (by omega) (by omega)
theorem aux_or1 (x : Int) (h0 : 0 ≤ x ∧ x < 65536) : bits .or .u32 x 65536 = x + 65536 := or_u32_join' 16 x 65536 (by omega) (by omega) (by omega) (by omega) (by omega) (by omega)
theorem aux_or2 (x : Int) (h0 : 0 ≤ x ∧ x < 131072) : bits .or .u32 x 131072 = x + 131072 := or_u32_join' 17 x 131072 (by omega) (by omega) (by omega) (by omega) (by omega) (by omega)
theorem word_or (x y : Int) (h0 : 0 ≤ x ∧ x < 4294967296) (h1 : 0 ≤ y ∧ y < 4294967296) : bits .or .u64 x (y * 4294967296) = x + y * 4294967296 := or_u64_join' 32 x (y * 4294967296) (by omega) (by omega) (by omega) (by omega) (by omega) (by omega)
theorem word_or2 (x y : Int) (h0 : 0 ≤ x ∧ x < 4294967296) (h1 : 0 ≤ y ∧ y < 4294967296) : bits .or .u64 (y * 4294967296) x = y * 4294967296 + x := or_u64_join 32 (y * 4294967296) x (by omega) (by omega) (by omega) (by omega) (by omega) (by omega)
theorem word_raw (x : Int) (q : Bt.Ptr) (h0 : 0 ≤ x ∧ x < 4294967296) (h1 : 0 ≤ Bt.pack q ∧ Bt.pack q < 4294967296) :
 bits .or .u64 (IntKind.u64.wrap x) (IntKind.u64.wrap (IntKind.u64.wrap (Bt.pack ⟨q.line, q.gen⟩) * 4294967296)) = x + Bt.pack q * 4294967296 := by
 have a1 : IntKind.u64.wrap x = x := by rw [IntKind.wrap_u64]; omega
 have a2 : IntKind.u64.wrap (Bt.pack q) = Bt.pack q := by rw [IntKind.wrap_u64]; omega
 have a3 : IntKind.u64.wrap (Bt.pack q * 4294967296) = Bt.pack q * 4294967296 := by rw [IntKind.wrap_u64]; omega
 show bits .or .u64 (IntKind.u64.wrap x) (IntKind.u64.wrap (IntKind.u64.wrap (Bt.pack q) * 4294967296)) = _
 rw [a1, a2, a3, word_or x _ h0 h1]
theorem word_raw2 (x : Int) (q : Bt.Ptr) (h0 : 0 ≤ x ∧ x < 4294967296) (h1 : 0 ≤ Bt.pack q ∧ Bt.pack q < 4294967296) :
 bits .or .u64 (IntKind.u64.wrap (IntKind.u64.wrap x * 4294967296)) (IntKind.u64.wrap (Bt.pack ⟨q.line, q.gen⟩)) = x * 4294967296 + Bt.pack q := by
 have a1 : IntKind.u64.wrap x = x := by rw [IntKind.wrap_u64]; omega
 have a2 : IntKind.u64.wrap (Bt.pack q) = Bt.pack q := by rw [IntKind.wrap_u64]; omega
 have a3 : IntKind.u64.wrap (x * 4294967296) = x * 4294967296 := by rw [IntKind.wrap_u64]; omega
 show bits .or .u64 (IntKind.u64.wrap (IntKind.u64.wrap x * 4294967296)) (IntKind.u64.wrap (Bt.pack q)) = _
 rw [a1, a2, a3, word_or2 _ x h1 h0]
theorem word_raw' (x : Int) (q : Bt.Ptr) (h0 : 0 ≤ x ∧ x < 4294967296) (h1 : 0 ≤ Bt.pack q ∧ Bt.pack q < 4294967296) :
 bits .or .u64 x (IntKind.u64.wrap (IntKind.u64.wrap (Bt.pack ⟨q.line, q.gen⟩) * 4294967296)) = x + Bt.pack q * 4294967296 := by
 have a1 : IntKind.u64.wrap x = x := by rw [IntKind.wrap_u64]; omega
 have := word_raw x q h0 h1
 rwa [a1] at this
theorem fillUpto_step (n : Bt.Node) (p : Bt.Page) (k : Nat) (h : k < n.entries.length) (h5 : n.entries.length ≤ 5) :
 (fillUpto n p (k + 1)).cells = (fillUpto n p k).cells.setIfInBounds (2 + (2 + k)) (.int .u64 (n.entries[k].key * 4294967296 + Bt.pack n.entries[k].to)) := by
 have hk : wordUpto n.entries (k + 1) k = n.entries[k].key * 4294967296 + Bt.pack n.entries[k].to := by
  simp [wordUpto, Bt.wordAt, List.getElem?_eq_getElem h, Bt.entryWord]
 have ho : ∀ j, j ≠ k → wordUpto n.entries (k + 1) j = wordUpto n.entries k j := by
  intro j hj
  unfold wordUpto
  by_cases h1 : j < k
  · rw [if_pos h1, if_pos (by omega)]
  · rw [if_neg h1, if_neg (by omega)]
 have hk5 : k = 0 ∨ k = 1 ∨ k = 2 ∨ k = 3 ∨ k = 4 := by omega
 unfold fillUpto Bt.Page.cells
 rcases hk5 with rfl | rfl | rfl | rfl | rfl
 all_goals
  simp only [hk]
  simp (disch := omega) only [ho]
  rfl
/-- What holds at the head of fill's loop. -/
def FillRel (n : Bt.Node) (p : Bt.Page) (w : World) (i : Value) (wr : World) : Prop :=
 ∃ k : Nat, k ≤ n.entries.length ∧ i = .int .i64 k ∧ Below w.heap.size w wr ∧ w.heap.size + 1 + 1 + 1 ≤ wr.heap.size ∧ Blk wr (w.heap.size + 1) 25 (fillUpto n p k).cells ∧ Blk wr (w.heap.size + 1 + 1) 25 Bt.zeroPage.cells
end Go.Proofs.YtjmpekanlmepmaaGreatDoor
