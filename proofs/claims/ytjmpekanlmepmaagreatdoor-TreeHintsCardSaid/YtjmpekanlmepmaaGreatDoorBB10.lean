/- Package btree: nodes: what can be stored: the walks behind the first tests (printed by valid_gen.py). -/
import Derived.Test.YtjmpekanlmepmaaGreatDoorBB08
import Derived.Deep.Light
import Derived.Test.YtjmpekanlmepmaaGreatDoorBB09
import Derived.IntWalk
set_option linter.all false
set_option maxRecDepth 20000
set_option maxHeartbeats 8000000
open Go.Lib (hid)
namespace Go.Proofs.YtjmpekanlmepmaaGreatDoor
open Go.RowKit
theorem Z3C (es : List Bt.Entry) (k : Nat) (hk : k + 1 = es.length) : Bt.Z03 es = es[k].key := by
 induction es generalizing k with
 | nil => simp at hk
 | cons e es ih =>
   cases es with
   | nil => simp at hk; subst hk; rfl
   | cons e2 es =>
     cases k with
     | zero => simp at hk
     | succ k => simp only [Bt.Z03, List.getElem_cons_succ]; exact ih k (by simpa using hk)
theorem sG3 {P : Prop} (h : P := by
 subst hv
 have H0 := hid hes
 have l0 : n.entries.length = 0 := by rw [hes]; rfl
 have L0 := hid l0
 clear hes l0
 clear h h1 h2 he h3 hL
 have ne := Z0U
 have eq := eql_ptr
 have tg108 := trivial
 have tg109 := trivial
 have tg110 := trivial
 exact wG17) : P := h
theorem wG6 {P : Prop} (h : P := by
 have HX : Hid (n.valid = if 0 < n.level then !n.dead && decide (Bt.Z03 n.entries = n.high) else if n.dead = true ∧ (0 < n.entries.length ∨ n.leftmost = true ∨ n.right = Bt.nilP) then false else decide (Bt.Z03 n.entries ≤ n.high) && decide (Bt.Z03 n.entries ≤ Bt.Z0e)) :=
  hid (by simp only [Bt.Node.valid]; rw [if_neg h, if_neg (by simp [Bt.Z08, h1, h2, h3])])
 have He := hid he
 obtain ⟨g0, g1, gl⟩ := hg
 have hlen := he.len
 unfold maxLen at hlen
 unfold Z02
 have a1 : decide (n.level < 0) = false := by simp; omega
 have a2 : decide (8 < n.level) = false := by simp; omega
 have a3 : decide (5 < (n.entries.length : Int)) = false := by simp; omega
 have a4 : (n.high == 0) = false := by simp; omega
 have HR : Hid (Bt.rising n.entries = true) := hid (by cases hr : Bt.rising n.entries <;> simp_all)
 have hp : peq n.right.line n.right.gen 0 0 = false := by rw [Z0j]; simp [h1]
 have HV := hid h2
 have hm : (n.high == 4294967295) = false := by simp [h3]
 have HN : Hid (n.right ≠ Bt.nilP) := hid h1
 first
  | clear tg39
    have aL : decide (0 < n.level) = false := by simp; omega
    have HL0 : Hid (n.level ≤ 0) := hid hL
    first
     | clear tg40
       have HD := hid hD
       first
        | clear tg41
          rw [hes] at hv
          exact sG3
        | clear tg42
          exact sG3
     | clear tg43
       exact sG6
  | clear tg44
    have aL : decide (0 < n.level) = true := by simp; omega
    have HL0 : Hid (0 < n.level) := hid hL
    first
     | clear tg45
       have HD := hid hD
       first
        | clear tg46
          rw [hes] at hv
          exact sG3
        | clear tg47
          exact sG3
     | clear tg48
       exact sG6) : P := h
theorem sG22 {P : Prop} (h : P := by
 have tg44 := trivial
 have tg45 := trivial
 have tg47 := trivial
 exact wG6) : P := h
set_option maxRecDepth 100000 in
theorem Z9P (n : Bt.Node) (v : Value) (w : World) (he : EntRow w v n.entries) (hg : NoneAt w) (h : ¬ (n.level < 0 ∨ 8 < n.level ∨ 5 < n.entries.length ∨ Bt.rising n.entries = false ∨ n.high = 0))
 (h1 : n.right ≠ Bt.nilP) (h2 : Bt.Z0w n.right = true) (h3 : n.high ≠ 4294967295) (hL : 0 < n.level) (hD : n.dead = true) (hv : v = .slice none 0 0) (hes : n.entries = []) :
 Calls Tryz.prog 63 #[.agg (Z02 n v)] w fun e w' => e = .returned (.bool n.valid) ∧ Below w.heap.size w w' := by
 exact sG22
set_option maxRecDepth 100000 in
theorem Z9O (n : Bt.Node) (v : Value) (w : World) (he : EntRow w v n.entries) (hg : NoneAt w) (h : ¬ (n.level < 0 ∨ 8 < n.level ∨ 5 < n.entries.length ∨ Bt.rising n.entries = false ∨ n.high = 0))
 (h1 : n.right ≠ Bt.nilP) (h2 : Bt.Z0w n.right = true) (h3 : n.high ≠ 4294967295) (hL : 0 < n.level) (hD : n.dead = false) (hv : v = .slice none 0 0) (hes : n.entries = []) :
 Calls Tryz.prog 63 #[.agg (Z02 n v)] w fun e w' => e = .returned (.bool n.valid) ∧ Below w.heap.size w w' := by
 exact sG22
theorem sG21 {P : Prop} (h : P := by
 have tg39 := trivial
 have tg40 := trivial
 have tg42 := trivial
 exact wG6) : P := h
set_option maxRecDepth 100000 in
theorem Z9N (n : Bt.Node) (v : Value) (w : World) (he : EntRow w v n.entries) (hg : NoneAt w) (h : ¬ (n.level < 0 ∨ 8 < n.level ∨ 5 < n.entries.length ∨ Bt.rising n.entries = false ∨ n.high = 0))
 (h1 : n.right ≠ Bt.nilP) (h2 : Bt.Z0w n.right = true) (h3 : n.high ≠ 4294967295) (hL : n.level ≤ 0) (hD : n.dead = true) (hv : v = .slice none 0 0) (hes : n.entries = []) :
 Calls Tryz.prog 63 #[.agg (Z02 n v)] w fun e w' => e = .returned (.bool n.valid) ∧ Below w.heap.size w w' := by
 exact sG21
set_option maxRecDepth 100000 in
theorem Z9M (n : Bt.Node) (v : Value) (w : World) (he : EntRow w v n.entries) (hg : NoneAt w) (h : ¬ (n.level < 0 ∨ 8 < n.level ∨ 5 < n.entries.length ∨ Bt.rising n.entries = false ∨ n.high = 0))
 (h1 : n.right ≠ Bt.nilP) (h2 : Bt.Z0w n.right = true) (h3 : n.high ≠ 4294967295) (hL : n.level ≤ 0) (hD : n.dead = false) (hv : v = .slice none 0 0) (hes : n.entries = []) :
 Calls Tryz.prog 63 #[.agg (Z02 n v)] w fun e w' => e = .returned (.bool n.valid) ∧ Below w.heap.size w w' := by
 exact sG21
theorem sG20 {P : Prop} (h : P := by
 have tg44 := trivial
 have tg45 := trivial
 have tg46 := trivial
 exact wG6) : P := h
set_option maxRecDepth 100000 in
theorem Z9L (n : Bt.Node) (v : Value) (w : World) (he : EntRow w v n.entries) (hg : NoneAt w) (h : ¬ (n.level < 0 ∨ 8 < n.level ∨ 5 < n.entries.length ∨ Bt.rising n.entries = false ∨ n.high = 0))
 (h1 : n.right ≠ Bt.nilP) (h2 : Bt.Z0w n.right = true) (h3 : n.high ≠ 4294967295) (hL : 0 < n.level) (hD : n.dead = true) (b off cap : Nat) (hv : v = .slice (some ⟨b, off, none⟩) n.entries.length cap) (hes : n.entries = []) :
 Calls Tryz.prog 63 #[.agg (Z02 n v)] w fun e w' => e = .returned (.bool n.valid) ∧ Below w.heap.size w w' := by
 exact sG20
set_option maxRecDepth 100000 in
theorem Z9K (n : Bt.Node) (v : Value) (w : World) (he : EntRow w v n.entries) (hg : NoneAt w) (h : ¬ (n.level < 0 ∨ 8 < n.level ∨ 5 < n.entries.length ∨ Bt.rising n.entries = false ∨ n.high = 0))
 (h1 : n.right ≠ Bt.nilP) (h2 : Bt.Z0w n.right = true) (h3 : n.high ≠ 4294967295) (hL : 0 < n.level) (hD : n.dead = false) (b off cap : Nat) (hv : v = .slice (some ⟨b, off, none⟩) n.entries.length cap) (hes : n.entries = []) :
 Calls Tryz.prog 63 #[.agg (Z02 n v)] w fun e w' => e = .returned (.bool n.valid) ∧ Below w.heap.size w w' := by
 exact sG20
theorem sG19 {P : Prop} (h : P := by
 have tg39 := trivial
 have tg40 := trivial
 have tg41 := trivial
 exact wG6) : P := h
set_option maxRecDepth 100000 in
theorem Z9J (n : Bt.Node) (v : Value) (w : World) (he : EntRow w v n.entries) (hg : NoneAt w) (h : ¬ (n.level < 0 ∨ 8 < n.level ∨ 5 < n.entries.length ∨ Bt.rising n.entries = false ∨ n.high = 0))
 (h1 : n.right ≠ Bt.nilP) (h2 : Bt.Z0w n.right = true) (h3 : n.high ≠ 4294967295) (hL : n.level ≤ 0) (hD : n.dead = true) (b off cap : Nat) (hv : v = .slice (some ⟨b, off, none⟩) n.entries.length cap) (hes : n.entries = []) :
 Calls Tryz.prog 63 #[.agg (Z02 n v)] w fun e w' => e = .returned (.bool n.valid) ∧ Below w.heap.size w w' := by
 exact sG19
set_option maxRecDepth 100000 in
theorem Z9I (n : Bt.Node) (v : Value) (w : World) (he : EntRow w v n.entries) (hg : NoneAt w) (h : ¬ (n.level < 0 ∨ 8 < n.level ∨ 5 < n.entries.length ∨ Bt.rising n.entries = false ∨ n.high = 0))
 (h1 : n.right ≠ Bt.nilP) (h2 : Bt.Z0w n.right = true) (h3 : n.high ≠ 4294967295) (hL : n.level ≤ 0) (hD : n.dead = false) (b off cap : Nat) (hv : v = .slice (some ⟨b, off, none⟩) n.entries.length cap) (hes : n.entries = []) :
 Calls Tryz.prog 63 #[.agg (Z02 n v)] w fun e w' => e = .returned (.bool n.valid) ∧ Below w.heap.size w w' := by
 exact sG19
theorem sG6 {P : Prop} (h : P := by
 have HD := hid hD
 subst hv
 obtain ⟨k, hk⟩ : ∃ k, k + 1 = n.entries.length := ⟨n.entries.length - 1, by omega⟩
 have hk2 : k < n.entries.length := by omega
 obtain ⟨c0, c1, c2⟩ := three hcells hk2
 have hix : (n.entries.length : Int) - 1 = (k : Int) := by omega
 have HL : Hid (Bt.Z03 n.entries = n.entries[k].key) := hid (Z3C n.entries k hk)
 have hpos : decide (0 < (n.entries.length : Int)) = true := by simp; omega
 have hk3 : (k : Int) < (n.entries.length : Int) := by omega
 clear hcells c1 c2
 generalize hpk : n.entries[k].key = pk at c0 HL
 clear hpk hk
 clear h h1 h2 he h3 hL
 have ne := Z0U
 have eq := eql_ptr
 have tg115 := trivial
 have tg116 := trivial
 exact wG17) : P := h
theorem sG26 {P : Prop} (h : P := by
 have tg44 := trivial
 have tg48 := trivial
 exact wG6) : P := h
set_option maxRecDepth 100000 in
theorem Z9H (n : Bt.Node) (v : Value) (w : World) (he : EntRow w v n.entries) (hg : NoneAt w) (h : ¬ (n.level < 0 ∨ 8 < n.level ∨ 5 < n.entries.length ∨ Bt.rising n.entries = false ∨ n.high = 0))
 (h1 : n.right ≠ Bt.nilP) (h2 : Bt.Z0w n.right = true) (h3 : n.high ≠ 4294967295) (hL : 0 < n.level) (hD : n.dead = true) (b off cap : Nat) (hv : v = .slice (some ⟨b, off, none⟩) n.entries.length cap) (hlt : b < w.heap.size) (hes : 0 < n.entries.length) (hcells : ∀ (i : Nat) (p : Bt.Entry), n.entries[i]? = some p → ∀ (j : Nat) (u : Value), p.cells[j]? = some u → w.cell? ⟨b, off + i * 3 + j, none⟩ = some u) :
 Calls Tryz.prog 63 #[.agg (Z02 n v)] w fun e w' => e = .returned (.bool n.valid) ∧ Below w.heap.size w w' := by
 exact sG26
set_option maxRecDepth 100000 in
theorem Z9G (n : Bt.Node) (v : Value) (w : World) (he : EntRow w v n.entries) (hg : NoneAt w) (h : ¬ (n.level < 0 ∨ 8 < n.level ∨ 5 < n.entries.length ∨ Bt.rising n.entries = false ∨ n.high = 0))
 (h1 : n.right ≠ Bt.nilP) (h2 : Bt.Z0w n.right = true) (h3 : n.high ≠ 4294967295) (hL : 0 < n.level) (hD : n.dead = false) (b off cap : Nat) (hv : v = .slice (some ⟨b, off, none⟩) n.entries.length cap) (hlt : b < w.heap.size) (hes : 0 < n.entries.length) (hcells : ∀ (i : Nat) (p : Bt.Entry), n.entries[i]? = some p → ∀ (j : Nat) (u : Value), p.cells[j]? = some u → w.cell? ⟨b, off + i * 3 + j, none⟩ = some u) :
 Calls Tryz.prog 63 #[.agg (Z02 n v)] w fun e w' => e = .returned (.bool n.valid) ∧ Below w.heap.size w w' := by
 exact sG26
theorem sG25 {P : Prop} (h : P := by
 have tg39 := trivial
 have tg43 := trivial
 exact wG6) : P := h
set_option maxRecDepth 100000 in
theorem Z9F (n : Bt.Node) (v : Value) (w : World) (he : EntRow w v n.entries) (hg : NoneAt w) (h : ¬ (n.level < 0 ∨ 8 < n.level ∨ 5 < n.entries.length ∨ Bt.rising n.entries = false ∨ n.high = 0))
 (h1 : n.right ≠ Bt.nilP) (h2 : Bt.Z0w n.right = true) (h3 : n.high ≠ 4294967295) (hL : n.level ≤ 0) (hD : n.dead = true) (b off cap : Nat) (hv : v = .slice (some ⟨b, off, none⟩) n.entries.length cap) (hlt : b < w.heap.size) (hes : 0 < n.entries.length) (hcells : ∀ (i : Nat) (p : Bt.Entry), n.entries[i]? = some p → ∀ (j : Nat) (u : Value), p.cells[j]? = some u → w.cell? ⟨b, off + i * 3 + j, none⟩ = some u) :
 Calls Tryz.prog 63 #[.agg (Z02 n v)] w fun e w' => e = .returned (.bool n.valid) ∧ Below w.heap.size w w' := by
 exact sG25
set_option maxRecDepth 100000 in
theorem Z9E (n : Bt.Node) (v : Value) (w : World) (he : EntRow w v n.entries) (hg : NoneAt w) (h : ¬ (n.level < 0 ∨ 8 < n.level ∨ 5 < n.entries.length ∨ Bt.rising n.entries = false ∨ n.high = 0))
 (h1 : n.right ≠ Bt.nilP) (h2 : Bt.Z0w n.right = true) (h3 : n.high ≠ 4294967295) (hL : n.level ≤ 0) (hD : n.dead = false) (b off cap : Nat) (hv : v = .slice (some ⟨b, off, none⟩) n.entries.length cap) (hlt : b < w.heap.size) (hes : 0 < n.entries.length) (hcells : ∀ (i : Nat) (p : Bt.Entry), n.entries[i]? = some p → ∀ (j : Nat) (u : Value), p.cells[j]? = some u → w.cell? ⟨b, off + i * 3 + j, none⟩ = some u) :
 Calls Tryz.prog 63 #[.agg (Z02 n v)] w fun e w' => e = .returned (.bool n.valid) ∧ Below w.heap.size w w' := by
 exact sG25
theorem Z5P (n : Bt.Node) (v : Value) (w : World) (he : EntRow w v n.entries) (hg : NoneAt w) :
 Calls Tryz.prog 63 #[.agg (Z02 n v)] w fun e w' => e = .returned (.bool n.valid) ∧ Below w.heap.size w w' := by
 by_cases h : n.level < 0 ∨ 8 < n.level ∨ 5 < n.entries.length ∨ Bt.rising n.entries = false ∨ n.high = 0
 ·exact ZbX n v w he h
 by_cases h1 : n.right = Bt.nilP
 ·by_cases h2 : n.high = 4294967295
  ·rcases he.form with ⟨hv, hes⟩ | ⟨b, off, cap, hv, hlt, hcells⟩
   ·by_cases hL : 0 < n.level
    ·rcases hD : n.dead with _ | _
     ·exact Za0 n v w he hg h h1 h2 hL hD hv hes
     ·exact Za1 n v w he hg h h1 h2 hL hD hv hes
    ·rcases hD : n.dead with _ | _
     ·exact Z9Y n v w he hg h h1 h2 (by omega) hD hv hes
     ·exact Z9Z n v w he hg h h1 h2 (by omega) hD hv hes
   ·by_cases hz : n.entries = []
    ·by_cases hL : 0 < n.level
     ·rcases hD : n.dead with _ | _
      ·exact Z9W n v w he hg h h1 h2 hL hD b off cap hv hz
      ·exact Z9X n v w he hg h h1 h2 hL hD b off cap hv hz
     ·rcases hD : n.dead with _ | _
      ·exact Z9U n v w he hg h h1 h2 (by omega) hD b off cap hv hz
      ·exact Z9V n v w he hg h h1 h2 (by omega) hD b off cap hv hz
    ·by_cases hL : 0 < n.level
     ·rcases hD : n.dead with _ | _
      ·exact Z9S n v w he hg h h1 h2 hL hD b off cap hv hlt (List.length_pos_iff.2 hz) hcells
      ·exact Z9T n v w he hg h h1 h2 hL hD b off cap hv hlt (List.length_pos_iff.2 hz) hcells
     ·rcases hD : n.dead with _ | _
      ·exact Z9Q n v w he hg h h1 h2 (by omega) hD b off cap hv hlt (List.length_pos_iff.2 hz) hcells
      ·exact Z9R n v w he hg h h1 h2 (by omega) hD b off cap hv hlt (List.length_pos_iff.2 hz) hcells
  ·rcases he.form with ⟨hv, hes⟩ | ⟨b, off, cap, hv, hlt, hcells⟩
   ·exact Zbh n v w he hg h h1 h2 hv hes
   ·by_cases hz : n.entries = []
    ·exact Zbg n v w he hg h h1 h2 b off cap hv hz
    ·exact Zbf n v w he hg h h1 h2 b off cap hv (List.length_pos_iff.2 hz)
 ·rcases h2 : Bt.Z0w n.right with _ | _
  ·rcases he.form with ⟨hv, hes⟩ | ⟨b, off, cap, hv, hlt, hcells⟩
   ·exact Zbk n v w he hg h h1 h2 hv hes
   ·by_cases hz : n.entries = []
    ·exact Zbj n v w he hg h h1 h2 b off cap hv hz
    ·exact Zbi n v w he hg h h1 h2 b off cap hv (List.length_pos_iff.2 hz)
  ·by_cases h3 : n.high = 4294967295
   ·rcases he.form with ⟨hv, hes⟩ | ⟨b, off, cap, hv, hlt, hcells⟩
    ·exact Zbe n v w he hg h h1 h2 h3 hv hes
    ·by_cases hz : n.entries = []
     ·exact Zbd n v w he hg h h1 h2 h3 b off cap hv hz
     ·exact Zbc n v w he hg h h1 h2 h3 b off cap hv (List.length_pos_iff.2 hz)
   ·rcases he.form with ⟨hv, hes⟩ | ⟨b, off, cap, hv, hlt, hcells⟩
    ·by_cases hL : 0 < n.level
     ·rcases hD : n.dead with _ | _
      ·exact Z9O n v w he hg h h1 h2 h3 hL hD hv hes
      ·exact Z9P n v w he hg h h1 h2 h3 hL hD hv hes
     ·rcases hD : n.dead with _ | _
      ·exact Z9M n v w he hg h h1 h2 h3 (by omega) hD hv hes
      ·exact Z9N n v w he hg h h1 h2 h3 (by omega) hD hv hes
    ·by_cases hz : n.entries = []
     ·by_cases hL : 0 < n.level
      ·rcases hD : n.dead with _ | _
       ·exact Z9K n v w he hg h h1 h2 h3 hL hD b off cap hv hz
       ·exact Z9L n v w he hg h h1 h2 h3 hL hD b off cap hv hz
      ·rcases hD : n.dead with _ | _
       ·exact Z9I n v w he hg h h1 h2 h3 (by omega) hD b off cap hv hz
       ·exact Z9J n v w he hg h h1 h2 h3 (by omega) hD b off cap hv hz
     ·by_cases hL : 0 < n.level
      ·rcases hD : n.dead with _ | _
       ·exact Z9G n v w he hg h h1 h2 h3 hL hD b off cap hv hlt (List.length_pos_iff.2 hz) hcells
       ·exact Z9H n v w he hg h h1 h2 h3 hL hD b off cap hv hlt (List.length_pos_iff.2 hz) hcells
      ·rcases hD : n.dead with _ | _
       ·exact Z9E n v w he hg h h1 h2 h3 (by omega) hD b off cap hv hlt (List.length_pos_iff.2 hz) hcells
       ·exact Z9F n v w he hg h h1 h2 h3 (by omega) hD b off cap hv hlt (List.length_pos_iff.2 hz) hcells
theorem Z1G (p : Bt.Ptr) : 0 ≤ Bt.pack p ∧ Bt.pack p < 4294967296 := by
 unfold Bt.pack Bt.Z0w Bt.Z3w
 split
 ·rename_i h
  simp at h
  omega
 ·omega
def Z2J (es : List Bt.Entry) (k j : Nat) : Int := if j < k then Bt.wordAt es j else 0
def Z4B (n : Bt.Node) (p : Bt.Page) (k : Nat) : Bt.Page :=
 ⟨p.line, p.head, Bt.Z1v (Bt.Z0f p.d0) (Bt.Z0u p.d0) n.aux, n.high + Bt.pack n.right * 4294967296,
  Z2J n.entries k 0, Z2J n.entries k 1, Z2J n.entries k 2, Z2J n.entries k 3, Z2J n.entries k 4⟩
theorem Z7f (es : List Bt.Entry) (h : es.length ≤ 5) (j : Nat) : Z2J es es.length j = Bt.wordAt es j := by
 unfold Z2J
 split
 ·rfl
 ·rename_i hj
  unfold Bt.wordAt
  rw [List.getElem?_eq_none (by omega)]
theorem Z2d (n : Bt.Node) (p : Bt.Page) (h : n.entries.length ≤ 5) : Z4B n p n.entries.length = n.fill p := by
 unfold Z4B Bt.Node.fill
 simp only [Z7f _ h]
structure NodeOk (n : Bt.Node) : Prop where
 level : 0 ≤ n.level ∧ n.level ≤ 255
 high : 0 ≤ n.high ∧ n.high < 4294967296
 len : n.entries.length ≤ 5
theorem Z5E (l c : Int) (h0 : 0 ≤ l ∧ l ≤ 255) (h1 : 0 ≤ c ∧ c ≤ 5) : bits .or .u32 l (c * 256) = l + c * 256 := or_u32_join' 8 l (c * 256) (by omega) (by omega) (by omega) (by omega) (by omega) (by omega)
theorem Z78 (x : Int) (h0 : 0 ≤ x ∧ x < 65536) : bits .or .u32 x 65536 = x + 65536 := or_u32_join' 16 x 65536 (by omega) (by omega) (by omega) (by omega) (by omega) (by omega)
theorem Z77 (x : Int) (h0 : 0 ≤ x ∧ x < 131072) : bits .or .u32 x 131072 = x + 131072 := or_u32_join' 17 x 131072 (by omega) (by omega) (by omega) (by omega) (by omega) (by omega)
theorem Z3G (x y : Int) (h0 : 0 ≤ x ∧ x < 4294967296) (h1 : 0 ≤ y ∧ y < 4294967296) : bits .or .u64 x (y * 4294967296) = x + y * 4294967296 := or_u64_join' 32 x (y * 4294967296) (by omega) (by omega) (by omega) (by omega) (by omega) (by omega)
theorem Zbb (x y : Int) (h0 : 0 ≤ x ∧ x < 4294967296) (h1 : 0 ≤ y ∧ y < 4294967296) : bits .or .u64 (y * 4294967296) x = y * 4294967296 + x := Z63 32 (y * 4294967296) x (by omega) (by omega) (by omega) (by omega) (by omega) (by omega)
theorem Zba (x : Int) (q : Bt.Ptr) (h0 : 0 ≤ x ∧ x < 4294967296) (h1 : 0 ≤ Bt.pack q ∧ Bt.pack q < 4294967296) :
 bits .or .u64 (IntKind.u64.wrap x) (IntKind.u64.wrap (IntKind.u64.wrap (Bt.pack ⟨q.line, q.gen⟩) * 4294967296)) = x + Bt.pack q * 4294967296 := by
 have a1 : IntKind.u64.wrap x = x := by rw [IntKind.wrap_u64]; omega
 have a2 : IntKind.u64.wrap (Bt.pack q) = Bt.pack q := by rw [IntKind.wrap_u64]; omega
 have a3 : IntKind.u64.wrap (Bt.pack q * 4294967296) = Bt.pack q * 4294967296 := by rw [IntKind.wrap_u64]; omega
 show bits .or .u64 (IntKind.u64.wrap x) (IntKind.u64.wrap (IntKind.u64.wrap (Bt.pack q) * 4294967296)) = _
 rw [a1, a2, a3, Z3G x _ h0 h1]
theorem Z4Y (x : Int) (q : Bt.Ptr) (h0 : 0 ≤ x ∧ x < 4294967296) (h1 : 0 ≤ Bt.pack q ∧ Bt.pack q < 4294967296) :
 bits .or .u64 (IntKind.u64.wrap (IntKind.u64.wrap x * 4294967296)) (IntKind.u64.wrap (Bt.pack ⟨q.line, q.gen⟩)) = x * 4294967296 + Bt.pack q := by
 have a1 : IntKind.u64.wrap x = x := by rw [IntKind.wrap_u64]; omega
 have a2 : IntKind.u64.wrap (Bt.pack q) = Bt.pack q := by rw [IntKind.wrap_u64]; omega
 have a3 : IntKind.u64.wrap (x * 4294967296) = x * 4294967296 := by rw [IntKind.wrap_u64]; omega
 show bits .or .u64 (IntKind.u64.wrap (IntKind.u64.wrap x * 4294967296)) (IntKind.u64.wrap (Bt.pack q)) = _
 rw [a1, a2, a3, Zbb _ x h1 h0]
theorem word_raw' (x : Int) (q : Bt.Ptr) (h0 : 0 ≤ x ∧ x < 4294967296) (h1 : 0 ≤ Bt.pack q ∧ Bt.pack q < 4294967296) :
 bits .or .u64 x (IntKind.u64.wrap (IntKind.u64.wrap (Bt.pack ⟨q.line, q.gen⟩) * 4294967296)) = x + Bt.pack q * 4294967296 := by
 have a1 : IntKind.u64.wrap x = x := by rw [IntKind.wrap_u64]; omega
 have := Zba x q h0 h1
 rwa [a1] at this
theorem Z3b (n : Bt.Node) (p : Bt.Page) (k : Nat) (h : k < n.entries.length) (h5 : n.entries.length ≤ 5) :
 (Z4B n p (k + 1)).cells = (Z4B n p k).cells.setIfInBounds (2 + (2 + k)) (.int .u64 (n.entries[k].key * 4294967296 + Bt.pack n.entries[k].to)) := by
 have hk : Z2J n.entries (k + 1) k = n.entries[k].key * 4294967296 + Bt.pack n.entries[k].to := by
  simp [Z2J, Bt.wordAt, List.getElem?_eq_getElem h, Bt.Z3Q]
 have ho : ∀ j, j ≠ k → Z2J n.entries (k + 1) j = Z2J n.entries k j := by
  intro j hj
  unfold Z2J
  by_cases h1 : j < k
  ·rw [if_pos h1, if_pos (by omega)]
  ·rw [if_neg h1, if_neg (by omega)]
 have hk5 : k = 0 ∨ k = 1 ∨ k = 2 ∨ k = 3 ∨ k = 4 := by omega
 unfold Z4B Bt.Page.cells
 rcases hk5 with rfl | rfl | rfl | rfl | rfl
 all_goals
  simp only [hk]
  simp (disch := omega) only [ho]
  rfl
def Z7d (n : Bt.Node) (p : Bt.Page) (w : World) (i : Value) (wr : World) : Prop :=
 ∃ k : Nat, k ≤ n.entries.length ∧ i = .int .i64 k ∧ Below w.heap.size w wr ∧ w.heap.size + 1 + 1 + 1 ≤ wr.heap.size ∧ Blk wr (w.heap.size + 1) 25 (Z4B n p k).cells ∧ Blk wr (w.heap.size + 1 + 1) 25 Bt.Z0l.cells
end Go.Proofs.YtjmpekanlmepmaaGreatDoor
