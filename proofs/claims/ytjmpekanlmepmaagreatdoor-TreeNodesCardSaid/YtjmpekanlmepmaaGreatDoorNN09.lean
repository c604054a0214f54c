/- Package btree: nodes: what can be stored: all cases. -/
import Derived.Test.YtjmpekanlmepmaaGreatDoorNN06
import Derived.Test.YtjmpekanlmepmaaGreatDoorNN07
import Derived.Test.YtjmpekanlmepmaaGreatDoorNN08
import Derived.Test.YtjmpekanlmepmaaGreatDoorNN05
import Derived.IntWalk
set_option linter.all false
set_option maxRecDepth 20000
set_option maxHeartbeats 8000000
namespace Go.Proofs.YtjmpekanlmepmaaGreatDoor
open Go.RowKit
theorem valid_any (n : Bt.Node) (v : Value) (w : World) (he : EntRow w v n.entries) (hg : NoneAt w) :
 Calls Tryz.prog 63 #[.agg (nodeCells n v)] w fun e w' => e = .returned (.bool n.valid) ∧ Below w.heap.size w w' := by
 by_cases h : n.level < 0 ∨ 8 < n.level ∨ 5 < n.entries.length ∨ Bt.rising n.entries = false ∨ n.high = 0
 ·exact valid_1 n v w he h
 by_cases h1 : n.right = Bt.nilP
 ·by_cases h2 : n.high = 4294967295
  ·rcases he.form with ⟨hv, hes⟩ | ⟨b, off, cap, hv, hlt, hcells⟩
   ·by_cases hL : 0 < n.level
    ·rcases hD : n.dead with _ | _
     ·exact valid_d1q n v w he hg h h1 h2 hL hD hv hes
     ·exact valid_d1p n v w he hg h h1 h2 hL hD hv hes
    ·rcases hD : n.dead with _ | _
     ·exact valid_d1s n v w he hg h h1 h2 (by omega) hD hv hes
     ·exact valid_d1r n v w he hg h h1 h2 (by omega) hD hv hes
   ·by_cases hz : n.entries = []
    ·by_cases hL : 0 < n.level
     ·rcases hD : n.dead with _ | _
      ·exact valid_d2q n v w he hg h h1 h2 hL hD b off cap hv hz
      ·exact valid_d2p n v w he hg h h1 h2 hL hD b off cap hv hz
     ·rcases hD : n.dead with _ | _
      ·exact valid_d2s n v w he hg h h1 h2 (by omega) hD b off cap hv hz
      ·exact valid_d2r n v w he hg h h1 h2 (by omega) hD b off cap hv hz
    ·by_cases hL : 0 < n.level
     ·rcases hD : n.dead with _ | _
      ·exact valid_d3q n v w he hg h h1 h2 hL hD b off cap hv hlt (List.length_pos_iff.2 hz) hcells
      ·exact valid_d3p n v w he hg h h1 h2 hL hD b off cap hv hlt (List.length_pos_iff.2 hz) hcells
     ·rcases hD : n.dead with _ | _
      ·exact valid_d3s n v w he hg h h1 h2 (by omega) hD b off cap hv hlt (List.length_pos_iff.2 hz) hcells
      ·exact valid_d3r n v w he hg h h1 h2 (by omega) hD b off cap hv hlt (List.length_pos_iff.2 hz) hcells
  ·rcases he.form with ⟨hv, hes⟩ | ⟨b, off, cap, hv, hlt, hcells⟩
   ·exact valid_b1 n v w he hg h h1 h2 hv hes
   ·by_cases hz : n.entries = []
    ·exact valid_b2 n v w he hg h h1 h2 b off cap hv hz
    ·exact valid_b3 n v w he hg h h1 h2 b off cap hv (List.length_pos_iff.2 hz)
 ·rcases h2 : Bt.validP n.right with _ | _
  ·rcases he.form with ⟨hv, hes⟩ | ⟨b, off, cap, hv, hlt, hcells⟩
   ·exact valid_a1 n v w he hg h h1 h2 hv hes
   ·by_cases hz : n.entries = []
    ·exact valid_a2 n v w he hg h h1 h2 b off cap hv hz
    ·exact valid_a3 n v w he hg h h1 h2 b off cap hv (List.length_pos_iff.2 hz)
  ·by_cases h3 : n.high = 4294967295
   ·rcases he.form with ⟨hv, hes⟩ | ⟨b, off, cap, hv, hlt, hcells⟩
    ·exact valid_c1 n v w he hg h h1 h2 h3 hv hes
    ·by_cases hz : n.entries = []
     ·exact valid_c2 n v w he hg h h1 h2 h3 b off cap hv hz
     ·exact valid_c3 n v w he hg h h1 h2 h3 b off cap hv (List.length_pos_iff.2 hz)
   ·rcases he.form with ⟨hv, hes⟩ | ⟨b, off, cap, hv, hlt, hcells⟩
    ·by_cases hL : 0 < n.level
     ·rcases hD : n.dead with _ | _
      ·exact valid_e1q n v w he hg h h1 h2 h3 hL hD hv hes
      ·exact valid_e1p n v w he hg h h1 h2 h3 hL hD hv hes
     ·rcases hD : n.dead with _ | _
      ·exact valid_e1s n v w he hg h h1 h2 h3 (by omega) hD hv hes
      ·exact valid_e1r n v w he hg h h1 h2 h3 (by omega) hD hv hes
    ·by_cases hz : n.entries = []
     ·by_cases hL : 0 < n.level
      ·rcases hD : n.dead with _ | _
       ·exact valid_e2q n v w he hg h h1 h2 h3 hL hD b off cap hv hz
       ·exact valid_e2p n v w he hg h h1 h2 h3 hL hD b off cap hv hz
      ·rcases hD : n.dead with _ | _
       ·exact valid_e2s n v w he hg h h1 h2 h3 (by omega) hD b off cap hv hz
       ·exact valid_e2r n v w he hg h h1 h2 h3 (by omega) hD b off cap hv hz
     ·by_cases hL : 0 < n.level
      ·rcases hD : n.dead with _ | _
       ·exact valid_e3q n v w he hg h h1 h2 h3 hL hD b off cap hv hlt (List.length_pos_iff.2 hz) hcells
       ·exact valid_e3p n v w he hg h h1 h2 h3 hL hD b off cap hv hlt (List.length_pos_iff.2 hz) hcells
      ·rcases hD : n.dead with _ | _
       ·exact valid_e3s n v w he hg h h1 h2 h3 (by omega) hD b off cap hv hlt (List.length_pos_iff.2 hz) hcells
       ·exact valid_e3r n v w he hg h h1 h2 h3 (by omega) hD b off cap hv hlt (List.length_pos_iff.2 hz) hcells
theorem pack_bound (p : Bt.Ptr) : 0 ≤ Bt.pack p ∧ Bt.pack p < 4294967296 := by
 unfold Bt.pack Bt.validP Bt.inHeap
 split
 ·rename_i h
  simp at h
  omega
 ·omega
def wordUpto (es : List Bt.Entry) (k j : Nat) : Int := if j < k then Bt.wordAt es j else 0
def fillUpto (n : Bt.Node) (p : Bt.Page) (k : Nat) : Bt.Page :=
 ⟨p.line, p.head, Bt.packTag (Bt.tagKind p.d0) (Bt.tagGen p.d0) n.aux, n.high + Bt.pack n.right * 4294967296,
  wordUpto n.entries k 0, wordUpto n.entries k 1, wordUpto n.entries k 2, wordUpto n.entries k 3, wordUpto n.entries k 4⟩
theorem wordUpto_all (es : List Bt.Entry) (h : es.length ≤ 5) (j : Nat) : wordUpto es es.length j = Bt.wordAt es j := by
 unfold wordUpto
 split
 ·rfl
 ·rename_i hj
  unfold Bt.wordAt
  rw [List.getElem?_eq_none (by omega)]
theorem fillUpto_all (n : Bt.Node) (p : Bt.Page) (h : n.entries.length ≤ 5) : fillUpto n p n.entries.length = n.fill p := by
 unfold fillUpto Bt.Node.fill
 simp only [wordUpto_all _ h]
structure NodeOk (n : Bt.Node) : Prop where
 level : 0 ≤ n.level ∧ n.level ≤ 255
 high : 0 ≤ n.high ∧ n.high < 4294967296
 len : n.entries.length ≤ 5
theorem aux_or (l c : Int) (h0 : 0 ≤ l ∧ l ≤ 255) (h1 : 0 ≤ c ∧ c ≤ 5) : bits .or .u32 l (c * 256) = l + c * 256 := or_u32_join' 8 l (c * 256) (by omega) (by omega) (by omega) (by omega) (by omega) (by omega)
theorem aux_or1 (x : Int) (h0 : 0 ≤ x ∧ x < 65536) : bits .or .u32 x 65536 = x + 65536 := or_u32_join' 16 x 65536 (by omega) (by omega) (by omega) (by omega) (by omega) (by omega)
theorem aux_or2 (x : Int) (h0 : 0 ≤ x ∧ x < 131072) : bits .or .u32 x 131072 = x + 131072 := or_u32_join' 17 x 131072 (by omega) (by omega) (by omega) (by omega) (by omega) (by omega)
theorem word_or (x y : Int) (h0 : 0 ≤ x ∧ x < 4294967296) (h1 : 0 ≤ y ∧ y < 4294967296) : bits .or .u64 x (y * 4294967296) = x + y * 4294967296 := or_u64_join' 32 x (y * 4294967296) (by omega) (by omega) (by omega) (by omega) (by omega) (by omega)
theorem word_or2 (x y : Int) (h0 : 0 ≤ x ∧ x < 4294967296) (h1 : 0 ≤ y ∧ y < 4294967296) : bits .or .u64 (y * 4294967296) x = y * 4294967296 + x := or_u64_join 32 (y * 4294967296) x (by omega) (by omega) (by omega) (by omega) (by omega) (by omega)
theorem word_raw (x : Int) (q : Bt.Ptr) (h0 : 0 ≤ x ∧ x < 4294967296) (h1 : 0 ≤ Bt.pack q ∧ Bt.pack q < 4294967296) :
 bits .or .u64 (IntKind.u64.wrap x) (IntKind.u64.wrap (IntKind.u64.wrap (Bt.pack ⟨q.line, q.gen⟩) * 4294967296)) = x + Bt.pack q * 4294967296 := by
 have a1 : IntKind.u64.wrap x = x := by rw [IntKind.wrap_u64]; omega
 have a2 : IntKind.u64.wrap (Bt.pack q) = Bt.pack q := by rw [IntKind.wrap_u64]; omega
 have a3 : IntKind.u64.wrap (Bt.pack q * 4294967296) = Bt.pack q * 4294967296 := by rw [IntKind.wrap_u64]; omega
 show bits .or .u64 (IntKind.u64.wrap x) (IntKind.u64.wrap (IntKind.u64.wrap (Bt.pack q) * 4294967296)) = _
 rw [a1, a2, a3, word_or x _ h0 h1]
theorem word_raw2 (x : Int) (q : Bt.Ptr) (h0 : 0 ≤ x ∧ x < 4294967296) (h1 : 0 ≤ Bt.pack q ∧ Bt.pack q < 4294967296) :
 bits .or .u64 (IntKind.u64.wrap (IntKind.u64.wrap x * 4294967296)) (IntKind.u64.wrap (Bt.pack ⟨q.line, q.gen⟩)) = x * 4294967296 + Bt.pack q := by
 have a1 : IntKind.u64.wrap x = x := by rw [IntKind.wrap_u64]; omega
 have a2 : IntKind.u64.wrap (Bt.pack q) = Bt.pack q := by rw [IntKind.wrap_u64]; omega
 have a3 : IntKind.u64.wrap (x * 4294967296) = x * 4294967296 := by rw [IntKind.wrap_u64]; omega
 show bits .or .u64 (IntKind.u64.wrap (IntKind.u64.wrap x * 4294967296)) (IntKind.u64.wrap (Bt.pack q)) = _
 rw [a1, a2, a3, word_or2 _ x h1 h0]
theorem word_raw' (x : Int) (q : Bt.Ptr) (h0 : 0 ≤ x ∧ x < 4294967296) (h1 : 0 ≤ Bt.pack q ∧ Bt.pack q < 4294967296) :
 bits .or .u64 x (IntKind.u64.wrap (IntKind.u64.wrap (Bt.pack ⟨q.line, q.gen⟩) * 4294967296)) = x + Bt.pack q * 4294967296 := by
 have a1 : IntKind.u64.wrap x = x := by rw [IntKind.wrap_u64]; omega
 have := word_raw x q h0 h1
 rwa [a1] at this
theorem fillUpto_step (n : Bt.Node) (p : Bt.Page) (k : Nat) (h : k < n.entries.length) (h5 : n.entries.length ≤ 5) :
 (fillUpto n p (k + 1)).cells = (fillUpto n p k).cells.setIfInBounds (2 + (2 + k)) (.int .u64 (n.entries[k].key * 4294967296 + Bt.pack n.entries[k].to)) := by
 have hk : wordUpto n.entries (k + 1) k = n.entries[k].key * 4294967296 + Bt.pack n.entries[k].to := by
  simp [wordUpto, Bt.wordAt, List.getElem?_eq_getElem h, Bt.entryWord]
 have ho : ∀ j, j ≠ k → wordUpto n.entries (k + 1) j = wordUpto n.entries k j := by
  intro j hj
  unfold wordUpto
  by_cases h1 : j < k
  ·rw [if_pos h1, if_pos (by omega)]
  ·rw [if_neg h1, if_neg (by omega)]
 have hk5 : k = 0 ∨ k = 1 ∨ k = 2 ∨ k = 3 ∨ k = 4 := by omega
 unfold fillUpto Bt.Page.cells
 rcases hk5 with rfl | rfl | rfl | rfl | rfl
 all_goals
  simp only [hk]
  simp (disch := omega) only [ho]
  rfl
def FillRel (n : Bt.Node) (p : Bt.Page) (w : World) (i : Value) (wr : World) : Prop :=
 ∃ k : Nat, k ≤ n.entries.length ∧ i = .int .i64 k ∧ Below w.heap.size w wr ∧ w.heap.size + 1 + 1 + 1 ≤ wr.heap.size ∧ Blk wr (w.heap.size + 1) 25 (fillUpto n p k).cells ∧ Blk wr (w.heap.size + 1 + 1) 25 Bt.zeroPage.cells
end Go.Proofs.YtjmpekanlmepmaaGreatDoor
