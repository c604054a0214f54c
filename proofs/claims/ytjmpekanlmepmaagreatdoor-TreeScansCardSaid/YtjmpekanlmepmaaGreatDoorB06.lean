/- DERIVED: THE SHELF's CONTRACTS AT THIS DUMP, IN PLAIN WORDS (tools/lay-plain.mjs out of 'TryzShelf.lean', which tools/lay-shelf.mjs wrote): THE SAME DECLARATIONS UNDER THE SAME NAMES: 'import', 'namespace', 'open', 'def', 'theorem' AND NOTHING ELSE: no command of the shelf's: FOR A HAND-IN. Each laying: the table of numbers ('.._ren') and one theorem, a field a fact of the dump's own or the kernel's comparison; each contract: ONE APPLICATION. -/
import Derived.Shelf.Small.Bits
import Derived.Shelf.Small.Wraps
import Derived.Shelf.Strconv.Itoa0
import Derived.Shelf.Sort.Plain
import Derived.Shelf.Slices.Turned
import Derived.Ground.Names2Prog
import Derived.Shelf.Slices.CompactI
import Derived.Shelf.Slices.SearchI
import Derived.Shelf.Slices.Cells
import Derived.Shelf.Slices.In.SortNone
import Derived.Test.YtjmpekanlmepmaaGreatDoorProg
import Derived.Test.YtjmpekanlmepmaaGreatDoorRows
import Derived.WalkKit
import Derived.WalkSpells
import Derived.WalkLawsBesides
import Derived.Deep.DeepFit
import Derived.Deep.RegionWith
import Derived.Deep.QuietTactic
import Derived.BigQuiet
import Derived.Lib.Hide
import Derived.Deep.Draws
import Derived.Laws.ResultCell
import Derived.Orders
import Derived.Laws.BitsAllLaws
import Derived.Test.YtjmpekanlmepmaaGreatDoorB01
import Derived.Deep.RegionHeld3
import Derived.Deep.MidRow
set_option linter.all false
namespace Go.Proofs
open Go.Shelf
def Tryz.lays125_ren : Go.Shelf.Ren := ⟨fun | 125 => 96 | 128 => 119 | 129 => 120 | n => n, fun | 46 => 30 | 3 => 3 | 51 => 52 | 53 => 22 | 4 => 4 | 5 => 5 | 9 => 9 | n => n, fun | n => n⟩
theorem Tryz.lays125 : Go.Proofs.Lays.n125 Tryz.prog Tryz.lays125_ren := {
 mixed := by kernel_rfl
 f125 := Tryz.func96.trans (congrArg some (by kernel_rfl))
 f128 := Tryz.func119.trans (congrArg some (by kernel_rfl))
 f129 := Tryz.func120.trans (congrArg some (by kernel_rfl))
 t3 := Tryz.underlying3
 a3 := Tryz.isAgg3
 z3 := Tryz.sizeOf3
 v3 := Tryz.zeroValue3
 t4 := Tryz.underlying4
 a4 := Tryz.isAgg4
 z4 := Tryz.sizeOf4
 v4 := Tryz.zeroValue4
 t5 := Tryz.underlying5
 a5 := Tryz.isAgg5
 z5 := Tryz.sizeOf5
 v5 := Tryz.zeroValue5
 t9 := Tryz.underlying9
 a9 := Tryz.isAgg9
 z9 := Tryz.sizeOf9
 v9 := Tryz.zeroValue9
 t46 := Tryz.underlying30
 a46 := Tryz.isAgg30
 z46 := Tryz.sizeOf30
 v46 := Tryz.zeroValue30
 t51 := Tryz.underlying52
 a51 := Tryz.isAgg52
 z51 := Tryz.sizeOf52
 v51 := Tryz.zeroValue52
 t53 := Tryz.underlying22
 a53 := Tryz.isAgg22
 z53 := Tryz.sizeOf22
 v53 := Tryz.zeroValue22 }
/-- bits.Len: "Len returns the minimum number of bits required to represent x; the result is 0 for x == 0.": IT RETURNS 'Lib.bitLen x'; the world is as it was. (A uint has 64 bits in the model.) ITS CALLEE bits.Len64 IS MET BY ITS OWN CONTRACT OFF THE SHELF (lay that first). (LAID: no walk: one application.) -/
theorem Tryz.bits_Len (x : Int) (w : World) (h0 : 0 ≤ x) (h1 : x ≤ 18446744073709551615) :
 Calls Tryz.prog 96 #[.int .u64 x] w fun e w' => e = .returned (.int .i64 (Lib.bitLen x.toNat)) ∧ w' = w := Any.bits_Len Tryz.lays125 x w h0 h1
def Tryz.lays122_ren : Go.Shelf.Ren := ⟨fun | 122 => 61 | 215 => 97 | n => n, fun | 3 => 3 | 4 => 4 | n => n, fun | n => n⟩
theorem Tryz.lays122 : Go.Proofs.Lays.n122 Tryz.prog Tryz.lays122_ren := {
 mixed := by kernel_rfl
 f122 := Tryz.func61.trans (congrArg some (by kernel_rfl))
 f215 := Tryz.func97.trans (congrArg some (by kernel_rfl))
 t3 := Tryz.underlying3
 a3 := Tryz.isAgg3
 z3 := Tryz.sizeOf3
 v3 := Tryz.zeroValue3
 t4 := Tryz.underlying4
 a4 := Tryz.isAgg4
 z4 := Tryz.sizeOf4
 v4 := Tryz.zeroValue4 }
open Go.RowKit in
/-- cmp.Compare at int: "Compare returns -1 if x is less than y, 0 if x equals y, +1 if x is greater than y.": IT RETURNS 'Lib.compareInt x y'; the world is as it was. (LAID: no walk: one application.) -/
theorem Tryz.cmp_Compare_int (x y : Int) (w : World) :
 Calls Tryz.prog 61 #[.int .i64 x, .int .i64 y] w fun e w' => e = .returned (.int .i64 (Lib.compareInt x y)) ∧ w' = w := Any.cmp_Compare_int Tryz.lays122 x y w
def Tryz.lays189_ren : Go.Shelf.Ren := ⟨fun | 189 => 101 | 125 => 96 | 257 => 121 | 128 => 119 | 129 => 120 | 294 => 131 | 295 => 132 | 296 => 133 | 297 => 134 | 298 => 135 | 299 => 136 | 216 => 137 | 300 => 138 | 301 => 139 | 328 => 142 | 329 => 127 | 330 => 128 | 331 => 143 | 332 => 144 | 215 => 97 | 343 => 145 | n => n, fun | 28 => 45 | 3 => 3 | 46 => 30 | 0 => 0 | 51 => 52 | 53 => 22 | 4 => 4 | 183 => 174 | 182 => 173 | 131 => 114 | 5 => 5 | 9 => 9 | 218 => 183 | 222 => 187 | 228 => 196 | 229 => 197 | n => n, fun | n => n⟩
theorem Tryz.lays189 : Go.Proofs.Lays.n189 Tryz.prog Tryz.lays189_ren := {
 mixed := by kernel_rfl
 f125 := Tryz.func96.trans (congrArg some (by kernel_rfl))
 f128 := Tryz.func119.trans (congrArg some (by kernel_rfl))
 f129 := Tryz.func120.trans (congrArg some (by kernel_rfl))
 f189 := Tryz.func101.trans (congrArg some (by kernel_rfl))
 f215 := Tryz.func97.trans (congrArg some (by kernel_rfl))
 f216 := Tryz.func137.trans (congrArg some (by kernel_rfl))
 f257 := Tryz.func121.trans (congrArg some (by kernel_rfl))
 f294 := Tryz.func131.trans (congrArg some (by kernel_rfl))
 f295 := Tryz.func132.trans (congrArg some (by kernel_rfl))
 f296 := Tryz.func133.trans (congrArg some (by kernel_rfl))
 f297 := Tryz.func134.trans (congrArg some (by kernel_rfl))
 f298 := Tryz.func135.trans (congrArg some (by kernel_rfl))
 f299 := Tryz.func136.trans (congrArg some (by kernel_rfl))
 f300 := Tryz.func138.trans (congrArg some (by kernel_rfl))
 f301 := Tryz.func139.trans (congrArg some (by kernel_rfl))
 f328 := Tryz.func142.trans (congrArg some (by kernel_rfl))
 f329 := Tryz.func127.trans (congrArg some (by kernel_rfl))
 f330 := Tryz.func128.trans (congrArg some (by kernel_rfl))
 f331 := Tryz.func143.trans (congrArg some (by kernel_rfl))
 f332 := Tryz.func144.trans (congrArg some (by kernel_rfl))
 f343 := Tryz.func145.trans (congrArg some (by kernel_rfl))
 t0 := Tryz.underlying0
 a0 := Tryz.isAgg0
 z0 := Tryz.sizeOf0
 v0 := Tryz.zeroValue0
 t3 := Tryz.underlying3
 a3 := Tryz.isAgg3
 z3 := Tryz.sizeOf3
 v3 := Tryz.zeroValue3
 t4 := Tryz.underlying4
 a4 := Tryz.isAgg4
 z4 := Tryz.sizeOf4
 v4 := Tryz.zeroValue4
 t5 := Tryz.underlying5
 a5 := Tryz.isAgg5
 z5 := Tryz.sizeOf5
 v5 := Tryz.zeroValue5
 t9 := Tryz.underlying9
 a9 := Tryz.isAgg9
 z9 := Tryz.sizeOf9
 v9 := Tryz.zeroValue9
 t28 := Tryz.underlying45
 a28 := Tryz.isAgg45
 z28 := Tryz.sizeOf45
 v28 := Tryz.zeroValue45
 t46 := Tryz.underlying30
 a46 := Tryz.isAgg30
 z46 := Tryz.sizeOf30
 v46 := Tryz.zeroValue30
 t51 := Tryz.underlying52
 a51 := Tryz.isAgg52
 z51 := Tryz.sizeOf52
 v51 := Tryz.zeroValue52
 t53 := Tryz.underlying22
 a53 := Tryz.isAgg22
 z53 := Tryz.sizeOf22
 v53 := Tryz.zeroValue22
 t131 := Tryz.underlying114
 a131 := Tryz.isAgg114
 z131 := Tryz.sizeOf114
 v131 := Tryz.zeroValue114
 t182 := Tryz.underlying173
 a182 := Tryz.isAgg173
 z182 := Tryz.sizeOf173
 v182 := Tryz.zeroValue173
 t183 := Tryz.underlying174
 a183 := Tryz.isAgg174
 z183 := Tryz.sizeOf174
 v183 := Tryz.zeroValue174
 t218 := Tryz.underlying183
 a218 := Tryz.isAgg183
 z218 := Tryz.sizeOf183
 v218 := Tryz.zeroValue183
 t222 := Tryz.underlying187
 a222 := Tryz.isAgg187
 z222 := Tryz.sizeOf187
 v222 := Tryz.zeroValue187
 t228 := Tryz.underlying196
 a228 := Tryz.isAgg196
 z228 := Tryz.sizeOf196
 v228 := Tryz.zeroValue196
 t229 := Tryz.underlying197
 a229 := Tryz.isAgg197
 z229 := Tryz.sizeOf197
 v229 := Tryz.zeroValue197 }
open Go.Sort Go.RowKit in
theorem Tryz.slices_Sort_int (blk off cap : Nat) (zs : List Int) (w : World) (hH : Holds (Value.int .i64) w blk off zs.toArray) (hblk : blk < w.heap.size) (hsz : zs.length < 4611686018427387904) :
 Calls Tryz.prog 101 #[.slice (some ⟨blk, off, none⟩) zs.length cap] w fun e w' =>
  e = .returned (.tuple #[]) ∧ ∃ n os, w' = grow (putRow (Value.int .i64) (Sort.ahead w n) blk off (zs.mergeSort fun x y => decide (x ≤ y)).toArray) os := Any.slices_Sort_int Tryz.lays189 blk off cap zs w hH hblk hsz
def Tryz.lays107_ren : Go.Shelf.Ren := ⟨fun | 107 => 110 | 108 => 125 | n => n, fun | 28 => 45 | 3 => 3 | 4 => 4 | 0 => 0 | n => n, fun | n => n⟩
theorem Tryz.lays107 : Go.Proofs.Lays.n107 Tryz.prog Tryz.lays107_ren := {
 mixed := by kernel_rfl
 f107 := Tryz.func110.trans (congrArg some (by kernel_rfl))
 f108 := Tryz.func125.trans (congrArg some (by kernel_rfl))
 t0 := Tryz.underlying0
 a0 := Tryz.isAgg0
 z0 := Tryz.sizeOf0
 v0 := Tryz.zeroValue0
 t3 := Tryz.underlying3
 a3 := Tryz.isAgg3
 z3 := Tryz.sizeOf3
 v3 := Tryz.zeroValue3
 t4 := Tryz.underlying4
 a4 := Tryz.isAgg4
 z4 := Tryz.sizeOf4
 v4 := Tryz.zeroValue4
 t28 := Tryz.underlying45
 a28 := Tryz.isAgg45
 z28 := Tryz.sizeOf45
 v28 := Tryz.zeroValue45 }
open Go.Lib in
/-- slices.Contains at []int: "Contains reports whether v is present in s.": IT RETURNS 'elements.contains v'; the world is as it was. ITS CALLEE slices.Index IS MET BY ITS OWN CONTRACT OFF THE SHELF (lay that first): no loop is walked here. (LAID: no walk: one application.) -/
theorem Tryz.slices_Contains_int (b off n c : Nat) (zs : List Int) (x : Int) (w : World) (hz : n ≤ zs.length) (hbig : n ≤ 9223372036854775807) (hc : ∀ j, j < zs.length → w.cell? ⟨b, off + j, none⟩ = some (.int .i64 (zs.getD j 0))) :
 Calls Tryz.prog 110 #[.slice (some ⟨b, off, none⟩) n c, .int .i64 x] w fun e w' => e = .returned (.bool ((zs.take n).contains x)) ∧ w' = w := Any.slices_Contains_int Tryz.lays107 b off n c zs x w hz hbig hc
open Go.Lib in
/-- The same at a slice of length 0, a nil one too. (LAID: no walk: one application.) -/
theorem Tryz.slices_Contains_int_empty (a : Option Addr) (c : Nat) (x : Int) (w : World) :
 Calls Tryz.prog 110 #[.slice a 0 c, .int .i64 x] w fun e w' => e = .returned (.bool false) ∧ w' = w := Any.slices_Contains_int_empty Tryz.lays107 a c x w
def Tryz.laysNm220_ren : Go.Shelf.Ren := ⟨fun | 20 => 102 | n => n, fun | 22 => 45 | 3 => 3 | 4 => 4 | 0 => 0 | n => n, fun | n => n⟩
theorem Tryz.laysNm220 : Go.Proofs.Lays2.n20 Tryz.prog Tryz.laysNm220_ren := {
 mixed := by kernel_rfl
 f20 := Tryz.func102.trans (congrArg some (by kernel_rfl))
 t0 := Tryz.underlying0
 a0 := Tryz.isAgg0
 z0 := Tryz.sizeOf0
 v0 := Tryz.zeroValue0
 t3 := Tryz.underlying3
 a3 := Tryz.isAgg3
 z3 := Tryz.sizeOf3
 v3 := Tryz.zeroValue3
 t4 := Tryz.underlying4
 a4 := Tryz.isAgg4
 z4 := Tryz.sizeOf4
 v4 := Tryz.zeroValue4
 t22 := Tryz.underlying45
 a22 := Tryz.isAgg45
 z22 := Tryz.sizeOf45
 v22 := Tryz.zeroValue45
 i3 := by kernel_rfl }
open Go.RowKit Go.Lib Go.Sort in
/-- slices.Compact at []int: "Compact replaces consecutive runs of equal elements with a single copy. This is like the uniq command found on Unix. Compact modifies the contents of the slice s and returns the modified slice, which may have a smaller length. Compact zeroes the elements between the new length and the original length. The result preserves the nilness of s.": IT RETURNS THE SLICE CUT TO 'Lib.compact zs'; ITS CELLS HOLD 'Lib.compact zs', THEN ZERO VALUES up to the old length; all else is as it was, but for the count of draws. IN THE WORDS OF slices.Sort's CONTRACT ('Holds', 'putRow'): so the everyday 'slices.Sort(xs); xs = slices.Compact(xs)' goes from the one contract to the other. It asks 'zs.length ≤ cap' (every slice's: the reslicing 's[:k]' looks at it). Length 0, nil: '.._empty'. (LAID: no walk: one application.) -/
theorem Tryz.slices_Compact_int (blk off cap : Nat) (zs : List Int) (w : World) (hH : Holds (Value.int .i64) w blk off zs.toArray) (hsz : zs.length ≤ 9223372036854775807) (hcap : zs.length ≤ cap) :
 Calls Tryz.prog 102 #[.slice (some ⟨blk, off, none⟩) zs.length cap] w fun e w' => e = .returned (.slice (some ⟨blk, off, none⟩) (Lib.compact zs).length cap) ∧ ∃ q, w' = putRow (Value.int .i64) (Sort.ahead w q) blk off (Lib.compact zs ++ List.replicate (zs.length - (Lib.compact zs).length) 0).toArray := Any.slices_Compact_int Tryz.laysNm220 blk off cap zs w hH hsz hcap
open Go.RowKit Go.Lib Go.Sort in
/-- The same at a slice of length 0, a nil one too: it comes back as it is. (LAID: no walk: one application.) -/
theorem Tryz.slices_Compact_int_empty (a : Option Addr) (cap : Nat) (w : World) :
 Calls Tryz.prog 102 #[.slice a 0 cap] w fun e w' => e = .returned (.slice a 0 cap) ∧ w' = w := Any.slices_Compact_int_empty Tryz.laysNm220 a cap w
open Go.RowKit Go.Sort in
/-- .. and plain. (LAID: no walk: one application.) -/
theorem Tryz.slices_Sort_int_none (p : Option Addr) (cap : Nat) (w : World) :
 Calls Tryz.prog 101 #[.slice p 0 cap] w fun e w' => e = .returned (.tuple #[]) ∧ w' = w := Any.slices_Sort_int_none Tryz.lays189 p cap w
end Go.Proofs
namespace Go.Proofs.YtjmpekanlmepmaaGreatDoor
open Go.RowKit
/-- A goal at which the walk is to stand still: 'go_wp2_with (at_builtin; refine halt ?_)', then 'refine unhalt ?_'. -/
def Halt (p : Prop) : Prop := p
theorem halt {p : Prop} (h : Halt p) : p := h
theorem unhalt {p : Prop} (h : p) : Halt p := h
/-- Block b holds just these cells, none of them frozen. -/
def Blk (w : World) (b : Nat) (t : TypeId) (cs : Array Value) : Prop := w.heap[b]? = some (.cells cs t (0, 0))
section
variable {w w' : World} {b : Nat} {t : TypeId} {cs : Array Value}
theorem Blk.lt (h : Blk w b t cs) : b < w.heap.size := by
 by_cases hb : b < w.heap.size
 · exact hb
 · unfold Blk at h
   rw [Array.getElem?_eq_none (by omega)] at h
   exact absurd h (by simp)
theorem Blk.cell (h : Blk w b t cs) : ∀ i, w.cell? ⟨b, i, none⟩ = cs[i]? := fun i => cell_of_row w b i cs t (0, 0) h
theorem Blk.free (h : Blk w b t cs) : ∀ i, w.frozen? ⟨b, i, none⟩ = false := fun i => frozen_of_row w b i cs t h
theorem Blk.made (w : World) (t : TypeId) (cs : Array Value) : Blk (w.alloc (.cells cs t)) w.heap.size t cs := heap_alloc_new w _
theorem Blk.made' {n : Nat} (hn : n = w.heap.size) : Blk (w.alloc (.cells cs t)) n t cs := by subst hn; exact Blk.made w t cs
theorem Blk.alloc (h : Blk w b t cs) (o : Obj) : Blk (w.alloc o) b t cs := (Below.heap_alloc w o b h.lt).trans h
theorem Blk.drew (h : Blk w b t cs) : Blk w.drew b t cs := h
theorem Blk.put (h : Blk w b t cs) (i : Nat) (v : Value) : Blk (w.setCell ⟨b, i, none⟩ v) b t (cs.setIfInBounds i v) := heap_setCell_same w b i cs t v h
theorem Blk.aside (h : Blk w b t cs) {p : Addr} (hp : b ≠ p.block) (v : Value) : Blk (w.setCell p v) b t cs := (heap_setCell_other w p b v hp).trans h
theorem Blk.below {B : Nat} (h : Blk w b t cs) (hb : Below B w w') (hlt : b < B) : Blk w' b t cs := (hb.block b hlt).trans h
theorem Blk.kept (h : Blk w b t cs) (hb : Below w.heap.size w w') : Blk w' b t cs := h.below hb h.lt
theorem Blk.grown {row : Option Nat} (h : Blk w b t cs) (hg : w.grownBy w' row) (hr : some b ≠ row) : Blk w' b t cs := (hg.block b h.lt hr).trans h
end
/-- What lay below a mark reads as it did: two rules for the walk. -/
theorem below_rules {w w1 : World} (hb : Below w.heap.size w w1) : (∀ b o, b < w.heap.size → w1.cell? ⟨b, o, none⟩ = w.cell? ⟨b, o, none⟩) ∧ (∀ b o, b < w.heap.size → w1.frozen? ⟨b, o, none⟩ = w.frozen? ⟨b, o, none⟩) :=
 ⟨fun b o h => hb.cell (p := ⟨b, o, none⟩) h, fun b o h => hb.frozen (p := ⟨b, o, none⟩) h⟩
theorem below_alloc {w w1 : World} (h : Below w.heap.size w w1) (o : Obj) : Below w.heap.size w (w1.alloc o) := h.alloc h.size o
theorem below_drewN {B : Nat} {w w1 : World} (h : Below B w w1) (n : Nat) : Below B w (w1.drewN n) := ⟨h.os, h.tape, h.output, h.size, h.block⟩
theorem below_step {w w1 w2 : World} (h : Below w.heap.size w w1) (h2 : Below w1.heap.size w1 w2) : Below w.heap.size w w2 := h.trans (h2.mono h.size)
/-- A function that hands back a struct (which lies in a variable) and a plain value. -/
theorem results_blk_tmp {P : Program} {fn : Func} {p u : Tmp} {ty : TypeId} (h : fn.results = #[.cell p ty, .tmp u]) (tmps : Array Value) (w : World) (g : Nat) (t : TypeId) (cs : Array Value) (d : TypeDesc)
 (hp : tmps.getD p undef = .pointer (some ⟨g, 0, none⟩)) (hg : Blk w g t cs) (hu : P.underlying ty = some d) (hd : (match d with | .struct _ | .array _ _ => true | _ => false) = true) (hi : (P.info? ty).map (·.size) = some cs.size) :
 (results fn tmps).run P w = .ok (.tuple #[.agg cs, tmps.getD u undef]) w := by
 rw [results_cell_tmp h, hp]
 simp [asAddr, run_loadVar_row w g t ty cs (0, 0) d hg hu hd hi]
theorem below_grown {w w1 w2 : World} {row : Option Nat} (h : Below w.heap.size w w1) (hg : w1.grownBy w2 row) (hr : ∀ k, row = some k → w.heap.size ≤ k) : Below w.heap.size w w2 := h.grown hg h.size hr
/-- A row of the call's own, its slice written out. -/
theorem own_cells {w : World} {base g n cap size : Nat} {e : TypeId} {xs : List Value} (h : w.ownsRow base e size (.slice (some ⟨g, 0, none⟩) n cap) n xs) : ∀ j u, xs[j]? = some u → w.cell? ⟨g, j, none⟩ = some u := by
 intro j u hu
 have hj : j < xs.length := (List.getElem?_eq_some_iff.1 hu).1
 rw [h.cellAt j (by rw [← h.1]; exact hj)]
 exact hu
theorem own_lt {w : World} {base g n cap size : Nat} {e : TypeId} {xs : List Value} (h : w.ownsRow base e size (.slice (some ⟨g, 0, none⟩) n cap) n xs) : base ≤ g ∧ g < w.heap.size := h.lt g rfl
theorem own_cap {w : World} {base g n cap size : Nat} {e : TypeId} {xs : List Value} (h : w.ownsRow base e size (.slice (some ⟨g, 0, none⟩) n cap) n xs) : n ≤ cap ∧ cap ≤ maxLen := by
 rcases h.2 with ⟨h', _⟩ | ⟨g', cap', cur, h', _, _, h1, h2, _⟩
 · simp at h'
 · simp only [Value.slice.injEq, Option.some.injEq, Addr.mk.injEq, and_true, true_and] at h'
   obtain ⟨rfl, rfl⟩ := h'
   exact ⟨h1, h2⟩
theorem own_form {w : World} {base n size : Nat} {e : TypeId} {v : Value} {xs : List Value} (h : w.ownsRow base e size v n xs) (hn : 0 < n) : ∃ g cap, v = .slice (some ⟨g, 0, none⟩) n cap := by
 rcases h.2 with ⟨_, h0⟩ | ⟨g, cap, _, hv, _⟩
 · omega
 · exact ⟨g, cap, hv⟩
/-- An append of at least one element onto a row of the call's own: the slice that comes of it is written out. -/
theorem wpList_append_mine {P : Program} {w : World} {ops : Array Oper} {rest : List Oper} {o : Oper} {a : Act} {Q : Exit → Act → World → Prop} (hgd : o.guard = none) (s x : Operand) (t : TypeId)
 (ho : o.op = .call { callee := .builtin .append, args := #[s, x], argTypes := #[t, t] })
 (base : Nat) (e : TypeId) (i : TypeInfo) (z : Value) (size bytes : Nat) (ht : P.underlying t = some (.slice e)) (hi : P.info? e = some i) (hz : i.zero = some z)
 (hsize : i.size = size) (hby : i.bytes = bytes) (hzs : z.cells.size = size) (hsz : 0 < size)
 (v : Value) (n : Nat) (xs : List Value) (hs : a.eval s = v) (hown : w.ownsRow base e size v n xs)
 (ad : Addr) (m c : Nat) (news : List Value) (hx : a.eval x = .slice (some ad) m c) (hl : news.length = m * size) (hnews : ∀ j u, news[j]? = some u → w.cell? (ad.add j) = some u) (h1 : ∀ u ∈ news, u.oneCell' = true)
 (hm : 0 < m) (h63 : n + m ≤ maxLen) (hbytes : (n + m) * bytes ≤ 140737488355328) (hbase : base ≤ w.heap.size)
 (h : ∀ g cap w', w'.ownsRow base e size (.slice (some ⟨g, 0, none⟩) (n + m) cap) (n + m) (xs ++ news) → w.grownBy w' v.ownBlock → wpList P ops Q rest (a.put o.dst (.slice (some ⟨g, 0, none⟩) (n + m) cap)) w') : wpList P ops Q (o :: rest) a w :=
 wpList_append_own w hgd s x t ho base e i z size bytes ht hi hz hsize hby hzs hsz v n xs hs hown ad m c news hx hl hnews h1 h63 hbytes hbase fun v' w' h2 h3 _ => by
  obtain ⟨g, cap, rfl⟩ := own_form h2 (by omega)
  exact h g cap w' h2 h3
theorem wp_append_mine {P : Program} {w : World} {o : Oper} {a : Act} {K : Act → World → Prop} {Q : Exit → Act → World → Prop} (s x : Operand) (t : TypeId)
 (ho : o.op = .call { callee := .builtin .append, args := #[s, x], argTypes := #[t, t] })
 (base : Nat) (e : TypeId) (i : TypeInfo) (z : Value) (size bytes : Nat) (ht : P.underlying t = some (.slice e)) (hi : P.info? e = some i) (hz : i.zero = some z)
 (hsize : i.size = size) (hby : i.bytes = bytes) (hzs : z.cells.size = size) (hsz : 0 < size)
 (v : Value) (n : Nat) (xs : List Value) (hs : a.eval s = v) (hown : w.ownsRow base e size v n xs)
 (ad : Addr) (m c : Nat) (news : List Value) (hx : a.eval x = .slice (some ad) m c) (hl : news.length = m * size) (hnews : ∀ j u, news[j]? = some u → w.cell? (ad.add j) = some u) (h1 : ∀ u ∈ news, u.oneCell' = true)
 (hm : 0 < m) (h63 : n + m ≤ maxLen) (hbytes : (n + m) * bytes ≤ 140737488355328) (hbase : base ≤ w.heap.size)
 (h : ∀ g cap w', w'.ownsRow base e size (.slice (some ⟨g, 0, none⟩) (n + m) cap) (n + m) (xs ++ news) → w.grownBy w' v.ownBlock → K (a.put o.dst (.slice (some ⟨g, 0, none⟩) (n + m) cap)) w') : o.wp P a w K Q :=
 wp_append_own w s x t ho base e i z size bytes ht hi hz hsize hby hzs hsz v n xs hs hown ad m c news hx hl hnews h1 h63 hbytes hbase fun v' w' h2 h3 _ => by
  obtain ⟨g, cap, rfl⟩ := own_form h2 (by omega)
  exact h g cap w' h2 h3
theorem one_news {w : World} {b : Nat} {u : Value} (h : w.cell? ⟨b, 0, none⟩ = some u) : ∀ j v, [u][j]? = some v → w.cell? ((⟨b, 0, none⟩ : Addr).add j) = some v := by
 intro j v hv
 match j with
 | 0 => simp at hv; subst hv; exact h
 | j + 1 => simp at hv
theorem tmod_emod_self (n k : Int) : n.tmod k % k = n % k := by
 have h := Int.mul_tdiv_add_tmod n k
 conv => rhs; rw [← h]
 rw [Int.add_emod, Int.mul_emod_right, Int.zero_add, Int.emod_emod]
theorem ret_int {k : IntKind} {a b : Int} (h : a = b) : Ending.returned (.int k a) = .returned (.int k b) := by rw [h]
theorem qN0 (w w1 : World) (h : w.heap.size < w1.heap.size := by omega) : w.heap.size < w1.heap.size := h
theorem qN1 (w w1 : World) (h : w.heap.size + 1 < w1.heap.size := by omega) : w.heap.size + 1 < w1.heap.size := h
theorem qN2 (w w1 : World) (h : w.heap.size + 1 + 1 < w1.heap.size := by omega) : w.heap.size + 1 + 1 < w1.heap.size := h
theorem qN3 (w w1 : World) (h : w.heap.size + 1 + 1 + 1 < w1.heap.size := by omega) : w.heap.size + 1 + 1 + 1 < w1.heap.size := h
theorem qL {B : Nat} {w w' : World} (h : Below B w w' := by (repeat (first | with_reducible exact Below.refl _ _ | with_reducible assumption | with_reducible refine Below.setCell ?_ (by first | (simp; done) | (simp; omega)) _ | with_reducible refine below_alloc ?_ _ | with_reducible refine below_drewN ?_ _ | with_reducible refine Below.drew ?_ | with_reducible refine below_step ?_ (by assumption)))) : Below B w w' := h
theorem qK {w : World} {b : Nat} {t : TypeId} {cs : Array Value} (h : Blk w b t cs := by (repeat (first | with_reducible exact B | with_reducible apply Blk.put | with_reducible apply Blk.alloc | (with_reducible apply Blk.aside; (case hp => first | (simp; done) | (simp; omega))) | with_reducible apply Blk.drew))) : Blk w b t cs := h
theorem qR {w w1 : World} {n : Nat} (hb : Below w.heap.size w w1) (hn : w.heap.size = n := by (try simp only [size_alloc, size_setCell, size_drew, size_drewN]); rfl) : (∀ b o, b < n → w1.cell? ⟨b, o, none⟩ = w.cell? ⟨b, o, none⟩) ∧ (∀ b o, b < n → w1.frozen? ⟨b, o, none⟩ = w.frozen? ⟨b, o, none⟩) ∧ n ≤ w1.heap.size := by
 subst hn
 exact ⟨(below_rules hb).1, (below_rules hb).2, hb.size⟩
/-- Whatever is done, its forerunners are done. -/
def Closed (ops : Array Oper) (D : Nat → Bool) : Prop := ∀ j o, ops[j]? = some o → D j = true → ∀ e ∈ o.after, Region.binds .any e = true → D e.on = true
/-- What the slots hold once their operations are done: R j v w: operation j has yielded v. C: what is known besides. -/
def Inv (ops : Array Oper) (F : (Nat → Value) → Array Value) (slot : Nat → Nat) (R : (Nat → Bool) → Nat → Value → World → Prop) (C : (Nat → Bool) → (Nat → Value) → World → Prop) (D : Nat → Bool) (a : Act) (w : World) : Prop :=
 Closed ops D ∧ ∃ u : Nat → Value, a = { tmps := F u, defers := [] } ∧ C D u w ∧ ∀ j, D j = true → R D j (u (slot j)) w
theorem and_u64_mask (k : Nat) (m x : Int) (hm : m = ((2 ^ k - 1 : Nat) : Int)) (hk : k ≤ 63) (h0 : 0 ≤ x) (h1 : x < 18446744073709551616) : bits .and .u64 x m = x % ((2 ^ k : Nat) : Int) := by
 obtain ⟨n, rfl⟩ := Int.eq_ofNat_of_zero_le h0
 have hle : 2 ^ k ≤ 2 ^ 63 := Nat.pow_le_pow_right (by omega) hk
 subst hm
 rw [u64_and_nat n (2 ^ k - 1) (by omega) (by omega), Nat.and_two_pow_sub_one_eq_mod, Int.natCast_emod]
theorem and_u64_8 (x : Int) (h0 : 0 ≤ x) (h1 : x < 18446744073709551616) : bits .and .u64 x 255 = x % 256 := and_u64_mask 8 255 x rfl (by omega) h0 h1
theorem and_u64_24 (x : Int) (h0 : 0 ≤ x) (h1 : x < 18446744073709551616) : bits .and .u64 x 16777215 = x % 16777216 := and_u64_mask 24 16777215 x rfl (by omega) h0 h1
theorem and_u32_mask (k : Nat) (m x : Int) (hm : m = ((2 ^ k - 1 : Nat) : Int)) (hk : k ≤ 31) (h0 : 0 ≤ x) (h1 : x < 4294967296) : bits .and .u32 x m = x % ((2 ^ k : Nat) : Int) := by
 obtain ⟨n, rfl⟩ := Int.eq_ofNat_of_zero_le h0
 have hle : 2 ^ k ≤ 2 ^ 31 := Nat.pow_le_pow_right (by omega) hk
 subst hm
 rw [u32_and_nat n (2 ^ k - 1) (by omega) (by omega), Nat.and_two_pow_sub_one_eq_mod, Int.natCast_emod]
theorem and_u32_8 (x : Int) (h0 : 0 ≤ x) (h1 : x < 4294967296) : bits .and .u32 x 255 = x % 256 := and_u32_mask 8 255 x rfl (by omega) h0 h1
/-- Two words that share no bit: a multiple of 2^k, and one below it. -/
theorem or_u64_join (k : Nat) (a b : Int) (ha0 : 0 ≤ a) (ha1 : a < 18446744073709551616) (hb0 : 0 ≤ b) (hb1 : b < 18446744073709551616) (ha : a % ((2 ^ k : Nat) : Int) = 0) (hb : b < ((2 ^ k : Nat) : Int)) : bits .or .u64 a b = a + b := by
 obtain ⟨n, rfl⟩ := Int.eq_ofNat_of_zero_le ha0
 obtain ⟨m, rfl⟩ := Int.eq_ofNat_of_zero_le hb0
 rw [u64_or_nat n m (by omega) (by omega), nat_join k n m (by rw [← Int.natCast_emod] at ha; omega) (by omega)]
 omega
theorem or_u64_comm (a b : Int) (ha0 : 0 ≤ a) (ha1 : a < 18446744073709551616) (hb0 : 0 ≤ b) (hb1 : b < 18446744073709551616) : bits .or .u64 a b = bits .or .u64 b a := by
 obtain ⟨n, rfl⟩ := Int.eq_ofNat_of_zero_le ha0
 obtain ⟨m, rfl⟩ := Int.eq_ofNat_of_zero_le hb0
 rw [u64_or_nat n m (by omega) (by omega), u64_or_nat m n (by omega) (by omega), Nat.or_comm]
theorem or_u64_join' (k : Nat) (a b : Int) (ha0 : 0 ≤ a) (ha1 : a < 18446744073709551616) (hb0 : 0 ≤ b) (hb1 : b < 18446744073709551616) (hb : b % ((2 ^ k : Nat) : Int) = 0) (ha : a < ((2 ^ k : Nat) : Int)) : bits .or .u64 a b = a + b := by
 rw [or_u64_comm a b ha0 ha1 hb0 hb1, or_u64_join k b a hb0 hb1 ha0 ha1 hb ha, Int.add_comm]
theorem or_u32_join (k : Nat) (a b : Int) (ha0 : 0 ≤ a) (ha1 : a < 4294967296) (hb0 : 0 ≤ b) (hb1 : b < 4294967296) (ha : a % ((2 ^ k : Nat) : Int) = 0) (hb : b < ((2 ^ k : Nat) : Int)) : bits .or .u32 a b = a + b := by
 obtain ⟨n, rfl⟩ := Int.eq_ofNat_of_zero_le ha0
 obtain ⟨m, rfl⟩ := Int.eq_ofNat_of_zero_le hb0
 rw [u32_or_nat n m (by omega) (by omega), nat_join k n m (by rw [← Int.natCast_emod] at ha; omega) (by omega)]
 omega
theorem or_u32_join' (k : Nat) (a b : Int) (ha0 : 0 ≤ a) (ha1 : a < 4294967296) (hb0 : 0 ≤ b) (hb1 : b < 4294967296) (hb : b % ((2 ^ k : Nat) : Int) = 0) (ha : a < ((2 ^ k : Nat) : Int)) : bits .or .u32 a b = a + b := by
 obtain ⟨n, rfl⟩ := Int.eq_ofNat_of_zero_le ha0
 obtain ⟨m, rfl⟩ := Int.eq_ofNat_of_zero_le hb0
 rw [u32_or_nat n m (by omega) (by omega), Nat.or_comm, nat_join k m n (by rw [← Int.natCast_emod] at hb; omega) (by omega)]
 omega
def Bt.Ptr.cells (p : Bt.Ptr) : Array Value := #[.int .i64 p.line, .int .i64 p.gen]
def Bt.Page.cells (p : Bt.Page) : Array Value := #[.int .i64 p.line, .int .u64 p.head, .int .u64 p.d0, .int .u64 p.d1, .int .u64 p.d2, .int .u64 p.d3, .int .u64 p.d4, .int .u64 p.d5, .int .u64 p.d6]
/-- A function that hands back a struct that lies in a variable. -/
theorem results_blk {P : Program} {fn : Func} {p : Tmp} {ty : TypeId} (h : fn.results = #[.cell p ty]) (tmps : Array Value) (w : World) (g : Nat) (t : TypeId) (cs : Array Value) (d : TypeDesc)
 (hp : tmps.getD p undef = .pointer (some ⟨g, 0, none⟩)) (hg : Blk w g t cs) (hu : P.underlying ty = some d) (hd : (match d with | .struct _ | .array _ _ => true | _ => false) = true) (hi : (P.info? ty).map (·.size) = some cs.size) :
 (results fn tmps).run P w = .ok (.agg cs) w := by
 have e : (results fn tmps).run P w = ((asAddr (tmps.getD p undef)).run P w).andThen fun a w₁ => (loadVar ty a).run P w₁ := by
  simp only [results, h]
  simp [Sem.run_bind, Result.andThen]
 rw [e, hp]
 simp [asAddr, Result.andThen, run_loadVar_row w g t ty cs (0, 0) d hg hu hd hi]
theorem results_b {P : Program} {fn : Func} {p : Tmp} {ty : TypeId} (h : fn.results = #[.cell p ty]) (tmps : Array Value) (w : World) (g : Nat) (t : TypeId) (cs : Array Value) (d : TypeDesc)
 (hp : tmps.getD p undef = .pointer (some ⟨g, 0, none⟩)) (hg : Blk w g t cs) (hu : P.underlying ty = some d) (hd : (match d with | .struct _ | .array _ _ => true | _ => false) = true) (hi : (P.info? ty).map (·.size) = some cs.size) :
 (results fn tmps).run P w = .ok (.agg cs) w := results_blk h tmps w g t cs d hp hg hu hd hi
/-- The same, and plain values beside it. -/
theorem results_bt {P : Program} {fn : Func} {p u : Tmp} {ty : TypeId} (h : fn.results = #[.cell p ty, .tmp u]) (tmps : Array Value) (w : World) (g : Nat) (t : TypeId) (cs : Array Value) (d : TypeDesc)
 (hp : tmps.getD p undef = .pointer (some ⟨g, 0, none⟩)) (hg : Blk w g t cs) (hu : P.underlying ty = some d) (hd : (match d with | .struct _ | .array _ _ => true | _ => false) = true) (hi : (P.info? ty).map (·.size) = some cs.size) :
 (results fn tmps).run P w = .ok (.tuple #[.agg cs, tmps.getD u undef]) w := results_blk_tmp h tmps w g t cs d hp hg hu hd hi
theorem results_btt {P : Program} {fn : Func} {p u u2 : Tmp} {ty : TypeId} (h : fn.results = #[.cell p ty, .tmp u, .tmp u2]) (tmps : Array Value) (w : World) (g : Nat) (t : TypeId) (cs : Array Value) (d : TypeDesc)
 (hp : tmps.getD p undef = .pointer (some ⟨g, 0, none⟩)) (hg : Blk w g t cs) (hu : P.underlying ty = some d) (hd : (match d with | .struct _ | .array _ _ => true | _ => false) = true) (hi : (P.info? ty).map (·.size) = some cs.size) :
 (results fn tmps).run P w = .ok (.tuple #[.agg cs, tmps.getD u undef, tmps.getD u2 undef]) w := by
 have e : (results fn tmps).run P w = ((asAddr (tmps.getD p undef)).run P w).andThen fun a w₁ => ((loadVar ty a).run P w₁).andThen fun v w₂ => .ok (.tuple #[v, tmps.getD u undef, tmps.getD u2 undef]) w₂ := by
  simp only [results, h]
  simp [Sem.run_bind, Result.andThen]
 rw [e, hp]
 simp [asAddr, Result.andThen, run_loadVar_row w g t ty cs (0, 0) d hg hu hd hi]
theorem results_ttbt {P : Program} {fn : Func} {p u u2 u3 : Tmp} {ty : TypeId} (h : fn.results = #[.tmp u, .tmp u2, .cell p ty, .tmp u3]) (tmps : Array Value) (w : World) (g : Nat) (t : TypeId) (cs : Array Value) (d : TypeDesc)
 (hp : tmps.getD p undef = .pointer (some ⟨g, 0, none⟩)) (hg : Blk w g t cs) (hu : P.underlying ty = some d) (hd : (match d with | .struct _ | .array _ _ => true | _ => false) = true) (hi : (P.info? ty).map (·.size) = some cs.size) :
 (results fn tmps).run P w = .ok (.tuple #[tmps.getD u undef, tmps.getD u2 undef, .agg cs, tmps.getD u3 undef]) w := by
 have e : (results fn tmps).run P w = ((asAddr (tmps.getD p undef)).run P w).andThen fun a w₁ => ((loadVar ty a).run P w₁).andThen fun v w₂ => .ok (.tuple #[tmps.getD u undef, tmps.getD u2 undef, v, tmps.getD u3 undef]) w₂ := by
  simp only [results, h]
  simp [Sem.run_bind, Result.andThen]
 rw [e, hp]
 simp [asAddr, Result.andThen, run_loadVar_row w g t ty cs (0, 0) d hg hu hd hi]
theorem Blk.put9 {w : World} {b : Nat} {t : TypeId} {cs : Array Value} (h : Blk w b t cs) (v0 v1 v2 v3 v4 v5 v6 v7 v8 : Value) :
 Blk (((((((((w.setCell ⟨b, 0, none⟩ v0).setCell ⟨b, 1, none⟩ v1).setCell ⟨b, 2, none⟩ v2).setCell ⟨b, 3, none⟩ v3).setCell ⟨b, 4, none⟩ v4).setCell ⟨b, 5, none⟩ v5).setCell ⟨b, 6, none⟩ v6).setCell ⟨b, 7, none⟩ v7).setCell ⟨b, 8, none⟩ v8) b t
  (((((((((cs.setIfInBounds 0 v0).setIfInBounds 1 v1).setIfInBounds 2 v2).setIfInBounds 3 v3).setIfInBounds 4 v4).setIfInBounds 5 v5).setIfInBounds 6 v6).setIfInBounds 7 v7).setIfInBounds 8 v8) :=
 ((((((((h.put 0 v0).put 1 v1).put 2 v2).put 3 v3).put 4 v4).put 5 v5).put 6 v6).put 7 v7).put 8 v8
theorem set2 (x0 x1 v0 v1 : Value) : ((#[x0, x1].setIfInBounds 0 v0).setIfInBounds 1 v1) = #[v0, v1] := by kernel_rfl
theorem set7 (x0 x1 x2 x3 x4 x5 x6 v0 v1 v2 v3 v4 v5 v6 : Value) : (((((((#[x0, x1, x2, x3, x4, x5, x6].setIfInBounds 0 v0).setIfInBounds 1 v1).setIfInBounds 2 v2).setIfInBounds 3 v3).setIfInBounds 4 v4).setIfInBounds 5 v5).setIfInBounds 6 v6) = #[v0, v1, v2, v3, v4, v5, v6] := by kernel_rfl
theorem set9 (x0 x1 x2 x3 x4 x5 x6 x7 x8 v0 v1 v2 v3 v4 v5 v6 v7 v8 : Value) : (((((((((#[x0, x1, x2, x3, x4, x5, x6, x7, x8].setIfInBounds 0 v0).setIfInBounds 1 v1).setIfInBounds 2 v2).setIfInBounds 3 v3).setIfInBounds 4 v4).setIfInBounds 5 v5).setIfInBounds 6 v6).setIfInBounds 7 v7).setIfInBounds 8 v8) = #[v0, v1, v2, v3, v4, v5, v6, v7, v8] := by kernel_rfl
theorem set16 (x0 x1 x2 x3 x4 x5 x6 x7 x8 x9 x10 x11 x12 x13 x14 x15 v0 v1 v2 v3 v4 v5 v6 v7 v8 v9 v10 v11 v12 v13 v14 v15 : Value) : ((((((((((((((((#[x0, x1, x2, x3, x4, x5, x6, x7, x8, x9, x10, x11, x12, x13, x14, x15].setIfInBounds 0 v0).setIfInBounds 1 v1).setIfInBounds 2 v2).setIfInBounds 3 v3).setIfInBounds 4 v4).setIfInBounds 5 v5).setIfInBounds 6 v6).setIfInBounds 7 v7).setIfInBounds 8 v8).setIfInBounds 9 v9).setIfInBounds 10 v10).setIfInBounds 11 v11).setIfInBounds 12 v12).setIfInBounds 13 v13).setIfInBounds 14 v14).setIfInBounds 15 v15) = #[v0, v1, v2, v3, v4, v5, v6, v7, v8, v9, v10, v11, v12, v13, v14, v15] := by kernel_rfl
theorem Blk.cast {w : World} {b : Nat} {t : TypeId} {cs cs' : Array Value} (h : Blk w b t cs) (e : cs = cs') : Blk w b t cs' := e ▸ h
theorem Blk.data7 {w : World} {b : Nat} {t : TypeId} {x0 x1 x2 x3 x4 x5 x6 x7 x8 : Value} (h : Blk w b t #[x0, x1, x2, x3, x4, x5, x6, x7, x8]) (v2 v3 v4 v5 v6 v7 v8 : Value) : Blk (((((((w.setCell ⟨b, 2, none⟩ v2).setCell ⟨b, 3, none⟩ v3).setCell ⟨b, 4, none⟩ v4).setCell ⟨b, 5, none⟩ v5).setCell ⟨b, 6, none⟩ v6).setCell ⟨b, 7, none⟩ v7).setCell ⟨b, 8, none⟩ v8) b t #[x0, x1, v2, v3, v4, v5, v6, v7, v8] := Blk.cast (((((((h.put 2 v2).put 3 v3).put 4 v4).put 5 v5).put 6 v6).put 7 v7).put 8 v8) (by kernel_rfl)
theorem Blk.all9 {w : World} {b : Nat} {t : TypeId} {x0 x1 x2 x3 x4 x5 x6 x7 x8 : Value} (h : Blk w b t #[x0, x1, x2, x3, x4, x5, x6, x7, x8]) (v0 v1 v2 v3 v4 v5 v6 v7 v8 : Value) : Blk (((((((((w.setCell ⟨b, 0, none⟩ v0).setCell ⟨b, 1, none⟩ v1).setCell ⟨b, 2, none⟩ v2).setCell ⟨b, 3, none⟩ v3).setCell ⟨b, 4, none⟩ v4).setCell ⟨b, 5, none⟩ v5).setCell ⟨b, 6, none⟩ v6).setCell ⟨b, 7, none⟩ v7).setCell ⟨b, 8, none⟩ v8) b t #[v0, v1, v2, v3, v4, v5, v6, v7, v8] := Blk.cast (((((((((h.put 0 v0).put 1 v1).put 2 v2).put 3 v3).put 4 v4).put 5 v5).put 6 v6).put 7 v7).put 8 v8) (by kernel_rfl)
theorem Blk.all2 {w : World} {b : Nat} {t : TypeId} {x0 x1 : Value} (h : Blk w b t #[x0, x1]) (v0 v1 : Value) : Blk ((w.setCell ⟨b, 0, none⟩ v0).setCell ⟨b, 1, none⟩ v1) b t #[v0, v1] := Blk.cast ((h.put 0 v0).put 1 v1) (by kernel_rfl)
section
variable (w : World) {t t' t2 : TypeId} {cs cs' cs2 : Array Value} {o o2 : Obj}
theorem made1 : Blk (w.alloc (.cells cs t)) w.heap.size t cs := Blk.made w t cs
theorem made12 : Blk ((w.alloc (.cells cs t)).alloc o) w.heap.size t cs := (Blk.made w t cs).alloc _
theorem made22 : Blk ((w.alloc o).alloc (.cells cs t)) (w.heap.size + 1) t cs := Blk.made' (by simp)
theorem made13 : Blk (((w.alloc (.cells cs t)).alloc o).alloc o2) w.heap.size t cs := ((Blk.made w t cs).alloc _).alloc _
theorem made23 : Blk (((w.alloc o).alloc (.cells cs t)).alloc o2) (w.heap.size + 1) t cs := (Blk.made' (by simp)).alloc _
theorem made33 : Blk (((w.alloc o).alloc o2).alloc (.cells cs t)) (w.heap.size + 1 + 1) t cs := Blk.made' (by simp)
theorem made44 {o3 : Obj} : Blk ((((w.alloc o).alloc o2).alloc o3).alloc (.cells cs t)) (w.heap.size + 1 + 1 + 1) t cs := Blk.made' (by simp)
end
theorem size_alloc (w : World) (o : Obj) : (w.alloc o).heap.size = w.heap.size + 1 := by simp
theorem size_setCell (w : World) (p : Addr) (v : Value) : (w.setCell p v).heap.size = w.heap.size := by simp [World.setCell]
theorem size_drew (w : World) : w.drew.heap.size = w.heap.size := rfl
theorem size_drewN (w : World) (n : Nat) : (w.drewN n).heap.size = w.heap.size := rfl
/-- What a region that draws its order may load, whatever has been done: what stood in w1 stands (but for block r). -/
structure SteadyAll (w1 wx : World) : Prop where
 rule : ∀ b o, b < w1.heap.size → wx.cell? ⟨b, o, none⟩ = w1.cell? ⟨b, o, none⟩
structure SteadyBut (r : Nat) (w1 wx : World) : Prop where
 rule : ∀ b o, b < w1.heap.size → (b < r ∨ r < b) → wx.cell? ⟨b, o, none⟩ = w1.cell? ⟨b, o, none⟩
theorem SteadyAll.of {w1 wx : World} (h : Below w1.heap.size w1 wx) : SteadyAll w1 wx := ⟨fun b o hb => h.cell (p := ⟨b, o, none⟩) hb⟩
theorem SteadyBut.of {r : Nat} {w1 wx : World} (h : Below w1.heap.size w1 wx) : SteadyBut r w1 wx := ⟨fun b o hb _ => h.cell (p := ⟨b, o, none⟩) hb⟩
theorem SteadyBut.set {r : Nat} {w1 wx : World} (h : SteadyBut r w1 wx) (i : Nat) (v : Value) : SteadyBut r w1 (wx.setCell ⟨r, i, none⟩ v) :=
 ⟨fun b o hb hr => by rw [World.cell?_setCell_other _ _ _ _ (by intro e; injection e with e1; omega)]; exact h.rule b o hb hr⟩
section
variable {P : Program} {ops : Array Oper} {Q : Exit → Act → World → Prop} {md : Region.Mode} {S : World → Prop}
/-- May these operations be taken first, one behind the other? -/
def takeable (md : Region.Mode) (ops : Array Oper) : Array Bool → List Nat → Bool
 | _, [] => true
 | l, i :: is => Region.free md ops l i && (Region.ready md ops l).contains i && takeable md ops (l.setIfInBounds i true) is
def TakeSeq (P : Program) (md : Region.Mode) (ops : Array Oper) (Q : Exit → Act → World → Prop) (S : World → Prop) (fuel : Nat) : List Nat → Array Bool → Act → World → Prop
 | [], l, a, w => wpAnyH P md ops Q S fuel l a w
 | i :: is, l, a, w => ∃ o v, ops[i]? = some o ∧ YieldsIf P ops S o v a ∧ TakeSeq P md ops Q S fuel is (l.setIfInBounds i true) (a.put o.dst v) w
theorem TakeSeq.step {fuel i : Nat} {is : List Nat} {l : Array Bool} {a : Act} {w : World} {o : Oper} {v : Value} (ho : ops[i]? = some o) (hy : YieldsIf P ops S o v a)
 (h : TakeSeq P md ops Q S fuel is (l.setIfInBounds i true) (a.put o.dst v) w) : TakeSeq P md ops Q S fuel (i :: is) l a w := ⟨o, v, ho, hy, h⟩
theorem TakeSeq.done {fuel : Nat} {l : Array Bool} {a : Act} {w : World} (h : wpAnyH P md ops Q S fuel l a w) : TakeSeq P md ops Q S fuel [] l a w := h
theorem wpAnyH_seq {is : List Nat} {fuel : Nat} {l : Array Bool} {a : Act} {w : World} (hs : Region.noSelect ops = true) (ht : takeable md ops l is = true)
 (hQ : ∀ c a d v w, Q (.panic c) (a.put d v) w → Q (.panic c) a w) (hS : S w) (h : TakeSeq P md ops Q S fuel is l a w) : wpAnyH P md ops Q S (fuel + is.length) l a w := by
 induction is generalizing l a with
 | nil => exact h
 | cons i is ih =>
   obtain ⟨o, v, ho, hy, h2⟩ := h
   simp only [takeable, Bool.and_eq_true] at ht
   exact wpAnyH_take ho hs ht.1.1 ht.1.2 (fun c a w => hQ c a o.dst v w) hy hS (ih ht.2 h2)
end
theorem qY {α : Type} : (∀ (l : List α) (i : Nat) (a : α), l.toArray.setIfInBounds i a = (l.set i a).toArray) ∧ (∀ (a b : α) (l : List α), (a :: l).set 0 b = b :: l) ∧ (∀ (a b : α) (l : List α) (n : Nat), (a :: l).set (n + 1) b = a :: l.set n b) ∧
 (∀ (l : List α) (i : Nat) (h : i < l.toArray.size), l.toArray[i] = l[i]'(by simpa using h)) ∧ (∀ (a : α) (l : List α) (h : 0 < (a :: l).length), (a :: l)[0] = a) ∧ (∀ (a : α) (l : List α) (i : Nat) (h : i + 1 < (a :: l).length), (a :: l)[i + 1] = l[i]'(by simpa using h)) :=
 ⟨fun _ _ _ => List.setIfInBounds_toArray .., fun _ _ _ => rfl, fun _ _ _ _ => rfl, fun _ _ _ => rfl, fun _ _ _ => rfl, fun _ _ _ _ => rfl⟩
section
variable {P : Program} {ops : Array Oper} {Q : Exit → Act → World → Prop} {md : Region.Mode} {S : World → Prop}
theorem qT {fuel i : Nat} {is : List Nat} {l : Array Bool} {a : Act} {w : World} {o : Oper} {v : Value} (h : TakeSeq P md ops Q S fuel is (l.setIfInBounds i true) (a.put o.dst v) w) (ho : ops[i]? = some o := by rfl) (hy : YieldsIf P ops S o v a := by first | exact Or.inr ⟨by rfl, rfl⟩ | (refine Or.inl ⟨by rfl, ?_⟩; intro wq hSq; have hrd := hSq.rule; go_simp; with_reducible rfl)) : TakeSeq P md ops Q S fuel (i :: is) l a w := .step ho hy h
theorem qS (is : List Nat) {fuel : Nat} {l : Array Bool} {a : Act} {w : World} (h : TakeSeq P md ops Q S fuel is l a w) (hs : Region.noSelect ops = true := by kernel_rfl) (ht : takeable md ops l is = true := by kernel_rfl)
 (hQ : ∀ c a d v w, Q (.panic c) (a.put d v) w → Q (.panic c) a w := by (intro _ _ d _ _ h; cases d <;> exact h)) (hS : S w := by assumption) : wpAnyH P md ops Q S (fuel + is.length) l a w := wpAnyH_seq hs ht hQ hS h
theorem qH (i : Nat) {fuel : Nat} {listed : Array Bool} {a : Act} {w : World} {o : Oper} (h : ∀ K' : Act → World → Prop, Shut (∀ a w, S w → (S w → wpAnyH P md ops Q S fuel (listed.setIfInBounds i true) a w) → K' a w) → Oper.wp P o a w K' Q)
 (hr : Region.ready md ops listed = [i] := by kernel_rfl) (ho : ops[i]? = some o := by rfl) (hw : Region.wanted o (yielded ops a.tmps) = true := by rfl) : wpAnyH P md ops Q S (fuel + 1) listed a w :=
 wpAnyH_ready hr (by simp) (AllReadyH.cons ho (fun K hK => by rw [if_pos hw]; exact h K hK) AllReadyH.nil)
theorem qD {listed : Array Bool} {a : Act} {w : World} (h : Q .normal a w) (fuel : Nat) (hr : Region.ready md ops listed = [] := by kernel_rfl) : wpAnyH P md ops Q S fuel listed a w := wpAnyH_done hr h fuel
theorem qA {id : Nat} {a : Act} {w : World} (h : SteadyAll w w.drew → wpAnyH P .any ops Q (SteadyAll w) ops.size (Array.replicate ops.size false) a w.drew) (hm : P.follows .mixedOrders = true := by kernel_rfl) : (Code.region id ops true).wp P Q a w := wp_region_held_drew hm (SteadyAll.of (Below.refl _ _).drew) h
theorem qB (r : Nat) {id : Nat} {a : Act} {w : World} (h : SteadyBut r w w.drew → wpAnyH P .any ops Q (SteadyBut r w) ops.size (Array.replicate ops.size false) a w.drew) (hm : P.follows .mixedOrders = true := by kernel_rfl) : (Code.region id ops true).wp P Q a w := wp_region_held_drew hm (SteadyBut.of (Below.refl _ _).drew) h
end
theorem qE {r : Nat} {w1 wx : World} (h : SteadyBut r w1 wx := by repeat (first | with_reducible refine SteadyBut.set ?_ _ _ | exact SteadyBut.of qL)) : SteadyBut r w1 wx := h
theorem ret_bool {a b : Bool} (h : a = b) : Ending.returned (.bool a) = .returned (.bool b) := by rw [h]
theorem inHeap_any (l : Int) (w : World) : Calls Tryz.prog 100 #[.int .i64 l] w fun e w' => e = .returned (.bool (Bt.inHeap l)) ∧ w = w' := by
 go_enter Tryz.func100, Tryz.ntmps100
 go_wp2
 all_goals go_ret
 · have h : 104 ≤ l := by assumption
   exact ⟨ret_bool (by simp [Bt.inHeap, h]), rfl⟩
 · have h : l < 104 := by assumption
   exact ⟨ret_bool (by simp [Bt.inHeap]; omega), rfl⟩
theorem Valid_any (l g : Int) (w : World) : Calls Tryz.prog 75 #[.agg #[.int .i64 l, .int .i64 g]] w fun e w' => e = .returned (.bool (Bt.validP ⟨l, g⟩)) ∧ Below w.heap.size w w' := by
 rcases hin : Bt.inHeap l with _ | _
 all_goals
  have Hin := Lib.hid hin
  clear hin
  go_enter Tryz.func75, Tryz.ntmps75
  go_wp2_with (go_at_call 100; refine (inHeap_any _ _).mono ?_; rintro e w' ⟨rfl, rfl⟩; rw [Hin.out])
  all_goals go_ret
 · exact ⟨ret_bool (by simp [Bt.validP, Hin.out]), below_alloc (Below.refl _ _) _⟩
 · have h : 1 ≤ g := by assumption
   exact ⟨ret_bool (by simp [Bt.validP, Hin.out, h]), below_alloc (Below.refl _ _) _⟩
 · have h : g < 1 := by assumption
   refine ⟨ret_bool ?_, below_alloc (Below.refl _ _) _⟩
   have h' : ¬ (1 ≤ g) := by omega
   simp [Bt.validP, Hin.out, h']
theorem UnpackTag_any (x : Int) (h0 : 0 ≤ x) (h1 : x < 18446744073709551616) (w : World) : Calls Tryz.prog 62 #[.int .u64 x] w
 fun e w' => e = .returned (.agg #[.int .i64 (Bt.tagKind x), .int .i64 (Bt.tagGen x), .int .u32 (Bt.tagAux x)]) ∧ Below w.heap.size w w' := by
 have e1 := and_u64_8 x h0 h1
 have e2 := and_u64_24 (x / 256) (by omega) (by omega)
 go_enter Tryz.func62, Tryz.ntmps62
 go_wp2
 refine bodyPost_ret (results_blk rfl _ _ w.heap.size 122 _ _ rfl (Blk.made _ _ _) Tryz.underlying122 rfl (by kernel_rfl)) rfl ⟨rfl, below_alloc (Below.refl _ _) _⟩
theorem Pack_any (l g : Int) (w : World) : Calls Tryz.prog 44 #[.agg #[.int .i64 l, .int .i64 g]] w fun e w' => e = .returned (.int .u32 (Bt.pack ⟨l, g⟩)) ∧ Below w.heap.size w w' := by
 rcases hin : Bt.validP ⟨l, g⟩ with _ | _
 · have Hin := Lib.hid hin
   clear hin
   go_enter Tryz.func44, Tryz.ntmps44
   go_wp2_with (go_at_call 75; refine (Valid_any _ _ _).mono ?_; rintro e w1 ⟨rfl, hb⟩; rw [Hin.out])
   all_goals go_ret
   exact ⟨ret_int (by simp [Bt.pack, Hin.out]), below_step (below_alloc (Below.refl _ _) _) hb⟩
 · have Hin := Lib.hid hin
   have hv : 104 ≤ l ∧ l < 256 ∧ 1 ≤ g ∧ g ≤ 16777215 := by
    simp [Bt.validP, Bt.inHeap] at hin
    omega
   clear hin
   go_enter Tryz.func44, Tryz.ntmps44
   go_wp2_with fail
   go_at_call 75
   refine (Valid_any _ _ _).mono ?_
   rintro e w1 ⟨rfl, hb⟩
   have B1 := (Blk.made w 27 #[.int .i64 l, .int .i64 g]).kept hb
   have k1 := B1.cell
   rw [Hin.out]
   have eb := or_u32_join 8 (g * 256) l (by omega) (by omega) (by omega) (by omega) (by omega) (by omega)
   go_wp2
   go_ret
   exact ⟨ret_int (by simp [Bt.pack, Hin.out]), below_step (below_alloc (Below.refl _ _) _) hb⟩
theorem ret_u64 {a b : Int} (h : a = b) : Ending.returned (.int .u64 a) = .returned (.int .u64 b) := by rw [h]
theorem PackTag_any (k g a : Int) (hk : -9223372036854775808 ≤ k ∧ k ≤ 9223372036854775807) (hg : -9223372036854775808 ≤ g ∧ g ≤ 9223372036854775807) (ha : 0 ≤ a ∧ a < 4294967296) (w : World) :
 Calls Tryz.prog 99 #[.agg #[.int .i64 k, .int .i64 g, .int .u32 a]] w fun e w' => e = .returned (.int .u64 (Bt.packTag k g a)) ∧ Below w.heap.size w w' := by
 have hk8 : IntKind.u64.wrap k % 256 = k % 256 := by rw [IntKind.wrap_u64]; omega
 have hg24 : IntKind.u64.wrap g % 16777216 = g % 16777216 := by rw [IntKind.wrap_u64]; omega
 have e1 := and_u64_8 (IntKind.u64.wrap k) (by rw [IntKind.wrap_u64]; omega) (by rw [IntKind.wrap_u64]; omega)
 have e2 := and_u64_24 (IntKind.u64.wrap g) (by rw [IntKind.wrap_u64]; omega) (by rw [IntKind.wrap_u64]; omega)
 rw [hk8] at e1
 rw [hg24] at e2
 have e3 := or_u64_join' 8 (k % 256) (g % 16777216 * 256) (by omega) (by omega) (by omega) (by omega) (by omega) (by omega)
 have e4 := or_u64_join' 32 (k % 256 + g % 16777216 * 256) (a * 4294967296) (by omega) (by omega) (by omega) (by omega) (by omega) (by omega)
 clear hk8 hg24
 go_enter Tryz.func99, Tryz.ntmps99
 go_wp2
 go_ret
 exact ⟨ret_u64 (by simp [Bt.packTag]), qL⟩
theorem tagOf_any (p : Bt.Page) (hp : p.Ok) (w : World) :
 Calls Tryz.prog 66 #[.agg p.cells] w fun e w' => e = .returned (.agg #[.int .i64 (Bt.tagKind p.d0), .int .i64 (Bt.tagGen p.d0), .int .u32 (Bt.tagAux p.d0)]) ∧ Below w.heap.size w w' := by
 unfold Bt.Page.cells
 have h0 := hp.d0
 go_enter Tryz.func66, Tryz.ntmps66
 go_wp2_with fail
 go_at_call 62
 refine (UnpackTag_any p.d0 h0.1 h0.2 _).mono ?_
 rintro e w1 ⟨rfl, hb⟩
 have B2 := (made22 w).kept hb
 have k2 := B2.cell
 have f2 := B2.free
 go_wp2
 exact bodyPost_ret (results_blk rfl _ _ (w.heap.size + 1) 122 _ _ rfl (((B2.put 0 _).put 1 _).put 2 _) Tryz.underlying122 rfl (by kernel_rfl)) rfl ⟨rfl, qL⟩
theorem Locked_any (p : Bt.Page) (hp : p.Ok) (w : World) : Calls Tryz.prog 80 #[.agg p.cells] w fun e w' => e = .returned (.bool (Bt.locked p)) ∧ Below w.heap.size w w' := by
 unfold Bt.Page.cells
 have h0 := hp.head
 have e1 := and_u64_8 p.head h0.1 h0.2
 go_enter Tryz.func80, Tryz.ntmps80
 go_wp2
 go_ret
 refine ⟨ret_bool ?_, qL⟩
 unfold Bt.locked bne
 congr 1
/-- A slice that reads as a list of pages. -/
structure PgRow (w : World) (v : Value) (l : List Bt.Page) : Prop where
 ok : ∀ p ∈ l, p.Ok
 len : l.length ≤ maxLen
 form : (v = .slice none 0 0 ∧ l = []) ∨ ∃ b cap, v = .slice (some ⟨b, 0, none⟩) l.length cap ∧ b < w.heap.size ∧ ∀ (i : Nat) (p : Bt.Page), l[i]? = some p → ∀ (j : Nat) (u : Value), p.cells[j]? = some u → w.cell? ⟨b, i * 9 + j, none⟩ = some u
theorem PgRow.kept {w w' : World} {v : Value} {l : List Bt.Page} {B : Nat} (h : PgRow w v l) (hb : Below B w w') (hB : ∀ b n c, v = .slice (some ⟨b, 0, none⟩) n c → b < B) : PgRow w' v l := by
 refine ⟨h.ok, h.len, ?_⟩
 rcases h.form with h1 | ⟨b, cap, hv, hlt, hcells⟩
 · exact .inl h1
 · exact .inr ⟨b, cap, hv, Nat.lt_of_lt_of_le hlt hb.size, fun i p hi j u hu => by rw [hb.cell (p := ⟨b, i * 9 + j, none⟩) (hB b _ _ hv)]; exact hcells i p hi j u hu⟩
theorem PgRow.below {w w' : World} {v : Value} {l : List Bt.Page} (h : PgRow w v l) (hb : Below w.heap.size w w') : PgRow w' v l := by
 refine h.kept hb fun b n c hv => ?_
 rcases h.form with ⟨h1, _⟩ | ⟨b', cap, hv', hlt, _⟩
 · rw [hv] at h1; simp at h1
 · rw [hv] at hv'; simp at hv'; omega
theorem Unpack_any (x : Int) (h0 : 0 ≤ x) (h1 : x < 4294967296) (w : World) : Calls Tryz.prog 40 #[.int .u32 x] w
 fun e w' => e = .returned (.agg #[.int .i64 (x % 256), .int .i64 (x / 256)]) ∧ Below w.heap.size w w' := by
 have e1 := and_u32_8 x h0 h1
 go_enter Tryz.func40, Tryz.ntmps40
 go_wp2
 refine bodyPost_ret (results_blk rfl _ _ w.heap.size 27 _ _ rfl (Blk.made _ _ _) Tryz.underlying27 rfl (by kernel_rfl)) rfl ⟨rfl, below_alloc (Below.refl _ _) _⟩
theorem latest_yes (known : List Bt.Page) (line : Int) (k : Nat) (h : k < known.length) (he : known[k].line = line) : Bt.latest (known.take (k + 1)) line = some known[k] := by
 unfold Bt.latest
 rw [List.take_succ_eq_append_getElem h, List.reverse_append]
 simp [he]
theorem latest_no (known : List Bt.Page) (line : Int) (k : Nat) (h : k < known.length) (he : ¬ known[k].line = line) : Bt.latest (known.take (k + 1)) line = Bt.latest (known.take k) line := by
 unfold Bt.latest
 rw [List.take_succ_eq_append_getElem h, List.reverse_append]
 simp [he]
/-- What is known of page k, in the walk's words. -/
theorem page_cells {w : World} {b : Nat} {known : List Bt.Page} (hcells : ∀ (i : Nat) (p : Bt.Page), known[i]? = some p → ∀ (j : Nat) (u : Value), p.cells[j]? = some u → w.cell? ⟨b, i * 9 + j, none⟩ = some u) (k : Nat) (h : k < known.length) :
 w.rangeAt b (k * 9) known[k].cells.toList := fun j u hu => hcells k known[k] (List.getElem?_eq_getElem h) j u (by simpa using hu)
theorem nine {w : World} {b k : Nat} {p : Bt.Page} (h : w.rangeAt b (k * 9) p.cells.toList) :
 w.cell? ⟨b, k * 9, none⟩ = some (.int .i64 p.line) ∧ w.cell? ⟨b, k * 9 + 1, none⟩ = some (.int .u64 p.head) ∧ w.cell? ⟨b, k * 9 + 2, none⟩ = some (.int .u64 p.d0) ∧
 w.cell? ⟨b, k * 9 + 3, none⟩ = some (.int .u64 p.d1) ∧ w.cell? ⟨b, k * 9 + 4, none⟩ = some (.int .u64 p.d2) ∧ w.cell? ⟨b, k * 9 + 5, none⟩ = some (.int .u64 p.d3) ∧
 w.cell? ⟨b, k * 9 + 6, none⟩ = some (.int .u64 p.d4) ∧ w.cell? ⟨b, k * 9 + 7, none⟩ = some (.int .u64 p.d5) ∧ w.cell? ⟨b, k * 9 + 8, none⟩ = some (.int .u64 p.d6) :=
 ⟨h 0 _ rfl, h 1 _ rfl, h 2 _ rfl, h 3 _ rfl, h 4 _ rfl, h 5 _ rfl, h 6 _ rfl, h 7 _ rfl, h 8 _ rfl⟩
theorem Latest_any (known : List Bt.Page) (v : Value) (line : Int) (w : World) (hk : PgRow w v known) : Calls Tryz.prog 78 #[v, .int .i64 line] w
 fun e w' => e = .returned (.tuple #[.agg ((Bt.latest known line).getD Bt.zeroPage).cells, .bool (Bt.latest known line).isSome]) ∧ Below w.heap.size w w' := by
 rcases hk.form with ⟨rfl, rfl⟩ | ⟨b, cap, rfl, hlt, hcells⟩
 · go_enter Tryz.func78, Tryz.ntmps78
   go_wp2
   refine wp_loop_rounds 1 ?_
   rw [rounds_succ]
   go_wp2
   simp [bodyPost, results, Tryz.results78, go_sem]
   exact ⟨⟨rfl, rfl⟩, qL⟩
 · have hlen := hk.len
   unfold maxLen at hlen
   have Hc := Lib.hid hcells
   clear hcells
   go_enter Tryz.func78, Tryz.ntmps78
   go_wp2
   go_loop [6] (fun i => ∃ k : Nat, k ≤ known.length ∧ i = .int .i64 ((k : Int) - 1) ∧ Hid (Bt.latest (known.take k) line = Bt.latest known line)) (fun i => (intOf i + 1).toNat)
   case atStart => exact ⟨known.length, Nat.le_refl _, rfl, Lib.hid (by rw [List.take_length])⟩
   case round =>
    obtain ⟨k, hkl, rfl, HL⟩ := hrel
    rcases k with _ | k
    · have HN : Hid (none = Bt.latest known line) := Lib.hid HL.out
      go_wp2
      simp [bodyPost, results, Tryz.results78, go_sem]
      rw [← HN.out]
      exact ⟨⟨rfl, rfl⟩, qL⟩
    · have hr := page_cells Hc.out k (by omega)
      obtain ⟨c0, c1, c2, c3, c4, c5, c6, c7, c8⟩ := nine hr
      clear hr
      have h0' : (((k + 1 : Nat) : Int) - 1) = (k : Int) := by omega
      rw [h0']
      by_cases he : known[k].line = line
      · have hy := Lib.hid (latest_yes known line k (by omega) he)
        clear h0'
        rw [he] at c0
        obtain ⟨p, hp⟩ : ∃ p, p = known[k] := ⟨_, rfl⟩
        have HP := Lib.hid hp
        rw [← hp] at c1 c2 c3 c4 c5 c6 c7 c8
        clear hp
        go_wp2
        simp [bodyPost, results, Tryz.results78, go_sem]
        rw [← HL.out, hy.out, ← HP.out]
        have hl : p.line = line := by rw [HP.out]; exact he
        exact ⟨⟨by rw [← hl]; rfl, rfl⟩, qL⟩
      · go_wp2
        go_round
        case rel => exact ⟨k, by omega, rfl, by rw [← latest_no known line k (by omega) he]; exact HL⟩
        case measure => simp [intOf]
/-- lookup's results. -/
def Bt.Look.page : Bt.Look → Bt.Page
 | .found p => p
 | _ => Bt.zeroPage
def Bt.Look.have_ : Bt.Look → Bool
 | .found _ => true
 | _ => false
def Bt.Look.code : Bt.Look → Int
 | .bad c => c
 | _ => 0
theorem latest_mem {known : List Bt.Page} {line : Int} {p : Bt.Page} (h : Bt.latest known line = some p) : p ∈ known ∧ p.line = line := by
 unfold Bt.latest at h
 have h1 := List.mem_of_find?_eq_some h
 have h2 := List.find?_some h
 exact ⟨by simpa using h1, by simpa using h2⟩
def LookPost (known : List Bt.Page) (p : Bt.Ptr) (kind : Int) (locks : Bool) (w : World) (e : Ending) (w' : World) : Prop :=
 e = .returned (.tuple #[.agg (Bt.lookup known p kind locks).page.cells, .bool (Bt.lookup known p kind locks).have_, .int .i64 (Bt.lookup known p kind locks).code]) ∧ Below w.heap.size w w'
set_option maxRecDepth 20000 in
theorem wG9 {P : Prop} (h : P := by
 unfold Bt.Ptr.cells
 go_enter Tryz.func65, Tryz.ntmps65
 first
  | clear tg61
    go_wp2_with (go_at_call 75; refine (Valid_any _ _ _).mono ?_; rintro e w1 ⟨rfl, hb⟩; rw [Hv.out]; ((obtain ⟨hc1, hf1, hs1⟩ := qR hb); (try have := qN0 w w1); (try have := qN1 w w1)))
    have B := (made22 w (t := 25) (cs := Bt.zeroPage.cells)).kept hb
    refine bodyPost_ret (results_btt rfl _ _ (w.heap.size + 1) _ _ _ rfl (B.put9 _ _ _ _ _ _ _ _ _) Tryz.underlying25 rfl (by kernel_rfl)) rfl ⟨?_, qL⟩
    simp only [Bt.lookup, Hv.out]
    rfl
  | clear tg62
    go_wp2_with fail
    go_at_call 75; refine (Valid_any _ _ _).mono ?_; rintro e w1 ⟨rfl, hb⟩; rw [Hv.out]; ((obtain ⟨hc1, hf1, hs1⟩ := qR hb); (try have := qN0 w w1); (try have := qN1 w w1))
    have P1 : Hid (PgRow w1 v known) := Lib.hid (Hk.out.below (below_step qL hb))
    go_wp2_with fail
    go_at_call 78; refine (Latest_any known v _ _ P1.out).mono ?_; rintro e w2 ⟨rfl, hb2⟩; rw [Hl.out]; ((obtain ⟨hc2, hf2, hs2⟩ := qR hb2); (try have := qN0 w w2); (try have := qN1 w w2))
    first
     | clear tg63
       simp only [Option.getD_none, Option.isSome_none, Bt.Page.cells, Bt.zeroPage]
       go_wp2
       have B := ((made22 w (t := 25) (cs := Bt.zeroPage.cells)).kept hb).kept hb2
       (refine bodyPost_ret (results_btt rfl _ _ (w.heap.size + 1) _ _ _ rfl (by exact qK) Tryz.underlying25 rfl (by kernel_rfl)) rfl ⟨?_, ?_⟩)
       · simp only [Bt.lookup, Hv.out, Hl.out]; rfl
       · exact qL
     | clear tg64
       simp only [Option.getD_some, Option.isSome_some, Bt.Page.cells]
       go_wp2_with fail
       go_at_call 66; refine (tagOf_any page Hpok.out _).mono ?_; rintro e w3 ⟨rfl, hb3⟩; ((obtain ⟨hc3, hf3, hs3⟩ := qR hb3); (try have := qN0 w w3); (try have := qN1 w w3); (try have := qN0 w2 w3); (try have := qN1 w2 w3))
       have B := (((made22 w (t := 25) (cs := Bt.zeroPage.cells)).kept hb).kept hb2).alloc (.cells page.cells 25) |>.kept hb3
       simp only [Bt.zeroPage, Bt.Page.cells] at B
       first
        | clear tg65
          go_wp2_with fail
          go_at_call 80; refine (Locked_any page Hpok.out _).mono ?_; rintro e w4 ⟨rfl, hb4⟩; rw [HK.out]; ((obtain ⟨hc4, hf4, hs4⟩ := qR hb4); (try have := qN0 w w4); (try have := qN1 w w4); (try have := qN0 w2 w4); (try have := qN1 w2 w4); (try have := qN0 w3 w4); (try have := qN1 w3 w4))
          have B4 := (B.alloc _).kept hb4
          go_wp2
          all_goals ((refine bodyPost_ret (results_btt rfl _ _ (w.heap.size + 1) _ _ _ rfl (by have B := B4; exact qK) Tryz.underlying25 rfl (by kernel_rfl)) rfl ⟨?_, ?_⟩); (rotate_left; exact qL); (rw [HX.out, set9]; rfl))
        | clear tg66
          go_wp2
          all_goals ((refine bodyPost_ret (results_btt rfl _ _ (w.heap.size + 1) _ _ _ rfl (by exact qK) Tryz.underlying25 rfl (by kernel_rfl)) rfl ⟨?_, ?_⟩); (rotate_left; exact qL); (rw [HX.out, set9]; rfl))) : P := h
theorem lookup_bad (known : List Bt.Page) (v : Value) (p : Bt.Ptr) (kind : Int) (locks : Bool) (w : World) (Hv : Hid (Bt.validP p = false)) : Calls Tryz.prog 65 #[v, .agg p.cells, .int .i64 kind, .bool locks] w (LookPost known p kind locks w) := by
 have tg61 := trivial
 exact wG9
theorem lookup_none (known : List Bt.Page) (v : Value) (p : Bt.Ptr) (kind : Int) (locks : Bool) (w : World) (Hk : Hid (PgRow w v known)) (Hv : Hid (Bt.validP p = true)) (Hl : Hid (Bt.latest known p.line = none)) :
 Calls Tryz.prog 65 #[v, .agg p.cells, .int .i64 kind, .bool locks] w (LookPost known p kind locks w) := by
 have tg62 := trivial
 have tg63 := trivial
 exact wG9
end Go.Proofs.YtjmpekanlmepmaaGreatDoor
