/- DERIVED: THE SHELF's CONTRACTS AT THIS DUMP, IN PLAIN WORDS (tools/lay-plain.mjs out of 'TryzShelf.lean', which tools/lay-shelf.mjs wrote): THE SAME DECLARATIONS UNDER THE SAME NAMES: 'import', 'namespace', 'open', 'def', 'theorem' AND NOTHING ELSE: no command of the shelf's: FOR A HAND-IN. Each laying: the table of numbers ('.._ren') and one theorem, a field a fact of the dump's own or the kernel's comparison; each contract: ONE APPLICATION. -/
import Derived.Shelf.Strings.Builder1
import Derived.Shelf.Strings.Builder2
import Derived.Shelf.Strings.OnBuilder
import Derived.Shelf.Small.Bits
import Derived.Shelf.Small.Wraps
import Derived.Shelf.Strconv.Itoa0
import Derived.Shelf.Sort.Plain
import Derived.Shelf.Slices.Turned
import Derived.Ground.Names2Prog
import Derived.Shelf.Slices.CompactI
import Derived.Shelf.Slices.SearchI
import Derived.Shelf.Slices.Cells
import Derived.Shelf.Slices.In.SortNone
import Derived.Test.YtcoiehgcfjfhaaaGreatDoorProg
import Derived.Test.YtcoiehgcfjfhaaaGreatDoorRows
import Derived.WalkKit
import Derived.WalkSpells
import Derived.WalkLawsBesides
import Derived.Deep.DeepFit
import Derived.Deep.RegionWith
import Derived.Deep.QuietTactic
import Derived.BigQuiet
import Derived.Lib.Hide
import Derived.Deep.Draws
import Derived.Laws.ResultCell
import Derived.Orders
import Derived.Laws.BitsAllLaws
set_option linter.all false
set_option maxRecDepth 20000
set_option maxHeartbeats 8000000
namespace Go.Proofs
open Go.Shelf
def Tryz.lays156_ren : Go.Shelf.Ren := ⟨fun | 156 => 31 | 165 => 57 | 166 => 58 | 169 => 59 | 240 => 89 | 241 => 90 | 276 => 133 | 277 => 134 | n => n, fun | 31 => 93 | 9 => 9 | 3 => 3 | 4 => 4 | 0 => 0 | 20 => 20 | 72 => 147 | 76 => 150 | 70 => 144 | 37 => 145 | 75 => 149 | 127 => 207 | 164 => 259 | 5 => 5 | 80 => 152 | n => n, fun | n => n⟩
theorem Tryz.lays156 : Go.Proofs.Lays.n156 Tryz.prog Tryz.lays156_ren := {
  mixed := by kernel_rfl
  f156 := Tryz.func31.trans (congrArg some (by kernel_rfl))
  f165 := Tryz.func57.trans (congrArg some (by kernel_rfl))
  f166 := Tryz.func58.trans (congrArg some (by kernel_rfl))
  f169 := Tryz.func59.trans (congrArg some (by kernel_rfl))
  f240 := Tryz.func89.trans (congrArg some (by kernel_rfl))
  f241 := Tryz.func90.trans (congrArg some (by kernel_rfl))
  f276 := Tryz.func133.trans (congrArg some (by kernel_rfl))
  f277 := Tryz.func134.trans (congrArg some (by kernel_rfl))
  t0 := Tryz.underlying0
  a0 := Tryz.isAgg0
  z0 := Tryz.sizeOf0
  v0 := Tryz.zeroValue0
  t3 := Tryz.underlying3
  a3 := Tryz.isAgg3
  z3 := Tryz.sizeOf3
  v3 := Tryz.zeroValue3
  t4 := Tryz.underlying4
  a4 := Tryz.isAgg4
  z4 := Tryz.sizeOf4
  v4 := Tryz.zeroValue4
  t9 := Tryz.underlying9
  a9 := Tryz.isAgg9
  z9 := Tryz.sizeOf9
  v9 := Tryz.zeroValue9
  t20 := Tryz.underlying20
  a20 := Tryz.isAgg20
  z20 := Tryz.sizeOf20
  v20 := Tryz.zeroValue20
  t31 := Tryz.underlying93
  a31 := Tryz.isAgg93
  z31 := Tryz.sizeOf93
  v31 := Tryz.zeroValue93
  t37 := Tryz.underlying145
  a37 := Tryz.isAgg145
  z37 := Tryz.sizeOf145
  v37 := Tryz.zeroValue145
  t70 := Tryz.underlying144
  a70 := Tryz.isAgg144
  z70 := Tryz.sizeOf144
  v70 := Tryz.zeroValue144
  t72 := Tryz.underlying147
  a72 := Tryz.isAgg147
  z72 := Tryz.sizeOf147
  v72 := Tryz.zeroValue147
  t75 := Tryz.underlying149
  a75 := Tryz.isAgg149
  z75 := Tryz.sizeOf149
  v75 := Tryz.zeroValue149
  t76 := Tryz.underlying150
  a76 := Tryz.isAgg150
  z76 := Tryz.sizeOf150
  v76 := Tryz.zeroValue150
  t127 := Tryz.underlying207
  a127 := Tryz.isAgg207
  z127 := Tryz.sizeOf207
  v127 := Tryz.zeroValue207
  t164 := Tryz.underlying259
  a164 := Tryz.isAgg259
  z164 := Tryz.sizeOf259
  v164 := Tryz.zeroValue259 }
theorem Tryz.Builder_Extra_156 : Builder.Extra Tryz.prog Tryz.lays156_ren := {
  sizeBuilder := by kernel_rfl
  liesBuilder := by kernel_rfl
  t5 := Tryz.underlying5
  a5 := Tryz.isAgg5
  z5 := Tryz.sizeOf5
  v5 := Tryz.zeroValue5
  infoByte := by kernel_rfl
  cellsByte := by kernel_rfl
  sizeByte := by kernel_rfl
  neB5 := by decide }
open Go.RowKit in
theorem Tryz.strings_Join (bk o c : Nat) (xs : List ByteArray) (sep : ByteArray) (w : World) (hcells : ∀ (j : Nat) x, xs[j]? = some x → w.cell? ⟨bk, o + j, none⟩ = some (.string x)) (hbk : bk < w.heap.size) (hN : xs.length ≤ 140737488355328) (hcap : xs.length ≤ c) (hlen : (Lib.join (xs.map (·.data.toList)) sep.data.toList).length ≤ 140737488355328) :
    Calls Tryz.prog 31 #[.slice (some ⟨bk, o, none⟩) xs.length c, .string sep] w fun e w' => e = .returned (.string ⟨(Lib.join (xs.map (·.data.toList)) sep.data.toList).toArray⟩) ∧ Below w.heap.size w w' := Any.strings_Join Tryz.lays156 Tryz.Builder_Extra_156 bk o c xs sep w hcells hbk hN hcap hlen
def Tryz.lays125_ren : Go.Shelf.Ren := ⟨fun | 125 => 77 | 128 => 123 | 129 => 124 | n => n, fun | 46 => 58 | 3 => 3 | 51 => 49 | 53 => 24 | 4 => 4 | 5 => 5 | 9 => 9 | n => n, fun | n => n⟩
theorem Tryz.lays125 : Go.Proofs.Lays.n125 Tryz.prog Tryz.lays125_ren := {
  mixed := by kernel_rfl
  f125 := Tryz.func77.trans (congrArg some (by kernel_rfl))
  f128 := Tryz.func123.trans (congrArg some (by kernel_rfl))
  f129 := Tryz.func124.trans (congrArg some (by kernel_rfl))
  t3 := Tryz.underlying3
  a3 := Tryz.isAgg3
  z3 := Tryz.sizeOf3
  v3 := Tryz.zeroValue3
  t4 := Tryz.underlying4
  a4 := Tryz.isAgg4
  z4 := Tryz.sizeOf4
  v4 := Tryz.zeroValue4
  t5 := Tryz.underlying5
  a5 := Tryz.isAgg5
  z5 := Tryz.sizeOf5
  v5 := Tryz.zeroValue5
  t9 := Tryz.underlying9
  a9 := Tryz.isAgg9
  z9 := Tryz.sizeOf9
  v9 := Tryz.zeroValue9
  t46 := Tryz.underlying58
  a46 := Tryz.isAgg58
  z46 := Tryz.sizeOf58
  v46 := Tryz.zeroValue58
  t51 := Tryz.underlying49
  a51 := Tryz.isAgg49
  z51 := Tryz.sizeOf49
  v51 := Tryz.zeroValue49
  t53 := Tryz.underlying24
  a53 := Tryz.isAgg24
  z53 := Tryz.sizeOf24
  v53 := Tryz.zeroValue24 }
theorem Tryz.bits_Len (x : Int) (w : World) (h0 : 0 ≤ x) (h1 : x ≤ 18446744073709551615) :
    Calls Tryz.prog 77 #[.int .u64 x] w fun e w' => e = .returned (.int .i64 (Lib.bitLen x.toNat)) ∧ w' = w := Any.bits_Len Tryz.lays125 x w h0 h1
def Tryz.lays122_ren : Go.Shelf.Ren := ⟨fun | 122 => 149 | 215 => 172 | n => n, fun | 3 => 3 | 4 => 4 | n => n, fun | n => n⟩
theorem Tryz.lays122 : Go.Proofs.Lays.n122 Tryz.prog Tryz.lays122_ren := {
  mixed := by kernel_rfl
  f122 := Tryz.func149.trans (congrArg some (by kernel_rfl))
  f215 := Tryz.func172.trans (congrArg some (by kernel_rfl))
  t3 := Tryz.underlying3
  a3 := Tryz.isAgg3
  z3 := Tryz.sizeOf3
  v3 := Tryz.zeroValue3
  t4 := Tryz.underlying4
  a4 := Tryz.isAgg4
  z4 := Tryz.sizeOf4
  v4 := Tryz.zeroValue4 }
open Go.RowKit in
theorem Tryz.cmp_Compare_int (x y : Int) (w : World) :
    Calls Tryz.prog 149 #[.int .i64 x, .int .i64 y] w fun e w' => e = .returned (.int .i64 (Lib.compareInt x y)) ∧ w' = w := Any.cmp_Compare_int Tryz.lays122 x y w
def Tryz.lays189_ren : Go.Shelf.Ren := ⟨fun | 189 => 37 | 125 => 77 | 257 => 76 | 128 => 123 | 129 => 124 | 294 => 114 | 295 => 115 | 296 => 116 | 297 => 117 | 298 => 118 | 299 => 119 | 216 => 120 | 300 => 121 | 301 => 122 | 328 => 167 | 329 => 168 | 330 => 169 | 331 => 170 | 332 => 171 | 215 => 172 | 343 => 228 | n => n, fun | 28 => 23 | 3 => 3 | 46 => 58 | 0 => 0 | 51 => 49 | 53 => 24 | 4 => 4 | 183 => 243 | 182 => 242 | 131 => 247 | 5 => 5 | 9 => 9 | 218 => 294 | 222 => 297 | 228 => 358 | 229 => 359 | n => n, fun | n => n⟩
theorem Tryz.lays189 : Go.Proofs.Lays.n189 Tryz.prog Tryz.lays189_ren := {
  mixed := by kernel_rfl
  f125 := Tryz.func77.trans (congrArg some (by kernel_rfl))
  f128 := Tryz.func123.trans (congrArg some (by kernel_rfl))
  f129 := Tryz.func124.trans (congrArg some (by kernel_rfl))
  f189 := Tryz.func37.trans (congrArg some (by kernel_rfl))
  f215 := Tryz.func172.trans (congrArg some (by kernel_rfl))
  f216 := Tryz.func120.trans (congrArg some (by kernel_rfl))
  f257 := Tryz.func76.trans (congrArg some (by kernel_rfl))
  f294 := Tryz.func114.trans (congrArg some (by kernel_rfl))
  f295 := Tryz.func115.trans (congrArg some (by kernel_rfl))
  f296 := Tryz.func116.trans (congrArg some (by kernel_rfl))
  f297 := Tryz.func117.trans (congrArg some (by kernel_rfl))
  f298 := Tryz.func118.trans (congrArg some (by kernel_rfl))
  f299 := Tryz.func119.trans (congrArg some (by kernel_rfl))
  f300 := Tryz.func121.trans (congrArg some (by kernel_rfl))
  f301 := Tryz.func122.trans (congrArg some (by kernel_rfl))
  f328 := Tryz.func167.trans (congrArg some (by kernel_rfl))
  f329 := Tryz.func168.trans (congrArg some (by kernel_rfl))
  f330 := Tryz.func169.trans (congrArg some (by kernel_rfl))
  f331 := Tryz.func170.trans (congrArg some (by kernel_rfl))
  f332 := Tryz.func171.trans (congrArg some (by kernel_rfl))
  f343 := Tryz.func228.trans (congrArg some (by kernel_rfl))
  t0 := Tryz.underlying0
  a0 := Tryz.isAgg0
  z0 := Tryz.sizeOf0
  v0 := Tryz.zeroValue0
  t3 := Tryz.underlying3
  a3 := Tryz.isAgg3
  z3 := Tryz.sizeOf3
  v3 := Tryz.zeroValue3
  t4 := Tryz.underlying4
  a4 := Tryz.isAgg4
  z4 := Tryz.sizeOf4
  v4 := Tryz.zeroValue4
  t5 := Tryz.underlying5
  a5 := Tryz.isAgg5
  z5 := Tryz.sizeOf5
  v5 := Tryz.zeroValue5
  t9 := Tryz.underlying9
  a9 := Tryz.isAgg9
  z9 := Tryz.sizeOf9
  v9 := Tryz.zeroValue9
  t28 := Tryz.underlying23
  a28 := Tryz.isAgg23
  z28 := Tryz.sizeOf23
  v28 := Tryz.zeroValue23
  t46 := Tryz.underlying58
  a46 := Tryz.isAgg58
  z46 := Tryz.sizeOf58
  v46 := Tryz.zeroValue58
  t51 := Tryz.underlying49
  a51 := Tryz.isAgg49
  z51 := Tryz.sizeOf49
  v51 := Tryz.zeroValue49
  t53 := Tryz.underlying24
  a53 := Tryz.isAgg24
  z53 := Tryz.sizeOf24
  v53 := Tryz.zeroValue24
  t131 := Tryz.underlying247
  a131 := Tryz.isAgg247
  z131 := Tryz.sizeOf247
  v131 := Tryz.zeroValue247
  t182 := Tryz.underlying242
  a182 := Tryz.isAgg242
  z182 := Tryz.sizeOf242
  v182 := Tryz.zeroValue242
  t183 := Tryz.underlying243
  a183 := Tryz.isAgg243
  z183 := Tryz.sizeOf243
  v183 := Tryz.zeroValue243
  t218 := Tryz.underlying294
  a218 := Tryz.isAgg294
  z218 := Tryz.sizeOf294
  v218 := Tryz.zeroValue294
  t222 := Tryz.underlying297
  a222 := Tryz.isAgg297
  z222 := Tryz.sizeOf297
  v222 := Tryz.zeroValue297
  t228 := Tryz.underlying358
  a228 := Tryz.isAgg358
  z228 := Tryz.sizeOf358
  v228 := Tryz.zeroValue358
  t229 := Tryz.underlying359
  a229 := Tryz.isAgg359
  z229 := Tryz.sizeOf359
  v229 := Tryz.zeroValue359 }
open Go.Sort Go.RowKit in
theorem Tryz.slices_Sort_int (blk off cap : Nat) (zs : List Int) (w : World) (hH : Holds (Value.int .i64) w blk off zs.toArray) (hblk : blk < w.heap.size) (hsz : zs.length < 4611686018427387904) :
    Calls Tryz.prog 37 #[.slice (some ⟨blk, off, none⟩) zs.length cap] w fun e w' =>
      e = .returned (.tuple #[]) ∧ ∃ n os, w' = grow (putRow (Value.int .i64) (Sort.ahead w n) blk off (zs.mergeSort fun x y => decide (x ≤ y)).toArray) os := Any.slices_Sort_int Tryz.lays189 blk off cap zs w hH hblk hsz
def Tryz.lays107_ren : Go.Shelf.Ren := ⟨fun | 107 => 240 | 108 => 287 | n => n, fun | 28 => 23 | 3 => 3 | 4 => 4 | 0 => 0 | n => n, fun | n => n⟩
theorem Tryz.lays107 : Go.Proofs.Lays.n107 Tryz.prog Tryz.lays107_ren := {
  mixed := by kernel_rfl
  f107 := Tryz.func240.trans (congrArg some (by kernel_rfl))
  f108 := Tryz.func287.trans (congrArg some (by kernel_rfl))
  t0 := Tryz.underlying0
  a0 := Tryz.isAgg0
  z0 := Tryz.sizeOf0
  v0 := Tryz.zeroValue0
  t3 := Tryz.underlying3
  a3 := Tryz.isAgg3
  z3 := Tryz.sizeOf3
  v3 := Tryz.zeroValue3
  t4 := Tryz.underlying4
  a4 := Tryz.isAgg4
  z4 := Tryz.sizeOf4
  v4 := Tryz.zeroValue4
  t28 := Tryz.underlying23
  a28 := Tryz.isAgg23
  z28 := Tryz.sizeOf23
  v28 := Tryz.zeroValue23 }
open Go.Lib in
theorem Tryz.slices_Contains_int (b off n c : Nat) (zs : List Int) (x : Int) (w : World) (hz : n ≤ zs.length) (hbig : n ≤ 9223372036854775807) (hc : ∀ j, j < zs.length → w.cell? ⟨b, off + j, none⟩ = some (.int .i64 (zs.getD j 0))) :
    Calls Tryz.prog 240 #[.slice (some ⟨b, off, none⟩) n c, .int .i64 x] w fun e w' => e = .returned (.bool ((zs.take n).contains x)) ∧ w' = w := Any.slices_Contains_int Tryz.lays107 b off n c zs x w hz hbig hc
open Go.Lib in
theorem Tryz.slices_Contains_int_empty (a : Option Addr) (c : Nat) (x : Int) (w : World) :
    Calls Tryz.prog 240 #[.slice a 0 c, .int .i64 x] w fun e w' => e = .returned (.bool false) ∧ w' = w := Any.slices_Contains_int_empty Tryz.lays107 a c x w
def Tryz.laysNm220_ren : Go.Shelf.Ren := ⟨fun | 20 => 99 | n => n, fun | 22 => 23 | 3 => 3 | 4 => 4 | 0 => 0 | n => n, fun | n => n⟩
theorem Tryz.laysNm220 : Go.Proofs.Lays2.n20 Tryz.prog Tryz.laysNm220_ren := {
  mixed := by kernel_rfl
  f20 := Tryz.func99.trans (congrArg some (by kernel_rfl))
  t0 := Tryz.underlying0
  a0 := Tryz.isAgg0
  z0 := Tryz.sizeOf0
  v0 := Tryz.zeroValue0
  t3 := Tryz.underlying3
  a3 := Tryz.isAgg3
  z3 := Tryz.sizeOf3
  v3 := Tryz.zeroValue3
  t4 := Tryz.underlying4
  a4 := Tryz.isAgg4
  z4 := Tryz.sizeOf4
  v4 := Tryz.zeroValue4
  t22 := Tryz.underlying23
  a22 := Tryz.isAgg23
  z22 := Tryz.sizeOf23
  v22 := Tryz.zeroValue23
  i3 := by kernel_rfl }
open Go.RowKit Go.Lib Go.Sort in
theorem Tryz.slices_Compact_int_empty (a : Option Addr) (cap : Nat) (w : World) :
    Calls Tryz.prog 99 #[.slice a 0 cap] w fun e w' => e = .returned (.slice a 0 cap) ∧ w' = w := Any.slices_Compact_int_empty Tryz.laysNm220 a cap w
open Go.RowKit Go.Sort in
theorem Tryz.slices_Sort_int_none (p : Option Addr) (cap : Nat) (w : World) :
    Calls Tryz.prog 37 #[.slice p 0 cap] w fun e w' => e = .returned (.tuple #[]) ∧ w' = w := Any.slices_Sort_int_none Tryz.lays189 p cap w
end Go.Proofs
namespace Go.Proofs.YtcoiehgcfjfhaaaGreatDoor
open Go.RowKit
def Halt (p : Prop) : Prop := p
theorem halt {p : Prop} (h : Halt p) : p := h
theorem unhalt {p : Prop} (h : p) : Halt p := h
def Blk (w : World) (b : Nat) (t : TypeId) (cs : Array Value) : Prop := w.heap[b]? = some (.cells cs t (0, 0))
section
variable {w w' : World} {b : Nat} {t : TypeId} {cs : Array Value}
theorem Blk.lt (h : Blk w b t cs) : b < w.heap.size := by
  by_cases hb : b < w.heap.size
  · exact hb
  · unfold Blk at h
    rw [Array.getElem?_eq_none (by omega)] at h
    exact absurd h (by simp)
theorem Blk.cell (h : Blk w b t cs) : ∀ i, w.cell? ⟨b, i, none⟩ = cs[i]? := fun i => cell_of_row w b i cs t (0, 0) h
theorem Blk.free (h : Blk w b t cs) : ∀ i, w.frozen? ⟨b, i, none⟩ = false := fun i => frozen_of_row w b i cs t h
theorem Blk.made (w : World) (t : TypeId) (cs : Array Value) : Blk (w.alloc (.cells cs t)) w.heap.size t cs := heap_alloc_new w _
theorem Blk.made' {n : Nat} (hn : n = w.heap.size) : Blk (w.alloc (.cells cs t)) n t cs := by subst hn; exact Blk.made w t cs
theorem Blk.alloc (h : Blk w b t cs) (o : Obj) : Blk (w.alloc o) b t cs := (Below.heap_alloc w o b h.lt).trans h
theorem Blk.drew (h : Blk w b t cs) : Blk w.drew b t cs := h
theorem Blk.put (h : Blk w b t cs) (i : Nat) (v : Value) : Blk (w.setCell ⟨b, i, none⟩ v) b t (cs.setIfInBounds i v) := heap_setCell_same w b i cs t v h
theorem Blk.aside (h : Blk w b t cs) {p : Addr} (hp : b ≠ p.block) (v : Value) : Blk (w.setCell p v) b t cs := (heap_setCell_other w p b v hp).trans h
theorem Blk.below {B : Nat} (h : Blk w b t cs) (hb : Below B w w') (hlt : b < B) : Blk w' b t cs := (hb.block b hlt).trans h
theorem Blk.kept (h : Blk w b t cs) (hb : Below w.heap.size w w') : Blk w' b t cs := h.below hb h.lt
theorem Blk.grown {row : Option Nat} (h : Blk w b t cs) (hg : w.grownBy w' row) (hr : some b ≠ row) : Blk w' b t cs := (hg.block b h.lt hr).trans h
end
theorem below_rules {w w1 : World} (hb : Below w.heap.size w w1) : (∀ b o, b < w.heap.size → w1.cell? ⟨b, o, none⟩ = w.cell? ⟨b, o, none⟩) ∧ (∀ b o, b < w.heap.size → w1.frozen? ⟨b, o, none⟩ = w.frozen? ⟨b, o, none⟩) :=
  ⟨fun b o h => hb.cell (p := ⟨b, o, none⟩) h, fun b o h => hb.frozen (p := ⟨b, o, none⟩) h⟩
theorem below_alloc {w w1 : World} (h : Below w.heap.size w w1) (o : Obj) : Below w.heap.size w (w1.alloc o) := h.alloc h.size o
theorem below_step {w w1 w2 : World} (h : Below w.heap.size w w1) (h2 : Below w1.heap.size w1 w2) : Below w.heap.size w w2 := h.trans (h2.mono h.size)
theorem results_blk_tmp {P : Program} {fn : Func} {p u : Tmp} {ty : TypeId} (h : fn.results = #[.cell p ty, .tmp u]) (tmps : Array Value) (w : World) (g : Nat) (t : TypeId) (cs : Array Value) (d : TypeDesc)
    (hp : tmps.getD p undef = .pointer (some ⟨g, 0, none⟩)) (hg : Blk w g t cs) (hu : P.underlying ty = some d) (hd : (match d with | .struct _ | .array _ _ => true | _ => false) = true) (hi : (P.info? ty).map (·.size) = some cs.size) :
    (results fn tmps).run P w = .ok (.tuple #[.agg cs, tmps.getD u undef]) w := by
  rw [results_cell_tmp h, hp]
  simp [asAddr, run_loadVar_row w g t ty cs (0, 0) d hg hu hd hi]
theorem below_grown {w w1 w2 : World} {row : Option Nat} (h : Below w.heap.size w w1) (hg : w1.grownBy w2 row) (hr : ∀ k, row = some k → w.heap.size ≤ k) : Below w.heap.size w w2 := h.grown hg h.size hr
theorem own_cells {w : World} {base g n cap size : Nat} {e : TypeId} {xs : List Value} (h : w.ownsRow base e size (.slice (some ⟨g, 0, none⟩) n cap) n xs) : ∀ j u, xs[j]? = some u → w.cell? ⟨g, j, none⟩ = some u := by
  intro j u hu
  have hj : j < xs.length := (List.getElem?_eq_some_iff.1 hu).1
  rw [h.cellAt j (by rw [← h.1]; exact hj)]
  exact hu
theorem own_lt {w : World} {base g n cap size : Nat} {e : TypeId} {xs : List Value} (h : w.ownsRow base e size (.slice (some ⟨g, 0, none⟩) n cap) n xs) : base ≤ g ∧ g < w.heap.size := h.lt g rfl
theorem own_cap {w : World} {base g n cap size : Nat} {e : TypeId} {xs : List Value} (h : w.ownsRow base e size (.slice (some ⟨g, 0, none⟩) n cap) n xs) : n ≤ cap ∧ cap ≤ maxLen := by
  rcases h.2 with ⟨h', _⟩ | ⟨g', cap', cur, h', _, _, h1, h2, _⟩
  · simp at h'
  · simp only [Value.slice.injEq, Option.some.injEq, Addr.mk.injEq, and_true, true_and] at h'
    obtain ⟨rfl, rfl⟩ := h'
    exact ⟨h1, h2⟩
theorem own_form {w : World} {base n size : Nat} {e : TypeId} {v : Value} {xs : List Value} (h : w.ownsRow base e size v n xs) (hn : 0 < n) : ∃ g cap, v = .slice (some ⟨g, 0, none⟩) n cap := by
  rcases h.2 with ⟨_, h0⟩ | ⟨g, cap, _, hv, _⟩
  · omega
  · exact ⟨g, cap, hv⟩
theorem wpList_append_mine {P : Program} {w : World} {ops : Array Oper} {rest : List Oper} {o : Oper} {a : Act} {Q : Exit → Act → World → Prop} (hgd : o.guard = none) (s x : Operand) (t : TypeId)
    (ho : o.op = .call { callee := .builtin .append, args := #[s, x], argTypes := #[t, t] })
    (base : Nat) (e : TypeId) (i : TypeInfo) (z : Value) (size bytes : Nat) (ht : P.underlying t = some (.slice e)) (hi : P.info? e = some i) (hz : i.zero = some z)
    (hsize : i.size = size) (hby : i.bytes = bytes) (hzs : z.cells.size = size) (hsz : 0 < size)
    (v : Value) (n : Nat) (xs : List Value) (hs : a.eval s = v) (hown : w.ownsRow base e size v n xs)
    (ad : Addr) (m c : Nat) (news : List Value) (hx : a.eval x = .slice (some ad) m c) (hl : news.length = m * size) (hnews : ∀ j u, news[j]? = some u → w.cell? (ad.add j) = some u) (h1 : ∀ u ∈ news, u.oneCell' = true)
    (hm : 0 < m) (h63 : n + m ≤ maxLen) (hbytes : (n + m) * bytes ≤ 140737488355328) (hbase : base ≤ w.heap.size)
    (h : ∀ g cap w', w'.ownsRow base e size (.slice (some ⟨g, 0, none⟩) (n + m) cap) (n + m) (xs ++ news) → w.grownBy w' v.ownBlock → wpList P ops Q rest (a.put o.dst (.slice (some ⟨g, 0, none⟩) (n + m) cap)) w') : wpList P ops Q (o :: rest) a w :=
  wpList_append_own w hgd s x t ho base e i z size bytes ht hi hz hsize hby hzs hsz v n xs hs hown ad m c news hx hl hnews h1 h63 hbytes hbase fun v' w' h2 h3 _ => by
    obtain ⟨g, cap, rfl⟩ := own_form h2 (by omega)
    exact h g cap w' h2 h3
theorem wp_append_mine {P : Program} {w : World} {o : Oper} {a : Act} {K : Act → World → Prop} {Q : Exit → Act → World → Prop} (s x : Operand) (t : TypeId)
    (ho : o.op = .call { callee := .builtin .append, args := #[s, x], argTypes := #[t, t] })
    (base : Nat) (e : TypeId) (i : TypeInfo) (z : Value) (size bytes : Nat) (ht : P.underlying t = some (.slice e)) (hi : P.info? e = some i) (hz : i.zero = some z)
    (hsize : i.size = size) (hby : i.bytes = bytes) (hzs : z.cells.size = size) (hsz : 0 < size)
    (v : Value) (n : Nat) (xs : List Value) (hs : a.eval s = v) (hown : w.ownsRow base e size v n xs)
    (ad : Addr) (m c : Nat) (news : List Value) (hx : a.eval x = .slice (some ad) m c) (hl : news.length = m * size) (hnews : ∀ j u, news[j]? = some u → w.cell? (ad.add j) = some u) (h1 : ∀ u ∈ news, u.oneCell' = true)
    (hm : 0 < m) (h63 : n + m ≤ maxLen) (hbytes : (n + m) * bytes ≤ 140737488355328) (hbase : base ≤ w.heap.size)
    (h : ∀ g cap w', w'.ownsRow base e size (.slice (some ⟨g, 0, none⟩) (n + m) cap) (n + m) (xs ++ news) → w.grownBy w' v.ownBlock → K (a.put o.dst (.slice (some ⟨g, 0, none⟩) (n + m) cap)) w') : o.wp P a w K Q :=
  wp_append_own w s x t ho base e i z size bytes ht hi hz hsize hby hzs hsz v n xs hs hown ad m c news hx hl hnews h1 h63 hbytes hbase fun v' w' h2 h3 _ => by
    obtain ⟨g, cap, rfl⟩ := own_form h2 (by omega)
    exact h g cap w' h2 h3
theorem one_news {w : World} {b : Nat} {u : Value} (h : w.cell? ⟨b, 0, none⟩ = some u) : ∀ j v, [u][j]? = some v → w.cell? ((⟨b, 0, none⟩ : Addr).add j) = some v := by
  intro j v hv
  match j with
  | 0 => simp at hv; subst hv; exact h
  | j + 1 => simp at hv
theorem tmod_emod_self (n k : Int) : n.tmod k % k = n % k := by
  have h := Int.mul_tdiv_add_tmod n k
  conv => rhs; rw [← h]
  rw [Int.add_emod, Int.mul_emod_right, Int.zero_add, Int.emod_emod]
theorem ret_int {k : IntKind} {a b : Int} (h : a = b) : Ending.returned (.int k a) = .returned (.int k b) := by rw [h]
theorem qN0 (w w1 : World) (h : w.heap.size < w1.heap.size := by omega) : w.heap.size < w1.heap.size := h
theorem qN1 (w w1 : World) (h : w.heap.size + 1 < w1.heap.size := by omega) : w.heap.size + 1 < w1.heap.size := h
theorem qN2 (w w1 : World) (h : w.heap.size + 1 + 1 < w1.heap.size := by omega) : w.heap.size + 1 + 1 < w1.heap.size := h
theorem qN3 (w w1 : World) (h : w.heap.size + 1 + 1 + 1 < w1.heap.size := by omega) : w.heap.size + 1 + 1 + 1 < w1.heap.size := h
theorem qL {B : Nat} {w w' : World} (h : Below B w w' := by (repeat (first | with_reducible exact Below.refl _ _ | with_reducible assumption | with_reducible refine Below.setCell ?_ (by first | (simp; done) | (simp; omega)) _ | with_reducible refine below_alloc ?_ _ | with_reducible refine below_drewN ?_ _ | with_reducible refine Below.drew ?_ | with_reducible refine below_step ?_ (by assumption)))) : Below B w w' := h
theorem qK {w : World} {b : Nat} {t : TypeId} {cs : Array Value} (h : Blk w b t cs := by (repeat (first | with_reducible exact B | with_reducible apply Blk.put | with_reducible apply Blk.alloc | (with_reducible apply Blk.aside; (case hp => first | (simp; done) | (simp; omega))) | with_reducible apply Blk.drew))) : Blk w b t cs := h
theorem qR {w w1 : World} {n : Nat} (hb : Below w.heap.size w w1) (hn : w.heap.size = n := by (try simp only [size_alloc, size_setCell, size_drew, size_drewN]); rfl) : (∀ b o, b < n → w1.cell? ⟨b, o, none⟩ = w.cell? ⟨b, o, none⟩) ∧ (∀ b o, b < n → w1.frozen? ⟨b, o, none⟩ = w.frozen? ⟨b, o, none⟩) ∧ n ≤ w1.heap.size := by
  subst hn
  exact ⟨(below_rules hb).1, (below_rules hb).2, hb.size⟩
end Go.Proofs.YtcoiehgcfjfhaaaGreatDoor
namespace Go.Proofs.YtcoiehgcfjfhaaaGreatDoor.Bt
structure Ptr where
  line : Int
  gen : Int
  deriving DecidableEq, Repr, Inhabited
def nilP : Ptr := ⟨0, 0⟩
structure Page where
  line : Int
  head : Int
  d0 : Int
  d1 : Int
  d2 : Int
  d3 : Int
  d4 : Int
  d5 : Int
  d6 : Int
  deriving DecidableEq, Repr, Inhabited
def zeroPage : Page := ⟨0, 0, 0, 0, 0, 0, 0, 0, 0⟩
structure Page.Ok (p : Page) : Prop where
  head : 0 ≤ p.head ∧ p.head < 18446744073709551616
  d0 : 0 ≤ p.d0 ∧ p.d0 < 18446744073709551616
  d1 : 0 ≤ p.d1 ∧ p.d1 < 18446744073709551616
  d2 : 0 ≤ p.d2 ∧ p.d2 < 18446744073709551616
  d3 : 0 ≤ p.d3 ∧ p.d3 < 18446744073709551616
  d4 : 0 ≤ p.d4 ∧ p.d4 < 18446744073709551616
  d5 : 0 ≤ p.d5 ∧ p.d5 < 18446744073709551616
  d6 : 0 ≤ p.d6 ∧ p.d6 < 18446744073709551616
structure Entry where
  key : Int
  to : Ptr
  deriving DecidableEq, Repr, Inhabited
structure Node where
  level : Int
  leftmost : Bool
  dead : Bool
  high : Int
  right : Ptr
  entries : List Entry
  deriving DecidableEq, Repr, Inhabited
def zeroNode : Node := ⟨0, false, false, 0, nilP, []⟩
def inHeap (line : Int) : Bool := decide (104 ≤ line) && decide (line < 256)
def validP (p : Ptr) : Bool := inHeap p.line && decide (1 ≤ p.gen) && decide (p.gen ≤ 16777215)
def pack (p : Ptr) : Int := if validP p then p.gen * 256 + p.line else 0
def unpack (w : Int) : Ptr := ⟨w % 256, w / 256⟩
def tagKind (w : Int) : Int := w % 256
def tagGen (w : Int) : Int := w / 256 % 16777216
def tagAux (w : Int) : Int := w / 4294967296
def packTag (kind gen aux : Int) : Int := kind % 256 + gen % 16777216 * 256 + aux * 4294967296
def locked (p : Page) : Bool := !(decide (p.head % 256 = 0))
def at_ (p : Page) : Ptr := ⟨p.line, tagGen p.d0⟩
def latest (known : List Page) (line : Int) : Option Page := known.reverse.find? (fun p => decide (p.line = line))
inductive Look where
  | found (p : Page)
  | missing
  | bad (code : Int)
  deriving DecidableEq, Repr
def lookup (known : List Page) (p : Ptr) (kind : Int) (locks : Bool) : Look :=
  if validP p then
    match latest known p.line with
    | none => .missing
    | some page =>
      if locks && locked page then .bad 3
      else if tagKind page.d0 = 0 ∨ tagGen page.d0 ≠ p.gen then .bad 11
      else if tagKind page.d0 ≠ kind then .bad 14
      else .found page
  else .bad 1
def allocate (p : Page) (kind aux : Int) : Page × Int :=
  if inHeap p.line = false ∨ kind < 1 ∨ kind > 4 then (zeroPage, 1)
  else if locked p then (zeroPage, 3)
  else if tagKind p.d0 ≠ 0 then (zeroPage, 17)
  else if tagGen p.d0 = 16777215 then (zeroPage, 18)
  else (⟨p.line, p.head, packTag kind (tagGen p.d0 + 1) aux, 0, 0, 0, 0, 0, 0⟩, 0)
def risingFrom (last : Int) : List Entry → Bool
  | [] => true
  | e :: es => decide (last < e.key) && validP e.to && risingFrom e.key es
def rising (es : List Entry) : Bool := risingFrom 0 es
def lastKey : List Entry → Int
  | [] => 0
  | [e] => e.key
  | _ :: es => lastKey es
def maxKey : Int := 4294967294
def maxHigh : Int := 4294967295
def Node.valid (n : Node) : Bool :=
  if n.level < 0 ∨ 8 < n.level ∨ 5 < n.entries.length ∨ rising n.entries = false ∨ n.high = 0 then false
  else if (n.right ≠ nilP ∧ validP n.right = false) ∨ decide (n.high = maxHigh) ≠ decide (n.right = nilP) then false
  else if 0 < n.level then !n.dead && decide (lastKey n.entries = n.high)
  else if n.dead = true ∧ (0 < n.entries.length ∨ n.leftmost = true ∨ n.right = nilP) then false
  else decide (lastKey n.entries ≤ n.high) && decide (lastKey n.entries ≤ maxKey)
def flag (b : Bool) (v : Int) : Int := if b then v else 0
def Node.aux (n : Node) : Int := n.level + n.entries.length * 256 + flag n.leftmost 65536 + flag n.dead 131072
def entryWord (e : Entry) : Int := e.key * 4294967296 + pack e.to
def wordAt (es : List Entry) (i : Nat) : Int := match es[i]? with | some e => entryWord e | none => 0
def Node.fill (n : Node) (p : Page) : Page :=
  ⟨p.line, p.head, packTag (tagKind p.d0) (tagGen p.d0) n.aux, n.high + pack n.right * 4294967296,
    wordAt n.entries 0, wordAt n.entries 1, wordAt n.entries 2, wordAt n.entries 3, wordAt n.entries 4⟩
def entryOf (w : Int) : Entry := ⟨w / 4294967296, unpack (w % 4294967296)⟩
def Page.words (p : Page) : List Int := [p.d2, p.d3, p.d4, p.d5, p.d6]
def Page.count (p : Page) : Int := tagAux p.d0 / 256 % 256
def Page.node (p : Page) : Node :=
  ⟨tagAux p.d0 % 256, decide (tagAux p.d0 / 65536 % 2 = 1), decide (tagAux p.d0 / 131072 % 2 = 1), p.d1 % 4294967296, unpack (p.d1 / 4294967296), (p.words.take p.count.toNat).map entryOf⟩
def readNode (p : Page) : Option Node :=
  if tagKind p.d0 ≠ 4 ∨ 5 < p.count then none
  else if p.node.valid = true ∧ p.node.fill p = p then some p.node else none
def validRoot (root : Ptr) (level : Int) : Bool := if root = nilP then decide (level = 0) else validP root && decide (0 ≤ level) && decide (level ≤ 8)
def readRoot (p : Page) : Option (Ptr × Int) :=
  if validRoot (unpack (p.d0 % 4294967296)) (p.d0 / 4294967296) then some (unpack (p.d0 % 4294967296), p.d0 / 4294967296) else none
def writeRoot (p : Page) (root : Ptr) (level : Int) : Page := { p with d0 := pack root + level * 4294967296 }
structure Op where
  kind : Int
  key : Int
  last : Int
  to : Ptr
  level : Int
  limit : Int
  fresh : List Page
  deriving DecidableEq, Repr, Inhabited
structure Out where
  code : Int := 0
  found : Bool := false
  done : Bool := false
  split : Bool := false
  unposted : Bool := false
  dead : Bool := false
  more : Bool := false
  to : Ptr := nilP
  entries : List Entry := []
  check : List Int := []
  hops : Int := 0
  fresh : Int := 0
  height : Int := 0
  deriving DecidableEq, Repr, Inhabited
@[reducible, simp] def Entry.withTo (e : Entry) (p : Ptr) : Entry := { e with to := p }
@[reducible, simp] def Out.withTo (o : Out) (p : Ptr) : Out := { o with to := p }
structure St where
  need : List Int := []
  writes : List Page := []
  out : Out := {}
  rootPage : Page := zeroPage
  root : Ptr := nilP
  ended : Bool := false
  deriving DecidableEq, Repr, Inhabited
def insertSorted (x : Int) : List Int → List Int
  | [] => [x]
  | y :: ys => if x ≤ y then x :: y :: ys else y :: insertSorted x ys
def sortInts : List Int → List Int
  | [] => []
  | x :: xs => insertSorted x (sortInts xs)
def compact : List Int → List Int
  | [] => []
  | [x] => [x]
  | x :: y :: ys => if x = y then compact (y :: ys) else x :: compact (y :: ys)
def St.wait (s : St) (line : Int) : St := { s with need := [line] }
def St.fail (s : St) (code : Int) (check : List Int) : St := { s with out := { s.out with code := code, check := compact (sortInts check) } }
def St.look (s : St) (known : List Page) (p : Ptr) (locks : Bool) : St × Option (Page × Node) :=
  match lookup known p 4 locks with
  | .bad c => (s.fail c [], none)
  | .missing => (s.wait p.line, none)
  | .found page =>
    match readNode page with
    | none => (s.fail 14 [], none)
    | some n => (s, some (page, n))
def St.neighbour (s : St) (known : List Page) (x : Node) : St × Option (Page × Node) :=
  match s.look known x.right false with
  | (s', none) => (s', none)
  | (s', some (page, n)) => if n.level ≠ x.level then (s'.fail 14 [], none) else (s', some (page, n))
def child : List Entry → Int → Nat
  | [], _ => 0
  | e :: es, k => if e.key < k then child es k + 1 else 0
inductive Walk where
  | absent
  | stopped
  | at_ (page : Page) (node : Node)
  deriving DecidableEq, Repr
def St.hop (s : St) (n : Node) : St := { s with out := { s.out with hops := s.out.hops + 1, dead := s.out.dead || n.dead, unposted := s.out.unposted || !n.dead } }
def descendFrom (known : List Page) (level k height : Int) : Nat → St → Int → Page → Node → St × Walk
  | 0, s, _, _, _ => (s, .stopped)
  | fuel + 1, s, moves, page, n =>
    if n.dead = true ∨ n.high < k then
      if 256 < moves + 1 then ((s.hop n).fail 14 [], .stopped)
      else
        match (s.hop n).neighbour known n with
        | (s', none) => (s', .stopped)
        | (s', some (page', n')) => descendFrom known level k height fuel s' (moves + 1) page' n'
    else if n.level = level then
      if locked page then (({ s with ended := true, out := { s.out with height := height } } : St).fail 3 [], .stopped)
      else ({ s with ended := true, out := { s.out with height := height } }, .at_ page n)
    else
      match n.entries[child n.entries k]? with
      | none => (s, .stopped)
      | some e =>
        match s.look known e.to false with
        | (s', none) => (s', .stopped)
        | (s', some (page', n')) =>
          if n'.level ≠ n.level - 1 then (s'.fail 14 [], .stopped)
          else descendFrom known level k height fuel s' moves page' n'
def St.descend (s : St) (known : List Page) (level k : Int) : St × Walk :=
  match s.look known s.root false with
  | (s', none) => (s', .stopped)
  | (s', some (page, n)) =>
    if n.level < level then (s', .absent)
    else descendFrom known level k (n.level + 1) (257 + n.level.toNat) s' 0 page n
def St.noTree (s : St) (code : Int) : St := if locked s.rootPage then s.fail 3 [] else s.fail code [96]
def St.fresh (s : St) (op : Op) (taken : List Int) : St × Option Page :=
  match op.fresh with
  | [] => (({ s with out := { s.out with fresh := 1 } } : St).fail 18 [], none)
  | p :: _ =>
    if (allocate p 4 0).2 ≠ 0 ∨ (allocate p 4 0).1.line ∈ taken then (s.fail 1 [], none)
    else (s, some (allocate p 4 0).1)
def St.finish (s : St) (writes : List Page) (check : List Int) : St := ({ s with writes := writes, out := { s.out with done := true } } : St).fail 0 check
def hasKey (es : List Entry) (k : Int) : Bool := match es[child es k]? with | some e => decide (e.key = k) | none => false
def St.find (s : St) (op : Op) (known : List Page) : St :=
  if s.root = nilP then s.noTree 0
  else match s.descend known 0 op.key with
  | (s', .at_ page n) =>
    if hasKey n.entries op.key then ({ s' with out := { s'.out with found := true, to := (n.entries.getD (child n.entries op.key) default).to } } : St).fail 0 [page.line]
    else s'.fail 0 [page.line]
  | (s', _) => s'
def St.plant (s : St) (op : Op) (e : Entry) : St :=
  if locked s.rootPage then s.fail 3 []
  else match s.fresh op [] with
  | (s', none) => s'
  | (s', some p) => s'.finish [writeRoot s.rootPage (at_ p) 0, (⟨0, true, false, maxHigh, nilP, [e]⟩ : Node).fill p] []
def St.store (s : St) (op : Op) (page : Page) (n : Node) (es : List Entry) (check : List Int) : St :=
  if es.length ≤ 5 then s.finish [({ n with entries := es } : Node).fill page] check
  else match s.fresh op (check ++ [page.line]) with
  | (s', none) => s'
  | (s', some p) =>
    ({ s' with out := { s'.out with split := true } } : St).finish
      [({ n with high := (es.getD 2 default).key, right := at_ p, entries := es.take 3 } : Node).fill page, (⟨n.level, false, false, n.high, n.right, es.drop 3⟩ : Node).fill p] check
def insertAt (es : List Entry) (i : Nat) (e : Entry) : List Entry := es.take i ++ e :: es.drop i
def deleteAt (es : List Entry) (i : Nat) : List Entry := es.take i ++ es.drop (i + 1)
def St.insert (s : St) (op : Op) (known : List Page) : St :=
  if s.root = nilP then s.plant op ⟨op.key, op.to⟩
  else match s.descend known 0 op.key with
  | (s', .at_ page n) =>
    if hasKey n.entries op.key then s'.fail 17 [page.line]
    else s'.store op page n (insertAt n.entries (child n.entries op.key) ⟨op.key, op.to⟩) []
  | (s', _) => s'
def St.remove (s : St) (op : Op) (known : List Page) : St :=
  if s.root = nilP then s.noTree 16
  else match s.descend known 0 op.key with
  | (s', .at_ page n) =>
    if hasKey n.entries op.key then ({ s' with out := { s'.out with to := (n.entries.getD (child n.entries op.key) default).to } } : St).store op page n (deleteAt n.entries (child n.entries op.key)) []
    else s'.fail 16 [page.line]
  | (s', _) => s'
def scanTake (lo hi limit : Int) : List Entry → List Entry → List Entry
  | acc, [] => acc
  | acc, e :: es => if lo ≤ e.key ∧ e.key ≤ hi ∧ (acc.length : Int) < limit then scanTake lo hi limit (acc ++ [e]) es else scanTake lo hi limit acc es
def scanFrom (op : Op) (known : List Page) : Nat → St → Int → List Entry → List Int → Page → Node → St
  | 0, s, _, _, _, _, _ => s
  | fuel + 1, s, moves, acc, check, page, n =>
    let onward (s : St) (acc : List Entry) (check : List Int) : St :=
      if 256 < moves + 1 then ({ s with out := { s.out with hops := s.out.hops + 1, dead := s.out.dead || n.dead } } : St).fail 14 []
      else match ({ s with out := { s.out with hops := s.out.hops + 1, dead := s.out.dead || n.dead } } : St).neighbour known n with
        | (s', none) => s'
        | (s', some (page', n')) => scanFrom op known fuel s' (moves + 1) acc check page' n'
    if n.dead then onward s acc check
    else if locked page then s.fail 3 []
    else
      let acc' := scanTake op.key op.last op.limit acc n.entries
      let more := decide ((acc'.length : Int) = op.limit)
      let s' : St := { s with out := { s.out with more := more } }
      if more = true ∨ op.last ≤ n.high then ({ s' with out := { s'.out with entries := acc' } } : St).fail 0 (check ++ [page.line])
      else onward s' acc' (check ++ [page.line])
def St.scan (s : St) (op : Op) (known : List Page) : St :=
  if s.root = nilP then s.noTree 0
  else match s.descend known 0 op.key with
  | (s', .at_ page n) => scanFrom op known 257 s' 0 [] [] page n
  | (s', _) => s'
def setTo (es : List Entry) (i : Nat) (p : Ptr) : List Entry := es.modify i (fun e => { e with to := p })
def St.post (s : St) (op : Op) (known : List Page) : St :=
  if s.root = nilP then s.fail 16 []
  else match s.descend known (op.level + 1) op.key with
  | (s', .absent) => s'.fail 16 []
  | (s', .stopped) => s'
  | (s', .at_ page n) =>
    let i := child n.entries op.key
    let e := n.entries.getD i default
    match s'.look known e.to true with
    | (t, none) => t
    | (t, some (xp, x)) =>
      if x.level ≠ op.level then t.fail 14 []
      else if x.dead then t.fail 11 []
      else if e.key ≤ x.high then { t with out := { t.out with found := true } }
      else if 0 < i ∧ x.high ≤ (n.entries.getD (i - 1) default).key then t.fail 14 []
      else t.store op page n (setTo (insertAt n.entries i ⟨x.high, e.to⟩) (i + 1) x.right) [xp.line]
def St.raise (s : St) (op : Op) (known : List Page) : St :=
  if s.root = nilP then s.fail 16 []
  else match s.look known s.root true with
  | (s', none) => s'
  | (s', some (page, n)) =>
    if n.right = nilP then { s' with out := { s'.out with found := true } }
    else if n.level = 8 then s'.fail 12 []
    else match s'.fresh op [page.line] with
    | (t, none) => t
    | (t, some p) =>
      t.finish [writeRoot t.rootPage (at_ p) (n.level + 1), (⟨n.level + 1, true, false, maxHigh, nilP, [⟨n.high, t.root⟩, ⟨maxHigh, n.right⟩]⟩ : Node).fill p] [page.line]
def St.kill (s : St) (op : Op) (known : List Page) : St :=
  if s.root = nilP then s.fail 16 []
  else match s.descend known 0 op.key with
  | (s', .at_ page n) =>
    if 0 < n.entries.length ∨ n.leftmost = true ∨ n.right = nilP then { s' with out := { s'.out with found := true } }
    else match s'.descend known 1 op.key with
    | (t, .absent) => t.fail 7 []
    | (t, .stopped) => t
    | (t, .at_ pp m) =>
      let i := child m.entries op.key
      let e := m.entries.getD i default
      if e.to ≠ at_ page ∨ e.key ≠ n.high then t.fail 7 []
      else if i + 1 = m.entries.length then { t with out := { t.out with found := true } }
      else t.finish [({ n with dead := true } : Node).fill page, ({ m with entries := deleteAt m.entries i } : Node).fill pp] []
  | (s', _) => s'
def St.unlink (s : St) (op : Op) (known : List Page) : St :=
  if s.root = nilP then s.fail 16 []
  else match s.descend known 0 op.key with
  | (s', .at_ page n) =>
    if n.right = nilP then { s' with out := { s'.out with found := true } }
    else match s'.look known n.right true with
    | (t, none) => t
    | (t, some (dp, d)) =>
      if d.level ≠ 0 then t.fail 14 []
      else if d.dead = false then { t with out := { t.out with found := true } }
      else ({ t with out := { t.out with to := n.right } } : St).finish [({ n with right := d.right } : Node).fill page] [dp.line]
  | (s', _) => s'
def isKey (k : Int) : Bool := decide (1 ≤ k) && decide (k ≤ maxKey)
def Op.isValid (op : Op) : Bool :=
  if op.kind = 6 then true
  else if op.kind = 5 then decide (1 ≤ op.key) && decide (0 ≤ op.level) && decide (op.level < 8)
  else if op.kind = 2 then isKey op.key && validP op.to
  else if op.kind = 4 then isKey op.key && isKey op.last && decide (op.key ≤ op.last) && decide (1 ≤ op.limit) && decide (op.limit ≤ 64)
  else if op.kind = 1 ∨ op.kind = 3 ∨ op.kind = 7 ∨ op.kind = 8 then isKey op.key
  else false
def St.readRoot (s : St) (op : Op) (known : List Page) : St × Bool :=
  match latest known 96 with
  | none => (s.wait 96, false)
  | some p =>
    if op.kind = 6 ∧ locked p = true then (s.fail 3 [], false)
    else match Bt.readRoot p with
    | none => (s.fail 14 [], false)
    | some (root, _) => ({ s with rootPage := p, root := root }, true)
def St.go (s : St) (op : Op) (known : List Page) : St :=
  if op.kind = 1 then s.find op known
  else if op.kind = 2 then s.insert op known
  else if op.kind = 3 then s.remove op known
  else if op.kind = 4 then s.scan op known
  else if op.kind = 5 then s.post op known
  else if op.kind = 6 then s.raise op known
  else if op.kind = 7 then s.kill op known
  else s.unlink op known
def sortPages : List Page → List Page
  | [p, q] => if q.line < p.line then [q, p] else [p, q]
  | l => l
structure Step where
  need : List Int
  writes : List Page
  out : Out
  over : Bool
  deriving DecidableEq, Repr, Inhabited
def St.close (s : St) : Step :=
  if s.need ≠ [] then ⟨s.need, [], {}, false⟩
  else ⟨[], sortPages s.writes, if s.ended then s.out else { s.out with hops := 0, height := 0, dead := false, unposted := false }, true⟩
def next (op : Op) (known : List Page) : Step :=
  if op.isValid = false then ⟨[], [], { code := 1 }, true⟩
  else match ({} : St).readRoot op known with
  | (s, false) => s.close
  | (s, true) => (s.go op known).close
end Go.Proofs.YtcoiehgcfjfhaaaGreatDoor.Bt
namespace Go.Proofs.YtcoiehgcfjfhaaaGreatDoor
open Go.RowKit
theorem and_u64_mask (k : Nat) (m x : Int) (hm : m = ((2 ^ k - 1 : Nat) : Int)) (hk : k ≤ 63) (h0 : 0 ≤ x) (h1 : x < 18446744073709551616) : bits .and .u64 x m = x % ((2 ^ k : Nat) : Int) := by
  obtain ⟨n, rfl⟩ := Int.eq_ofNat_of_zero_le h0
  have hle : 2 ^ k ≤ 2 ^ 63 := Nat.pow_le_pow_right (by omega) hk
  subst hm
  rw [u64_and_nat n (2 ^ k - 1) (by omega) (by omega), Nat.and_two_pow_sub_one_eq_mod, Int.natCast_emod]
theorem and_u64_8 (x : Int) (h0 : 0 ≤ x) (h1 : x < 18446744073709551616) : bits .and .u64 x 255 = x % 256 := and_u64_mask 8 255 x rfl (by omega) h0 h1
theorem and_u64_24 (x : Int) (h0 : 0 ≤ x) (h1 : x < 18446744073709551616) : bits .and .u64 x 16777215 = x % 16777216 := and_u64_mask 24 16777215 x rfl (by omega) h0 h1
theorem and_u32_mask (k : Nat) (m x : Int) (hm : m = ((2 ^ k - 1 : Nat) : Int)) (hk : k ≤ 31) (h0 : 0 ≤ x) (h1 : x < 4294967296) : bits .and .u32 x m = x % ((2 ^ k : Nat) : Int) := by
  obtain ⟨n, rfl⟩ := Int.eq_ofNat_of_zero_le h0
  have hle : 2 ^ k ≤ 2 ^ 31 := Nat.pow_le_pow_right (by omega) hk
  subst hm
  rw [u32_and_nat n (2 ^ k - 1) (by omega) (by omega), Nat.and_two_pow_sub_one_eq_mod, Int.natCast_emod]
theorem and_u32_8 (x : Int) (h0 : 0 ≤ x) (h1 : x < 4294967296) : bits .and .u32 x 255 = x % 256 := and_u32_mask 8 255 x rfl (by omega) h0 h1
theorem or_u64_join (k : Nat) (a b : Int) (ha0 : 0 ≤ a) (ha1 : a < 18446744073709551616) (hb0 : 0 ≤ b) (hb1 : b < 18446744073709551616) (ha : a % ((2 ^ k : Nat) : Int) = 0) (hb : b < ((2 ^ k : Nat) : Int)) : bits .or .u64 a b = a + b := by
  obtain ⟨n, rfl⟩ := Int.eq_ofNat_of_zero_le ha0
  obtain ⟨m, rfl⟩ := Int.eq_ofNat_of_zero_le hb0
  rw [u64_or_nat n m (by omega) (by omega), nat_join k n m (by rw [← Int.natCast_emod] at ha; omega) (by omega)]
  omega
theorem or_u64_comm (a b : Int) (ha0 : 0 ≤ a) (ha1 : a < 18446744073709551616) (hb0 : 0 ≤ b) (hb1 : b < 18446744073709551616) : bits .or .u64 a b = bits .or .u64 b a := by
  obtain ⟨n, rfl⟩ := Int.eq_ofNat_of_zero_le ha0
  obtain ⟨m, rfl⟩ := Int.eq_ofNat_of_zero_le hb0
  rw [u64_or_nat n m (by omega) (by omega), u64_or_nat m n (by omega) (by omega), Nat.or_comm]
theorem or_u64_join' (k : Nat) (a b : Int) (ha0 : 0 ≤ a) (ha1 : a < 18446744073709551616) (hb0 : 0 ≤ b) (hb1 : b < 18446744073709551616) (hb : b % ((2 ^ k : Nat) : Int) = 0) (ha : a < ((2 ^ k : Nat) : Int)) : bits .or .u64 a b = a + b := by
  rw [or_u64_comm a b ha0 ha1 hb0 hb1, or_u64_join k b a hb0 hb1 ha0 ha1 hb ha, Int.add_comm]
theorem or_u32_join (k : Nat) (a b : Int) (ha0 : 0 ≤ a) (ha1 : a < 4294967296) (hb0 : 0 ≤ b) (hb1 : b < 4294967296) (ha : a % ((2 ^ k : Nat) : Int) = 0) (hb : b < ((2 ^ k : Nat) : Int)) : bits .or .u32 a b = a + b := by
  obtain ⟨n, rfl⟩ := Int.eq_ofNat_of_zero_le ha0
  obtain ⟨m, rfl⟩ := Int.eq_ofNat_of_zero_le hb0
  rw [u32_or_nat n m (by omega) (by omega), nat_join k n m (by rw [← Int.natCast_emod] at ha; omega) (by omega)]
  omega
theorem or_u32_join' (k : Nat) (a b : Int) (ha0 : 0 ≤ a) (ha1 : a < 4294967296) (hb0 : 0 ≤ b) (hb1 : b < 4294967296) (hb : b % ((2 ^ k : Nat) : Int) = 0) (ha : a < ((2 ^ k : Nat) : Int)) : bits .or .u32 a b = a + b := by
  obtain ⟨n, rfl⟩ := Int.eq_ofNat_of_zero_le ha0
  obtain ⟨m, rfl⟩ := Int.eq_ofNat_of_zero_le hb0
  rw [u32_or_nat n m (by omega) (by omega), Nat.or_comm, nat_join k m n (by rw [← Int.natCast_emod] at hb; omega) (by omega)]
  omega
end Go.Proofs.YtcoiehgcfjfhaaaGreatDoor
