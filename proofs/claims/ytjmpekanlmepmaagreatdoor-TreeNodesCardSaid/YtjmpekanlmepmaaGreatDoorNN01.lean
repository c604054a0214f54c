/- Small facts about memory that all walks of this seat use: a block that is known whole, and what lies below a mark. -/
import Derived.Test.YtjmpekanlmepmaaGreatDoorRows
import Derived.WalkKit
import Derived.WalkSpells
import Derived.WalkLawsBesides
import Derived.Deep.DeepFit
import Derived.Deep.RegionWith
import Derived.Deep.QuietTactic
import Derived.BigQuiet
import Derived.Lib.Hide
import Derived.Deep.Draws
import Derived.Laws.ResultCell
import Derived.Test.YtjmpekanlmepmaaGreatDoorCards
import Derived.Test.YtjmpekanlmepmaaGreatDoorTie
import Derived.ProofKit
import Derived.OpenShut
import Derived.Deep.DeepHandedRow
import Derived.Lib.LaidTab
import Derived.Orders
import Derived.Laws.BitsAllLaws
import Derived.Deep.RegionHeld3
set_option linter.all false
set_option maxRecDepth 20000
set_option maxHeartbeats 8000000
open Go.Lib (hid)
namespace Go.Proofs.YtjmpekanlmepmaaGreatDoor
open Go.RowKit
def Halt (p : Prop) : Prop := p
theorem halt {p : Prop} (h : Halt p) : p := h
theorem unhalt {p : Prop} (h : p) : Halt p := h
def Blk (w : World) (b : Nat) (t : TypeId) (cs : Array Value) : Prop := w.heap[b]? = some (.cells cs t (0, 0))
section
variable {w w' : World} {b : Nat} {t : TypeId} {cs : Array Value}
theorem Blk.lt (h : Blk w b t cs) : b < w.heap.size := by
 by_cases hb : b < w.heap.size
 ·exact hb
 ·unfold Blk at h
  rw [Array.getElem?_eq_none (by omega)] at h
  exact absurd h (by simp)
theorem Blk.cell (h : Blk w b t cs) : ∀ i, w.cell? ⟨b, i, none⟩ = cs[i]? := fun i => cell_of_row w b i cs t (0, 0) h
theorem Blk.free (h : Blk w b t cs) : ∀ i, w.frozen? ⟨b, i, none⟩ = false := fun i => frozen_of_row w b i cs t h
theorem Blk.made (w : World) (t : TypeId) (cs : Array Value) : Blk (w.alloc (.cells cs t)) w.heap.size t cs := heap_alloc_new w _
theorem Blk.made' {n : Nat} (hn : n = w.heap.size) : Blk (w.alloc (.cells cs t)) n t cs := by subst hn; exact Blk.made w t cs
theorem Blk.alloc (h : Blk w b t cs) (o : Obj) : Blk (w.alloc o) b t cs := (Below.heap_alloc w o b h.lt).trans h
theorem Blk.drew (h : Blk w b t cs) : Blk w.drew b t cs := h
theorem Blk.put (h : Blk w b t cs) (i : Nat) (v : Value) : Blk (w.setCell ⟨b, i, none⟩ v) b t (cs.setIfInBounds i v) := heap_setCell_same w b i cs t v h
theorem Blk.aside (h : Blk w b t cs) {p : Addr} (hp : b ≠ p.block) (v : Value) : Blk (w.setCell p v) b t cs := (heap_setCell_other w p b v hp).trans h
theorem Blk.below {B : Nat} (h : Blk w b t cs) (hb : Below B w w') (hlt : b < B) : Blk w' b t cs := (hb.block b hlt).trans h
theorem Blk.kept (h : Blk w b t cs) (hb : Below w.heap.size w w') : Blk w' b t cs := h.below hb h.lt
theorem Blk.grown {row : Option Nat} (h : Blk w b t cs) (hg : w.grownBy w' row) (hr : some b ≠ row) : Blk w' b t cs := (hg.block b h.lt hr).trans h
end
theorem below_rules {w w1 : World} (hb : Below w.heap.size w w1) : (∀ b o, b < w.heap.size → w1.cell? ⟨b, o, none⟩ = w.cell? ⟨b, o, none⟩) ∧ (∀ b o, b < w.heap.size → w1.frozen? ⟨b, o, none⟩ = w.frozen? ⟨b, o, none⟩) :=
 ⟨fun b o h => hb.cell (p := ⟨b, o, none⟩) h, fun b o h => hb.frozen (p := ⟨b, o, none⟩) h⟩
theorem below_alloc {w w1 : World} (h : Below w.heap.size w w1) (o : Obj) : Below w.heap.size w (w1.alloc o) := h.alloc h.size o
theorem below_drewN {B : Nat} {w w1 : World} (h : Below B w w1) (n : Nat) : Below B w (w1.drewN n) := ⟨h.os, h.tape, h.output, h.size, h.block⟩
theorem below_step {w w1 w2 : World} (h : Below w.heap.size w w1) (h2 : Below w1.heap.size w1 w2) : Below w.heap.size w w2 := h.trans (h2.mono h.size)
theorem results_blk_tmp {P : Program} {fn : Func} {p u : Tmp} {ty : TypeId} (h : fn.results = #[.cell p ty, .tmp u]) (tmps : Array Value) (w : World) (g : Nat) (t : TypeId) (cs : Array Value) (d : TypeDesc)
 (hp : tmps.getD p undef = .pointer (some ⟨g, 0, none⟩)) (hg : Blk w g t cs) (hu : P.underlying ty = some d) (hd : (match d with | .struct _ | .array _ _ => true | _ => false) = true) (hi : (P.info? ty).map (·.size) = some cs.size) :
 (results fn tmps).run P w = .ok (.tuple #[.agg cs, tmps.getD u undef]) w := by
 rw [results_cell_tmp h, hp]
 simp [asAddr, run_loadVar_row w g t ty cs (0, 0) d hg hu hd hi]
theorem below_grown {w w1 w2 : World} {row : Option Nat} (h : Below w.heap.size w w1) (hg : w1.grownBy w2 row) (hr : ∀ k, row = some k → w.heap.size ≤ k) : Below w.heap.size w w2 := h.grown hg h.size hr
theorem own_cells {w : World} {base g n cap size : Nat} {e : TypeId} {xs : List Value} (h : w.ownsRow base e size (.slice (some ⟨g, 0, none⟩) n cap) n xs) : ∀ j u, xs[j]? = some u → w.cell? ⟨g, j, none⟩ = some u := by
 intro j u hu
 have hj : j < xs.length := (List.getElem?_eq_some_iff.1 hu).1
 rw [h.cellAt j (by rw [← h.1]; exact hj)]
 exact hu
theorem own_lt {w : World} {base g n cap size : Nat} {e : TypeId} {xs : List Value} (h : w.ownsRow base e size (.slice (some ⟨g, 0, none⟩) n cap) n xs) : base ≤ g ∧ g < w.heap.size := h.lt g rfl
theorem own_cap {w : World} {base g n cap size : Nat} {e : TypeId} {xs : List Value} (h : w.ownsRow base e size (.slice (some ⟨g, 0, none⟩) n cap) n xs) : n ≤ cap ∧ cap ≤ maxLen := by
 rcases h.2 with ⟨h', _⟩ | ⟨g', cap', cur, h', _, _, h1, h2, _⟩
 ·simp at h'
 ·simp only [Value.slice.injEq, Option.some.injEq, Addr.mk.injEq, and_true, true_and] at h'
  obtain ⟨rfl, rfl⟩ := h'
  exact ⟨h1, h2⟩
theorem own_form {w : World} {base n size : Nat} {e : TypeId} {v : Value} {xs : List Value} (h : w.ownsRow base e size v n xs) (hn : 0 < n) : ∃ g cap, v = .slice (some ⟨g, 0, none⟩) n cap := by
 rcases h.2 with ⟨_, h0⟩ | ⟨g, cap, _, hv, _⟩
 ·omega
 ·exact ⟨g, cap, hv⟩
theorem wpList_append_mine {P : Program} {w : World} {ops : Array Oper} {rest : List Oper} {o : Oper} {a : Act} {Q : Exit → Act → World → Prop} (hgd : o.guard = none) (s x : Operand) (t : TypeId)
 (ho : o.op = .call { callee := .builtin .append, args := #[s, x], argTypes := #[t, t] })
 (base : Nat) (e : TypeId) (i : TypeInfo) (z : Value) (size bytes : Nat) (ht : P.underlying t = some (.slice e)) (hi : P.info? e = some i) (hz : i.zero = some z)
 (hsize : i.size = size) (hby : i.bytes = bytes) (hzs : z.cells.size = size) (hsz : 0 < size)
 (v : Value) (n : Nat) (xs : List Value) (hs : a.eval s = v) (hown : w.ownsRow base e size v n xs)
 (ad : Addr) (m c : Nat) (news : List Value) (hx : a.eval x = .slice (some ad) m c) (hl : news.length = m * size) (hnews : ∀ j u, news[j]? = some u → w.cell? (ad.add j) = some u) (h1 : ∀ u ∈ news, u.oneCell' = true)
 (hm : 0 < m) (h63 : n + m ≤ maxLen) (hbytes : (n + m) * bytes ≤ 140737488355328) (hbase : base ≤ w.heap.size)
 (h : ∀ g cap w', w'.ownsRow base e size (.slice (some ⟨g, 0, none⟩) (n + m) cap) (n + m) (xs ++ news) → w.grownBy w' v.ownBlock → wpList P ops Q rest (a.put o.dst (.slice (some ⟨g, 0, none⟩) (n + m) cap)) w') : wpList P ops Q (o :: rest) a w :=
 wpList_append_own w hgd s x t ho base e i z size bytes ht hi hz hsize hby hzs hsz v n xs hs hown ad m c news hx hl hnews h1 h63 hbytes hbase fun v' w' h2 h3 _ => by
  obtain ⟨g, cap, rfl⟩ := own_form h2 (by omega)
  exact h g cap w' h2 h3
theorem wp_append_mine {P : Program} {w : World} {o : Oper} {a : Act} {K : Act → World → Prop} {Q : Exit → Act → World → Prop} (s x : Operand) (t : TypeId)
 (ho : o.op = .call { callee := .builtin .append, args := #[s, x], argTypes := #[t, t] })
 (base : Nat) (e : TypeId) (i : TypeInfo) (z : Value) (size bytes : Nat) (ht : P.underlying t = some (.slice e)) (hi : P.info? e = some i) (hz : i.zero = some z)
 (hsize : i.size = size) (hby : i.bytes = bytes) (hzs : z.cells.size = size) (hsz : 0 < size)
 (v : Value) (n : Nat) (xs : List Value) (hs : a.eval s = v) (hown : w.ownsRow base e size v n xs)
 (ad : Addr) (m c : Nat) (news : List Value) (hx : a.eval x = .slice (some ad) m c) (hl : news.length = m * size) (hnews : ∀ j u, news[j]? = some u → w.cell? (ad.add j) = some u) (h1 : ∀ u ∈ news, u.oneCell' = true)
 (hm : 0 < m) (h63 : n + m ≤ maxLen) (hbytes : (n + m) * bytes ≤ 140737488355328) (hbase : base ≤ w.heap.size)
 (h : ∀ g cap w', w'.ownsRow base e size (.slice (some ⟨g, 0, none⟩) (n + m) cap) (n + m) (xs ++ news) → w.grownBy w' v.ownBlock → K (a.put o.dst (.slice (some ⟨g, 0, none⟩) (n + m) cap)) w') : o.wp P a w K Q :=
 wp_append_own w s x t ho base e i z size bytes ht hi hz hsize hby hzs hsz v n xs hs hown ad m c news hx hl hnews h1 h63 hbytes hbase fun v' w' h2 h3 _ => by
  obtain ⟨g, cap, rfl⟩ := own_form h2 (by omega)
  exact h g cap w' h2 h3
theorem one_news {w : World} {b : Nat} {u : Value} (h : w.cell? ⟨b, 0, none⟩ = some u) : ∀ j v, [u][j]? = some v → w.cell? ((⟨b, 0, none⟩ : Addr).add j) = some v := by
 intro j v hv
 match j with
 | 0 => simp at hv; subst hv; exact h
 | j + 1 => simp at hv
theorem tmod_emod_self (n k : Int) : n.tmod k % k = n % k := by
 have h := Int.mul_tdiv_add_tmod n k
 conv => rhs; rw [← h]
 rw [Int.add_emod, Int.mul_emod_right, Int.zero_add, Int.emod_emod]
theorem ret_int {k : IntKind} {a b : Int} (h : a = b) : Ending.returned (.int k a) = .returned (.int k b) := by rw [h]
theorem qN0 (w w1 : World) (h : w.heap.size < w1.heap.size := by omega) : w.heap.size < w1.heap.size := h
theorem qN1 (w w1 : World) (h : w.heap.size + 1 < w1.heap.size := by omega) : w.heap.size + 1 < w1.heap.size := h
theorem qN2 (w w1 : World) (h : w.heap.size + 1 + 1 < w1.heap.size := by omega) : w.heap.size + 1 + 1 < w1.heap.size := h
theorem qN3 (w w1 : World) (h : w.heap.size + 1 + 1 + 1 < w1.heap.size := by omega) : w.heap.size + 1 + 1 + 1 < w1.heap.size := h
theorem qL {B : Nat} {w w' : World} (h : Below B w w' := by (repeat (first | with_reducible exact Below.refl _ _ | with_reducible assumption | with_reducible refine Below.setCell ?_ (by first | (simp; done) | (simp; omega)) _ | with_reducible refine below_alloc ?_ _ | with_reducible refine below_drewN ?_ _ | with_reducible refine Below.drew ?_ | with_reducible refine below_step ?_ (by assumption)))) : Below B w w' := h
theorem qK {w : World} {b : Nat} {t : TypeId} {cs : Array Value} (h : Blk w b t cs := by (repeat (first | with_reducible exact B | with_reducible apply Blk.put | with_reducible apply Blk.alloc | (with_reducible apply Blk.aside; (case hp => first | (simp; done) | (simp; omega))) | with_reducible apply Blk.drew))) : Blk w b t cs := h
theorem qR {w w1 : World} {n : Nat} (hb : Below w.heap.size w w1) (hn : w.heap.size = n := by (try simp only [size_alloc, size_setCell, size_drew, size_drewN]); rfl) : (∀ b o, b < n → w1.cell? ⟨b, o, none⟩ = w.cell? ⟨b, o, none⟩) ∧ (∀ b o, b < n → w1.frozen? ⟨b, o, none⟩ = w.frozen? ⟨b, o, none⟩) ∧ n ≤ w1.heap.size := by
 subst hn
 exact ⟨(below_rules hb).1, (below_rules hb).2, hb.size⟩
open Go.ChangeShapes Go.WideShapes Go.ChangeAt Go.RowKit
theorem own_knob : ownKnob Tryz.prog.godebug = none := by kernel_rfl
theorem arr3 {args : Array Value} {a b c : Value} (h : args.toList = [a, b, c]) : args = #[a, b, c] := Array.toList_inj.1 h
section
variable {H : Type} {enc : TypeId × Value → H} {P : Program}
theorem post_of_below {f : Func} {s : ChangeSpec} {apart fresh handsOn again : Bool} {W W' : World} {args : Array Value} {v : Value} {ds gs : List (DataW H)} {before pa pv : List MemPlace}
 (hW : DataW.Whole enc P f.params.toList s.vars apart W args.toList ds gs before)
 (hres : ∀ (b : Nat) (sp : Nat → Bool) (hd : Bool), DataW.TrodAll enc P W' b sp hd f.resultTypes.toList (v.resultList f.resultTypes.size) (s.fn H (ds ++ gs)).results [])
 (hargs : ∀ sp : Nat → Bool, (∀ p ∈ before, sp p.block = true) → DataW.TrodAll enc P W' 0 sp true f.params.toList args.toList (s.fn H (ds ++ gs)).args pa)
 (hvars : ∀ sp : Nat → Bool, (∀ p ∈ before, sp p.block = true) → DataW.TrodVars enc P W' sp s.vars (s.fn H (ds ++ gs)).vars pv)
 (hps : before = pa ++ pv) (hb : Below W.heap.size W W')
 (hok : ∀ (j : Nat) (t : TypeId) (r : Value), f.resultTypes[j]? = some t → (v.resultList f.resultTypes.size)[j]? = some r → Value.okWide P W' .any 0 t r) :
 s.post enc P f apart fresh handsOn again W args v W' := by
 have hold : ∀ p ∈ before, (fun b => decide (b < W.heap.size)) p.block = true := fun p hp => by simpa using hW.lt p hp
 have hwhole := hW
 obtain ⟨_, _, _, _, _, hz, hn⟩ := hwhole
 refine ⟨ds, gs, before, [], pa, pv, hW, hres _ _ _, hargs _ hold, hvars _ hold, World.keptBut_mono (fun p hp => ⟨hp, Or.inr (by rw [hps, List.mem_append] at hp; exact hp)⟩) (hb.frame (· ∈ before)), fun _ => ?_⟩
 refine ⟨hok, _, _, ([] ++ pa) ++ pv, ⟨[] ++ pa, pv, trodAll_append (hargs _ (fun _ _ => rfl)) (hres _ _ _), hvars _ (fun _ _ => rfl), rfl, ?_, ?_⟩, fun p hp _ => by rw [hps]; simpa using hp⟩
 ·intro b off hp
  have hin : MemPlace.cell b off ∈ before := by rw [hps]; simpa using hp
  rw [hb.frozen (hW.lt _ hin)]
  exact hz b off hin
 ·intro ha
  have h := hn ha
  rw [hps] at h
  simpa using h
end
def Closed (ops : Array Oper) (D : Nat → Bool) : Prop := ∀ j o, ops[j]? = some o → D j = true → ∀ e ∈ o.after, Region.binds .any e = true → D e.on = true
def Inv (ops : Array Oper) (F : (Nat → Value) → Array Value) (slot : Nat → Nat) (R : (Nat → Bool) → Nat → Value → World → Prop) (C : (Nat → Bool) → (Nat → Value) → World → Prop) (D : Nat → Bool) (a : Act) (w : World) : Prop :=
 Closed ops D ∧ ∃ u : Nat → Value, a = { tmps := F u, defers := [] } ∧ C D u w ∧ ∀ j, D j = true → R D j (u (slot j)) w
end Go.Proofs.YtjmpekanlmepmaaGreatDoor
namespace Go.Proofs.YtjmpekanlmepmaaGreatDoor.Bt
structure Ptr where
 line : Int
 gen : Int
 deriving DecidableEq, Repr, Inhabited
def nilP : Ptr := ⟨0, 0⟩
structure Page where
 line : Int
 head : Int
 d0 : Int
 d1 : Int
 d2 : Int
 d3 : Int
 d4 : Int
 d5 : Int
 d6 : Int
 deriving DecidableEq, Repr, Inhabited
def zeroPage : Page := ⟨0, 0, 0, 0, 0, 0, 0, 0, 0⟩
structure Page.Ok (p : Page) : Prop where
 head : 0 ≤ p.head ∧ p.head < 18446744073709551616
 d0 : 0 ≤ p.d0 ∧ p.d0 < 18446744073709551616
 d1 : 0 ≤ p.d1 ∧ p.d1 < 18446744073709551616
 d2 : 0 ≤ p.d2 ∧ p.d2 < 18446744073709551616
 d3 : 0 ≤ p.d3 ∧ p.d3 < 18446744073709551616
 d4 : 0 ≤ p.d4 ∧ p.d4 < 18446744073709551616
 d5 : 0 ≤ p.d5 ∧ p.d5 < 18446744073709551616
 d6 : 0 ≤ p.d6 ∧ p.d6 < 18446744073709551616
structure Entry where
 key : Int
 to : Ptr
 deriving DecidableEq, Repr, Inhabited
structure Node where
 level : Int
 leftmost : Bool
 dead : Bool
 high : Int
 right : Ptr
 entries : List Entry
 deriving DecidableEq, Repr, Inhabited
def zeroNode : Node := ⟨0, false, false, 0, nilP, []⟩
def inHeap (line : Int) : Bool := decide (104 ≤ line) && decide (line < 256)
def validP (p : Ptr) : Bool := inHeap p.line && decide (1 ≤ p.gen) && decide (p.gen ≤ 16777215)
def pack (p : Ptr) : Int := if validP p then p.gen * 256 + p.line else 0
def unpack (w : Int) : Ptr := ⟨w % 256, w / 256⟩
def tagKind (w : Int) : Int := w % 256
def tagGen (w : Int) : Int := w / 256 % 16777216
def tagAux (w : Int) : Int := w / 4294967296
def packTag (kind gen aux : Int) : Int := kind % 256 + gen % 16777216 * 256 + aux * 4294967296
def locked (p : Page) : Bool := !(decide (p.head % 256 = 0))
def at_ (p : Page) : Ptr := ⟨p.line, tagGen p.d0⟩
def latest (known : List Page) (line : Int) : Option Page := known.reverse.find? (fun p => decide (p.line = line))
inductive Look where
 | found (p : Page)
 | missing
 | bad (code : Int)
 deriving DecidableEq, Repr
def lookup (known : List Page) (p : Ptr) (kind : Int) (locks : Bool) : Look :=
 if validP p then
  match latest known p.line with
  | none => .missing
  | some page =>
    if locks && locked page then .bad 3
    else if tagKind page.d0 = 0 ∨ tagGen page.d0 ≠ p.gen then .bad 11
    else if tagKind page.d0 ≠ kind then .bad 14
    else .found page
 else .bad 1
def allocate (p : Page) (kind aux : Int) : Page × Int :=
 if inHeap p.line = false ∨ kind < 1 ∨ kind > 4 then (zeroPage, 1)
 else if locked p then (zeroPage, 3)
 else if tagKind p.d0 ≠ 0 then (zeroPage, 17)
 else if tagGen p.d0 = 16777215 then (zeroPage, 18)
 else (⟨p.line, p.head, packTag kind (tagGen p.d0 + 1) aux, 0, 0, 0, 0, 0, 0⟩, 0)
def risingFrom (last : Int) : List Entry → Bool
 | [] => true
 | e :: es => decide (last < e.key) && validP e.to && risingFrom e.key es
def rising (es : List Entry) : Bool := risingFrom 0 es
def lastKey : List Entry → Int
 | [] => 0
 | [e] => e.key
 | _ :: es => lastKey es
def maxKey : Int := 4294967294
def maxHigh : Int := 4294967295
def Node.valid (n : Node) : Bool :=
 if n.level < 0 ∨ 8 < n.level ∨ 5 < n.entries.length ∨ rising n.entries = false ∨ n.high = 0 then false
 else if (n.right ≠ nilP ∧ validP n.right = false) ∨ decide (n.high = maxHigh) ≠ decide (n.right = nilP) then false
 else if 0 < n.level then !n.dead && decide (lastKey n.entries = n.high)
 else if n.dead = true ∧ (0 < n.entries.length ∨ n.leftmost = true ∨ n.right = nilP) then false
 else decide (lastKey n.entries ≤ n.high) && decide (lastKey n.entries ≤ maxKey)
def flag (b : Bool) (v : Int) : Int := if b then v else 0
def Node.aux (n : Node) : Int := n.level + n.entries.length * 256 + flag n.leftmost 65536 + flag n.dead 131072
def entryWord (e : Entry) : Int := e.key * 4294967296 + pack e.to
def wordAt (es : List Entry) (i : Nat) : Int := match es[i]? with | some e => entryWord e | none => 0
def Node.fill (n : Node) (p : Page) : Page :=
 ⟨p.line, p.head, packTag (tagKind p.d0) (tagGen p.d0) n.aux, n.high + pack n.right * 4294967296,
  wordAt n.entries 0, wordAt n.entries 1, wordAt n.entries 2, wordAt n.entries 3, wordAt n.entries 4⟩
def entryOf (w : Int) : Entry := ⟨w / 4294967296, unpack (w % 4294967296)⟩
def Page.words (p : Page) : List Int := [p.d2, p.d3, p.d4, p.d5, p.d6]
def Page.count (p : Page) : Int := tagAux p.d0 / 256 % 256
def Page.node (p : Page) : Node :=
 ⟨tagAux p.d0 % 256, decide (tagAux p.d0 / 65536 % 2 = 1), decide (tagAux p.d0 / 131072 % 2 = 1), p.d1 % 4294967296, unpack (p.d1 / 4294967296), (p.words.take p.count.toNat).map entryOf⟩
def readNode (p : Page) : Option Node :=
 if tagKind p.d0 ≠ 4 ∨ 5 < p.count then none
 else if p.node.valid = true ∧ p.node.fill p = p then some p.node else none
def writeNode (p : Page) (n : Node) : Option Page := if tagKind p.d0 ≠ 4 ∨ n.valid = false then none else some (n.fill p)
def validRoot (root : Ptr) (level : Int) : Bool := if root = nilP then decide (level = 0) else validP root && decide (0 ≤ level) && decide (level ≤ 8)
def readRoot (p : Page) : Option (Ptr × Int) :=
 if validRoot (unpack (p.d0 % 4294967296)) (p.d0 / 4294967296) then some (unpack (p.d0 % 4294967296), p.d0 / 4294967296) else none
def writeRoot (p : Page) (root : Ptr) (level : Int) : Page := { p with d0 := pack root + level * 4294967296 }
structure Op where
 kind : Int
 key : Int
 last : Int
 to : Ptr
 level : Int
 limit : Int
 fresh : List Page
 deriving DecidableEq, Repr, Inhabited
structure Out where
 code : Int := 0
 found : Bool := false
 done : Bool := false
 split : Bool := false
 unposted : Bool := false
 dead : Bool := false
 more : Bool := false
 to : Ptr := nilP
 entries : List Entry := []
 check : List Int := []
 hops : Int := 0
 fresh : Int := 0
 height : Int := 0
 deriving DecidableEq, Repr, Inhabited
@[reducible, simp] def Entry.withTo (e : Entry) (p : Ptr) : Entry := { e with to := p }
@[reducible, simp] def Out.withTo (o : Out) (p : Ptr) : Out := { o with to := p }
structure St where
 need : List Int := []
 writes : List Page := []
 out : Out := {}
 rootPage : Page := zeroPage
 root : Ptr := nilP
 ended : Bool := false
 deriving DecidableEq, Repr, Inhabited
def insertSorted (x : Int) : List Int → List Int
 | [] => [x]
 | y :: ys => if x ≤ y then x :: y :: ys else y :: insertSorted x ys
def sortInts : List Int → List Int
 | [] => []
 | x :: xs => insertSorted x (sortInts xs)
def compact : List Int → List Int
 | [] => []
 | [x] => [x]
 | x :: y :: ys => if x = y then compact (y :: ys) else x :: compact (y :: ys)
def St.wait (s : St) (line : Int) : St := { s with need := [line] }
def St.fail (s : St) (code : Int) (check : List Int) : St := { s with out := { s.out with code := code, check := compact (sortInts check) } }
def St.look (s : St) (known : List Page) (p : Ptr) (locks : Bool) : St × Option (Page × Node) :=
 match lookup known p 4 locks with
 | .bad c => (s.fail c [], none)
 | .missing => (s.wait p.line, none)
 | .found page =>
   match readNode page with
   | none => (s.fail 14 [], none)
   | some n => (s, some (page, n))
def St.neighbour (s : St) (known : List Page) (x : Node) : St × Option (Page × Node) :=
 match s.look known x.right false with
 | (s', none) => (s', none)
 | (s', some (page, n)) => if n.level ≠ x.level then (s'.fail 14 [], none) else (s', some (page, n))
def child : List Entry → Int → Nat
 | [], _ => 0
 | e :: es, k => if e.key < k then child es k + 1 else 0
inductive Walk where
 | absent
 | stopped
 | at_ (page : Page) (node : Node)
 deriving DecidableEq, Repr
def St.hop (s : St) (n : Node) : St := { s with out := { s.out with hops := s.out.hops + 1, dead := s.out.dead || n.dead, unposted := s.out.unposted || !n.dead } }
def descendFrom (known : List Page) (level k height : Int) : Nat → St → Int → Page → Node → St × Walk
 | 0, s, _, _, _ => (s, .stopped)
 | fuel + 1, s, moves, page, n =>
   if n.dead = true ∨ n.high < k then
    if 256 < moves + 1 then ((s.hop n).fail 14 [], .stopped)
    else
     match (s.hop n).neighbour known n with
     | (s', none) => (s', .stopped)
     | (s', some (page', n')) => descendFrom known level k height fuel s' (moves + 1) page' n'
   else if n.level = level then
    if locked page then (({ s with ended := true, out := { s.out with height := height } } : St).fail 3 [], .stopped)
    else ({ s with ended := true, out := { s.out with height := height } }, .at_ page n)
   else
    match n.entries[child n.entries k]? with
    | none => (s, .stopped)
    | some e =>
      match s.look known e.to false with
      | (s', none) => (s', .stopped)
      | (s', some (page', n')) =>
        if n'.level ≠ n.level - 1 then (s'.fail 14 [], .stopped)
        else descendFrom known level k height fuel s' moves page' n'
def St.descend (s : St) (known : List Page) (level k : Int) : St × Walk :=
 match s.look known s.root false with
 | (s', none) => (s', .stopped)
 | (s', some (page, n)) =>
   if n.level < level then (s', .absent)
   else descendFrom known level k (n.level + 1) (257 + n.level.toNat) s' 0 page n
def St.noTree (s : St) (code : Int) : St := if locked s.rootPage then s.fail 3 [] else s.fail code [96]
def St.fresh (s : St) (op : Op) (taken : List Int) : St × Option Page :=
 match op.fresh with
 | [] => (({ s with out := { s.out with fresh := 1 } } : St).fail 18 [], none)
 | p :: _ =>
   if (allocate p 4 0).2 ≠ 0 ∨ (allocate p 4 0).1.line ∈ taken then (s.fail 1 [], none)
   else (s, some (allocate p 4 0).1)
def St.finish (s : St) (writes : List Page) (check : List Int) : St := ({ s with writes := writes, out := { s.out with done := true } } : St).fail 0 check
def hasKey (es : List Entry) (k : Int) : Bool := match es[child es k]? with | some e => decide (e.key = k) | none => false
def St.find (s : St) (op : Op) (known : List Page) : St :=
 if s.root = nilP then s.noTree 0
 else match s.descend known 0 op.key with
 | (s', .at_ page n) =>
   if hasKey n.entries op.key then ({ s' with out := { s'.out with found := true, to := (n.entries.getD (child n.entries op.key) default).to } } : St).fail 0 [page.line]
   else s'.fail 0 [page.line]
 | (s', _) => s'
def St.plant (s : St) (op : Op) (e : Entry) : St :=
 if locked s.rootPage then s.fail 3 []
 else match s.fresh op [] with
 | (s', none) => s'
 | (s', some p) => s'.finish [writeRoot s.rootPage (at_ p) 0, (⟨0, true, false, maxHigh, nilP, [e]⟩ : Node).fill p] []
def St.store (s : St) (op : Op) (page : Page) (n : Node) (es : List Entry) (check : List Int) : St :=
 if es.length ≤ 5 then s.finish [({ n with entries := es } : Node).fill page] check
 else match s.fresh op (check ++ [page.line]) with
 | (s', none) => s'
 | (s', some p) =>
   ({ s' with out := { s'.out with split := true } } : St).finish
    [({ n with high := (es.getD 2 default).key, right := at_ p, entries := es.take 3 } : Node).fill page, (⟨n.level, false, false, n.high, n.right, es.drop 3⟩ : Node).fill p] check
def insertAt (es : List Entry) (i : Nat) (e : Entry) : List Entry := es.take i ++ e :: es.drop i
def deleteAt (es : List Entry) (i : Nat) : List Entry := es.take i ++ es.drop (i + 1)
def St.insert (s : St) (op : Op) (known : List Page) : St :=
 if s.root = nilP then s.plant op ⟨op.key, op.to⟩
 else match s.descend known 0 op.key with
 | (s', .at_ page n) =>
   if hasKey n.entries op.key then s'.fail 17 [page.line]
   else s'.store op page n (insertAt n.entries (child n.entries op.key) ⟨op.key, op.to⟩) []
 | (s', _) => s'
def St.remove (s : St) (op : Op) (known : List Page) : St :=
 if s.root = nilP then s.noTree 16
 else match s.descend known 0 op.key with
 | (s', .at_ page n) =>
   if hasKey n.entries op.key then ({ s' with out := { s'.out with to := (n.entries.getD (child n.entries op.key) default).to } } : St).store op page n (deleteAt n.entries (child n.entries op.key)) []
   else s'.fail 16 [page.line]
 | (s', _) => s'
def scanTake (lo hi limit : Int) : List Entry → List Entry → List Entry
 | acc, [] => acc
 | acc, e :: es => if lo ≤ e.key ∧ e.key ≤ hi ∧ (acc.length : Int) < limit then scanTake lo hi limit (acc ++ [e]) es else scanTake lo hi limit acc es
def scanFrom (op : Op) (known : List Page) : Nat → St → Int → List Entry → List Int → Page → Node → St
 | 0, s, _, _, _, _, _ => s
 | fuel + 1, s, moves, acc, check, page, n =>
   let onward (s : St) (acc : List Entry) (check : List Int) : St :=
    if 256 < moves + 1 then ({ s with out := { s.out with hops := s.out.hops + 1, dead := s.out.dead || n.dead } } : St).fail 14 []
    else match ({ s with out := { s.out with hops := s.out.hops + 1, dead := s.out.dead || n.dead } } : St).neighbour known n with
     | (s', none) => s'
     | (s', some (page', n')) => scanFrom op known fuel s' (moves + 1) acc check page' n'
   if n.dead then onward s acc check
   else if locked page then s.fail 3 []
   else
    let acc' := scanTake op.key op.last op.limit acc n.entries
    let more := decide ((acc'.length : Int) = op.limit)
    let s' : St := { s with out := { s.out with more := more } }
    if more = true ∨ op.last ≤ n.high then ({ s' with out := { s'.out with entries := acc' } } : St).fail 0 (check ++ [page.line])
    else onward s' acc' (check ++ [page.line])
def St.scan (s : St) (op : Op) (known : List Page) : St :=
 if s.root = nilP then s.noTree 0
 else match s.descend known 0 op.key with
 | (s', .at_ page n) => scanFrom op known 257 s' 0 [] [] page n
 | (s', _) => s'
def setTo (es : List Entry) (i : Nat) (p : Ptr) : List Entry := es.modify i (fun e => { e with to := p })
def St.post (s : St) (op : Op) (known : List Page) : St :=
 if s.root = nilP then s.fail 16 []
 else match s.descend known (op.level + 1) op.key with
 | (s', .absent) => s'.fail 16 []
 | (s', .stopped) => s'
 | (s', .at_ page n) =>
   let i := child n.entries op.key
   let e := n.entries.getD i default
   match s'.look known e.to true with
   | (t, none) => t
   | (t, some (xp, x)) =>
     if x.level ≠ op.level then t.fail 14 []
     else if x.dead then t.fail 11 []
     else if e.key ≤ x.high then { t with out := { t.out with found := true } }
     else if 0 < i ∧ x.high ≤ (n.entries.getD (i - 1) default).key then t.fail 14 []
     else t.store op page n (setTo (insertAt n.entries i ⟨x.high, e.to⟩) (i + 1) x.right) [xp.line]
def St.raise (s : St) (op : Op) (known : List Page) : St :=
 if s.root = nilP then s.fail 16 []
 else match s.look known s.root true with
 | (s', none) => s'
 | (s', some (page, n)) =>
   if n.right = nilP then { s' with out := { s'.out with found := true } }
   else if n.level = 8 then s'.fail 12 []
   else match s'.fresh op [page.line] with
   | (t, none) => t
   | (t, some p) =>
     t.finish [writeRoot t.rootPage (at_ p) (n.level + 1), (⟨n.level + 1, true, false, maxHigh, nilP, [⟨n.high, t.root⟩, ⟨maxHigh, n.right⟩]⟩ : Node).fill p] [page.line]
def St.kill (s : St) (op : Op) (known : List Page) : St :=
 if s.root = nilP then s.fail 16 []
 else match s.descend known 0 op.key with
 | (s', .at_ page n) =>
   if 0 < n.entries.length ∨ n.leftmost = true ∨ n.right = nilP then { s' with out := { s'.out with found := true } }
   else match s'.descend known 1 op.key with
   | (t, .absent) => t.fail 7 []
   | (t, .stopped) => t
   | (t, .at_ pp m) =>
     let i := child m.entries op.key
     let e := m.entries.getD i default
     if e.to ≠ at_ page ∨ e.key ≠ n.high then t.fail 7 []
     else if i + 1 = m.entries.length then { t with out := { t.out with found := true } }
     else t.finish [({ n with dead := true } : Node).fill page, ({ m with entries := deleteAt m.entries i } : Node).fill pp] []
 | (s', _) => s'
def St.unlink (s : St) (op : Op) (known : List Page) : St :=
 if s.root = nilP then s.fail 16 []
 else match s.descend known 0 op.key with
 | (s', .at_ page n) =>
   if n.right = nilP then { s' with out := { s'.out with found := true } }
   else match s'.look known n.right true with
   | (t, none) => t
   | (t, some (dp, d)) =>
     if d.level ≠ 0 then t.fail 14 []
     else if d.dead = false then { t with out := { t.out with found := true } }
     else ({ t with out := { t.out with to := n.right } } : St).finish [({ n with right := d.right } : Node).fill page] [dp.line]
 | (s', _) => s'
def isKey (k : Int) : Bool := decide (1 ≤ k) && decide (k ≤ maxKey)
def Op.isValid (op : Op) : Bool :=
 if op.kind = 6 then true
 else if op.kind = 5 then decide (1 ≤ op.key) && decide (0 ≤ op.level) && decide (op.level < 8)
 else if op.kind = 2 then isKey op.key && validP op.to
 else if op.kind = 4 then isKey op.key && isKey op.last && decide (op.key ≤ op.last) && decide (1 ≤ op.limit) && decide (op.limit ≤ 64)
 else if op.kind = 1 ∨ op.kind = 3 ∨ op.kind = 7 ∨ op.kind = 8 then isKey op.key
 else false
def St.readRoot (s : St) (op : Op) (known : List Page) : St × Bool :=
 match latest known 96 with
 | none => (s.wait 96, false)
 | some p =>
   if op.kind = 6 ∧ locked p = true then (s.fail 3 [], false)
   else match Bt.readRoot p with
   | none => (s.fail 14 [], false)
   | some (root, _) => ({ s with rootPage := p, root := root }, true)
def St.go (s : St) (op : Op) (known : List Page) : St :=
 if op.kind = 1 then s.find op known
 else if op.kind = 2 then s.insert op known
 else if op.kind = 3 then s.remove op known
 else if op.kind = 4 then s.scan op known
 else if op.kind = 5 then s.post op known
 else if op.kind = 6 then s.raise op known
 else if op.kind = 7 then s.kill op known
 else s.unlink op known
def sortPages : List Page → List Page
 | [p, q] => if q.line < p.line then [q, p] else [p, q]
 | l => l
structure Step where
 need : List Int
 writes : List Page
 out : Out
 over : Bool
 deriving DecidableEq, Repr, Inhabited
def St.close (s : St) : Step :=
 if s.need ≠ [] then ⟨s.need, [], {}, false⟩
 else ⟨[], sortPages s.writes, if s.ended then s.out else { s.out with hops := 0, height := 0, dead := false, unposted := false }, true⟩
def next (op : Op) (known : List Page) : Step :=
 if op.isValid = false then ⟨[], [], { code := 1 }, true⟩
 else match ({} : St).readRoot op known with
 | (s, false) => s.close
 | (s, true) => (s.go op known).close
end Go.Proofs.YtjmpekanlmepmaaGreatDoor.Bt
namespace Go.Proofs.YtjmpekanlmepmaaGreatDoor
open Go.RowKit
theorem and_u64_mask (k : Nat) (m x : Int) (hm : m = ((2 ^ k - 1 : Nat) : Int)) (hk : k ≤ 63) (h0 : 0 ≤ x) (h1 : x < 18446744073709551616) : bits .and .u64 x m = x % ((2 ^ k : Nat) : Int) := by
 obtain ⟨n, rfl⟩ := Int.eq_ofNat_of_zero_le h0
 have hle : 2 ^ k ≤ 2 ^ 63 := Nat.pow_le_pow_right (by omega) hk
 subst hm
 rw [u64_and_nat n (2 ^ k - 1) (by omega) (by omega), Nat.and_two_pow_sub_one_eq_mod, Int.natCast_emod]
theorem and_u64_8 (x : Int) (h0 : 0 ≤ x) (h1 : x < 18446744073709551616) : bits .and .u64 x 255 = x % 256 := and_u64_mask 8 255 x rfl (by omega) h0 h1
theorem and_u64_24 (x : Int) (h0 : 0 ≤ x) (h1 : x < 18446744073709551616) : bits .and .u64 x 16777215 = x % 16777216 := and_u64_mask 24 16777215 x rfl (by omega) h0 h1
theorem and_u32_mask (k : Nat) (m x : Int) (hm : m = ((2 ^ k - 1 : Nat) : Int)) (hk : k ≤ 31) (h0 : 0 ≤ x) (h1 : x < 4294967296) : bits .and .u32 x m = x % ((2 ^ k : Nat) : Int) := by
 obtain ⟨n, rfl⟩ := Int.eq_ofNat_of_zero_le h0
 have hle : 2 ^ k ≤ 2 ^ 31 := Nat.pow_le_pow_right (by omega) hk
 subst hm
 rw [u32_and_nat n (2 ^ k - 1) (by omega) (by omega), Nat.and_two_pow_sub_one_eq_mod, Int.natCast_emod]
theorem and_u32_8 (x : Int) (h0 : 0 ≤ x) (h1 : x < 4294967296) : bits .and .u32 x 255 = x % 256 := and_u32_mask 8 255 x rfl (by omega) h0 h1
theorem or_u64_join (k : Nat) (a b : Int) (ha0 : 0 ≤ a) (ha1 : a < 18446744073709551616) (hb0 : 0 ≤ b) (hb1 : b < 18446744073709551616) (ha : a % ((2 ^ k : Nat) : Int) = 0) (hb : b < ((2 ^ k : Nat) : Int)) : bits .or .u64 a b = a + b := by
 obtain ⟨n, rfl⟩ := Int.eq_ofNat_of_zero_le ha0
 obtain ⟨m, rfl⟩ := Int.eq_ofNat_of_zero_le hb0
 rw [u64_or_nat n m (by omega) (by omega), nat_join k n m (by rw [← Int.natCast_emod] at ha; omega) (by omega)]
 omega
theorem or_u64_comm (a b : Int) (ha0 : 0 ≤ a) (ha1 : a < 18446744073709551616) (hb0 : 0 ≤ b) (hb1 : b < 18446744073709551616) : bits .or .u64 a b = bits .or .u64 b a := by
 obtain ⟨n, rfl⟩ := Int.eq_ofNat_of_zero_le ha0
 obtain ⟨m, rfl⟩ := Int.eq_ofNat_of_zero_le hb0
 rw [u64_or_nat n m (by omega) (by omega), u64_or_nat m n (by omega) (by omega), Nat.or_comm]
theorem or_u64_join' (k : Nat) (a b : Int) (ha0 : 0 ≤ a) (ha1 : a < 18446744073709551616) (hb0 : 0 ≤ b) (hb1 : b < 18446744073709551616) (hb : b % ((2 ^ k : Nat) : Int) = 0) (ha : a < ((2 ^ k : Nat) : Int)) : bits .or .u64 a b = a + b := by
 rw [or_u64_comm a b ha0 ha1 hb0 hb1, or_u64_join k b a hb0 hb1 ha0 ha1 hb ha, Int.add_comm]
theorem or_u32_join (k : Nat) (a b : Int) (ha0 : 0 ≤ a) (ha1 : a < 4294967296) (hb0 : 0 ≤ b) (hb1 : b < 4294967296) (ha : a % ((2 ^ k : Nat) : Int) = 0) (hb : b < ((2 ^ k : Nat) : Int)) : bits .or .u32 a b = a + b := by
 obtain ⟨n, rfl⟩ := Int.eq_ofNat_of_zero_le ha0
 obtain ⟨m, rfl⟩ := Int.eq_ofNat_of_zero_le hb0
 rw [u32_or_nat n m (by omega) (by omega), nat_join k n m (by rw [← Int.natCast_emod] at ha; omega) (by omega)]
 omega
theorem or_u32_join' (k : Nat) (a b : Int) (ha0 : 0 ≤ a) (ha1 : a < 4294967296) (hb0 : 0 ≤ b) (hb1 : b < 4294967296) (hb : b % ((2 ^ k : Nat) : Int) = 0) (ha : a < ((2 ^ k : Nat) : Int)) : bits .or .u32 a b = a + b := by
 obtain ⟨n, rfl⟩ := Int.eq_ofNat_of_zero_le ha0
 obtain ⟨m, rfl⟩ := Int.eq_ofNat_of_zero_le hb0
 rw [u32_or_nat n m (by omega) (by omega), Nat.or_comm, nat_join k m n (by rw [← Int.natCast_emod] at hb; omega) (by omega)]
 omega
def Bt.Ptr.cells (p : Bt.Ptr) : Array Value := #[.int .i64 p.line, .int .i64 p.gen]
def Bt.Page.cells (p : Bt.Page) : Array Value := #[.int .i64 p.line, .int .u64 p.head, .int .u64 p.d0, .int .u64 p.d1, .int .u64 p.d2, .int .u64 p.d3, .int .u64 p.d4, .int .u64 p.d5, .int .u64 p.d6]
theorem results_blk {P : Program} {fn : Func} {p : Tmp} {ty : TypeId} (h : fn.results = #[.cell p ty]) (tmps : Array Value) (w : World) (g : Nat) (t : TypeId) (cs : Array Value) (d : TypeDesc)
 (hp : tmps.getD p undef = .pointer (some ⟨g, 0, none⟩)) (hg : Blk w g t cs) (hu : P.underlying ty = some d) (hd : (match d with | .struct _ | .array _ _ => true | _ => false) = true) (hi : (P.info? ty).map (·.size) = some cs.size) :
 (results fn tmps).run P w = .ok (.agg cs) w := by
 have e : (results fn tmps).run P w = ((asAddr (tmps.getD p undef)).run P w).andThen fun a w₁ => (loadVar ty a).run P w₁ := by
  simp only [results, h]
  simp [Sem.run_bind, Result.andThen]
 rw [e, hp]
 simp [asAddr, Result.andThen, run_loadVar_row w g t ty cs (0, 0) d hg hu hd hi]
theorem results_b {P : Program} {fn : Func} {p : Tmp} {ty : TypeId} (h : fn.results = #[.cell p ty]) (tmps : Array Value) (w : World) (g : Nat) (t : TypeId) (cs : Array Value) (d : TypeDesc)
 (hp : tmps.getD p undef = .pointer (some ⟨g, 0, none⟩)) (hg : Blk w g t cs) (hu : P.underlying ty = some d) (hd : (match d with | .struct _ | .array _ _ => true | _ => false) = true) (hi : (P.info? ty).map (·.size) = some cs.size) :
 (results fn tmps).run P w = .ok (.agg cs) w := results_blk h tmps w g t cs d hp hg hu hd hi
theorem results_bt {P : Program} {fn : Func} {p u : Tmp} {ty : TypeId} (h : fn.results = #[.cell p ty, .tmp u]) (tmps : Array Value) (w : World) (g : Nat) (t : TypeId) (cs : Array Value) (d : TypeDesc)
 (hp : tmps.getD p undef = .pointer (some ⟨g, 0, none⟩)) (hg : Blk w g t cs) (hu : P.underlying ty = some d) (hd : (match d with | .struct _ | .array _ _ => true | _ => false) = true) (hi : (P.info? ty).map (·.size) = some cs.size) :
 (results fn tmps).run P w = .ok (.tuple #[.agg cs, tmps.getD u undef]) w := results_blk_tmp h tmps w g t cs d hp hg hu hd hi
theorem results_btt {P : Program} {fn : Func} {p u u2 : Tmp} {ty : TypeId} (h : fn.results = #[.cell p ty, .tmp u, .tmp u2]) (tmps : Array Value) (w : World) (g : Nat) (t : TypeId) (cs : Array Value) (d : TypeDesc)
 (hp : tmps.getD p undef = .pointer (some ⟨g, 0, none⟩)) (hg : Blk w g t cs) (hu : P.underlying ty = some d) (hd : (match d with | .struct _ | .array _ _ => true | _ => false) = true) (hi : (P.info? ty).map (·.size) = some cs.size) :
 (results fn tmps).run P w = .ok (.tuple #[.agg cs, tmps.getD u undef, tmps.getD u2 undef]) w := by
 have e : (results fn tmps).run P w = ((asAddr (tmps.getD p undef)).run P w).andThen fun a w₁ => ((loadVar ty a).run P w₁).andThen fun v w₂ => .ok (.tuple #[v, tmps.getD u undef, tmps.getD u2 undef]) w₂ := by
  simp only [results, h]
  simp [Sem.run_bind, Result.andThen]
 rw [e, hp]
 simp [asAddr, Result.andThen, run_loadVar_row w g t ty cs (0, 0) d hg hu hd hi]
theorem results_ttbt {P : Program} {fn : Func} {p u u2 u3 : Tmp} {ty : TypeId} (h : fn.results = #[.tmp u, .tmp u2, .cell p ty, .tmp u3]) (tmps : Array Value) (w : World) (g : Nat) (t : TypeId) (cs : Array Value) (d : TypeDesc)
 (hp : tmps.getD p undef = .pointer (some ⟨g, 0, none⟩)) (hg : Blk w g t cs) (hu : P.underlying ty = some d) (hd : (match d with | .struct _ | .array _ _ => true | _ => false) = true) (hi : (P.info? ty).map (·.size) = some cs.size) :
 (results fn tmps).run P w = .ok (.tuple #[tmps.getD u undef, tmps.getD u2 undef, .agg cs, tmps.getD u3 undef]) w := by
 have e : (results fn tmps).run P w = ((asAddr (tmps.getD p undef)).run P w).andThen fun a w₁ => ((loadVar ty a).run P w₁).andThen fun v w₂ => .ok (.tuple #[tmps.getD u undef, tmps.getD u2 undef, v, tmps.getD u3 undef]) w₂ := by
  simp only [results, h]
  simp [Sem.run_bind, Result.andThen]
 rw [e, hp]
 simp [asAddr, Result.andThen, run_loadVar_row w g t ty cs (0, 0) d hg hu hd hi]
theorem Blk.put9 {w : World} {b : Nat} {t : TypeId} {cs : Array Value} (h : Blk w b t cs) (v0 v1 v2 v3 v4 v5 v6 v7 v8 : Value) :
 Blk (((((((((w.setCell ⟨b, 0, none⟩ v0).setCell ⟨b, 1, none⟩ v1).setCell ⟨b, 2, none⟩ v2).setCell ⟨b, 3, none⟩ v3).setCell ⟨b, 4, none⟩ v4).setCell ⟨b, 5, none⟩ v5).setCell ⟨b, 6, none⟩ v6).setCell ⟨b, 7, none⟩ v7).setCell ⟨b, 8, none⟩ v8) b t
  (((((((((cs.setIfInBounds 0 v0).setIfInBounds 1 v1).setIfInBounds 2 v2).setIfInBounds 3 v3).setIfInBounds 4 v4).setIfInBounds 5 v5).setIfInBounds 6 v6).setIfInBounds 7 v7).setIfInBounds 8 v8) :=
 ((((((((h.put 0 v0).put 1 v1).put 2 v2).put 3 v3).put 4 v4).put 5 v5).put 6 v6).put 7 v7).put 8 v8
theorem set2 (x0 x1 v0 v1 : Value) : ((#[x0, x1].setIfInBounds 0 v0).setIfInBounds 1 v1) = #[v0, v1] := by kernel_rfl
theorem set7 (x0 x1 x2 x3 x4 x5 x6 v0 v1 v2 v3 v4 v5 v6 : Value) : (((((((#[x0, x1, x2, x3, x4, x5, x6].setIfInBounds 0 v0).setIfInBounds 1 v1).setIfInBounds 2 v2).setIfInBounds 3 v3).setIfInBounds 4 v4).setIfInBounds 5 v5).setIfInBounds 6 v6) = #[v0, v1, v2, v3, v4, v5, v6] := by kernel_rfl
theorem set9 (x0 x1 x2 x3 x4 x5 x6 x7 x8 v0 v1 v2 v3 v4 v5 v6 v7 v8 : Value) : (((((((((#[x0, x1, x2, x3, x4, x5, x6, x7, x8].setIfInBounds 0 v0).setIfInBounds 1 v1).setIfInBounds 2 v2).setIfInBounds 3 v3).setIfInBounds 4 v4).setIfInBounds 5 v5).setIfInBounds 6 v6).setIfInBounds 7 v7).setIfInBounds 8 v8) = #[v0, v1, v2, v3, v4, v5, v6, v7, v8] := by kernel_rfl
theorem set16 (x0 x1 x2 x3 x4 x5 x6 x7 x8 x9 x10 x11 x12 x13 x14 x15 v0 v1 v2 v3 v4 v5 v6 v7 v8 v9 v10 v11 v12 v13 v14 v15 : Value) : ((((((((((((((((#[x0, x1, x2, x3, x4, x5, x6, x7, x8, x9, x10, x11, x12, x13, x14, x15].setIfInBounds 0 v0).setIfInBounds 1 v1).setIfInBounds 2 v2).setIfInBounds 3 v3).setIfInBounds 4 v4).setIfInBounds 5 v5).setIfInBounds 6 v6).setIfInBounds 7 v7).setIfInBounds 8 v8).setIfInBounds 9 v9).setIfInBounds 10 v10).setIfInBounds 11 v11).setIfInBounds 12 v12).setIfInBounds 13 v13).setIfInBounds 14 v14).setIfInBounds 15 v15) = #[v0, v1, v2, v3, v4, v5, v6, v7, v8, v9, v10, v11, v12, v13, v14, v15] := by kernel_rfl
theorem Blk.cast {w : World} {b : Nat} {t : TypeId} {cs cs' : Array Value} (h : Blk w b t cs) (e : cs = cs') : Blk w b t cs' := e ▸ h
theorem Blk.data7 {w : World} {b : Nat} {t : TypeId} {x0 x1 x2 x3 x4 x5 x6 x7 x8 : Value} (h : Blk w b t #[x0, x1, x2, x3, x4, x5, x6, x7, x8]) (v2 v3 v4 v5 v6 v7 v8 : Value) : Blk (((((((w.setCell ⟨b, 2, none⟩ v2).setCell ⟨b, 3, none⟩ v3).setCell ⟨b, 4, none⟩ v4).setCell ⟨b, 5, none⟩ v5).setCell ⟨b, 6, none⟩ v6).setCell ⟨b, 7, none⟩ v7).setCell ⟨b, 8, none⟩ v8) b t #[x0, x1, v2, v3, v4, v5, v6, v7, v8] := Blk.cast (((((((h.put 2 v2).put 3 v3).put 4 v4).put 5 v5).put 6 v6).put 7 v7).put 8 v8) (by kernel_rfl)
theorem Blk.all9 {w : World} {b : Nat} {t : TypeId} {x0 x1 x2 x3 x4 x5 x6 x7 x8 : Value} (h : Blk w b t #[x0, x1, x2, x3, x4, x5, x6, x7, x8]) (v0 v1 v2 v3 v4 v5 v6 v7 v8 : Value) : Blk (((((((((w.setCell ⟨b, 0, none⟩ v0).setCell ⟨b, 1, none⟩ v1).setCell ⟨b, 2, none⟩ v2).setCell ⟨b, 3, none⟩ v3).setCell ⟨b, 4, none⟩ v4).setCell ⟨b, 5, none⟩ v5).setCell ⟨b, 6, none⟩ v6).setCell ⟨b, 7, none⟩ v7).setCell ⟨b, 8, none⟩ v8) b t #[v0, v1, v2, v3, v4, v5, v6, v7, v8] := Blk.cast (((((((((h.put 0 v0).put 1 v1).put 2 v2).put 3 v3).put 4 v4).put 5 v5).put 6 v6).put 7 v7).put 8 v8) (by kernel_rfl)
theorem Blk.all2 {w : World} {b : Nat} {t : TypeId} {x0 x1 : Value} (h : Blk w b t #[x0, x1]) (v0 v1 : Value) : Blk ((w.setCell ⟨b, 0, none⟩ v0).setCell ⟨b, 1, none⟩ v1) b t #[v0, v1] := Blk.cast ((h.put 0 v0).put 1 v1) (by kernel_rfl)
section
variable (w : World) {t t' t2 : TypeId} {cs cs' cs2 : Array Value} {o o2 : Obj}
theorem made1 : Blk (w.alloc (.cells cs t)) w.heap.size t cs := Blk.made w t cs
theorem made12 : Blk ((w.alloc (.cells cs t)).alloc o) w.heap.size t cs := (Blk.made w t cs).alloc _
theorem made22 : Blk ((w.alloc o).alloc (.cells cs t)) (w.heap.size + 1) t cs := Blk.made' (by simp)
theorem made13 : Blk (((w.alloc (.cells cs t)).alloc o).alloc o2) w.heap.size t cs := ((Blk.made w t cs).alloc _).alloc _
theorem made23 : Blk (((w.alloc o).alloc (.cells cs t)).alloc o2) (w.heap.size + 1) t cs := (Blk.made' (by simp)).alloc _
theorem made33 : Blk (((w.alloc o).alloc o2).alloc (.cells cs t)) (w.heap.size + 1 + 1) t cs := Blk.made' (by simp)
theorem made44 {o3 : Obj} : Blk ((((w.alloc o).alloc o2).alloc o3).alloc (.cells cs t)) (w.heap.size + 1 + 1 + 1) t cs := Blk.made' (by simp)
end
theorem size_alloc (w : World) (o : Obj) : (w.alloc o).heap.size = w.heap.size + 1 := by simp
theorem size_setCell (w : World) (p : Addr) (v : Value) : (w.setCell p v).heap.size = w.heap.size := by simp [World.setCell]
theorem size_drew (w : World) : w.drew.heap.size = w.heap.size := rfl
theorem size_drewN (w : World) (n : Nat) : (w.drewN n).heap.size = w.heap.size := rfl
structure SteadyAll (w1 wx : World) : Prop where
 rule : ∀ b o, b < w1.heap.size → wx.cell? ⟨b, o, none⟩ = w1.cell? ⟨b, o, none⟩
structure SteadyBut (r : Nat) (w1 wx : World) : Prop where
 rule : ∀ b o, b < w1.heap.size → (b < r ∨ r < b) → wx.cell? ⟨b, o, none⟩ = w1.cell? ⟨b, o, none⟩
theorem SteadyAll.of {w1 wx : World} (h : Below w1.heap.size w1 wx) : SteadyAll w1 wx := ⟨fun b o hb => h.cell (p := ⟨b, o, none⟩) hb⟩
theorem SteadyBut.of {r : Nat} {w1 wx : World} (h : Below w1.heap.size w1 wx) : SteadyBut r w1 wx := ⟨fun b o hb _ => h.cell (p := ⟨b, o, none⟩) hb⟩
theorem SteadyBut.set {r : Nat} {w1 wx : World} (h : SteadyBut r w1 wx) (i : Nat) (v : Value) : SteadyBut r w1 (wx.setCell ⟨r, i, none⟩ v) :=
 ⟨fun b o hb hr => by rw [World.cell?_setCell_other _ _ _ _ (by intro e; injection e with e1; omega)]; exact h.rule b o hb hr⟩
section
variable {P : Program} {ops : Array Oper} {Q : Exit → Act → World → Prop} {md : Region.Mode} {S : World → Prop}
def takeable (md : Region.Mode) (ops : Array Oper) : Array Bool → List Nat → Bool
 | _, [] => true
 | l, i :: is => Region.free md ops l i && (Region.ready md ops l).contains i && takeable md ops (l.setIfInBounds i true) is
def TakeSeq (P : Program) (md : Region.Mode) (ops : Array Oper) (Q : Exit → Act → World → Prop) (S : World → Prop) (fuel : Nat) : List Nat → Array Bool → Act → World → Prop
 | [], l, a, w => wpAnyH P md ops Q S fuel l a w
 | i :: is, l, a, w => ∃ o v, ops[i]? = some o ∧ YieldsIf P ops S o v a ∧ TakeSeq P md ops Q S fuel is (l.setIfInBounds i true) (a.put o.dst v) w
theorem TakeSeq.step {fuel i : Nat} {is : List Nat} {l : Array Bool} {a : Act} {w : World} {o : Oper} {v : Value} (ho : ops[i]? = some o) (hy : YieldsIf P ops S o v a)
 (h : TakeSeq P md ops Q S fuel is (l.setIfInBounds i true) (a.put o.dst v) w) : TakeSeq P md ops Q S fuel (i :: is) l a w := ⟨o, v, ho, hy, h⟩
theorem TakeSeq.done {fuel : Nat} {l : Array Bool} {a : Act} {w : World} (h : wpAnyH P md ops Q S fuel l a w) : TakeSeq P md ops Q S fuel [] l a w := h
theorem wpAnyH_seq {is : List Nat} {fuel : Nat} {l : Array Bool} {a : Act} {w : World} (hs : Region.noSelect ops = true) (ht : takeable md ops l is = true)
 (hQ : ∀ c a d v w, Q (.panic c) (a.put d v) w → Q (.panic c) a w) (hS : S w) (h : TakeSeq P md ops Q S fuel is l a w) : wpAnyH P md ops Q S (fuel + is.length) l a w := by
 induction is generalizing l a with
 | nil => exact h
 | cons i is ih =>
   obtain ⟨o, v, ho, hy, h2⟩ := h
   simp only [takeable, Bool.and_eq_true] at ht
   exact wpAnyH_take ho hs ht.1.1 ht.1.2 (fun c a w => hQ c a o.dst v w) hy hS (ih ht.2 h2)
end
theorem qY {α : Type} : (∀ (l : List α) (i : Nat) (a : α), l.toArray.setIfInBounds i a = (l.set i a).toArray) ∧ (∀ (a b : α) (l : List α), (a :: l).set 0 b = b :: l) ∧ (∀ (a b : α) (l : List α) (n : Nat), (a :: l).set (n + 1) b = a :: l.set n b) ∧
 (∀ (l : List α) (i : Nat) (h : i < l.toArray.size), l.toArray[i] = l[i]'(by simpa using h)) ∧ (∀ (a : α) (l : List α) (h : 0 < (a :: l).length), (a :: l)[0] = a) ∧ (∀ (a : α) (l : List α) (i : Nat) (h : i + 1 < (a :: l).length), (a :: l)[i + 1] = l[i]'(by simpa using h)) :=
 ⟨fun _ _ _ => List.setIfInBounds_toArray .., fun _ _ _ => rfl, fun _ _ _ _ => rfl, fun _ _ _ => rfl, fun _ _ _ => rfl, fun _ _ _ _ => rfl⟩
section
variable {P : Program} {ops : Array Oper} {Q : Exit → Act → World → Prop} {md : Region.Mode} {S : World → Prop}
theorem qT {fuel i : Nat} {is : List Nat} {l : Array Bool} {a : Act} {w : World} {o : Oper} {v : Value} (h : TakeSeq P md ops Q S fuel is (l.setIfInBounds i true) (a.put o.dst v) w) (ho : ops[i]? = some o := by rfl) (hy : YieldsIf P ops S o v a := by first | exact Or.inr ⟨by rfl, rfl⟩ | (refine Or.inl ⟨by rfl, ?_⟩; intro wq hSq; have hrd := hSq.rule; go_simp; with_reducible rfl)) : TakeSeq P md ops Q S fuel (i :: is) l a w := .step ho hy h
theorem qS (is : List Nat) {fuel : Nat} {l : Array Bool} {a : Act} {w : World} (h : TakeSeq P md ops Q S fuel is l a w) (hs : Region.noSelect ops = true := by kernel_rfl) (ht : takeable md ops l is = true := by kernel_rfl)
 (hQ : ∀ c a d v w, Q (.panic c) (a.put d v) w → Q (.panic c) a w := by (intro _ _ d _ _ h; cases d <;> exact h)) (hS : S w := by assumption) : wpAnyH P md ops Q S (fuel + is.length) l a w := wpAnyH_seq hs ht hQ hS h
theorem qH (i : Nat) {fuel : Nat} {listed : Array Bool} {a : Act} {w : World} {o : Oper} (h : ∀ K' : Act → World → Prop, Shut (∀ a w, S w → (S w → wpAnyH P md ops Q S fuel (listed.setIfInBounds i true) a w) → K' a w) → Oper.wp P o a w K' Q)
 (hr : Region.ready md ops listed = [i] := by kernel_rfl) (ho : ops[i]? = some o := by rfl) (hw : Region.wanted o (yielded ops a.tmps) = true := by rfl) : wpAnyH P md ops Q S (fuel + 1) listed a w :=
 wpAnyH_ready hr (by simp) (AllReadyH.cons ho (fun K hK => by rw [if_pos hw]; exact h K hK) AllReadyH.nil)
theorem qD {listed : Array Bool} {a : Act} {w : World} (h : Q .normal a w) (fuel : Nat) (hr : Region.ready md ops listed = [] := by kernel_rfl) : wpAnyH P md ops Q S fuel listed a w := wpAnyH_done hr h fuel
theorem qA {id : Nat} {a : Act} {w : World} (h : SteadyAll w w.drew → wpAnyH P .any ops Q (SteadyAll w) ops.size (Array.replicate ops.size false) a w.drew) (hm : P.follows .mixedOrders = true := by kernel_rfl) : (Code.region id ops true).wp P Q a w := wp_region_held_drew hm (SteadyAll.of (Below.refl _ _).drew) h
theorem qB (r : Nat) {id : Nat} {a : Act} {w : World} (h : SteadyBut r w w.drew → wpAnyH P .any ops Q (SteadyBut r w) ops.size (Array.replicate ops.size false) a w.drew) (hm : P.follows .mixedOrders = true := by kernel_rfl) : (Code.region id ops true).wp P Q a w := wp_region_held_drew hm (SteadyBut.of (Below.refl _ _).drew) h
end
theorem qE {r : Nat} {w1 wx : World} (h : SteadyBut r w1 wx := by repeat (first | with_reducible refine SteadyBut.set ?_ _ _ | exact SteadyBut.of qL)) : SteadyBut r w1 wx := h
theorem ret_bool {a b : Bool} (h : a = b) : Ending.returned (.bool a) = .returned (.bool b) := by rw [h]
theorem inHeap_any (l : Int) (w : World) : Calls Tryz.prog 100 #[.int .i64 l] w fun e w' => e = .returned (.bool (Bt.inHeap l)) ∧ w = w' := by
 go_enter Tryz.func100, Tryz.ntmps100
 go_wp2
 all_goals go_ret
 ·have h : 104 ≤ l := by assumption
  exact ⟨ret_bool (by simp [Bt.inHeap, h]), rfl⟩
 ·have h : l < 104 := by assumption
  exact ⟨ret_bool (by simp [Bt.inHeap]; omega), rfl⟩
theorem Valid_any (l g : Int) (w : World) : Calls Tryz.prog 75 #[.agg #[.int .i64 l, .int .i64 g]] w fun e w' => e = .returned (.bool (Bt.validP ⟨l, g⟩)) ∧ Below w.heap.size w w' := by
 rcases hin : Bt.inHeap l with _ | _
 all_goals
  have Hin := hid hin
  clear hin
  go_enter Tryz.func75, Tryz.ntmps75
  go_wp2_with (go_at_call 100; refine (inHeap_any _ _).mono ?_; rintro e w' ⟨rfl, rfl⟩; rw [Hin.out])
  all_goals go_ret
 ·exact ⟨ret_bool (by simp [Bt.validP, Hin.out]), below_alloc (Below.refl _ _) _⟩
 ·have h : 1 ≤ g := by assumption
  exact ⟨ret_bool (by simp [Bt.validP, Hin.out, h]), below_alloc (Below.refl _ _) _⟩
 ·have h : g < 1 := by assumption
  refine ⟨ret_bool ?_, below_alloc (Below.refl _ _) _⟩
  have h' : ¬ (1 ≤ g) := by omega
  simp [Bt.validP, Hin.out, h']
theorem UnpackTag_any (x : Int) (h0 : 0 ≤ x) (h1 : x < 18446744073709551616) (w : World) : Calls Tryz.prog 62 #[.int .u64 x] w
 fun e w' => e = .returned (.agg #[.int .i64 (Bt.tagKind x), .int .i64 (Bt.tagGen x), .int .u32 (Bt.tagAux x)]) ∧ Below w.heap.size w w' := by
 have e1 := and_u64_8 x h0 h1
 have e2 := and_u64_24 (x / 256) (by omega) (by omega)
 go_enter Tryz.func62, Tryz.ntmps62
 go_wp2
 refine bodyPost_ret (results_blk rfl _ _ w.heap.size 122 _ _ rfl (Blk.made _ _ _) Tryz.underlying122 rfl (by kernel_rfl)) rfl ⟨rfl, below_alloc (Below.refl _ _) _⟩
theorem Pack_any (l g : Int) (w : World) : Calls Tryz.prog 44 #[.agg #[.int .i64 l, .int .i64 g]] w fun e w' => e = .returned (.int .u32 (Bt.pack ⟨l, g⟩)) ∧ Below w.heap.size w w' := by
 rcases hin : Bt.validP ⟨l, g⟩ with _ | _
 ·have Hin := hid hin
  clear hin
  go_enter Tryz.func44, Tryz.ntmps44
  go_wp2_with (go_at_call 75; refine (Valid_any _ _ _).mono ?_; rintro e w1 ⟨rfl, hb⟩; rw [Hin.out])
  all_goals go_ret
  exact ⟨ret_int (by simp [Bt.pack, Hin.out]), below_step (below_alloc (Below.refl _ _) _) hb⟩
 ·have Hin := hid hin
  have hv : 104 ≤ l ∧ l < 256 ∧ 1 ≤ g ∧ g ≤ 16777215 := by
   simp [Bt.validP, Bt.inHeap] at hin
   omega
  clear hin
  go_enter Tryz.func44, Tryz.ntmps44
  go_wp2_with fail
  go_at_call 75
  refine (Valid_any _ _ _).mono ?_
  rintro e w1 ⟨rfl, hb⟩
  have B1 := (Blk.made w 27 #[.int .i64 l, .int .i64 g]).kept hb
  have k1 := B1.cell
  rw [Hin.out]
  have eb := or_u32_join 8 (g * 256) l (by omega) (by omega) (by omega) (by omega) (by omega) (by omega)
  go_wp2
  go_ret
  exact ⟨ret_int (by simp [Bt.pack, Hin.out]), below_step (below_alloc (Below.refl _ _) _) hb⟩
theorem ret_u64 {a b : Int} (h : a = b) : Ending.returned (.int .u64 a) = .returned (.int .u64 b) := by rw [h]
theorem PackTag_any (k g a : Int) (hk : -9223372036854775808 ≤ k ∧ k ≤ 9223372036854775807) (hg : -9223372036854775808 ≤ g ∧ g ≤ 9223372036854775807) (ha : 0 ≤ a ∧ a < 4294967296) (w : World) :
 Calls Tryz.prog 99 #[.agg #[.int .i64 k, .int .i64 g, .int .u32 a]] w fun e w' => e = .returned (.int .u64 (Bt.packTag k g a)) ∧ Below w.heap.size w w' := by
 have hk8 : IntKind.u64.wrap k % 256 = k % 256 := by rw [IntKind.wrap_u64]; omega
 have hg24 : IntKind.u64.wrap g % 16777216 = g % 16777216 := by rw [IntKind.wrap_u64]; omega
 have e1 := and_u64_8 (IntKind.u64.wrap k) (by rw [IntKind.wrap_u64]; omega) (by rw [IntKind.wrap_u64]; omega)
 have e2 := and_u64_24 (IntKind.u64.wrap g) (by rw [IntKind.wrap_u64]; omega) (by rw [IntKind.wrap_u64]; omega)
 rw [hk8] at e1
 rw [hg24] at e2
 have e3 := or_u64_join' 8 (k % 256) (g % 16777216 * 256) (by omega) (by omega) (by omega) (by omega) (by omega) (by omega)
 have e4 := or_u64_join' 32 (k % 256 + g % 16777216 * 256) (a * 4294967296) (by omega) (by omega) (by omega) (by omega) (by omega) (by omega)
 clear hk8 hg24
 go_enter Tryz.func99, Tryz.ntmps99
 go_wp2
 go_ret
 exact ⟨ret_u64 (by simp [Bt.packTag]), qL⟩
theorem tagOf_any (p : Bt.Page) (hp : p.Ok) (w : World) :
 Calls Tryz.prog 66 #[.agg p.cells] w fun e w' => e = .returned (.agg #[.int .i64 (Bt.tagKind p.d0), .int .i64 (Bt.tagGen p.d0), .int .u32 (Bt.tagAux p.d0)]) ∧ Below w.heap.size w w' := by
 unfold Bt.Page.cells
 have h0 := hp.d0
 go_enter Tryz.func66, Tryz.ntmps66
 go_wp2_with fail
 go_at_call 62
 refine (UnpackTag_any p.d0 h0.1 h0.2 _).mono ?_
 rintro e w1 ⟨rfl, hb⟩
 have B2 := (made22 w).kept hb
 have k2 := B2.cell
 have f2 := B2.free
 go_wp2
 exact bodyPost_ret (results_blk rfl _ _ (w.heap.size + 1) 122 _ _ rfl (((B2.put 0 _).put 1 _).put 2 _) Tryz.underlying122 rfl (by kernel_rfl)) rfl ⟨rfl, qL⟩
theorem Locked_any (p : Bt.Page) (hp : p.Ok) (w : World) : Calls Tryz.prog 80 #[.agg p.cells] w fun e w' => e = .returned (.bool (Bt.locked p)) ∧ Below w.heap.size w w' := by
 unfold Bt.Page.cells
 have h0 := hp.head
 have e1 := and_u64_8 p.head h0.1 h0.2
 go_enter Tryz.func80, Tryz.ntmps80
 go_wp2
 go_ret
 refine ⟨ret_bool ?_, qL⟩
 unfold Bt.locked bne
 congr 1
end Go.Proofs.YtjmpekanlmepmaaGreatDoor
