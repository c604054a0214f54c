/- Small facts about memory that all walks of this seat use: a block that is known whole, and what lies below a mark. THE PLAIN MODEL of package btree (and of pointer) in Lean: no program in sight. All numbers are Int. Masks and joins of words, over Int. A region that draws its order, walked once by an invariant: whatever has been done already, each operation whose forerunners are done keeps it. Package pointer: its functions' contracts. Package pointer, second part. Package pointer, third part: pages that are known. -/
import Derived.Test.YtjmpekanlmepmaaGreatDoorRows
import Derived.WalkKit
import Derived.WalkSpells
import Derived.WalkLawsBesides
import Derived.Deep.DeepFit
import Derived.Deep.RegionWith
import Derived.Deep.QuietTactic
import Derived.BigQuiet
import Derived.Lib.Hide
import Derived.Deep.Draws
import Derived.Laws.ResultCell
import Derived.Laws.BitsAllLaws
import Derived.Orders
import Derived.Deep.RegionHeld3
import Derived.Deep.MidRow
set_option linter.unusedVariables false
set_option linter.unusedSimpArgs false
set_option linter.unusedSectionVars false
set_option linter.constructorNameAsVariable false
namespace Go.Proofs.YtjmpekanlmepmaaGreatDoor
open Go.RowKit

/-- A goal at which the walk is to stand still: 'go_wp2_with (at_builtin; refine halt ?_)', then 'refine unhalt ?_'. -/
def Halt (p : Prop) : Prop := p
theorem halt {p : Prop} (h : Halt p) : p := h
theorem unhalt {p : Prop} (h : p) : Halt p := h

/-- Block b holds just these cells, none of them frozen. -/
def Blk (w : World) (b : Nat) (t : TypeId) (cs : Array Value) : Prop := w.heap[b]? = some (.cells cs t (0, 0))

section
variable {w w' : World} {b : Nat} {t : TypeId} {cs : Array Value}

theorem Blk.lt (h : Blk w b t cs) : b < w.heap.size := by
  by_cases hb : b < w.heap.size
  · exact hb
  · unfold Blk at h
    rw [Array.getElem?_eq_none (by omega)] at h
    exact absurd h (by simp)
theorem Blk.cell (h : Blk w b t cs) : ∀ i, w.cell? ⟨b, i, none⟩ = cs[i]? := fun i => cell_of_row w b i cs t (0, 0) h
theorem Blk.free (h : Blk w b t cs) : ∀ i, w.frozen? ⟨b, i, none⟩ = false := fun i => frozen_of_row w b i cs t h
theorem Blk.made (w : World) (t : TypeId) (cs : Array Value) : Blk (w.alloc (.cells cs t)) w.heap.size t cs := heap_alloc_new w _
theorem Blk.made' {n : Nat} (hn : n = w.heap.size) : Blk (w.alloc (.cells cs t)) n t cs := by subst hn; exact Blk.made w t cs
theorem Blk.alloc (h : Blk w b t cs) (o : Obj) : Blk (w.alloc o) b t cs := (Below.heap_alloc w o b h.lt).trans h
theorem Blk.drew (h : Blk w b t cs) : Blk w.drew b t cs := h
theorem Blk.drewN (h : Blk w b t cs) (n : Nat) : Blk (w.drewN n) b t cs := h
theorem Blk.put (h : Blk w b t cs) (i : Nat) (v : Value) : Blk (w.setCell ⟨b, i, none⟩ v) b t (cs.setIfInBounds i v) := heap_setCell_same w b i cs t v h
theorem Blk.aside (h : Blk w b t cs) {p : Addr} (hp : b ≠ p.block) (v : Value) : Blk (w.setCell p v) b t cs := (heap_setCell_other w p b v hp).trans h
theorem Blk.below {B : Nat} (h : Blk w b t cs) (hb : Below B w w') (hlt : b < B) : Blk w' b t cs := (hb.block b hlt).trans h
theorem Blk.kept (h : Blk w b t cs) (hb : Below w.heap.size w w') : Blk w' b t cs := h.below hb h.lt
theorem Blk.grown {row : Option Nat} (h : Blk w b t cs) (hg : w.grownBy w' row) (hr : some b ≠ row) : Blk w' b t cs := (hg.block b h.lt hr).trans h
end

/-- What lay below a mark reads as it did: two rules for the walk. -/
theorem below_rules {w w1 : World} (hb : Below w.heap.size w w1) : (∀ b o, b < w.heap.size → w1.cell? ⟨b, o, none⟩ = w.cell? ⟨b, o, none⟩) ∧ (∀ b o, b < w.heap.size → w1.frozen? ⟨b, o, none⟩ = w.frozen? ⟨b, o, none⟩) :=
  ⟨fun b o h => hb.cell (p := ⟨b, o, none⟩) h, fun b o h => hb.frozen (p := ⟨b, o, none⟩) h⟩

theorem below_alloc {w w1 : World} (h : Below w.heap.size w w1) (o : Obj) : Below w.heap.size w (w1.alloc o) := h.alloc h.size o
theorem below_drewN {B : Nat} {w w1 : World} (h : Below B w w1) (n : Nat) : Below B w (w1.drewN n) := ⟨h.os, h.tape, h.output, h.size, h.block⟩
theorem below_step {w w1 w2 : World} (h : Below w.heap.size w w1) (h2 : Below w1.heap.size w1 w2) : Below w.heap.size w w2 := h.trans (h2.mono h.size)

/-- A function that hands back a struct (which lies in a variable) and a plain value. -/
theorem results_blk_tmp {P : Program} {fn : Func} {p u : Tmp} {ty : TypeId} (h : fn.results = #[.cell p ty, .tmp u]) (tmps : Array Value) (w : World) (g : Nat) (t : TypeId) (cs : Array Value) (d : TypeDesc)
    (hp : tmps.getD p undef = .pointer (some ⟨g, 0, none⟩)) (hg : Blk w g t cs) (hu : P.underlying ty = some d) (hd : (match d with | .struct _ | .array _ _ => true | _ => false) = true) (hi : (P.info? ty).map (·.size) = some cs.size) :
    (results fn tmps).run P w = .ok (.tuple #[.agg cs, tmps.getD u undef]) w := by
  rw [results_cell_tmp h, hp]
  simp [asAddr, run_loadVar_row w g t ty cs (0, 0) d hg hu hd hi]

theorem below_grown {w w1 w2 : World} {row : Option Nat} (h : Below w.heap.size w w1) (hg : w1.grownBy w2 row) (hr : ∀ k, row = some k → w.heap.size ≤ k) : Below w.heap.size w w2 := h.grown hg h.size hr

/-- A row of the call's own, its slice written out. -/
theorem own_cells {w : World} {base g n cap size : Nat} {e : TypeId} {xs : List Value} (h : w.ownsRow base e size (.slice (some ⟨g, 0, none⟩) n cap) n xs) : ∀ j u, xs[j]? = some u → w.cell? ⟨g, j, none⟩ = some u := by
  intro j u hu
  have hj : j < xs.length := (List.getElem?_eq_some_iff.1 hu).1
  rw [h.cellAt j (by rw [← h.1]; exact hj)]
  exact hu
theorem own_lt {w : World} {base g n cap size : Nat} {e : TypeId} {xs : List Value} (h : w.ownsRow base e size (.slice (some ⟨g, 0, none⟩) n cap) n xs) : base ≤ g ∧ g < w.heap.size := h.lt g rfl
theorem own_cap {w : World} {base g n cap size : Nat} {e : TypeId} {xs : List Value} (h : w.ownsRow base e size (.slice (some ⟨g, 0, none⟩) n cap) n xs) : n ≤ cap ∧ cap ≤ maxLen := by
  rcases h.2 with ⟨h', _⟩ | ⟨g', cap', cur, h', _, _, h1, h2, _⟩
  · simp at h'
  · simp only [Value.slice.injEq, Option.some.injEq, Addr.mk.injEq, and_true, true_and] at h'
    obtain ⟨rfl, rfl⟩ := h'
    exact ⟨h1, h2⟩
theorem own_form {w : World} {base n size : Nat} {e : TypeId} {v : Value} {xs : List Value} (h : w.ownsRow base e size v n xs) (hn : 0 < n) : ∃ g cap, v = .slice (some ⟨g, 0, none⟩) n cap := by
  rcases h.2 with ⟨_, h0⟩ | ⟨g, cap, _, hv, _⟩
  · omega
  · exact ⟨g, cap, hv⟩

/-- An append of at least one element onto a row of the call's own: the slice that comes of it is written out. -/
theorem wpList_append_mine {P : Program} {w : World} {ops : Array Oper} {rest : List Oper} {o : Oper} {a : Act} {Q : Exit → Act → World → Prop} (hgd : o.guard = none) (s x : Operand) (t : TypeId)
    (ho : o.op = .call { callee := .builtin .append, args := #[s, x], argTypes := #[t, t] })
    (base : Nat) (e : TypeId) (i : TypeInfo) (z : Value) (size bytes : Nat) (ht : P.underlying t = some (.slice e)) (hi : P.info? e = some i) (hz : i.zero = some z)
    (hsize : i.size = size) (hby : i.bytes = bytes) (hzs : z.cells.size = size) (hsz : 0 < size)
    (v : Value) (n : Nat) (xs : List Value) (hs : a.eval s = v) (hown : w.ownsRow base e size v n xs)
    (ad : Addr) (m c : Nat) (news : List Value) (hx : a.eval x = .slice (some ad) m c) (hl : news.length = m * size) (hnews : ∀ j u, news[j]? = some u → w.cell? (ad.add j) = some u) (h1 : ∀ u ∈ news, u.oneCell' = true)
    (hm : 0 < m) (h63 : n + m ≤ maxLen) (hbytes : (n + m) * bytes ≤ 140737488355328) (hbase : base ≤ w.heap.size)
    (h : ∀ g cap w', w'.ownsRow base e size (.slice (some ⟨g, 0, none⟩) (n + m) cap) (n + m) (xs ++ news) → w.grownBy w' v.ownBlock → wpList P ops Q rest (a.put o.dst (.slice (some ⟨g, 0, none⟩) (n + m) cap)) w') : wpList P ops Q (o :: rest) a w :=
  wpList_append_own w hgd s x t ho base e i z size bytes ht hi hz hsize hby hzs hsz v n xs hs hown ad m c news hx hl hnews h1 h63 hbytes hbase fun v' w' h2 h3 _ => by
    obtain ⟨g, cap, rfl⟩ := own_form h2 (by omega)
    exact h g cap w' h2 h3

theorem wp_append_mine {P : Program} {w : World} {o : Oper} {a : Act} {K : Act → World → Prop} {Q : Exit → Act → World → Prop} (s x : Operand) (t : TypeId)
    (ho : o.op = .call { callee := .builtin .append, args := #[s, x], argTypes := #[t, t] })
    (base : Nat) (e : TypeId) (i : TypeInfo) (z : Value) (size bytes : Nat) (ht : P.underlying t = some (.slice e)) (hi : P.info? e = some i) (hz : i.zero = some z)
    (hsize : i.size = size) (hby : i.bytes = bytes) (hzs : z.cells.size = size) (hsz : 0 < size)
    (v : Value) (n : Nat) (xs : List Value) (hs : a.eval s = v) (hown : w.ownsRow base e size v n xs)
    (ad : Addr) (m c : Nat) (news : List Value) (hx : a.eval x = .slice (some ad) m c) (hl : news.length = m * size) (hnews : ∀ j u, news[j]? = some u → w.cell? (ad.add j) = some u) (h1 : ∀ u ∈ news, u.oneCell' = true)
    (hm : 0 < m) (h63 : n + m ≤ maxLen) (hbytes : (n + m) * bytes ≤ 140737488355328) (hbase : base ≤ w.heap.size)
    (h : ∀ g cap w', w'.ownsRow base e size (.slice (some ⟨g, 0, none⟩) (n + m) cap) (n + m) (xs ++ news) → w.grownBy w' v.ownBlock → K (a.put o.dst (.slice (some ⟨g, 0, none⟩) (n + m) cap)) w') : o.wp P a w K Q :=
  wp_append_own w s x t ho base e i z size bytes ht hi hz hsize hby hzs hsz v n xs hs hown ad m c news hx hl hnews h1 h63 hbytes hbase fun v' w' h2 h3 _ => by
    obtain ⟨g, cap, rfl⟩ := own_form h2 (by omega)
    exact h g cap w' h2 h3

theorem one_news {w : World} {b : Nat} {u : Value} (h : w.cell? ⟨b, 0, none⟩ = some u) : ∀ j v, [u][j]? = some v → w.cell? ((⟨b, 0, none⟩ : Addr).add j) = some v := by
  intro j v hv
  match j with
  | 0 => simp at hv; subst hv; exact h
  | j + 1 => simp at hv

theorem tmod_emod_self (n k : Int) : n.tmod k % k = n % k := by
  have h := Int.mul_tdiv_add_tmod n k
  conv => rhs; rw [← h]
  rw [Int.add_emod, Int.mul_emod_right, Int.zero_add, Int.emod_emod]

theorem ret_int {k : IntKind} {a b : Int} (h : a = b) : Ending.returned (.int k a) = .returned (.int k b) := by rw [h]

end Go.Proofs.YtjmpekanlmepmaaGreatDoor
namespace Go.Proofs.YtjmpekanlmepmaaGreatDoor.Bt

structure Ptr where
  line : Int
  gen : Int
  deriving DecidableEq, Repr, Inhabited

def nilP : Ptr := ⟨0, 0⟩

structure Page where
  line : Int
  head : Int
  d0 : Int
  d1 : Int
  d2 : Int
  d3 : Int
  d4 : Int
  d5 : Int
  d6 : Int
  deriving DecidableEq, Repr, Inhabited

def zeroPage : Page := ⟨0, 0, 0, 0, 0, 0, 0, 0, 0⟩

/-- Every number of the page is one that its field can hold. -/
structure Page.Ok (p : Page) : Prop where
  head : 0 ≤ p.head ∧ p.head < 18446744073709551616
  d0 : 0 ≤ p.d0 ∧ p.d0 < 18446744073709551616
  d1 : 0 ≤ p.d1 ∧ p.d1 < 18446744073709551616
  d2 : 0 ≤ p.d2 ∧ p.d2 < 18446744073709551616
  d3 : 0 ≤ p.d3 ∧ p.d3 < 18446744073709551616
  d4 : 0 ≤ p.d4 ∧ p.d4 < 18446744073709551616
  d5 : 0 ≤ p.d5 ∧ p.d5 < 18446744073709551616
  d6 : 0 ≤ p.d6 ∧ p.d6 < 18446744073709551616

structure Entry where
  key : Int
  to : Ptr
  deriving DecidableEq, Repr, Inhabited

structure Node where
  level : Int
  leftmost : Bool
  dead : Bool
  high : Int
  right : Ptr
  entries : List Entry
  deriving DecidableEq, Repr, Inhabited

def zeroNode : Node := ⟨0, false, false, 0, nilP, []⟩

/-! ### package pointer -/
def inHeap (line : Int) : Bool := decide (104 ≤ line) && decide (line < 256)
def validP (p : Ptr) : Bool := inHeap p.line && decide (1 ≤ p.gen) && decide (p.gen ≤ 16777215)
def pack (p : Ptr) : Int := if validP p then p.gen * 256 + p.line else 0
def unpack (w : Int) : Ptr := ⟨w % 256, w / 256⟩
def tagKind (w : Int) : Int := w % 256
def tagGen (w : Int) : Int := w / 256 % 16777216
def tagAux (w : Int) : Int := w / 4294967296
def packTag (kind gen aux : Int) : Int := kind % 256 + gen % 16777216 * 256 + aux * 4294967296
def locked (p : Page) : Bool := !(decide (p.head % 256 = 0))
def at_ (p : Page) : Ptr := ⟨p.line, tagGen p.d0⟩
def latest (known : List Page) (line : Int) : Option Page := known.reverse.find? (fun p => decide (p.line = line))

inductive Look where
  | found (p : Page)
  | missing
  | bad (code : Int)
  deriving DecidableEq, Repr

/-- Codes: 0 OK, 1 ErrArg, 3 ErrBusy, 11 ErrStale, 14 ErrCorrupt, 16 ErrNotFound, 17 ErrExists, 18 ErrLimit, 12 ErrFull, 7 ErrConflict. -/
def lookup (known : List Page) (p : Ptr) (kind : Int) (locks : Bool) : Look :=
  if validP p then
    match latest known p.line with
    | none => .missing
    | some page =>
      if locks && locked page then .bad 3
      else if tagKind page.d0 = 0 ∨ tagGen page.d0 ≠ p.gen then .bad 11
      else if tagKind page.d0 ≠ kind then .bad 14
      else .found page
  else .bad 1

def allocate (p : Page) (kind aux : Int) : Page × Int :=
  if inHeap p.line = false ∨ kind < 1 ∨ kind > 4 then (zeroPage, 1)
  else if locked p then (zeroPage, 3)
  else if tagKind p.d0 ≠ 0 then (zeroPage, 17)
  else if tagGen p.d0 = 16777215 then (zeroPage, 18)
  else (⟨p.line, p.head, packTag kind (tagGen p.d0 + 1) aux, 0, 0, 0, 0, 0, 0⟩, 0)

/-! ### nodes -/
def risingFrom (last : Int) : List Entry → Bool
  | [] => true
  | e :: es => decide (last < e.key) && validP e.to && risingFrom e.key es
def rising (es : List Entry) : Bool := risingFrom 0 es

def lastKey : List Entry → Int
  | [] => 0
  | [e] => e.key
  | _ :: es => lastKey es

def maxKey : Int := 4294967294
def maxHigh : Int := 4294967295

def Node.valid (n : Node) : Bool :=
  if n.level < 0 ∨ 8 < n.level ∨ 5 < n.entries.length ∨ rising n.entries = false ∨ n.high = 0 then false
  else if (n.right ≠ nilP ∧ validP n.right = false) ∨ decide (n.high = maxHigh) ≠ decide (n.right = nilP) then false
  else if 0 < n.level then !n.dead && decide (lastKey n.entries = n.high)
  else if n.dead = true ∧ (0 < n.entries.length ∨ n.leftmost = true ∨ n.right = nilP) then false
  else decide (lastKey n.entries ≤ n.high) && decide (lastKey n.entries ≤ maxKey)

def flag (b : Bool) (v : Int) : Int := if b then v else 0
def Node.aux (n : Node) : Int := n.level + n.entries.length * 256 + flag n.leftmost 65536 + flag n.dead 131072
def entryWord (e : Entry) : Int := e.key * 4294967296 + pack e.to
def wordAt (es : List Entry) (i : Nat) : Int := match es[i]? with | some e => entryWord e | none => 0

def Node.fill (n : Node) (p : Page) : Page :=
  ⟨p.line, p.head, packTag (tagKind p.d0) (tagGen p.d0) n.aux, n.high + pack n.right * 4294967296,
    wordAt n.entries 0, wordAt n.entries 1, wordAt n.entries 2, wordAt n.entries 3, wordAt n.entries 4⟩

def entryOf (w : Int) : Entry := ⟨w / 4294967296, unpack (w % 4294967296)⟩
def Page.words (p : Page) : List Int := [p.d2, p.d3, p.d4, p.d5, p.d6]
def Page.count (p : Page) : Int := tagAux p.d0 / 256 % 256
/-- The node of a page, as it stands there, checked or not. -/
def Page.node (p : Page) : Node :=
  ⟨tagAux p.d0 % 256, decide (tagAux p.d0 / 65536 % 2 = 1), decide (tagAux p.d0 / 131072 % 2 = 1), p.d1 % 4294967296, unpack (p.d1 / 4294967296), (p.words.take p.count.toNat).map entryOf⟩

def readNode (p : Page) : Option Node :=
  if tagKind p.d0 ≠ 4 ∨ 5 < p.count then none
  else if p.node.valid = true ∧ p.node.fill p = p then some p.node else none

def writeNode (p : Page) (n : Node) : Option Page := if tagKind p.d0 ≠ 4 ∨ n.valid = false then none else some (n.fill p)

def validRoot (root : Ptr) (level : Int) : Bool := if root = nilP then decide (level = 0) else validP root && decide (0 ≤ level) && decide (level ≤ 8)

/-- The root pointer and its level, or an error. -/
def readRoot (p : Page) : Option (Ptr × Int) :=
  if validRoot (unpack (p.d0 % 4294967296)) (p.d0 / 4294967296) then some (unpack (p.d0 % 4294967296), p.d0 / 4294967296) else none

def writeRoot (p : Page) (root : Ptr) (level : Int) : Page := { p with d0 := pack root + level * 4294967296 }

/-! ### operations -/
structure Op where
  kind : Int
  key : Int
  last : Int
  to : Ptr
  level : Int
  limit : Int
  fresh : List Page
  deriving DecidableEq, Repr, Inhabited

structure Out where
  code : Int := 0
  found : Bool := false
  done : Bool := false
  split : Bool := false
  unposted : Bool := false
  dead : Bool := false
  more : Bool := false
  to : Ptr := nilP
  entries : List Entry := []
  check : List Int := []
  hops : Int := 0
  fresh : Int := 0
  height : Int := 0
  deriving DecidableEq, Repr, Inhabited

/-- An operation under way (without the operation itself, and without what is known). -/
structure St where
  need : List Int := []
  writes : List Page := []
  out : Out := {}
  rootPage : Page := zeroPage
  root : Ptr := nilP
  ended : Bool := false
  deriving DecidableEq, Repr, Inhabited

def insertSorted (x : Int) : List Int → List Int
  | [] => [x]
  | y :: ys => if x ≤ y then x :: y :: ys else y :: insertSorted x ys
def sortInts : List Int → List Int
  | [] => []
  | x :: xs => insertSorted x (sortInts xs)
def compact : List Int → List Int
  | [] => []
  | [x] => [x]
  | x :: y :: ys => if x = y then compact (y :: ys) else x :: compact (y :: ys)

def St.wait (s : St) (line : Int) : St := { s with need := [line] }
def St.fail (s : St) (code : Int) (check : List Int) : St := { s with out := { s.out with code := code, check := compact (sortInts check) } }

def St.look (s : St) (known : List Page) (p : Ptr) (locks : Bool) : St × Option (Page × Node) :=
  match lookup known p 4 locks with
  | .bad c => (s.fail c [], none)
  | .missing => (s.wait p.line, none)
  | .found page =>
    match readNode page with
    | none => (s.fail 14 [], none)
    | some n => (s, some (page, n))

def St.neighbour (s : St) (known : List Page) (x : Node) : St × Option (Page × Node) :=
  match s.look known x.right false with
  | (s', none) => (s', none)
  | (s', some (page, n)) => if n.level ≠ x.level then (s'.fail 14 [], none) else (s', some (page, n))

def child : List Entry → Int → Nat
  | [], _ => 0
  | e :: es, k => if e.key < k then child es k + 1 else 0

/-- What a descent has come to. -/
inductive Walk where
  | absent
  | stopped
  | at_ (page : Page) (node : Node)
  deriving DecidableEq, Repr

def St.hop (s : St) (n : Node) : St := { s with out := { s.out with hops := s.out.hops + 1, dead := s.out.dead || n.dead, unposted := s.out.unposted || !n.dead } }

/-- The loop of a descent: 'moves' moves have been made; the fuel is 257 - moves + level. -/
def descendFrom (known : List Page) (level k height : Int) : Nat → St → Int → Page → Node → St × Walk
  | 0, s, _, _, _ => (s, .stopped)
  | fuel + 1, s, moves, page, n =>
    if n.dead = true ∨ n.high < k then
      if 256 < moves + 1 then ((s.hop n).fail 14 [], .stopped)
      else
        match (s.hop n).neighbour known n with
        | (s', none) => (s', .stopped)
        | (s', some (page', n')) => descendFrom known level k height fuel s' (moves + 1) page' n'
    else if n.level = level then
      if locked page then (({ s with ended := true, out := { s.out with height := height } } : St).fail 3 [], .stopped)
      else ({ s with ended := true, out := { s.out with height := height } }, .at_ page n)
    else
      match n.entries[child n.entries k]? with
      | none => (s, .stopped)
      | some e =>
        match s.look known e.to false with
        | (s', none) => (s', .stopped)
        | (s', some (page', n')) =>
          if n'.level ≠ n.level - 1 then (s'.fail 14 [], .stopped)
          else descendFrom known level k height fuel s' moves page' n'

def St.descend (s : St) (known : List Page) (level k : Int) : St × Walk :=
  match s.look known s.root false with
  | (s', none) => (s', .stopped)
  | (s', some (page, n)) =>
    if n.level < level then (s', .absent)
    else descendFrom known level k (n.level + 1) (257 + n.level.toNat) s' 0 page n

def St.noTree (s : St) (code : Int) : St := if locked s.rootPage then s.fail 3 [] else s.fail code [96]

def St.fresh (s : St) (op : Op) (taken : List Int) : St × Option Page :=
  match op.fresh with
  | [] => (({ s with out := { s.out with fresh := 1 } } : St).fail 18 [], none)
  | p :: _ =>
    if (allocate p 4 0).2 ≠ 0 ∨ (allocate p 4 0).1.line ∈ taken then (s.fail 1 [], none)
    else (s, some (allocate p 4 0).1)

def St.finish (s : St) (writes : List Page) (check : List Int) : St := ({ s with writes := writes, out := { s.out with done := true } } : St).fail 0 check

def hasKey (es : List Entry) (k : Int) : Bool := match es[child es k]? with | some e => decide (e.key = k) | none => false

def St.find (s : St) (op : Op) (known : List Page) : St :=
  if s.root = nilP then s.noTree 0
  else match s.descend known 0 op.key with
  | (s', .at_ page n) =>
    if hasKey n.entries op.key then ({ s' with out := { s'.out with found := true, to := (n.entries.getD (child n.entries op.key) default).to } } : St).fail 0 [page.line]
    else s'.fail 0 [page.line]
  | (s', _) => s'

def St.plant (s : St) (op : Op) (e : Entry) : St :=
  if locked s.rootPage then s.fail 3 []
  else match s.fresh op [] with
  | (s', none) => s'
  | (s', some p) => s'.finish [writeRoot s.rootPage (at_ p) 0, (⟨0, true, false, maxHigh, nilP, [e]⟩ : Node).fill p] []

def St.store (s : St) (op : Op) (page : Page) (n : Node) (es : List Entry) (check : List Int) : St :=
  if es.length ≤ 5 then s.finish [({ n with entries := es } : Node).fill page] check
  else match s.fresh op (check ++ [page.line]) with
  | (s', none) => s'
  | (s', some p) =>
    ({ s' with out := { s'.out with split := true } } : St).finish
      [({ n with high := (es.getD 2 default).key, right := at_ p, entries := es.take 3 } : Node).fill page, (⟨n.level, false, false, n.high, n.right, es.drop 3⟩ : Node).fill p] check

def insertAt (es : List Entry) (i : Nat) (e : Entry) : List Entry := es.take i ++ e :: es.drop i
def deleteAt (es : List Entry) (i : Nat) : List Entry := es.take i ++ es.drop (i + 1)

def St.insert (s : St) (op : Op) (known : List Page) : St :=
  if s.root = nilP then s.plant op ⟨op.key, op.to⟩
  else match s.descend known 0 op.key with
  | (s', .at_ page n) =>
    if hasKey n.entries op.key then s'.fail 17 [page.line]
    else s'.store op page n (insertAt n.entries (child n.entries op.key) ⟨op.key, op.to⟩) []
  | (s', _) => s'

def St.remove (s : St) (op : Op) (known : List Page) : St :=
  if s.root = nilP then s.noTree 16
  else match s.descend known 0 op.key with
  | (s', .at_ page n) =>
    if hasKey n.entries op.key then ({ s' with out := { s'.out with to := (n.entries.getD (child n.entries op.key) default).to } } : St).store op page n (deleteAt n.entries (child n.entries op.key)) []
    else s'.fail 16 [page.line]
  | (s', _) => s'

/-- What a scan takes of a leaf's entries. -/
def scanTake (lo hi limit : Int) : List Entry → List Entry → List Entry
  | acc, [] => acc
  | acc, e :: es => if lo ≤ e.key ∧ e.key ≤ hi ∧ (acc.length : Int) < limit then scanTake lo hi limit (acc ++ [e]) es else scanTake lo hi limit acc es

def scanFrom (op : Op) (known : List Page) : Nat → St → Int → List Entry → List Int → Page → Node → St
  | 0, s, _, _, _, _, _ => s
  | fuel + 1, s, moves, acc, check, page, n =>
    let onward (s : St) (acc : List Entry) (check : List Int) : St :=
      if 256 < moves + 1 then ({ s with out := { s.out with hops := s.out.hops + 1, dead := s.out.dead || n.dead } } : St).fail 14 []
      else match ({ s with out := { s.out with hops := s.out.hops + 1, dead := s.out.dead || n.dead } } : St).neighbour known n with
        | (s', none) => s'
        | (s', some (page', n')) => scanFrom op known fuel s' (moves + 1) acc check page' n'
    if n.dead then onward s acc check
    else if locked page then s.fail 3 []
    else
      let acc' := scanTake op.key op.last op.limit acc n.entries
      let more := decide ((acc'.length : Int) = op.limit)
      let s' : St := { s with out := { s.out with more := more } }
      if more = true ∨ op.last ≤ n.high then ({ s' with out := { s'.out with entries := acc' } } : St).fail 0 (check ++ [page.line])
      else onward s' acc' (check ++ [page.line])

def St.scan (s : St) (op : Op) (known : List Page) : St :=
  if s.root = nilP then s.noTree 0
  else match s.descend known 0 op.key with
  | (s', .at_ page n) => scanFrom op known 257 s' 0 [] [] page n
  | (s', _) => s'

def setTo (es : List Entry) (i : Nat) (p : Ptr) : List Entry := es.modify i (fun e => { e with to := p })

def St.post (s : St) (op : Op) (known : List Page) : St :=
  if s.root = nilP then s.fail 16 []
  else match s.descend known (op.level + 1) op.key with
  | (s', .absent) => s'.fail 16 []
  | (s', .stopped) => s'
  | (s', .at_ page n) =>
    let i := child n.entries op.key
    let e := n.entries.getD i default
    match s'.look known e.to true with
    | (t, none) => t
    | (t, some (xp, x)) =>
      if x.level ≠ op.level then t.fail 14 []
      else if x.dead then t.fail 11 []
      else if e.key ≤ x.high then { t with out := { t.out with found := true } }
      else if 0 < i ∧ x.high ≤ (n.entries.getD (i - 1) default).key then t.fail 14 []
      else t.store op page n (setTo (insertAt n.entries i ⟨x.high, e.to⟩) (i + 1) x.right) [xp.line]

def St.raise (s : St) (op : Op) (known : List Page) : St :=
  if s.root = nilP then s.fail 16 []
  else match s.look known s.root true with
  | (s', none) => s'
  | (s', some (page, n)) =>
    if n.right = nilP then { s' with out := { s'.out with found := true } }
    else if n.level = 8 then s'.fail 12 []
    else match s'.fresh op [page.line] with
    | (t, none) => t
    | (t, some p) =>
      t.finish [writeRoot t.rootPage (at_ p) (n.level + 1), (⟨n.level + 1, true, false, maxHigh, nilP, [⟨n.high, t.root⟩, ⟨maxHigh, n.right⟩]⟩ : Node).fill p] [page.line]

def St.kill (s : St) (op : Op) (known : List Page) : St :=
  if s.root = nilP then s.fail 16 []
  else match s.descend known 0 op.key with
  | (s', .at_ page n) =>
    if 0 < n.entries.length ∨ n.leftmost = true ∨ n.right = nilP then { s' with out := { s'.out with found := true } }
    else match s'.descend known 1 op.key with
    | (t, .absent) => t.fail 7 []
    | (t, .stopped) => t
    | (t, .at_ pp m) =>
      let i := child m.entries op.key
      let e := m.entries.getD i default
      if e.to ≠ at_ page ∨ e.key ≠ n.high then t.fail 7 []
      else if i + 1 = m.entries.length then { t with out := { t.out with found := true } }
      else t.finish [({ n with dead := true } : Node).fill page, ({ m with entries := deleteAt m.entries i } : Node).fill pp] []
  | (s', _) => s'

def St.unlink (s : St) (op : Op) (known : List Page) : St :=
  if s.root = nilP then s.fail 16 []
  else match s.descend known 0 op.key with
  | (s', .at_ page n) =>
    if n.right = nilP then { s' with out := { s'.out with found := true } }
    else match s'.look known n.right true with
    | (t, none) => t
    | (t, some (dp, d)) =>
      if d.level ≠ 0 then t.fail 14 []
      else if d.dead = false then { t with out := { t.out with found := true } }
      else ({ t with out := { t.out with to := n.right } } : St).finish [({ n with right := d.right } : Node).fill page] [dp.line]
  | (s', _) => s'

def isKey (k : Int) : Bool := decide (1 ≤ k) && decide (k ≤ maxKey)
def Op.isValid (op : Op) : Bool :=
  if op.kind = 6 then true
  else if op.kind = 5 then decide (1 ≤ op.key) && decide (0 ≤ op.level) && decide (op.level < 8)
  else if op.kind = 2 then isKey op.key && validP op.to
  else if op.kind = 4 then isKey op.key && isKey op.last && decide (op.key ≤ op.last) && decide (1 ≤ op.limit) && decide (op.limit ≤ 64)
  else if op.kind = 1 ∨ op.kind = 3 ∨ op.kind = 7 ∨ op.kind = 8 then isKey op.key
  else false

/-- The root page is read: true if the operation goes on. -/
def St.readRoot (s : St) (op : Op) (known : List Page) : St × Bool :=
  match latest known 96 with
  | none => (s.wait 96, false)
  | some p =>
    if op.kind = 6 ∧ locked p = true then (s.fail 3 [], false)
    else match Bt.readRoot p with
    | none => (s.fail 14 [], false)
    | some (root, _) => ({ s with rootPage := p, root := root }, true)

def St.go (s : St) (op : Op) (known : List Page) : St :=
  if op.kind = 1 then s.find op known
  else if op.kind = 2 then s.insert op known
  else if op.kind = 3 then s.remove op known
  else if op.kind = 4 then s.scan op known
  else if op.kind = 5 then s.post op known
  else if op.kind = 6 then s.raise op known
  else if op.kind = 7 then s.kill op known
  else s.unlink op known

def sortPages : List Page → List Page
  | [p, q] => if q.line < p.line then [q, p] else [p, q]
  | l => l

structure Step where
  need : List Int
  writes : List Page
  out : Out
  over : Bool
  deriving DecidableEq, Repr, Inhabited

def St.close (s : St) : Step :=
  if s.need ≠ [] then ⟨s.need, [], {}, false⟩
  else ⟨[], sortPages s.writes, if s.ended then s.out else { s.out with hops := 0, height := 0, dead := false, unposted := false }, true⟩

def next (op : Op) (known : List Page) : Step :=
  if op.isValid = false then ⟨[], [], { code := 1 }, true⟩
  else match ({} : St).readRoot op known with
  | (s, false) => s.close
  | (s, true) => (s.go op known).close

end Go.Proofs.YtjmpekanlmepmaaGreatDoor.Bt
namespace Go.Proofs.YtjmpekanlmepmaaGreatDoor
open Go.RowKit

theorem and_u64_mask (k : Nat) (m x : Int) (hm : m = ((2 ^ k - 1 : Nat) : Int)) (hk : k ≤ 63) (h0 : 0 ≤ x) (h1 : x < 18446744073709551616) : bits .and .u64 x m = x % ((2 ^ k : Nat) : Int) := by
  obtain ⟨n, rfl⟩ := Int.eq_ofNat_of_zero_le h0
  have hle : 2 ^ k ≤ 2 ^ 63 := Nat.pow_le_pow_right (by omega) hk
  subst hm
  rw [u64_and_nat n (2 ^ k - 1) (by omega) (by omega), Nat.and_two_pow_sub_one_eq_mod, Int.natCast_emod]
theorem and_u64_8 (x : Int) (h0 : 0 ≤ x) (h1 : x < 18446744073709551616) : bits .and .u64 x 255 = x % 256 := and_u64_mask 8 255 x rfl (by omega) h0 h1
theorem and_u64_24 (x : Int) (h0 : 0 ≤ x) (h1 : x < 18446744073709551616) : bits .and .u64 x 16777215 = x % 16777216 := and_u64_mask 24 16777215 x rfl (by omega) h0 h1
theorem and_u32_mask (k : Nat) (m x : Int) (hm : m = ((2 ^ k - 1 : Nat) : Int)) (hk : k ≤ 31) (h0 : 0 ≤ x) (h1 : x < 4294967296) : bits .and .u32 x m = x % ((2 ^ k : Nat) : Int) := by
  obtain ⟨n, rfl⟩ := Int.eq_ofNat_of_zero_le h0
  have hle : 2 ^ k ≤ 2 ^ 31 := Nat.pow_le_pow_right (by omega) hk
  subst hm
  rw [u32_and_nat n (2 ^ k - 1) (by omega) (by omega), Nat.and_two_pow_sub_one_eq_mod, Int.natCast_emod]
theorem and_u32_8 (x : Int) (h0 : 0 ≤ x) (h1 : x < 4294967296) : bits .and .u32 x 255 = x % 256 := and_u32_mask 8 255 x rfl (by omega) h0 h1

/-- Two words that share no bit: a multiple of 2^k, and one below it. -/
theorem or_u64_join (k : Nat) (a b : Int) (ha0 : 0 ≤ a) (ha1 : a < 18446744073709551616) (hb0 : 0 ≤ b) (hb1 : b < 18446744073709551616) (ha : a % ((2 ^ k : Nat) : Int) = 0) (hb : b < ((2 ^ k : Nat) : Int)) : bits .or .u64 a b = a + b := by
  obtain ⟨n, rfl⟩ := Int.eq_ofNat_of_zero_le ha0
  obtain ⟨m, rfl⟩ := Int.eq_ofNat_of_zero_le hb0
  rw [u64_or_nat n m (by omega) (by omega), nat_join k n m (by rw [← Int.natCast_emod] at ha; omega) (by omega)]
  omega
theorem or_u64_comm (a b : Int) (ha0 : 0 ≤ a) (ha1 : a < 18446744073709551616) (hb0 : 0 ≤ b) (hb1 : b < 18446744073709551616) : bits .or .u64 a b = bits .or .u64 b a := by
  obtain ⟨n, rfl⟩ := Int.eq_ofNat_of_zero_le ha0
  obtain ⟨m, rfl⟩ := Int.eq_ofNat_of_zero_le hb0
  rw [u64_or_nat n m (by omega) (by omega), u64_or_nat m n (by omega) (by omega), Nat.or_comm]
theorem or_u64_join' (k : Nat) (a b : Int) (ha0 : 0 ≤ a) (ha1 : a < 18446744073709551616) (hb0 : 0 ≤ b) (hb1 : b < 18446744073709551616) (hb : b % ((2 ^ k : Nat) : Int) = 0) (ha : a < ((2 ^ k : Nat) : Int)) : bits .or .u64 a b = a + b := by
  rw [or_u64_comm a b ha0 ha1 hb0 hb1, or_u64_join k b a hb0 hb1 ha0 ha1 hb ha, Int.add_comm]
theorem or_u32_join (k : Nat) (a b : Int) (ha0 : 0 ≤ a) (ha1 : a < 4294967296) (hb0 : 0 ≤ b) (hb1 : b < 4294967296) (ha : a % ((2 ^ k : Nat) : Int) = 0) (hb : b < ((2 ^ k : Nat) : Int)) : bits .or .u32 a b = a + b := by
  obtain ⟨n, rfl⟩ := Int.eq_ofNat_of_zero_le ha0
  obtain ⟨m, rfl⟩ := Int.eq_ofNat_of_zero_le hb0
  rw [u32_or_nat n m (by omega) (by omega), nat_join k n m (by rw [← Int.natCast_emod] at ha; omega) (by omega)]
  omega
theorem or_u32_join' (k : Nat) (a b : Int) (ha0 : 0 ≤ a) (ha1 : a < 4294967296) (hb0 : 0 ≤ b) (hb1 : b < 4294967296) (hb : b % ((2 ^ k : Nat) : Int) = 0) (ha : a < ((2 ^ k : Nat) : Int)) : bits .or .u32 a b = a + b := by
  obtain ⟨n, rfl⟩ := Int.eq_ofNat_of_zero_le ha0
  obtain ⟨m, rfl⟩ := Int.eq_ofNat_of_zero_le hb0
  rw [u32_or_nat n m (by omega) (by omega), Nat.or_comm, nat_join k m n (by rw [← Int.natCast_emod] at hb; omega) (by omega)]
  omega
end Go.Proofs.YtjmpekanlmepmaaGreatDoor
namespace Go.Proofs.YtjmpekanlmepmaaGreatDoor
open Go.RowKit

/-- What is done, and operation i besides. -/
def plus (D : Nat → Bool) (i : Nat) : Nat → Bool := fun j => j == i || D j
theorem plus_self (D : Nat → Bool) (i : Nat) : plus D i i = true := by simp [plus]
theorem plus_other (D : Nat → Bool) (i j : Nat) (h : j ≠ i) : plus D i j = D j := by simp [plus, h]
theorem plus_of (D : Nat → Bool) (i j : Nat) (h : D j = true) : plus D i j = true := by simp [plus, h]

/-- Every binding edge leads back. -/
def edgesBack (ops : Array Oper) : Bool := (List.range ops.size).all fun i => ((ops[i]?).map fun o => o.after.all fun e => !Region.binds .any e || decide (e.on < i)).getD true

theorem wpAny_inv {P : Program} {ops : Array Oper} {Q : Exit → Act → World → Prop} {I : (Nat → Bool) → Act → World → Prop} (hb : edgesBack ops = true)
    (hstep : ∀ D a w, I D a w → ∀ i o, ops[i]? = some o → D i = false → (∀ e ∈ o.after, Region.binds .any e = true → D e.on = true) → ∀ K : Act → World → Prop, (∀ a' w', I (plus D i) a' w' → K a' w') → wpOp P ops Q i K a w)
    (hend : ∀ D a w, I D a w → (∀ i, i < ops.size → D i = true) → Q .normal a w) :
    ∀ (fuel : Nat) (listed : Array Bool) (a : Act) (w : World), listed.size = ops.size → (listed.toList.filter (!·)).length ≤ fuel → I (fun j => listed.getD j false) a w → wpAny P .any ops Q fuel listed a w := by
  have hall : ∀ listed : Array Bool, listed.size = ops.size → Region.ready .any ops listed = [] → ∀ i, i < ops.size → listed.getD i false = true := by
    intro listed hsz hr i
    induction i using Nat.strongRecOn with
    | _ i ih =>
      intro hi
      rcases hv : listed.getD i false with _ | _
      · exfalso
        have hmem : i ∈ Region.ready .any ops listed := by
          unfold Region.ready
          rw [List.mem_filter]
          refine ⟨List.mem_range.2 hi, ?_⟩
          have h1 : listed.getD i true = false := by
            rw [Array.getD_eq_getD_getElem?] at hv ⊢
            rw [Array.getElem?_eq_getElem (by omega)] at hv ⊢
            simpa using hv
          have h2 : ops[i]? = some ops[i] := Array.getElem?_eq_getElem hi
          rw [h1, h2]
          simp only [Bool.not_false, Option.map_some, Option.getD_some, Bool.true_and, Array.all_eq_true_iff_forall_mem]
          intro e he
          rcases hbd : Region.binds .any e with _ | _
          · simp
          · have hlt : e.on < i := by
              have := List.all_eq_true.1 hb i (List.mem_range.2 hi)
              rw [h2] at this
              simp only [Option.map_some, Option.getD_some, Array.all_eq_true_iff_forall_mem] at this
              simpa [hbd] using this e he
            simp [ih e.on hlt (by omega)]
        rw [hr] at hmem
        simp at hmem
      · rfl
  intro fuel
  induction fuel with
  | zero =>
    intro listed a w hsz hf hI
    have hr : Region.ready .any ops listed = [] := by
      rw [List.eq_nil_iff_forall_not_mem]
      intro i hi
      unfold Region.ready at hi
      rw [List.mem_filter] at hi
      have hlt := List.mem_range.1 hi.1
      have h1 := (Bool.and_eq_true_iff.1 hi.2).1
      have hlt' : i < listed.size := by omega
      have h3 : listed[i] = false := by
        rw [Array.getD_eq_getD_getElem?, Array.getElem?_eq_getElem hlt'] at h1
        simpa using h1
      have : false ∈ listed.toList.filter (!·) := List.mem_filter.2 ⟨by rw [← h3]; exact Array.getElem_mem_toList hlt', rfl⟩
      rw [List.length_eq_zero_iff.1 (Nat.le_zero.1 hf)] at this
      simp at this
    exact ⟨hr, hend _ a w hI (hall listed hsz hr)⟩
  | succ fuel ih =>
    intro listed a w hsz hf hI
    refine ⟨fun hr => hend _ a w hI (hall listed hsz hr), fun i hi => ?_⟩
    unfold Region.ready at hi
    rw [List.mem_filter] at hi
    have hlt := List.mem_range.1 hi.1
    have hlt' : i < listed.size := by omega
    obtain ⟨h1, h2⟩ := Bool.and_eq_true_iff.1 hi.2
    have h3 : listed[i] = false := by
      rw [Array.getD_eq_getD_getElem?, Array.getElem?_eq_getElem hlt'] at h1
      simpa using h1
    have ho : ops[i]? = some ops[i] := Array.getElem?_eq_getElem hlt
    refine hstep _ a w hI i ops[i] ho (by rw [Array.getD_eq_getD_getElem?, Array.getElem?_eq_getElem hlt']; simpa using h3) (fun e he hbd => ?_) _ (fun a' w' hI' => ih (listed.setIfInBounds i true) a' w' (by simpa using hsz) ?_ ?_)
    · rw [ho] at h2
      simp only [Option.map_some, Option.getD_some, Array.all_eq_true_iff_forall_mem] at h2
      simpa [hbd] using h2 e he
    · have hcount : ∀ (l : List Bool) (k : Nat) (hk : k < l.length), l[k] = false → ((l.set k true).filter (!·)).length + 1 = (l.filter (!·)).length := by
        intro l
        induction l with
        | nil => intro k hk; simp at hk
        | cons x l ihl =>
          intro k hk hx
          match k with
          | 0 => simp at hx; subst hx; simp
          | k + 1 =>
            have := ihl k (by simpa using hk) (by simpa using hx)
            simp only [List.set_cons_succ, List.filter_cons]
            split
            · simp only [List.length_cons]; omega
            · exact this
      have := hcount listed.toList i (by simpa using hlt') (by simpa using h3)
      rw [Array.toList_setIfInBounds]
      omega
    · have hfun : (fun j => (listed.setIfInBounds i true).getD j false) = plus (fun j => listed.getD j false) i := by
        funext j
        by_cases hj : i = j
        · subst hj; simp [plus, hlt']
        · have hj' : ¬ j = i := fun e => hj e.symm
          simp [plus, hj, hj']
      rw [hfun]
      exact hI'

theorem wp_region_inv {P : Program} {ops : Array Oper} {Q : Exit → Act → World → Prop} {a : Act} {w : World} {id : Nat} (I : (Nat → Bool) → Act → World → Prop) (hm : P.follows .mixedOrders = true) (hb : edgesBack ops = true)
    (hstart : I (fun _ => false) a w.drew)
    (hstep : ∀ D a w, I D a w → ∀ i o, ops[i]? = some o → D i = false → (∀ e ∈ o.after, Region.binds .any e = true → D e.on = true) → ∀ K : Act → World → Prop, (∀ a' w', I (plus D i) a' w' → K a' w') → wpOp P ops Q i K a w)
    (hend : ∀ D a w, I D a w → (∀ i, i < ops.size → D i = true) → Q .normal a w) : (Code.region id ops true).wp P Q a w := by
  refine wp_region_any hm (wpAny_inv hb hstep hend ops.size _ a w.drew (by simp) ?_ ?_)
  · refine Nat.le_trans (List.length_filter_le _ _) (by simp)
  · have : (fun j => (Array.replicate ops.size false).getD j false) = fun _ => false := by
      funext j
      rw [Array.getD_eq_getD_getElem?, Array.getElem?_replicate]
      split <;> rfl
    rw [this]
    exact hstart

/-- An operation without a guard. -/
theorem wpOp_plain {P : Program} {ops : Array Oper} {Q : Exit → Act → World → Prop} {i : Nat} {o : Oper} {K : Act → World → Prop} {a : Act} {w : World} (ho : ops[i]? = some o) (hg : o.guard = none) (h : o.wp P a w K Q) : wpOp P ops Q i K a w := by
  unfold wpOp
  rw [ho]
  simp only [Region.wanted, hg, if_true]
  exact .inl h

/-- One slot turned. -/
def upd (u : Nat → Value) (s : Nat) (v : Value) : Nat → Value := fun k => if k = s then v else u k
theorem upd_same (u : Nat → Value) (s : Nat) (v : Value) : upd u s v s = v := by simp [upd]
theorem upd_other (u : Nat → Value) (s k : Nat) (v : Value) (h : k ≠ s) : upd u s v k = u k := by simp [upd, h]

/-- Whatever is done, its forerunners are done. -/
def Closed (ops : Array Oper) (D : Nat → Bool) : Prop := ∀ j o, ops[j]? = some o → D j = true → ∀ e ∈ o.after, Region.binds .any e = true → D e.on = true
/-- Where operation i is still to come, whatever must come behind it is still to come. -/
theorem Closed.later {ops : Array Oper} {D : Nat → Bool} (h : Closed ops D) {i j : Nat} {o : Oper} (ho : ops[j]? = some o) (hi : D i = false) {e : Edge} (he : e ∈ o.after) (hb : Region.binds .any e = true) (hon : e.on = i) : D j = false := by
  rcases hj : D j with _ | _
  · rfl
  · have := h j o ho hj e he hb
    rw [hon, hi] at this
    exact absurd this (by simp)

/-- What the slots hold once their operations are done: R j v w: operation j has yielded v. C: what is known besides. -/
def Inv (ops : Array Oper) (F : (Nat → Value) → Array Value) (slot : Nat → Nat) (R : (Nat → Bool) → Nat → Value → World → Prop) (C : (Nat → Bool) → (Nat → Value) → World → Prop) (D : Nat → Bool) (a : Act) (w : World) : Prop :=
  Closed ops D ∧ ∃ u : Nat → Value, a = { tmps := F u, defers := [] } ∧ C D u w ∧ ∀ j, D j = true → R D j (u (slot j)) w

/-- What is known of the operations' values as long as operation k is still to come. -/
def till (k : Nat) (R : Nat → Value → World → Prop) : (Nat → Bool) → Nat → Value → World → Prop := fun D j v w => D k = false → R j v w
/-- Behind operation i: it has yielded v in w'; what the others have yielded is as it was. -/
def Next (slot : Nat → Nat) (R : (Nat → Bool) → Nat → Value → World → Prop) (C : (Nat → Bool) → (Nat → Value) → World → Prop) (D : Nat → Bool) (u : Nat → Value) (i : Nat) (w : World) (v : Value) (w' : World) : Prop :=
  R (plus D i) i v w' ∧ C (plus D i) (upd u (slot i) v) w' ∧ ∀ j x, R D j x w → R (plus D i) j x w'

theorem wp_region_values {P : Program} {ops : Array Oper} {Q : Exit → Act → World → Prop} {w : World} {id : Nat} (F : (Nat → Value) → Array Value) (slot : Nat → Nat)
    (R : (Nat → Bool) → Nat → Value → World → Prop) (C : (Nat → Bool) → (Nat → Value) → World → Prop) (u0 : Nat → Value)
    (hm : P.follows .mixedOrders = true) (hb : edgesBack ops = true) (hinj : ∀ i j, i < ops.size → j ≠ i → slot j ≠ slot i) (hC : C (fun _ => false) u0 w.drew)
    (hstep : ∀ i o, ops[i]? = some o → ∀ D u w, Closed ops D → D i = false → C D u w → (∀ e ∈ o.after, Region.binds .any e = true → D e.on = true ∧ R D e.on (u (slot e.on)) w) →
      ∀ K : Act → World → Prop, (∀ v w', Next slot R C D u i w v w' → K { tmps := F (upd u (slot i) v), defers := [] } w') → wpOp P ops Q i K { tmps := F u, defers := [] } w)
    (hend : ∀ D u w, C D u w → (∀ i, i < ops.size → D i = true ∧ R D i (u (slot i)) w) → Q .normal { tmps := F u, defers := [] } w) :
    (Code.region id ops true).wp P Q { tmps := F u0, defers := [] } w := by
  refine wp_region_inv (Inv ops F slot R C) hm hb ⟨fun _ _ _ h => by simp at h, u0, rfl, hC, fun _ h => by simp at h⟩ ?_ ?_
  · rintro D a w ⟨hcl, u, rfl, hc, hr⟩ i o ho hni hpre K hK
    refine hstep i o ho D u w hcl hni hc (fun e he hbd => ⟨hpre e he hbd, hr _ (hpre e he hbd)⟩) K fun v w' ⟨h1, h2, h3⟩ => hK _ _ ⟨fun j o' ho' hj e he hbd => ?_, _, rfl, h2, fun j hj => ?_⟩
    · by_cases hji : j = i
      · subst hji
        rw [ho] at ho'
        obtain rfl := Option.some.inj ho'
        exact plus_of D j e.on (hpre e he hbd)
      · rw [plus_other D i j hji] at hj
        exact plus_of D i e.on (hcl j o' ho' hj e he hbd)
    · by_cases hji : j = i
      · subst hji
        rw [upd_same]
        exact h1
      · rw [upd_other _ _ _ _ (hinj i j (Array.getElem?_eq_some_iff.1 ho).1 hji)]
        rw [plus_other D i j hji] at hj
        exact h3 _ _ (hr j hj)
  · rintro D a w ⟨_, u, rfl, hc, hr⟩ hall
    exact hend D u w hc fun i hi => ⟨hall i hi, hr i (hall i hi)⟩

end Go.Proofs.YtjmpekanlmepmaaGreatDoor
namespace Go.Proofs.YtjmpekanlmepmaaGreatDoor
open Go.RowKit

def Bt.Ptr.cells (p : Bt.Ptr) : Array Value := #[.int .i64 p.line, .int .i64 p.gen]
def Bt.Page.cells (p : Bt.Page) : Array Value := #[.int .i64 p.line, .int .u64 p.head, .int .u64 p.d0, .int .u64 p.d1, .int .u64 p.d2, .int .u64 p.d3, .int .u64 p.d4, .int .u64 p.d5, .int .u64 p.d6]

/-- A function that hands back a struct that lies in a variable. -/
theorem results_blk {P : Program} {fn : Func} {p : Tmp} {ty : TypeId} (h : fn.results = #[.cell p ty]) (tmps : Array Value) (w : World) (g : Nat) (t : TypeId) (cs : Array Value) (d : TypeDesc)
    (hp : tmps.getD p undef = .pointer (some ⟨g, 0, none⟩)) (hg : Blk w g t cs) (hu : P.underlying ty = some d) (hd : (match d with | .struct _ | .array _ _ => true | _ => false) = true) (hi : (P.info? ty).map (·.size) = some cs.size) :
    (results fn tmps).run P w = .ok (.agg cs) w := by
  have e : (results fn tmps).run P w = ((asAddr (tmps.getD p undef)).run P w).andThen fun a w₁ => (loadVar ty a).run P w₁ := by
    simp only [results, h]
    simp [Sem.run_bind, Result.andThen]
  rw [e, hp]
  simp [asAddr, Result.andThen, run_loadVar_row w g t ty cs (0, 0) d hg hu hd hi]

theorem results_b {P : Program} {fn : Func} {p : Tmp} {ty : TypeId} (h : fn.results = #[.cell p ty]) (tmps : Array Value) (w : World) (g : Nat) (t : TypeId) (cs : Array Value) (d : TypeDesc)
    (hp : tmps.getD p undef = .pointer (some ⟨g, 0, none⟩)) (hg : Blk w g t cs) (hu : P.underlying ty = some d) (hd : (match d with | .struct _ | .array _ _ => true | _ => false) = true) (hi : (P.info? ty).map (·.size) = some cs.size) :
    (results fn tmps).run P w = .ok (.agg cs) w := results_blk h tmps w g t cs d hp hg hu hd hi
/-- The same, and plain values beside it. -/
theorem results_bt {P : Program} {fn : Func} {p u : Tmp} {ty : TypeId} (h : fn.results = #[.cell p ty, .tmp u]) (tmps : Array Value) (w : World) (g : Nat) (t : TypeId) (cs : Array Value) (d : TypeDesc)
    (hp : tmps.getD p undef = .pointer (some ⟨g, 0, none⟩)) (hg : Blk w g t cs) (hu : P.underlying ty = some d) (hd : (match d with | .struct _ | .array _ _ => true | _ => false) = true) (hi : (P.info? ty).map (·.size) = some cs.size) :
    (results fn tmps).run P w = .ok (.tuple #[.agg cs, tmps.getD u undef]) w := results_blk_tmp h tmps w g t cs d hp hg hu hd hi
theorem results_btt {P : Program} {fn : Func} {p u u2 : Tmp} {ty : TypeId} (h : fn.results = #[.cell p ty, .tmp u, .tmp u2]) (tmps : Array Value) (w : World) (g : Nat) (t : TypeId) (cs : Array Value) (d : TypeDesc)
    (hp : tmps.getD p undef = .pointer (some ⟨g, 0, none⟩)) (hg : Blk w g t cs) (hu : P.underlying ty = some d) (hd : (match d with | .struct _ | .array _ _ => true | _ => false) = true) (hi : (P.info? ty).map (·.size) = some cs.size) :
    (results fn tmps).run P w = .ok (.tuple #[.agg cs, tmps.getD u undef, tmps.getD u2 undef]) w := by
  have e : (results fn tmps).run P w = ((asAddr (tmps.getD p undef)).run P w).andThen fun a w₁ => ((loadVar ty a).run P w₁).andThen fun v w₂ => .ok (.tuple #[v, tmps.getD u undef, tmps.getD u2 undef]) w₂ := by
    simp only [results, h]
    simp [Sem.run_bind, Result.andThen]
  rw [e, hp]
  simp [asAddr, Result.andThen, run_loadVar_row w g t ty cs (0, 0) d hg hu hd hi]
theorem results_ttbt {P : Program} {fn : Func} {p u u2 u3 : Tmp} {ty : TypeId} (h : fn.results = #[.tmp u, .tmp u2, .cell p ty, .tmp u3]) (tmps : Array Value) (w : World) (g : Nat) (t : TypeId) (cs : Array Value) (d : TypeDesc)
    (hp : tmps.getD p undef = .pointer (some ⟨g, 0, none⟩)) (hg : Blk w g t cs) (hu : P.underlying ty = some d) (hd : (match d with | .struct _ | .array _ _ => true | _ => false) = true) (hi : (P.info? ty).map (·.size) = some cs.size) :
    (results fn tmps).run P w = .ok (.tuple #[tmps.getD u undef, tmps.getD u2 undef, .agg cs, tmps.getD u3 undef]) w := by
  have e : (results fn tmps).run P w = ((asAddr (tmps.getD p undef)).run P w).andThen fun a w₁ => ((loadVar ty a).run P w₁).andThen fun v w₂ => .ok (.tuple #[tmps.getD u undef, tmps.getD u2 undef, v, tmps.getD u3 undef]) w₂ := by
    simp only [results, h]
    simp [Sem.run_bind, Result.andThen]
  rw [e, hp]
  simp [asAddr, Result.andThen, run_loadVar_row w g t ty cs (0, 0) d hg hu hd hi]

theorem Blk.put9 {w : World} {b : Nat} {t : TypeId} {cs : Array Value} (h : Blk w b t cs) (v0 v1 v2 v3 v4 v5 v6 v7 v8 : Value) :
    Blk (((((((((w.setCell ⟨b, 0, none⟩ v0).setCell ⟨b, 1, none⟩ v1).setCell ⟨b, 2, none⟩ v2).setCell ⟨b, 3, none⟩ v3).setCell ⟨b, 4, none⟩ v4).setCell ⟨b, 5, none⟩ v5).setCell ⟨b, 6, none⟩ v6).setCell ⟨b, 7, none⟩ v7).setCell ⟨b, 8, none⟩ v8) b t
      (((((((((cs.setIfInBounds 0 v0).setIfInBounds 1 v1).setIfInBounds 2 v2).setIfInBounds 3 v3).setIfInBounds 4 v4).setIfInBounds 5 v5).setIfInBounds 6 v6).setIfInBounds 7 v7).setIfInBounds 8 v8) :=
  ((((((((h.put 0 v0).put 1 v1).put 2 v2).put 3 v3).put 4 v4).put 5 v5).put 6 v6).put 7 v7).put 8 v8

theorem set2 (x0 x1 v0 v1 : Value) : ((#[x0, x1].setIfInBounds 0 v0).setIfInBounds 1 v1) = #[v0, v1] := by kernel_rfl
theorem set3 (x0 x1 x2 v0 v1 v2 : Value) : (((#[x0, x1, x2].setIfInBounds 0 v0).setIfInBounds 1 v1).setIfInBounds 2 v2) = #[v0, v1, v2] := by kernel_rfl
theorem set7 (x0 x1 x2 x3 x4 x5 x6 v0 v1 v2 v3 v4 v5 v6 : Value) : (((((((#[x0, x1, x2, x3, x4, x5, x6].setIfInBounds 0 v0).setIfInBounds 1 v1).setIfInBounds 2 v2).setIfInBounds 3 v3).setIfInBounds 4 v4).setIfInBounds 5 v5).setIfInBounds 6 v6) = #[v0, v1, v2, v3, v4, v5, v6] := by kernel_rfl
theorem set9 (x0 x1 x2 x3 x4 x5 x6 x7 x8 v0 v1 v2 v3 v4 v5 v6 v7 v8 : Value) : (((((((((#[x0, x1, x2, x3, x4, x5, x6, x7, x8].setIfInBounds 0 v0).setIfInBounds 1 v1).setIfInBounds 2 v2).setIfInBounds 3 v3).setIfInBounds 4 v4).setIfInBounds 5 v5).setIfInBounds 6 v6).setIfInBounds 7 v7).setIfInBounds 8 v8) = #[v0, v1, v2, v3, v4, v5, v6, v7, v8] := by kernel_rfl
theorem set16 (x0 x1 x2 x3 x4 x5 x6 x7 x8 x9 x10 x11 x12 x13 x14 x15 v0 v1 v2 v3 v4 v5 v6 v7 v8 v9 v10 v11 v12 v13 v14 v15 : Value) : ((((((((((((((((#[x0, x1, x2, x3, x4, x5, x6, x7, x8, x9, x10, x11, x12, x13, x14, x15].setIfInBounds 0 v0).setIfInBounds 1 v1).setIfInBounds 2 v2).setIfInBounds 3 v3).setIfInBounds 4 v4).setIfInBounds 5 v5).setIfInBounds 6 v6).setIfInBounds 7 v7).setIfInBounds 8 v8).setIfInBounds 9 v9).setIfInBounds 10 v10).setIfInBounds 11 v11).setIfInBounds 12 v12).setIfInBounds 13 v13).setIfInBounds 14 v14).setIfInBounds 15 v15) = #[v0, v1, v2, v3, v4, v5, v6, v7, v8, v9, v10, v11, v12, v13, v14, v15] := by kernel_rfl

theorem Blk.cast {w : World} {b : Nat} {t : TypeId} {cs cs' : Array Value} (h : Blk w b t cs) (e : cs = cs') : Blk w b t cs' := e ▸ h
theorem Blk.data7 {w : World} {b : Nat} {t : TypeId} {x0 x1 x2 x3 x4 x5 x6 x7 x8 : Value} (h : Blk w b t #[x0, x1, x2, x3, x4, x5, x6, x7, x8]) (v2 v3 v4 v5 v6 v7 v8 : Value) : Blk (((((((w.setCell ⟨b, 2, none⟩ v2).setCell ⟨b, 3, none⟩ v3).setCell ⟨b, 4, none⟩ v4).setCell ⟨b, 5, none⟩ v5).setCell ⟨b, 6, none⟩ v6).setCell ⟨b, 7, none⟩ v7).setCell ⟨b, 8, none⟩ v8) b t #[x0, x1, v2, v3, v4, v5, v6, v7, v8] := Blk.cast (((((((h.put 2 v2).put 3 v3).put 4 v4).put 5 v5).put 6 v6).put 7 v7).put 8 v8) (by kernel_rfl)
theorem Blk.all9 {w : World} {b : Nat} {t : TypeId} {x0 x1 x2 x3 x4 x5 x6 x7 x8 : Value} (h : Blk w b t #[x0, x1, x2, x3, x4, x5, x6, x7, x8]) (v0 v1 v2 v3 v4 v5 v6 v7 v8 : Value) : Blk (((((((((w.setCell ⟨b, 0, none⟩ v0).setCell ⟨b, 1, none⟩ v1).setCell ⟨b, 2, none⟩ v2).setCell ⟨b, 3, none⟩ v3).setCell ⟨b, 4, none⟩ v4).setCell ⟨b, 5, none⟩ v5).setCell ⟨b, 6, none⟩ v6).setCell ⟨b, 7, none⟩ v7).setCell ⟨b, 8, none⟩ v8) b t #[v0, v1, v2, v3, v4, v5, v6, v7, v8] := Blk.cast (((((((((h.put 0 v0).put 1 v1).put 2 v2).put 3 v3).put 4 v4).put 5 v5).put 6 v6).put 7 v7).put 8 v8) (by kernel_rfl)
theorem Blk.all3 {w : World} {b : Nat} {t : TypeId} {x0 x1 x2 : Value} (h : Blk w b t #[x0, x1, x2]) (v0 v1 v2 : Value) : Blk (((w.setCell ⟨b, 0, none⟩ v0).setCell ⟨b, 1, none⟩ v1).setCell ⟨b, 2, none⟩ v2) b t #[v0, v1, v2] := Blk.cast (((h.put 0 v0).put 1 v1).put 2 v2) (by kernel_rfl)
theorem Blk.all2 {w : World} {b : Nat} {t : TypeId} {x0 x1 : Value} (h : Blk w b t #[x0, x1]) (v0 v1 : Value) : Blk ((w.setCell ⟨b, 0, none⟩ v0).setCell ⟨b, 1, none⟩ v1) b t #[v0, v1] := Blk.cast ((h.put 0 v0).put 1 v1) (by kernel_rfl)

section
variable (w : World) {t t' t2 : TypeId} {cs cs' cs2 : Array Value} {o o2 : Obj}
theorem made1 : Blk (w.alloc (.cells cs t)) w.heap.size t cs := Blk.made w t cs
theorem made12 : Blk ((w.alloc (.cells cs t)).alloc o) w.heap.size t cs := (Blk.made w t cs).alloc _
theorem made22 : Blk ((w.alloc o).alloc (.cells cs t)) (w.heap.size + 1) t cs := Blk.made' (by simp)
theorem made13 : Blk (((w.alloc (.cells cs t)).alloc o).alloc o2) w.heap.size t cs := ((Blk.made w t cs).alloc _).alloc _
theorem made23 : Blk (((w.alloc o).alloc (.cells cs t)).alloc o2) (w.heap.size + 1) t cs := (Blk.made' (by simp)).alloc _
theorem made33 : Blk (((w.alloc o).alloc o2).alloc (.cells cs t)) (w.heap.size + 1 + 1) t cs := Blk.made' (by simp)
theorem made44 {o3 : Obj} : Blk ((((w.alloc o).alloc o2).alloc o3).alloc (.cells cs t)) (w.heap.size + 1 + 1 + 1) t cs := Blk.made' (by simp)
theorem below1 {B : Nat} (hB : B ≤ w.heap.size) : Below B w (w.alloc o) := (Below.refl B w).alloc hB o
theorem below2 {B : Nat} (hB : B ≤ w.heap.size) : Below B w ((w.alloc o).alloc o2) := (below1 w hB).alloc (by simp; omega) o2
end

theorem size_alloc (w : World) (o : Obj) : (w.alloc o).heap.size = w.heap.size + 1 := by simp
theorem size_setCell (w : World) (p : Addr) (v : Value) : (w.setCell p v).heap.size = w.heap.size := by simp [World.setCell]
theorem size_drew (w : World) : w.drew.heap.size = w.heap.size := rfl
theorem size_drewN (w : World) (n : Nat) : (w.drewN n).heap.size = w.heap.size := rfl

/-- What a region that draws its order may load, whatever has been done: what stood in w1 stands (but for block r). -/
structure SteadyAll (w1 wx : World) : Prop where
  rule : ∀ b o, b < w1.heap.size → wx.cell? ⟨b, o, none⟩ = w1.cell? ⟨b, o, none⟩
structure SteadyBut (r : Nat) (w1 wx : World) : Prop where
  rule : ∀ b o, b < w1.heap.size → (b < r ∨ r < b) → wx.cell? ⟨b, o, none⟩ = w1.cell? ⟨b, o, none⟩
theorem SteadyAll.of {w1 wx : World} (h : Below w1.heap.size w1 wx) : SteadyAll w1 wx := ⟨fun b o hb => h.cell (p := ⟨b, o, none⟩) hb⟩
theorem SteadyBut.of {r : Nat} {w1 wx : World} (h : Below w1.heap.size w1 wx) : SteadyBut r w1 wx := ⟨fun b o hb _ => h.cell (p := ⟨b, o, none⟩) hb⟩
theorem SteadyBut.set {r : Nat} {w1 wx : World} (h : SteadyBut r w1 wx) (i : Nat) (v : Value) : SteadyBut r w1 (wx.setCell ⟨r, i, none⟩ v) :=
  ⟨fun b o hb hr => by rw [World.cell?_setCell_other _ _ _ _ (by intro e; injection e with e1; omega)]; exact h.rule b o hb hr⟩

section
variable {P : Program} {ops : Array Oper} {Q : Exit → Act → World → Prop} {md : Region.Mode} {S : World → Prop}
/-- May these operations be taken first, one behind the other? -/
def takeable (md : Region.Mode) (ops : Array Oper) : Array Bool → List Nat → Bool
  | _, [] => true
  | l, i :: is => Region.free md ops l i && (Region.ready md ops l).contains i && takeable md ops (l.setIfInBounds i true) is
def TakeSeq (P : Program) (md : Region.Mode) (ops : Array Oper) (Q : Exit → Act → World → Prop) (S : World → Prop) (fuel : Nat) : List Nat → Array Bool → Act → World → Prop
  | [], l, a, w => wpAnyH P md ops Q S fuel l a w
  | i :: is, l, a, w => ∃ o v, ops[i]? = some o ∧ YieldsIf P ops S o v a ∧ TakeSeq P md ops Q S fuel is (l.setIfInBounds i true) (a.put o.dst v) w
theorem TakeSeq.step {fuel i : Nat} {is : List Nat} {l : Array Bool} {a : Act} {w : World} {o : Oper} {v : Value} (ho : ops[i]? = some o) (hy : YieldsIf P ops S o v a)
    (h : TakeSeq P md ops Q S fuel is (l.setIfInBounds i true) (a.put o.dst v) w) : TakeSeq P md ops Q S fuel (i :: is) l a w := ⟨o, v, ho, hy, h⟩
theorem TakeSeq.done {fuel : Nat} {l : Array Bool} {a : Act} {w : World} (h : wpAnyH P md ops Q S fuel l a w) : TakeSeq P md ops Q S fuel [] l a w := h
theorem wpAnyH_seq {is : List Nat} {fuel : Nat} {l : Array Bool} {a : Act} {w : World} (hs : Region.noSelect ops = true) (ht : takeable md ops l is = true)
    (hQ : ∀ c a d v w, Q (.panic c) (a.put d v) w → Q (.panic c) a w) (hS : S w) (h : TakeSeq P md ops Q S fuel is l a w) : wpAnyH P md ops Q S (fuel + is.length) l a w := by
  induction is generalizing l a with
  | nil => exact h
  | cons i is ih =>
    obtain ⟨o, v, ho, hy, h2⟩ := h
    simp only [takeable, Bool.and_eq_true] at ht
    exact wpAnyH_take ho hs ht.1.1 ht.1.2 (fun c a w => hQ c a o.dst v w) hy hS (ih ht.2 h2)
end

theorem ret_bool {a b : Bool} (h : a = b) : Ending.returned (.bool a) = .returned (.bool b) := by rw [h]

theorem inHeap_any (l : Int) (w : World) : Calls Tryz.prog 100 #[.int .i64 l] w fun e w' => e = .returned (.bool (Bt.inHeap l)) ∧ w = w' := by
  go_enter Tryz.func100, Tryz.ntmps100
  go_wp2
  all_goals go_ret
  · have h : 104 ≤ l := by assumption
    exact ⟨ret_bool (by simp [Bt.inHeap, h]), rfl⟩
  · have h : l < 104 := by assumption
    exact ⟨ret_bool (by simp [Bt.inHeap]; omega), rfl⟩

theorem Valid_any (l g : Int) (w : World) : Calls Tryz.prog 75 #[.agg #[.int .i64 l, .int .i64 g]] w fun e w' => e = .returned (.bool (Bt.validP ⟨l, g⟩)) ∧ Below w.heap.size w w' := by
  rcases hin : Bt.inHeap l with _ | _
  all_goals
    have Hin := Lib.hid hin
    clear hin
    go_enter Tryz.func75, Tryz.ntmps75
    go_wp2_with (go_at_call 100; refine (inHeap_any _ _).mono ?_; rintro e w' ⟨rfl, rfl⟩; rw [Hin.out])
    all_goals go_ret
  · exact ⟨ret_bool (by simp [Bt.validP, Hin.out]), below_alloc (Below.refl _ _) _⟩
  · have h : 1 ≤ g := by assumption
    exact ⟨ret_bool (by simp [Bt.validP, Hin.out, h]), below_alloc (Below.refl _ _) _⟩
  · have h : g < 1 := by assumption
    refine ⟨ret_bool ?_, below_alloc (Below.refl _ _) _⟩
    have h' : ¬ (1 ≤ g) := by omega
    simp [Bt.validP, Hin.out, h']

theorem UnpackTag_any (x : Int) (h0 : 0 ≤ x) (h1 : x < 18446744073709551616) (w : World) : Calls Tryz.prog 62 #[.int .u64 x] w
    fun e w' => e = .returned (.agg #[.int .i64 (Bt.tagKind x), .int .i64 (Bt.tagGen x), .int .u32 (Bt.tagAux x)]) ∧ Below w.heap.size w w' := by
  have e1 := and_u64_8 x h0 h1
  have e2 := and_u64_24 (x / 256) (by omega) (by omega)
  go_enter Tryz.func62, Tryz.ntmps62
  go_wp2
  refine bodyPost_ret (results_blk rfl _ _ w.heap.size 122 _ _ rfl (Blk.made _ _ _) Tryz.underlying122 rfl (by kernel_rfl)) rfl ⟨rfl, below_alloc (Below.refl _ _) _⟩
end Go.Proofs.YtjmpekanlmepmaaGreatDoor
namespace Go.Proofs.YtjmpekanlmepmaaGreatDoor
open Go.RowKit

theorem Pack_any (l g : Int) (w : World) : Calls Tryz.prog 44 #[.agg #[.int .i64 l, .int .i64 g]] w fun e w' => e = .returned (.int .u32 (Bt.pack ⟨l, g⟩)) ∧ Below w.heap.size w w' := by
  rcases hin : Bt.validP ⟨l, g⟩ with _ | _
  · have Hin := Lib.hid hin
    clear hin
    go_enter Tryz.func44, Tryz.ntmps44
    go_wp2_with (go_at_call 75; refine (Valid_any _ _ _).mono ?_; rintro e w1 ⟨rfl, hb⟩; rw [Hin.out])
    all_goals go_ret
    exact ⟨ret_int (by simp [Bt.pack, Hin.out]), below_step (below_alloc (Below.refl _ _) _) hb⟩
  · have Hin := Lib.hid hin
    have hv : 104 ≤ l ∧ l < 256 ∧ 1 ≤ g ∧ g ≤ 16777215 := by
      simp [Bt.validP, Bt.inHeap] at hin
      omega
    clear hin
    go_enter Tryz.func44, Tryz.ntmps44
    go_wp2_with fail
    go_at_call 75
    refine (Valid_any _ _ _).mono ?_
    rintro e w1 ⟨rfl, hb⟩
    have B1 := (Blk.made w 27 #[.int .i64 l, .int .i64 g]).kept hb
    have k1 := B1.cell
    rw [Hin.out]
    have eb := or_u32_join 8 (g * 256) l (by omega) (by omega) (by omega) (by omega) (by omega) (by omega)
    go_wp2
    go_ret
    exact ⟨ret_int (by simp [Bt.pack, Hin.out]), below_step (below_alloc (Below.refl _ _) _) hb⟩

theorem ret_u64 {a b : Int} (h : a = b) : Ending.returned (.int .u64 a) = .returned (.int .u64 b) := by rw [h]

theorem PackTag_any (k g a : Int) (hk : -9223372036854775808 ≤ k ∧ k ≤ 9223372036854775807) (hg : -9223372036854775808 ≤ g ∧ g ≤ 9223372036854775807) (ha : 0 ≤ a ∧ a < 4294967296) (w : World) :
    Calls Tryz.prog 99 #[.agg #[.int .i64 k, .int .i64 g, .int .u32 a]] w fun e w' => e = .returned (.int .u64 (Bt.packTag k g a)) ∧ Below w.heap.size w w' := by
  have hk8 : IntKind.u64.wrap k % 256 = k % 256 := by rw [IntKind.wrap_u64]; omega
  have hg24 : IntKind.u64.wrap g % 16777216 = g % 16777216 := by rw [IntKind.wrap_u64]; omega
  have e1 := and_u64_8 (IntKind.u64.wrap k) (by rw [IntKind.wrap_u64]; omega) (by rw [IntKind.wrap_u64]; omega)
  have e2 := and_u64_24 (IntKind.u64.wrap g) (by rw [IntKind.wrap_u64]; omega) (by rw [IntKind.wrap_u64]; omega)
  rw [hk8] at e1
  rw [hg24] at e2
  have e3 := or_u64_join' 8 (k % 256) (g % 16777216 * 256) (by omega) (by omega) (by omega) (by omega) (by omega) (by omega)
  have e4 := or_u64_join' 32 (k % 256 + g % 16777216 * 256) (a * 4294967296) (by omega) (by omega) (by omega) (by omega) (by omega) (by omega)
  clear hk8 hg24
  go_enter Tryz.func99, Tryz.ntmps99
  go_wp2
  go_ret
  exact ⟨ret_u64 (by simp [Bt.packTag]), by (repeat (first | with_reducible exact Below.refl _ _ | with_reducible assumption | with_reducible refine Below.setCell ?_ (by first | (simp; done) | (simp; omega)) _ | with_reducible refine below_alloc ?_ _ | with_reducible refine below_drewN ?_ _ | with_reducible refine Below.drew ?_ | with_reducible refine below_step ?_ (by assumption)))⟩

theorem tagOf_any (p : Bt.Page) (hp : p.Ok) (w : World) :
    Calls Tryz.prog 66 #[.agg p.cells] w fun e w' => e = .returned (.agg #[.int .i64 (Bt.tagKind p.d0), .int .i64 (Bt.tagGen p.d0), .int .u32 (Bt.tagAux p.d0)]) ∧ Below w.heap.size w w' := by
  unfold Bt.Page.cells
  have h0 := hp.d0
  go_enter Tryz.func66, Tryz.ntmps66
  go_wp2_with fail
  go_at_call 62
  refine (UnpackTag_any p.d0 h0.1 h0.2 _).mono ?_
  rintro e w1 ⟨rfl, hb⟩
  have B2 := (made22 w).kept hb
  have k2 := B2.cell
  have f2 := B2.free
  go_wp2
  exact bodyPost_ret (results_blk rfl _ _ (w.heap.size + 1) 122 _ _ rfl (((B2.put 0 _).put 1 _).put 2 _) Tryz.underlying122 rfl (by kernel_rfl)) rfl ⟨rfl, by (repeat (first | with_reducible exact Below.refl _ _ | with_reducible assumption | with_reducible refine Below.setCell ?_ (by first | (simp; done) | (simp; omega)) _ | with_reducible refine below_alloc ?_ _ | with_reducible refine below_drewN ?_ _ | with_reducible refine Below.drew ?_ | with_reducible refine below_step ?_ (by assumption)))⟩

theorem Locked_any (p : Bt.Page) (hp : p.Ok) (w : World) : Calls Tryz.prog 80 #[.agg p.cells] w fun e w' => e = .returned (.bool (Bt.locked p)) ∧ Below w.heap.size w w' := by
  unfold Bt.Page.cells
  have h0 := hp.head
  have e1 := and_u64_8 p.head h0.1 h0.2
  go_enter Tryz.func80, Tryz.ntmps80
  go_wp2
  go_ret
  refine ⟨ret_bool ?_, by (repeat (first | with_reducible exact Below.refl _ _ | with_reducible assumption | with_reducible refine Below.setCell ?_ (by first | (simp; done) | (simp; omega)) _ | with_reducible refine below_alloc ?_ _ | with_reducible refine below_drewN ?_ _ | with_reducible refine Below.drew ?_ | with_reducible refine below_step ?_ (by assumption)))⟩
  unfold Bt.locked bne
  congr 1

end Go.Proofs.YtjmpekanlmepmaaGreatDoor
namespace Go.Proofs.YtjmpekanlmepmaaGreatDoor
open Go.RowKit

/-- A slice that reads as a list of pages. -/
structure PgRow (w : World) (v : Value) (l : List Bt.Page) : Prop where
  ok : ∀ p ∈ l, p.Ok
  len : l.length ≤ maxLen
  form : (v = .slice none 0 0 ∧ l = []) ∨ ∃ b cap, v = .slice (some ⟨b, 0, none⟩) l.length cap ∧ b < w.heap.size ∧ ∀ (i : Nat) (p : Bt.Page), l[i]? = some p → ∀ (j : Nat) (u : Value), p.cells[j]? = some u → w.cell? ⟨b, i * 9 + j, none⟩ = some u

theorem PgRow.kept {w w' : World} {v : Value} {l : List Bt.Page} {B : Nat} (h : PgRow w v l) (hb : Below B w w') (hB : ∀ b n c, v = .slice (some ⟨b, 0, none⟩) n c → b < B) : PgRow w' v l := by
  refine ⟨h.ok, h.len, ?_⟩
  rcases h.form with h1 | ⟨b, cap, hv, hlt, hcells⟩
  · exact .inl h1
  · exact .inr ⟨b, cap, hv, Nat.lt_of_lt_of_le hlt hb.size, fun i p hi j u hu => by rw [hb.cell (p := ⟨b, i * 9 + j, none⟩) (hB b _ _ hv)]; exact hcells i p hi j u hu⟩
theorem PgRow.below {w w' : World} {v : Value} {l : List Bt.Page} (h : PgRow w v l) (hb : Below w.heap.size w w') : PgRow w' v l := by
  refine h.kept hb fun b n c hv => ?_
  rcases h.form with ⟨h1, _⟩ | ⟨b', cap, hv', hlt, _⟩
  · rw [hv] at h1; simp at h1
  · rw [hv] at hv'; simp at hv'; omega

theorem Unpack_any (x : Int) (h0 : 0 ≤ x) (h1 : x < 4294967296) (w : World) : Calls Tryz.prog 40 #[.int .u32 x] w
    fun e w' => e = .returned (.agg #[.int .i64 (x % 256), .int .i64 (x / 256)]) ∧ Below w.heap.size w w' := by
  have e1 := and_u32_8 x h0 h1
  go_enter Tryz.func40, Tryz.ntmps40
  go_wp2
  refine bodyPost_ret (results_blk rfl _ _ w.heap.size 27 _ _ rfl (Blk.made _ _ _) Tryz.underlying27 rfl (by kernel_rfl)) rfl ⟨rfl, below_alloc (Below.refl _ _) _⟩

theorem latest_yes (known : List Bt.Page) (line : Int) (k : Nat) (h : k < known.length) (he : known[k].line = line) : Bt.latest (known.take (k + 1)) line = some known[k] := by
  unfold Bt.latest
  rw [List.take_succ_eq_append_getElem h, List.reverse_append]
  simp [he]
theorem latest_no (known : List Bt.Page) (line : Int) (k : Nat) (h : k < known.length) (he : ¬ known[k].line = line) : Bt.latest (known.take (k + 1)) line = Bt.latest (known.take k) line := by
  unfold Bt.latest
  rw [List.take_succ_eq_append_getElem h, List.reverse_append]
  simp [he]

/-- What is known of page k, in the walk's words. -/
theorem page_cells {w : World} {b : Nat} {known : List Bt.Page} (hcells : ∀ (i : Nat) (p : Bt.Page), known[i]? = some p → ∀ (j : Nat) (u : Value), p.cells[j]? = some u → w.cell? ⟨b, i * 9 + j, none⟩ = some u) (k : Nat) (h : k < known.length) :
    w.rangeAt b (k * 9) known[k].cells.toList := fun j u hu => hcells k known[k] (List.getElem?_eq_getElem h) j u (by simpa using hu)

theorem nine {w : World} {b k : Nat} {p : Bt.Page} (h : w.rangeAt b (k * 9) p.cells.toList) :
    w.cell? ⟨b, k * 9, none⟩ = some (.int .i64 p.line) ∧ w.cell? ⟨b, k * 9 + 1, none⟩ = some (.int .u64 p.head) ∧ w.cell? ⟨b, k * 9 + 2, none⟩ = some (.int .u64 p.d0) ∧
    w.cell? ⟨b, k * 9 + 3, none⟩ = some (.int .u64 p.d1) ∧ w.cell? ⟨b, k * 9 + 4, none⟩ = some (.int .u64 p.d2) ∧ w.cell? ⟨b, k * 9 + 5, none⟩ = some (.int .u64 p.d3) ∧
    w.cell? ⟨b, k * 9 + 6, none⟩ = some (.int .u64 p.d4) ∧ w.cell? ⟨b, k * 9 + 7, none⟩ = some (.int .u64 p.d5) ∧ w.cell? ⟨b, k * 9 + 8, none⟩ = some (.int .u64 p.d6) :=
  ⟨h 0 _ rfl, h 1 _ rfl, h 2 _ rfl, h 3 _ rfl, h 4 _ rfl, h 5 _ rfl, h 6 _ rfl, h 7 _ rfl, h 8 _ rfl⟩

theorem Latest_any (known : List Bt.Page) (v : Value) (line : Int) (w : World) (hk : PgRow w v known) : Calls Tryz.prog 78 #[v, .int .i64 line] w
    fun e w' => e = .returned (.tuple #[.agg ((Bt.latest known line).getD Bt.zeroPage).cells, .bool (Bt.latest known line).isSome]) ∧ Below w.heap.size w w' := by
  rcases hk.form with ⟨rfl, rfl⟩ | ⟨b, cap, rfl, hlt, hcells⟩
  · go_enter Tryz.func78, Tryz.ntmps78
    go_wp2
    refine wp_loop_rounds 1 ?_
    rw [rounds_succ]
    go_wp2
    simp [bodyPost, results, Tryz.results78, go_sem]
    exact ⟨⟨rfl, rfl⟩, by (repeat (first | with_reducible exact Below.refl _ _ | with_reducible assumption | with_reducible refine Below.setCell ?_ (by first | (simp; done) | (simp; omega)) _ | with_reducible refine below_alloc ?_ _ | with_reducible refine below_drewN ?_ _ | with_reducible refine Below.drew ?_ | with_reducible refine below_step ?_ (by assumption)))⟩
  · have hlen := hk.len
    unfold maxLen at hlen
    have Hc := Lib.hid hcells
    clear hcells
    go_enter Tryz.func78, Tryz.ntmps78
    go_wp2
    go_loop [6] (fun i => ∃ k : Nat, k ≤ known.length ∧ i = .int .i64 ((k : Int) - 1) ∧ Hid (Bt.latest (known.take k) line = Bt.latest known line)) (fun i => (intOf i + 1).toNat)
    case atStart => exact ⟨known.length, Nat.le_refl _, rfl, Lib.hid (by rw [List.take_length])⟩
    case round =>
      obtain ⟨k, hkl, rfl, HL⟩ := hrel
      rcases k with _ | k
      · have HN : Hid (none = Bt.latest known line) := Lib.hid HL.out
        go_wp2
        simp [bodyPost, results, Tryz.results78, go_sem]
        rw [← HN.out]
        exact ⟨⟨rfl, rfl⟩, by (repeat (first | with_reducible exact Below.refl _ _ | with_reducible assumption | with_reducible refine Below.setCell ?_ (by first | (simp; done) | (simp; omega)) _ | with_reducible refine below_alloc ?_ _ | with_reducible refine below_drewN ?_ _ | with_reducible refine Below.drew ?_ | with_reducible refine below_step ?_ (by assumption)))⟩
      · have hr := page_cells Hc.out k (by omega)
        obtain ⟨c0, c1, c2, c3, c4, c5, c6, c7, c8⟩ := nine hr
        clear hr
        have h0' : (((k + 1 : Nat) : Int) - 1) = (k : Int) := by omega
        rw [h0']
        by_cases he : known[k].line = line
        · have hy := Lib.hid (latest_yes known line k (by omega) he)
          clear h0'
          rw [he] at c0
          obtain ⟨p, hp⟩ : ∃ p, p = known[k] := ⟨_, rfl⟩
          have HP := Lib.hid hp
          rw [← hp] at c1 c2 c3 c4 c5 c6 c7 c8
          clear hp
          go_wp2
          simp [bodyPost, results, Tryz.results78, go_sem]
          rw [← HL.out, hy.out, ← HP.out]
          have hl : p.line = line := by rw [HP.out]; exact he
          exact ⟨⟨by rw [← hl]; rfl, rfl⟩, by (repeat (first | with_reducible exact Below.refl _ _ | with_reducible assumption | with_reducible refine Below.setCell ?_ (by first | (simp; done) | (simp; omega)) _ | with_reducible refine below_alloc ?_ _ | with_reducible refine below_drewN ?_ _ | with_reducible refine Below.drew ?_ | with_reducible refine below_step ?_ (by assumption)))⟩
        · go_wp2
          go_round
          case rel => exact ⟨k, by omega, rfl, by rw [← latest_no known line k (by omega) he]; exact HL⟩
          case measure => simp [intOf]

/-- lookup's results. -/
def Bt.Look.page : Bt.Look → Bt.Page
  | .found p => p
  | _ => Bt.zeroPage
def Bt.Look.have_ : Bt.Look → Bool
  | .found _ => true
  | _ => false
def Bt.Look.code : Bt.Look → Int
  | .bad c => c
  | _ => 0

theorem latest_mem {known : List Bt.Page} {line : Int} {p : Bt.Page} (h : Bt.latest known line = some p) : p ∈ known ∧ p.line = line := by
  unfold Bt.latest at h
  have h1 := List.mem_of_find?_eq_some h
  have h2 := List.find?_some h
  exact ⟨by simpa using h1, by simpa using h2⟩

def LookPost (known : List Bt.Page) (p : Bt.Ptr) (kind : Int) (locks : Bool) (w : World) (e : Ending) (w' : World) : Prop :=
  e = .returned (.tuple #[.agg (Bt.lookup known p kind locks).page.cells, .bool (Bt.lookup known p kind locks).have_, .int .i64 (Bt.lookup known p kind locks).code]) ∧ Below w.heap.size w w'

theorem lookup_bad (known : List Bt.Page) (v : Value) (p : Bt.Ptr) (kind : Int) (locks : Bool) (w : World) (Hv : Hid (Bt.validP p = false)) : Calls Tryz.prog 65 #[v, .agg p.cells, .int .i64 kind, .bool locks] w (LookPost known p kind locks w) := by
  unfold Bt.Ptr.cells
  go_enter Tryz.func65, Tryz.ntmps65
  go_wp2_with (go_at_call 75; refine (Valid_any _ _ _).mono ?_; rintro e w1 ⟨rfl, hb⟩; rw [Hv.out]; ((obtain ⟨hc1, hf1⟩ := below_rules hb; have hs1 := Below.size hb; try simp only [size_alloc, size_setCell, size_drew, size_drewN] at hs1 hc1 hf1); (try have z1_w_0 : w.heap.size < w1.heap.size := by omega); (try have z1_w_1 : w.heap.size + 1 < w1.heap.size := by omega)))
  have B := (made22 w (t := 25) (cs := Bt.zeroPage.cells)).kept hb
  refine bodyPost_ret (results_btt rfl _ _ (w.heap.size + 1) _ _ _ rfl (B.put9 _ _ _ _ _ _ _ _ _) Tryz.underlying25 rfl (by kernel_rfl)) rfl ⟨?_, by (repeat (first | with_reducible exact Below.refl _ _ | with_reducible assumption | with_reducible refine Below.setCell ?_ (by first | (simp; done) | (simp; omega)) _ | with_reducible refine below_alloc ?_ _ | with_reducible refine below_drewN ?_ _ | with_reducible refine Below.drew ?_ | with_reducible refine below_step ?_ (by assumption)))⟩
  simp only [Bt.lookup, Hv.out]
  rfl

theorem lookup_none (known : List Bt.Page) (v : Value) (p : Bt.Ptr) (kind : Int) (locks : Bool) (w : World) (Hk : Hid (PgRow w v known)) (Hv : Hid (Bt.validP p = true)) (Hl : Hid (Bt.latest known p.line = none)) :
    Calls Tryz.prog 65 #[v, .agg p.cells, .int .i64 kind, .bool locks] w (LookPost known p kind locks w) := by
  unfold Bt.Ptr.cells
  go_enter Tryz.func65, Tryz.ntmps65
  go_wp2_with fail
  go_at_call 75; refine (Valid_any _ _ _).mono ?_; rintro e w1 ⟨rfl, hb⟩; rw [Hv.out]; ((obtain ⟨hc1, hf1⟩ := below_rules hb; have hs1 := Below.size hb; try simp only [size_alloc, size_setCell, size_drew, size_drewN] at hs1 hc1 hf1); (try have z1_w_0 : w.heap.size < w1.heap.size := by omega); (try have z1_w_1 : w.heap.size + 1 < w1.heap.size := by omega))
  have P1 : Hid (PgRow w1 v known) := Lib.hid (Hk.out.below (below_step (by (repeat (first | with_reducible exact Below.refl _ _ | with_reducible assumption | with_reducible refine Below.setCell ?_ (by first | (simp; done) | (simp; omega)) _ | with_reducible refine below_alloc ?_ _ | with_reducible refine below_drewN ?_ _ | with_reducible refine Below.drew ?_ | with_reducible refine below_step ?_ (by assumption)))) hb))
  go_wp2_with fail
  go_at_call 78; refine (Latest_any known v _ _ P1.out).mono ?_; rintro e w2 ⟨rfl, hb2⟩; rw [Hl.out]; ((obtain ⟨hc2, hf2⟩ := below_rules hb2; have hs2 := Below.size hb2; try simp only [size_alloc, size_setCell, size_drew, size_drewN] at hs2 hc2 hf2); (try have z2_w_0 : w.heap.size < w2.heap.size := by omega); (try have z2_w_1 : w.heap.size + 1 < w2.heap.size := by omega))
  simp only [Option.getD_none, Option.isSome_none, Bt.Page.cells, Bt.zeroPage]
  go_wp2
  have B := ((made22 w (t := 25) (cs := Bt.zeroPage.cells)).kept hb).kept hb2
  (refine bodyPost_ret (results_btt rfl _ _ (w.heap.size + 1) _ _ _ rfl (by (repeat (first | with_reducible exact B | with_reducible apply Blk.put | with_reducible apply Blk.alloc | (with_reducible apply Blk.aside; (case hp => first | (simp; done) | (simp; omega))) | with_reducible apply Blk.drew))) Tryz.underlying25 rfl (by kernel_rfl)) rfl ⟨?_, ?_⟩)
  · simp only [Bt.lookup, Hv.out, Hl.out]; rfl
  · (repeat (first | with_reducible exact Below.refl _ _ | with_reducible assumption | with_reducible refine Below.setCell ?_ (by first | (simp; done) | (simp; omega)) _ | with_reducible refine below_alloc ?_ _ | with_reducible refine below_drewN ?_ _ | with_reducible refine Below.drew ?_ | with_reducible refine below_step ?_ (by assumption)))
end Go.Proofs.YtjmpekanlmepmaaGreatDoor
