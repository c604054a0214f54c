/- THE PLAIN MODEL of package btree (and of pointer) in Lean: no program in sight. All numbers are Int. -/
set_option linter.all false
set_option maxRecDepth 20000
set_option maxHeartbeats 8000000
namespace Go.Proofs.YtjmpekanlmepmaaGreatDoor.Bt
structure Ptr where
 line : Int
 gen : Int
 deriving DecidableEq, Repr, Inhabited
def nilP : Ptr := ⟨0, 0⟩
structure Page where
 line : Int
 head : Int
 d0 : Int
 d1 : Int
 d2 : Int
 d3 : Int
 d4 : Int
 d5 : Int
 d6 : Int
 deriving DecidableEq, Repr, Inhabited
def Z0l : Page := ⟨0, 0, 0, 0, 0, 0, 0, 0, 0⟩
structure Page.Ok (p : Page) : Prop where
 head : 0 ≤ p.head ∧ p.head < 18446744073709551616
 d0 : 0 ≤ p.d0 ∧ p.d0 < 18446744073709551616
 d1 : 0 ≤ p.d1 ∧ p.d1 < 18446744073709551616
 d2 : 0 ≤ p.d2 ∧ p.d2 < 18446744073709551616
 d3 : 0 ≤ p.d3 ∧ p.d3 < 18446744073709551616
 d4 : 0 ≤ p.d4 ∧ p.d4 < 18446744073709551616
 d5 : 0 ≤ p.d5 ∧ p.d5 < 18446744073709551616
 d6 : 0 ≤ p.d6 ∧ p.d6 < 18446744073709551616
structure Entry where
 key : Int
 to : Ptr
 deriving DecidableEq, Repr, Inhabited
structure Node where
 level : Int
 leftmost : Bool
 dead : Bool
 high : Int
 right : Ptr
 entries : List Entry
 deriving DecidableEq, Repr, Inhabited
def Z1o : Node := ⟨0, false, false, 0, nilP, []⟩
def Z3w (line : Int) : Bool := decide (104 ≤ line) && decide (line < 256)
def Z0w (p : Ptr) : Bool := Z3w p.line && decide (1 ≤ p.gen) && decide (p.gen ≤ 16777215)
def pack (p : Ptr) : Int := if Z0w p then p.gen * 256 + p.line else 0
def unpack (w : Int) : Ptr := ⟨w % 256, w / 256⟩
def Z0f (w : Int) : Int := w % 256
def Z0u (w : Int) : Int := w / 256 % 16777216
def Z1F (w : Int) : Int := w / 4294967296
def Z1v (kind gen aux : Int) : Int := kind % 256 + gen % 16777216 * 256 + aux * 4294967296
def locked (p : Page) : Bool := !(decide (p.head % 256 = 0))
def at_ (p : Page) : Ptr := ⟨p.line, Z0u p.d0⟩
def latest (known : List Page) (line : Int) : Option Page := known.reverse.find? (fun p => decide (p.line = line))
inductive Look where
 | found (p : Page)
 | missing
 | bad (code : Int)
 deriving DecidableEq, Repr
def lookup (known : List Page) (p : Ptr) (kind : Int) (locks : Bool) : Look :=
 if Z0w p then
  match latest known p.line with
  | none => .missing
  | some page =>
    if locks && locked page then .bad 3
    else if Z0f page.d0 = 0 ∨ Z0u page.d0 ≠ p.gen then .bad 11
    else if Z0f page.d0 ≠ kind then .bad 14
    else .found page
 else .bad 1
def allocate (p : Page) (kind aux : Int) : Page × Int :=
 if Z3w p.line = false ∨ kind < 1 ∨ kind > 4 then (Z0l, 1)
 else if locked p then (Z0l, 3)
 else if Z0f p.d0 ≠ 0 then (Z0l, 17)
 else if Z0u p.d0 = 16777215 then (Z0l, 18)
 else (⟨p.line, p.head, Z1v kind (Z0u p.d0 + 1) aux, 0, 0, 0, 0, 0, 0⟩, 0)
def Z09 (last : Int) : List Entry → Bool
 | [] => true
 | e :: es => decide (last < e.key) && Z0w e.to && Z09 e.key es
def rising (es : List Entry) : Bool := Z09 0 es
def Z03 : List Entry → Int
 | [] => 0
 | [e] => e.key
 | _ :: es => Z03 es
def Z0e : Int := 4294967294
def Z08 : Int := 4294967295
def Node.valid (n : Node) : Bool :=
 if n.level < 0 ∨ 8 < n.level ∨ 5 < n.entries.length ∨ rising n.entries = false ∨ n.high = 0 then false
 else if (n.right ≠ nilP ∧ Z0w n.right = false) ∨ decide (n.high = Z08) ≠ decide (n.right = nilP) then false
 else if 0 < n.level then !n.dead && decide (Z03 n.entries = n.high)
 else if n.dead = true ∧ (0 < n.entries.length ∨ n.leftmost = true ∨ n.right = nilP) then false
 else decide (Z03 n.entries ≤ n.high) && decide (Z03 n.entries ≤ Z0e)
def flag (b : Bool) (v : Int) : Int := if b then v else 0
def Node.aux (n : Node) : Int := n.level + n.entries.length * 256 + flag n.leftmost 65536 + flag n.dead 131072
def Z3Q (e : Entry) : Int := e.key * 4294967296 + pack e.to
def wordAt (es : List Entry) (i : Nat) : Int := match es[i]? with | some e => Z3Q e | none => 0
def Node.fill (n : Node) (p : Page) : Page :=
 ⟨p.line, p.head, Z1v (Z0f p.d0) (Z0u p.d0) n.aux, n.high + pack n.right * 4294967296,
  wordAt n.entries 0, wordAt n.entries 1, wordAt n.entries 2, wordAt n.entries 3, wordAt n.entries 4⟩
def entryOf (w : Int) : Entry := ⟨w / 4294967296, unpack (w % 4294967296)⟩
def Page.words (p : Page) : List Int := [p.d2, p.d3, p.d4, p.d5, p.d6]
def Page.count (p : Page) : Int := Z1F p.d0 / 256 % 256
def Page.node (p : Page) : Node :=
 ⟨Z1F p.d0 % 256, decide (Z1F p.d0 / 65536 % 2 = 1), decide (Z1F p.d0 / 131072 % 2 = 1), p.d1 % 4294967296, unpack (p.d1 / 4294967296), (p.words.take p.count.toNat).map entryOf⟩
def Z19 (p : Page) : Option Node :=
 if Z0f p.d0 ≠ 4 ∨ 5 < p.count then none
 else if p.node.valid = true ∧ p.node.fill p = p then some p.node else none
def Z1X (root : Ptr) (level : Int) : Bool := if root = nilP then decide (level = 0) else Z0w root && decide (0 ≤ level) && decide (level ≤ 8)
def Z1p (p : Page) : Option (Ptr × Int) :=
 if Z1X (unpack (p.d0 % 4294967296)) (p.d0 / 4294967296) then some (unpack (p.d0 % 4294967296), p.d0 / 4294967296) else none
def Z0Y (p : Page) (root : Ptr) (level : Int) : Page := { p with d0 := pack root + level * 4294967296 }
structure Op where
 kind : Int
 key : Int
 last : Int
 to : Ptr
 level : Int
 limit : Int
 fresh : List Page
 deriving DecidableEq, Repr, Inhabited
structure Out where
 code : Int := 0
 found : Bool := false
 done : Bool := false
 split : Bool := false
 unposted : Bool := false
 dead : Bool := false
 more : Bool := false
 to : Ptr := nilP
 entries : List Entry := []
 check : List Int := []
 hops : Int := 0
 fresh : Int := 0
 height : Int := 0
 deriving DecidableEq, Repr, Inhabited
@[reducible, simp] def Entry.withTo (e : Entry) (p : Ptr) : Entry := { e with to := p }
@[reducible, simp] def Out.withTo (o : Out) (p : Ptr) : Out := { o with to := p }
structure St where
 need : List Int := []
 writes : List Page := []
 out : Out := {}
 rootPage : Page := Z0l
 root : Ptr := nilP
 ended : Bool := false
 deriving DecidableEq, Repr, Inhabited
def Z2c (x : Int) : List Int → List Int
 | [] => [x]
 | y :: ys => if x ≤ y then x :: y :: ys else y :: Z2c x ys
def Z23 : List Int → List Int
 | [] => []
 | x :: xs => Z2c x (Z23 xs)
def compact : List Int → List Int
 | [] => []
 | [x] => [x]
 | x :: y :: ys => if x = y then compact (y :: ys) else x :: compact (y :: ys)
def St.wait (s : St) (line : Int) : St := { s with need := [line] }
def St.fail (s : St) (code : Int) (check : List Int) : St := { s with out := { s.out with code := code, check := compact (Z23 check) } }
def St.look (s : St) (known : List Page) (p : Ptr) (locks : Bool) : St × Option (Page × Node) :=
 match lookup known p 4 locks with
 | .bad c => (s.fail c [], none)
 | .missing => (s.wait p.line, none)
 | .found page =>
   match Z19 page with
   | none => (s.fail 14 [], none)
   | some n => (s, some (page, n))
def St.neighbour (s : St) (known : List Page) (x : Node) : St × Option (Page × Node) :=
 match s.look known x.right false with
 | (s', none) => (s', none)
 | (s', some (page, n)) => if n.level ≠ x.level then (s'.fail 14 [], none) else (s', some (page, n))
def child : List Entry → Int → Nat
 | [], _ => 0
 | e :: es, k => if e.key < k then child es k + 1 else 0
inductive Walk where
 | absent
 | stopped
 | at_ (page : Page) (node : Node)
 deriving DecidableEq, Repr
def St.hop (s : St) (n : Node) : St := { s with out := { s.out with hops := s.out.hops + 1, dead := s.out.dead || n.dead, unposted := s.out.unposted || !n.dead } }
def Z1m (known : List Page) (level k height : Int) : Nat → St → Int → Page → Node → St × Walk
 | 0, s, _, _, _ => (s, .stopped)
 | fuel + 1, s, moves, page, n =>
   if n.dead = true ∨ n.high < k then
    if 256 < moves + 1 then ((s.hop n).fail 14 [], .stopped)
    else
     match (s.hop n).neighbour known n with
     | (s', none) => (s', .stopped)
     | (s', some (page', n')) => Z1m known level k height fuel s' (moves + 1) page' n'
   else if n.level = level then
    if locked page then (({ s with ended := true, out := { s.out with height := height } } : St).fail 3 [], .stopped)
    else ({ s with ended := true, out := { s.out with height := height } }, .at_ page n)
   else
    match n.entries[child n.entries k]? with
    | none => (s, .stopped)
    | some e =>
      match s.look known e.to false with
      | (s', none) => (s', .stopped)
      | (s', some (page', n')) =>
        if n'.level ≠ n.level - 1 then (s'.fail 14 [], .stopped)
        else Z1m known level k height fuel s' moves page' n'
def St.descend (s : St) (known : List Page) (level k : Int) : St × Walk :=
 match s.look known s.root false with
 | (s', none) => (s', .stopped)
 | (s', some (page, n)) =>
   if n.level < level then (s', .absent)
   else Z1m known level k (n.level + 1) (257 + n.level.toNat) s' 0 page n
def St.noTree (s : St) (code : Int) : St := if locked s.rootPage then s.fail 3 [] else s.fail code [96]
def St.fresh (s : St) (op : Op) (taken : List Int) : St × Option Page :=
 match op.fresh with
 | [] => (({ s with out := { s.out with fresh := 1 } } : St).fail 18 [], none)
 | p :: _ =>
   if (allocate p 4 0).2 ≠ 0 ∨ (allocate p 4 0).1.line ∈ taken then (s.fail 1 [], none)
   else (s, some (allocate p 4 0).1)
def St.finish (s : St) (writes : List Page) (check : List Int) : St := ({ s with writes := writes, out := { s.out with done := true } } : St).fail 0 check
def Z0T (es : List Entry) (k : Int) : Bool := match es[child es k]? with | some e => decide (e.key = k) | none => false
def St.find (s : St) (op : Op) (known : List Page) : St :=
 if s.root = nilP then s.noTree 0
 else match s.descend known 0 op.key with
 | (s', .at_ page n) =>
   if Z0T n.entries op.key then ({ s' with out := { s'.out with found := true, to := (n.entries.getD (child n.entries op.key) default).to } } : St).fail 0 [page.line]
   else s'.fail 0 [page.line]
 | (s', _) => s'
def St.plant (s : St) (op : Op) (e : Entry) : St :=
 if locked s.rootPage then s.fail 3 []
 else match s.fresh op [] with
 | (s', none) => s'
 | (s', some p) => s'.finish [Z0Y s.rootPage (at_ p) 0, (⟨0, true, false, Z08, nilP, [e]⟩ : Node).fill p] []
def St.store (s : St) (op : Op) (page : Page) (n : Node) (es : List Entry) (check : List Int) : St :=
 if es.length ≤ 5 then s.finish [({ n with entries := es } : Node).fill page] check
 else match s.fresh op (check ++ [page.line]) with
 | (s', none) => s'
 | (s', some p) =>
   ({ s' with out := { s'.out with split := true } } : St).finish
    [({ n with high := (es.getD 2 default).key, right := at_ p, entries := es.take 3 } : Node).fill page, (⟨n.level, false, false, n.high, n.right, es.drop 3⟩ : Node).fill p] check
def Z0h (es : List Entry) (i : Nat) (e : Entry) : List Entry := es.take i ++ e :: es.drop i
def Z0B (es : List Entry) (i : Nat) : List Entry := es.take i ++ es.drop (i + 1)
def St.insert (s : St) (op : Op) (known : List Page) : St :=
 if s.root = nilP then s.plant op ⟨op.key, op.to⟩
 else match s.descend known 0 op.key with
 | (s', .at_ page n) =>
   if Z0T n.entries op.key then s'.fail 17 [page.line]
   else s'.store op page n (Z0h n.entries (child n.entries op.key) ⟨op.key, op.to⟩) []
 | (s', _) => s'
def St.remove (s : St) (op : Op) (known : List Page) : St :=
 if s.root = nilP then s.noTree 16
 else match s.descend known 0 op.key with
 | (s', .at_ page n) =>
   if Z0T n.entries op.key then ({ s' with out := { s'.out with to := (n.entries.getD (child n.entries op.key) default).to } } : St).store op page n (Z0B n.entries (child n.entries op.key)) []
   else s'.fail 16 [page.line]
 | (s', _) => s'
def Z1d (lo hi limit : Int) : List Entry → List Entry → List Entry
 | acc, [] => acc
 | acc, e :: es => if lo ≤ e.key ∧ e.key ≤ hi ∧ (acc.length : Int) < limit then Z1d lo hi limit (acc ++ [e]) es else Z1d lo hi limit acc es
def Z3A (op : Op) (known : List Page) : Nat → St → Int → List Entry → List Int → Page → Node → St
 | 0, s, _, _, _, _, _ => s
 | fuel + 1, s, moves, acc, check, page, n =>
   let onward (s : St) (acc : List Entry) (check : List Int) : St :=
    if 256 < moves + 1 then ({ s with out := { s.out with hops := s.out.hops + 1, dead := s.out.dead || n.dead } } : St).fail 14 []
    else match ({ s with out := { s.out with hops := s.out.hops + 1, dead := s.out.dead || n.dead } } : St).neighbour known n with
     | (s', none) => s'
     | (s', some (page', n')) => Z3A op known fuel s' (moves + 1) acc check page' n'
   if n.dead then onward s acc check
   else if locked page then s.fail 3 []
   else
    let acc' := Z1d op.key op.last op.limit acc n.entries
    let more := decide ((acc'.length : Int) = op.limit)
    let s' : St := { s with out := { s.out with more := more } }
    if more = true ∨ op.last ≤ n.high then ({ s' with out := { s'.out with entries := acc' } } : St).fail 0 (check ++ [page.line])
    else onward s' acc' (check ++ [page.line])
def St.scan (s : St) (op : Op) (known : List Page) : St :=
 if s.root = nilP then s.noTree 0
 else match s.descend known 0 op.key with
 | (s', .at_ page n) => Z3A op known 257 s' 0 [] [] page n
 | (s', _) => s'
def setTo (es : List Entry) (i : Nat) (p : Ptr) : List Entry := es.modify i (fun e => { e with to := p })
def St.post (s : St) (op : Op) (known : List Page) : St :=
 if s.root = nilP then s.fail 16 []
 else match s.descend known (op.level + 1) op.key with
 | (s', .absent) => s'.fail 16 []
 | (s', .stopped) => s'
 | (s', .at_ page n) =>
   let i := child n.entries op.key
   let e := n.entries.getD i default
   match s'.look known e.to true with
   | (t, none) => t
   | (t, some (xp, x)) =>
     if x.level ≠ op.level then t.fail 14 []
     else if x.dead then t.fail 11 []
     else if e.key ≤ x.high then { t with out := { t.out with found := true } }
     else if 0 < i ∧ x.high ≤ (n.entries.getD (i - 1) default).key then t.fail 14 []
     else t.store op page n (setTo (Z0h n.entries i ⟨x.high, e.to⟩) (i + 1) x.right) [xp.line]
def St.raise (s : St) (op : Op) (known : List Page) : St :=
 if s.root = nilP then s.fail 16 []
 else match s.look known s.root true with
 | (s', none) => s'
 | (s', some (page, n)) =>
   if n.right = nilP then { s' with out := { s'.out with found := true } }
   else if n.level = 8 then s'.fail 12 []
   else match s'.fresh op [page.line] with
   | (t, none) => t
   | (t, some p) =>
     t.finish [Z0Y t.rootPage (at_ p) (n.level + 1), (⟨n.level + 1, true, false, Z08, nilP, [⟨n.high, t.root⟩, ⟨Z08, n.right⟩]⟩ : Node).fill p] [page.line]
def St.kill (s : St) (op : Op) (known : List Page) : St :=
 if s.root = nilP then s.fail 16 []
 else match s.descend known 0 op.key with
 | (s', .at_ page n) =>
   if 0 < n.entries.length ∨ n.leftmost = true ∨ n.right = nilP then { s' with out := { s'.out with found := true } }
   else match s'.descend known 1 op.key with
   | (t, .absent) => t.fail 7 []
   | (t, .stopped) => t
   | (t, .at_ pp m) =>
     let i := child m.entries op.key
     let e := m.entries.getD i default
     if e.to ≠ at_ page ∨ e.key ≠ n.high then t.fail 7 []
     else if i + 1 = m.entries.length then { t with out := { t.out with found := true } }
     else t.finish [({ n with dead := true } : Node).fill page, ({ m with entries := Z0B m.entries i } : Node).fill pp] []
 | (s', _) => s'
def St.unlink (s : St) (op : Op) (known : List Page) : St :=
 if s.root = nilP then s.fail 16 []
 else match s.descend known 0 op.key with
 | (s', .at_ page n) =>
   if n.right = nilP then { s' with out := { s'.out with found := true } }
   else match s'.look known n.right true with
   | (t, none) => t
   | (t, some (dp, d)) =>
     if d.level ≠ 0 then t.fail 14 []
     else if d.dead = false then { t with out := { t.out with found := true } }
     else ({ t with out := { t.out with to := n.right } } : St).finish [({ n with right := d.right } : Node).fill page] [dp.line]
 | (s', _) => s'
def isKey (k : Int) : Bool := decide (1 ≤ k) && decide (k ≤ Z0e)
def Op.isValid (op : Op) : Bool :=
 if op.kind = 6 then true
 else if op.kind = 5 then decide (1 ≤ op.key) && decide (0 ≤ op.level) && decide (op.level < 8)
 else if op.kind = 2 then isKey op.key && Z0w op.to
 else if op.kind = 4 then isKey op.key && isKey op.last && decide (op.key ≤ op.last) && decide (1 ≤ op.limit) && decide (op.limit ≤ 64)
 else if op.kind = 1 ∨ op.kind = 3 ∨ op.kind = 7 ∨ op.kind = 8 then isKey op.key
 else false
def St.Z1p (s : St) (op : Op) (known : List Page) : St × Bool :=
 match latest known 96 with
 | none => (s.wait 96, false)
 | some p =>
   if op.kind = 6 ∧ locked p = true then (s.fail 3 [], false)
   else match Bt.Z1p p with
   | none => (s.fail 14 [], false)
   | some (root, _) => ({ s with rootPage := p, root := root }, true)
def St.go (s : St) (op : Op) (known : List Page) : St :=
 if op.kind = 1 then s.find op known
 else if op.kind = 2 then s.insert op known
 else if op.kind = 3 then s.remove op known
 else if op.kind = 4 then s.scan op known
 else if op.kind = 5 then s.post op known
 else if op.kind = 6 then s.raise op known
 else if op.kind = 7 then s.kill op known
 else s.unlink op known
def Z1T : List Page → List Page
 | [p, q] => if q.line < p.line then [q, p] else [p, q]
 | l => l
structure Step where
 need : List Int
 writes : List Page
 out : Out
 over : Bool
 deriving DecidableEq, Repr, Inhabited
def St.close (s : St) : Step :=
 if s.need ≠ [] then ⟨s.need, [], {}, false⟩
 else ⟨[], Z1T s.writes, if s.ended then s.out else { s.out with hops := 0, height := 0, dead := false, unposted := false }, true⟩
def next (op : Op) (known : List Page) : Step :=
 if op.isValid = false then ⟨[], [], { code := 1 }, true⟩
 else match ({} : St).Z1p op known with
 | (s, false) => s.close
 | (s, true) => (s.go op known).close
theorem Z2T : Z0w nilP = false := by decide
theorem Z7g {p : Ptr} (h : Z0w p = true) : 104 ≤ p.line ∧ p.line < 256 ∧ 1 ≤ p.gen ∧ p.gen ≤ 16777215 := by
 simp only [Z0w, Z3w, Bool.and_eq_true, decide_eq_true_eq] at h
 omega
theorem Z5p (p : Ptr) : 0 ≤ pack p ∧ pack p < 4294967296 := by
 unfold pack
 split
 ·have := Z7g (by assumption); omega
 ·omega
theorem unpack_pack {p : Ptr} (h : p = nilP ∨ Z0w p = true) : unpack (pack p) = p := by
 rcases h with rfl | h
 ·rfl
 ·have := Z7g h
  obtain ⟨l, g⟩ := p
  simp only [pack, h, if_true, unpack, Ptr.mk.injEq] at this ⊢
  omega
theorem Z4K {last : Int} {es : List Entry} (h : Z09 last es = true) (hne : es ≠ []) : last < Z03 es := by
 induction es generalizing last with
 | nil => exact absurd rfl hne
 | cons e es ih =>
   simp only [Z09, Bool.and_eq_true, decide_eq_true_eq] at h
   cases es with
   | nil => exact h.1.1
   | cons e' es => have := ih h.2 (by simp); simp only [Z03]; omega
theorem Z5t {e : Entry} (hk : 0 ≤ e.key) (h : Z0w e.to = true) : entryOf (Z3Q e) = e := by
 have h1 := Z5p e.to
 have h2 := unpack_pack (.inr h)
 obtain ⟨k, t⟩ := e
 simp only [Z3Q, entryOf, Entry.mk.injEq] at *
 refine ⟨by omega, ?_⟩
 rw [show (k * 4294967296 + pack t) % 4294967296 = pack t by omega]
 exact h2
theorem Z3B {last : Int} {es : List Entry} (h : Z09 last es = true) : ∀ e ∈ es, last < e.key ∧ Z0w e.to = true := by
 induction es generalizing last with
 | nil => intro e he; cases he
 | cons x es ih =>
   simp only [Z09, Bool.and_eq_true, decide_eq_true_eq] at h
   intro e he
   rcases List.mem_cons.1 he with rfl | he
   ·exact h.1
   ·have := ih h.2 e he
    exact ⟨by omega, this.2⟩
theorem Node.valid_parts {n : Node} (h : n.valid = true) : 0 ≤ n.level ∧ n.level ≤ 8 ∧ n.entries.length ≤ 5 ∧ rising n.entries = true ∧ n.high ≠ 0 ∧ (n.right = nilP ∨ Z0w n.right = true) ∧ (n.high = Z08 ↔ n.right = nilP) ∧ Z03 n.entries ≤ n.high ∧
 (n.dead = true → n.level = 0 ∧ n.entries = [] ∧ n.leftmost = false ∧ n.right ≠ nilP) ∧ (0 < n.level → Z03 n.entries = n.high) ∧ (n.level = 0 → Z03 n.entries ≤ Z0e) := by
 unfold Node.valid at h
 by_cases h1 : n.level < 0 ∨ 8 < n.level ∨ 5 < n.entries.length ∨ rising n.entries = false ∨ n.high = 0
 ·rw [if_pos h1] at h; cases h
 rw [if_neg h1] at h
 by_cases h2 : (n.right ≠ nilP ∧ Z0w n.right = false) ∨ decide (n.high = Z08) ≠ decide (n.right = nilP)
 ·rw [if_pos h2] at h; cases h
 rw [if_neg h2] at h
 have h3 : rising n.entries = true := by
  cases hr : rising n.entries with
  | true => rfl
  | false => exact absurd (.inr (.inr (.inr (.inl hr)))) h1
 have h4 : n.right = nilP ∨ Z0w n.right = true := by
  by_cases hn : n.right = nilP
  ·exact .inl hn
  ·right
   cases hv : Z0w n.right with
   | true => rfl
   | false => exact absurd (.inl ⟨hn, hv⟩) h2
 have h5 : n.high = Z08 ↔ n.right = nilP := by
  have : decide (n.high = Z08) = decide (n.right = nilP) := by
   by_cases he : decide (n.high = Z08) = decide (n.right = nilP)
   ·exact he
   ·exact absurd (.inr he) h2
  simpa using this
 have b1 : ¬ n.level < 0 := fun x => h1 (.inl x)
 have b2 : ¬ 8 < n.level := fun x => h1 (.inr (.inl x))
 have b3 : ¬ 5 < n.entries.length := fun x => h1 (.inr (.inr (.inl x)))
 have b4 : ¬ n.high = 0 := fun x => h1 (.inr (.inr (.inr (.inr x))))
 by_cases h6 : 0 < n.level
 ·rw [if_pos h6] at h
  simp only [Bool.and_eq_true, Bool.not_eq_true', decide_eq_true_eq] at h
  exact ⟨by omega, by omega, by omega, h3, b4, h4, h5, by omega, fun hd => (by rw [h.1] at hd; cases hd), fun _ => h.2, fun h0 => by omega⟩
 ·rw [if_neg h6] at h
  by_cases h7 : n.dead = true ∧ (0 < n.entries.length ∨ n.leftmost = true ∨ n.right = nilP)
  ·rw [if_pos h7] at h; cases h
  ·rw [if_neg h7] at h
   simp only [Bool.and_eq_true, decide_eq_true_eq] at h
   refine ⟨by omega, by omega, by omega, h3, b4, h4, h5, h.1, fun hd => ?_, fun h0 => by omega, fun _ => h.2⟩
   refine ⟨by omega, ?_, ?_, fun hn => h7 ⟨hd, .inr (.inr hn)⟩⟩
   ·cases hc : n.entries with
    | nil => rfl
    | cons a b => exact absurd ⟨hd, .inl (by rw [hc]; simp)⟩ h7
   ·cases hc : n.leftmost with
    | false => rfl
    | true => exact absurd ⟨hd, .inr (.inl hc)⟩ h7
theorem Z4A (b : Bool) (v : Int) : (b = true ∧ flag b v = v) ∨ (b = false ∧ flag b v = 0) := by cases b <;> simp [flag]
theorem Z7S {n : Node} (h1 : 0 ≤ n.level) (h2 : n.level ≤ 8) (h3 : n.entries.length ≤ 5) : 0 ≤ n.aux ∧ n.aux < 262144 := by
 unfold Node.aux
 rcases Z4A n.leftmost 65536 with ⟨_, h⟩ | ⟨_, h⟩ <;> rcases Z4A n.dead 131072 with ⟨_, h'⟩ | ⟨_, h'⟩ <;> rw [h, h'] <;> omega
theorem Z7i {k g a : Int} (hk : 0 ≤ k ∧ k < 256) (hg : 0 ≤ g ∧ g < 16777216) (ha : 0 ≤ a) : Z0f (Z1v k g a) = k ∧ Z0u (Z1v k g a) = g ∧ Z1F (Z1v k g a) = a := by
 unfold Z1v Z0f Z0u Z1F
 refine ⟨by omega, by omega, by omega⟩
theorem Z5d {n : Node} (h : n.valid = true) (p : Page) : Z0f (n.fill p).d0 = Z0f p.d0 ∧ Z0u (n.fill p).d0 = Z0u p.d0 ∧ Z1F (n.fill p).d0 = n.aux := by
 obtain ⟨h1, h2, h3, _⟩ := Node.valid_parts h
 exact Z7i (by unfold Z0f; omega) (by unfold Z0u; omega) (Z7S h1 h2 h3).1
theorem Z96 (n : Node) (p : Page) : (n.fill p).words = [wordAt n.entries 0, wordAt n.entries 1, wordAt n.entries 2, wordAt n.entries 3, wordAt n.entries 4] := rfl
theorem Z99 (es : List Entry) (h5 : es.length ≤ 5) : [wordAt es 0, wordAt es 1, wordAt es 2, wordAt es 3, wordAt es 4].take es.length = es.map Z3Q := by
 match es, h5 with
 | [], _ => rfl
 | [a], _ => rfl
 | [a, b], _ => rfl
 | [a, b, c], _ => rfl
 | [a, b, c, d], _ => rfl
 | [a, b, c, d, e], _ => rfl
 | a :: b :: c :: d :: e :: f :: g, h => simp at h
theorem Zaw {l : List Entry} {f : Entry → Entry} (h : ∀ e ∈ l, f e = e) : l.map f = l := by
 induction l with
 | nil => rfl
 | cons a l ih => rw [List.map_cons, h a (by simp), ih (fun e he => h e (by simp [he]))]
theorem Zb2 {n : Node} (h1 : 0 ≤ n.level) (h2 : n.level ≤ 8) (h3 : n.entries.length ≤ 5) :
 n.aux % 256 = n.level ∧ n.aux / 256 % 256 = n.entries.length ∧ decide (n.aux / 65536 % 2 = 1) = n.leftmost ∧ decide (n.aux / 131072 % 2 = 1) = n.dead := by
 unfold Node.aux
 rcases Z4A n.leftmost 65536 with ⟨hb, h⟩ | ⟨hb, h⟩ <;> rcases Z4A n.dead 131072 with ⟨hb', h'⟩ | ⟨hb', h'⟩ <;> rw [h, h', hb, hb'] <;>
  refine ⟨by omega, by omega, ?_, ?_⟩ <;> first | (apply decide_eq_true; omega) | (apply decide_eq_false; omega)
theorem Zar {n : Node} (h : n.valid = true) (hh : 0 ≤ n.high) (hh2 : n.high < 4294967296) (p : Page) : (n.fill p).node = n ∧ (n.fill p).count = n.entries.length := by
 obtain ⟨h1, h2, h3, h4, h5, h6, _⟩ := Node.valid_parts h
 obtain ⟨t1, t2, t3⟩ := Z5d h p
 obtain ⟨a1, a2, a3, a4⟩ := Zb2 h1 h2 h3
 have hc : (n.fill p).count = n.entries.length := by unfold Page.count; rw [t3, a2]
 refine ⟨?_, hc⟩
 have hp := Z5p n.right
 have hr : unpack (pack n.right) = n.right := unpack_pack h6
 have he : ((n.fill p).words.take (n.fill p).count.toNat).map entryOf = n.entries := by
  rw [hc, Z96]
  rw [show ((n.entries.length : Int).toNat) = n.entries.length by simp, Z99 _ h3, List.map_map]
  exact Zaw fun e he => by
   have := Z3B h4 e he
   exact Z5t (by omega) this.2
 unfold Page.node
 rw [t3, a1, a3, a4, he]
 have hd1 : (n.fill p).d1 = n.high + pack n.right * 4294967296 := rfl
 rw [hd1, show (n.high + pack n.right * 4294967296) % 4294967296 = n.high by omega, show (n.high + pack n.right * 4294967296) / 4294967296 = pack n.right by omega, hr]
theorem ZaW (n : Node) (h : n.valid = true) (p : Page) : n.fill (n.fill p) = n.fill p := by
 obtain ⟨t1, t2, t3⟩ := Z5d h p
 unfold Node.fill at *
 simp only at t1 t2
 simp only [t1, t2]
theorem Z6Q {n : Node} (h : n.valid = true) (hh : 0 ≤ n.high) (hh2 : n.high < 4294967296) {p : Page} (hk : Z0f p.d0 = 4) : Z19 (n.fill p) = some n := by
 obtain ⟨e1, e2⟩ := Zar h hh hh2 p
 obtain ⟨_, _, h3, _⟩ := Node.valid_parts h
 obtain ⟨t1, _, _⟩ := Z5d h p
 unfold Z19
 rw [if_neg (by rintro (x | x); exact x (t1.trans hk); omega), e1, if_pos ⟨h, ZaW n h p⟩]
abbrev Cell := Int × Node
def pg (known : List Page) (l : Int) : Page := (latest known l).getD Z0l
def ptr (l : Int) : Ptr := ⟨l, 1⟩
theorem Z8k {a b : Int} (h : ptr a = ptr b) : a = b := by simpa [ptr] using h
structure Sees (known : List Page) (l : Int) (n : Node) : Prop where
 here : latest known l = some (pg known l)
 lo : 104 ≤ l
 hi : l < 256
 kind : Z0f (pg known l).d0 = 4
 gen : Z0u (pg known l).d0 = 1
 node : Z19 (pg known l) = some n
 free : locked (pg known l) = false
theorem Z5m {l : Int} (h1 : 104 ≤ l) (h2 : l < 256) : Z0w (ptr l) = true := by
 have e1 : decide (104 ≤ l) = true := decide_eq_true h1
 have e2 : decide (l < 256) = true := decide_eq_true h2
 show (decide (104 ≤ l) && decide (l < 256) && decide ((1 : Int) ≤ 1) && decide ((1 : Int) ≤ 16777215)) = true
 rw [e1, e2]; rfl
theorem Sees.valid {known : List Page} {l : Int} {n : Node} (h : Sees known l n) : Z0w (ptr l) = true := Z5m h.lo h.hi
theorem Sees.look {known : List Page} {l : Int} {n : Node} (h : Sees known l n) (s : St) (b : Bool) : s.look known (ptr l) b = (s, some (pg known l, n)) := by
 have hl : lookup known (ptr l) 4 b = .found (pg known l) := by
  unfold lookup
  rw [if_pos h.valid]
  have e1 : latest known (ptr l).line = some (pg known l) := h.here
  rw [e1]
  have h1 := h.kind
  have h2 := h.gen
  have h3 := h.free
  simp [h1, h2, h3, ptr]
 unfold St.look
 rw [hl]
 simp only [h.node]
theorem Z65 {known : List Page} {l : Int} {p : Page} (h : latest known l = some p) : p.line = l := by
 have := List.find?_some h
 simpa using this
theorem Sees.line {known : List Page} {l : Int} {n : Node} (h : Sees known l n) : (pg known l).line = l := Z65 h.here
theorem Sees.at {known : List Page} {l : Int} {n : Node} (h : Sees known l n) : at_ (pg known l) = ptr l := by simp [at_, ptr, h.gen, h.line]
theorem Z3y {p : Page} {n : Node} (h : Z19 p = some n) : n.valid = true ∧ n = p.node ∧ Z0f p.d0 = 4 ∧ p.count ≤ 5 := by
 unfold Z19 at h
 split at h
 ·cases h
 ·split at h
  ·rename_i h1 h2
   obtain rfl := Option.some.inj h
   refine ⟨h2.1, rfl, ?_, ?_⟩
   ·by_cases hk : Z0f p.d0 = 4
    ·exact hk
    ·exact absurd (.inl hk) h1
   ·by_cases hk : p.count ≤ 5
    ·exact hk
    ·exact absurd (.inr (by omega)) h1
  ·cases h
def Z14 : List Cell → Ptr → Ptr
 | [], e => e
 | c :: _, _ => ptr c.1
def Chain : List Cell → Ptr → Prop
 | [], _ => True
 | c :: r, e => c.2.right = Z14 r e ∧ Chain r e
theorem Z21 (a b : List Cell) (e : Ptr) : Z14 (a ++ b) e = Z14 a (Z14 b e) := by cases a <;> rfl
theorem Chain.append {a b : List Cell} {e : Ptr} : Chain (a ++ b) e ↔ Chain a (Z14 b e) ∧ Chain b e := by
 induction a with
 | nil => simp [Chain]
 | cons c a ih => simp only [List.cons_append, Chain, Z21, ih, and_assoc]
def Lefts : Bool → List Cell → Prop
 | _, [] => True
 | b, c :: r => c.2.leftmost = b ∧ Lefts false r
theorem Lefts.append {b : Bool} {a c : List Cell} : Lefts b (a ++ c) ↔ Lefts b a ∧ Lefts (b && a.isEmpty) c := by
 induction a generalizing b with
 | nil => simp [Lefts]
 | cons x a ih => simp only [List.cons_append, Lefts, ih, List.isEmpty_cons, Bool.and_false, Bool.false_and, and_assoc]
abbrev Node.passes (n : Node) (k : Int) : Prop := n.dead = true ∨ n.high < k
def seek (k : Int) : List Cell → List Cell
 | [] => []
 | c :: r => if c.2.passes k then seek k r else c :: r
def skips (k : Int) : List Cell → List Node
 | [] => []
 | c :: r => if c.2.passes k then c.2 :: skips k r else []
theorem Z5V (k : Int) (l : List Cell) : ∃ a, l = a ++ seek k l ∧ a.map (·.2) = skips k l ∧ ∀ c ∈ a, c.2.passes k := by
 induction l with
 | nil => exact ⟨[], rfl, rfl, fun c hc => by cases hc⟩
 | cons c r ih =>
   obtain ⟨a, h1, h2, h3⟩ := ih
   by_cases hp : c.2.passes k
   ·refine ⟨c :: a, ?_, ?_, ?_⟩
    ·simp only [seek, if_pos hp, List.cons_append]; rw [← h1]
    ·simp only [skips, if_pos hp, List.map_cons, h2]
    ·intro x hx
     rcases List.mem_cons.1 hx with rfl | hx
     ·exact hp
     ·exact h3 x hx
   ·exact ⟨[], by simp [seek, if_neg hp], by simp [skips, if_neg hp], fun x hx => by cases hx⟩
inductive Walks (lev k : Int) : Cell → List Node → List Cell → Cell → Prop
 | here {c : Cell} : ¬ c.2.passes k → c.2.level = lev → Walks lev k c [] [] c
 | right {c d e : Cell} {hs : List Node} {l : List Cell} : c.2.passes k → c.2.right = ptr d.1 → d.2.level = c.2.level → Walks lev k d hs l e → Walks lev k c (c.2 :: hs) (d :: l) e
 | down {c d e : Cell} {x : Entry} {hs : List Node} {l : List Cell} : ¬ c.2.passes k → c.2.level ≠ lev → c.2.entries[child c.2.entries k]? = some x → x.to = ptr d.1 → d.2.level = c.2.level - 1 → Walks lev k d hs l e → Walks lev k c hs (d :: l) e
theorem Walks.last {lev k : Int} {c e : Cell} {hs : List Node} {l : List Cell} (h : Walks lev k c hs l e) : e ∈ c :: l ∧ ¬ e.2.passes k ∧ e.2.level = lev := by
 induction h with
 | here h1 h2 => exact ⟨by simp, h1, h2⟩
 | right _ _ _ _ ih => exact ⟨List.mem_cons_of_mem _ ih.1, ih.2⟩
 | down _ _ _ _ _ _ ih => exact ⟨List.mem_cons_of_mem _ ih.1, ih.2⟩
theorem Walks.hops {lev k : Int} {c e : Cell} {hs : List Node} {l : List Cell} (h : Walks lev k c hs l e) : (l.length : Int) = hs.length + (c.2.level - lev) := by
 induction h with
 | here h1 h2 => simp [h2]
 | right _ _ h3 _ ih => simp only [List.length_cons]; omega
 | down _ _ _ _ h5 _ ih => simp only [List.length_cons]; omega
theorem Walks.descend {known : List Page} {lev k height : Int} {c e : Cell} {hs : List Node} {l : List Cell} (h : Walks lev k c hs l e) (hk : ∀ x ∈ c :: l, Sees known x.1 x.2)
 (fuel : Nat) (hf : l.length < fuel) (s : St) (moves : Int) (hm : moves + hs.length ≤ 256) :
 Z1m known lev k height fuel s moves (pg known c.1) c.2 = ({ hs.foldl St.hop s with ended := true, out := { (hs.foldl St.hop s).out with height := height } }, .at_ (pg known e.1) e.2) := by
 induction h generalizing fuel s moves with
 | @here c h1 h2 =>
   obtain ⟨f, rfl⟩ : ∃ f, fuel = f + 1 := ⟨fuel - 1, by omega⟩
   unfold Z1m
   rw [if_neg h1, if_pos h2, if_neg (by rw [(hk c (by simp)).free]; simp)]
   rfl
 | @right c d e hs l h1 h2 h3 _ ih =>
   obtain ⟨f, rfl⟩ : ∃ f, fuel = f + 1 := ⟨fuel - 1, by omega⟩
   simp only [List.length_cons] at hf hm
   unfold Z1m
   have hn : (s.hop c.2).neighbour known c.2 = (s.hop c.2, some (pg known d.1, d.2)) := by
    unfold St.neighbour
    rw [h2, (hk d (by simp)).look]
    simp only
    rw [if_neg (by rw [h3]; simp)]
   rw [if_pos h1, if_neg (by omega), hn]
   exact ih (fun x hx => hk x (by simp only [List.mem_cons] at hx ⊢; exact .inr hx)) f (by omega) (s.hop c.2) (moves + 1) (by omega)
 | @down c d e x hs l h1 h2 h3 h4 h5 _ ih =>
   obtain ⟨f, rfl⟩ : ∃ f, fuel = f + 1 := ⟨fuel - 1, by omega⟩
   simp only [List.length_cons] at hf
   unfold Z1m
   rw [if_neg h1, if_neg h2, h3]
   simp only
   rw [h4, (hk d (by simp)).look]
   simp only
   rw [if_neg (by rw [h5]; simp)]
   exact ih (fun x hx => hk x (by simp only [List.mem_cons] at hx ⊢; exact .inr hx)) f (by omega) s moves hm
theorem Walks.onLevel {lev k : Int} {c : Cell} {r : List Cell} {d : Cell} {r' : List Cell} {z : Ptr} (h : Chain (c :: r) z) (hlev : ∀ x ∈ r, x.2.level = c.2.level) (hs : seek k (c :: r) = d :: r') {e : Cell} {hs2 : List Node} {l2 : List Cell}
 (hw : Walks lev k d hs2 l2 e) : ∃ l1, Walks lev k c (skips k (c :: r) ++ hs2) (l1 ++ l2) e ∧ (∃ b, r = l1 ++ b) ∧ l1.length = (skips k (c :: r)).length := by
 induction r generalizing c with
 | nil =>
   by_cases hp : c.2.passes k
   ·simp [seek, if_pos hp] at hs
   ·simp only [seek, if_neg hp, List.cons.injEq] at hs
    obtain ⟨rfl, _⟩ := hs
    exact ⟨[], by simpa [skips, if_neg hp] using hw, ⟨[], rfl⟩, by simp [skips, if_neg hp]⟩
 | cons x r ih =>
   by_cases hp : c.2.passes k
   ·have e1 : skips k (c :: x :: r) = c.2 :: skips k (x :: r) := by simp only [skips, if_pos hp]
    have e2 : seek k (x :: r) = d :: r' := by rw [← hs]; simp only [seek, if_pos hp]
    obtain ⟨l1, h1, ⟨b, h2⟩, h3⟩ := ih h.2 (fun y hy => by rw [hlev y (by simp [hy]), hlev x (by simp)]) e2
    rw [e1]
    exact ⟨x :: l1, .right hp h.1 (hlev x (by simp)) h1, ⟨b, by rw [h2]; rfl⟩, by simp [h3]⟩
   ·simp only [seek, if_neg hp, List.cons.injEq] at hs
    obtain ⟨rfl, _⟩ := hs
    exact ⟨[], by simpa [skips, if_neg hp] using hw, ⟨x :: r, rfl⟩, by simp [skips, if_neg hp]⟩
def Z05 : Int → List Cell → Int
 | low, [] => low
 | low, c :: r => if c.2.dead then Z05 low r else Z05 c.2.high r
theorem Z0S (low : Int) (a b : List Cell) : Z05 low (a ++ b) = Z05 (Z05 low a) b := by
 induction a generalizing low with
 | nil => rfl
 | cons c a ih =>
   simp only [List.cons_append, Z05]
   split <;> exact ih _
theorem Z1A (low : Int) {c : Cell} (h : c.2.dead = false) : Z05 low [c] = c.2.high := by simp [Z05, h]
theorem Z5L (low : Int) {c : Cell} (h : c.2.dead = true) : Z05 low [c] = low := by simp [Z05, h]
def Rise : Int → List Cell → Prop
 | _, [] => True
 | low, c :: r => if c.2.dead then Rise low r else low < c.2.high ∧ (∀ e ∈ c.2.entries, low < e.key) ∧ Rise c.2.high r
theorem Rise.append {low : Int} {a b : List Cell} : Rise low (a ++ b) ↔ Rise low a ∧ Rise (Z05 low a) b := by
 induction a generalizing low with
 | nil => simp [Rise, Z05]
 | cons c a ih =>
   simp only [List.cons_append, Rise, Z05]
   split
   ·exact ih
   ·rw [ih]; exact ⟨fun ⟨h1, h2, h3, h4⟩ => ⟨⟨h1, h2, h3⟩, h4⟩, fun ⟨⟨h1, h2, h3⟩, h4⟩ => ⟨h1, h2, h3, h4⟩⟩
theorem Rise.low {low : Int} {a : List Cell} (h : Rise low a) : low ≤ Z05 low a ∧ ∀ c ∈ a, c.2.dead = false → c.2.high ≤ Z05 low a := by
 induction a generalizing low with
 | nil => exact ⟨Int.le_refl _, fun c hc => by cases hc⟩
 | cons c a ih =>
   simp only [Rise] at h
   simp only [Z05]
   by_cases hd : c.2.dead = true
   ·rw [if_pos hd] at h ⊢
    obtain ⟨h1, h2⟩ := ih h
    refine ⟨h1, fun x hx hxd => ?_⟩
    rcases List.mem_cons.1 hx with rfl | hx
    ·rw [hd] at hxd; cases hxd
    ·exact h2 x hx hxd
   ·rw [if_neg hd] at h ⊢
    obtain ⟨h1, h2⟩ := ih h.2.2
    refine ⟨by omega, fun x hx hxd => ?_⟩
    rcases List.mem_cons.1 hx with rfl | hx
    ·exact h1
    ·exact h2 x hx hxd
theorem Rise.less {low low' : Int} {a : List Cell} (h : Rise low a) (hl : low' ≤ low) : Rise low' a := by
 induction a generalizing low low' with
 | nil => trivial
 | cons c a ih =>
   simp only [Rise] at h ⊢
   split
   ·rename_i hd; rw [if_pos hd] at h; exact ih h hl
   ·rename_i hd; rw [if_neg hd] at h; exact ⟨by omega, fun e he => by have := h.2.1 e he; omega, h.2.2⟩
theorem Z5W {k : Int} {a b : List Cell} {low : Int} (h : Rise low a) (hk : Z05 low a < k) : seek k (a ++ b) = seek k b ∧ skips k (a ++ b) = a.map (·.2) ++ skips k b := by
 induction a generalizing low with
 | nil => exact ⟨rfl, rfl⟩
 | cons c a ih =>
   have hp : c.2.passes k := by
    by_cases hd : c.2.dead = true
    ·exact .inl hd
    ·right
     have := h.low.2 c (by simp) (by simpa using hd)
     omega
   have hr : Rise (if c.2.dead then low else c.2.high) a ∧ Z05 (if c.2.dead then low else c.2.high) a < k := by
    simp only [Rise] at h
    simp only [Z05] at hk
    split at hk
    ·rename_i hd; rw [if_pos hd] at h ⊢; exact ⟨h, hk⟩
    ·rename_i hd; rw [if_neg hd] at h ⊢; exact ⟨h.2.2, hk⟩
   obtain ⟨h1, h2⟩ := ih hr.1 hr.2
   simp only [List.cons_append, seek, skips, if_pos hp, h1, h2, List.map_cons, and_self]
theorem Z4l {k : Int} (p : Int) (b : List Cell) (hp : p < k) (h : ∀ c ∈ b, c.2.passes k) : Z05 p b < k := by
 induction b generalizing p with
 | nil => exact hp
 | cons y b ih =>
   simp only [Z05]
   have hy := h y (by simp)
   split
   ·exact ih p hp (fun z hz => h z (by simp [hz]))
   ·rename_i hyd
    rcases hy with hy | hy
    ·exact absurd hy hyd
    ·exact ih _ hy (fun z hz => h z (by simp [hz]))
structure Level (l : Int) (c : List Cell) : Prop where
 ne : c ≠ []
 chain : Chain c nilP
 level : ∀ x ∈ c, x.2.level = l
 rise : Rise 0 c
 valid : ∀ x ∈ c, x.2.valid = true
 lefts : Lefts true c
theorem Chain.last {c : List Cell} (h : Chain c nilP) (hv : ∀ x ∈ c, x.2.valid = true) (hne : c ≠ []) : ∃ a x, c = a ++ [x] ∧ x.2.right = nilP ∧ x.2.high = Z08 ∧ x.2.dead = false := by
 induction c with
 | nil => exact absurd rfl hne
 | cons x r ih =>
   cases r with
   | nil =>
     have hv := Node.valid_parts (hv x (by simp))
     refine ⟨[], x, rfl, h.1, hv.2.2.2.2.2.2.1.2 h.1, ?_⟩
     cases hd : x.2.dead with
     | false => rfl
     | true => exact absurd h.1 (hv.2.2.2.2.2.2.2.2.1 hd).2.2.2
   | cons y r =>
     obtain ⟨a, z, e, h1⟩ := ih h.2 (fun z hz => hv z (by simp [hz])) (by simp)
     exact ⟨x :: a, z, by rw [e]; rfl, h1⟩
theorem Chain.seek {c : List Cell} (h : Chain c nilP) (hv : ∀ x ∈ c, x.2.valid = true) (hne : c ≠ []) {k : Int} (hk : k ≤ Z08) : ∃ d r, seek k c = d :: r ∧ d.2.dead = false ∧ k ≤ d.2.high := by
 induction c with
 | nil => exact absurd rfl hne
 | cons x r ih =>
   by_cases hp : x.2.passes k
   ·cases r with
    | nil =>
      obtain ⟨a, y, e, h1, h2, h3⟩ := h.last hv hne
      cases a with
      | nil =>
        simp only [List.nil_append, List.cons.injEq, and_true] at e
        subst e
        rcases hp with hp | hp
        ·rw [h3] at hp; cases hp
        ·omega
      | cons b a =>
        simp only [List.cons_append, List.cons.injEq] at e
        have := e.2
        simp at this
    | cons y r =>
      obtain ⟨d, r', e, h1⟩ := ih h.2 (fun z hz => hv z (by simp [hz])) (by simp)
      exact ⟨d, r', by simp only [Bt.seek, if_pos hp] at e ⊢; exact e, h1⟩
   ·refine ⟨x, r, by simp only [Bt.seek, if_neg hp], ?_, ?_⟩
    ·cases hd : x.2.dead with
     | false => rfl
     | true => exact absurd (.inl hd) hp
    ·have : ¬ x.2.high < k := fun h => hp (.inr h)
     omega
def ents (c : List Cell) : List Entry := c.flatMap (fun x => x.2.entries)
theorem Z0I (a b : List Cell) : ents (a ++ b) = ents a ++ ents b := by simp [ents]
theorem Z0N (c : Cell) (b : List Cell) : ents (c :: b) = c.2.entries ++ ents b := by simp [ents]
theorem Z6l : ents [] = [] := rfl
def Z1l : Int → List Entry → Int
 | p, [] => p
 | _, e :: es => Z1l e.key es
theorem Z43 (p : Int) (a b : List Entry) : Z1l p (a ++ b) = Z1l (Z1l p a) b := by
 induction a generalizing p with
 | nil => rfl
 | cons e a ih => exact ih e.key
theorem Z3q (p : Int) (es : List Entry) (h : es ≠ []) : Z1l p es = Z03 es := by
 induction es generalizing p with
 | nil => exact absurd rfl h
 | cons e es ih =>
   cases es with
   | nil => rfl
   | cons e' es => exact ih e.key (by simp)
def Named (lo : List Cell) (prev : Int) (e : Entry) : Prop := ∃ a t b, lo = a ++ t :: b ∧ e.to = ptr t.1 ∧ t.2.dead = false ∧ Z05 0 a = prev
def Names (lo : List Cell) : Int → List Entry → Prop
 | _, [] => True
 | prev, e :: es => Named lo prev e ∧ Names lo e.key es
theorem Names.append {lo : List Cell} {p : Int} {a b : List Entry} : Names lo p (a ++ b) ↔ Names lo p a ∧ Names lo (Z1l p a) b := by
 induction a generalizing p with
 | nil => simp [Names, Z1l]
 | cons e a ih => simp only [List.cons_append, Names, Z1l, ih, and_assoc]
theorem Z49 (es : List Entry) (k : Int) : ∃ a b, es = a ++ b ∧ a.length = child es k ∧ (∀ x ∈ a, x.key < k) ∧ (∀ x, b.head? = some x → k ≤ x.key) := by
 induction es with
 | nil => exact ⟨[], [], rfl, rfl, (fun x hx => by cases hx), (fun x hx => by cases hx)⟩
 | cons e es ih =>
   by_cases h : e.key < k
   ·obtain ⟨a, b, h1, h2, h3, h4⟩ := ih
    refine ⟨e :: a, b, by rw [h1]; rfl, by simp [child, h, h2], fun x hx => ?_, h4⟩
    rcases List.mem_cons.1 hx with rfl | hx
    ·exact h
    ·exact h3 x hx
   ·refine ⟨[], e :: es, rfl, by simp [child, h], (fun x hx => by cases hx), fun x hx => ?_⟩
    simp at hx; subst hx; omega
theorem Z3I {a b : List Entry} {k : Int} (ha : ∀ x ∈ a, x.key < k) (hb : ∀ x, b.head? = some x → k ≤ x.key) : child (a ++ b) k = a.length := by
 induction a with
 | nil =>
   cases b with
   | nil => rfl
   | cons e b => have := hb e rfl; simp [child]; omega
 | cons e a ih =>
   have := ha e (by simp)
   simp only [List.cons_append, child, if_pos this, List.length_cons]
   rw [ih (fun x hx => ha x (by simp [hx]))]
theorem Z6W {es : List Entry} {k : Int} (h : ∀ x ∈ es, x.key < k) (hk : 0 < k) : Z03 es < k := by
 induction es with
 | nil => exact hk
 | cons e es ih =>
   cases es with
   | nil => exact h e (by simp)
   | cons e' es => exact ih (fun x hx => h x (by simp [hx]))
theorem Z7A {es : List Entry} {k p : Int} (h : ∀ x ∈ es, x.key < k) (hp : p < k) : Z1l p es < k := by
 induction es generalizing p with
 | nil => exact hp
 | cons e es ih => exact ih (fun x hx => h x (by simp [hx])) (h e (by simp))
theorem Z5v {es : List Entry} {k : Int} (hk : 0 < k) (hl : k ≤ Z03 es) : ∃ a e b, es = a ++ e :: b ∧ a.length = child es k ∧ (∀ x ∈ a, x.key < k) ∧ k ≤ e.key ∧ es[child es k]? = some e := by
 obtain ⟨a, b, h1, h2, h3, h4⟩ := Z49 es k
 cases b with
 | nil =>
   rw [List.append_nil] at h1
   subst h1
   have := Z6W h3 hk
   omega
 | cons e b =>
   refine ⟨a, e, b, h1, h2, h3, h4 e rfl, ?_⟩
   rw [← h2, h1, List.getElem?_append_right (Nat.le_refl _)]
   simp
def Levels : List (List Cell) → Prop
 | [] => True
 | c :: t => Level ((t.length : Nat) : Int) c ∧ Levels t
def Links : List (List Cell) → Prop
 | up :: lo :: t => Names lo 0 (ents up) ∧ Links (lo :: t)
 | _ => True
theorem Links.tail {c : List Cell} {t : List (List Cell)} (h : Links (c :: t)) : Links t := by
 cases t with
 | nil => trivial
 | cons d t => exact h.2
theorem Level.Z1l {l : Int} (hl : 0 < l) {a : List Cell} (hv : ∀ c ∈ a, c.2.valid = true) (hlev : ∀ c ∈ a, c.2.level = l) (p : Int) : Bt.Z1l p (ents a) = Z05 p a := by
 induction a generalizing p with
 | nil => rfl
 | cons c a ih =>
   have hvc := Node.valid_parts (hv c (by simp))
   have hlv := hlev c (by simp)
   have h1 : Z03 c.2.entries = c.2.high := hvc.2.2.2.2.2.2.2.2.2.1 (by omega)
   have hd : c.2.dead = false := by
    cases hd : c.2.dead with
    | false => rfl
    | true => have := (hvc.2.2.2.2.2.2.2.2.1 hd).1; omega
   have hne : c.2.entries ≠ [] := fun h => by rw [h] at h1; exact hvc.2.2.2.2.1 h1.symm
   rw [Z0N, Z43, Z3q _ _ hne, h1]
   simp only [Z05, hd]
   exact ih (fun x hx => hv x (by simp [hx])) (fun x hx => hlev x (by simp [hx])) _
theorem Rise.at_low {a : List Cell} {c : Cell} {r : List Cell} (h : Rise 0 (a ++ c :: r)) (hd : c.2.dead = false) : Z05 0 a < c.2.high ∧ (∀ e ∈ c.2.entries, Z05 0 a < e.key) := by
 have := (Rise.append.1 h).2
 simp only [Rise] at this
 rw [if_neg (by rw [hd]; simp)] at this
 exact ⟨this.1, this.2.1⟩
theorem Levels.down {up lo : List Cell} {t : List (List Cell)} (h : Levels (up :: lo :: t)) (hn : Links (up :: lo :: t)) {k : Int} (hk : 0 < k) {a : List Cell} {d : Cell} {r : List Cell} (hu : up = a ++ d :: r) (hlow : Z05 0 a < k) (hp : ¬ d.2.passes k) :
 ∃ es1 e es2 a' c' b', d.2.entries = es1 ++ e :: es2 ∧ es1.length = child d.2.entries k ∧ d.2.entries[child d.2.entries k]? = some e ∧ k ≤ e.key ∧ lo = a' ++ c' :: b' ∧ e.to = ptr c'.1 ∧ c'.2.dead = false ∧ Z05 0 a' = Z1l (Z1l 0 (ents a)) es1 ∧ Z05 0 a' < k ∧ (∀ x ∈ es1, x.key < k) := by
 have hl := h.1
 have hdm : d ∈ up := by rw [hu]; simp
 have hv := Node.valid_parts (hl.valid d hdm)
 have hlv := hl.level d hdm
 have h1 : Z03 d.2.entries = d.2.high := hv.2.2.2.2.2.2.2.2.2.1 (by rw [hlv]; simp only [List.length_cons]; omega)
 have hkh : k ≤ Z03 d.2.entries := by rw [h1]; exact Int.not_lt.1 (fun h => hp (.inr h))
 obtain ⟨es1, e, es2, he1, he2, he3, he4, he5⟩ := Z5v hk hkh
 have hn : Names lo 0 (ents up) := hn.1
 rw [hu, Z0I, Z0N, he1, Names.append] at hn
 have hn2 := hn.2
 rw [List.append_assoc, Names.append] at hn2
 obtain ⟨a', c', b', q1, q2, q3, q4⟩ := hn2.2.1
 have hlo : Bt.Z1l 0 (ents a) = Z05 0 a := Level.Z1l (l := (((lo :: t).length : Nat) : Int)) (by simp only [List.length_cons]; omega) (fun c hc => hl.valid c (by rw [hu]; simp [hc])) (fun c hc => hl.level c (by rw [hu]; simp [hc])) 0
 refine ⟨es1, e, es2, a', c', b', he1, he2, he5, he4, q1, q2, q3, q4, ?_, he3⟩
 rw [q4]
 exact Z7A he3 (by rw [hlo]; exact hlow)
def flat (t : List (List Cell)) : List Cell := t.flatten
def Z4E : List (List Cell) → Prop
 | up :: lo :: t => (∀ e ∈ ents up, ∀ c ∈ lo, e.to = ptr c.1 → c.2.dead = false → e.key ≤ c.2.high) ∧ Z4E (lo :: t)
 | _ => True
theorem Walks.tower {k : Int} (hk : 0 < k) (hk2 : k ≤ Z08) {lev : Nat} (t : List (List Cell)) (up : List Cell) (h : Levels (up :: t)) (hn : Links (up :: t)) (hlev : lev ≤ t.length) (a : List Cell) (c : Cell) (r : List Cell) (hu : up = a ++ c :: r) (hlow : Z05 0 a < k) :
 ∃ ch b d r' hs l, (up :: t)[t.length - lev]? = some ch ∧ ch = b ++ d :: r' ∧ Z05 0 b < k ∧ d.2.dead = false ∧ k ≤ d.2.high ∧ seek k ch = d :: r' ∧ Walks (lev : Int) k c (skips k (c :: r) ++ hs) l d ∧ List.Sublist (c :: l) (c :: r ++ flat t) ∧ (Z4E (up :: t) → ∀ x ∈ hs, x.dead = true) := by
 induction t generalizing up a c r with
 | nil =>
   have hl := h.1
   have hne : c :: r ≠ [] := by simp
   have hch : Chain (c :: r) nilP := by have := hl.chain; rw [hu] at this; exact (Chain.append.1 this).2
   have hvr : ∀ x ∈ c :: r, x.2.valid = true := fun x hx => hl.valid x (by rw [hu]; simp only [List.mem_append]; exact .inr hx)
   obtain ⟨d, r', hd1, hd2, hd3⟩ := hch.seek hvr hne hk2
   have hsk := Z5W (k := k) (b := c :: r) ((Rise.append.1 (hu ▸ hl.rise)).1) hlow
   have hlv : ∀ x ∈ c :: r, x.2.level = (0 : Int) := fun x hx => by have := hl.level x (by rw [hu]; simp only [List.mem_append]; exact .inr hx); simpa using this
   obtain ⟨b, hb, hb2, hb3⟩ := Z5V k (c :: r)
   rw [hd1] at hb
   have hdm : d ∈ c :: r := by rw [hb]; simp
   have hlev0 : lev = 0 := by simpa using hlev
   subst hlev0
   obtain ⟨l1, w1, ⟨b2, w2⟩, w3⟩ := Walks.onLevel hch (fun x hx => by rw [hlv x (by simp [hx]), hlv c (by simp)]) hd1 (Walks.here (lev := 0) (k := k) (fun hp => by
    rcases hp with hp | hp
    ·rw [hd2] at hp; cases hp
    ·omega) (hlv d hdm))
   refine ⟨up, a ++ b, d, r', [], l1, rfl, by rw [hu, hb]; simp, ?_, hd2, hd3, by rw [hu, hsk.1]; exact hd1, by simpa using w1, ?_, fun _ x hx => by cases hx⟩
   ·rw [Z0S]; exact Z4l _ b hlow hb3
   ·rw [w2]
    simp [flat]
 | cons lo t ih =>
   have hl := h.1
   have hne : c :: r ≠ [] := by simp
   have hch : Chain (c :: r) nilP := by have := hl.chain; rw [hu] at this; exact (Chain.append.1 this).2
   have hvr : ∀ x ∈ c :: r, x.2.valid = true := fun x hx => hl.valid x (by rw [hu]; simp only [List.mem_append]; exact .inr hx)
   obtain ⟨d, r', hd1, hd2, hd3⟩ := hch.seek hvr hne hk2
   have hsk := Z5W (k := k) (b := c :: r) ((Rise.append.1 (hu ▸ hl.rise)).1) hlow
   have hlv : ∀ x ∈ c :: r, x.2.level = (((lo :: t).length : Nat) : Int) := fun x hx => hl.level x (by rw [hu]; simp only [List.mem_append]; exact .inr hx)
   obtain ⟨b, hb, hb2, hb3⟩ := Z5V k (c :: r)
   rw [hd1] at hb
   have hdm : d ∈ c :: r := by rw [hb]; simp
   have hnp : ¬ d.2.passes k := fun hp => by
    rcases hp with hp | hp
    ·rw [hd2] at hp; cases hp
    ·omega
   have hup : up = (a ++ b) ++ d :: r' := by rw [hu, hb]; simp
   have hlow2 : Z05 0 (a ++ b) < k := by
    rw [Z0S]
    exact Z4l _ b hlow hb3
   by_cases hlt : lev = (lo :: t).length
   ·subst hlt
    obtain ⟨l1, w1, ⟨b2, w2⟩, w3⟩ := Walks.onLevel hch (fun x hx => by rw [hlv x (by simp [hx]), hlv c (by simp)]) hd1 (Walks.here (lev := (((lo :: t).length : Nat) : Int)) (k := k) hnp (hlv d hdm))
    refine ⟨up, a ++ b, d, r', [], l1, by simp, hup, hlow2, hd2, hd3, by rw [hu, hsk.1]; exact hd1, by simpa using w1, ?_, fun _ x hx => by cases hx⟩
    rw [w2, List.cons_append, List.append_assoc]
    exact (List.sublist_append_left l1 _).cons₂ c
   ·obtain ⟨es1, e, es2, a', c', b', q1, q2, q3, q4, q5, q6, q7, q8, q9, q10⟩ := Levels.down h hn hk hup hlow2 hnp
    obtain ⟨ch, b3, d2, r2, hs, l, i1, i2, i3, i3a, i3b, i4, i5, i6, i7⟩ := ih lo h.2 hn.tail (by simp only [List.length_cons] at hlev hlt ⊢; omega) a' c' b' q5 q9
    have hc'l : c'.2.level = d.2.level - 1 := by
     have h1 := h.2.1.level c' (by rw [q5]; simp)
     have h2 := hlv d hdm
     rw [h1, h2]; simp only [List.length_cons]; omega
    have hdl : d.2.level ≠ (lev : Int) := by
     rw [hlv d hdm]; simp only [List.length_cons] at hlt ⊢; omega
    have hw := Walks.down hnp hdl q3 q6 hc'l i5
    obtain ⟨l1, w1, ⟨b2, w2⟩, w3⟩ := Walks.onLevel hch (fun x hx => by rw [hlv x (by simp [hx]), hlv c (by simp)]) hd1 hw
    refine ⟨ch, b3, d2, r2, skips k (c' :: b') ++ hs, l1 ++ c' :: l, ?_, i2, i3, i3a, i3b, i4, w1, ?_, ?_⟩
    ·rw [show (lo :: t).length - lev = (t.length - lev) + 1 by simp only [List.length_cons] at hlev hlt ⊢; omega]
     exact i1
    ·rw [w2]
     have h1 : List.Sublist (c' :: l) (lo ++ flat t) := by
      refine i6.trans ?_
      rw [q5, List.append_assoc]
      exact List.sublist_append_right _ _
     have e1 : flat (lo :: t) = lo ++ flat t := rfl
     rw [e1, List.cons_append, List.append_assoc, ← List.cons_append]
     exact (List.Sublist.append (List.Sublist.refl l1) (h1.trans (List.sublist_append_right b2 _))).cons₂ c
    ·intro hp x hx
     have h2 := i7 hp.2
     rcases List.mem_append.1 hx with hx | hx
     ·have h3 : e.key ≤ c'.2.high := hp.1 e (by rw [hup, Z0I, Z0N, q1]; simp) c' (by rw [q5]; simp) q6 q7
      have h4 : ¬ c'.2.passes k := fun h => by
       rcases h with h | h
       ·rw [q7] at h; cases h
       ·omega
      simp [skips, if_neg h4] at hx
     ·exact h2 x hx
end Go.Proofs.YtjmpekanlmepmaaGreatDoor.Bt
