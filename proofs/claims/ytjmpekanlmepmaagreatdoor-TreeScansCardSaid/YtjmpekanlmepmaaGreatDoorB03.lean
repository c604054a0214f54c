/- An index: its pages hold a tree; what a search does on it (plain Lean). -/
import Derived.Test.YtjmpekanlmepmaaGreatDoorB02
set_option linter.all false
namespace Go.Proofs.YtjmpekanlmepmaaGreatDoor.Bt
/-! ### the pages -/
theorem latest_append (l : List Page) (p : Page) (line : Int) : latest (l ++ [p]) line = if p.line = line then some p else latest l line := by
 unfold latest
 rw [List.reverse_append]
 simp only [List.reverse_cons, List.reverse_nil, List.nil_append, List.cons_append, List.find?_cons]
 by_cases h : p.line = line <;> simp [h]
/-- Page i lies at line 96 + i, nobody has locked it. -/
structure Ix (ps : List Page) : Prop where
 len : ps.length = 160
 line : ∀ i (h : i < ps.length), ps[i].line = 96 + (i : Int)
 ok : ∀ p ∈ ps, p.Ok
 free : ∀ p ∈ ps, p.head % 256 = 0
theorem latest_take {ps : List Page} (hl : ∀ i (h : i < ps.length), ps[i].line = 96 + (i : Int)) (k : Nat) (hk : k ≤ ps.length) (i : Nat) : latest (ps.take k) (96 + (i : Int)) = if i < k then ps[i]? else none := by
 induction k with
 | zero => simp [latest]
 | succ k ih =>
   have hlt : k < ps.length := by omega
   rw [List.take_succ_eq_append_getElem hlt, latest_append, hl k hlt, ih (by omega)]
   by_cases hik : i = k
   · subst hik
     rw [if_pos rfl, if_pos (by omega), List.getElem?_eq_getElem hlt]
   · rw [if_neg (by omega)]
     by_cases h2 : i < k
     · rw [if_pos h2, if_pos (by omega)]
     · rw [if_neg h2, if_neg (by omega)]
theorem Ix.latest {ps : List Page} (h : Ix ps) (i : Nat) : Bt.latest ps (96 + (i : Int)) = ps[i]? := by
 have := latest_take h.line ps.length (Nat.le_refl _) i
 rw [List.take_length] at this
 rw [this]
 split
 · rfl
 · rw [List.getElem?_eq_none (by omega)]
theorem Ix.at {ps : List Page} (h : Ix ps) {l : Int} (h1 : 96 ≤ l) (h2 : l < 256) : Bt.latest ps l = some (pg ps l) ∧ (pg ps l).line = l ∧ pg ps l ∈ ps ∧ ps[(l - 96).toNat]? = some (pg ps l) := by
 obtain ⟨i, rfl⟩ : ∃ i : Nat, l = 96 + (i : Int) := ⟨(l - 96).toNat, by omega⟩
 have hi : i < ps.length := by have := h.len; omega
 have h3 : Bt.latest ps (96 + (i : Int)) = some (pg ps (96 + (i : Int))) := by
  unfold pg
  rw [h.latest, List.getElem?_eq_getElem hi]; rfl
 refine ⟨h3, latest_line h3, ?_, ?_⟩
 · have := h3
   rw [h.latest] at this
   exact List.mem_of_getElem? this
 · rw [show (96 + (i : Int) - 96).toNat = i by omega, ← h.latest]
   exact h3
theorem Ix.unlocked {ps : List Page} (h : Ix ps) {p : Page} (hp : p ∈ ps) : locked p = false := by
 have := h.free p hp
 simp [locked, this]
/-- What has been written: the page with its head one version on. -/
def raised (p : Page) : Page := { p with head := (p.head + 256) % 18446744073709551616 }
def putPage (ps : List Page) (p : Page) : List Page := ps.set (p.line - 96).toNat (raised p)
def putPages (ps ws : List Page) : List Page := ws.foldl putPage ps
theorem raised_ok {p : Page} (h : p.Ok) : (raised p).Ok :=
 ⟨⟨Int.emod_nonneg _ (by omega), Int.emod_lt_of_pos _ (by omega)⟩, h.d0, h.d1, h.d2, h.d3, h.d4, h.d5, h.d6⟩
theorem Ix.put {ps : List Page} (h : Ix ps) {p : Page} (h1 : 96 ≤ p.line) (h2 : p.line < 256) (ho : p.Ok) (hf : p.head % 256 = 0) : Ix (putPage ps p) := by
 have hl := h.len
 refine ⟨by simp [putPage, hl], fun i hi => ?_, fun q hq => ?_, fun q hq => ?_⟩
 · have hi' : i < ps.length := by simpa [putPage] using hi
   simp only [putPage, List.getElem_set]
   split
   · show p.line = 96 + (i : Int); omega
   · exact h.line i hi'
 · rcases List.mem_or_eq_of_mem_set hq with hq | rfl
   · exact h.ok q hq
   · exact raised_ok ho
 · rcases List.mem_or_eq_of_mem_set hq with hq | rfl
   · exact h.free q hq
   · show (p.head + 256) % 18446744073709551616 % 256 = 0; omega
theorem Ix.latest_put {ps : List Page} (h : Ix ps) {p : Page} (h1 : 96 ≤ p.line) (h2 : p.line < 256) (ho : p.Ok) (hf : p.head % 256 = 0) (l : Int) (hl : 96 ≤ l) :
 Bt.latest (putPage ps p) l = if l = p.line then some (raised p) else Bt.latest ps l := by
 have h3 := h.put h1 h2 ho hf
 obtain ⟨i, rfl⟩ : ∃ i : Nat, l = 96 + (i : Int) := ⟨(l - 96).toNat, by omega⟩
 rw [h3.latest, h.latest]
 unfold putPage
 by_cases hi : 96 + (i : Int) = p.line
 · rw [if_pos hi, show (p.line - 96).toNat = i by omega, List.getElem?_set_self (by have := h.len; omega)]
 · rw [if_neg hi, List.getElem?_set_ne (by omega)]
/-- A head says nothing of the node. -/
theorem readNode_head (p : Page) (x : Int) : readNode { p with head := x } = readNode p := by
 have e1 : ({ p with head := x } : Page).node = p.node := rfl
 have e2 : ({ p with head := x } : Page).count = p.count := rfl
 unfold readNode
 rw [e1, e2]
 have e3 : (p.node.fill { p with head := x } = { p with head := x }) ↔ (p.node.fill p = p) := by
  cases p; simp [Node.fill]
 simp only [e3]
/-- As many as there are lines, at most. -/
theorem nodup_length (a : Int) (n : Nat) : ∀ l : List Int, l.Nodup → (∀ x ∈ l, a ≤ x ∧ x < a + n) → l.length ≤ n := by
 induction n with
 | zero =>
   intro l _ h
   cases l with
   | nil => simp
   | cons x l => have := h x (by simp); omega
 | succ n ih =>
   intro l hn h
   have h1 := ih (l.erase (a + n)) (hn.erase _) (fun x hx => by
    have h2 := (hn.mem_erase_iff).1 hx
    have h3 := h x h2.2
    have := h2.1
    omega)
   by_cases hm : a + n ∈ l
   · rw [List.length_erase_of_mem hm] at h1
     omega
   · rw [List.erase_of_not_mem hm] at h1
     omega
/-! ### what hops leave -/
def hopped (hs : List Node) (s : St) : St := { s with out := { s.out with hops := s.out.hops + hs.length, dead := s.out.dead || hs.any (·.dead), unposted := s.out.unposted || hs.any (fun n => !n.dead) } }
theorem foldl_hop (hs : List Node) (s : St) : hs.foldl St.hop s = hopped hs s := by
 induction hs generalizing s with
 | nil => simp [hopped]
 | cons n hs ih =>
   rw [List.foldl_cons, ih]
   simp only [hopped, St.hop, List.length_cons, List.any_cons, Bool.or_assoc]
   congr 2
   omega
/-- Behind a descent. -/
def after (hs : List Node) (height : Int) (s : St) : St := { s with ended := true, out := { s.out with hops := s.out.hops + hs.length, dead := s.out.dead || hs.any (·.dead), unposted := s.out.unposted || hs.any (fun n => !n.dead), height := height } }
theorem after_eq (hs : List Node) (height : Int) (s : St) : ({ hs.foldl St.hop s with ended := true, out := { (hs.foldl St.hop s).out with height := height } } : St) = after hs height s := by
 rw [foldl_hop]; rfl
/-! ### an index -/
def rootPtr : List (List Cell) → Ptr
 | (c :: _) :: _ => ptr c.1
 | _ => nilP
def leafEnts (T : List (List Cell)) : List Entry := ents (T.getLastD [])
theorem leafEnts_leaf (pre : List (List Cell)) (lo : List Cell) : leafEnts (pre ++ [lo]) = ents lo := by simp [leafEnts]
structure Inv (ps : List Page) (nx : Int) (es : List Entry) (T : List (List Cell)) : Prop where
 ix : Ix ps
 tree : Tree T
 sees : ∀ c ∈ flat T, Sees ps c.1 c.2
 range : ∀ c ∈ flat T, 105 ≤ c.1 ∧ c.1 < nx
 bound : 105 ≤ nx ∧ nx ≤ 256
 fresh : ∀ l, nx ≤ l → l < 256 → tagKind (pg ps l).d0 = 0 ∧ tagGen (pg ps l).d0 = 0
 root : readRoot (pg ps 96) = some (rootPtr T, ((T.length - 1 : Nat) : Int))
 holds : leafEnts T = es
theorem Inv.small {ps : List Page} {nx : Int} {es : List Entry} {T : List (List Cell)} (h : Inv ps nx es T) : (flat T).length ≤ 151 := by
 have h1 := h.bound
 have := nodup_length 105 (nx - 105).toNat (lines T) h.tree.nodup (fun x hx => by
  obtain ⟨c, hc, rfl⟩ := List.mem_map.1 hx
  have := h.range c hc
  omega)
 rw [lines, List.length_map] at this
 omega
theorem Levels.ne {c : List Cell} {t : List (List Cell)} (h : Levels (c :: t)) : c ≠ [] := h.1.ne
/-- A search on a level of the tree comes to the node that covers the key. -/
theorem Inv.descend {ps : List Page} {nx : Int} {es : List Entry} {T : List (List Cell)} (h : Inv ps nx es T) {lev : Nat} (hlev : lev < T.length) {k : Int} (hk : 1 ≤ k) (hk2 : k ≤ maxHigh) :
 ∃ pre A l n R post hs, T = pre ++ (A ++ (l, n) :: R) :: post ∧ post.length = lev ∧ lowAfter 0 A < k ∧ n.dead = false ∧ k ≤ n.high ∧ (l, n) ∈ flat T ∧
  (∀ s : St, s.root = rootPtr T → s.descend ps (lev : Int) k = (after hs (T.length : Int) s, .at_ (pg ps l) n)) ∧ (Posted T → (∀ c r t, T = (c :: r) :: t → r = []) → ∀ x ∈ hs, x.dead = true) ∧
  ∃ c r t L, T = (c :: r) :: t ∧ Walks (lev : Int) k c hs L (l, n) ∧ List.Sublist (c :: L) (flat T) := by
 obtain ⟨up, t, rfl⟩ : ∃ up t, T = up :: t := by
  cases T with
  | nil => simp at hlev
  | cons up t => exact ⟨up, t, rfl⟩
 have hl := h.tree.levels
 obtain ⟨c, r, rfl⟩ : ∃ c r, up = c :: r := by
  cases up with
  | nil => exact absurd rfl hl.ne
  | cons c r => exact ⟨c, r, rfl⟩
 simp only [List.length_cons] at hlev
 obtain ⟨ch, b, d, r', hs, l, i1, i2, i3, i4, i5, i6, i7, i8, i9⟩ := Walks.tower (k := k) (by omega) hk2 (lev := lev) t (c :: r) hl h.tree.links (by omega) [] c r rfl (by show (0 : Int) < k; omega)
 obtain ⟨dl, dn⟩ := d
 have hflat : flat ((c :: r) :: t) = c :: r ++ flat t := rfl
 have hsub : List.Sublist (c :: l) (flat ((c :: r) :: t)) := i8
 have hsm := h.small
 have hlen := hsub.length_le
 have hdm : (dl, dn) ∈ flat ((c :: r) :: t) := by
  have := i7.last.1
  exact hsub.subset this
 have hlt : t.length - lev < ((c :: r) :: t).length := by simp only [List.length_cons]; omega
 have hT : ((c :: r) :: t) = ((c :: r) :: t).take (t.length - lev) ++ ch :: ((c :: r) :: t).drop (t.length - lev + 1) := by
  have h1 : ((c :: r) :: t)[t.length - lev] = ch := by rw [List.getElem?_eq_getElem hlt] at i1; exact Option.some.inj i1
  rw [← h1, List.getElem_cons_drop, List.take_append_drop]
 have hcl : c.2.level = (t.length : Int) := hl.1.level c (by simp)
 have hops := i7.hops
 have hlv := (hl.append (a := []))
 refine ⟨_, b, dl, dn, r', _, skips k (c :: r) ++ hs, by rw [← i2]; exact hT, ?_, i3, i4, i5, hdm, ?_, ?_, ⟨c, r, t, l, rfl, i7, hsub⟩⟩
 · rw [List.length_drop]; simp only [List.length_cons]; omega
 · intro s hs'
   have hlook : s.look ps s.root false = (s, some (pg ps c.1, c.2)) := by
    rw [hs']
    exact (h.sees c (by rw [hflat]; simp)).look s false
   unfold St.descend
   rw [hlook]
   simp only
   rw [if_neg (by rw [hcl]; omega)]
   have hd := Walks.descend (known := ps) (height := c.2.level + 1) i7 (fun x hx => h.sees x (hsub.subset hx)) (257 + c.2.level.toNat) (by simp only [List.length_cons] at hlen; omega) s 0 (by simp only [List.length_cons] at hlen; rw [hcl] at hops; omega)
   rw [hd, after_eq]
   have e1 : c.2.level + 1 = ((((c :: r) :: t).length : Nat) : Int) := by rw [hcl]; simp
   rw [e1]
 · intro hp hone x hx
   have hr := hone c r t rfl
   subst hr
   rcases List.mem_append.1 hx with hx | hx
   · have hcc := hl.1.chain
     have hch := hl.1.chain.last hl.1.valid (by simp)
     obtain ⟨a, y, e, _, e2, e3⟩ := hch
     cases a with
     | nil =>
       simp only [List.nil_append, List.cons.injEq, and_true] at e
       subst e
       have h4 : ¬ c.2.passes k := fun hpp => by
        rcases hpp with hpp | hpp
        · rw [e3] at hpp; cases hpp
        · omega
       simp [skips, if_neg h4] at hx
     | cons z a =>
       simp only [List.cons_append, List.cons.injEq] at e
       have := e.2
       simp at this
   · exact i9 hp x hx
set_option maxRecDepth 20000 in
theorem wG8 {P : Prop} (h : P := by
 obtain ⟨up, t, rfl⟩ : ∃ up t, T = up :: t := by
  cases T with
  | nil => exact absurd rfl hne
  | cons up t => exact ⟨up, t, rfl⟩
 have hl := h.tree.levels
 obtain ⟨c, r, rfl⟩ : ∃ c r, up = c :: r := by
  cases up with
  | nil => exact absurd rfl hl.ne
  | cons c r => exact ⟨c, r, rfl⟩
 have hlook : s.look ps s.root false = (s, some (pg ps c.1, c.2)) := by
  rw [hs]
  exact (h.sees c (by simp [flat])).look s false
 have hcl : c.2.level = (t.length : Int) := hl.1.level c (by simp)
 first
  | clear tg59
    unfold St.descend
    rw [hlook]
    simp only
    rw [if_pos (by rw [hcl]; simp only [List.length_cons] at hlev; omega)]
  | clear tg60
    exact .absent hlook (by rw [hcl]; simp only [List.length_cons] at hlev; omega)) : P := h
theorem Inv.absent {ps : List Page} {nx : Int} {es : List Entry} {T : List (List Cell)} (h : Inv ps nx es T) {lev : Nat} (hlev : T.length ≤ lev) (hne : T ≠ []) (k : Int) (s : St) (hs : s.root = rootPtr T) : s.descend ps (lev : Int) k = (s, .absent) := by
 have tg59 := trivial
 exact wG8
theorem Inv.rootNil {ps : List Page} {nx : Int} {es : List Entry} {T : List (List Cell)} (h : Inv ps nx es T) : rootPtr T = nilP ↔ T = [] := by
 constructor
 · intro hr
   cases T with
   | nil => rfl
   | cons up t =>
     cases up with
     | nil => exact absurd rfl h.tree.levels.ne
     | cons c r =>
       exfalso
       have h1 := (h.sees c (by simp [flat])).valid
       have h2 : ptr c.1 = nilP := hr
       rw [h2, validP_nil] at h1
       cases h1
 · rintro rfl; rfl
end Go.Proofs.YtjmpekanlmepmaaGreatDoor.Bt
namespace Go.Proofs.YtjmpekanlmepmaaGreatDoor.Bt
/-! ### a node can be written -/
structure Good (n : Node) : Prop where
 valid : n.valid = true
 high : n.high ≤ maxHigh
theorem rising_le_last {p : Int} {es : List Entry} (h : risingFrom p es = true) : ∀ e ∈ es, e.key ≤ lastKey es := by
 intro e he
 have h1 := (lastOr_ge h).2 e he
 rwa [lastOr_last _ _ (fun h0 => by rw [h0] at he; cases he)] at h1
theorem Good.range {n : Node} (h : Good n) : 0 ≤ n.high ∧ n.high < 4294967296 ∧ ∀ e ∈ n.entries, 1 ≤ e.key ∧ e.key < 4294967296 := by
 obtain ⟨a1, a2, a3, a4, a5, a6, a7, a8, a9, a10, a11⟩ := Node.valid_parts h.valid
 have hh := h.high
 unfold maxHigh at hh
 have hk : ∀ e ∈ n.entries, 1 ≤ e.key ∧ e.key < 4294967296 := fun e he => by
  have h1 := (rising_valid a4 e he).1
  have h2 := rising_le_last a4 e he
  omega
 refine ⟨?_, by omega, hk⟩
 cases hes : n.entries with
 | nil => rw [hes] at a8; exact a8
 | cons e es => have := hk e (by rw [hes]; simp); have := rising_le_last a4 e (by rw [hes]; simp); omega
theorem wordAt_range {es : List Entry} (h : ∀ e ∈ es, 1 ≤ e.key ∧ e.key < 4294967296) (i : Nat) : 0 ≤ wordAt es i ∧ wordAt es i < 18446744073709551616 := by
 unfold wordAt
 split
 · rename_i e he
   have h1 := h e (List.mem_of_getElem? he)
   have h2 := pack_lt e.to
   unfold entryWord
   omega
 · omega
theorem Good.fill_ok {n : Node} (h : Good n) {p : Page} (hp : p.Ok) : (n.fill p).Ok := by
 obtain ⟨a1, a2, a3, _⟩ := Node.valid_parts h.valid
 obtain ⟨h1, h2, h3⟩ := h.range
 have ha := aux_range a1 a2 a3
 have hr := pack_lt n.right
 refine ⟨hp.head, ?_, ?_, wordAt_range h3 0, wordAt_range h3 1, wordAt_range h3 2, wordAt_range h3 3, wordAt_range h3 4⟩
 · show 0 ≤ packTag (tagKind p.d0) (tagGen p.d0) n.aux ∧ packTag (tagKind p.d0) (tagGen p.d0) n.aux < 18446744073709551616
   unfold packTag
   omega
 · show 0 ≤ n.high + pack n.right * 4294967296 ∧ n.high + pack n.right * 4294967296 < 18446744073709551616
   omega
theorem Sees.good {ps : List Page} {l : Int} {n : Node} (h : Sees ps l n) : Good n := by
 have h1 := readNode_isValid h.node
 refine ⟨h1.1, ?_⟩
 rw [h1.2.1]
 show (pg ps l).d1 % 4294967296 ≤ maxHigh
 unfold maxHigh
 omega
/-- A page that is to hold a node. -/
structure Blank (p : Page) (l : Int) : Prop where
 line : p.line = l
 lo : 104 ≤ l
 hi : l < 256
 kind : tagKind p.d0 = 4
 gen : tagGen p.d0 = 1
 ok : p.Ok
 free : p.head % 256 = 0
theorem Sees.blank {ps : List Page} (hx : Ix ps) {l : Int} {n : Node} (h : Sees ps l n) : Blank (pg ps l) l := by
 have h1 := hx.at (l := l) (by have := h.lo; omega) h.hi
 exact ⟨h1.2.1, h.lo, h.hi, h.kind, h.gen, hx.ok _ h1.2.2.1, hx.free _ h1.2.2.1⟩
theorem Blank.put {ps : List Page} (hx : Ix ps) {p : Page} {l : Int} {n : Node} (hb : Blank p l) (hn : Good n) : Ix (putPage ps (n.fill p)) ∧ Sees (putPage ps (n.fill p)) l n ∧ (∀ l', 96 ≤ l' → l' ≠ l → latest (putPage ps (n.fill p)) l' = latest ps l') := by
 have hl : (n.fill p).line = l := hb.line
 have ho := hn.fill_ok hb.ok
 have hf : (n.fill p).head % 256 = 0 := hb.free
 have h1 := hb.lo
 have h2 := hb.hi
 have hlat := fun l' hl' => hx.latest_put (p := n.fill p) (by omega) (by omega) ho hf l' hl'
 have ht := fill_tags hn.valid p
 have hx2 := hx.put (p := n.fill p) (by omega) (by omega) ho hf
 have hp : pg (putPage ps (n.fill p)) l = raised (n.fill p) := by
  unfold pg
  rw [hlat l (by omega), if_pos hl.symm]; rfl
 refine ⟨hx2, ⟨?_, h1, h2, ?_, ?_, ?_, ?_⟩, fun l' hl' hne => ?_⟩
 · rw [hp, hlat l (by omega), if_pos hl.symm]
 · rw [hp]; exact ht.1.trans hb.kind
 · rw [hp]; exact ht.2.1.trans hb.gen
 · rw [hp]
   unfold raised
   rw [readNode_head]
   obtain ⟨r1, r2, _⟩ := hn.range
   exact readNode_fill hn.valid r1 r2 hb.kind
 · have := (hx2.at (l := l) (by omega) h2).2.2.1
   exact hx2.unlocked this
 · rw [hlat l' hl', if_neg (by rw [hl]; exact hne)]
theorem Sees.congr {ps ps' : List Page} {l : Int} {n : Node} (h : Sees ps l n) (he : latest ps' l = latest ps l) : Sees ps' l n := by
 have hp : pg ps' l = pg ps l := by unfold pg; rw [he]
 exact ⟨by rw [hp, he]; exact h.here, h.lo, h.hi, by rw [hp]; exact h.kind, by rw [hp]; exact h.gen, by rw [hp]; exact h.node, by rw [hp]; exact h.free⟩
theorem pg_congr {ps ps' : List Page} {l : Int} (he : latest ps' l = latest ps l) : pg ps' l = pg ps l := by unfold pg; rw [he]
/-- The fresh page of a place. -/
def freshPage (p : Page) : Page := ⟨p.line, p.head, packTag 4 1 0, 0, 0, 0, 0, 0, 0⟩
theorem Inv.alloc {ps : List Page} {nx : Int} {es : List Entry} {T : List (List Cell)} (h : Inv ps nx es T) (hn : nx < 256) : allocate (pg ps nx) 4 0 = (freshPage (pg ps nx), 0) ∧ Blank (freshPage (pg ps nx)) nx := by
 have hx := h.bound
 obtain ⟨h1, h2, h3, _⟩ := h.ix.at (l := nx) (by omega) hn
 obtain ⟨f1, f2⟩ := h.fresh nx (Int.le_refl _) hn
 have hu := h.ix.unlocked h3
 have ho := h.ix.ok _ h3
 constructor
 · unfold allocate
   rw [if_neg (by rw [h2]; simp [inHeap]; omega), if_neg (by rw [hu]; simp), if_neg (by rw [f1]; simp), if_neg (by rw [f2]; decide), f2]
   rfl
 · have hz : (0 : Int) ≤ 0 ∧ (0 : Int) < 18446744073709551616 := by decide
   have hf : (pg ps nx).head % 256 = 0 := h.ix.free _ h3
   exact ⟨h2, by omega, hn, show tagKind (packTag 4 1 0) = 4 by decide, show tagGen (packTag 4 1 0) = 1 by decide, ⟨ho.head, show 0 ≤ packTag 4 1 0 ∧ packTag 4 1 0 < 18446744073709551616 by decide, hz, hz, hz, hz, hz, hz⟩, hf⟩
/-! ### lists of entries -/
theorem hasKey_split {a b : List Entry} {k : Int} (ha : ∀ x ∈ a, x.key < k) (hb : ∀ x, b.head? = some x → k ≤ x.key) : hasKey (a ++ b) k = (match b.head? with | some x => decide (x.key = k) | none => false) := by
 unfold hasKey
 rw [child_of_split ha hb, List.getElem?_append_right (Nat.le_refl _), Nat.sub_self]
 cases b with
 | nil => rfl
 | cons x b => rfl
/-- A part of a list of entries that holds the place of a key. -/
theorem place_split {a m b : List Entry} {k : Int} (ha : ∀ x ∈ a, x.key < k) (hb : ∀ x ∈ b, k < x.key) :
 child (a ++ (m ++ b)) k = a.length + child m k ∧ hasKey (a ++ (m ++ b)) k = hasKey m k ∧ (∀ d, hasKey m k = true → (a ++ (m ++ b)).getD (child (a ++ (m ++ b)) k) d = m.getD (child m k) d) ∧
  (∀ e, insertAt (a ++ (m ++ b)) (child (a ++ (m ++ b)) k) e = a ++ (insertAt m (child m k) e ++ b)) ∧ (hasKey m k = true → deleteAt (a ++ (m ++ b)) (child (a ++ (m ++ b)) k) = a ++ (deleteAt m (child m k) ++ b)) := by
 obtain ⟨m1, m2, rfl, h2, h3, h4⟩ := child_split m k
 have hall : ∀ x ∈ a ++ m1, x.key < k := fun x hx => by
  rcases List.mem_append.1 hx with hx | hx
  · exact ha x hx
  · exact h3 x hx
 have hb2 : ∀ x, (m2 ++ b).head? = some x → k ≤ x.key := fun x hx => by
  cases m2 with
  | nil =>
    have : x ∈ b := by
     cases b with
     | nil => cases hx
     | cons y b => simp at hx; subst hx; simp
    have := hb x this; omega
  | cons y m2 => simp at hx; subst hx; exact h4 y rfl
 have he : a ++ ((m1 ++ m2) ++ b) = (a ++ m1) ++ (m2 ++ b) := by simp
 have hc : child (a ++ ((m1 ++ m2) ++ b)) k = a.length + m1.length := by rw [he, child_of_split hall hb2, List.length_append]
 have hc2 : child (m1 ++ m2) k = m1.length := child_of_split h3 h4
 have hk1 := hasKey_split hall hb2
 have hk2 := hasKey_split h3 h4
 have hbf : ∀ x, b.head? = some x → decide (x.key = k) = false := fun x hx => by
  have : x ∈ b := by
   cases b with
   | nil => cases hx
   | cons y b => simp at hx; subst hx; simp
  have := hb x this
  simp; omega
 have hkk : hasKey (a ++ ((m1 ++ m2) ++ b)) k = hasKey (m1 ++ m2) k := by
  rw [he, hk1, hk2]
  cases m2 with
  | nil =>
    cases b with
    | nil => rfl
    | cons y b => exact hbf y rfl
  | cons y m2 => rfl
 refine ⟨by rw [hc, hc2], hkk, fun d hk => ?_, fun e => ?_, fun hk => ?_⟩
 · rw [hc, hc2]
   cases m2 with
   | nil => rw [hk2] at hk; cases hk
   | cons y m2 => simp [List.getD_eq_getElem?_getD, List.getElem?_append_right, List.append_assoc]
 · rw [hc, hc2]
   rw [he]
   have e1 : insertAt ((a ++ m1) ++ (m2 ++ b)) (a.length + m1.length) e = (a ++ m1) ++ e :: (m2 ++ b) := by rw [← List.length_append]; simp only [insertAt, List.take_left, List.drop_left]
   have e2 : insertAt (m1 ++ m2) m1.length e = m1 ++ e :: m2 := by simp only [insertAt, List.take_left, List.drop_left]
   rw [e1, e2]; simp
 · rw [hc, hc2]
   cases m2 with
   | nil => rw [hk2] at hk; cases hk
   | cons y m2 =>
     rw [he]
     have del : ∀ (u : List Entry) (v : List Entry), deleteAt (u ++ y :: v) u.length = u ++ v := fun u v => by
      have h1 : List.drop (u.length + 1) (u ++ y :: v) = v := by
       rw [show u ++ y :: v = (u ++ [y]) ++ v by simp, show u.length + 1 = (u ++ [y]).length by simp, List.drop_left]
      unfold deleteAt
      rw [List.take_left, h1]
     rw [← List.length_append]
     rw [show (a ++ m1) ++ (y :: m2 ++ b) = (a ++ m1) ++ y :: (m2 ++ b) from rfl, del, del]
     simp
theorem insertAt_child (es : List Entry) (k : Int) (e : Entry) : ∃ a b, es = a ++ b ∧ insertAt es (child es k) e = a ++ e :: b ∧ (∀ x ∈ a, x.key < k) ∧ (∀ x, b.head? = some x → k ≤ x.key) ∧ a.length = child es k := by
 obtain ⟨a, b, h1, h2, h3, h4⟩ := child_split es k
 refine ⟨a, b, h1, ?_, h3, h4, h2⟩
 rw [← h2, h1]
 simp [insertAt, List.take_append, List.drop_append]
theorem hasKey_true {es : List Entry} {k : Int} (h : hasKey es k = true) : ∃ a e b, es = a ++ e :: b ∧ e.key = k ∧ a.length = child es k ∧ es.getD (child es k) default = e ∧ deleteAt es (child es k) = a ++ b := by
 obtain ⟨a, b, h1, h2, h3, h4⟩ := child_split es k
 have hk := hasKey_split h3 h4
 rw [← h1, h] at hk
 cases b with
 | nil => cases hk
 | cons e b =>
   simp only [List.head?_cons] at hk
   refine ⟨a, e, b, h1, by simpa using hk.symm, h2, ?_, ?_⟩
   · rw [← h2, h1]; simp [List.getD_eq_getElem?_getD, List.getElem?_append_right]
   · rw [← h2, h1]; simp [deleteAt, List.take_append, List.drop_append]
/-- A key that is not there yet is inserted. -/
theorem rising_insert {p k : Int} {es : List Entry} {to : Ptr} (h : risingFrom p es = true) (hp : p < k) (hk : hasKey es k = false) (hto : validP to = true) : risingFrom p (insertAt es (child es k) ⟨k, to⟩) = true := by
 obtain ⟨a, b, h1, h2, h3, h4, h5⟩ := insertAt_child es k ⟨k, to⟩
 rw [h2]
 rw [h1, risingFrom_append] at h
 refine risingFrom_append.2 ⟨h.1, ?_⟩
 simp only [risingFrom, Bool.and_eq_true, decide_eq_true_eq]
 refine ⟨⟨lastOr_lt h3 hp, hto⟩, ?_⟩
 cases b with
 | nil => rfl
 | cons x b =>
   have h6 := h4 x rfl
   have h7 := hasKey_split h3 h4
   rw [← h1, hk] at h7
   simp only [List.head?_cons] at h7
   have h8 : x.key ≠ k := by simpa using h7.symm
   have h9 := h.2
   simp only [risingFrom, Bool.and_eq_true, decide_eq_true_eq] at h9 ⊢
   exact ⟨⟨by show k < x.key; omega, h9.1.2⟩, h9.2⟩
theorem lastKey_insert {k : Int} {es : List Entry} {to : Ptr} {H : Int} (h : lastKey es ≤ H) (hk : k ≤ H) : lastKey (insertAt es (child es k) ⟨k, to⟩) ≤ H := by
 obtain ⟨a, b, h1, h2, h3, h4, h5⟩ := insertAt_child es k ⟨k, to⟩
 rw [h2, lastKey_append_ne a (by simp)]
 cases b with
 | nil => exact hk
 | cons x b =>
   rw [lastKey_cons_ne _ (by simp)]
   rw [h1, lastKey_append_ne a (by simp)] at h
   exact h
theorem insertAt_length (es : List Entry) (k : Int) (e : Entry) : (insertAt es (child es k) e).length = es.length + 1 := by
 obtain ⟨a, b, h1, h2, h3, h4, h5⟩ := insertAt_child es k e
 rw [h2, h1]; simp; omega
theorem rising_delete {p : Int} {a b : List Entry} {e : Entry} (h : risingFrom p (a ++ e :: b) = true) : risingFrom p (a ++ b) = true := by
 rw [risingFrom_append] at h
 refine risingFrom_append.2 ⟨h.1, ?_⟩
 have h2 := h.2
 simp only [risingFrom, Bool.and_eq_true, decide_eq_true_eq] at h2
 exact risingFrom_less h2.2 (by omega)
theorem lastKey_delete {a b : List Entry} {e : Entry} {p H : Int} (h : risingFrom p (a ++ e :: b) = true) (hl : lastKey (a ++ e :: b) ≤ H) (hH : 0 ≤ H) : lastKey (a ++ b) ≤ H := by
 cases hab : a ++ b with
 | nil => exact hH
 | cons x r =>
   have hr := rising_delete h
   rw [← hab]
   have hne : a ++ b ≠ [] := by rw [hab]; simp
   have h1 : ∃ y ∈ a ++ b, y.key = lastKey (a ++ b) := by
    have : ∀ l : List Entry, l ≠ [] → ∃ y ∈ l, y.key = lastKey l := by
     intro l
     induction l with
     | nil => intro h; exact absurd rfl h
     | cons y l ih =>
       intro _
       cases l with
       | nil => exact ⟨y, by simp, rfl⟩
       | cons z l =>
         obtain ⟨g, g1, g2⟩ := ih (by simp)
         exact ⟨g, by simp only [List.mem_cons] at g1 ⊢; exact .inr g1, g2⟩
    exact this _ hne
   obtain ⟨y, hy, hyk⟩ := h1
   have h2 := rising_le_last h y (by
    rcases List.mem_append.1 hy with hy | hy
    · simp [hy]
    · simp [hy])
   omega
end Go.Proofs.YtjmpekanlmepmaaGreatDoor.Bt
namespace Go.Proofs.YtjmpekanlmepmaaGreatDoor.Bt
/-! ### what may become of a tree -/
/-- d fresh pages are taken; w: a leaf's entries change; k: a leaf dies. -/
inductive Evo : Int → Nat → Nat → List (List Cell) → List (List Cell) → Prop
 | same {T : List (List Cell)} : Evo 0 0 0 T T
 | plant {e : Entry} {new : Int} : Evo 1 1 0 [] [[(new, firstLeaf e)]]
 | raise {x y : Cell} {r : List Cell} {t : List (List Cell)} {new : Int} : Evo 1 0 0 ((x :: y :: r) :: t) ([(new, newRoot ((t.length : Int) + 1) x.2.high (ptr x.1) (ptr y.1))] :: (x :: y :: r) :: t)
 | leaf {pre : List (List Cell)} {A R : List Cell} {l : Int} {n : Node} {es : List Entry} : n.dead = false → es.length ≤ n.entries.length + 1 → Evo 0 1 0 (pre ++ [A ++ (l, n) :: R]) (pre ++ [A ++ (l, { n with entries := es }) :: R])
 | leafSplit {pre : List (List Cell)} {A R : List Cell} {l new : Int} {n : Node} {e1 e2 : List Entry} : n.dead = false → n.entries.length = 5 → e1.length = 3 → e2.length = 3 → lastKey e1 < n.high →
     Evo 1 1 0 (pre ++ [A ++ (l, n) :: R]) (pre ++ [A ++ (l, lowerHalf n new e1 (lastKey e1)) :: (new, upperHalf n e2) :: R])
 | post {pre post : List (List Cell)} {A R lo : List Cell} {l : Int} {n : Node} {a b : List Entry} {e : Entry} {x y : Cell} : n.entries = a ++ e :: b → e.to = ptr x.1 → x ∈ lo → x.2.right = ptr y.1 → y ∈ lo → y.2.dead = false → x.2.high < e.key →
     Evo 0 0 0 (pre ++ (A ++ (l, n) :: R) :: lo :: post) (pre ++ (A ++ (l, { n with entries := a ++ ⟨x.2.high, e.to⟩ :: ⟨e.key, ptr y.1⟩ :: b }) :: R) :: lo :: post)
 | postSplit {pre post : List (List Cell)} {A R lo : List Cell} {l new : Int} {n : Node} {a b e1 e2 : List Entry} {e : Entry} {x y : Cell} : n.entries = a ++ e :: b → e.to = ptr x.1 → x ∈ lo → x.2.right = ptr y.1 → y ∈ lo → y.2.dead = false → x.2.high < e.key →
     a ++ ⟨x.2.high, e.to⟩ :: ⟨e.key, ptr y.1⟩ :: b = e1 ++ e2 → n.entries.length = 5 → e1.length = 3 → e2.length = 3 → lastKey e1 < n.high →
     Evo 1 0 0 (pre ++ (A ++ (l, n) :: R) :: lo :: post) (pre ++ (A ++ (l, lowerHalf n new e1 (lastKey e1)) :: (new, upperHalf n e2) :: R) :: lo :: post)
 | kill {pre : List (List Cell)} {U V A R : List Cell} {lp l : Int} {p n : Node} {es1 es2 : List Entry} {e f : Entry} : n.dead = false → n.entries = [] → p.entries = es1 ++ e :: f :: es2 → e.to = ptr l → e.key = n.high →
     Evo 0 0 1 (pre ++ [U ++ ((lp, p) :: V), A ++ ((l, n) :: R)]) (pre ++ [U ++ ((lp, { p with entries := es1 ++ f :: es2 }) :: V), A ++ ((l, { n with dead := true }) :: R)])
 | unlink {pre : List (List Cell)} {A R : List Cell} {l k : Int} {n m : Node} : n.dead = false → m.dead = true → Evo 0 0 0 (pre ++ [A ++ ((l, n) :: (k, m) :: R)]) (pre ++ [A ++ ((l, { n with right := m.right }) :: R)])
/-- Pages of nodes that did not change did not change. -/
def Kept (ps ps' : List Page) (T T' : List (List Cell)) : Prop := ∀ l, 97 ≤ l → (∀ n, (l, n) ∈ flat T' → (l, n) ∈ flat T) → latest ps' l = latest ps l
theorem Kept.refl (ps : List Page) (T T' : List (List Cell)) : Kept ps ps T T' := fun _ _ _ => rfl
/-- The pages that are written can be committed. -/
structure Commits (ps ws : List Page) : Prop where
 fit : ∀ p ∈ ws, 96 ≤ p.line ∧ p.line < 256 ∧ p.Ok ∧ p.head = (pg ps p.line).head
 two : ws = [] ∨ (∃ p, ws = [p]) ∨ ∃ p q, ws = [p, q] ∧ p.line < q.line
theorem Commits.nil (ps : List Page) : Commits ps [] := ⟨(fun p hp => by cases hp), .inl rfl⟩
theorem Commits.one {ps : List Page} {p : Page} (h : 96 ≤ p.line ∧ p.line < 256 ∧ p.Ok ∧ p.head = (pg ps p.line).head) : Commits ps [p] := ⟨fun q hq => by simp at hq; subst hq; exact h, .inr (.inl ⟨p, rfl⟩)⟩
theorem Commits.pair {ps : List Page} {p q : Page} (h : 96 ≤ p.line ∧ p.line < 256 ∧ p.Ok ∧ p.head = (pg ps p.line).head) (h2 : 96 ≤ q.line ∧ q.line < 256 ∧ q.Ok ∧ q.head = (pg ps q.line).head) (hl : p.line < q.line) : Commits ps [p, q] :=
 ⟨fun x hx => by simp at hx; rcases hx with rfl | rfl; exact h; exact h2, .inr (.inr ⟨p, q, rfl, hl⟩)⟩
/-! ### the step function on an index -/
def S0 (ps : List Page) (T : List (List Cell)) : St := { ({} : St) with rootPage := pg ps 96, root := rootPtr T }
theorem Inv.rootHere {ps : List Page} {nx : Int} {es : List Entry} {T : List (List Cell)} (h : Inv ps nx es T) : latest ps 96 = some (pg ps 96) ∧ locked (pg ps 96) = false ∧ (pg ps 96).line = 96 ∧ (pg ps 96).Ok ∧ (pg ps 96).head % 256 = 0 := by
 obtain ⟨h1, h2, h3, _⟩ := h.ix.at (l := 96) (by omega) (by omega)
 exact ⟨h1, h.ix.unlocked h3, h2, h.ix.ok _ h3, h.ix.free _ h3⟩
theorem Inv.step {ps : List Page} {nx : Int} {es : List Entry} {T : List (List Cell)} (h : Inv ps nx es T) {op : Op} (hv : op.isValid = true) : next op ps = ((S0 ps T).go op ps).close := by
 obtain ⟨h1, h2, _⟩ := h.rootHere
 unfold next
 rw [if_neg (by rw [hv]; simp)]
 have e : ({} : St).readRoot op ps = (S0 ps T, true) := by
  unfold St.readRoot
  rw [h1]
  simp only
  rw [if_neg (by rw [h2]; simp), h.root]
  rfl
 rw [e]
theorem close_fail {s : St} (hn : s.need = []) (c : Int) (l : List Int) : (s.fail c l).close = ⟨[], sortPages s.writes, if s.ended then (s.fail c l).out else { (s.fail c l).out with hops := 0, height := 0, dead := false, unposted := false }, true⟩ := by
 unfold St.close
 rw [if_neg (by show ¬ s.need ≠ []; rw [hn]; simp)]
 rfl
/-- The leaf that covers a key, and what lies left and right of it. -/
theorem Inv.leaf {ps : List Page} {nx : Int} {es : List Entry} {T : List (List Cell)} (h : Inv ps nx es T) (hT : T ≠ []) {k : Int} (hk : 1 ≤ k) (hk2 : k ≤ maxHigh) :
 ∃ pre A l n R hs, T = pre ++ [A ++ (l, n) :: R] ∧ lowAfter 0 A < k ∧ 0 ≤ lowAfter 0 A ∧ n.dead = false ∧ k ≤ n.high ∧ n.level = 0 ∧ Sees ps l n ∧ 105 ≤ l ∧ l < nx ∧
  (∀ s : St, s.root = rootPtr T → s.descend ps 0 k = (after hs (T.length : Int) s, .at_ (pg ps l) n)) ∧ (Posted T → (∀ c r t, T = (c :: r) :: t → r = []) → ∀ x ∈ hs, x.dead = true) ∧
  es = ents A ++ (n.entries ++ ents R) ∧ (∀ x ∈ ents A, x.key < k) ∧ (∀ x ∈ ents R, k < x.key) ∧ risingFrom (lowAfter 0 A) n.entries = true ∧
  ∃ c r t L, T = (c :: r) :: t ∧ Walks 0 k c hs L (l, n) ∧ List.Sublist (c :: L) (flat T) := by
 have hlen : 0 < T.length := List.length_pos_iff.2 hT
 obtain ⟨pre, A, l, n, R, post, hs, i1, i2, i3, i4, i5, i6, i7, i8, i9⟩ := h.descend (lev := 0) hlen hk hk2
 obtain rfl : post = [] := List.length_eq_zero_iff.1 i2
 have hlv : Level ((([] : List (List Cell)).length : Nat) : Int) (A ++ (l, n) :: R) := Tree.level (pre := pre) (i1 ▸ h.tree)
 have hr := Rise.append.1 hlv.rise
 have hr2 := hr.2
 simp only [Rise] at hr2
 rw [if_neg (by rw [i4]; simp)] at hr2
 have hv := Node.valid_parts (hlv.valid (l, n) (by simp))
 have hA : ∀ x ∈ ents A, x.key < k := fun x hx => by
  obtain ⟨c, hc, hxc⟩ := List.mem_flatMap.1 hx
  have hvc := Node.valid_parts (hlv.valid c (by simp [hc]))
  have h1 := rising_le_last hvc.2.2.2.1 x hxc
  have h2 := hvc.2.2.2.2.2.2.2.1
  have h3 : c.2.dead = false := by
   cases hd : c.2.dead with
   | false => rfl
   | true => have := (hvc.2.2.2.2.2.2.2.2.1 hd).2.1; rw [this] at hxc; cases hxc
  have h4 := hr.1.low.2 c hc h3
  omega
 have hR : ∀ x ∈ ents R, k < x.key := fun x hx => by
  have : ∀ (p : Int) (R : List Cell), Rise p R → (∀ c ∈ R, c.2.valid = true) → ∀ x ∈ ents R, p < x.key := by
   intro p R
   induction R generalizing p with
   | nil => intro _ _ x hx; cases hx
   | cons c R ih =>
     intro hr hv x hx
     have hvc := Node.valid_parts (hv c (by simp))
     simp only [Rise] at hr
     rw [ents_cons, List.mem_append] at hx
     split at hr
     · rename_i hd
       rcases hx with hx | hx
       · have := (hvc.2.2.2.2.2.2.2.2.1 hd).2.1; rw [this] at hx; cases hx
       · exact ih p hr (fun y hy => hv y (by simp [hy])) x hx
     · rcases hx with hx | hx
       · exact hr.2.1 x hx
       · have := ih _ hr.2.2 (fun y hy => hv y (by simp [hy])) x hx
         have := hr.1
         omega
  have := this n.high R hr2.2.2 (fun c hc => hlv.valid c (by simp [hc])) x hx
  omega
 have hrg := h.range (l, n) i6
 refine ⟨pre, A, l, n, R, hs, i1, i3, hr.1.low.1, i4, i5, hlv.level (l, n) (by simp), h.sees (l, n) i6, hrg.1, hrg.2, fun s hs' => i7 s hs', i8, ?_, hA, hR, risingFrom_more hv.2.2.2.1 hr2.2.1, i9⟩
 rw [← h.holds, i1, leafEnts_leaf, ents_append, ents_cons]
/-- A lookup. -/
theorem Inv.find {ps : List Page} {nx : Int} {es : List Entry} {T : List (List Cell)} (h : Inv ps nx es T) {op : Op} (hkd : op.kind = 1) (hk : 1 ≤ op.key) (hk2 : op.key ≤ maxKey) :
 ∃ o, next op ps = ⟨[], [], o, true⟩ ∧ o.code = 0 ∧ o.found = hasKey es op.key ∧ o.to = (if hasKey es op.key then (es.getD (child es op.key) default).to else nilP) ∧ o.check.length = 1 ∧ o.entries = [] ∧ (Posted T → (∀ c r t, T = (c :: r) :: t → r = []) → o.unposted = false) ∧
  (T = [] → o.check = [96]) ∧ (T ≠ [] → ∃ pre A l n R, T = pre ++ [A ++ (l, n) :: R] ∧ lowAfter 0 A < op.key ∧ op.key ≤ n.high ∧ n.dead = false ∧ o.check = [l]) := by
 have hv : op.isValid = true := by unfold Op.isValid; simp [hkd, isKey, hk, hk2]
 obtain ⟨h1, h2, h3, h4, h5⟩ := h.rootHere
 have hgo : (S0 ps T).go op ps = (S0 ps T).find op ps := by unfold St.go; rw [if_pos hkd]
 rw [h.step hv, hgo]
 by_cases hT : T = []
 · subst hT
   have hes : es = [] := by rw [← h.holds]; rfl
   have e1 : (S0 ps []).find op ps = (S0 ps []).fail 0 [96] := by
    unfold St.find St.noTree
    rw [if_pos (show (S0 ps []).root = nilP from rfl), if_neg (by show ¬ locked (pg ps 96) = true; rw [h2]; simp)]
   rw [e1, close_fail rfl]
   refine ⟨_, rfl, rfl, ?_, ?_, rfl, rfl, fun _ _ => rfl, fun _ => rfl, fun hT => absurd rfl hT⟩
   · rw [hes]; rfl
   · rw [hes]; rfl
 · obtain ⟨pre, A, l, n, R, hs, i1, i3, i3b, i4, i5, i5b, i6, i6b, i6c, i7, i8, i9, i10, i11, i12, i13⟩ := h.leaf hT hk (by unfold maxKey at hk2; unfold maxHigh; omega)
   obtain ⟨q1, q2, q3, q4, q5⟩ := place_split (m := n.entries) i10 i11
   rw [← i9] at q1 q2 q3
   have hroot : ¬ (S0 ps T).root = nilP := fun e => hT (h.rootNil.1 e)
   have hline : (pg ps l).line = l := i6.line
   have hend : ∀ (o : Out), (Posted T → (∀ c r t, T = (c :: r) :: t → r = []) → hs.any (fun n => !n.dead) = false) := fun _ hp h1 => by
    rw [List.any_eq_false]
    intro x hx
    simp [i8 hp h1 x hx]
   by_cases hhk : hasKey n.entries op.key = true
   · have e1 : (S0 ps T).find op ps = ({ after hs (T.length : Int) (S0 ps T) with out := { (after hs (T.length : Int) (S0 ps T)).out with found := true, to := (n.entries.getD (child n.entries op.key) default).to } } : St).fail 0 [l] := by
       unfold St.find
       rw [if_neg hroot, i7 _ rfl]
       simp only
       rw [if_pos hhk, hline]
     rw [e1, close_fail rfl]
     refine ⟨_, rfl, rfl, ?_, ?_, rfl, rfl, fun hp h1 => ?_, fun hT' => absurd hT' hT, fun _ => ⟨pre, A, l, n, R, i1, i3, i5, i4, rfl⟩⟩
     · show true = _
       rw [q2, hhk]
     · rw [q2, if_pos hhk, q3 _ hhk]; rfl
     · exact (Bool.false_or _).trans (hend {} hp h1)
   · have hhk' : hasKey n.entries op.key = false := by simpa using hhk
     have e1 : (S0 ps T).find op ps = (after hs (T.length : Int) (S0 ps T)).fail 0 [l] := by
      unfold St.find
      rw [if_neg hroot, i7 _ rfl]
      simp only
      rw [if_neg (by rw [hhk']; simp), hline]
     rw [e1, close_fail rfl]
     refine ⟨_, rfl, rfl, ?_, ?_, rfl, rfl, fun hp h1 => ?_, fun hT' => absurd hT' hT, fun _ => ⟨pre, A, l, n, R, i1, i3, i5, i4, rfl⟩⟩
     · show false = _
       rw [q2, hhk']
     · rw [q2, hhk']; rfl
     · exact (Bool.false_or _).trans (hend {} hp h1)
end Go.Proofs.YtjmpekanlmepmaaGreatDoor.Bt
