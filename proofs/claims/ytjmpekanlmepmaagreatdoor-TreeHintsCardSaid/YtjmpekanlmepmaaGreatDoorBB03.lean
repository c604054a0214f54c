/- An index: its pages hold a tree; what a search does on it (plain Lean). -/
import Derived.Test.YtjmpekanlmepmaaGreatDoorBB02
set_option linter.all false
set_option maxRecDepth 20000
set_option maxHeartbeats 8000000
namespace Go.Proofs.YtjmpekanlmepmaaGreatDoor.Bt
theorem Z6V (l : List Page) (p : Page) (line : Int) : latest (l ++ [p]) line = if p.line = line then some p else latest l line := by
 unfold latest
 rw [List.reverse_append]
 simp only [List.reverse_cons, List.reverse_nil, List.nil_append, List.cons_append, List.find?_cons]
 by_cases h : p.line = line <;> simp [h]
structure Ix (ps : List Page) : Prop where
 len : ps.length = 160
 line : ∀ i (h : i < ps.length), ps[i].line = 96 + (i : Int)
 ok : ∀ p ∈ ps, p.Ok
 free : ∀ p ∈ ps, p.head % 256 = 0
theorem Z8w {ps : List Page} (hl : ∀ i (h : i < ps.length), ps[i].line = 96 + (i : Int)) (k : Nat) (hk : k ≤ ps.length) (i : Nat) : latest (ps.take k) (96 + (i : Int)) = if i < k then ps[i]? else none := by
 induction k with
 | zero => simp [latest]
 | succ k ih =>
   have hlt : k < ps.length := by omega
   rw [List.take_succ_eq_append_getElem hlt, Z6V, hl k hlt, ih (by omega)]
   by_cases hik : i = k
   ·subst hik
    rw [if_pos rfl, if_pos (by omega), List.getElem?_eq_getElem hlt]
   ·rw [if_neg (by omega)]
    by_cases h2 : i < k
    ·rw [if_pos h2, if_pos (by omega)]
    ·rw [if_neg h2, if_neg (by omega)]
theorem Ix.latest {ps : List Page} (h : Ix ps) (i : Nat) : Bt.latest ps (96 + (i : Int)) = ps[i]? := by
 have := Z8w h.line ps.length (Nat.le_refl _) i
 rw [List.take_length] at this
 rw [this]
 split
 ·rfl
 ·rw [List.getElem?_eq_none (by omega)]
theorem Ix.at {ps : List Page} (h : Ix ps) {l : Int} (h1 : 96 ≤ l) (h2 : l < 256) : Bt.latest ps l = some (pg ps l) ∧ (pg ps l).line = l ∧ pg ps l ∈ ps ∧ ps[(l - 96).toNat]? = some (pg ps l) := by
 obtain ⟨i, rfl⟩ : ∃ i : Nat, l = 96 + (i : Int) := ⟨(l - 96).toNat, by omega⟩
 have hi : i < ps.length := by have := h.len; omega
 have h3 : Bt.latest ps (96 + (i : Int)) = some (pg ps (96 + (i : Int))) := by
  unfold pg
  rw [h.latest, List.getElem?_eq_getElem hi]; rfl
 refine ⟨h3, Z65 h3, ?_, ?_⟩
 ·have := h3
  rw [h.latest] at this
  exact List.mem_of_getElem? this
 ·rw [show (96 + (i : Int) - 96).toNat = i by omega, ← h.latest]
  exact h3
theorem Ix.unlocked {ps : List Page} (h : Ix ps) {p : Page} (hp : p ∈ ps) : locked p = false := by
 have := h.free p hp
 simp [locked, this]
def raised (p : Page) : Page := { p with head := (p.head + 256) % 18446744073709551616 }
def Z3k (ps : List Page) (p : Page) : List Page := ps.set (p.line - 96).toNat (raised p)
def Z0J (ps ws : List Page) : List Page := ws.foldl Z3k ps
theorem Zaj {p : Page} (h : p.Ok) : (raised p).Ok :=
 ⟨⟨Int.emod_nonneg _ (by omega), Int.emod_lt_of_pos _ (by omega)⟩, h.d0, h.d1, h.d2, h.d3, h.d4, h.d5, h.d6⟩
theorem Ix.put {ps : List Page} (h : Ix ps) {p : Page} (h1 : 96 ≤ p.line) (h2 : p.line < 256) (ho : p.Ok) (hf : p.head % 256 = 0) : Ix (Z3k ps p) := by
 have hl := h.len
 refine ⟨by simp [Z3k, hl], fun i hi => ?_, fun q hq => ?_, fun q hq => ?_⟩
 ·have hi' : i < ps.length := by simpa [Z3k] using hi
  simp only [Z3k, List.getElem_set]
  split
  ·show p.line = 96 + (i : Int); omega
  ·exact h.line i hi'
 ·rcases List.mem_or_eq_of_mem_set hq with hq | rfl
  ·exact h.ok q hq
  ·exact Zaj ho
 ·rcases List.mem_or_eq_of_mem_set hq with hq | rfl
  ·exact h.free q hq
  ·show (p.head + 256) % 18446744073709551616 % 256 = 0; omega
theorem Ix.latest_put {ps : List Page} (h : Ix ps) {p : Page} (h1 : 96 ≤ p.line) (h2 : p.line < 256) (ho : p.Ok) (hf : p.head % 256 = 0) (l : Int) (hl : 96 ≤ l) :
 Bt.latest (Z3k ps p) l = if l = p.line then some (raised p) else Bt.latest ps l := by
 have h3 := h.put h1 h2 ho hf
 obtain ⟨i, rfl⟩ : ∃ i : Nat, l = 96 + (i : Int) := ⟨(l - 96).toNat, by omega⟩
 rw [h3.latest, h.latest]
 unfold Z3k
 by_cases hi : 96 + (i : Int) = p.line
 ·rw [if_pos hi, show (p.line - 96).toNat = i by omega, List.getElem?_set_self (by have := h.len; omega)]
 ·rw [if_neg hi, List.getElem?_set_ne (by omega)]
theorem Z6P (p : Page) (x : Int) : Z19 { p with head := x } = Z19 p := by
 have e1 : ({ p with head := x } : Page).node = p.node := rfl
 have e2 : ({ p with head := x } : Page).count = p.count := rfl
 unfold Z19
 rw [e1, e2]
 have e3 : (p.node.fill { p with head := x } = { p with head := x }) ↔ (p.node.fill p = p) := by
  cases p; simp [Node.fill]
 simp only [e3]
theorem Z7v (a : Int) (n : Nat) : ∀ l : List Int, l.Nodup → (∀ x ∈ l, a ≤ x ∧ x < a + n) → l.length ≤ n := by
 induction n with
 | zero =>
   intro l _ h
   cases l with
   | nil => simp
   | cons x l => have := h x (by simp); omega
 | succ n ih =>
   intro l hn h
   have h1 := ih (l.erase (a + n)) (hn.erase _) (fun x hx => by
    have h2 := (hn.mem_erase_iff).1 hx
    have h3 := h x h2.2
    have := h2.1
    omega)
   by_cases hm : a + n ∈ l
   ·rw [List.length_erase_of_mem hm] at h1
    omega
   ·rw [List.erase_of_not_mem hm] at h1
    omega
def ZaR (hs : List Node) (s : St) : St := { s with out := { s.out with hops := s.out.hops + hs.length, dead := s.out.dead || hs.any (·.dead), unposted := s.out.unposted || hs.any (fun n => !n.dead) } }
theorem ZaT (hs : List Node) (s : St) : hs.foldl St.hop s = ZaR hs s := by
 induction hs generalizing s with
 | nil => simp [ZaR]
 | cons n hs ih =>
   rw [List.foldl_cons, ih]
   simp only [ZaR, St.hop, List.length_cons, List.any_cons, Bool.or_assoc]
   congr 2
   omega
def after (hs : List Node) (height : Int) (s : St) : St := { s with ended := true, out := { s.out with hops := s.out.hops + hs.length, dead := s.out.dead || hs.any (·.dead), unposted := s.out.unposted || hs.any (fun n => !n.dead), height := height } }
theorem Z8Z (hs : List Node) (height : Int) (s : St) : ({ hs.foldl St.hop s with ended := true, out := { (hs.foldl St.hop s).out with height := height } } : St) = after hs height s := by
 rw [ZaT]; rfl
def Z1i : List (List Cell) → Ptr
 | (c :: _) :: _ => ptr c.1
 | _ => nilP
def Z2A (T : List (List Cell)) : List Entry := ents (T.getLastD [])
theorem Z2f (pre : List (List Cell)) (lo : List Cell) : Z2A (pre ++ [lo]) = ents lo := by simp [Z2A]
structure Inv (ps : List Page) (nx : Int) (es : List Entry) (T : List (List Cell)) : Prop where
 ix : Ix ps
 tree : Tree T
 sees : ∀ c ∈ flat T, Sees ps c.1 c.2
 range : ∀ c ∈ flat T, 105 ≤ c.1 ∧ c.1 < nx
 bound : 105 ≤ nx ∧ nx ≤ 256
 fresh : ∀ l, nx ≤ l → l < 256 → Z0f (pg ps l).d0 = 0 ∧ Z0u (pg ps l).d0 = 0
 root : Z1p (pg ps 96) = some (Z1i T, ((T.length - 1 : Nat) : Int))
 holds : Z2A T = es
theorem Inv.small {ps : List Page} {nx : Int} {es : List Entry} {T : List (List Cell)} (h : Inv ps nx es T) : (flat T).length ≤ 151 := by
 have h1 := h.bound
 have := Z7v 105 (nx - 105).toNat (lines T) h.tree.nodup (fun x hx => by
  obtain ⟨c, hc, rfl⟩ := List.mem_map.1 hx
  have := h.range c hc
  omega)
 rw [lines, List.length_map] at this
 omega
theorem Levels.ne {c : List Cell} {t : List (List Cell)} (h : Levels (c :: t)) : c ≠ [] := h.1.ne
theorem Inv.descend {ps : List Page} {nx : Int} {es : List Entry} {T : List (List Cell)} (h : Inv ps nx es T) {lev : Nat} (hlev : lev < T.length) {k : Int} (hk : 1 ≤ k) (hk2 : k ≤ Z08) :
 ∃ pre A l n R post hs, T = pre ++ (A ++ (l, n) :: R) :: post ∧ post.length = lev ∧ Z05 0 A < k ∧ n.dead = false ∧ k ≤ n.high ∧ (l, n) ∈ flat T ∧
  (∀ s : St, s.root = Z1i T → s.descend ps (lev : Int) k = (after hs (T.length : Int) s, .at_ (pg ps l) n)) ∧ (Z4E T → (∀ c r t, T = (c :: r) :: t → r = []) → ∀ x ∈ hs, x.dead = true) ∧
  ∃ c r t L, T = (c :: r) :: t ∧ Walks (lev : Int) k c hs L (l, n) ∧ List.Sublist (c :: L) (flat T) := by
 obtain ⟨up, t, rfl⟩ : ∃ up t, T = up :: t := by
  cases T with
  | nil => simp at hlev
  | cons up t => exact ⟨up, t, rfl⟩
 have hl := h.tree.levels
 obtain ⟨c, r, rfl⟩ : ∃ c r, up = c :: r := by
  cases up with
  | nil => exact absurd rfl hl.ne
  | cons c r => exact ⟨c, r, rfl⟩
 simp only [List.length_cons] at hlev
 obtain ⟨ch, b, d, r', hs, l, i1, i2, i3, i4, i5, i6, i7, i8, i9⟩ := Walks.tower (k := k) (by omega) hk2 (lev := lev) t (c :: r) hl h.tree.links (by omega) [] c r rfl (by show (0 : Int) < k; omega)
 obtain ⟨dl, dn⟩ := d
 have hflat : flat ((c :: r) :: t) = c :: r ++ flat t := rfl
 have hsub : List.Sublist (c :: l) (flat ((c :: r) :: t)) := i8
 have hsm := h.small
 have hlen := hsub.length_le
 have hdm : (dl, dn) ∈ flat ((c :: r) :: t) := by
  have := i7.last.1
  exact hsub.subset this
 have hlt : t.length - lev < ((c :: r) :: t).length := by simp only [List.length_cons]; omega
 have hT : ((c :: r) :: t) = ((c :: r) :: t).take (t.length - lev) ++ ch :: ((c :: r) :: t).drop (t.length - lev + 1) := by
  have h1 : ((c :: r) :: t)[t.length - lev] = ch := by rw [List.getElem?_eq_getElem hlt] at i1; exact Option.some.inj i1
  rw [← h1, List.getElem_cons_drop, List.take_append_drop]
 have hcl : c.2.level = (t.length : Int) := hl.1.level c (by simp)
 have hops := i7.hops
 have hlv := (hl.append (a := []))
 refine ⟨_, b, dl, dn, r', _, skips k (c :: r) ++ hs, by rw [← i2]; exact hT, ?_, i3, i4, i5, hdm, ?_, ?_, ⟨c, r, t, l, rfl, i7, hsub⟩⟩
 ·rw [List.length_drop]; simp only [List.length_cons]; omega
 ·intro s hs'
  have hlook : s.look ps s.root false = (s, some (pg ps c.1, c.2)) := by
   rw [hs']
   exact (h.sees c (by rw [hflat]; simp)).look s false
  unfold St.descend
  rw [hlook]
  simp only
  rw [if_neg (by rw [hcl]; omega)]
  have hd := Walks.descend (known := ps) (height := c.2.level + 1) i7 (fun x hx => h.sees x (hsub.subset hx)) (257 + c.2.level.toNat) (by simp only [List.length_cons] at hlen; omega) s 0 (by simp only [List.length_cons] at hlen; rw [hcl] at hops; omega)
  rw [hd, Z8Z]
  have e1 : c.2.level + 1 = ((((c :: r) :: t).length : Nat) : Int) := by rw [hcl]; simp
  rw [e1]
 ·intro hp hone x hx
  have hr := hone c r t rfl
  subst hr
  rcases List.mem_append.1 hx with hx | hx
  ·have hcc := hl.1.chain
   have hch := hl.1.chain.last hl.1.valid (by simp)
   obtain ⟨a, y, e, _, e2, e3⟩ := hch
   cases a with
   | nil =>
     simp only [List.nil_append, List.cons.injEq, and_true] at e
     subst e
     have h4 : ¬ c.2.passes k := fun hpp => by
      rcases hpp with hpp | hpp
      ·rw [e3] at hpp; cases hpp
      ·omega
     simp [skips, if_neg h4] at hx
   | cons z a =>
     simp only [List.cons_append, List.cons.injEq] at e
     have := e.2
     simp at this
  ·exact i9 hp x hx
theorem wG8 {P : Prop} (h : P := by
 obtain ⟨up, t, rfl⟩ : ∃ up t, T = up :: t := by
  cases T with
  | nil => exact absurd rfl hne
  | cons up t => exact ⟨up, t, rfl⟩
 have hl := h.tree.levels
 obtain ⟨c, r, rfl⟩ : ∃ c r, up = c :: r := by
  cases up with
  | nil => exact absurd rfl hl.ne
  | cons c r => exact ⟨c, r, rfl⟩
 have hlook : s.look ps s.root false = (s, some (pg ps c.1, c.2)) := by
  rw [hs]
  exact (h.sees c (by simp [flat])).look s false
 have hcl : c.2.level = (t.length : Int) := hl.1.level c (by simp)
 first
  | clear tg59
    unfold St.descend
    rw [hlook]
    simp only
    rw [if_pos (by rw [hcl]; simp only [List.length_cons] at hlev; omega)]
  | clear tg60
    exact .absent hlook (by rw [hcl]; simp only [List.length_cons] at hlev; omega)) : P := h
theorem Inv.absent {ps : List Page} {nx : Int} {es : List Entry} {T : List (List Cell)} (h : Inv ps nx es T) {lev : Nat} (hlev : T.length ≤ lev) (hne : T ≠ []) (k : Int) (s : St) (hs : s.root = Z1i T) : s.descend ps (lev : Int) k = (s, .absent) := by
 have tg59 := trivial
 exact wG8
theorem Inv.rootNil {ps : List Page} {nx : Int} {es : List Entry} {T : List (List Cell)} (h : Inv ps nx es T) : Z1i T = nilP ↔ T = [] := by
 constructor
 ·intro hr
  cases T with
  | nil => rfl
  | cons up t =>
    cases up with
    | nil => exact absurd rfl h.tree.levels.ne
    | cons c r =>
      exfalso
      have h1 := (h.sees c (by simp [flat])).valid
      have h2 : ptr c.1 = nilP := hr
      rw [h2, Z2T] at h1
      cases h1
 ·rintro rfl; rfl
structure Good (n : Node) : Prop where
 valid : n.valid = true
 high : n.high ≤ Z08
theorem Z2j {p : Int} {es : List Entry} (h : Z09 p es = true) : ∀ e ∈ es, e.key ≤ Z03 es := by
 intro e he
 have h1 := (Z5a h).2 e he
 rwa [Z3q _ _ (fun h0 => by rw [h0] at he; cases he)] at h1
theorem Good.range {n : Node} (h : Good n) : 0 ≤ n.high ∧ n.high < 4294967296 ∧ ∀ e ∈ n.entries, 1 ≤ e.key ∧ e.key < 4294967296 := by
 obtain ⟨a1, a2, a3, a4, a5, a6, a7, a8, a9, a10, a11⟩ := Node.valid_parts h.valid
 have hh := h.high
 unfold Z08 at hh
 have hk : ∀ e ∈ n.entries, 1 ≤ e.key ∧ e.key < 4294967296 := fun e he => by
  have h1 := (Z3B a4 e he).1
  have h2 := Z2j a4 e he
  omega
 refine ⟨?_, by omega, hk⟩
 cases hes : n.entries with
 | nil => rw [hes] at a8; exact a8
 | cons e es => have := hk e (by rw [hes]; simp); have := Z2j a4 e (by rw [hes]; simp); omega
theorem Z31 {es : List Entry} (h : ∀ e ∈ es, 1 ≤ e.key ∧ e.key < 4294967296) (i : Nat) : 0 ≤ wordAt es i ∧ wordAt es i < 18446744073709551616 := by
 unfold wordAt
 split
 ·rename_i e he
  have h1 := h e (List.mem_of_getElem? he)
  have h2 := Z5p e.to
  unfold Z3Q
  omega
 ·omega
theorem Good.fill_ok {n : Node} (h : Good n) {p : Page} (hp : p.Ok) : (n.fill p).Ok := by
 obtain ⟨a1, a2, a3, _⟩ := Node.valid_parts h.valid
 obtain ⟨h1, h2, h3⟩ := h.range
 have ha := Z7S a1 a2 a3
 have hr := Z5p n.right
 refine ⟨hp.head, ?_, ?_, Z31 h3 0, Z31 h3 1, Z31 h3 2, Z31 h3 3, Z31 h3 4⟩
 ·show 0 ≤ Z1v (Z0f p.d0) (Z0u p.d0) n.aux ∧ Z1v (Z0f p.d0) (Z0u p.d0) n.aux < 18446744073709551616
  unfold Z1v
  omega
 ·show 0 ≤ n.high + pack n.right * 4294967296 ∧ n.high + pack n.right * 4294967296 < 18446744073709551616
  omega
theorem Sees.good {ps : List Page} {l : Int} {n : Node} (h : Sees ps l n) : Good n := by
 have h1 := Z3y h.node
 refine ⟨h1.1, ?_⟩
 rw [h1.2.1]
 show (pg ps l).d1 % 4294967296 ≤ Z08
 unfold Z08
 omega
structure Blank (p : Page) (l : Int) : Prop where
 line : p.line = l
 lo : 104 ≤ l
 hi : l < 256
 kind : Z0f p.d0 = 4
 gen : Z0u p.d0 = 1
 ok : p.Ok
 free : p.head % 256 = 0
theorem Sees.blank {ps : List Page} (hx : Ix ps) {l : Int} {n : Node} (h : Sees ps l n) : Blank (pg ps l) l := by
 have h1 := hx.at (l := l) (by have := h.lo; omega) h.hi
 exact ⟨h1.2.1, h.lo, h.hi, h.kind, h.gen, hx.ok _ h1.2.2.1, hx.free _ h1.2.2.1⟩
theorem Blank.put {ps : List Page} (hx : Ix ps) {p : Page} {l : Int} {n : Node} (hb : Blank p l) (hn : Good n) : Ix (Z3k ps (n.fill p)) ∧ Sees (Z3k ps (n.fill p)) l n ∧ (∀ l', 96 ≤ l' → l' ≠ l → latest (Z3k ps (n.fill p)) l' = latest ps l') := by
 have hl : (n.fill p).line = l := hb.line
 have ho := hn.fill_ok hb.ok
 have hf : (n.fill p).head % 256 = 0 := hb.free
 have h1 := hb.lo
 have h2 := hb.hi
 have hlat := fun l' hl' => hx.latest_put (p := n.fill p) (by omega) (by omega) ho hf l' hl'
 have ht := Z5d hn.valid p
 have hx2 := hx.put (p := n.fill p) (by omega) (by omega) ho hf
 have hp : pg (Z3k ps (n.fill p)) l = raised (n.fill p) := by
  unfold pg
  rw [hlat l (by omega), if_pos hl.symm]; rfl
 refine ⟨hx2, ⟨?_, h1, h2, ?_, ?_, ?_, ?_⟩, fun l' hl' hne => ?_⟩
 ·rw [hp, hlat l (by omega), if_pos hl.symm]
 ·rw [hp]; exact ht.1.trans hb.kind
 ·rw [hp]; exact ht.2.1.trans hb.gen
 ·rw [hp]
  unfold raised
  rw [Z6P]
  obtain ⟨r1, r2, _⟩ := hn.range
  exact Z6Q hn.valid r1 r2 hb.kind
 ·have := (hx2.at (l := l) (by omega) h2).2.2.1
  exact hx2.unlocked this
 ·rw [hlat l' hl', if_neg (by rw [hl]; exact hne)]
theorem Sees.congr {ps ps' : List Page} {l : Int} {n : Node} (h : Sees ps l n) (he : latest ps' l = latest ps l) : Sees ps' l n := by
 have hp : pg ps' l = pg ps l := by unfold pg; rw [he]
 exact ⟨by rw [hp, he]; exact h.here, h.lo, h.hi, by rw [hp]; exact h.kind, by rw [hp]; exact h.gen, by rw [hp]; exact h.node, by rw [hp]; exact h.free⟩
theorem Z54 {ps ps' : List Page} {l : Int} (he : latest ps' l = latest ps l) : pg ps' l = pg ps l := by unfold pg; rw [he]
def Z1g (p : Page) : Page := ⟨p.line, p.head, Z1v 4 1 0, 0, 0, 0, 0, 0, 0⟩
theorem Inv.alloc {ps : List Page} {nx : Int} {es : List Entry} {T : List (List Cell)} (h : Inv ps nx es T) (hn : nx < 256) : allocate (pg ps nx) 4 0 = (Z1g (pg ps nx), 0) ∧ Blank (Z1g (pg ps nx)) nx := by
 have hx := h.bound
 obtain ⟨h1, h2, h3, _⟩ := h.ix.at (l := nx) (by omega) hn
 obtain ⟨f1, f2⟩ := h.fresh nx (Int.le_refl _) hn
 have hu := h.ix.unlocked h3
 have ho := h.ix.ok _ h3
 constructor
 ·unfold allocate
  rw [if_neg (by rw [h2]; simp [Z3w]; omega), if_neg (by rw [hu]; simp), if_neg (by rw [f1]; simp), if_neg (by rw [f2]; decide), f2]
  rfl
 ·have hz : (0 : Int) ≤ 0 ∧ (0 : Int) < 18446744073709551616 := by decide
  have hf : (pg ps nx).head % 256 = 0 := h.ix.free _ h3
  exact ⟨h2, by omega, hn, show Z0f (Z1v 4 1 0) = 4 by decide, show Z0u (Z1v 4 1 0) = 1 by decide, ⟨ho.head, show 0 ≤ Z1v 4 1 0 ∧ Z1v 4 1 0 < 18446744073709551616 by decide, hz, hz, hz, hz, hz, hz⟩, hf⟩
theorem Z3E {a b : List Entry} {k : Int} (ha : ∀ x ∈ a, x.key < k) (hb : ∀ x, b.head? = some x → k ≤ x.key) : Z0T (a ++ b) k = (match b.head? with | some x => decide (x.key = k) | none => false) := by
 unfold Z0T
 rw [Z3I ha hb, List.getElem?_append_right (Nat.le_refl _), Nat.sub_self]
 cases b with
 | nil => rfl
 | cons x b => rfl
theorem Z37 {a m b : List Entry} {k : Int} (ha : ∀ x ∈ a, x.key < k) (hb : ∀ x ∈ b, k < x.key) :
 child (a ++ (m ++ b)) k = a.length + child m k ∧ Z0T (a ++ (m ++ b)) k = Z0T m k ∧ (∀ d, Z0T m k = true → (a ++ (m ++ b)).getD (child (a ++ (m ++ b)) k) d = m.getD (child m k) d) ∧
  (∀ e, Z0h (a ++ (m ++ b)) (child (a ++ (m ++ b)) k) e = a ++ (Z0h m (child m k) e ++ b)) ∧ (Z0T m k = true → Z0B (a ++ (m ++ b)) (child (a ++ (m ++ b)) k) = a ++ (Z0B m (child m k) ++ b)) := by
 obtain ⟨m1, m2, rfl, h2, h3, h4⟩ := Z49 m k
 have hall : ∀ x ∈ a ++ m1, x.key < k := fun x hx => by
  rcases List.mem_append.1 hx with hx | hx
  ·exact ha x hx
  ·exact h3 x hx
 have hb2 : ∀ x, (m2 ++ b).head? = some x → k ≤ x.key := fun x hx => by
  cases m2 with
  | nil =>
    have : x ∈ b := by
     cases b with
     | nil => cases hx
     | cons y b => simp at hx; subst hx; simp
    have := hb x this; omega
  | cons y m2 => simp at hx; subst hx; exact h4 y rfl
 have he : a ++ ((m1 ++ m2) ++ b) = (a ++ m1) ++ (m2 ++ b) := by simp
 have hc : child (a ++ ((m1 ++ m2) ++ b)) k = a.length + m1.length := by rw [he, Z3I hall hb2, List.length_append]
 have hc2 : child (m1 ++ m2) k = m1.length := Z3I h3 h4
 have hk1 := Z3E hall hb2
 have hk2 := Z3E h3 h4
 have hbf : ∀ x, b.head? = some x → decide (x.key = k) = false := fun x hx => by
  have : x ∈ b := by
   cases b with
   | nil => cases hx
   | cons y b => simp at hx; subst hx; simp
  have := hb x this
  simp; omega
 have hkk : Z0T (a ++ ((m1 ++ m2) ++ b)) k = Z0T (m1 ++ m2) k := by
  rw [he, hk1, hk2]
  cases m2 with
  | nil =>
    cases b with
    | nil => rfl
    | cons y b => exact hbf y rfl
  | cons y m2 => rfl
 refine ⟨by rw [hc, hc2], hkk, fun d hk => ?_, fun e => ?_, fun hk => ?_⟩
 ·rw [hc, hc2]
  cases m2 with
  | nil => rw [hk2] at hk; cases hk
  | cons y m2 => simp [List.getD_eq_getElem?_getD, List.getElem?_append_right, List.append_assoc]
 ·rw [hc, hc2]
  rw [he]
  have e1 : Z0h ((a ++ m1) ++ (m2 ++ b)) (a.length + m1.length) e = (a ++ m1) ++ e :: (m2 ++ b) := by rw [← List.length_append]; simp only [Z0h, List.take_left, List.drop_left]
  have e2 : Z0h (m1 ++ m2) m1.length e = m1 ++ e :: m2 := by simp only [Z0h, List.take_left, List.drop_left]
  rw [e1, e2]; simp
 ·rw [hc, hc2]
  cases m2 with
  | nil => rw [hk2] at hk; cases hk
  | cons y m2 =>
    rw [he]
    have del : ∀ (u : List Entry) (v : List Entry), Z0B (u ++ y :: v) u.length = u ++ v := fun u v => by
     have h1 : List.drop (u.length + 1) (u ++ y :: v) = v := by
      rw [show u ++ y :: v = (u ++ [y]) ++ v by simp, show u.length + 1 = (u ++ [y]).length by simp, List.drop_left]
     unfold Z0B
     rw [List.take_left, h1]
    rw [← List.length_append]
    rw [show (a ++ m1) ++ (y :: m2 ++ b) = (a ++ m1) ++ y :: (m2 ++ b) from rfl, del, del]
    simp
theorem Z2Y (es : List Entry) (k : Int) (e : Entry) : ∃ a b, es = a ++ b ∧ Z0h es (child es k) e = a ++ e :: b ∧ (∀ x ∈ a, x.key < k) ∧ (∀ x, b.head? = some x → k ≤ x.key) ∧ a.length = child es k := by
 obtain ⟨a, b, h1, h2, h3, h4⟩ := Z49 es k
 refine ⟨a, b, h1, ?_, h3, h4, h2⟩
 rw [← h2, h1]
 simp [Z0h, List.take_append, List.drop_append]
theorem Z69 {es : List Entry} {k : Int} (h : Z0T es k = true) : ∃ a e b, es = a ++ e :: b ∧ e.key = k ∧ a.length = child es k ∧ es.getD (child es k) default = e ∧ Z0B es (child es k) = a ++ b := by
 obtain ⟨a, b, h1, h2, h3, h4⟩ := Z49 es k
 have hk := Z3E h3 h4
 rw [← h1, h] at hk
 cases b with
 | nil => cases hk
 | cons e b =>
   simp only [List.head?_cons] at hk
   refine ⟨a, e, b, h1, by simpa using hk.symm, h2, ?_, ?_⟩
   ·rw [← h2, h1]; simp [List.getD_eq_getElem?_getD, List.getElem?_append_right]
   ·rw [← h2, h1]; simp [Z0B, List.take_append, List.drop_append]
theorem Z6O {p k : Int} {es : List Entry} {to : Ptr} (h : Z09 p es = true) (hp : p < k) (hk : Z0T es k = false) (hto : Z0w to = true) : Z09 p (Z0h es (child es k) ⟨k, to⟩) = true := by
 obtain ⟨a, b, h1, h2, h3, h4, h5⟩ := Z2Y es k ⟨k, to⟩
 rw [h2]
 rw [h1, Z0C] at h
 refine Z0C.2 ⟨h.1, ?_⟩
 simp only [Z09, Bool.and_eq_true, decide_eq_true_eq]
 refine ⟨⟨Z7A h3 hp, hto⟩, ?_⟩
 cases b with
 | nil => rfl
 | cons x b =>
   have h6 := h4 x rfl
   have h7 := Z3E h3 h4
   rw [← h1, hk] at h7
   simp only [List.head?_cons] at h7
   have h8 : x.key ≠ k := by simpa using h7.symm
   have h9 := h.2
   simp only [Z09, Bool.and_eq_true, decide_eq_true_eq] at h9 ⊢
   exact ⟨⟨by show k < x.key; omega, h9.1.2⟩, h9.2⟩
theorem Z4H {k : Int} {es : List Entry} {to : Ptr} {H : Int} (h : Z03 es ≤ H) (hk : k ≤ H) : Z03 (Z0h es (child es k) ⟨k, to⟩) ≤ H := by
 obtain ⟨a, b, h1, h2, h3, h4, h5⟩ := Z2Y es k ⟨k, to⟩
 rw [h2, Z1n a (by simp)]
 cases b with
 | nil => exact hk
 | cons x b =>
   rw [Z3r _ (by simp)]
   rw [h1, Z1n a (by simp)] at h
   exact h
theorem Z3v (es : List Entry) (k : Int) (e : Entry) : (Z0h es (child es k) e).length = es.length + 1 := by
 obtain ⟨a, b, h1, h2, h3, h4, h5⟩ := Z2Y es k e
 rw [h2, h1]; simp; omega
theorem Z53 {p : Int} {a b : List Entry} {e : Entry} (h : Z09 p (a ++ e :: b) = true) : Z09 p (a ++ b) = true := by
 rw [Z0C] at h
 refine Z0C.2 ⟨h.1, ?_⟩
 have h2 := h.2
 simp only [Z09, Bool.and_eq_true, decide_eq_true_eq] at h2
 exact Z2t h2.2 (by omega)
theorem Z4I {a b : List Entry} {e : Entry} {p H : Int} (h : Z09 p (a ++ e :: b) = true) (hl : Z03 (a ++ e :: b) ≤ H) (hH : 0 ≤ H) : Z03 (a ++ b) ≤ H := by
 cases hab : a ++ b with
 | nil => exact hH
 | cons x r =>
   have hr := Z53 h
   rw [← hab]
   have hne : a ++ b ≠ [] := by rw [hab]; simp
   have h1 : ∃ y ∈ a ++ b, y.key = Z03 (a ++ b) := by
    have : ∀ l : List Entry, l ≠ [] → ∃ y ∈ l, y.key = Z03 l := by
     intro l
     induction l with
     | nil => intro h; exact absurd rfl h
     | cons y l ih =>
       intro _
       cases l with
       | nil => exact ⟨y, by simp, rfl⟩
       | cons z l =>
         obtain ⟨g, g1, g2⟩ := ih (by simp)
         exact ⟨g, by simp only [List.mem_cons] at g1 ⊢; exact .inr g1, g2⟩
    exact this _ hne
   obtain ⟨y, hy, hyk⟩ := h1
   have h2 := Z2j h y (by
    rcases List.mem_append.1 hy with hy | hy
    ·simp [hy]
    ·simp [hy])
   omega
inductive Evo (new : Int) : Int → Nat → Nat → List (List Cell) → List (List Cell) → Prop
 | same {T : List (List Cell)} : Evo new 0 0 0 T T
 | plant {e : Entry} : Evo new 1 1 0 [] [[(new, Z2H e)]]
 | raise {x y : Cell} {r : List Cell} {t : List (List Cell)} : Evo new 1 0 0 ((x :: y :: r) :: t) ([(new, Z2D ((t.length : Int) + 1) x.2.high (ptr x.1) (ptr y.1))] :: (x :: y :: r) :: t)
 | leaf {pre : List (List Cell)} {A R : List Cell} {l : Int} {n : Node} {es : List Entry} : n.dead = false → es.length ≤ n.entries.length + 1 → Evo new 0 1 0 (pre ++ [A ++ (l, n) :: R]) (pre ++ [A ++ (l, { n with entries := es }) :: R])
 | leafSplit {pre : List (List Cell)} {A R : List Cell} {l : Int} {n : Node} {e1 e2 : List Entry} : n.dead = false → n.entries.length = 5 → e1.length = 3 → e2.length = 3 → Z03 e1 < n.high →
     Evo new 1 1 0 (pre ++ [A ++ (l, n) :: R]) (pre ++ [A ++ (l, Z0o n new e1 (Z03 e1)) :: (new, Z0p n e2) :: R])
 | post {pre post : List (List Cell)} {A R lo : List Cell} {l : Int} {n : Node} {a b : List Entry} {e : Entry} {x y : Cell} : n.entries = a ++ e :: b → e.to = ptr x.1 → x ∈ lo → x.2.right = ptr y.1 → y ∈ lo → y.2.dead = false → x.2.high < e.key →
     Evo new 0 0 0 (pre ++ (A ++ (l, n) :: R) :: lo :: post) (pre ++ (A ++ (l, { n with entries := a ++ ⟨x.2.high, e.to⟩ :: ⟨e.key, ptr y.1⟩ :: b }) :: R) :: lo :: post)
 | postSplit {pre post : List (List Cell)} {A R lo : List Cell} {l : Int} {n : Node} {a b e1 e2 : List Entry} {e : Entry} {x y : Cell} : n.entries = a ++ e :: b → e.to = ptr x.1 → x ∈ lo → x.2.right = ptr y.1 → y ∈ lo → y.2.dead = false → x.2.high < e.key →
     a ++ ⟨x.2.high, e.to⟩ :: ⟨e.key, ptr y.1⟩ :: b = e1 ++ e2 → n.entries.length = 5 → e1.length = 3 → e2.length = 3 → Z03 e1 < n.high →
     Evo new 1 0 0 (pre ++ (A ++ (l, n) :: R) :: lo :: post) (pre ++ (A ++ (l, Z0o n new e1 (Z03 e1)) :: (new, Z0p n e2) :: R) :: lo :: post)
 | kill {pre : List (List Cell)} {U V A R : List Cell} {lp l : Int} {p n : Node} {es1 es2 : List Entry} {e f : Entry} : n.dead = false → n.entries = [] → p.entries = es1 ++ e :: f :: es2 → e.to = ptr l → e.key = n.high →
     Evo new 0 0 1 (pre ++ [U ++ ((lp, p) :: V), A ++ ((l, n) :: R)]) (pre ++ [U ++ ((lp, { p with entries := es1 ++ f :: es2 }) :: V), A ++ ((l, { n with dead := true }) :: R)])
 | unlink {pre : List (List Cell)} {A R : List Cell} {l k : Int} {n m : Node} : n.dead = false → m.dead = true → Evo new 0 0 0 (pre ++ [A ++ ((l, n) :: (k, m) :: R)]) (pre ++ [A ++ ((l, { n with right := m.right }) :: R)])
def Kept (ps ps' : List Page) (T T' : List (List Cell)) : Prop := ∀ l, 97 ≤ l → (∀ n, (l, n) ∈ flat T' → (l, n) ∈ flat T) → latest ps' l = latest ps l
theorem Kept.refl (ps : List Page) (T T' : List (List Cell)) : Kept ps ps T T' := fun _ _ _ => rfl
structure Commits (ps ws : List Page) : Prop where
 fit : ∀ p ∈ ws, 96 ≤ p.line ∧ p.line < 256 ∧ p.Ok ∧ p.head = (pg ps p.line).head
 two : ws = [] ∨ (∃ p, ws = [p]) ∨ ∃ p q, ws = [p, q] ∧ p.line < q.line
theorem Commits.nil (ps : List Page) : Commits ps [] := ⟨(fun p hp => by cases hp), .inl rfl⟩
theorem Commits.one {ps : List Page} {p : Page} (h : 96 ≤ p.line ∧ p.line < 256 ∧ p.Ok ∧ p.head = (pg ps p.line).head) : Commits ps [p] := ⟨fun q hq => by simp at hq; subst hq; exact h, .inr (.inl ⟨p, rfl⟩)⟩
theorem Commits.pair {ps : List Page} {p q : Page} (h : 96 ≤ p.line ∧ p.line < 256 ∧ p.Ok ∧ p.head = (pg ps p.line).head) (h2 : 96 ≤ q.line ∧ q.line < 256 ∧ q.Ok ∧ q.head = (pg ps q.line).head) (hl : p.line < q.line) : Commits ps [p, q] :=
 ⟨fun x hx => by simp at hx; rcases hx with rfl | rfl; exact h; exact h2, .inr (.inr ⟨p, q, rfl, hl⟩)⟩
def S0 (ps : List Page) (T : List (List Cell)) : St := { ({} : St) with rootPage := pg ps 96, root := Z1i T }
theorem Inv.rootHere {ps : List Page} {nx : Int} {es : List Entry} {T : List (List Cell)} (h : Inv ps nx es T) : latest ps 96 = some (pg ps 96) ∧ locked (pg ps 96) = false ∧ (pg ps 96).line = 96 ∧ (pg ps 96).Ok ∧ (pg ps 96).head % 256 = 0 := by
 obtain ⟨h1, h2, h3, _⟩ := h.ix.at (l := 96) (by omega) (by omega)
 exact ⟨h1, h.ix.unlocked h3, h2, h.ix.ok _ h3, h.ix.free _ h3⟩
theorem Inv.step {ps : List Page} {nx : Int} {es : List Entry} {T : List (List Cell)} (h : Inv ps nx es T) {op : Op} (hv : op.isValid = true) : next op ps = ((S0 ps T).go op ps).close := by
 obtain ⟨h1, h2, _⟩ := h.rootHere
 unfold next
 rw [if_neg (by rw [hv]; simp)]
 have e : ({} : St).Z1p op ps = (S0 ps T, true) := by
  unfold St.Z1p
  rw [h1]
  simp only
  rw [if_neg (by rw [h2]; simp), h.root]
  rfl
 rw [e]
theorem Z1q {s : St} (hn : s.need = []) (c : Int) (l : List Int) : (s.fail c l).close = ⟨[], Z1T s.writes, if s.ended then (s.fail c l).out else { (s.fail c l).out with hops := 0, height := 0, dead := false, unposted := false }, true⟩ := by
 unfold St.close
 rw [if_neg (by show ¬ s.need ≠ []; rw [hn]; simp)]
 rfl
theorem Inv.leaf {ps : List Page} {nx : Int} {es : List Entry} {T : List (List Cell)} (h : Inv ps nx es T) (hT : T ≠ []) {k : Int} (hk : 1 ≤ k) (hk2 : k ≤ Z08) :
 ∃ pre A l n R hs, T = pre ++ [A ++ (l, n) :: R] ∧ Z05 0 A < k ∧ 0 ≤ Z05 0 A ∧ n.dead = false ∧ k ≤ n.high ∧ n.level = 0 ∧ Sees ps l n ∧ 105 ≤ l ∧ l < nx ∧
  (∀ s : St, s.root = Z1i T → s.descend ps 0 k = (after hs (T.length : Int) s, .at_ (pg ps l) n)) ∧ (Z4E T → (∀ c r t, T = (c :: r) :: t → r = []) → ∀ x ∈ hs, x.dead = true) ∧
  es = ents A ++ (n.entries ++ ents R) ∧ (∀ x ∈ ents A, x.key < k) ∧ (∀ x ∈ ents R, k < x.key) ∧ Z09 (Z05 0 A) n.entries = true ∧
  ∃ c r t L, T = (c :: r) :: t ∧ Walks 0 k c hs L (l, n) ∧ List.Sublist (c :: L) (flat T) := by
 have hlen : 0 < T.length := List.length_pos_iff.2 hT
 obtain ⟨pre, A, l, n, R, post, hs, i1, i2, i3, i4, i5, i6, i7, i8, i9⟩ := h.descend (lev := 0) hlen hk hk2
 obtain rfl : post = [] := List.length_eq_zero_iff.1 i2
 have hlv : Level ((([] : List (List Cell)).length : Nat) : Int) (A ++ (l, n) :: R) := Tree.level (pre := pre) (i1 ▸ h.tree)
 have hr := Rise.append.1 hlv.rise
 have hr2 := hr.2
 simp only [Rise] at hr2
 rw [if_neg (by rw [i4]; simp)] at hr2
 have hv := Node.valid_parts (hlv.valid (l, n) (by simp))
 have hA : ∀ x ∈ ents A, x.key < k := fun x hx => by
  obtain ⟨c, hc, hxc⟩ := List.mem_flatMap.1 hx
  have hvc := Node.valid_parts (hlv.valid c (by simp [hc]))
  have h1 := Z2j hvc.2.2.2.1 x hxc
  have h2 := hvc.2.2.2.2.2.2.2.1
  have h3 : c.2.dead = false := by
   cases hd : c.2.dead with
   | false => rfl
   | true => have := (hvc.2.2.2.2.2.2.2.2.1 hd).2.1; rw [this] at hxc; cases hxc
  have h4 := hr.1.low.2 c hc h3
  omega
 have hR : ∀ x ∈ ents R, k < x.key := fun x hx => by
  have : ∀ (p : Int) (R : List Cell), Rise p R → (∀ c ∈ R, c.2.valid = true) → ∀ x ∈ ents R, p < x.key := by
   intro p R
   induction R generalizing p with
   | nil => intro _ _ x hx; cases hx
   | cons c R ih =>
     intro hr hv x hx
     have hvc := Node.valid_parts (hv c (by simp))
     simp only [Rise] at hr
     rw [Z0N, List.mem_append] at hx
     split at hr
     ·rename_i hd
      rcases hx with hx | hx
      ·have := (hvc.2.2.2.2.2.2.2.2.1 hd).2.1; rw [this] at hx; cases hx
      ·exact ih p hr (fun y hy => hv y (by simp [hy])) x hx
     ·rcases hx with hx | hx
      ·exact hr.2.1 x hx
      ·have := ih _ hr.2.2 (fun y hy => hv y (by simp [hy])) x hx
       have := hr.1
       omega
  have := this n.high R hr2.2.2 (fun c hc => hlv.valid c (by simp [hc])) x hx
  omega
 have hrg := h.range (l, n) i6
 refine ⟨pre, A, l, n, R, hs, i1, i3, hr.1.low.1, i4, i5, hlv.level (l, n) (by simp), h.sees (l, n) i6, hrg.1, hrg.2, fun s hs' => i7 s hs', i8, ?_, hA, hR, Z3j hv.2.2.2.1 hr2.2.1, i9⟩
 rw [← h.holds, i1, Z2f, Z0I, Z0N]
theorem Inv.find {ps : List Page} {nx : Int} {es : List Entry} {T : List (List Cell)} (h : Inv ps nx es T) {op : Op} (hkd : op.kind = 1) (hk : 1 ≤ op.key) (hk2 : op.key ≤ Z0e) :
 ∃ o, next op ps = ⟨[], [], o, true⟩ ∧ o.code = 0 ∧ o.found = Z0T es op.key ∧ o.to = (if Z0T es op.key then (es.getD (child es op.key) default).to else nilP) ∧ o.check.length = 1 ∧ o.entries = [] ∧ (Z4E T → (∀ c r t, T = (c :: r) :: t → r = []) → o.unposted = false) ∧
  (T = [] → o.check = [96]) ∧ (T ≠ [] → ∃ pre A l n R, T = pre ++ [A ++ (l, n) :: R] ∧ Z05 0 A < op.key ∧ op.key ≤ n.high ∧ n.dead = false ∧ o.check = [l]) := by
 have hv : op.isValid = true := by unfold Op.isValid; simp [hkd, isKey, hk, hk2]
 obtain ⟨h1, h2, h3, h4, h5⟩ := h.rootHere
 have hgo : (S0 ps T).go op ps = (S0 ps T).find op ps := by unfold St.go; rw [if_pos hkd]
 rw [h.step hv, hgo]
 by_cases hT : T = []
 ·subst hT
  have hes : es = [] := by rw [← h.holds]; rfl
  have e1 : (S0 ps []).find op ps = (S0 ps []).fail 0 [96] := by
   unfold St.find St.noTree
   rw [if_pos (show (S0 ps []).root = nilP from rfl), if_neg (by show ¬ locked (pg ps 96) = true; rw [h2]; simp)]
  rw [e1, Z1q rfl]
  refine ⟨_, rfl, rfl, ?_, ?_, rfl, rfl, fun _ _ => rfl, fun _ => rfl, fun hT => absurd rfl hT⟩
  ·rw [hes]; rfl
  ·rw [hes]; rfl
 ·obtain ⟨pre, A, l, n, R, hs, i1, i3, i3b, i4, i5, i5b, i6, i6b, i6c, i7, i8, i9, i10, i11, i12, i13⟩ := h.leaf hT hk (by unfold Z0e at hk2; unfold Z08; omega)
  obtain ⟨q1, q2, q3, q4, q5⟩ := Z37 (m := n.entries) i10 i11
  rw [← i9] at q1 q2 q3
  have hroot : ¬ (S0 ps T).root = nilP := fun e => hT (h.rootNil.1 e)
  have hline : (pg ps l).line = l := i6.line
  have hend : ∀ (o : Out), (Z4E T → (∀ c r t, T = (c :: r) :: t → r = []) → hs.any (fun n => !n.dead) = false) := fun _ hp h1 => by
   rw [List.any_eq_false]
   intro x hx
   simp [i8 hp h1 x hx]
  by_cases hhk : Z0T n.entries op.key = true
  ·have e1 : (S0 ps T).find op ps = ({ after hs (T.length : Int) (S0 ps T) with out := { (after hs (T.length : Int) (S0 ps T)).out with found := true, to := (n.entries.getD (child n.entries op.key) default).to } } : St).fail 0 [l] := by
     unfold St.find
     rw [if_neg hroot, i7 _ rfl]
     simp only
     rw [if_pos hhk, hline]
   rw [e1, Z1q rfl]
   refine ⟨_, rfl, rfl, ?_, ?_, rfl, rfl, fun hp h1 => ?_, fun hT' => absurd hT' hT, fun _ => ⟨pre, A, l, n, R, i1, i3, i5, i4, rfl⟩⟩
   ·show true = _
    rw [q2, hhk]
   ·rw [q2, if_pos hhk, q3 _ hhk]; rfl
   ·exact (Bool.false_or _).trans (hend {} hp h1)
  ·have hhk' : Z0T n.entries op.key = false := by simpa using hhk
   have e1 : (S0 ps T).find op ps = (after hs (T.length : Int) (S0 ps T)).fail 0 [l] := by
    unfold St.find
    rw [if_neg hroot, i7 _ rfl]
    simp only
    rw [if_neg (by rw [hhk']; simp), hline]
   rw [e1, Z1q rfl]
   refine ⟨_, rfl, rfl, ?_, ?_, rfl, rfl, fun hp h1 => ?_, fun hT' => absurd hT' hT, fun _ => ⟨pre, A, l, n, R, i1, i3, i5, i4, rfl⟩⟩
   ·show false = _
    rw [q2, hhk']
   ·rw [q2, hhk']; rfl
   ·exact (Bool.false_or _).trans (hend {} hp h1)
theorem Z3P (pre post : List (List Cell)) (A M R : List Cell) : flat (pre ++ (A ++ (M ++ R)) :: post) = (flat pre ++ A) ++ (M ++ (R ++ flat post)) := by simp [Z0P, Z16]
theorem Z41 {X Y : List Cell} {l : Int} {n : Node} (h : ((X ++ ([(l, n)] ++ Y)).map (·.1)).Nodup) : (∀ c ∈ X, c.1 ≠ l) ∧ ∀ c ∈ Y, c.1 ≠ l := by
 simp only [List.map_append, List.map_cons, List.map_nil] at h
 obtain ⟨_, h2, h3⟩ := List.nodup_append.1 h
 refine ⟨fun c hc e => h3 c.1 (List.mem_map_of_mem hc) l (by simp) e, fun c hc e => ?_⟩
 have h4 := (List.nodup_cons.1 h2).1
 apply h4
 rw [← e]
 exact List.mem_map_of_mem hc
theorem Z4i (pre post : List (List Cell)) {A R : List Cell} {l : Int} {n n' : Node} {ms : List Cell} {M : List Cell} : Z1i (pre ++ (A ++ ((l, n') :: ms ++ R)) :: post) = Z1i (pre ++ (A ++ ((l, n) :: M ++ R)) :: post) := by
 cases pre with
 | nil => cases A <;> rfl
 | cons c pre => cases c <;> rfl
theorem Z6U (pre : List (List Cell)) (A M R : List Cell) : Z2A (pre ++ [A ++ (M ++ R)]) = ents A ++ (ents M ++ ents R) := by
 rw [Z2f, Z0I, Z0I]
theorem Inv.write {ps : List Page} {nx : Int} {es es' : List Entry} {T T' : List (List Cell)} (h : Inv ps nx es T) {l : Int} {n n' : Node} (hs : Sees ps l n) (hl : 105 ≤ l ∧ l < nx) (hg : Good n') (ht : Tree T') (hf : ∀ c ∈ flat T', c = (l, n') ∨ (c ∈ flat T ∧ c.1 ≠ l))
 (hr : Z1i T' = Z1i T) (hlen : T'.length = T.length) (he : Z2A T' = es') (hm : (l, n') ∈ flat T' ∧ ((l, n') ∈ flat T → n' = n)) :
 Inv (Z0J ps [n'.fill (pg ps l)]) nx es' T' ∧ Commits ps [n'.fill (pg ps l)] := by
 have hb := hs.blank h.ix
 obtain ⟨h1, h2, h3⟩ := hb.put h.ix hg
 have hbd := h.bound
 have hpg : ∀ l', 96 ≤ l' → l' ≠ l → pg (Z0J ps [n'.fill (pg ps l)]) l' = pg ps l' := fun l' a b => Z54 (h3 l' a b)
 refine ⟨⟨h1, ht, fun c hc => ?_, fun c hc => ?_, h.bound, fun l' a b => ?_, ?_, he⟩, Commits.one ⟨by show 96 ≤ (pg ps l).line; rw [hs.line]; omega, by show (pg ps l).line < 256; rw [hs.line]; omega, hg.fill_ok hb.ok, by show (pg ps l).head = (pg ps (pg ps l).line).head; rw [hs.line]⟩⟩
 ·rcases hf c hc with rfl | ⟨hc, hne⟩
  ·exact h2
  ·have := h.range c hc
   exact (h.sees c hc).congr (h3 c.1 (by omega) hne)
 ·rcases hf c hc with rfl | ⟨hc, hne⟩
  ·exact hl
  ·exact h.range c hc
 ·rw [hpg l' (by omega) (by omega)]; exact h.fresh l' a b
 ·rw [hpg 96 (by omega) (by omega), hr, hlen]; exact h.root
theorem Kept.write {ps : List Page} {nx : Int} {es : List Entry} {T T' : List (List Cell)} (h : Inv ps nx es T) {l : Int} {n n' : Node} (hs : Sees ps l n) (hg : Good n') (hmem : (l, n') ∈ flat T') (hnot : (l, n') ∉ flat T) :
 Kept ps (Z0J ps [n'.fill (pg ps l)]) T T' := by
 intro l' hl' hk
 obtain ⟨h1, h2, h3⟩ := (hs.blank h.ix).put h.ix hg
 refine h3 l' (by omega) (fun e => ?_)
 subst e
 exact hnot (hk n' hmem)
theorem Inv.write2 {ps : List Page} {nx : Int} {es es' : List Entry} {T T' : List (List Cell)} (h : Inv ps nx es T) (hnx : nx < 256) {l : Int} {n n1 n2 : Node} (hs : Sees ps l n) (hl : 105 ≤ l ∧ l < nx) (hg1 : Good n1) (hg2 : Good n2) (ht : Tree T')
 (hf : ∀ c ∈ flat T', c = (l, n1) ∨ c = (nx, n2) ∨ (c ∈ flat T ∧ c.1 ≠ l)) (hr : Z1i T' = Z1i T) (hlen : T'.length = T.length) (he : Z2A T' = es') :
 Inv (Z0J ps [n1.fill (pg ps l), n2.fill (Z1g (pg ps nx))]) (nx + 1) es' T' ∧ Commits ps [n1.fill (pg ps l), n2.fill (Z1g (pg ps nx))] := by
 obtain ⟨ha, hb2⟩ := h.alloc hnx
 have hb := hs.blank h.ix
 obtain ⟨h1, h2, h3⟩ := hb.put h.ix hg1
 obtain ⟨k1, k2, k3⟩ := hb2.put h1 hg2
 have hbd := h.bound
 have hpl : (pg ps nx).line = nx := hb2.line
 have hpg : ∀ l', 96 ≤ l' → l' ≠ l → l' ≠ nx → pg (Z0J ps [n1.fill (pg ps l), n2.fill (Z1g (pg ps nx))]) l' = pg ps l' := fun l' a b c => Z54 ((k3 l' a c).trans (h3 l' a b))
 refine ⟨⟨k1, ht, fun c hc => ?_, fun c hc => ?_, by omega, fun l' a b => ?_, ?_, he⟩, Commits.pair ⟨by show 96 ≤ (pg ps l).line; rw [hs.line]; omega, by show (pg ps l).line < 256; rw [hs.line]; omega, hg1.fill_ok hb.ok, by show (pg ps l).head = (pg ps (pg ps l).line).head; rw [hs.line]⟩
  ⟨by show 96 ≤ (pg ps nx).line; omega, by show (pg ps nx).line < 256; omega, hg2.fill_ok hb2.ok, by show (pg ps nx).head = (pg ps (pg ps nx).line).head; rw [hpl]⟩ (by show (pg ps l).line < (pg ps nx).line; rw [hs.line, hpl]; omega)⟩
 ·rcases hf c hc with rfl | rfl | ⟨hc, hne⟩
  ·exact h2.congr (k3 l (by omega) (by omega))
  ·exact k2
  ·have := h.range c hc
   exact ((h.sees c hc).congr (h3 c.1 (by omega) hne)).congr (k3 c.1 (by omega) (by omega))
 ·rcases hf c hc with rfl | rfl | ⟨hc, hne⟩
  ·show 105 ≤ l ∧ l < nx + 1; omega
  ·show 105 ≤ nx ∧ nx < nx + 1; omega
  ·have := h.range c hc; omega
 ·rw [hpg l' (by omega) (by omega) (by omega)]; exact h.fresh l' (by omega) b
 ·rw [hpg 96 (by omega) (by omega) (by omega), hr, hlen]; exact h.root
theorem Kept.write2 {ps : List Page} {nx : Int} {es : List Entry} {T T' : List (List Cell)} (h : Inv ps nx es T) (hnx : nx < 256) {l : Int} {n n1 n2 : Node} (hs : Sees ps l n) (hg1 : Good n1) (hg2 : Good n2) (hm1 : (l, n1) ∈ flat T') (hn1 : (l, n1) ∉ flat T) (hm2 : (nx, n2) ∈ flat T') :
 Kept ps (Z0J ps [n1.fill (pg ps l), n2.fill (Z1g (pg ps nx))]) T T' := by
 intro l' hl' hk
 obtain ⟨ha, hb2⟩ := h.alloc hnx
 obtain ⟨h1, h2, h3⟩ := (hs.blank h.ix).put h.ix hg1
 obtain ⟨k1, k2, k3⟩ := hb2.put h1 hg2
 refine (k3 l' (by omega) (fun e => ?_)).trans (h3 l' (by omega) (fun e => ?_))
 ·subst e
  have := h.range _ (hk n2 hm2)
  simp at this
 ·subst e
  exact hn1 (hk n1 hm1)
theorem Inv.Z0Y {ps : List Page} {nx : Int} {es es' : List Entry} {T T' : List (List Cell)} (h : Inv ps nx es T) (hnx : nx < 256) {n : Node} (hg : Good n) (ht : Tree T') (hf : ∀ c ∈ flat T', c = (nx, n) ∨ c ∈ flat T)
 (hr : Z1i T' = ptr nx) (hlev : T'.length - 1 ≤ 8) (he : Z2A T' = es') :
 Inv (Z0J ps [Bt.Z0Y (pg ps 96) (ptr nx) ((T'.length - 1 : Nat) : Int), n.fill (Z1g (pg ps nx))]) (nx + 1) es' T' ∧ Commits ps [Bt.Z0Y (pg ps 96) (ptr nx) ((T'.length - 1 : Nat) : Int), n.fill (Z1g (pg ps nx))] := by
 obtain ⟨ha, hb2⟩ := h.alloc hnx
 obtain ⟨r1, r2, r3, r4, r5⟩ := h.rootHere
 have hbd := h.bound
 have hpl : (pg ps nx).line = nx := hb2.line
 have hvp : Z0w (ptr nx) = true := Z5m (by omega) hnx
 have hpk := Z5p (ptr nx)
 obtain ⟨R, hR⟩ : ∃ R, R = Bt.Z0Y (pg ps 96) (ptr nx) ((T'.length - 1 : Nat) : Int) := ⟨_, rfl⟩
 have hRl : R.line = 96 := by rw [hR]; exact r3
 have hRo : R.Ok := by
  rw [hR]
  exact ⟨r4.head, by show 0 ≤ pack (ptr nx) + ((T'.length - 1 : Nat) : Int) * 4294967296 ∧ pack (ptr nx) + ((T'.length - 1 : Nat) : Int) * 4294967296 < 18446744073709551616; omega, r4.d1, r4.d2, r4.d3, r4.d4, r4.d5, r4.d6⟩
 have hRf : R.head % 256 = 0 := by rw [hR]; exact r5
 have hix := h.ix.put (p := R) (by omega) (by omega) hRo hRf
 have hlat := fun l' hl' => h.ix.latest_put (p := R) (by omega) (by omega) hRo hRf l' hl'
 obtain ⟨k1, k2, k3⟩ := hb2.put hix hg
 have hlast : ∀ l', 96 ≤ l' → l' ≠ 96 → l' ≠ nx → latest (Z0J ps [R, n.fill (Z1g (pg ps nx))]) l' = latest ps l' := fun l' a b c => by
  refine (k3 l' a c).trans ?_
  rw [hlat l' a, if_neg (by rw [hRl]; exact b)]
 have hpg96 : pg (Z0J ps [R, n.fill (Z1g (pg ps nx))]) 96 = raised R := by
  have e : latest (Z0J ps [R, n.fill (Z1g (pg ps nx))]) 96 = some (raised R) := by
   refine (k3 96 (by omega) (by omega)).trans ?_
   rw [hlat 96 (by omega), if_pos hRl.symm]
  show (latest (Z0J ps [R, n.fill (Z1g (pg ps nx))]) 96).getD Z0l = raised R
  rw [e]; rfl
 rw [← hR]
 refine ⟨⟨k1, ht, fun c hc => ?_, fun c hc => ?_, by omega, fun l' a b => ?_, ?_, he⟩, Commits.pair ⟨by omega, by omega, hRo, by rw [hRl, hR]; rfl⟩
  ⟨by show 96 ≤ (pg ps nx).line; omega, by show (pg ps nx).line < 256; omega, hg.fill_ok hb2.ok, by show (pg ps nx).head = (pg ps (pg ps nx).line).head; rw [hpl]⟩ (by show R.line < (pg ps nx).line; omega)⟩
 ·rcases hf c hc with rfl | hc
  ·exact k2
  ·have := h.range c hc
   exact (h.sees c hc).congr (hlast c.1 (by omega) (by omega) (by omega))
 ·rcases hf c hc with rfl | hc
  ·show 105 ≤ nx ∧ nx < nx + 1; omega
  ·have := h.range c hc; omega
 ·rw [Z54 (hlast l' (by omega) (by omega) (by omega))]; exact h.fresh l' (by omega) b
 ·rw [hpg96, hr]
  have e : (raised R).d0 = pack (ptr nx) + ((T'.length - 1 : Nat) : Int) * 4294967296 := by rw [hR]; rfl
  unfold Z1p
  rw [e]
  have e1 : (pack (ptr nx) + ((T'.length - 1 : Nat) : Int) * 4294967296) % 4294967296 = pack (ptr nx) := by omega
  have e2 : (pack (ptr nx) + ((T'.length - 1 : Nat) : Int) * 4294967296) / 4294967296 = ((T'.length - 1 : Nat) : Int) := by omega
  rw [e1, e2, unpack_pack (.inr hvp), if_pos]
  unfold Z1X
  rw [if_neg (fun e => by have := Z2T; rw [← e, hvp] at this; cases this), hvp]
  simp; omega
theorem Kept.Z0Y {ps : List Page} {nx : Int} {es : List Entry} {T T' : List (List Cell)} (h : Inv ps nx es T) (hnx : nx < 256) {n : Node} (hg : Good n) (hm : (nx, n) ∈ flat T') (lev : Int) (hlev : 0 ≤ lev ∧ lev ≤ 8) :
 Kept ps (Z0J ps [Bt.Z0Y (pg ps 96) (ptr nx) lev, n.fill (Z1g (pg ps nx))]) T T' := by
 intro l' hl' hk
 obtain ⟨ha, hb2⟩ := h.alloc hnx
 obtain ⟨r1, r2, r3, r4, r5⟩ := h.rootHere
 have hpk := Z5p (ptr nx)
 obtain ⟨R, hR⟩ : ∃ R, R = Bt.Z0Y (pg ps 96) (ptr nx) lev := ⟨_, rfl⟩
 have hRl : R.line = 96 := by rw [hR]; exact r3
 have hRo : R.Ok := by
  rw [hR]
  exact ⟨r4.head, by show 0 ≤ pack (ptr nx) + lev * 4294967296 ∧ pack (ptr nx) + lev * 4294967296 < 18446744073709551616; omega, r4.d1, r4.d2, r4.d3, r4.d4, r4.d5, r4.d6⟩
 have hRf : R.head % 256 = 0 := by rw [hR]; exact r5
 have hix := h.ix.put (p := R) (by omega) (by omega) hRo hRf
 have hlat := fun l' hl' => h.ix.latest_put (p := R) (by omega) (by omega) hRo hRf l' hl'
 obtain ⟨k1, k2, k3⟩ := hb2.put hix hg
 rw [← hR]
 refine (k3 l' (by omega) (fun e => ?_)).trans ?_
 ·subst e
  have := h.range _ (hk n hm)
  simp at this
 ·rw [hlat l' (by omega), if_neg (by omega)]
def Z6I (op : Op) (ps : List Page) (nx : Int) (ws : List Page) (o : Out) (nx' : Int) : Prop :=
 (next op ps = ⟨[], ws, o, true⟩ ∧ nx' = nx) ∨ ∃ o1, next op ps = ⟨[], [], o1, true⟩ ∧ o1.code = 18 ∧ o1.fresh = 1 ∧ nx < 256 ∧ next { op with fresh := [pg ps nx] } ps = ⟨[], ws, o, true⟩ ∧ nx' = nx + 1
theorem Z5s (s : St) {op : Op} (taken : List Int) (h : op.fresh = []) : s.fresh op taken = (({ s with out := { s.out with fresh := 1 } } : St).fail 18 [], none) := by unfold St.fresh; rw [h]
theorem Inv.fresh_some {ps : List Page} {nx : Int} {es : List Entry} {T : List (List Cell)} (h : Inv ps nx es T) (hnx : nx < 256) (s : St) (op : Op) (taken : List Int) (ht : nx ∉ taken) : s.fresh { op with fresh := [pg ps nx] } taken = (s, some (Z1g (pg ps nx))) := by
 obtain ⟨ha, hb⟩ := h.alloc hnx
 unfold St.fresh
 simp only [ha]
 rw [if_neg]
 rintro (h | h)
 ·exact h rfl
 ·rw [hb.line] at h; exact ht h
theorem Z3f {s : St} (hn : s.need = []) (ws : List Page) (check : List Int) : (s.finish ws check).close = ⟨[], Z1T ws, if s.ended then (s.finish ws check).out else { (s.finish ws check).out with hops := 0, height := 0, dead := false, unposted := false }, true⟩ := by
 unfold St.close
 rw [if_neg (by show ¬ s.need ≠ []; rw [hn]; simp)]
 rfl
theorem Z3z {p q : Page} (h : p.line < q.line) : Z1T [p, q] = [p, q] := by simp [Z1T]; omega
theorem Inv.store {ps : List Page} {nx : Int} {es es' : List Entry} {T : List (List Cell)} (h : Inv ps nx es T) (hnx : nx < 256) {pre post : List (List Cell)} {A R : List Cell} {l : Int} {n : Node} {ns : List Entry} (hT : T = pre ++ (A ++ (l, n) :: R) :: post)
 (hd : n.dead = false) (hf : Fits n (Z05 0 A) ns) (h0 : 0 ≤ Z05 0 A) (hlen : ns.length ≤ n.entries.length + 1) (hne : ns ≠ n.entries) (hlow : ∀ lo t, post = lo :: t → Names lo 0 (ents A ++ (ns ++ ents R)) ∧ ∀ e ∈ n.entries, ∃ e' ∈ ns, e'.key = e.key)
 (hes : (post = [] → es' = ents A ++ (ns ++ ents R)) ∧ (post ≠ [] → es' = es)) (op : Op) (hop : op.fresh = []) (s : St) (hs : s.need = []) (hend : s.ended = true) (check : List Int) (hck : nx ∉ check ++ [l]) :
 ∃ T' ws nx', nx' ≤ nx + 1 ∧ Commits ps ws ∧ Inv (Z0J ps ws) nx' es' T' ∧ Kept ps (Z0J ps ws) T T' ∧
  ((T' = pre ++ (A ++ (l, { n with entries := ns }) :: R) :: post ∧ nx' = nx ∧ ws = [({ n with entries := ns } : Node).fill (pg ps l)] ∧ ns.length ≤ 5) ∨
   (∃ e1 e2, ns = e1 ++ e2 ∧ n.entries.length = 5 ∧ e1.length = 3 ∧ e2.length = 3 ∧ Z03 e1 < n.high ∧ nx' = nx + 1 ∧ ws = [(Z0o n nx e1 (Z03 e1)).fill (pg ps l), (Z0p n e2).fill (Z1g (pg ps nx))] ∧ T' = pre ++ (A ++ (l, Z0o n nx e1 (Z03 e1)) :: (nx, Z0p n e2) :: R) :: post)) ∧
  ((s.store op (pg ps l) n ns check).close = ⟨[], ws, (s.store op (pg ps l) n ns check).out, true⟩ ∧ (s.store op (pg ps l) n ns check).out = (s.finish ws check).out ∧ nx' = nx ∨
   (∃ o1, (s.store op (pg ps l) n ns check).close = ⟨[], [], o1, true⟩ ∧ (s.writes = [] → o1.code = 18 ∧ o1.fresh = 1) ∧ s.writes = [] ∧ nx' = nx + 1 ∧
    (s.store { op with fresh := [pg ps nx] } (pg ps l) n ns check).close = ⟨[], ws, (({ s with out := { s.out with split := true } } : St).finish ws check).out, true⟩) ∨ s.writes ≠ []) := by
 subst hT
 have hm : (l, n) ∈ flat (pre ++ (A ++ (l, n) :: R) :: post) := by simp [flat]
 have hse : Sees ps l n := h.sees (l, n) hm
 have hrg : 105 ≤ l ∧ l < nx := h.range (l, n) hm
 have hgn := hse.good
 have hnr := hgn.range
 have hnd := h.tree.nodup
 rw [show A ++ (l, n) :: R = A ++ ([(l, n)] ++ R) by simp, lines, Z3P] at hnd
 obtain ⟨ho1, ho2⟩ := Z41 hnd
 have hln := hse.line
 have hnot : ∀ m, m ≠ n → (l, m) ∉ flat (pre ++ (A ++ (l, n) :: R) :: post) := fun m hmn hc => by
  rw [show A ++ (l, n) :: R = A ++ ([(l, n)] ++ R) by simp, Z3P] at hc
  simp only [List.mem_append, List.mem_singleton] at hc
  rcases hc with hc | hc | hc
  ·exact ho1 (l, m) (by simpa using hc) rfl
  ·simp at hc; exact hmn hc
  ·exact ho2 (l, m) (by simpa using hc) rfl
 have hfl : ∀ c ∈ flat pre ++ A, c ∈ flat (pre ++ (A ++ (l, n) :: R) :: post) := fun c hc => by
  rw [show A ++ (l, n) :: R = A ++ ([(l, n)] ++ R) by simp, Z3P]; exact List.mem_append_left _ hc
 have hfr : ∀ c ∈ R ++ flat post, c ∈ flat (pre ++ (A ++ (l, n) :: R) :: post) := fun c hc => by
  rw [show A ++ (l, n) :: R = A ++ ([(l, n)] ++ R) by simp, Z3P]; exact List.mem_append_right _ (List.mem_append_right _ hc)
 have hleaf : ∀ M : List Cell, ents M = ns → Z2A (pre ++ (A ++ (M ++ R)) :: post) = es' := fun M hM => by
  cases post with
  | nil => rw [Z6U, hM, hes.1 rfl]
  | cons lo t =>
    rw [hes.2 (by simp), ← h.holds]
    simp [Z2A, List.getLastD_eq_getLast?]
 by_cases h5 : ns.length ≤ 5
 ·have hv := hf.valid hgn.valid hd h0 h5
  have hg : Good { n with entries := ns } := ⟨hv, hgn.high⟩
  have ht := h.tree.entries hd hf h0 h5 hlow
  have hnn : ({ n with entries := ns } : Node) ≠ n := fun e => hne (by have := congrArg Node.entries e; exact this)
  have hm' : (l, ({ n with entries := ns } : Node)) ∈ flat (pre ++ (A ++ (l, { n with entries := ns }) :: R) :: post) := by simp [flat]
  have hw := h.write (es' := es') hse ⟨hrg.1, hrg.2⟩ hg ht (fun c hc => by
   rw [show A ++ (l, ({ n with entries := ns } : Node)) :: R = A ++ ([(l, { n with entries := ns })] ++ R) by simp, Z3P] at hc
   simp only [List.mem_append, List.mem_singleton] at hc
   rcases hc with hc | hc | hc
   ·exact .inr ⟨hfl c (by simpa using hc), ho1 c (by simpa using hc)⟩
   ·exact .inl hc
   ·exact .inr ⟨hfr c (by simpa using hc), ho2 c (by simpa using hc)⟩) (Z4i (ms := []) (M := []) pre post) (by simp) (hleaf [(l, { n with entries := ns })] (by simp [ents])) ⟨hm', fun hc => absurd hc (hnot _ hnn)⟩
  refine ⟨_, _, nx, by omega, hw.2, hw.1, Kept.write h hse hg hm' (hnot _ hnn), .inl ⟨rfl, rfl, rfl, h5⟩, .inl ⟨?_, ?_, rfl⟩⟩
  ·have e : s.store op (pg ps l) n ns check = s.finish [({ n with entries := ns } : Node).fill (pg ps l)] check := by unfold St.store; rw [if_pos h5]
   rw [e, Z3f hs, if_pos hend]; rfl
  ·have e : s.store op (pg ps l) n ns check = s.finish [({ n with entries := ns } : Node).fill (pg ps l)] check := by unfold St.store; rw [if_pos h5]
   rw [e]
 ·have hnl := (Node.valid_parts hgn.valid).2.2.1
  have h6 : ns.length = 6 := by omega
  have h5n : n.entries.length = 5 := by omega
  obtain ⟨e1, he1⟩ : ∃ e1, e1 = ns.take 3 := ⟨_, rfl⟩
  obtain ⟨e2, he2⟩ : ∃ e2, e2 = ns.drop 3 := ⟨_, rfl⟩
  have hns : ns = e1 ++ e2 := by rw [he1, he2, List.take_append_drop]
  have hl1 : e1.length = 3 := by rw [he1, List.length_take]; omega
  have hl2 : e2.length = 3 := by rw [he2, List.length_drop]; omega
  have hn1 : e1 ≠ [] := fun e => by rw [e] at hl1; simp at hl1
  have hn2 : e2 ≠ [] := fun e => by rw [e] at hl2; simp at hl2
  have hnew : Z0w (ptr nx) = true := Z5m (by have := h.bound; omega) hnx
  have hfresh : nx ∉ lines (pre ++ (A ++ (l, n) :: R) :: post) := fun hc => by
   obtain ⟨c, hc, e⟩ := List.mem_map.1 hc
   have := h.range c hc
   omega
  have ht := h.tree.split (new := nx) (e1 := e1) (e2 := e2) hd (hns ▸ hf) h0 hn1 hn2 (by omega) (by omega) hnew hfresh hgn.high (by rw [← hns]; exact hlow)
  have hlv := h.tree.level
  have hr12 := Z0C.1 (hns ▸ hf.rise)
  have hk1 : Z1l (Z05 0 A) e1 = Z03 e1 := Z3q _ _ hn1
  have hlt : Z03 e1 < n.high := by
   have h1 := Z4K hr12.2 hn2
   rw [hk1] at h1
   have h2 := hf.le
   rw [hns, Z1n e1 hn2] at h2
   omega
  have hlv' := ht.level
  have hg1 : Good (Z0o n nx e1 (Z03 e1)) := ⟨hlv'.valid (l, Z0o n nx e1 (Z03 e1)) (by simp), by show Z03 e1 ≤ Z08; have h9 : n.high ≤ Z08 := hgn.high; omega⟩
  have hg2 : Good (Z0p n e2) := ⟨hlv'.valid (nx, Z0p n e2) (by simp), hgn.high⟩
  have hhn : Z0o n nx e1 (Z03 e1) ≠ n := fun e => by
   have := congrArg Node.high e
   have : Z03 e1 = n.high := this
   omega
  have hm1 : (l, Z0o n nx e1 (Z03 e1)) ∈ flat (pre ++ (A ++ (l, Z0o n nx e1 (Z03 e1)) :: (nx, Z0p n e2) :: R) :: post) := by simp [flat]
  have hm2 : (nx, Z0p n e2) ∈ flat (pre ++ (A ++ (l, Z0o n nx e1 (Z03 e1)) :: (nx, Z0p n e2) :: R) :: post) := by simp [flat]
  have hw := h.write2 (es' := es') hnx hse ⟨hrg.1, hrg.2⟩ hg1 hg2 ht (fun c hc => by
   rw [show A ++ (l, Z0o n nx e1 (Z03 e1)) :: (nx, Z0p n e2) :: R = A ++ ([(l, Z0o n nx e1 (Z03 e1)), (nx, Z0p n e2)] ++ R) by simp, Z3P] at hc
   simp only [List.mem_append, List.mem_cons, List.not_mem_nil, or_false] at hc
   rcases hc with hc | (hc | hc) | hc
   ·exact .inr (.inr ⟨hfl c (by simpa using hc), ho1 c (by simpa using hc)⟩)
   ·exact .inl hc
   ·exact .inr (.inl hc)
   ·exact .inr (.inr ⟨hfr c (by simpa using hc), ho2 c (by simpa using hc)⟩)) (Z4i (ms := [(nx, Z0p n e2)]) (M := []) pre post) (by simp) (hleaf [(l, Z0o n nx e1 (Z03 e1)), (nx, Z0p n e2)] (by simp [ents, Z0o, Z0p, hns]))
  refine ⟨_, _, nx + 1, by omega, hw.2, hw.1, Kept.write2 h hnx hse hg1 hg2 hm1 (hnot _ hhn) hm2, .inr ⟨e1, e2, hns, h5n, hl1, hl2, hlt, rfl, rfl, rfl⟩, .inr ?_⟩
  by_cases hsw : s.writes = []
  ·left
   have e : s.store op (pg ps l) n ns check = ({ s with out := { s.out with fresh := 1 } } : St).fail 18 [] := by
    unfold St.store; rw [if_neg h5, Z5s _ _ hop]
   have ec := Z1q (s := ({ s with out := { s.out with fresh := 1 } } : St)) hs 18 []
   rw [if_pos (show ({ s with out := { s.out with fresh := 1 } } : St).ended = true from hend), show Z1T ({ s with out := { s.out with fresh := 1 } } : St).writes = [] by show Z1T s.writes = []; rw [hsw]; rfl] at ec
   refine ⟨_, by rw [e]; exact ec, fun _ => ⟨rfl, rfl⟩, hsw, rfl, ?_⟩
   have hk3 : (ns.getD 2 default).key = Z03 e1 := by
    rw [he1]
    match ns, h6 with
    | [a, b, c, d, e, f], _ => rfl
   have e' : s.store { op with fresh := [pg ps nx] } (pg ps l) n ns check = ({ s with out := { s.out with split := true } } : St).finish [(Z0o n nx e1 (Z03 e1)).fill (pg ps l), (Z0p n e2).fill (Z1g (pg ps nx))] check := by
    unfold St.store
    rw [if_neg h5, h.fresh_some hnx _ _ _ (by rw [hln]; exact hck)]
    simp only
    rw [hk3, ← he1, ← he2]
    have hat : at_ (Z1g (pg ps nx)) = ptr nx := by
     obtain ⟨ha, hb⟩ := h.alloc hnx
     simp [at_, ptr, hb.gen, hb.line]
    rw [hat]
    rfl
   have ed := Z3f (s := ({ s with out := { s.out with split := true } } : St)) hs [(Z0o n nx e1 (Z03 e1)).fill (pg ps l), (Z0p n e2).fill (Z1g (pg ps nx))] check
   obtain ⟨ha, hb⟩ := h.alloc hnx
   rw [if_pos (show ({ s with out := { s.out with split := true } } : St).ended = true from hend)] at ed
   rw [e']
   refine ed.trans ?_
   rw [Z3z (by show (pg ps l).line < (pg ps nx).line; rw [hln]; have := hb.line; have h7 : (pg ps nx).line = nx := this; rw [h7]; exact hrg.2)]
  ·right; exact hsw
end Go.Proofs.YtjmpekanlmepmaaGreatDoor.Bt
