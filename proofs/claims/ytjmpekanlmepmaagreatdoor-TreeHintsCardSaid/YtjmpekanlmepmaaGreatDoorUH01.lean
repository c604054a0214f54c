/- A region that draws its order, walked once by an invariant: whatever has been done already, each operation whose forerunners are done keeps it. -/
import Derived.Test.YtjmpekanlmepmaaGreatDoorBB05
import Derived.Orders
import Derived.Test.YtjmpekanlmepmaaGreatDoorBB46
import Derived.Test.YtjmpekanlmepmaaGreatDoorCards
import Derived.Test.YtjmpekanlmepmaaGreatDoorTie
import Derived.ProofKit
import Derived.OpenShut
import Derived.Deep.DeepHandedRow
import Derived.Lib.LaidTab
import Derived.Test.YtjmpekanlmepmaaGreatDoorBB03
set_option linter.all false
set_option maxRecDepth 20000
set_option maxHeartbeats 8000000
namespace Go.Proofs.YtjmpekanlmepmaaGreatDoor
open Go.RowKit
def plus (D : Nat → Bool) (i : Nat) : Nat → Bool := fun j => j == i || D j
def upd (u : Nat → Value) (s : Nat) (v : Value) : Nat → Value := fun k => if k = s then v else u k
def Next (slot : Nat → Nat) (R : (Nat → Bool) → Nat → Value → World → Prop) (C : (Nat → Bool) → (Nat → Value) → World → Prop) (D : Nat → Bool) (u : Nat → Value) (i : Nat) (w : World) (v : Value) (w' : World) : Prop :=
 R (plus D i) i v w' ∧ C (plus D i) (upd u (slot i) v) w' ∧ ∀ j x, R D j x w → R (plus D i) j x w'
open Go.ChangeShapes Go.WideShapes Go.ChangeAt Go.RowKit
theorem arr3 {args : Array Value} {a b c : Value} (h : args.toList = [a, b, c]) : args = #[a, b, c] := Array.toList_inj.1 h
section
variable {H : Type} {enc : TypeId × Value → H} {P : Program}
end
end Go.Proofs.YtjmpekanlmepmaaGreatDoor
namespace Go.Proofs.YtjmpekanlmepmaaGreatDoor.Bt
def placesL : Int → List Cell → List (Int × Int)
 | _, [] => []
 | low, c :: r => (c.1, low) :: placesL (if c.2.dead then low else c.2.high) r
theorem placesL_append (low : Int) (a b : List Cell) : placesL low (a ++ b) = placesL low a ++ placesL (Z05 low a) b := by
 induction a generalizing low with
 | nil => rfl
 | cons c a ih =>
   simp only [List.cons_append, placesL, Z05, ih]
   by_cases hd : c.2.dead = true
   ·simp only [if_pos hd]
   ·simp only [if_neg hd]
theorem placesL_lines (low : Int) (a : List Cell) : (placesL low a).map (·.1) = a.map (·.1) := by
 induction a generalizing low with
 | nil => rfl
 | cons c a ih => simp only [placesL, List.map_cons, ih]
theorem mem_placesL {low : Int} {c : List Cell} {l q : Int} : (l, q) ∈ placesL low c ↔ ∃ A n R, c = A ++ (l, n) :: R ∧ q = Z05 low A := by
 induction c generalizing low with
 | nil => simp [placesL]
 | cons x c ih =>
   simp only [placesL, List.mem_cons, ih]
   constructor
   ·rintro (h | ⟨A, n, R, h1, h2⟩)
    ·simp only [Prod.mk.injEq] at h
     obtain ⟨rfl, rfl⟩ := h
     exact ⟨[], x.2, c, rfl, rfl⟩
    ·refine ⟨x :: A, n, R, by rw [h1]; rfl, ?_⟩
     rw [h2]
     simp only [Z05]
     by_cases hd : x.2.dead = true
     ·simp only [if_pos hd]
     ·simp only [if_neg hd]
   ·rintro ⟨A, n, R, h1, h2⟩
    cases A with
    | nil =>
      simp only [List.nil_append, List.cons.injEq] at h1
      left
      rw [h1.1, h2]
      rfl
    | cons y A =>
      simp only [List.cons_append, List.cons.injEq] at h1
      obtain ⟨rfl, h1⟩ := h1
      refine .inr ⟨A, n, R, h1, ?_⟩
      rw [h2]
      simp only [Z05]
      by_cases hd : x.2.dead = true
      ·simp only [if_pos hd]
      ·simp only [if_neg hd]
def places (k : Nat) : List (List Cell) → List (Int × Int × Int)
 | [] => []
 | c :: t => (placesL 0 c).map (fun p => (p.1, ((t.length + k : Nat) : Int), p.2)) ++ places k t
theorem places_append (k : Nat) (a b : List (List Cell)) : places k (a ++ b) = places (b.length + k) a ++ places k b := by
 induction a with
 | nil => rfl
 | cons c a ih =>
   simp only [List.cons_append, places, ih, List.append_assoc]
   rw [show (a ++ b).length + k = a.length + (b.length + k) by simp; omega]
theorem places_lines (k : Nat) (T : List (List Cell)) : (places k T).map (·.1) = lines T := by
 induction T with
 | nil => rfl
 | cons c t ih =>
   rw [lines, Z16, List.map_append, ← lines, ← ih, ← placesL_lines 0 c]
   simp [places]
theorem mem_places {T : List (List Cell)} {l lev q : Int} : (l, lev, q) ∈ places 0 T ↔ ∃ pre A n R post, T = pre ++ (A ++ (l, n) :: R) :: post ∧ lev = ((post.length : Nat) : Int) ∧ q = Z05 0 A := by
 induction T with
 | nil => simp [places]
 | cons c t ih =>
   simp only [places, List.mem_append, ih, List.mem_map]
   constructor
   ·rintro (⟨⟨l', q'⟩, h1, h2⟩ | ⟨pre, A, n, R, post, h1, h2, h3⟩)
    ·simp only [Prod.mk.injEq] at h2
     obtain ⟨rfl, rfl, rfl⟩ := h2
     obtain ⟨A, n, R, h1, h2⟩ := mem_placesL.1 h1
     exact ⟨[], A, n, R, t, by rw [h1]; rfl, rfl, h2⟩
    ·exact ⟨c :: pre, A, n, R, post, by rw [h1]; rfl, h2, h3⟩
   ·rintro ⟨pre, A, n, R, post, h1, h2, h3⟩
    cases pre with
    | nil =>
      simp only [List.nil_append, List.cons.injEq] at h1
      obtain ⟨rfl, rfl⟩ := h1
      exact .inl ⟨(l, q), mem_placesL.2 ⟨A, n, R, rfl, h3⟩, by rw [h2]; rfl⟩
    | cons x pre =>
      simp only [List.cons_append, List.cons.injEq] at h1
      obtain ⟨rfl, h1⟩ := h1
      exact .inr ⟨pre, A, n, R, post, h1, h2, h3⟩
theorem inj_of_nodup {α β : Type} {f : α → β} {l : List α} (h : (l.map f).Nodup) {a b : α} (ha : a ∈ l) (hb : b ∈ l) (e : f a = f b) : a = b := by
 induction l with
 | nil => cases ha
 | cons x l ih =>
   rw [List.map_cons, List.nodup_cons] at h
   rcases List.mem_cons.1 ha with h1 | h1
   ·rcases List.mem_cons.1 hb with h2 | h2
    ·rw [h1, h2]
    ·exact absurd (by rw [← h1, e]; exact List.mem_map_of_mem h2) h.1
   ·rcases List.mem_cons.1 hb with h2 | h2
    ·exact absurd (by rw [← h2, ← e]; exact List.mem_map_of_mem h1) h.1
    ·exact ih h.2 h1 h2
theorem Tree.place_one {T : List (List Cell)} (h : Tree T) {l lev lev' q q' : Int} (h1 : (l, lev, q) ∈ places 0 T) (h2 : (l, lev', q') ∈ places 0 T) : lev = lev' ∧ q = q' := by
 have hn := h.nodup
 rw [← places_lines 0 T] at hn
 have := inj_of_nodup hn h1 h2 rfl
 simpa using this
theorem place_line {T : List (List Cell)} {l lev q : Int} (h : (l, lev, q) ∈ places 0 T) : l ∈ lines T := by
 rw [← places_lines 0 T]
 exact List.mem_map_of_mem (f := (·.1)) h
theorem line_place {T : List (List Cell)} {l : Int} (h : l ∈ lines T) : ∃ lev q, (l, lev, q) ∈ places 0 T := by
 rw [← places_lines 0 T] at h
 obtain ⟨⟨l', lev, q⟩, h1, rfl⟩ := List.mem_map.1 h
 exact ⟨lev, q, h1⟩
theorem flat_split {T : List (List Cell)} {c : Cell} (h : c ∈ flat T) : ∃ pre A R post, T = pre ++ (A ++ c :: R) :: post := by
 obtain ⟨lv, h1, h2⟩ := List.mem_flatten.1 h
 obtain ⟨pre, post, rfl⟩ := List.append_of_mem h1
 obtain ⟨A, R, rfl⟩ := List.append_of_mem h2
 exact ⟨pre, A, R, post, rfl⟩
theorem split_flat {pre post : List (List Cell)} {A R : List Cell} {c : Cell} : c ∈ flat (pre ++ (A ++ c :: R) :: post) := by
 simp [Z0P, Z16]
theorem Tree.place {T : List (List Cell)} (h : Tree T) {c : Cell} (hc : c ∈ flat T) : ∃ q, (c.1, c.2.level, q) ∈ places 0 T := by
 obtain ⟨pre, A, R, post, rfl⟩ := flat_split hc
 refine ⟨Z05 0 A, mem_places.2 ⟨pre, A, c.2, R, post, rfl, ?_, rfl⟩⟩
 exact h.level.level c (by simp)
theorem Tree.place_node {T : List (List Cell)} (h : Tree T) {l lev q : Int} (hc : (l, lev, q) ∈ places 0 T) : ∃ n, (l, n) ∈ flat T ∧ n.level = lev := by
 obtain ⟨pre, A, n, R, post, rfl, h2, h3⟩ := mem_places.1 hc
 exact ⟨n, split_flat, by rw [h2]; exact h.level.level (l, n) (by simp)⟩
structure Fwd (B : Int → Int → Prop) (c : Cell) : Prop where
 right : c.2.right = nilP ∨ ∃ r, c.2.right = ptr r ∧ B c.1 r
 down : 0 < c.2.level → ∀ e ∈ c.2.entries, ∃ d, e.to = ptr d ∧ B c.1 d
theorem Fwd.mono {B B' : Int → Int → Prop} {c : Cell} (h : Fwd B c) (hb : ∀ x y, B x y → B' x y) : Fwd B' c := by
 refine ⟨?_, fun hl e he => ?_⟩
 ·rcases h.right with h1 | ⟨r, h1, h2⟩
  ·exact .inl h1
  ·exact .inr ⟨r, h1, hb _ _ h2⟩
 ·obtain ⟨d, h1, h2⟩ := h.down hl e he
  exact ⟨d, h1, hb _ _ h2⟩
structure Leads (Lo : Int → Int → Int → Prop) (c : Cell) : Prop where
 right : ∀ k, 1 ≤ k → k ≤ Z08 → Lo c.1 c.2.level k → c.2.passes k → ∃ r, c.2.right = ptr r ∧ Lo r c.2.level k
 down : ∀ k, 1 ≤ k → k ≤ Z08 → Lo c.1 c.2.level k → ¬ c.2.passes k → 0 < c.2.level → ∃ e d, c.2.entries[child c.2.entries k]? = some e ∧ e.to = ptr d ∧ Lo d (c.2.level - 1) k
theorem Leads.mono {Lo Lo' : Int → Int → Int → Prop} {c : Cell} (h : Leads Lo c) (h1 : ∀ k, Lo' c.1 c.2.level k → Lo c.1 c.2.level k) (h2 : ∀ l lev k, Lo l lev k → Lo' l lev k) : Leads Lo' c := by
 refine ⟨fun k hk hk2 hl hp => ?_, fun k hk hk2 hl hp hlev => ?_⟩
 ·obtain ⟨r, e1, e2⟩ := h.right k hk hk2 (h1 k hl) hp
  exact ⟨r, e1, h2 _ _ _ e2⟩
 ·obtain ⟨e, d, e1, e2, e3⟩ := h.down k hk hk2 (h1 k hl) hp hlev
  exact ⟨e, d, e1, e2, h2 _ _ _ e3⟩
theorem Tree.leads {T : List (List Cell)} (h : Tree T) {Lo : Int → Int → Int → Prop} (hlo : ∀ l lev q, (l, lev, q) ∈ places 0 T → ∀ lev' k, Lo l lev' k ↔ (lev' = lev ∧ q < k)) {c : Cell} (hc : c ∈ flat T) : Leads Lo c := by
 obtain ⟨pre, A, R, post, rfl⟩ := flat_split hc
 have hlv := h.level
 have hcl : c.2.level = ((post.length : Nat) : Int) := hlv.level c (by simp)
 have hpc := hlo c.1 _ _ (mem_places.2 ⟨pre, A, c.2, R, post, rfl, rfl, rfl⟩)
 refine ⟨fun k hk hk2 hl hp => ?_, fun k hk hk2 hl hp hlev => ?_⟩
 ·have hq := ((hpc _ _).1 hl).2
  have hch : Chain (c :: R) nilP := (Chain.append.1 hlv.chain).2
  cases R with
  | nil =>
    exfalso
    obtain ⟨a, x, e, _, e2, e3⟩ := hch.last (fun x hx => hlv.valid x (by simp at hx; simp [hx])) (by simp)
    cases a with
    | nil =>
      simp only [List.nil_append, List.cons.injEq, and_true] at e
      subst e
      rcases hp with hp | hp
      ·rw [e3] at hp; cases hp
      ·omega
    | cons z a =>
      simp only [List.cons_append, List.cons.injEq] at e
      have := e.2
      simp at this
  | cons d R =>
    refine ⟨d.1, hch.1, ?_⟩
    have hpd := hlo d.1 _ _ (mem_places.2 ⟨pre, A ++ [c], d.2, R, post, by simp, rfl, rfl⟩)
    rw [hcl]
    refine (hpd _ _).2 ⟨rfl, ?_⟩
    rw [Z0S]
    rcases hp with hp | hp
    ·rw [Z5L _ hp]; exact hq
    ·by_cases hd : c.2.dead = true
     ·rw [Z5L _ hd]; exact hq
     ·rw [Z1A _ (by simpa using hd)]; exact hp
 ·have hq := ((hpc _ _).1 hl).2
  cases post with
  | nil => exfalso; rw [hcl] at hlev; simp at hlev
  | cons lo t =>
    obtain ⟨es1, e, es2, a', c', b', q1, q2, q3, q4, q5, q6, q7, q8, q9, q10⟩ := Levels.down h.levels.append h.links.append (by omega) rfl hq hp
    refine ⟨e, c'.1, q3, q6, ?_⟩
    have hpd := hlo c'.1 _ _ (mem_places.2 ⟨pre ++ [A ++ c :: R], a', c'.2, b', t, by rw [q5]; simp, rfl, rfl⟩)
    refine (hpd _ _).2 ⟨?_, q9⟩
    rw [hcl]
    simp only [List.length_cons]
    omega
structure Hist (nx : Int) (T : List (List Cell)) (U : List Cell) (V : Cell → Prop) (B : Int → Int → Prop) (Lo : Int → Int → Int → Prop) : Prop where
 irr : ∀ x, ¬ B x x
 tr : ∀ x y z, B x y → B y z → B x z
 old : ∀ x y, B x y → x < nx ∧ y < nx
 dom : ∀ l lev k, Lo l lev k → l ∈ lines T ∨ (lev = 0 ∧ ∃ n, (l, n) ∈ U)
 lo : ∀ l lev q, (l, lev, q) ∈ places 0 T → ∀ lev' k, Lo l lev' k ↔ (lev' = lev ∧ q < k)
 cover : ∀ l, 105 ≤ l → l < nx → l ∈ lines T ∨ ∃ n, (l, n) ∈ U
 gone : ∀ c ∈ U, c.2.dead = true ∧ c.2.level = 0 ∧ c.1 ∉ lines T ∧ 105 ≤ c.1 ∧ c.1 < nx ∧ Fwd B c ∧ Leads Lo c
 was : ∀ c, V c → 0 < c.2.level ∧ Fwd B c ∧ Leads Lo c ∧ ∃ n, (c.1, n) ∈ flat T ∧ n.level = c.2.level
 fwd : ∀ c ∈ flat T, Fwd B c
 now : ∀ c ∈ flat T, 0 < c.2.level → V c
theorem Hist.start : Hist 105 [] [] (fun _ => False) (fun _ _ => False) (fun _ _ _ => False) :=
 ⟨fun _ h => h, fun _ _ _ h => h.elim, fun _ _ h => h.elim, fun _ _ _ h => h.elim, fun _ _ _ h => (by simp [places] at h), fun l h1 h2 => by omega, (fun c hc => by cases hc), fun c hc => hc.elim, (fun c hc => by cases hc), (fun c hc => by cases hc)⟩
theorem Hist.step {nx nx' : Int} {T T' : List (List Cell)} {U U' : List Cell} {V : Cell → Prop} {B B' : Int → Int → Prop} {Lo : Int → Int → Int → Prop} (h : Hist nx T U V B Lo) (t : Tree T) (t' : Tree T')
 (hr : ∀ c ∈ flat T, 105 ≤ c.1 ∧ c.1 < nx) (hnx : nx ≤ nx')
 (hl : ∀ l lev q, (l, lev, q) ∈ places 0 T → (∃ q', (l, lev, q') ∈ places 0 T' ∧ q' ≤ q ∧ (0 < lev → q' = q)) ∨ (lev = 0 ∧ ∃ n, (l, n) ∈ U'))
 (hU : ∀ c ∈ U, c ∈ U') (hU' : ∀ c ∈ U', c ∈ U ∨ (c ∈ flat T ∧ c.2.dead = true ∧ c.2.level = 0 ∧ c.1 ∉ lines T'))
 (hnew : ∀ l ∈ lines T', l ∈ lines T ∨ nx ≤ l) (hcov : ∀ l, nx ≤ l → l < nx' → l ∈ lines T')
 (irr' : ∀ x, ¬ B' x x) (tr' : ∀ x y z, B' x y → B' y z → B' x z) (old' : ∀ x y, B' x y → x < nx' ∧ y < nx') (hB : ∀ x y, B x y → B' x y) (hF : ∀ c ∈ flat T', c ∈ flat T ∨ Fwd B' c) :
 ∃ Lo', Hist nx' T' U' (fun c => V c ∨ (c ∈ flat T' ∧ 0 < c.2.level)) B' Lo' ∧ ∀ l lev k, Lo l lev k → Lo' l lev k := by
 obtain ⟨Lo', hLo⟩ : ∃ Lo' : Int → Int → Int → Prop, ∀ l lev k, Lo' l lev k ↔ ((∃ q, (l, lev, q) ∈ places 0 T' ∧ q < k) ∨ (l ∉ lines T' ∧ Lo l lev k)) := ⟨fun l lev k => (∃ q, (l, lev, q) ∈ places 0 T' ∧ q < k) ∨ (l ∉ lines T' ∧ Lo l lev k), fun _ _ _ => Iff.rfl⟩
 have hUT : ∀ c ∈ U', c.1 ∉ lines T' := fun c hc hm => by
  rcases hU' c hc with h1 | ⟨_, _, _, h1⟩
  ·obtain ⟨_, _, g3, _, g5, _⟩ := h.gone c h1
   rcases hnew c.1 hm with h2 | h2
   ·exact g3 h2
   ·omega
  ·exact h1 hm
 have hmono : ∀ l lev k, Lo l lev k → Lo' l lev k := fun l lev k hlo => by
  rw [hLo]
  by_cases hm : l ∈ lines T'
  ·left
   rcases h.dom l lev k hlo with h1 | ⟨_, n, h1⟩
   ·obtain ⟨lev0, q, hp⟩ := line_place h1
    obtain ⟨rfl, hq⟩ := (h.lo l lev0 q hp lev k).1 hlo
    rcases hl l lev q hp with ⟨q', h2, h3, _⟩ | ⟨_, n, h2⟩
    ·exact ⟨q', h2, by omega⟩
    ·exact absurd hm (hUT _ h2)
   ·exact absurd hm (hUT _ (hU _ h1))
  ·exact .inr ⟨hm, hlo⟩
 have hout : ∀ l lev k, l ∉ lines T' → Lo' l lev k → Lo l lev k := fun l lev k hm hlo => by
  rcases (hLo l lev k).1 hlo with ⟨q, h1, _⟩ | ⟨_, h1⟩
  ·exact absurd (place_line h1) hm
  ·exact h1
 have hlo' : ∀ l lev q, (l, lev, q) ∈ places 0 T' → ∀ lev' k, Lo' l lev' k ↔ (lev' = lev ∧ q < k) := fun l lev q hp lev' k => by
  rw [hLo]
  constructor
  ·rintro (⟨q', h1, h2⟩ | ⟨h1, _⟩)
   ·obtain ⟨rfl, rfl⟩ := t'.place_one h1 hp
    exact ⟨rfl, h2⟩
   ·exact absurd (place_line hp) h1
  ·rintro ⟨rfl, h1⟩
   exact .inl ⟨q, hp, h1⟩
 refine ⟨Lo', ⟨irr', tr', old', fun l lev k hlo => ?_, hlo', fun l h1 h2 => ?_, fun c hc => ?_, fun c hc => ?_, fun c hc => ?_, fun c hc hcl => .inr ⟨hc, hcl⟩⟩, hmono⟩
 ·rcases (hLo l lev k).1 hlo with ⟨q, h1, _⟩ | ⟨hm, h1⟩
  ·exact .inl (place_line h1)
  ·rcases h.dom l lev k h1 with h2 | ⟨h2, n, h3⟩
   ·obtain ⟨lev0, q, hp⟩ := line_place h2
    obtain ⟨rfl, _⟩ := (h.lo l lev0 q hp lev k).1 h1
    rcases hl l lev q hp with ⟨q', h3, _⟩ | h3
    ·exact .inl (place_line h3)
    ·exact .inr h3
   ·exact .inr ⟨h2, n, hU _ h3⟩
 ·by_cases h3 : l < nx
  ·rcases h.cover l h1 h3 with h4 | ⟨n, h4⟩
   ·obtain ⟨lev0, q, hp⟩ := line_place h4
    rcases hl l lev0 q hp with ⟨q', h3, _⟩ | ⟨_, h3⟩
    ·exact .inl (place_line h3)
    ·exact .inr h3
   ·exact .inr ⟨n, hU _ h4⟩
  ·exact .inl (hcov l (by omega) h2)
 ·have hm := hUT c hc
  rcases hU' c hc with h1 | ⟨h1, h2, h3, _⟩
  ·obtain ⟨g1, g2, g3, g4, g5, g6, g7⟩ := h.gone c h1
   exact ⟨g1, g2, hm, g4, by omega, g6.mono hB, g7.mono (fun k => hout _ _ k hm) hmono⟩
  ·have := hr c h1
   exact ⟨h2, h3, hm, this.1, by omega, (h.fwd c h1).mono hB, (t.leads h.lo h1).mono (fun k => hout _ _ k hm) hmono⟩
 ·rcases hc with hc | ⟨hc, hcl⟩
  ·obtain ⟨g1, g2, g3, n, g4, g5⟩ := h.was c hc
   obtain ⟨q, hp⟩ := t.place g4
   rw [g5] at hp
   rcases hl _ _ _ hp with ⟨q', h1, h2, h3⟩ | ⟨h1, _⟩
   ·obtain rfl := h3 g1
    refine ⟨g1, g2.mono hB, g3.mono (fun k hk => ?_) hmono, t'.place_node h1⟩
    exact (h.lo _ _ _ hp _ _).2 ((hlo' _ _ _ h1 _ _).1 hk)
   ·omega
  ·refine ⟨hcl, ?_, t'.leads hlo' hc, c.2, hc, rfl⟩
   rcases hF c hc with h1 | h1
   ·exact (h.fwd c h1).mono hB
   ·exact h1
 ·rcases hF c hc with h1 | h1
  ·exact (h.fwd c h1).mono hB
  ·exact h1
theorem ptr_ne {l : Int} : ptr l ≠ nilP := fun h => by
 have := congrArg Ptr.gen h
 simp [ptr, nilP] at this
def ren (l new x : Int) : Int := if x = new then l else x
def extB (B : Int → Int → Prop) (l new : Int) (x y : Int) : Prop := B (ren l new x) (ren l new y) ∨ (x = l ∧ y = new)
theorem ren_new (l new : Int) : ren l new new = l := by simp [ren]
theorem ren_old {l new x : Int} (h : x < new) : ren l new x = x := by unfold ren; rw [if_neg (by omega)]
structure OrdB (nx : Int) (B : Int → Int → Prop) : Prop where
 irr : ∀ x, ¬ B x x
 tr : ∀ x y z, B x y → B y z → B x z
 old : ∀ x y, B x y → x < nx ∧ y < nx
theorem OrdB.ext {nx l : Int} {B : Int → Int → Prop} (h : OrdB nx B) (hl : l < nx) : OrdB (nx + 1) (extB B l nx) ∧ (∀ x y, B x y → extB B l nx x y) ∧ extB B l nx l nx ∧ ∀ r, B l r → extB B l nx nx r := by
 have hlt : ∀ x, ren l nx x < nx → x < nx + 1 := fun x hx => by
  unfold ren at hx
  split at hx <;> omega
 refine ⟨⟨fun x hx => ?_, fun x y z h1 h2 => ?_, fun x y hx => ?_⟩, fun x y hx => ?_, .inr ⟨rfl, rfl⟩, fun r hr => ?_⟩
 ·rcases hx with hx | ⟨h1, h2⟩
  ·exact h.irr _ hx
  ·omega
 ·rcases h1 with h1 | ⟨h1, h1'⟩ <;> rcases h2 with h2 | ⟨h2, h2'⟩
  ·exact .inl (h.tr _ _ _ h1 h2)
  ·subst h2; subst h2'
   left
   rw [ren_old hl] at h1
   rw [ren_new]; exact h1
  ·subst h1; subst h1'
   left
   rw [ren_new] at h2
   rw [ren_old hl]; exact h2
  ·omega
 ·rcases hx with hx | ⟨h1, h2⟩
  ·have := h.old _ _ hx
   exact ⟨hlt _ this.1, hlt _ this.2⟩
  ·omega
 ·have := h.old _ _ hx
  left
  rw [ren_old this.1, ren_old this.2]; exact hx
 ·have := h.old _ _ hr
  left
  rw [ren_new, ren_old this.2]; exact hr
def topB (B : Int → Int → Prop) (new : Int) (x y : Int) : Prop := B x y ∨ (x = new ∧ y < new)
theorem OrdB.top {nx : Int} {B : Int → Int → Prop} (h : OrdB nx B) : OrdB (nx + 1) (topB B nx) ∧ ∀ x y, B x y → topB B nx x y := by
 refine ⟨⟨fun x hx => ?_, fun x y z h1 h2 => ?_, fun x y hx => ?_⟩, fun x y hx => .inl hx⟩
 ·rcases hx with hx | hx
  ·exact h.irr _ hx
  ·omega
 ·rcases h1 with h1 | ⟨h1, h1'⟩ <;> rcases h2 with h2 | ⟨h2, h2'⟩
  ·exact .inl (h.tr _ _ _ h1 h2)
  ·have := (h.old _ _ h1).2; omega
  ·exact .inr ⟨h1, (h.old _ _ h2).2⟩
  ·omega
 ·rcases hx with hx | ⟨h1, h2⟩
  ·have := h.old _ _ hx; omega
  ·omega
theorem OrdB.more {nx : Int} {B : Int → Int → Prop} (h : OrdB nx B) {nx' : Int} (hn : nx ≤ nx') : OrdB nx' B := ⟨h.irr, h.tr, fun x y hx => by have := h.old x y hx; omega⟩
def Lower (T T' : List (List Cell)) : Prop := ∀ l lev q, (l, lev, q) ∈ places 0 T → ∃ q', (l, lev, q') ∈ places 0 T' ∧ q' ≤ q ∧ (0 < lev → q' = q)
theorem Lower.of_mem {T T' : List (List Cell)} (h : ∀ p ∈ places 0 T, p ∈ places 0 T') : Lower T T' := fun l lev q hp => ⟨q, h _ hp, Int.le_refl _, fun _ => rfl⟩
theorem Lower.trans {T T1 T' : List (List Cell)} (h1 : Lower T T1) (h2 : Lower T1 T') : Lower T T' := fun l lev q hp => by
 obtain ⟨q1, a1, a2, a3⟩ := h1 l lev q hp
 obtain ⟨q2, b1, b2, b3⟩ := h2 l lev q1 a1
 exact ⟨q2, b1, by omega, fun h => by rw [b3 h, a3 h]⟩
theorem places_mid (pre post : List (List Cell)) (X : List Cell) : places 0 (pre ++ X :: post) = places (post.length + 1) pre ++ ((placesL 0 X).map (fun p => (p.1, ((post.length : Nat) : Int), p.2)) ++ places 0 post) := by
 rw [places_append]
 rfl
theorem Lower.mid {pre post : List (List Cell)} {X X' : List Cell} (h : ∀ l q, (l, q) ∈ placesL 0 X → ∃ q', (l, q') ∈ placesL 0 X' ∧ q' ≤ q ∧ (0 < post.length → q' = q)) : Lower (pre ++ X :: post) (pre ++ X' :: post) := fun l lev q hp => by
 rw [places_mid] at hp ⊢
 simp only [List.mem_append, List.mem_map] at hp ⊢
 rcases hp with hp | ⟨⟨l1, q1⟩, h1, h2⟩ | hp
 ·exact ⟨q, .inl hp, Int.le_refl _, fun _ => rfl⟩
 ·simp only [Prod.mk.injEq] at h2
  obtain ⟨rfl, rfl, rfl⟩ := h2
  obtain ⟨q', a1, a2, a3⟩ := h _ _ h1
  exact ⟨q', .inr (.inl ⟨(l1, q'), a1, rfl⟩), a2, fun h => a3 (by omega)⟩
 ·exact ⟨q, .inr (.inr hp), Int.le_refl _, fun _ => rfl⟩
theorem placesL_less {p q : Int} (R : List Cell) (hpq : p ≤ q) {l x : Int} (h : (l, x) ∈ placesL q R) : ∃ y, (l, y) ∈ placesL p R ∧ y ≤ x := by
 induction R generalizing p q with
 | nil => cases h
 | cons c R ih =>
   simp only [placesL, List.mem_cons] at h ⊢
   rcases h with h | h
   ·simp only [Prod.mk.injEq] at h
    exact ⟨p, .inl (by rw [h.1]), by omega⟩
   ·by_cases hd : c.2.dead = true
    ·simp only [if_pos hd] at h ⊢
     obtain ⟨y, h1, h2⟩ := ih hpq h
     exact ⟨y, .inr h1, h2⟩
    ·simp only [if_neg hd] at h ⊢
     exact ⟨x, .inr h, Int.le_refl _⟩
theorem Fwd.leafs {B B' : Int → Int → Prop} {l : Int} {n n' : Node} (h : Fwd B (l, n)) (hb : ∀ x y, B x y → B' x y) (hl : n'.level = 0) (hr : n'.right = n.right) : Fwd B' (l, n') := by
 refine ⟨?_, fun hh => by have : (0 : Int) < n'.level := hh; omega⟩
 rcases h.right with h1 | ⟨r, h1, h2⟩
 ·exact .inl (hr.trans h1)
 ·exact .inr ⟨r, hr.trans h1, hb _ _ h2⟩
theorem Hist.ord {nx : Int} {T : List (List Cell)} {U : List Cell} {V : Cell → Prop} {B : Int → Int → Prop} {Lo : Int → Int → Int → Prop} (h : Hist nx T U V B Lo) : OrdB nx B := ⟨h.irr, h.tr, h.old⟩
abbrev Next (nx' : Int) (T T' : List (List Cell)) (U : List Cell) (V : Cell → Prop) (Lo : Int → Int → Int → Prop) : Prop :=
 ∃ U' B' Lo', Hist nx' T' U' (fun c => V c ∨ (c ∈ flat T' ∧ 0 < c.2.level)) B' Lo' ∧ (∀ l lev k, Lo l lev k → Lo' l lev k) ∧ (∀ c ∈ U, c ∈ U') ∧ ∀ c ∈ U', c ∈ U ∨ c ∈ flat T
theorem Hist.lower {nx nx' : Int} {T T' : List (List Cell)} {U : List Cell} {V : Cell → Prop} {B B' : Int → Int → Prop} {Lo : Int → Int → Int → Prop} (h : Hist nx T U V B Lo) (t : Tree T) (t' : Tree T')
 (hr : ∀ c ∈ flat T, 105 ≤ c.1 ∧ c.1 < nx) (hnx : nx ≤ nx') (hl : Lower T T') (hnew : ∀ l ∈ lines T', l ∈ lines T ∨ nx ≤ l) (hcov : ∀ l, nx ≤ l → l < nx' → l ∈ lines T') (ho : OrdB nx' B') (hB : ∀ x y, B x y → B' x y)
 (hF : ∀ c ∈ flat T', c ∈ flat T ∨ Fwd B' c) : Next nx' T T' U V Lo := by
 obtain ⟨Lo', h1, h2⟩ := h.step t t' hr hnx (fun l lev q hp => .inl (hl l lev q hp)) (fun c hc => hc) (fun c hc => .inl hc) hnew hcov ho.irr ho.tr ho.old hB hF
 exact ⟨U, B', Lo', h1, h2, fun c hc => hc, fun c hc => .inl hc⟩
theorem mem_one {pre post : List (List Cell)} {A R M M' : List Cell} {c : Cell} (h : c ∈ flat (pre ++ (A ++ (M' ++ R)) :: post)) : c ∈ M' ∨ c ∈ flat (pre ++ (A ++ (M ++ R)) :: post) := by
 simp only [Z0P, Z16, List.mem_append] at h ⊢
 rcases h with h | (h | h | h) | h
 ·exact .inr (.inl h)
 ·exact .inr (.inr (.inl (.inl h)))
 ·exact .inl h
 ·exact .inr (.inr (.inl (.inr (.inr h))))
 ·exact .inr (.inr (.inr h))
theorem line_one {pre post : List (List Cell)} {A R M M' : List Cell} {l : Int} (h : l ∈ lines (pre ++ (A ++ (M' ++ R)) :: post)) : l ∈ M'.map (·.1) ∨ l ∈ lines (pre ++ (A ++ (M ++ R)) :: post) := by
 obtain ⟨c, hc, rfl⟩ := List.mem_map.1 h
 rcases mem_one (M := M) hc with h1 | h1
 ·exact .inl (List.mem_map_of_mem h1)
 ·exact .inr (List.mem_map_of_mem h1)
theorem post_down {nx : Int} {B : Int → Int → Prop} (h : OrdB nx B) {l : Int} {n : Node} {a b : List Entry} {e : Entry} {x : Cell} {y : Int} (hfw : Fwd B (l, n)) (hfx : Fwd B x) (hn : n.entries = a ++ e :: b) (hto : e.to = ptr x.1) (hxr : x.2.right = ptr y) (hh : 0 < n.level) :
 ∀ g ∈ a ++ ⟨x.2.high, e.to⟩ :: ⟨e.key, ptr y⟩ :: b, ∃ d, g.to = ptr d ∧ B l d := by
 intro g hg
 have he : e ∈ n.entries := by rw [hn]; simp
 obtain ⟨d, h1, h2⟩ := hfw.down hh e he
 obtain rfl : d = x.1 := Z8k (h1.symm.trans hto)
 have hxy : B x.1 y := by
  rcases hfx.right with h3 | ⟨r, h3, h4⟩
  ·exact absurd (hxr.symm.trans h3) ptr_ne
  ·obtain rfl := Z8k (hxr.symm.trans h3); exact h4
 simp only [List.mem_append, List.mem_cons] at hg
 rcases hg with hg | rfl | rfl | hg
 ·exact hfw.down hh g (by show g ∈ n.entries; rw [hn]; simp [hg])
 ·exact ⟨x.1, hto, h2⟩
 ·exact ⟨y, rfl, h.tr _ _ _ h2 hxy⟩
 ·exact hfw.down hh g (by show g ∈ n.entries; rw [hn]; simp [hg])
theorem Evo.hist {nx nx' d : Int} {w k : Nat} {T T' : List (List Cell)} (he : Evo nx d w k T T') (t : Tree T) (t' : Tree T') (hr : ∀ c ∈ flat T, 105 ≤ c.1 ∧ c.1 < nx) (hd : nx' = nx + d)
 {U : List Cell} {V : Cell → Prop} {B : Int → Int → Prop} {Lo : Int → Int → Int → Prop} (h : Hist nx T U V B Lo) : Next nx' T T' U V Lo := by
 subst hd
 cases he with
 | same => exact h.lower t t' hr (by omega) (.of_mem fun p hp => hp) (fun l hl => .inl hl) (fun l h1 h2 => by omega) (h.ord.more (by omega)) (fun x y hx => hx) (fun c hc => .inl hc)
 | @plant e =>
   refine h.lower t t' hr (by omega) (.of_mem fun p hp => (by simp [places] at hp)) (fun l hl => ?_) (fun l h1 h2 => ?_) (h.ord.more (by omega)) (fun x y hx => hx) (fun c hc => ?_)
   ·simp [lines, flat] at hl
    right; omega
   ·simp [lines, flat]
    omega
   ·simp [flat] at hc
    subst hc
    exact .inr ⟨.inl rfl, fun hh => by have : (0 : Int) < 0 := hh; omega⟩
 | @raise x y r t0 =>
   obtain ⟨o1, o2⟩ := h.ord.top
   refine h.lower t t' hr (by omega) (.of_mem fun p hp => ?_) (fun l hl => ?_) (fun l h1 h2 => ?_) o1 o2 (fun c hc => ?_)
   ·show p ∈ places 0 (_ :: _)
    rw [places]
    exact List.mem_append.2 (.inr hp)
   ·rw [lines, Z16, List.map_append, List.mem_append] at hl
    rcases hl with hl | hl
    ·simp at hl; right; omega
    ·exact .inl hl
   ·obtain rfl : l = nx := by omega
    simp [lines, flat]
   ·rw [Z16, List.mem_append] at hc
    rcases hc with hc | hc
    ·right
     simp at hc
     subst hc
     refine ⟨.inl rfl, fun _ e he => ?_⟩
     have hx := hr x (by simp [flat])
     have hy := hr y (by simp [flat])
     simp [Z2D] at he
     rcases he with rfl | rfl
     ·exact ⟨x.1, rfl, .inr ⟨rfl, hx.2⟩⟩
     ·exact ⟨y.1, rfl, .inr ⟨rfl, hy.2⟩⟩
    ·exact .inl hc
 | @leaf pre A R l n es hnd hlen =>
   have hlv : n.level = 0 := by have := t.level.level (l, n) (by simp); simpa using this
   refine h.lower t t' hr (by omega) (.of_mem fun p hp => ?_) (fun q hq => ?_) (fun q h1 h2 => by omega) (h.ord.more (by omega)) (fun x y hx => hx) (fun c hc => ?_)
   ·rw [places_mid] at hp ⊢
    rw [placesL_append] at hp ⊢
    simpa only [placesL] using hp
   ·rcases line_one (A := A) (M := [(l, n)]) (M' := [(l, ({ n with entries := es } : Node))]) (R := R) hq with h1 | h1
    ·simp at h1; subst h1; left; simp [lines, Z0P, Z16]
    ·exact .inl h1
   ·rcases mem_one (A := A) (M := [(l, n)]) (M' := [(l, ({ n with entries := es } : Node))]) (R := R) hc with h1 | h1
    ·simp at h1; subst h1
     exact .inr ((h.fwd (l, n) split_flat).leafs (fun x y hx => hx) hlv rfl)
    ·exact .inl h1
 | @leafSplit pre A R l n e1 e2 hnd h5 h31 h32 hlt =>
   have hlv : n.level = 0 := by have := t.level.level (l, n) (by simp); simpa using this
   have hln := (hr (l, n) split_flat).2
   obtain ⟨o1, o2, o3, o4⟩ := h.ord.ext hln
   have hfw := h.fwd (l, n) split_flat
   have d1 : (Z0o n nx e1 (Z03 e1)).dead = false := hnd
   refine h.lower t t' hr (by omega) (.of_mem fun p hp => ?_) (fun q hq => ?_) (fun q h1 h2 => ?_) o1 o2 (fun c hc => ?_)
   ·rw [places_mid] at hp ⊢
    rw [placesL_append] at hp ⊢
    simp only [placesL, hnd, d1, Bool.false_eq_true, if_false, List.map_append, List.map_cons, List.mem_append, List.mem_cons] at hp ⊢
    rcases hp with hp | (hp | hp | hp) | hp
    ·exact .inl hp
    ·exact .inr (.inl (.inl hp))
    ·exact .inr (.inl (.inr (.inl hp)))
    ·exact .inr (.inl (.inr (.inr (.inr hp))))
    ·exact .inr (.inr hp)
   ·rcases line_one (A := A) (M := [(l, n)]) (M' := [(l, Z0o n nx e1 (Z03 e1)), (nx, Z0p n e2)]) (R := R) hq with h1 | h1
    ·simp at h1
     rcases h1 with rfl | rfl
     ·left; simp [lines, Z0P, Z16]
     ·right; omega
    ·exact .inl h1
   ·obtain rfl : q = nx := by omega
    simp [lines, Z0P, Z16]
   ·rcases mem_one (A := A) (M := [(l, n)]) (M' := [(l, Z0o n nx e1 (Z03 e1)), (nx, Z0p n e2)]) (R := R) hc with h1 | h1
    ·right
     simp at h1
     rcases h1 with rfl | rfl
     ·exact ⟨.inr ⟨nx, rfl, o3⟩, fun hh => by have : (0 : Int) < n.level := hh; omega⟩
     ·refine ⟨?_, fun hh => by have : (0 : Int) < n.level := hh; omega⟩
      rcases hfw.right with h1 | ⟨r, h1, h2⟩
      ·exact .inl h1
      ·exact .inr ⟨r, h1, o4 r h2⟩
    ·exact .inl h1
 | @post pre post A R lo l n a b e x y hn hto hx hxr hy hyd hlt =>
   have hfw := h.fwd (l, n) split_flat
   have hxf : x ∈ flat (pre ++ (A ++ (l, n) :: R) :: lo :: post) := by simp [Z0P, Z16, hx]
   refine h.lower t t' hr (by omega) (.of_mem fun p hp => ?_) (fun q hq => ?_) (fun q h1 h2 => by omega) (h.ord.more (by omega)) (fun x y hx => hx) (fun c hc => ?_)
   ·rw [places_mid] at hp ⊢
    rw [placesL_append] at hp ⊢
    simpa only [placesL] using hp
   ·rcases line_one (A := A) (M := [(l, n)]) (R := R) (M' := [(l, ({ n with entries := a ++ ⟨x.2.high, e.to⟩ :: ⟨e.key, ptr y.1⟩ :: b } : Node))]) hq with h1 | h1
    ·simp at h1; subst h1; left; simp [lines, Z0P, Z16]
    ·exact .inl h1
   ·rcases mem_one (A := A) (M := [(l, n)]) (R := R) (M' := [(l, ({ n with entries := a ++ ⟨x.2.high, e.to⟩ :: ⟨e.key, ptr y.1⟩ :: b } : Node))]) hc with h1 | h1
    ·right
     simp at h1; subst h1
     refine ⟨hfw.right, fun hh g hg => ?_⟩
     exact post_down (h := h.ord) hfw (h.fwd x hxf) hn hto hxr hh g hg
    ·exact .inl h1
 | @postSplit pre post A R lo l n a b e1 e2 e x y hn hto hx hxr hy hyd hlt hes h5 h31 h32 hlast =>
   have hfw := h.fwd (l, n) split_flat
   have hxf : x ∈ flat (pre ++ (A ++ (l, n) :: R) :: lo :: post) := by simp [Z0P, Z16, hx]
   have hnd : n.dead = false := t.level.live (by simp only [List.length_cons]; omega) (l, n) (by simp)
   have hln := (hr (l, n) split_flat).2
   obtain ⟨o1, o2, o3, o4⟩ := h.ord.ext hln
   have d1 : (Z0o n nx e1 (Z03 e1)).dead = false := hnd
   have hdn : 0 < n.level → ∀ g ∈ e1 ++ e2, ∃ d, g.to = ptr d ∧ B l d := fun hh g hg => by
    rw [← hes] at hg
    exact post_down (h := h.ord) hfw (h.fwd x hxf) hn hto hxr hh g hg
   refine h.lower t t' hr (by omega) (.of_mem fun p hp => ?_) (fun q hq => ?_) (fun q h1 h2 => ?_) o1 o2 (fun c hc => ?_)
   ·rw [places_mid] at hp ⊢
    rw [placesL_append] at hp ⊢
    simp only [placesL, hnd, d1, Bool.false_eq_true, if_false, List.map_append, List.map_cons, List.mem_append, List.mem_cons] at hp ⊢
    rcases hp with hp | (hp | hp | hp) | hp
    ·exact .inl hp
    ·exact .inr (.inl (.inl hp))
    ·exact .inr (.inl (.inr (.inl hp)))
    ·exact .inr (.inl (.inr (.inr (.inr hp))))
    ·exact .inr (.inr hp)
   ·rcases line_one (A := A) (M := [(l, n)]) (M' := [(l, Z0o n nx e1 (Z03 e1)), (nx, Z0p n e2)]) (R := R) hq with h1 | h1
    ·simp at h1
     rcases h1 with rfl | rfl
     ·left; simp [lines, Z0P, Z16]
     ·right; omega
    ·exact .inl h1
   ·obtain rfl : q = nx := by omega
    simp [lines, Z0P, Z16]
   ·rcases mem_one (A := A) (M := [(l, n)]) (M' := [(l, Z0o n nx e1 (Z03 e1)), (nx, Z0p n e2)]) (R := R) hc with h1 | h1
    ·right
     simp at h1
     rcases h1 with rfl | rfl
     ·refine ⟨.inr ⟨nx, rfl, o3⟩, fun hh g hg => ?_⟩
      obtain ⟨d, h1, h2⟩ := hdn hh g (List.mem_append.2 (.inl hg))
      exact ⟨d, h1, o2 _ _ h2⟩
     ·refine ⟨?_, fun hh g hg => ?_⟩
      ·rcases hfw.right with h1 | ⟨r, h1, h2⟩
       ·exact .inl h1
       ·exact .inr ⟨r, h1, o4 r h2⟩
      ·obtain ⟨d, h1, h2⟩ := hdn hh g (List.mem_append.2 (.inr hg))
       exact ⟨d, h1, o4 _ h2⟩
    ·exact .inl h1
 | @kill pre P Q A R lp l p n es1 es2 e f hnd hne hp hto hkey =>
   have hlv : n.level = 0 := by have := (Tree.level (pre := pre ++ [P ++ ((lp, p) :: Q)]) (by simpa using t)).level (l, n) (by simp); simpa using this
   have hrise := Rise.at_low (Tree.level (pre := pre ++ [P ++ ((lp, p) :: Q)]) (post := []) (lv := A ++ (l, n) :: R) (by simpa using t)).rise hnd
   have hfp := h.fwd (lp, p) split_flat
   have hfl : Fwd B (l, n) := h.fwd (l, n) (by simp [Z0P, Z16])
   refine h.lower t t' hr (by omega) (Lower.trans (T1 := pre ++ [P ++ ((lp, { p with entries := es1 ++ f :: es2 }) :: Q), A ++ ((l, n) :: R)]) (.of_mem fun q hq => ?_) ?_) (fun q hq => ?_) (fun q h1 h2 => by omega) (h.ord.more (by omega)) (fun x y hx => hx) (fun c hc => ?_)
   ·rw [places_mid] at hq ⊢
    rw [placesL_append] at hq ⊢
    simpa only [placesL] using hq
   ·have := Lower.mid (pre := pre ++ [P ++ ((lp, ({ p with entries := es1 ++ f :: es2 } : Node)) :: Q)]) (post := []) (X := A ++ ((l, n) :: R)) (X' := A ++ ((l, ({ n with dead := true } : Node)) :: R)) (fun q x hx => ?_)
    ·simpa using this
    ·rw [placesL_append, List.mem_append] at hx
     simp only [placesL, hnd, Bool.false_eq_true, if_false, List.mem_cons] at hx
     rw [placesL_append]
     simp only [placesL, if_true, List.mem_append, List.mem_cons]
     rcases hx with hx | hx | hx
     ·exact ⟨x, .inl hx, Int.le_refl _, fun _ => rfl⟩
     ·exact ⟨x, .inr (.inl hx), Int.le_refl _, fun _ => rfl⟩
     ·obtain ⟨y, h1, h2⟩ := placesL_less R (p := Z05 0 A) (q := n.high) (by have : Z05 0 A < n.high := hrise.1; omega) hx
      exact ⟨y, .inr (.inr h1), h2, fun h => by simp at h⟩
   ·left
    simp only [lines, Z0P, Z16, List.map_append, List.map_cons, List.mem_append, List.mem_cons] at hq ⊢
    exact hq
   ·simp only [Z0P, Z16, List.mem_append, List.mem_cons] at hc
    have hc' : c = (lp, ({ p with entries := es1 ++ f :: es2 } : Node)) ∨ c = (l, ({ n with dead := true } : Node)) ∨ c ∈ flat (pre ++ [P ++ ((lp, p) :: Q), A ++ ((l, n) :: R)]) := by
     simp only [Z0P, Z16, List.mem_append, List.mem_cons]
     rcases hc with hc | (hc | hc | hc) | (hc | hc | hc) | hc
     ·exact .inr (.inr (.inl hc))
     ·exact .inr (.inr (.inr (.inl (.inl hc))))
     ·exact .inl hc
     ·exact .inr (.inr (.inr (.inl (.inr (.inr hc)))))
     ·exact .inr (.inr (.inr (.inr (.inl (.inl hc)))))
     ·exact .inr (.inl hc)
     ·exact .inr (.inr (.inr (.inr (.inl (.inr (.inr hc))))))
     ·exact .inr (.inr (.inr (.inr (.inr hc))))
    rcases hc' with rfl | rfl | hc
    ·right
     refine ⟨hfp.right, fun hh g hg => hfp.down hh g ?_⟩
     show g ∈ p.entries
     have hg2 : g ∈ es1 ++ f :: es2 := hg
     rw [hp]
     simp only [List.mem_append, List.mem_cons] at hg2 ⊢
     rcases hg2 with h1 | h1 | h1
     ·exact .inl h1
     ·exact .inr (.inr (.inl h1))
     ·exact .inr (.inr (.inr h1))
    ·exact .inr (hfl.leafs (fun x y hx => hx) hlv rfl)
    ·exact .inl hc
 | @unlink pre A R l k n m hnd hmd =>
   have hlv : n.level = 0 := by have := t.level.level (l, n) (by simp); simpa using this
   have hmv : m.level = 0 := by have := t.level.level (k, m) (by simp); simpa using this
   have hfl : Fwd B (l, n) := h.fwd (l, n) (by simp [Z0P, Z16])
   have hfk : Fwd B (k, m) := h.fwd (k, m) (by simp [Z0P, Z16])
   have hnr : n.right = ptr k := by
    have := (Chain.append.1 t.level.chain).2
    exact this.1
   have hkm : (k, m) ∈ flat (pre ++ [A ++ ((l, n) :: (k, m) :: R)]) := by simp [Z0P, Z16]
   have hkn : k ∉ lines (pre ++ [A ++ ((l, ({ n with right := m.right } : Node)) :: R)]) := by
    have hn := t.nodup
    simp only [lines, Z0P, Z16, List.map_append, List.map_cons] at hn ⊢
    intro hm
    have hn1 := List.nodup_append.1 hn
    simp only [List.mem_append, List.mem_cons] at hm
    rcases hm with hm | (hm | hm | hm) | hm
    ·exact hn1.2.2 k hm k (by simp) rfl
    ·have hn2 := List.nodup_append.1 (List.nodup_append.1 hn1.2.1).1
     exact hn2.2.2 k hm k (by simp) rfl
    ·have hn2 := List.nodup_append.1 (List.nodup_append.1 hn1.2.1).1
     have hn3 := (List.nodup_cons.1 hn2.2.1).1
     exact hn3 (by rw [← hm]; simp)
    ·have hn2 := List.nodup_append.1 (List.nodup_append.1 hn1.2.1).1
     have hn3 := List.nodup_cons.1 (List.nodup_cons.1 hn2.2.1).2
     exact hn3.1 hm
    ·simp [flat] at hm
   suffices hs : ∃ Lo', Hist (nx + 0) (pre ++ [A ++ ((l, ({ n with right := m.right } : Node)) :: R)]) ((k, m) :: U) (fun c => V c ∨ (c ∈ flat (pre ++ [A ++ ((l, ({ n with right := m.right } : Node)) :: R)]) ∧ 0 < c.2.level)) B Lo' ∧ ∀ l lev k, Lo l lev k → Lo' l lev k by
    obtain ⟨Lo', h1, h2⟩ := hs
    refine ⟨(k, m) :: U, B, Lo', h1, h2, fun c hc => List.mem_cons_of_mem _ hc, fun c hc => ?_⟩
    rcases List.mem_cons.1 hc with rfl | hc
    ·exact .inr hkm
    ·exact .inl hc
   refine h.step t t' hr (show nx ≤ nx + 0 by omega) (fun q lev x hq => ?_) (fun c hc => List.mem_cons_of_mem _ hc) (fun c hc => ?_) (fun q hq => ?_) (fun q h1 h2 => by omega) h.irr h.tr (fun x y hx => by have := h.old x y hx; omega) (fun x y hx => hx) (fun c hc => ?_)
   ·rw [places_mid] at hq
    rw [placesL_append] at hq
    simp only [placesL, hnd, hmd, Bool.false_eq_true, if_false, if_true, List.map_append, List.map_cons, List.mem_append, List.mem_cons] at hq
    have hin : (q, lev, x) ∈ places 0 (pre ++ [A ++ ((l, ({ n with right := m.right } : Node)) :: R)]) ∨ (lev = 0 ∧ q = k) := by
     rw [places_mid, placesL_append]
     simp only [placesL, hnd, Bool.false_eq_true, if_false, List.map_append, List.map_cons, List.mem_append, List.mem_cons]
     rcases hq with hq | (hq | hq | hq | hq) | hq
     ·exact .inl (.inl hq)
     ·exact .inl (.inr (.inl (.inl hq)))
     ·exact .inl (.inr (.inl (.inr (.inl hq))))
     ·right
      simp only [Prod.mk.injEq] at hq
      exact ⟨by rw [hq.2.1]; rfl, hq.1⟩
     ·exact .inl (.inr (.inl (.inr (.inr hq))))
     ·exact .inl (.inr (.inr hq))
    rcases hin with h1 | ⟨h1, rfl⟩
    ·exact .inl ⟨x, h1, Int.le_refl _, fun _ => rfl⟩
    ·exact .inr ⟨h1, m, by simp⟩
   ·rcases List.mem_cons.1 hc with rfl | hc
    ·exact .inr ⟨hkm, hmd, hmv, hkn⟩
    ·exact .inl hc
   ·rcases line_one (A := A) (M := [(l, n), (k, m)]) (M' := [(l, ({ n with right := m.right } : Node))]) (R := R) hq with h1 | h1
    ·simp at h1; subst h1; left; simp [lines, Z0P, Z16]
    ·exact .inl h1
   ·rcases mem_one (A := A) (M := [(l, n), (k, m)]) (M' := [(l, ({ n with right := m.right } : Node))]) (R := R) hc with h1 | h1
    ·right
     simp at h1; subst h1
     refine ⟨?_, fun hh => by have : (0 : Int) < n.level := hh; omega⟩
     have hlk : B l k := by
      rcases hfl.right with h1 | ⟨r, h1, h2⟩
      ·exact absurd (hnr.symm.trans h1) ptr_ne
      ·obtain rfl := Z8k (hnr.symm.trans h1); exact h2
     rcases hfk.right with h1 | ⟨r, h1, h2⟩
     ·exact .inl h1
     ·exact .inr ⟨r, h1, h.tr _ _ _ hlk h2⟩
    ·exact .inl h1
theorem ZbS {ch A R A' R' : List Cell} {c c' : Cell} {k : Int} (hr : Rise 0 ch) (h1 : ch = A ++ c :: R) (h2 : ch = A' ++ c' :: R') (l1 : Z05 0 A < k) (l2 : Z05 0 A' < k) (n1 : ¬ c.2.passes k) (n2 : ¬ c'.2.passes k) : A = A' ∧ c = c' ∧ R = R' := by
 have q1 : Rise 0 (A ++ c :: R) := h1 ▸ hr
 have q2 : Rise 0 (A' ++ c' :: R') := h2 ▸ hr
 have e1 := (Z5W (k := k) (b := c :: R) (Rise.append.1 q1).1 l1).1
 have e2 := (Z5W (k := k) (b := c' :: R') (Rise.append.1 q2).1 l2).1
 rw [← h1] at e1
 rw [← h2] at e2
 simp only [seek, if_neg n1] at e1
 simp only [seek, if_neg n2] at e2
 have e3 : c :: R = c' :: R' := e1.symm.trans e2
 obtain ⟨rfl, rfl⟩ := List.cons.inj e3
 exact ⟨List.append_cancel_right (h1.symm.trans h2), rfl, rfl⟩
theorem Inv.place {ps : List Page} {nx : Int} {es : List Entry} {T : List (List Cell)} (h : Inv ps nx es T) {pre pre' : List (List Cell)} {A R A' R' : List Cell} {c c' : Cell} {k : Int} (h1 : T = pre ++ [A ++ c :: R]) (h2 : T = pre' ++ [A' ++ c' :: R'])
 (l1 : Z05 0 A < k) (l2 : Z05 0 A' < k) (d1 : c.2.dead = false) (g1 : k ≤ c.2.high) (d2 : c'.2.dead = false) (g2 : k ≤ c'.2.high) : pre = pre' ∧ A = A' ∧ c = c' ∧ R = R' := by
 have h3 := List.append_inj' (h1.symm.trans h2) rfl
 have hlv : Level ((([] : List (List Cell)).length : Nat) : Int) (A ++ c :: R) := Tree.level (pre := pre) (h1 ▸ h.tree)
 have np : ∀ x : Cell, x.2.dead = false → k ≤ x.2.high → ¬ x.2.passes k := fun x hd hg hp => by
  rcases hp with hp | hp
  ·rw [hd] at hp; cases hp
  ·omega
 obtain ⟨q1, q2, q3⟩ := ZbS hlv.rise rfl (List.cons.inj h3.2).1 l1 l2 (np c d1 g1) (np c' d2 g2)
 exact ⟨h3.1, q1, q2, q3⟩
def Mix (T : List (List Cell)) (U : List Cell) (V : Cell → Prop) (Lo : Int → Int → Int → Prop) (kn : List Page) : Prop :=
 ∀ l lev k, Lo l lev k → ∃ n, n.level = lev ∧ Sees kn l n ∧ ((l, n) ∈ flat T ∨ (l, n) ∈ U ∨ V (l, n))
section
variable {ps : List Page} {nx : Int} {es : List Entry} {T : List (List Cell)} {U : List Cell} {V : Cell → Prop} {B : Int → Int → Prop} {Lo : Int → Int → Int → Prop} {kn : List Page}
theorem Hist.tells (h : Hist nx T U V B Lo) (ht : Tree T) {c : Cell} (hc : c ∈ flat T ∨ c ∈ U ∨ V c) : Fwd B c ∧ Leads Lo c ∧ 0 ≤ c.2.level := by
 rcases hc with hc | hc | hc
 ·refine ⟨h.fwd c hc, ht.leads h.lo hc, ?_⟩
  obtain ⟨pre, A, R, post, rfl⟩ := flat_split hc
  have := ht.level.level c (by simp)
  omega
 ·obtain ⟨_, g2, _, _, _, g6, g7⟩ := h.gone c hc
  exact ⟨g6, g7, by omega⟩
 ·obtain ⟨g1, g2, g3, _⟩ := h.was c hc
  exact ⟨g2, g3, by omega⟩
theorem Hist.walk (h : Hist nx T U V B Lo) (hi : Inv ps nx es T) (hm : Mix T U V Lo kn) {k : Int} (hk : 1 ≤ k) (hk2 : k ≤ Z08) (m : Nat) : ∀ (P : List Int) (l : Int) (n : Node), P.Nodup → (∀ x ∈ P, B x l ∧ 105 ≤ x ∧ x < nx) → 151 < P.length + m →
 Lo l n.level k → Sees kn l n → ((l, n) ∈ flat T ∨ (l, n) ∈ U ∨ V (l, n)) →
 ∃ hs L e, Walks 0 k (l, n) hs L e ∧ (∀ x ∈ (l, n) :: L, Sees kn x.1 x.2) ∧ e ∈ flat T ∧ Lo e.1 0 k ∧ P.length + 1 + L.length ≤ 151 := by
 have hbd := hi.bound
 induction m with
 | zero =>
   intro P l n hP hPx hlen _ _ _
   have := Z7v 105 (nx - 105).toNat P hP (fun x hx => by have := hPx x hx; omega)
   omega
 | succ m ih =>
   intro P l n hP hPx hlen hlo hse hc
   obtain ⟨f1, f2, f3⟩ := h.tells hi.tree hc
   have hrg : 105 ≤ l ∧ l < nx := by
    rcases h.dom _ _ _ hlo with h1 | ⟨_, n1, h1⟩
    ·obtain ⟨c, hc1, hc2⟩ := List.mem_map.1 h1
     have := hi.range c hc1
     rw [← hc2]; exact this
    ·obtain ⟨_, _, _, g4, g5, _⟩ := h.gone _ h1
     exact ⟨g4, g5⟩
   have hP2 : (l :: P).Nodup := List.nodup_cons.2 ⟨fun hm => h.irr l (hPx l hm).1, hP⟩
   have hlen2 := Z7v 105 (nx - 105).toNat (l :: P) hP2 (fun x hx => by
    rcases List.mem_cons.1 hx with rfl | hx
    ·omega
    ·have := hPx x hx; omega)
   simp only [List.length_cons] at hlen2
   have hnext : ∀ r, B l r → ∀ x ∈ l :: P, B x r ∧ 105 ≤ x ∧ x < nx := fun r hr x hx => by
    rcases List.mem_cons.1 hx with rfl | hx
    ·exact ⟨hr, hrg⟩
    ·exact ⟨h.tr _ _ _ (hPx x hx).1 hr, (hPx x hx).2⟩
   by_cases hp : n.passes k
   ·obtain ⟨r, e1, e2⟩ := f2.right k hk hk2 hlo hp
    have hB : B l r := by
     rcases f1.right with h1 | ⟨r', h1, h2⟩
     ·exact absurd (e1.symm.trans h1) ptr_ne
     ·obtain rfl := Z8k (e1.symm.trans h1); exact h2
    obtain ⟨n', q1, q2, q3⟩ := hm _ _ _ e2
    obtain ⟨hs, L, e, w1, w2, w3, w4, w5⟩ := ih (l :: P) r n' hP2 (hnext r hB) (by simp only [List.length_cons]; omega) (by rw [q1]; exact e2) q2 q3
    refine ⟨_, _, e, .right hp e1 q1 w1, ?_, w3, w4, ?_⟩
    ·intro x hx
     rcases List.mem_cons.1 hx with rfl | hx
     ·exact hse
     ·exact w2 x hx
    ·simp only [List.length_cons] at w5 ⊢; omega
   ·by_cases hl : n.level = 0
    ·refine ⟨[], [], (l, n), .here hp hl, ?_, ?_, by rw [← hl]; exact hlo, by simp only [List.length_nil]; omega⟩
     ·intro x hx
      obtain rfl := List.mem_singleton.1 hx
      exact hse
     ·rcases hc with hc | hc | hc
      ·exact hc
      ·exact absurd (.inl (h.gone _ hc).1) hp
      ·have := (h.was _ hc).1
       have : (0 : Int) < n.level := this
       omega
    ·have hl0 : 0 < n.level := by have : (0 : Int) ≤ n.level := f3; omega
     obtain ⟨x, d, e0, e1, e2⟩ := f2.down k hk hk2 hlo hp hl0
     have hB : B l d := by
      obtain ⟨d', h1, h2⟩ := f1.down hl0 x (List.mem_of_getElem? e0)
      obtain rfl := Z8k (e1.symm.trans h1); exact h2
     obtain ⟨n', q1, q2, q3⟩ := hm _ _ _ e2
     obtain ⟨hs, L, e, w1, w2, w3, w4, w5⟩ := ih (l :: P) d n' hP2 (hnext d hB) (by simp only [List.length_cons]; omega) (by rw [q1]; exact e2) q2 q3
     refine ⟨_, _, e, .down hp hl e0 e1 q1 w1, ?_, w3, w4, ?_⟩
     ·intro x hx
      rcases List.mem_cons.1 hx with rfl | hx
      ·exact hse
      ·exact w2 x hx
     ·simp only [List.length_cons] at w5 ⊢; omega
def RootWas (Lo : Int → Int → Int → Prop) (p : Page) : Prop := locked p = false ∧ ∃ r lev lv, Z1p p = some (ptr r, lv) ∧ ∀ k, 1 ≤ k → Lo r lev k
theorem Hist.lookup (h : Hist nx T U V B Lo) (hi : Inv ps nx es T) (hT : T ≠ []) (hm : Mix T U V Lo kn) {k : Int} (hk : 1 ≤ k) (hk2 : k ≤ Z0e) {op : Op} (hop : op.key = k) {r lev : Int} (hr : Lo r lev k) (s : St) (hs : s.root = ptr r) (hs0 : s.out = {}) (hsn : s.need = []) (hsw : s.writes = []) :
 ∃ t page n, Dives kn 0 op.key s t (.at_ page n) ∧ (s.find op kn).need = [] ∧ (s.find op kn).writes = [] ∧ (s.find op kn).ended = true ∧ (s.find op kn).out.code = 0 ∧ (s.find op kn).out.found = Z0T es k ∧
  (s.find op kn).out.to = (if Z0T es k then (es.getD (child es k) default).to else nilP) ∧ (s.find op kn).out.check.length = 1 := by
 subst hop
 have hk3 : op.key ≤ Z08 := by unfold Z0e at hk2; unfold Z08; omega
 obtain ⟨n0, q1, q2, q3⟩ := hm _ _ _ hr
 obtain ⟨hs1, L, e, w1, w2, w3, w4, w5⟩ := h.walk hi hm hk hk3 152 [] r n0 List.nodup_nil (fun x hx => by cases hx) (by simp) (by rw [q1]; exact hr) q2 q3
 obtain ⟨le, ne⟩ := e
 have hlast := w1.last
 simp only [List.length_nil] at w5
 have hn0 : 0 ≤ n0.level := (h.tells hi.tree q3).2.2
 have hlook : s.look kn s.root false = (s, some (pg kn r, n0)) := by rw [hs]; exact q2.look s false
 have hd : Dives kn 0 op.key s (after hs1 (n0.level + 1) s) (.at_ (pg kn le) ne) := by
  have := Walks.goes (height := n0.level + 1) w1 w2 s
  rw [Z8Z] at this
  exact .goes hlook (by omega) (by omega) this
 -- where it ended
 obtain ⟨q, hq⟩ := hi.tree.place w3
 have hql := ((h.lo _ _ _ hq _ _).1 w4).2
 obtain ⟨pre, A, n', R, post, hT1, hT2, hT3⟩ := mem_places.1 hq
 have hlev0 : ne.level = 0 := hlast.2.2
 have hpost : post = [] := by
  have : (((post.length : Nat) : Int)) = 0 := by rw [← hT2]; exact hlev0
  exact List.length_eq_zero_iff.1 (by omega)
 subst hpost
 have hnn : n' = ne := by
  have hmem : (le, n') ∈ flat T := by rw [hT1]; exact split_flat
  have hnd := hi.tree.nodup
  have := inj_of_nodup (f := fun c : Cell => c.1) hnd hmem w3 rfl
  simpa using this
 subst hnn
 have hnp : ¬ n'.passes op.key := hlast.2.1
 have hnd : n'.dead = false := by
  cases hd : n'.dead with
  | false => rfl
  | true => exact absurd (.inl hd) hnp
 have hkh : op.key ≤ n'.high := by
  have : ¬ n'.high < op.key := fun h => hnp (.inr h)
  omega
 obtain ⟨pre2, A2, l2, n2, R2, hs2, i1, i3, i3b, i4, i5, i5b, i6, i6b, i6c, i7, i8, i9, i10, i11, i12, i13⟩ := hi.leaf hT hk hk3
 obtain ⟨rfl, rfl, hcc, rfl⟩ := hi.place (c := (le, n')) (c' := (l2, n2)) hT1 i1 (by rw [← hT3]; exact hql) i3 hnd hkh i4 i5
 simp only [Prod.mk.injEq] at hcc
 obtain ⟨rfl, rfl⟩ := hcc
 obtain ⟨p1, p2, p3, p4, p5⟩ := Z37 (m := n'.entries) i10 i11
 rw [← i9] at p1 p2 p3
 have hroot : ¬ s.root = nilP := by rw [hs]; exact ptr_ne
 have hline : (pg kn le).line = le := (w2 _ hlast.1).line
 refine ⟨_, _, _, hd, ?_⟩
 unfold St.find
 rw [if_neg hroot, hd.descend]
 simp only
 by_cases hhk : Z0T n'.entries op.key = true
 ·rw [if_pos hhk]
  refine ⟨hsn, hsw, rfl, rfl, ?_, ?_, rfl⟩
  ·show true = _
   rw [p2, hhk]
  ·rw [p2, if_pos hhk, p3 _ hhk]; rfl
 ·have hhk' : Z0T n'.entries op.key = false := by simpa using hhk
  rw [if_neg (by rw [hhk']; simp)]
  refine ⟨hsn, hsw, rfl, rfl, ?_, ?_, rfl⟩
  ·rw [p2, hhk']
   show s.out.found = false
   rw [hs0]
  ·rw [p2, hhk']
   show s.out.to = _
   rw [hs0]; rfl
end
end Go.Proofs.YtjmpekanlmepmaaGreatDoor.Bt
