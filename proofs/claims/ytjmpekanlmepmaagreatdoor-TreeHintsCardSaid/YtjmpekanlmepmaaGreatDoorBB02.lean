/- A B-link tree: what keeps it one when a part of a level is replaced (plain Lean). -/
import Derived.Test.YtjmpekanlmepmaaGreatDoorBB01
set_option linter.all false
set_option maxRecDepth 20000
set_option maxHeartbeats 8000000
namespace Go.Proofs.YtjmpekanlmepmaaGreatDoor.Bt
theorem Node.valid_of {n : Node} (h1 : 0 ≤ n.level) (h2 : n.level ≤ 8) (h3 : n.entries.length ≤ 5) (h4 : rising n.entries = true) (h5 : n.high ≠ 0) (h6 : n.right = nilP ∨ Z0w n.right = true) (h7 : n.high = Z08 ↔ n.right = nilP) (h8 : Z03 n.entries ≤ n.high)
 (h9 : n.dead = true → n.level = 0 ∧ n.entries = [] ∧ n.leftmost = false ∧ n.right ≠ nilP) (h10 : 0 < n.level → Z03 n.entries = n.high) (h11 : n.level = 0 → Z03 n.entries ≤ Z0e) : n.valid = true := by
 unfold Node.valid
 rw [if_neg (by
  rintro (h | h | h | h | h)
  ·omega
  ·omega
  ·omega
  ·rw [h4] at h; cases h
  ·exact h5 h)]
 rw [if_neg (by
  rintro (⟨ha, hb⟩ | h)
  ·rcases h6 with h6 | h6
   ·exact ha h6
   ·rw [h6] at hb; cases hb
  ·apply h
   by_cases hn : n.right = nilP
   ·simp [hn, h7.2 hn]
   ·have : n.high ≠ Z08 := fun e => hn (h7.1 e)
    simp [hn, this])]
 by_cases hl : 0 < n.level
 ·rw [if_pos hl]
  have hd : n.dead = false := by
   cases hd : n.dead with
   | false => rfl
   | true => have := (h9 hd).1; omega
  simp [hd, h10 hl]
 ·rw [if_neg hl, if_neg (by
    rintro ⟨hd, h⟩
    obtain ⟨_, e1, e2, e3⟩ := h9 hd
    rcases h with h | h | h
    ·rw [e1] at h; simp at h
    ·rw [e2] at h; cases h
    ·exact e3 h)]
  simp [h8, h11 (by omega)]
theorem Z0C {p : Int} {a b : List Entry} : Z09 p (a ++ b) = true ↔ Z09 p a = true ∧ Z09 (Z1l p a) b = true := by
 induction a generalizing p with
 | nil => simp [Z09, Z1l]
 | cons e a ih => simp only [List.cons_append, Z09, Z1l, Bool.and_eq_true, ih, and_assoc]
theorem Z2t {p q : Int} {a : List Entry} (h : Z09 p a = true) (hq : q ≤ p) : Z09 q a = true := by
 cases a with
 | nil => rfl
 | cons e a =>
   simp only [Z09, Bool.and_eq_true, decide_eq_true_eq] at h ⊢
   exact ⟨⟨by omega, h.1.2⟩, h.2⟩
theorem Z3j {p q : Int} {a : List Entry} (h : Z09 p a = true) (hq : ∀ e ∈ a, q < e.key) : Z09 q a = true := by
 cases a with
 | nil => rfl
 | cons e a =>
   simp only [Z09, Bool.and_eq_true, decide_eq_true_eq] at h ⊢
   exact ⟨⟨hq e (by simp), h.1.2⟩, h.2⟩
theorem Z5a {p : Int} {a : List Entry} (h : Z09 p a = true) : p ≤ Z1l p a ∧ ∀ e ∈ a, e.key ≤ Z1l p a := by
 induction a generalizing p with
 | nil => exact ⟨Int.le_refl _, fun e he => by cases he⟩
 | cons e a ih =>
   simp only [Z09, Bool.and_eq_true, decide_eq_true_eq] at h
   obtain ⟨h1, h2⟩ := ih h.2
   simp only [Z1l]
   refine ⟨by omega, fun x hx => ?_⟩
   rcases List.mem_cons.1 hx with rfl | hx
   ·exact h1
   ·exact h2 x hx
theorem Z4O (p : Int) (e : Entry) (a : List Entry) : Z1l p (e :: a) = Z1l e.key a := rfl
theorem Z3r (e : Entry) {a : List Entry} (h : a ≠ []) : Z03 (e :: a) = Z03 a := by
 cases a with
 | nil => exact absurd rfl h
 | cons x a => rfl
theorem Z1n (a : List Entry) {b : List Entry} (h : b ≠ []) : Z03 (a ++ b) = Z03 b := by
 induction a with
 | nil => rfl
 | cons x a ih => rw [List.cons_append, Z3r _ (by simp [h]), ih]
theorem Level.swap {l : Int} {A M M' R : List Cell} (h : Level l (A ++ (M ++ R))) (hne : M' ≠ []) (hm : M ≠ []) (hc : Chain M' (Z14 R nilP)) (hh : Z14 M' nilP = Z14 M nilP) (hl : ∀ x ∈ M', x.2.level = l) (hr : Rise (Z05 0 A) M')
 (hlow : Z05 (Z05 0 A) M' ≤ Z05 (Z05 0 A) M) (hv : ∀ x ∈ M', x.2.valid = true) (hf : Lefts (A.isEmpty) M') : Level l (A ++ (M' ++ R)) := by
 have hhp : ∀ e, Z14 M' e = Z14 M e := fun e => by
  cases M' with
  | nil => exact absurd rfl hne
  | cons x M' => cases M with
    | nil => exact absurd rfl hm
    | cons y M => exact hh
 have c1 := Chain.append.1 h.chain
 have c2 := Chain.append.1 c1.2
 have r1 := Rise.append.1 h.rise
 have r2 := Rise.append.1 r1.2
 have f1 := Lefts.append.1 h.lefts
 have f2 := Lefts.append.1 f1.2
 refine ⟨by simp [hne], ?_, ?_, ?_, ?_, ?_⟩
 ·refine Chain.append.2 ⟨?_, Chain.append.2 ⟨hc, c2.2⟩⟩
  rw [Z21, hhp, ← Z21]; exact c1.1
 ·intro x hx
  simp only [List.mem_append] at hx
  rcases hx with hx | hx | hx
  ·exact h.level x (by simp [hx])
  ·exact hl x hx
  ·exact h.level x (by simp [hx])
 ·exact Rise.append.2 ⟨r1.1, Rise.append.2 ⟨hr, r2.2.less hlow⟩⟩
 ·intro x hx
  simp only [List.mem_append] at hx
  rcases hx with hx | hx | hx
  ·exact h.valid x (by simp [hx])
  ·exact hv x hx
  ·exact h.valid x (by simp [hx])
 ·refine Lefts.append.2 ⟨f1.1, Lefts.append.2 ⟨by simpa using hf, ?_⟩⟩
  have e1 : M'.isEmpty = false := by cases M' with | nil => exact absurd rfl hne | cons _ _ => rfl
  have e2 : M.isEmpty = false := by cases M with | nil => exact absurd rfl hm | cons _ _ => rfl
  have := f2.2
  rw [e2] at this
  rw [e1]
  simpa using this
theorem Z2L (p : Int) {l : List Cell} (h : ∀ x ∈ l, x.2.dead = true) : Z05 p l = p := by
 induction l generalizing p with
 | nil => rfl
 | cons c l ih => simp only [Z05, if_pos (h c (by simp))]; exact ih p (fun x hx => h x (by simp [hx]))
theorem Named.swap {A R ms ms' : List Cell} {d d' : Cell} {p : Int} {e : Entry} (h : Named (A ++ (d :: ms ++ R)) p e) (hd : d'.1 = d.1) (hms : ∀ x ∈ ms, x.2.dead = true) (hl : d.2.dead = false → d'.2.dead = false)
 (hlow : Z05 (Z05 0 A) (d' :: ms') = Z05 (Z05 0 A) (d :: ms)) : Named (A ++ (d' :: ms' ++ R)) p e := by
 obtain ⟨a, t, b, h1, h2, h3, h4⟩ := h
 rcases List.append_eq_append_iff.1 h1 with ⟨a', e1, e2⟩ | ⟨a', e1, e2⟩
 ·cases a' with
  | nil =>
    simp only [List.nil_append, List.cons_append, List.cons.injEq] at e2
    obtain ⟨rfl, e2⟩ := e2
    rw [List.append_nil] at e1
    subst e1
    exact ⟨a, d', ms' ++ R, rfl, by rw [h2, hd], hl h3, h4⟩
  | cons x a' =>
    simp only [List.cons_append, List.cons.injEq] at e2
    obtain ⟨rfl, e2⟩ := e2
    rcases List.append_eq_append_iff.1 e2 with ⟨a2, q1, q2⟩ | ⟨a2, q1, q2⟩
    ·subst q1
     refine ⟨A ++ (d' :: ms' ++ a2), t, b, by rw [q2]; simp, h2, h3, ?_⟩
     rw [← h4, e1, Z0S, Z0S, hlow]
     rw [show d :: (ms ++ a2) = d :: ms ++ a2 from rfl, Z0S 0 A, Z0S (Z05 0 A) (d :: ms) a2]
    ·cases a2 with
     | nil =>
       simp only [List.append_nil] at q1
       simp only [List.nil_append] at q2
       subst q1
       refine ⟨A ++ (d' :: ms'), t, b, by rw [← q2]; simp, h2, h3, ?_⟩
       rw [← h4, e1, Z0S, Z0S, hlow]
     | cons y a2 =>
       exfalso
       simp only [List.cons_append, List.cons.injEq] at q2
       have := hms y (by rw [q1]; simp)
       rw [← q2.1, h3] at this
       cases this
 ·cases a' with
  | nil =>
    simp only [List.nil_append, List.append_nil] at e1 e2
    simp only [List.cons_append, List.cons.injEq] at e2
    obtain ⟨rfl, e2⟩ := e2
    subst e1
    exact ⟨A, d', ms' ++ R, rfl, by rw [h2, hd], hl h3, h4⟩
  | cons x a' =>
    simp only [List.cons_append, List.cons.injEq] at e2
    obtain ⟨rfl, e2⟩ := e2
    exact ⟨a, t, a' ++ (d' :: ms' ++ R), by rw [e1]; simp, h2, h3, h4⟩
theorem Names.imp {lo lo' : List Cell} (hi : ∀ p e, Named lo p e → Named lo' p e) {p : Int} {es : List Entry} (h : Names lo p es) : Names lo' p es := by
 induction es generalizing p with
 | nil => trivial
 | cons e es ih => exact ⟨hi p e h.1, ih h.2⟩
def Dead (ks : List Entry) : Int → List Cell → Prop
 | _, [] => True
 | low, c :: r => if c.2.dead then (∃ e ∈ ks, e.key = low) ∧ Dead ks low r else Dead ks c.2.high r
theorem Dead.append {ks : List Entry} {low : Int} {a b : List Cell} : Dead ks low (a ++ b) ↔ Dead ks low a ∧ Dead ks (Z05 low a) b := by
 induction a generalizing low with
 | nil => simp [Dead, Z05]
 | cons c a ih =>
   simp only [List.cons_append, Dead, Z05]
   split
   ·rw [ih, and_assoc]
   ·exact ih
theorem Dead.mono {ks ks' : List Entry} {low : Int} {a : List Cell} (h : Dead ks low a) (hk : ∀ e ∈ ks, ∃ e' ∈ ks', e'.key = e.key) : Dead ks' low a := by
 induction a generalizing low with
 | nil => trivial
 | cons c a ih =>
   simp only [Dead] at h ⊢
   split
   ·rename_i hd
    rw [if_pos hd] at h
    obtain ⟨⟨e, he, rfl⟩, h2⟩ := h
    exact ⟨hk e he, ih h2⟩
   ·rename_i hd
    rw [if_neg hd] at h
    exact ih h
theorem Dead.none {low : Int} {a : List Cell} (h : Dead [] low a) : ∀ x ∈ a, x.2.dead = false := by
 induction a generalizing low with
 | nil => intro x hx; cases hx
 | cons c a ih =>
   simp only [Dead] at h
   split at h
   ·obtain ⟨⟨e, he, _⟩, _⟩ := h; cases he
   ·rename_i hd
    intro x hx
    rcases List.mem_cons.1 hx with rfl | hx
    ·simpa using hd
    ·exact ih h x hx
theorem Dead.of_none {ks : List Entry} {low : Int} {a : List Cell} (h : ∀ x ∈ a, x.2.dead = false) : Dead ks low a := by
 induction a generalizing low with
 | nil => trivial
 | cons c a ih =>
   simp only [Dead, if_neg (show ¬ c.2.dead = true by rw [h c (by simp)]; simp)]
   exact ih (fun x hx => h x (by simp [hx]))
def Deads (ks : List Entry) : List (List Cell) → Prop
 | [] => True
 | [c] => Dead ks 0 c
 | c :: d :: t => Deads (ents c) (d :: t)
theorem Levels.append {a b : List (List Cell)} (h : Levels (a ++ b)) : Levels b := by
 induction a with
 | nil => exact h
 | cons c a ih => exact ih h.2
theorem Links.append {a b : List (List Cell)} (h : Links (a ++ b)) : Links b := by
 induction a with
 | nil => exact h
 | cons c a ih => exact ih h.tail
theorem Levels.replace {pre post : List (List Cell)} {lv lv' : List Cell} (h : Levels (pre ++ lv :: post)) (hl : Level ((post.length : Nat) : Int) lv') : Levels (pre ++ lv' :: post) := by
 induction pre with
 | nil => exact ⟨hl, h.2⟩
 | cons c pre ih =>
   refine ⟨?_, ih h.2⟩
   have := h.1
   simpa using this
theorem Levels.replace2 {pre post : List (List Cell)} {up up' lo lo' : List Cell} (h : Levels (pre ++ up :: lo :: post)) (hu : Level (((lo :: post).length : Nat) : Int) up') (hl : Level ((post.length : Nat) : Int) lo') : Levels (pre ++ up' :: lo' :: post) := by
 induction pre with
 | nil => exact ⟨by simpa using hu, hl, h.2.2⟩
 | cons c pre ih =>
   refine ⟨?_, ih h.2⟩
   have := h.1
   simpa using this
theorem Links.replace {pre post : List (List Cell)} {lv lv' : List Cell} (h : Links (pre ++ lv :: post)) (h1 : ∀ es, Names lv 0 es → Names lv' 0 es) (h2 : ∀ lo t, post = lo :: t → Names lo 0 (ents lv')) : Links (pre ++ lv' :: post) := by
 induction pre with
 | nil =>
   cases post with
   | nil => trivial
   | cons lo t => exact ⟨h2 lo t rfl, h.2⟩
 | cons c pre ih =>
   have h0 := ih h.tail
   cases pre with
   | nil => exact ⟨h1 _ h.1, h0⟩
   | cons d pre => exact ⟨h.1, h0⟩
theorem Links.replace2 {pre post : List (List Cell)} {up up' lo lo' : List Cell} (h : Links (pre ++ up :: lo :: post)) (h1 : ∀ es, Names up 0 es → Names up' 0 es) (h2 : Names lo' 0 (ents up')) (h3 : ∀ x t, post = x :: t → Names x 0 (ents lo')) : Links (pre ++ up' :: lo' :: post) := by
 induction pre with
 | nil =>
   cases post with
   | nil => exact ⟨h2, trivial⟩
   | cons x t => exact ⟨h2, h3 x t rfl, h.2.2⟩
 | cons c pre ih =>
   have h0 := ih h.tail
   cases pre with
   | nil => exact ⟨h1 _ h.1, h0⟩
   | cons d pre => exact ⟨h.1, h0⟩
theorem Deads.leaf {ks : List Entry} {pre : List (List Cell)} {lo lo' : List Cell} (h : Deads ks (pre ++ [lo])) (h1 : ∀ ks, Dead ks 0 lo → Dead ks 0 lo') : Deads ks (pre ++ [lo']) := by
 induction pre generalizing ks with
 | nil => exact h1 _ h
 | cons c pre ih =>
   cases pre with
   | nil => exact h1 _ h
   | cons d pre => exact ih h
theorem Deads.inner {ks : List Entry} {pre post : List (List Cell)} {lv lv' lo : List Cell} (h : Deads ks (pre ++ lv :: lo :: post)) (hk : ∀ e ∈ ents lv, ∃ e' ∈ ents lv', e'.key = e.key) : Deads ks (pre ++ lv' :: lo :: post) := by
 induction pre generalizing ks with
 | nil =>
   cases post with
   | nil => exact Dead.mono h hk
   | cons x t => exact h
 | cons c pre ih =>
   cases pre with
   | nil => exact ih (ks := ents c) h
   | cons d pre => exact ih (ks := ents c) h
theorem Deads.pair {ks : List Entry} {pre : List (List Cell)} {up up' lo lo' : List Cell} (h : Deads ks (pre ++ [up, lo])) (h1 : Dead (ents up) 0 lo → Dead (ents up') 0 lo') : Deads ks (pre ++ [up', lo']) := by
 induction pre generalizing ks with
 | nil => exact h1 h
 | cons c pre ih =>
   cases pre with
   | nil => exact h1 h
   | cons d pre => exact ih h
theorem Deads.get {ks : List Entry} {pre : List (List Cell)} {up lo : List Cell} (h : Deads ks (pre ++ [up, lo])) : Dead (ents up) 0 lo := by
 induction pre generalizing ks with
 | nil => exact h
 | cons c pre ih =>
   cases pre with
   | nil => exact h
   | cons d pre => exact ih h
def lines (T : List (List Cell)) : List Int := (flat T).map (·.1)
theorem Z0P (a b : List (List Cell)) : flat (a ++ b) = flat a ++ flat b := by simp [flat]
theorem Z16 (a : List Cell) (b : List (List Cell)) : flat (a :: b) = a ++ flat b := rfl
theorem Z3c (pre post : List (List Cell)) (A M R : List Cell) : lines (pre ++ (A ++ (M ++ R)) :: post) = (flat pre ++ A).map (·.1) ++ M.map (·.1) ++ (R ++ flat post).map (·.1) := by
 simp [lines, Z0P, Z16]
structure Tree (T : List (List Cell)) : Prop where
 levels : Levels T
 links : Links T
 deads : Deads [] T
 nodup : (lines T).Nodup
theorem Tree.level {pre post : List (List Cell)} {lv : List Cell} (h : Tree (pre ++ lv :: post)) : Level ((post.length : Nat) : Int) lv := h.levels.append.1
theorem Level.live {l : Int} {c : List Cell} (h : Level l c) (hl : 0 < l) : ∀ x ∈ c, x.2.dead = false := fun x hx => by
 cases hd : x.2.dead with
 | false => rfl
 | true =>
   have := ((Node.valid_parts (h.valid x hx)).2.2.2.2.2.2.2.2.1 hd).1
   have := h.level x hx
   omega
theorem Level.first {l : Int} {x : Cell} {r : List Cell} (h : Level l (x :: r)) : x.2.dead = false ∧ x.2.leftmost = true := by
 have hf := h.lefts.1
 refine ⟨?_, hf⟩
 cases hd : x.2.dead with
 | false => rfl
 | true =>
   have := ((Node.valid_parts (h.valid x (by simp))).2.2.2.2.2.2.2.2.1 hd).2.2.1
   rw [hf] at this; cases this
structure Fits (n : Node) (low : Int) (es : List Entry) : Prop where
 rise : Z09 low es = true
 le : Z03 es ≤ n.high
 inner : 0 < n.level → Z03 es = n.high
 leaf : n.level = 0 → Z03 es ≤ Z0e
theorem Fits.valid {n : Node} {low : Int} {es : List Entry} (hf : Fits n low es) (hn : n.valid = true) (hd : n.dead = false) (h0 : 0 ≤ low) (h5 : es.length ≤ 5) : ({ n with entries := es } : Node).valid = true := by
 obtain ⟨a1, a2, a3, a4, a5, a6, a7, a8, a9, a10, a11⟩ := Node.valid_parts hn
 exact Node.valid_of a1 a2 h5 (Z2t hf.rise h0) a5 a6 a7 hf.le (fun h => absurd h (by show ¬ n.dead = true; rw [hd]; simp)) hf.inner hf.leaf
theorem Rise.one {low : Int} {c : Cell} (hd : c.2.dead = false) : Rise low [c] ↔ low < c.2.high ∧ ∀ e ∈ c.2.entries, low < e.key := by
 simp [Rise, hd]
theorem Z5o {p : Int} {a : List Entry} (h : Z09 p a = true) : ∀ e ∈ a, p < e.key := fun e he => (Z3B h e he).1
theorem Tree.entries {pre post : List (List Cell)} {A R : List Cell} {l : Int} {n : Node} {es : List Entry} (h : Tree (pre ++ (A ++ ((l, n) :: R)) :: post)) (hd : n.dead = false) (hf : Fits n (Z05 0 A) es) (h0 : 0 ≤ Z05 0 A) (h5 : es.length ≤ 5)
 (hlow : ∀ lo t, post = lo :: t → Names lo 0 (ents A ++ (es ++ ents R)) ∧ ∀ e ∈ n.entries, ∃ e' ∈ es, e'.key = e.key) : Tree (pre ++ (A ++ ((l, { n with entries := es }) :: R)) :: post) := by
 have hlv := h.level
 have hn : n.valid = true := hlv.valid (l, n) (by simp)
 have hr := Rise.at_low hlv.rise hd
 have hl2 : Level ((post.length : Nat) : Int) (A ++ ([(l, { n with entries := es })] ++ R)) := by
  refine Level.swap (M := [(l, n)]) (by simpa using hlv) (by simp) (by simp) ?_ rfl ?_ ?_ ?_ ?_ ?_
  ·have := (Chain.append.1 (Chain.append.1 (show Chain (A ++ ([(l, n)] ++ R)) nilP by simpa using hlv.chain)).2).1
   exact this
  ·intro x hx
   simp at hx; subst hx
   exact hlv.level (l, n) (by simp)
  ·rw [Rise.one hd]
   exact ⟨hr.1, Z5o hf.rise⟩
  ·rw [Z1A _ (c := (l, n)) hd, Z1A _ (c := (l, { n with entries := es })) hd]; exact Int.le_refl _
  ·intro x hx
   simp at hx; subst hx
   exact hf.valid hn hd h0 h5
  ·have := (Lefts.append.1 hlv.lefts).2.1
   exact ⟨by simpa using this, trivial⟩
 have hsw : ∀ es', Names (A ++ ((l, n) :: R)) 0 es' → Names (A ++ ((l, { n with entries := es }) :: R)) 0 es' := fun es' hn' => Names.imp (fun p e hne => Named.swap (d := (l, n)) (d' := (l, { n with entries := es })) (ms := []) (ms' := []) hne rfl (fun x hx => by cases hx) (fun _ => hd) (by rw [Z1A _ (c := (l, n)) hd, Z1A _ (c := (l, { n with entries := es })) hd])) hn'
 refine ⟨h.levels.replace hl2, h.links.replace hsw ?_, ?_, ?_⟩
 ·intro lo t hp
  have := (hlow lo t hp).1
  simpa [Z0I, Z0N] using this
 ·cases post with
  | nil =>
    refine h.deads.leaf fun ks hk => ?_
    rw [Dead.append] at hk ⊢
    refine ⟨hk.1, ?_⟩
    have := hk.2
    simp only [Dead, hd] at this ⊢
    exact this
  | cons lo t =>
    refine h.deads.inner fun e he => ?_
    simp only [Z0I, Z0N, List.mem_append] at he ⊢
    rcases he with he | he | he
    ·exact ⟨e, .inl he, rfl⟩
    ·obtain ⟨e', he', hk⟩ := (hlow lo t rfl).2 e he
     exact ⟨e', .inr (.inl he'), hk⟩
    ·exact ⟨e, .inr (.inr he), rfl⟩
 ·have := h.nodup
  rw [show A ++ (l, n) :: R = A ++ ([(l, n)] ++ R) by simp, Z3c] at this
  rw [show A ++ (l, ({ n with entries := es } : Node)) :: R = A ++ ([(l, { n with entries := es })] ++ R) by simp, Z3c]
  exact this
def Z0o (n : Node) (new : Int) (e1 : List Entry) (h : Int) : Node := { n with high := h, right := ptr new, entries := e1 }
def Z0p (n : Node) (e2 : List Entry) : Node := ⟨n.level, false, false, n.high, n.right, e2⟩
theorem Tree.split {pre post : List (List Cell)} {A R : List Cell} {l new : Int} {n : Node} {e1 e2 : List Entry} (h : Tree (pre ++ (A ++ ((l, n) :: R)) :: post)) (hd : n.dead = false) (hf : Fits n (Z05 0 A) (e1 ++ e2)) (h0 : 0 ≤ Z05 0 A)
 (h1 : e1 ≠ []) (h2 : e2 ≠ []) (h15 : e1.length ≤ 5) (h25 : e2.length ≤ 5) (hnew : Z0w (ptr new) = true) (hfresh : new ∉ lines (pre ++ (A ++ ((l, n) :: R)) :: post)) (hmax : n.high ≤ Z08)
 (hlow : ∀ lo t, post = lo :: t → Names lo 0 (ents A ++ ((e1 ++ e2) ++ ents R)) ∧ ∀ e ∈ n.entries, ∃ e' ∈ e1 ++ e2, e'.key = e.key) :
 Tree (pre ++ (A ++ ((l, Z0o n new e1 (Z03 e1)) :: (new, Z0p n e2) :: R)) :: post) := by
 have hlv := h.level
 have hn : n.valid = true := hlv.valid (l, n) (by simp)
 have hr := Rise.at_low hlv.rise hd
 obtain ⟨a1, a2, a3, a4, a5, a6, a7, a8, a9, a10, a11⟩ := Node.valid_parts hn
 have r12 := Z0C.1 hf.rise
 have hk1 : Z1l (Z05 0 A) e1 = Z03 e1 := Z3q _ _ h1
 have hgt : Z05 0 A < Z03 e1 := Z4K r12.1 h1
 have hlt : Z03 e1 < Z03 e2 := by have := Z4K r12.2 h2; rw [hk1] at this; exact this
 have hle2 : Z03 (e1 ++ e2) = Z03 e2 := Z1n e1 h2
 have hd1 : (Z0o n new e1 (Z03 e1)).dead = false := hd
 have hd2 : (Z0p n e2).dead = false := rfl
 have hlev0 : n.level = ((post.length : Nat) : Int) := hlv.level (l, n) (by simp)
 have hnn : ptr new ≠ nilP := fun h => by have := Z2T; rw [← h, hnew] at this; cases this
 have hle := hf.le
 rw [hle2] at hle
 have v1 : (Z0o n new e1 (Z03 e1)).valid = true := by
  refine Node.valid_of a1 a2 h15 (Z2t r12.1 h0) (by show Z03 e1 ≠ 0; omega) (.inr hnew) ⟨fun e => ?_, fun e => absurd e hnn⟩ (Int.le_refl _) (fun h => absurd h (by rw [hd1]; simp)) (fun _ => rfl) (fun hl0 => ?_)
  ·exfalso
   have : Z03 e1 = Z08 := e
   omega
  ·have := hf.leaf hl0
   rw [hle2] at this
   show Z03 e1 ≤ Z0e
   omega
 have v2 : (Z0p n e2).valid = true := by
  refine Node.valid_of a1 a2 h25 (Z2t r12.2 (by rw [hk1]; omega)) a5 a6 a7 hle (fun h => by cases h) (fun hl0 => ?_) (fun hl0 => ?_)
  ·have := hf.inner hl0
   rw [hle2] at this
   exact this
  ·have := hf.leaf hl0
   rw [hle2] at this
   exact this
 have hlows : Z05 (Z05 0 A) [(l, Z0o n new e1 (Z03 e1)), (new, Z0p n e2)] = Z05 (Z05 0 A) [(l, n)] := by
  simp only [Z05, hd, hd1, hd2]
  rfl
 have hl2 : Level ((post.length : Nat) : Int) (A ++ ([(l, Z0o n new e1 (Z03 e1)), (new, Z0p n e2)] ++ R)) := by
  refine Level.swap (M := [(l, n)]) (by simpa using hlv) (by simp) (by simp) ?_ rfl ?_ ?_ ?_ ?_ ?_
  ·have := (Chain.append.1 (Chain.append.1 (show Chain (A ++ ([(l, n)] ++ R)) nilP by simpa using hlv.chain)).2).1
   exact ⟨rfl, this.1, trivial⟩
  ·intro x hx
   simp at hx
   rcases hx with rfl | rfl <;> exact hlev0
  ·simp only [Rise, hd1, hd2]
   refine ⟨hgt, Z5o r12.1, ?_, ?_, trivial⟩
   ·show Z03 e1 < n.high; omega
   ·show ∀ e ∈ e2, Z03 e1 < e.key
    have := Z5o r12.2
    rw [hk1] at this
    exact this
  ·rw [hlows]; exact Int.le_refl _
  ·intro x hx
   simp at hx
   rcases hx with rfl | rfl
   ·exact v1
   ·exact v2
  ·have := (Lefts.append.1 hlv.lefts).2.1
   exact ⟨by simpa [Z0o] using this, rfl, trivial⟩
 have hsw : ∀ es', Names (A ++ ((l, n) :: R)) 0 es' → Names (A ++ ((l, Z0o n new e1 (Z03 e1)) :: (new, Z0p n e2) :: R)) 0 es' := fun es' hn' => Names.imp (fun p e hne => Named.swap (d := (l, n)) (d' := (l, Z0o n new e1 (Z03 e1))) (ms := []) (ms' := [(new, Z0p n e2)]) hne rfl (fun x hx => by cases hx) (fun _ => hd1) hlows) hn'
 refine ⟨h.levels.replace hl2, h.links.replace hsw ?_, ?_, ?_⟩
 ·intro lo t hp
  have := (hlow lo t hp).1
  simpa [Z0I, Z0N, Z0o, Z0p] using this
 ·cases post with
  | nil =>
    refine h.deads.leaf fun ks hk => ?_
    rw [Dead.append] at hk ⊢
    refine ⟨hk.1, ?_⟩
    have := hk.2
    simp only [Dead, hd, hd1, hd2] at this ⊢
    exact this
  | cons lo t =>
    refine h.deads.inner fun e he => ?_
    simp only [Z0I, Z0N, List.mem_append] at he ⊢
    rcases he with he | he | he
    ·exact ⟨e, .inl he, rfl⟩
    ·obtain ⟨e', he', hk⟩ := (hlow lo t rfl).2 e he
     rcases List.mem_append.1 he' with h1 | h1
     ·exact ⟨e', .inr (.inl h1), hk⟩
     ·exact ⟨e', .inr (.inr (.inl h1)), hk⟩
    ·exact ⟨e, .inr (.inr (.inr he)), rfl⟩
 ·have hnd := h.nodup
  rw [show A ++ (l, n) :: R = A ++ ([(l, n)] ++ R) by simp] at hnd hfresh
  rw [Z3c] at hnd hfresh
  rw [show A ++ (l, Z0o n new e1 (Z03 e1)) :: (new, Z0p n e2) :: R = A ++ ([(l, Z0o n new e1 (Z03 e1)), (new, Z0p n e2)] ++ R) by simp, Z3c]
  have hp : List.Perm ((flat pre ++ A).map (·.1) ++ [(l, Z0o n new e1 (Z03 e1)), (new, Z0p n e2)].map (·.1) ++ (R ++ flat post).map (·.1)) (new :: ((flat pre ++ A).map (·.1) ++ [(l, n)].map (·.1) ++ (R ++ flat post).map (·.1))) := by
   simp only [List.map_cons, List.map_nil, List.append_assoc, List.cons_append, List.nil_append]
   have e1 : ∀ (x : List Int) (y : List Int), List.Perm (x ++ l :: new :: y) (new :: (x ++ l :: y)) := fun x y => by
    have h1 : List.Perm (x ++ l :: new :: y) (x ++ new :: l :: y) := List.Perm.append_left x (List.Perm.swap new l y)
    exact h1.trans List.perm_middle
   exact e1 _ _
  exact hp.nodup_iff.2 (List.nodup_cons.2 ⟨hfresh, hnd⟩)
theorem Rise.gt {p : Int} {R : List Cell} (hR : Rise p R) : ∀ x ∈ R, x.2.dead = false → p < x.2.high := by
 induction R generalizing p with
 | nil => intro x hx; cases hx
 | cons c R ih =>
   intro x hx hxd
   simp only [Rise] at hR
   split at hR
   ·rename_i hcd
    rcases List.mem_cons.1 hx with rfl | hx
    ·rw [hcd] at hxd; cases hxd
    ·exact ih hR x hx hxd
   ·rcases List.mem_cons.1 hx with rfl | hx
    ·exact hR.1
    ·have := ih hR.2.2 x hx hxd; omega
theorem Tree.unlink {pre : List (List Cell)} {A R : List Cell} {l k : Int} {n m : Node} (h : Tree (pre ++ [A ++ ((l, n) :: (k, m) :: R)])) (hd : n.dead = false) (hm : m.dead = true) : Tree (pre ++ [A ++ ((l, { n with right := m.right }) :: R)]) := by
 have hlv := h.level
 have hn : n.valid = true := hlv.valid (l, n) (by simp)
 have hmv : m.valid = true := hlv.valid (k, m) (by simp)
 have hr := Rise.at_low (a := A) (c := (l, n)) (r := (k, m) :: R) hlv.rise hd
 have hc := (Chain.append.1 (Chain.append.1 (show Chain (A ++ ([(l, n), (k, m)] ++ R)) nilP by simpa using hlv.chain)).2).1
 have hlows : Z05 (Z05 0 A) [(l, ({ n with right := m.right } : Node))] = Z05 (Z05 0 A) [(l, n), (k, m)] := by
  simp only [Z05, hd, hm]
  rfl
 obtain ⟨a1, a2, a3, a4, a5, a6, a7, a8, a9, a10, a11⟩ := Node.valid_parts hn
 obtain ⟨b1, b2, b3, b4, b5, b6, b7, b8, b9, b10, b11⟩ := Node.valid_parts hmv
 have hnr : n.right ≠ nilP := by
  have h1 : n.right = ptr k := hc.1
  rw [h1]
  intro h2
  have h3 := Z2T
  rcases a6 with a6 | a6
  ·-- the right pointer of a node is nil only at the end; here it names k
   have hsr := hlv.rise
   rw [Rise.append] at hsr
   have hs2 := hsr.2
   simp only [Rise] at hs2
   rw [if_neg (by rw [hd]; simp), if_pos hm] at hs2
   have hmax : n.high = Z08 := a7.2 a6
   have hch := (Chain.append.1 (show Chain ((A ++ [(l, n)]) ++ (k, m) :: R) nilP by simpa using hlv.chain)).2
   obtain ⟨a, x, e, _, e2, e3⟩ := hch.last (fun x hx => hlv.valid x (by simp only [List.mem_append, List.mem_cons] at hx ⊢; rcases hx with hx | hx <;> simp [hx])) (by simp)
   cases a with
   | nil =>
     simp only [List.nil_append, List.cons.injEq] at e
     rw [← e.1] at e3
     rw [hm] at e3; cases e3
   | cons y a =>
     simp only [List.cons_append, List.cons.injEq] at e
     have hx : x ∈ R := by rw [e.2]; simp
     have h5 : n.high < x.2.high := Rise.gt hs2.2.2 x hx e3
     have h6 : x.2.high = Z08 := e2
     omega
  ·rw [h1, h2, h3] at a6; cases a6
 have hmr : m.right ≠ nilP := (b9 hm).2.2.2
 have hl2 : Level ((([] : List (List Cell)).length : Nat) : Int) (A ++ ([(l, { n with right := m.right })] ++ R)) := by
  refine Level.swap (M := [(l, n), (k, m)]) (by simpa using hlv) (by simp) (by simp) ?_ rfl ?_ ?_ ?_ ?_ ?_
  ·exact ⟨hc.2.1, trivial⟩
  ·intro x hx
   simp at hx; subst hx
   exact hlv.level (l, n) (by simp)
  ·rw [Rise.one hd]
   exact hr
  ·rw [hlows]; exact Int.le_refl _
  ·intro x hx
   simp at hx; subst hx
   refine Node.valid_of a1 a2 a3 a4 a5 b6 ⟨fun e => absurd (a7.1 e) hnr, fun e => absurd e hmr⟩ a8 (fun h => absurd h (by show ¬ n.dead = true; rw [hd]; simp)) a10 a11
  ·have := (Lefts.append.1 hlv.lefts).2.1
   exact ⟨by simpa using this, trivial⟩
 have hsw : ∀ es', Names (A ++ ((l, n) :: (k, m) :: R)) 0 es' → Names (A ++ ((l, { n with right := m.right }) :: R)) 0 es' := fun es' hn' => Names.imp (fun p e hne => Named.swap (d := (l, n)) (d' := (l, { n with right := m.right })) (ms := [(k, m)]) (ms' := []) hne rfl (fun x hx => by simp at hx; subst hx; exact hm) (fun _ => hd) hlows) hn'
 refine ⟨h.levels.replace hl2, h.links.replace hsw (fun lo t hp => by cases hp), ?_, ?_⟩
 ·refine h.deads.leaf fun ks hk => ?_
  rw [Dead.append] at hk ⊢
  refine ⟨hk.1, ?_⟩
  have := hk.2
  simp only [Dead] at this ⊢
  rw [if_neg (by rw [hd]; simp)] at this ⊢
  rw [if_pos hm] at this
  exact this.2
 ·have := h.nodup
  rw [show A ++ (l, n) :: (k, m) :: R = A ++ ([(l, n), (k, m)] ++ R) by simp, Z3c] at this
  rw [show A ++ (l, ({ n with right := m.right } : Node)) :: R = A ++ ([(l, { n with right := m.right })] ++ R) by simp, Z3c]
  refine List.Nodup.sublist ?_ this
  simp only [List.map_cons, List.map_nil, List.append_assoc, List.cons_append, List.nil_append]
  exact List.Sublist.append (List.Sublist.refl _) ((List.sublist_cons_self k _).cons₂ l)
def Z2H (e : Entry) : Node := ⟨0, true, false, Z08, nilP, [e]⟩
theorem Tree.plant {e : Entry} {new : Int} (hk : 0 < e.key ∧ e.key ≤ Z0e) (hto : Z0w e.to = true) : Tree [[(new, Z2H e)]] := by
 refine ⟨⟨⟨by simp, ⟨rfl, trivial⟩, ?_, ?_, ?_, ⟨rfl, trivial⟩⟩, trivial⟩, trivial, ?_, ?_⟩
 ·intro x hx; simp at hx; subst hx; rfl
 ·rw [Rise.one rfl]
  refine ⟨by show (0 : Int) < Z08; decide, fun x hx => ?_⟩
  simp [Z2H] at hx; subst hx; exact hk.1
 ·intro x hx; simp at hx; subst hx
  refine Node.valid_of (Int.le_refl 0) (by show (0 : Int) ≤ 8; omega) (by show [e].length ≤ 5; simp) ?_ (by show Z08 ≠ 0; decide) (.inl rfl) ⟨fun _ => rfl, fun _ => rfl⟩ (by show e.key ≤ Z08; have := hk.2; unfold Z0e at this; unfold Z08; omega) (fun h => by cases h) (fun h => by cases h) (fun _ => hk.2)
  show Z09 0 [e] = true
  simp [Z09, hto]; exact hk.1
 ·exact Dead.of_none fun x hx => by simp at hx; subst hx; rfl
 ·show [new].Nodup
  simp
def Z2D (lev : Int) (high : Int) (first second : Ptr) : Node := ⟨lev, true, false, Z08, nilP, [⟨high, first⟩, ⟨Z08, second⟩]⟩
theorem Tree.raise {x y : Cell} {r : List Cell} {t : List (List Cell)} {new : Int} (h : Tree ((x :: y :: r) :: t)) (hlev : (t.length : Int) + 1 ≤ 8) (hfresh : new ∉ lines ((x :: y :: r) :: t)) (hv : ∀ c ∈ flat ((x :: y :: r) :: t), Z0w (ptr c.1) = true) :
 Tree ([(new, Z2D ((t.length : Int) + 1) x.2.high (ptr x.1) (ptr y.1))] :: (x :: y :: r) :: t) := by
 have hlv := h.levels.1
 have hx := hlv.first
 have hch := hlv.chain
 have hxh : 0 < x.2.high ∧ x.2.high < Z08 := by
  have h1 := Rise.at_low (a := []) hlv.rise hx.1
  have h2 := Node.valid_parts (hlv.valid x (by simp))
  refine ⟨h1.1, ?_⟩
  have hr := hlv.rise
  simp only [Rise] at hr
  rw [if_neg (by rw [hx.1]; simp)] at hr
  obtain ⟨a, z, e, _, e2, e3⟩ := (show Chain (y :: r) nilP from hch.2).last (fun c hc => hlv.valid c (by simp only [List.mem_cons] at hc ⊢; exact .inr hc)) (by simp)
  have := Rise.gt (p := x.2.high) (R := y :: r) hr.2.2 z (by rw [e]; simp) e3
  omega
 have hy : y.2.dead = false := by
  cases t with
  | nil => exact Dead.none (show Dead [] 0 (x :: y :: r) from h.deads) y (by simp)
  | cons c t => exact hlv.live (by simp only [List.length_cons]; omega) y (by simp)
 have hN : (Z2D ((t.length : Int) + 1) x.2.high (ptr x.1) (ptr y.1)).valid = true := by
  have v1 := hv x (by simp [flat])
  have v2 := hv y (by simp [flat])
  refine Node.valid_of (by show (0 : Int) ≤ (t.length : Int) + 1; omega) hlev (by simp [Z2D]) ?_ (by show Z08 ≠ 0; decide) (.inl rfl) ⟨fun _ => rfl, fun _ => rfl⟩ (Int.le_refl _) (fun h => by cases h) (fun _ => rfl) (fun h => ?_)
  ·show Z09 0 [_, _] = true
   simp [Z09, v1, v2]; exact ⟨hxh.1, hxh.2⟩
  ·exfalso
   have : (t.length : Int) + 1 = 0 := h
   omega
 refine ⟨⟨⟨by simp, ⟨rfl, trivial⟩, ?_, ?_, ?_, ⟨rfl, trivial⟩⟩, h.levels⟩, ⟨?_, h.links⟩, ?_, ?_⟩
 ·intro c hc; simp at hc; subst hc
  show (t.length : Int) + 1 = _
  simp
 ·rw [Rise.one rfl]
  refine ⟨by show (0 : Int) < Z08; decide, fun e he => ?_⟩
  simp [Z2D] at he
  rcases he with rfl | rfl
  ·exact hxh.1
  ·show (0 : Int) < Z08; decide
 ·intro c hc; simp at hc; subst hc; exact hN
 ·refine ⟨⟨[], x, y :: r, rfl, rfl, hx.1, rfl⟩, ⟨[x], y, r, rfl, rfl, hy, ?_⟩, trivial⟩
  exact Z1A 0 hx.1
 ·cases t with
  | nil => exact Dead.mono (show Dead [] 0 (x :: y :: r) from h.deads) (fun e he => by cases he)
  | cons c t => exact h.deads
 ·show (new :: lines ((x :: y :: r) :: t)).Nodup
  exact List.nodup_cons.2 ⟨hfresh, h.nodup⟩
theorem Z59 {p : Int} {a b : List Cell} (h : Rise p (a ++ b)) : Z05 p a ≤ Z05 p (a ++ b) := by
 rw [Z0S]
 exact (Rise.append.1 h).2.low.1
theorem Z4G (l : List Cell) : (∀ x ∈ l, x.2.dead = true) ∨ ∀ p q, Z05 p l = Z05 q l := by
 induction l with
 | nil => exact .inl fun x hx => by cases hx
 | cons c l ih =>
   by_cases hd : c.2.dead = true
   ·rcases ih with ih | ih
    ·left
     intro x hx
     rcases List.mem_cons.1 hx with rfl | hx
     ·exact hd
     ·exact ih x hx
    ·right
     intro p q
     simp only [Z05, if_pos hd]
     exact ih p q
   ·right
    intro p q
    simp only [Z05, if_neg hd]
theorem Rise.low_gt {p : Int} {a : List Cell} (h : Rise p a) (hl : ∃ x ∈ a, x.2.dead = false) : p < Z05 p a := by
 obtain ⟨x, hx, hd⟩ := hl
 have h1 := h.gt x hx hd
 have h2 := h.low.2 x hx hd
 omega
theorem Level.risingEnts {l : Int} {c : List Cell} (h : Level l c) : Z09 0 (ents c) = true := by
 have key : ∀ (p : Int) (c : List Cell), Rise p c → (∀ x ∈ c, x.2.valid = true) → Z09 p (ents c) = true := by
  intro p c
  induction c generalizing p with
  | nil => intro _ _; rfl
  | cons x c ih =>
    intro hr hv
    have hx := Node.valid_parts (hv x (by simp))
    simp only [Rise] at hr
    rw [Z0N, Z0C]
    split at hr
    ·rename_i hd
     have he : x.2.entries = [] := (hx.2.2.2.2.2.2.2.2.1 hd).2.1
     rw [he]
     exact ⟨rfl, ih p hr (fun y hy => hv y (by simp [hy]))⟩
    ·have h1 : Z09 p x.2.entries = true := Z3j hx.2.2.2.1 hr.2.1
     refine ⟨h1, Z2t (ih _ hr.2.2 (fun y hy => hv y (by simp [hy]))) ?_⟩
     by_cases hne : x.2.entries = []
     ·rw [hne]; show p ≤ x.2.high; omega
     ·rw [Z3q _ _ hne]; exact hx.2.2.2.2.2.2.2.1
 exact key 0 c h.rise h.valid
theorem Tree.kill {pre : List (List Cell)} {U V A R : List Cell} {lp l : Int} {p n : Node} {es1 es2 : List Entry} {e f : Entry} (h : Tree (pre ++ [U ++ ((lp, p) :: V), A ++ ((l, n) :: R)]))
 (hd : n.dead = false) (hlm : n.leftmost = false) (hne : n.entries = []) (hnr : n.right ≠ nilP) (hp : p.entries = es1 ++ e :: f :: es2) (hto : e.to = ptr l) (hkey : e.key = n.high) :
 Tree (pre ++ [U ++ ((lp, { p with entries := es1 ++ f :: es2 }) :: V), A ++ ((l, { n with dead := true }) :: R)]) := by
 have hup : Level ((([A ++ ((l, n) :: R)] : List (List Cell)).length : Nat) : Int) (U ++ ((lp, p) :: V)) := h.level
 have hlo : Level ((([] : List (List Cell)).length : Nat) : Int) (A ++ ((l, n) :: R)) := Tree.level (pre := pre ++ [U ++ ((lp, p) :: V)]) (by simpa using h)
 have hpd : p.dead = false := hup.live (by simp) (lp, p) (by simp)
 have hpv : p.valid = true := hup.valid (lp, p) (by simp)
 have hnv : n.valid = true := hlo.valid (l, n) (by simp)
 obtain ⟨a1, a2, a3, a4, a5, a6, a7, a8, a9, a10, a11⟩ := Node.valid_parts hpv
 obtain ⟨b1, b2, b3, b4, b5, b6, b7, b8, b9, b10, b11⟩ := Node.valid_parts hnv
 have hrp := Rise.at_low hup.rise hpd
 have hrn := Rise.at_low hlo.rise hd
 have hrA := (Rise.append.1 hlo.rise).1
 have hrR : Rise n.high R := by
  have := (Rise.append.1 hlo.rise).2
  simp only [Rise] at this
  rw [if_neg (by rw [hd]; simp)] at this
  exact this.2.2
 -- names
 have hN : Names (A ++ ((l, n) :: R)) 0 (ents (U ++ ((lp, p) :: V))) := (Links.append (a := pre) h.links).1
 obtain ⟨E1, hE1⟩ : ∃ E1, E1 = ents U ++ es1 := ⟨_, rfl⟩
 obtain ⟨E2, hE2⟩ : ∃ E2, E2 = es2 ++ ents V := ⟨_, rfl⟩
 have hents : ents (U ++ ((lp, p) :: V)) = E1 ++ e :: f :: E2 := by simp [Z0I, Z0N, hp, hE1, hE2]
 have hents' : ents (U ++ ((lp, ({ p with entries := es1 ++ f :: es2 } : Node)) :: V)) = E1 ++ f :: E2 := by simp [Z0I, Z0N, hE1, hE2]
 have hRs := hup.risingEnts
 rw [hents] at hN hRs
 have hr1 := Z0C.1 hRs
 have hr2 := hr1.2
 simp only [Z09, Bool.and_eq_true, decide_eq_true_eq] at hr2
 obtain ⟨⟨hr2a, hr2b⟩, ⟨hr2c, hr2d⟩, hr2e⟩ := hr2
 have hN1 := (Names.append.1 hN).1
 obtain ⟨hNe, hNf, hN2⟩ := (Names.append.1 hN).2
 -- where e stands
 have hL : Z05 0 A = Z1l 0 E1 := by
  obtain ⟨a, t, b, q1, q2, q3, q4⟩ := hNe
  have hlt : t.1 = l := Z8k (by rw [← q2, hto])
  have hnd : ((A ++ ((l, n) :: R)).map (·.1)).Nodup := by
   have := h.nodup
   simp only [lines, Z0P, Z16, List.map_append] at this
   have h2 := (List.nodup_append.1 (List.nodup_append.1 this).2.1).2.1
   simpa [flat] using h2
  have hA : a = A := by
   rw [q1] at hnd
   rcases List.append_eq_append_iff.1 q1 with ⟨a', e1, e2⟩ | ⟨a', e1, e2⟩
   ·cases a' with
    | nil => simpa using e1
    | cons x a' =>
      exfalso
      simp only [List.cons_append, List.cons.injEq] at e2
      have hx : x.1 = l := by rw [← e2.1]
      rw [e1] at hnd
      simp only [List.map_append, List.map_cons] at hnd
      have h3 := (List.nodup_append.1 hnd).2.2 l (by simp [hx]) l (by simp [hlt])
      exact h3 rfl
   ·cases a' with
    | nil => simpa using e1.symm
    | cons x a' =>
      exfalso
      simp only [List.cons_append, List.cons.injEq] at e2
      rw [e2.2] at hnd
      simp only [List.map_append, List.map_cons] at hnd
      have h3 := (List.nodup_append.1 hnd).2.1
      have h4 := (List.nodup_cons.1 h3).1
      apply h4
      simp [hlt]
  rw [← hA]; exact q4
 have hLH : Z05 0 A < n.high := hrn.1
 -- a place in the level below, before and after
 have place : ∀ q g, Named (A ++ ((l, n) :: R)) q g → (q < Z05 0 A → Named (A ++ ((l, { n with dead := true }) :: R)) q g) ∧ (q = n.high → Named (A ++ ((l, { n with dead := true }) :: R)) (Z05 0 A) g) ∧ (n.high < q → Named (A ++ ((l, { n with dead := true }) :: R)) q g) := by
  rintro q g ⟨a, t, b, q1, q2, q3, q4⟩
  rcases List.append_eq_append_iff.1 q1 with ⟨a', e1, e2⟩ | ⟨a', e1, e2⟩
  ·cases a' with
   | nil =>
     rw [List.append_nil] at e1
     subst e1
     exact ⟨fun hq => by omega, fun hq => by omega, fun hq => by omega⟩
   | cons x a' =>
     simp only [List.cons_append, List.cons.injEq] at e2
     obtain ⟨rfl, e2⟩ := e2
     subst e1
     have hlow : Z05 0 (A ++ (l, n) :: a') = Z05 n.high a' := by
      rw [Z0S]
      simp only [Z05, hd]
      rfl
     have hlow' : Z05 0 (A ++ (l, ({ n with dead := true } : Node)) :: a') = Z05 (Z05 0 A) a' := by
      rw [Z0S]
      simp only [Z05]
      rfl
     have hra : Rise n.high a' := (Rise.append.1 (e2 ▸ hrR)).1
     have hge := hra.low.1
     rw [hlow] at q4
     have mk : ∀ q', Z05 (Z05 0 A) a' = q' → Named (A ++ ((l, { n with dead := true }) :: R)) q' g := fun q' hq' => ⟨A ++ (l, { n with dead := true }) :: a', t, b, by rw [e2]; simp, q2, q3, by rw [hlow', hq']⟩
     refine ⟨fun hq => by omega, fun hq => mk _ ?_, fun hq => mk _ ?_⟩
     ·rcases Z4G a' with hc | hc
      ·exact Z2L _ hc
      ·exfalso
       have : (∃ x ∈ a', x.2.dead = false) ∨ ∀ x ∈ a', x.2.dead = true := by
        by_cases hx : ∃ x ∈ a', x.2.dead = false
        ·exact .inl hx
        ·right
         intro x hxm
         cases hxd : x.2.dead with
         | true => rfl
         | false => exact absurd ⟨x, hxm, hxd⟩ hx
       rcases this with hx | hx
       ·have := hra.low_gt hx; omega
       ·have h1 := hc 0 1
        rw [Z2L _ hx, Z2L _ hx] at h1
        omega
     ·rcases Z4G a' with hc | hc
      ·rw [Z2L _ hc] at q4; omega
      ·rw [hc _ n.high]; exact q4
  ·cases a' with
   | nil =>
     rw [List.append_nil] at e1
     subst e1
     exact ⟨fun hq => by omega, fun hq => by omega, fun hq => by omega⟩
   | cons x a' =>
     simp only [List.cons_append, List.cons.injEq] at e2
     obtain ⟨rfl, e2⟩ := e2
     have hle : Z05 0 a ≤ Z05 0 A := by rw [e1]; exact Z59 (by rw [← e1]; exact hrA)
     refine ⟨fun _ => ⟨a, t, a' ++ (l, { n with dead := true }) :: R, by rw [e1]; simp, q2, q3, q4⟩, fun hq => by omega, fun hq => by omega⟩
 have small : ∀ (q : Int) (es : List Entry), Z09 q es = true → (es ≠ [] → Z1l q es ≤ Z05 0 A) → Names (A ++ ((l, n) :: R)) q es → Names (A ++ ((l, { n with dead := true }) :: R)) q es := by
  intro q es
  induction es generalizing q with
  | nil => intro _ _ _; trivial
  | cons g es ih =>
    intro hr hl hn
    simp only [Z09, Bool.and_eq_true, decide_eq_true_eq] at hr
    have h1 := hl (by simp)
    rw [Z4O] at h1
    have h2 := (Z5a hr.2).1
    exact ⟨(place q g hn.1).1 (by omega), ih g.key hr.2 (fun _ => h1) hn.2⟩
 have large : ∀ (q : Int) (es : List Entry), Z09 q es = true → n.high < q → Names (A ++ ((l, n) :: R)) q es → Names (A ++ ((l, { n with dead := true }) :: R)) q es := by
  intro q es
  induction es generalizing q with
  | nil => intro _ _ _; trivial
  | cons g es ih =>
    intro hr hl hn
    simp only [Z09, Bool.and_eq_true, decide_eq_true_eq] at hr
    exact ⟨(place q g hn.1).2.2 hl, ih g.key hr.2 (by omega) hn.2⟩
 have hN' : Names (A ++ ((l, { n with dead := true }) :: R)) 0 (E1 ++ f :: E2) := by
  refine Names.append.2 ⟨small 0 E1 hr1.1 (fun _ => by omega) hN1, ?_, large f.key E2 hr2e (by omega) hN2⟩
  rw [← hL]
  exact (place e.key f hNf).2.1 hkey
 -- the upper level
 have hk2 : Z03 (es1 ++ f :: es2) = Z03 p.entries := by
  rw [hp, Z1n es1 (by simp), Z1n es1 (by simp), Z3r e (by simp)]
 have hrs : Z09 0 (es1 ++ f :: es2) = true := by
  have := a4
  unfold rising at this
  rw [hp, Z0C] at this
  have h2 := this.2
  simp only [Z09, Bool.and_eq_true, decide_eq_true_eq] at h2
  refine Z0C.2 ⟨this.1, ?_⟩
  simp only [Z09, Bool.and_eq_true, decide_eq_true_eq]
  exact ⟨⟨by omega, h2.2.1.2⟩, h2.2.2⟩
 have hpv' : ({ p with entries := es1 ++ f :: es2 } : Node).valid = true := by
  refine Node.valid_of a1 a2 (by rw [hp] at a3; simp at a3 ⊢; omega) hrs a5 a6 a7 (by rw [hk2]; exact a8) (fun h => absurd h (by show ¬ p.dead = true; rw [hpd]; simp)) (fun h => by rw [hk2]; exact a10 h) (fun h => by rw [hk2]; exact a11 h)
 have hlows : Z05 (Z05 0 U) [(lp, ({ p with entries := es1 ++ f :: es2 } : Node))] = Z05 (Z05 0 U) [(lp, p)] := by
  rw [Z1A _ (c := (lp, p)) hpd, Z1A _ (c := (lp, ({ p with entries := es1 ++ f :: es2 } : Node))) hpd]
 have hup' : Level ((([A ++ ((l, n) :: R)] : List (List Cell)).length : Nat) : Int) (U ++ ([(lp, { p with entries := es1 ++ f :: es2 })] ++ V)) := by
  refine Level.swap (M := [(lp, p)]) (by simpa using hup) (by simp) (by simp) ?_ rfl ?_ ?_ ?_ ?_ ?_
  ·exact (Chain.append.1 (Chain.append.1 (show Chain (U ++ ([(lp, p)] ++ V)) nilP by simpa using hup.chain)).2).1
  ·intro x hx; simp at hx; subst hx
   exact hup.level (lp, p) (by simp)
  ·rw [Rise.one hpd]
   refine ⟨hrp.1, fun g hg => hrp.2 g ?_⟩
   show g ∈ p.entries
   rw [hp]
   simp only [List.mem_append, List.mem_cons] at hg ⊢
   rcases hg with hg | hg | hg
   ·exact .inl hg
   ·exact .inr (.inr (.inl hg))
   ·exact .inr (.inr (.inr hg))
  ·rw [hlows]; exact Int.le_refl _
  ·intro x hx; simp at hx; subst hx; exact hpv'
  ·have := (Lefts.append.1 hup.lefts).2.1
   exact ⟨by simpa using this, trivial⟩
 -- the lower level
 have hnv' : ({ n with dead := true } : Node).valid = true := by
  have hl0 : n.level = 0 := hlo.level (l, n) (by simp)
  exact Node.valid_of b1 b2 b3 b4 b5 b6 b7 b8 (fun _ => ⟨hl0, hne, hlm, hnr⟩) b10 b11
 have hlo' : Level ((([] : List (List Cell)).length : Nat) : Int) (A ++ ([(l, { n with dead := true })] ++ R)) := by
  refine Level.swap (M := [(l, n)]) (by simpa using hlo) (by simp) (by simp) ?_ rfl ?_ ?_ ?_ ?_ ?_
  ·exact (Chain.append.1 (Chain.append.1 (show Chain (A ++ ([(l, n)] ++ R)) nilP by simpa using hlo.chain)).2).1
  ·intro x hx; simp at hx; subst hx
   exact hlo.level (l, n) (by simp)
  ·simp [Rise]
  ·rw [Z1A _ (c := (l, n)) hd, Z5L _ (c := (l, { n with dead := true })) rfl]
   show Z05 0 A ≤ n.high
   omega
  ·intro x hx; simp at hx; subst hx; exact hnv'
  ·have := (Lefts.append.1 hlo.lefts).2.1
   exact ⟨by simpa using this, trivial⟩
 have hsw : ∀ es', Names (U ++ ((lp, p) :: V)) 0 es' → Names (U ++ ((lp, { p with entries := es1 ++ f :: es2 }) :: V)) 0 es' := fun es' hn' => Names.imp (fun q g hg => Named.swap (d := (lp, p)) (d' := (lp, { p with entries := es1 ++ f :: es2 })) (ms := []) (ms' := []) hg rfl (fun x hx => by cases hx) (fun _ => hpd) hlows) hn'
 have hmem : ∀ g ∈ E1 ++ e :: f :: E2, g.key ≠ n.high → g ∈ E1 ++ f :: E2 := fun g hg hgk => by
  simp only [List.mem_append, List.mem_cons] at hg ⊢
  rcases hg with hg | hg | hg
  ·exact .inl hg
  ·subst hg; exact absurd hkey hgk
  ·exact .inr hg
 refine ⟨?_, ?_, ?_, ?_⟩
 ·refine h.levels.replace2 (by simpa using hup') (by simpa using hlo')
 ·refine h.links.replace2 hsw ?_ (fun x t hx => by cases hx)
  rw [hents']; exact hN'
 ·refine h.deads.pair fun hD => ?_
  rw [hents] at hD
  rw [hents']
  rw [Dead.append] at hD ⊢
  have hE1ne : ∃ g ∈ E1, g.key = Z05 0 A := by
   have hAne : A ≠ [] := fun hA => by
    subst hA
    have := hlo.lefts.1
    rw [hlm] at this; cases this
   have hpos : 0 < Z05 0 A := by
    cases A with
    | nil => exact absurd rfl hAne
    | cons x A =>
      have hx := hlo.first
      exact hrA.low_gt ⟨x, by simp, hx.1⟩
   have hlast : ∀ (q : Int) (es : List Entry), q < Z1l q es → ∃ g ∈ es, g.key = Z1l q es := by
    intro q es
    induction es generalizing q with
    | nil => intro hq; exact absurd hq (by simp [Z1l])
    | cons g es ih =>
      intro hq
      rw [Z4O] at hq ⊢
      by_cases hg : g.key < Z1l g.key es
      ·obtain ⟨g', h1, h2⟩ := ih g.key hg
       exact ⟨g', by simp [h1], h2⟩
      ·cases es with
       | nil => exact ⟨g, by simp, rfl⟩
       | cons g2 es =>
         by_cases hge : Z1l g.key (g2 :: es) = g.key
         ·exact ⟨g, by simp, hge.symm⟩
         ·-- the last key is one of the keys
          have : ∀ (q : Int) (es : List Entry), es ≠ [] → ∃ g ∈ es, g.key = Z1l q es := by
           intro q es
           induction es generalizing q with
           | nil => intro h; exact absurd rfl h
           | cons x es ih2 =>
             intro _
             rw [Z4O]
             cases es with
             | nil => exact ⟨x, by simp, rfl⟩
             | cons y es =>
               obtain ⟨g', h1, h2⟩ := ih2 x.key (by simp)
               exact ⟨g', by simp only [List.mem_cons] at h1 ⊢; exact .inr h1, h2⟩
          obtain ⟨g', h1, h2⟩ := this g.key (g2 :: es) (by simp)
          exact ⟨g', by simp only [List.mem_cons] at h1 ⊢; exact .inr h1, h2⟩
   rw [hL] at hpos ⊢
   exact hlast 0 E1 hpos
  refine ⟨?_, ?_⟩
  ·have key : ∀ (q : Int) (B : List Cell), Rise q B → Z05 q B ≤ Z05 0 A → Dead (E1 ++ e :: f :: E2) q B → Dead (E1 ++ f :: E2) q B := by
     intro q B
     induction B generalizing q with
     | nil => intro _ _ _; trivial
     | cons c B ih =>
       intro hr hle hD
       simp only [Dead] at hD ⊢
       simp only [Rise] at hr
       simp only [Z05] at hle
       split
       ·rename_i hcd
        rw [if_pos hcd] at hD hr hle
        obtain ⟨⟨g, hg, hgk⟩, hD⟩ := hD
        have := hr.low.1
        exact ⟨⟨g, hmem g hg (by omega), hgk⟩, ih q hr hle hD⟩
       ·rename_i hcd
        rw [if_neg hcd] at hD hr hle
        exact ih _ hr.2.2 hle hD
   exact key 0 A hrA (Int.le_refl _) hD.1
  ·have hD2 := hD.2
   simp only [Dead, hd] at hD2
   simp only [Dead, if_true]
   obtain ⟨g, hg, hgk⟩ := hE1ne
   refine ⟨⟨g, by simp [hg], hgk⟩, ?_⟩
   have key2 : ∀ (q : Int) (B : List Cell), Rise q B → n.high < q → Dead (E1 ++ e :: f :: E2) q B → Dead (E1 ++ f :: E2) q B := by
    intro q B
    induction B generalizing q with
    | nil => intro _ _ _; trivial
    | cons c B ih =>
      intro hr hle hD
      simp only [Dead] at hD ⊢
      simp only [Rise] at hr
      split
      ·rename_i hcd
       rw [if_pos hcd] at hD hr
       obtain ⟨⟨g, hg, hgk⟩, hD⟩ := hD
       exact ⟨⟨g, hmem g hg (by omega), hgk⟩, ih q hr hle hD⟩
      ·rename_i hcd
       rw [if_neg hcd] at hD hr
       exact ih _ hr.2.2 (by omega) hD
   have key : ∀ (B : List Cell), Rise n.high B → Dead (E1 ++ e :: f :: E2) n.high B → Dead (E1 ++ f :: E2) (Z05 0 A) B := by
    intro B
    induction B with
    | nil => intro _ _; trivial
    | cons c B ih =>
      intro hr hD
      simp only [Dead] at hD ⊢
      simp only [Rise] at hr
      split
      ·rename_i hcd
       rw [if_pos hcd] at hD hr
       exact ⟨⟨g, by simp [hg], hgk⟩, ih hr hD.2⟩
      ·rename_i hcd
       rw [if_neg hcd] at hD hr
       exact key2 _ _ hr.2.2 (by omega) hD
   exact key R hrR hD2
 ·have := h.nodup
  have e1 : ∀ (x : List Cell) (y : List Cell), lines (pre ++ [x, y]) = (flat pre).map (·.1) ++ (x.map (·.1) ++ y.map (·.1)) := fun x y => by simp [lines, Z0P, Z16, flat]
  rw [e1] at this ⊢
  simpa using this
end Go.Proofs.YtjmpekanlmepmaaGreatDoor.Bt
