/- Sorting pages by their lines, plainly: what parts of a list keep, what a swap and a turn do. -/
import Derived.Test.YtcoiehgcfjfhaaaGreatDoorQ01
import Derived.Test.YtcoiehgcfjfhaaaGreatDoorQ03
import Derived.Deep.MidRow
import Derived.BigRegion
set_option linter.all false
set_option maxRecDepth 20000
set_option maxHeartbeats 8000000
open Go.Lib (hid)
namespace Go.Proofs.YtcoiehgcfjfhaaaGreatDoor
namespace Srt
open Bt
def ln (l : List Page) (i : Nat) : Int := match l[i]? with | some p => p.line | none => 0
theorem ln_at {l : List Page} {i : Nat} (h : i < l.length) : ln l i = l[i].line := by simp [ln, List.getElem?_eq_getElem h]
def Asc (a b : Nat) (l : List Page) : Prop := ∀ i j, a ≤ i → i ≤ j → j < b → ln l i ≤ ln l j
structure Part (a b : Nat) (l l' : List Page) : Prop where
  len : l'.length = l.length
  out : ∀ i, i < a ∨ b ≤ i → l'[i]? = l[i]?
  ins : ∀ i, a ≤ i → i < b → ∃ k, a ≤ k ∧ k < b ∧ l'[i]? = l[k]?
  perm : l'.Perm l
theorem Part.refl (a b : Nat) (l : List Page) : Part a b l l := ⟨rfl, fun _ _ => rfl, fun i h1 h2 => ⟨i, h1, h2, rfl⟩, List.Perm.refl _⟩
theorem Part.wide {a b a' b' : Nat} {l l' : List Page} (h : Part a b l l') (ha : a' ≤ a) (hb : b ≤ b') : Part a' b' l l' := by
  refine ⟨h.len, fun i hi => h.out i (by omega), fun i h1 h2 => ?_, h.perm⟩
  by_cases h3 : a ≤ i ∧ i < b
  · obtain ⟨k, k1, k2, k3⟩ := h.ins i h3.1 h3.2
    exact ⟨k, by omega, by omega, k3⟩
  · exact ⟨i, h1, h2, h.out i (by omega)⟩
theorem Part.trans {a b : Nat} {l1 l2 l3 : List Page} (h1 : Part a b l1 l2) (h2 : Part a b l2 l3) : Part a b l1 l3 := by
  refine ⟨h2.len.trans h1.len, fun i hi => (h2.out i hi).trans (h1.out i hi), fun i ha hb => ?_, h2.perm.trans h1.perm⟩
  obtain ⟨k, k1, k2, k3⟩ := h2.ins i ha hb
  obtain ⟨m, m1, m2, m3⟩ := h1.ins k k1 k2
  exact ⟨m, m1, m2, k3.trans m3⟩
theorem Part.ln_out {a b : Nat} {l l' : List Page} (h : Part a b l l') {i : Nat} (hi : i < a ∨ b ≤ i) : ln l' i = ln l i := by simp only [ln, h.out i hi]
theorem Part.ln_in {a b : Nat} {l l' : List Page} (h : Part a b l l') {i : Nat} (h1 : a ≤ i) (h2 : i < b) : ∃ k, a ≤ k ∧ k < b ∧ ln l' i = ln l k := by
  obtain ⟨k, k1, k2, k3⟩ := h.ins i h1 h2
  exact ⟨k, k1, k2, by simp only [ln, k3]⟩
def sw (l : List Page) (i j : Nat) : List Page := match l[i]?, l[j]? with | some p, some q => (l.set i q).set j p | _, _ => l
theorem sw_eq {l : List Page} {i j : Nat} (hi : i < l.length) (hj : j < l.length) : sw l i j = (l.set i l[j]).set j l[i] := by
  simp [sw, List.getElem?_eq_getElem hi, List.getElem?_eq_getElem hj]
theorem sw_len (l : List Page) (i j : Nat) : (sw l i j).length = l.length := by
  unfold sw
  split <;> simp
theorem sw_get {l : List Page} {i j : Nat} (hi : i < l.length) (hj : j < l.length) (k : Nat) : (sw l i j)[k]? = if k = j then l[i]? else if k = i then l[j]? else l[k]? := by
  rw [sw_eq hi hj, List.getElem?_set, List.getElem?_set]
  simp only [List.length_set]
  by_cases h1 : k = j
  · subst h1; simp [hj, List.getElem?_eq_getElem hi]
  · by_cases h2 : k = i
    · subst h2
      have h1' : ¬ j = k := fun e => h1 e.symm
      simp [h1, h1', hi, List.getElem?_eq_getElem hj]
    · have h1' : ¬ j = k := fun e => h1 e.symm
      have h2' : ¬ i = k := fun e => h2 e.symm
      simp [h1, h2, h1', h2']
theorem sw_part {l : List Page} {a b i j : Nat} (hi : i < l.length) (hj : j < l.length) (h1 : a ≤ i) (h2 : i < b) (h3 : a ≤ j) (h4 : j < b) : Part a b l (sw l i j) := by
  refine ⟨sw_len l i j, fun k hk => ?_, fun k ha hb => ?_, ?_⟩
  · rw [sw_get hi hj, if_neg (by omega), if_neg (by omega)]
  · rw [sw_get hi hj]
    by_cases e1 : k = j
    · exact ⟨i, h1, h2, by rw [if_pos e1]⟩
    · by_cases e2 : k = i
      · exact ⟨j, h3, h4, by rw [if_neg e1, if_pos e2]⟩
      · exact ⟨k, ha, hb, by rw [if_neg e1, if_neg e2]⟩
  · rw [sw_eq hi hj]
    exact List.set_set_perm hi hj
theorem ln_sw {l : List Page} {i j : Nat} (hi : i < l.length) (hj : j < l.length) (k : Nat) : ln (sw l i j) k = if k = j then ln l i else if k = i then ln l j else ln l k := by
  unfold ln
  rw [sw_get hi hj]
  by_cases e1 : k = j
  · rw [if_pos e1, if_pos e1]
  · by_cases e2 : k = i
    · rw [if_neg e1, if_pos e2, if_neg e1, if_pos e2]
    · rw [if_neg e1, if_neg e2, if_neg e1, if_neg e2]
structure Turn (a m b : Nat) (l l' : List Page) : Prop where
  part : Part a b l l'
  low : ∀ i, a ≤ i → i < a + (b - m) → l'[i]? = l[i + (m - a)]?
  high : ∀ i, a + (b - m) ≤ i → i < b → l'[i]? = l[i - (b - m)]?
theorem Turn.ln_low {a m b : Nat} {l l' : List Page} (h : Turn a m b l l') {i : Nat} (h1 : a ≤ i) (h2 : i < a + (b - m)) : ln l' i = ln l (i + (m - a)) := by simp only [ln, h.low i h1 h2]
theorem Turn.ln_high {a m b : Nat} {l l' : List Page} (h : Turn a m b l l') {i : Nat} (h1 : a + (b - m) ≤ i) (h2 : i < b) : ln l' i = ln l (i - (b - m)) := by simp only [ln, h.high i h1 h2]
structure Swapped (a c k : Nat) (l l' : List Page) : Prop where
  len : l'.length = l.length
  lo : ∀ i, a ≤ i → i < a + k → l'[i]? = l[i - a + c]?
  hi : ∀ i, c ≤ i → i < c + k → l'[i]? = l[i - c + a]?
  out : ∀ i, (i < a ∨ a + k ≤ i) → (i < c ∨ c + k ≤ i) → l'[i]? = l[i]?
  perm : l'.Perm l
theorem Swapped.start (a c : Nat) (l : List Page) : Swapped a c 0 l l := ⟨rfl, fun i h1 h2 => by omega, fun i h1 h2 => by omega, fun _ _ _ => rfl, List.Perm.refl _⟩
theorem Swapped.next {a c n k : Nat} {l l' : List Page} (h : Swapped a c k l l') (hk : k < n) (hac : a + n ≤ c) (hc : c + n ≤ l.length) : Swapped a c (k + 1) l (sw l' (a + k) (c + k)) := by
  have h1 : a + k < l'.length := by rw [h.len]; omega
  have h2 : c + k < l'.length := by rw [h.len]; omega
  have ga : l'[a + k]? = l[a + k]? := h.out _ (by omega) (by omega)
  have gc : l'[c + k]? = l[c + k]? := h.out _ (by omega) (by omega)
  refine ⟨(sw_len _ _ _).trans h.len, fun i i1 i2 => ?_, fun i i1 i2 => ?_, fun i i1 i2 => ?_, (sw_part (a := 0) (b := l'.length) h1 h2 (by omega) h1 (by omega) h2).perm.trans h.perm⟩
  · rw [sw_get h1 h2, if_neg (by omega)]
    by_cases e : i = a + k
    · rw [if_pos e, gc, e]; congr 1; omega
    · rw [if_neg e]; exact h.lo i i1 (by omega)
  · rw [sw_get h1 h2]
    by_cases e : i = c + k
    · rw [if_pos e, ga, e]; congr 1; omega
    · rw [if_neg e, if_neg (by omega)]; exact h.hi i i1 (by omega)
  · rw [sw_get h1 h2, if_neg (by omega), if_neg (by omega)]
    exact h.out i (by omega) (by omega)
theorem perm_lines {l l' : List Page} (h : l'.Perm l) (hn : (l.map (·.line)).Nodup) : (l'.map (·.line)).Nodup := (h.map _).nodup_iff.2 hn
theorem asc_sorted {l : List Page} (h : Asc 0 l.length l) (hn : (l.map (·.line)).Nodup) : l.Pairwise (fun p q => p.line < q.line) := by
  rw [List.pairwise_iff_getElem]
  intro i j hi hj hij
  have h1 := h i j (by omega) (by omega) hj
  rw [ln_at hi, ln_at hj] at h1
  have h2 : l[i].line ≠ l[j].line := by
    intro e
    have := (List.pairwise_iff_getElem.1 hn) i j (by simpa using hi) (by simpa using hj) hij
    simp at this
    exact this e
  omega
theorem asc_unique : ∀ {l l' : List Page}, l.Pairwise (fun p q => p.line < q.line) → l'.Pairwise (fun p q => p.line < q.line) → (∀ x, x ∈ l ↔ x ∈ l') → l = l' := by
  intro l
  induction l with
  | nil =>
    intro l' _ _ h
    cases l' with
    | nil => rfl
    | cons q l' => have := (h q).2 (List.mem_cons_self); simp at this
  | cons p l ih =>
    intro l' h1 h2 h
    cases l' with
    | nil => have := (h p).1 (List.mem_cons_self); simp at this
    | cons q l' =>
      obtain ⟨a1, a2⟩ := List.pairwise_cons.1 h1
      obtain ⟨b1, b2⟩ := List.pairwise_cons.1 h2
      have hpq : p = q := by
        rcases List.mem_cons.1 ((h p).1 List.mem_cons_self) with e | e
        · exact e
        · rcases List.mem_cons.1 ((h q).2 List.mem_cons_self) with e' | e'
          · exact e'.symm
          · have := a1 q e'; have := b1 p e; omega
      subst hpq
      congr 1
      refine ih a2 b2 fun x => ⟨fun hx => ?_, fun hx => ?_⟩
      · rcases List.mem_cons.1 ((h x).1 (List.mem_cons_of_mem _ hx)) with e | e
        · subst e; have := a1 x hx; omega
        · exact e
      · rcases List.mem_cons.1 ((h x).2 (List.mem_cons_of_mem _ hx)) with e | e
        · subst e; have := b1 x hx; omega
        · exact e
def InsAt (a i j : Nat) (l : List Page) : Prop := (∀ x y, a ≤ x → x ≤ y → y ≤ i → x ≠ j → y ≠ j → ln l x ≤ ln l y) ∧ (∀ y, j < y → y ≤ i → ln l j ≤ ln l y)
theorem ins_start {a i : Nat} {l : List Page} (h : Asc a i l) : InsAt a i i l := ⟨fun x y h1 h2 h3 h4 h5 => h x y h1 h2 (by omega), fun y h1 h2 => by omega⟩
theorem ins_step {a i j : Nat} {l : List Page} (h : InsAt a i j l) (h1 : a < j) (h2 : j ≤ i) (hi : i < l.length) (hlt : ln l j < ln l (j - 1)) : InsAt a i (j - 1) (sw l j (j - 1)) := by
  have g : ∀ k, ln (sw l j (j - 1)) k = if k = j - 1 then ln l j else if k = j then ln l (j - 1) else ln l k := ln_sw (by omega) (by omega)
  refine ⟨fun x y x1 x2 x3 x4 x5 => ?_, fun y y1 y2 => ?_⟩
  · rw [g, g, if_neg x4, if_neg x5]
    by_cases ex : x = j
    · by_cases ey : y = j
      · rw [if_pos ex, if_pos ey]; omega
      · rw [if_pos ex, if_neg ey]; exact h.1 (j - 1) y (by omega) (by omega) x3 (by omega) (by omega)
    · by_cases ey : y = j
      · rw [if_neg ex, if_pos ey]; exact h.1 x (j - 1) x1 (by omega) (by omega) (by omega) (by omega)
      · rw [if_neg ex, if_neg ey]; exact h.1 x y x1 x2 x3 ex ey
  · rw [g, g, if_pos rfl, if_neg (by omega)]
    by_cases ey : y = j
    · rw [if_pos ey]; omega
    · rw [if_neg ey]; exact h.2 y (by omega) y2
theorem ins_done {a i j : Nat} {l : List Page} (h : InsAt a i j l) (h1 : a ≤ j) (hd : j = a ∨ ln l (j - 1) ≤ ln l j) : Asc a (i + 1) l := by
  intro x y x1 x2 x3
  by_cases ex : x = j
  · by_cases ey : y = j
    · rw [ex, ey]; omega
    · rw [ex]; exact h.2 y (by omega) (by omega)
  · by_cases ey : y = j
    · rcases hd with hd | hd
      · omega
      · rw [ey]
        by_cases e : x = j - 1
        · rw [e]; exact hd
        · have := h.1 x (j - 1) x1 (by omega) (by omega) ex (by omega)
          omega
    · exact h.1 x y x1 x2 (by omega) ex ey
theorem Asc.less {a b b' : Nat} {l : List Page} (h : Asc a b l) (hb : b' ≤ b) : Asc a b' l := fun i j h1 h2 h3 => h i j h1 h2 (by omega)
theorem Asc.one (a : Nat) (l : List Page) : Asc a (a + 1) l := fun i j h1 h2 h3 => by
  obtain rfl : i = j := (by omega)
  exact Int.le_refl _
end Srt
end Go.Proofs.YtcoiehgcfjfhaaaGreatDoor
namespace Go.Proofs.YtcoiehgcfjfhaaaGreatDoor
open Go.RowKit
theorem pgc_len (ps : List Bt.Page) : (pageCells ps).length = ps.length * 9 := by
  induction ps with
  | nil => rfl
  | cons p ps ih =>
    simp only [pageCells, List.flatMap_cons, List.length_append, List.length_cons] at ih ⊢
    rw [ih]
    simp [Bt.Page.cells]
    omega
theorem pgc_at : ∀ (ps : List Bt.Page) (i j : Nat), j < 9 → (pageCells ps)[i * 9 + j]? = (ps[i]?).bind (fun p => p.cells[j]?) := by
  intro ps
  induction ps with
  | nil => intro i j hj; simp [pageCells]
  | cons p ps ih =>
    intro i j hj
    have hl : p.cells.toList.length = 9 := by simp [Bt.Page.cells]
    have e : pageCells (p :: ps) = p.cells.toList ++ pageCells ps := rfl
    rw [e]
    rcases i with _ | i
    · rw [List.getElem?_append_left (by omega)]
      simp
    · rw [List.getElem?_append_right (by omega), hl, show (i + 1) * 9 + j - 9 = i * 9 + j by omega, ih i j hj]
      simp
structure PRow (w : World) (g cap : Nat) (l : List Bt.Page) : Prop where
  there : ∃ cur : Array Value, Blk w g 75 cur ∧ cur.size = cap * 9
  fits : l.length ≤ cap
  max : cap ≤ maxLen
  cells : ∀ (i : Nat) (p : Bt.Page), l[i]? = some p → w.rangeAt g (i * 9) p.cells.toList
theorem PRow.lt {w : World} {g cap : Nat} {l : List Bt.Page} (h : PRow w g cap l) : g < w.heap.size := by
  obtain ⟨cur, hb, _⟩ := h.there
  exact hb.lt
theorem PRow.free {w : World} {g cap : Nat} {l : List Bt.Page} (h : PRow w g cap l) (i : Nat) : w.frozen? ⟨g, i, none⟩ = false := by
  obtain ⟨cur, hb, _⟩ := h.there
  exact hb.free i
theorem PRow.own {w : World} {g cap : Nat} {l : List Bt.Page} (h : PRow w g cap l) : w.ownsRow g 75 9 (.slice (some ⟨g, 0, none⟩) l.length cap) l.length (pageCells l) := by
  obtain ⟨cur, hb, hs⟩ := h.there
  refine ⟨pgc_len l, .inr ⟨g, cap, cur, rfl, Nat.le_refl _, hb, h.fits, h.max, hs, ?_⟩⟩
  apply List.ext_getElem?
  intro k
  have hk : k = k / 9 * 9 + k % 9 := by omega
  by_cases hlt : k < l.length * 9
  · rw [List.getElem?_take_of_lt hlt, hk, pgc_at l _ _ (Nat.mod_lt _ (by omega))]
    have h1 : k / 9 < l.length := by omega
    rw [List.getElem?_eq_getElem h1]
    have h2 := h.cells (k / 9) l[k / 9] (List.getElem?_eq_getElem h1) (k % 9)
    have h3 : k % 9 < l[k / 9].cells.size := by simp [Bt.Page.cells]; omega
    have h4 := h2 l[k / 9].cells[k % 9] (by simp [h3])
    rw [hb.cell] at h4
    simp only [Option.bind_some]
    rw [Array.getElem?_toList, h4, Array.getElem?_eq_getElem h3]
  · rw [List.getElem?_eq_none (by simp; omega), List.getElem?_eq_none (by rw [pgc_len]; omega)]
theorem PRow.of_own {w : World} {base g cap : Nat} {l : List Bt.Page} (h : w.ownsRow base 75 9 (.slice (some ⟨g, 0, none⟩) l.length cap) l.length (pageCells l)) : PRow w g cap l := by
  have hc := own_cells h
  rcases h.2 with ⟨h', _⟩ | ⟨g', cap', cur, h', h0, h1, h2, h3, h4, h5⟩
  · simp at h'
  · simp only [Value.slice.injEq, Option.some.injEq, Addr.mk.injEq, and_true, true_and] at h'
    obtain ⟨rfl, rfl⟩ := h'
    refine ⟨⟨cur, h1, h4⟩, h2, h3, fun i p hi j u hu => hc _ _ ?_⟩
    have hj : j < 9 := by have := (List.getElem?_eq_some_iff.1 hu).1; simpa [Bt.Page.cells] using this
    rw [pgc_at l i j hj, hi]
    simpa using hu
theorem blk_setCells {w : World} {g : Nat} {t : TypeId} : ∀ (vs : List Value) (o : Nat) (w : World) (cur : Array Value), Blk w g t cur → ∃ cur' : Array Value, Blk (w.setCells g o vs) g t cur' ∧ cur'.size = cur.size := by
  intro vs
  induction vs with
  | nil => intro o w cur h; exact ⟨cur, h, rfl⟩
  | cons v vs ih =>
    intro o w cur h
    obtain ⟨c, h1, h2⟩ := ih (o + 1) _ _ (h.put o v)
    exact ⟨c, h1, by simpa using h2⟩
theorem PRow.put {w : World} {g cap : Nat} {l : List Bt.Page} (h : PRow w g cap l) {i : Nat} (hi : i < l.length) (p : Bt.Page) : PRow (w.setCells g (i * 9) p.cells.toList) g cap (l.set i p) := by
  obtain ⟨cur, hb, hs⟩ := h.there
  obtain ⟨cur', hb', hs'⟩ := blk_setCells (w := w) p.cells.toList (i * 9) w cur hb
  refine ⟨⟨cur', hb', by omega⟩, by simpa using h.fits, h.max, fun k q hk => ?_⟩
  rw [List.getElem?_set] at hk
  by_cases e : i = k
  · subst e
    rw [if_pos rfl, if_pos hi] at hk
    obtain rfl : p = q := by simpa using hk
    refine World.rangeAt_setCells_same w g (i * 9) _ (fun j hj => ?_)
    have hj9 : j < 9 := by simpa [Bt.Page.cells] using hj
    refine ⟨?_, hb.free _⟩
    rw [hb.cell]
    have := h.fits
    simp
    omega
  · rw [if_neg e] at hk
    refine World.rangeAt_setCells_apart (h.cells k q hk) g (i * 9) _ (.inr ?_)
    have h1 : q.cells.toList.length = 9 := by simp [Bt.Page.cells]
    have h2 : p.cells.toList.length = 9 := by simp [Bt.Page.cells]
    rw [h1, h2]
    omega
theorem over_setCells {g : Nat} : ∀ (vs : List Value) (o : Nat) (w w1 : World), Over g w w1 → Over g w (w1.setCells g o vs) := by
  intro vs
  induction vs with
  | nil => intro o w w1 h; exact h
  | cons v vs ih => intro o w w1 h; exact ih (o + 1) w _ (h.put o v)
theorem PRow.below {w w' : World} {g cap : Nat} {l : List Bt.Page} (h : PRow w g cap l) (hb : Below w.heap.size w w') : PRow w' g cap l := by
  obtain ⟨cur, h1, hs⟩ := h.there
  exact ⟨⟨cur, h1.kept hb, hs⟩, h.fits, h.max, fun i p hi j u hu => by rw [hb.cell (p := ⟨g, i * 9 + j, none⟩) h.lt]; exact h.cells i p hi j u hu⟩
theorem PRow.swap {w : World} {g cap : Nat} {l : List Bt.Page} (h : PRow w g cap l) {i j : Nat} (hi : i < l.length) (hj : j < l.length) :
    PRow ((w.setCells g (i * 9) l[j].cells.toList).setCells g (j * 9) l[i].cells.toList) g cap (Srt.sw l i j) := by
  rw [Srt.sw_eq hi hj]
  exact (h.put hi l[j]).put (by simpa using hj) l[i]
theorem swap_world (w : World) (g i j : Nat) (p q : Bt.Page) : (w.setCells g i q.cells.toList).setCells g j p.cells.toList =
    (((((((((((((((((w.setCell ⟨g, i, none⟩ (.int .i64 q.line)).setCell ⟨g, i + 1, none⟩ (.int .u64 q.head)).setCell ⟨g, i + 2, none⟩ (.int .u64 q.d0)).setCell ⟨g, i + 3, none⟩ (.int .u64 q.d1)).setCell ⟨g, i + 4, none⟩ (.int .u64 q.d2)).setCell ⟨g, i + 5, none⟩ (.int .u64 q.d3)).setCell ⟨g, i + 6, none⟩ (.int .u64 q.d4)).setCell ⟨g, i + 7, none⟩ (.int .u64 q.d5)).setCell ⟨g, i + 8, none⟩ (.int .u64 q.d6)).setCell
     ⟨g, j, none⟩ (.int .i64 p.line)).setCell ⟨g, j + 1, none⟩ (.int .u64 p.head)).setCell ⟨g, j + 2, none⟩ (.int .u64 p.d0)).setCell ⟨g, j + 3, none⟩ (.int .u64 p.d1)).setCell ⟨g, j + 4, none⟩ (.int .u64 p.d2)).setCell ⟨g, j + 5, none⟩ (.int .u64 p.d3)).setCell ⟨g, j + 6, none⟩ (.int .u64 p.d4)).setCell ⟨g, j + 7, none⟩ (.int .u64 p.d5)).setCell ⟨g, j + 8, none⟩ (.int .u64 p.d6) := by
  simp only [Bt.Page.cells, World.setCells]
def cmpAsc : Value := .func (.func 251) #[] #[]
theorem cmpAsc_any (p q : Bt.Page) (w : World) : Calls Tryz.prog 251 #[.agg p.cells, .agg q.cells] w fun e w' => e = .returned (.int .i64 (Lib.compareInt p.line q.line)) ∧ Below w.heap.size w w' := by
  unfold Bt.Page.cells
  go_enter Tryz.func251, Tryz.ntmps251
  go_wp2_with (go_at_call 149; refine (Tryz.cmp_Compare_int p.line q.line _).mono ?_; rintro e w1 ⟨rfl, hw⟩; subst hw)
  go_ret
  exact ⟨rfl, qL⟩
theorem PRow.drew {w : World} {g cap : Nat} {l : List Bt.Page} (h : PRow w g cap l) : PRow w.drew g cap l := ⟨h.there, h.fits, h.max, h.cells⟩
theorem cmp_neg (x y : Int) : decide (Lib.compareInt x y < 0) = decide (x < y) := by
  simp only [Lib.compareInt]
  by_cases h : x < y
  · simp [h]
  · by_cases h2 : y < x
    · simp [h, h2]
    · simp [h, h2]
def SortPost (g cap a b : Nat) (l0 : List Bt.Page) (w : World) (e : Ending) (w' : World) : Prop :=
  e = .returned (.tuple #[]) ∧ (∃ l', PRow w' g cap l' ∧ Srt.Part a b l0 l' ∧ Srt.Asc a b l') ∧ Over g w w'
theorem isort (g cap : Nat) (l0 : List Bt.Page) (a b n : Nat) (hn : n = l0.length) (hsm : n ≤ 1000000) (hab : a ≤ b) (hb : b ≤ n) (w : World) (h : PRow w g cap l0) :
    Calls Tryz.prog 241 #[.slice (some ⟨g, 0, none⟩) n cap, .int .i64 a, .int .i64 b, cmpAsc] w (SortPost g cap a b l0 w) := by
  have HP := hid h
  have HN := hid hn
  clear h hn
  unfold cmpAsc SortPost
  have wa : IntKind.i64.wrap ((a : Int) + 1) = (a : Int) + 1 := by rw [IntKind.wrap_i64]; omega
  go_enter Tryz.func241, Tryz.ntmps241
  go_wp2_with fail
  go_loopw [8] (fun i wr => ∃ (k : Nat) (l : List Bt.Page), i = .int .i64 k ∧ a + 1 ≤ k ∧ Hid (PRow wr g cap l ∧ Srt.Part a b l0 l ∧ Srt.Asc a k l ∧ Over g w wr)) (fun i _ => ((b : Int) + 1 - intOf i).toNat)
  case atStart => exact ⟨a + 1, l0, by simp, by omega, hid ⟨HP.out, Srt.Part.refl _ _ _, Srt.Asc.one _ _, Over.refl _ _⟩⟩
  case round =>
    obtain ⟨k, l, rfl, hk, HR⟩ := hrel
    by_cases hkb : k < b
    · have b1 : decide ((k : Int) < b) = true := by simp; omega
      have wk : IntKind.i64.wrap ((k : Int) + 1) = (k : Int) + 1 := by rw [IntKind.wrap_i64]; omega
      go_wp2_with fail
      go_loopw [9] (fun j wr => ∃ (q : Nat) (l' : List Bt.Page), j = .int .i64 q ∧ a ≤ q ∧ q ≤ k ∧ Hid (PRow wr g cap l' ∧ Srt.Part a b l0 l' ∧ Srt.InsAt a k q l' ∧ Over g w wr)) (fun j _ => (intOf j).toNat)
      case atStart => exact ⟨k, l, rfl, by omega, by omega, hid ⟨HR.out.1, HR.out.2.1, Srt.ins_start HR.out.2.2.1, HR.out.2.2.2⟩⟩
      case round =>
        obtain ⟨q, l', rfl, haq, hqk, HQ⟩ := hrel
        have hlen : l'.length = n := by have := HQ.out.2.1.len; have := HN.out; omega
        obtain ⟨J, hJ⟩ : ∃ J : Int, (q : Int) = J := ⟨_, rfl⟩
        rw [hJ]
        have hJt : J.toNat = q := by omega
        by_cases hq : a < q
        · have j1 : decide ((a : Int) < J) = true := by simp; omega
          obtain ⟨K, hK⟩ : ∃ K : Int, J - 1 = K := ⟨_, rfl⟩
          have hKt : K.toNat = q - 1 := by omega
          have wK : IntKind.i64.wrap (J - 1) = K := by rw [IntKind.wrap_i64]; omega
          have j2 : decide (J < 0) = false := by simp; omega
          have j3 : decide (J < (n : Int)) = true := by simp; omega
          have j4 : 0 ≤ J := by omega
          have j5 : J < (n : Int) := by omega
          have k2 : decide (K < 0) = false := by simp; omega
          have k3 : decide (K < (n : Int)) = true := by simp; omega
          have k4 : 0 ≤ K := by omega
          have k5 : K < (n : Int) := by omega
          have hjl : J.toNat < l'.length := by omega
          have hkl : K.toNat < l'.length := by omega
          have hlt := HQ.out.1.lt
          have hfr := HQ.out.1.free
          obtain ⟨x, hx⟩ : ∃ x, l'[J.toNat] = x := ⟨_, rfl⟩
          obtain ⟨y, hy⟩ : ∃ y, l'[K.toNat] = y := ⟨_, rfl⟩
          obtain ⟨c0, c1, c2, c3, c4, c5, c6, c7, c8⟩ := nine (HQ.out.1.cells J.toNat x (by rw [← hx]; exact List.getElem?_eq_getElem hjl))
          obtain ⟨d0, d1, d2, d3, d4, d5, d6, d7, d8⟩ := nine (HQ.out.1.cells K.toNat y (by rw [← hy]; exact List.getElem?_eq_getElem hkl))
          have HX := hid hx
          have HY := hid hy
          have HJ := hid (And.intro hJ hK)
          have HL := hid (And.intro hlen (And.intro hJt hKt))
          clear hx hy hJ hK hlen hJt hKt
          by_cases hxy : x.line < y.line
          · have hcmp : decide (Lib.compareInt x.line y.line < 0) = true := by rw [cmp_neg]; simp [hxy]
            go_wp2_with fail
            refine qA fun hSt => ?_
            refine qS [0, 1, 2, 3, 4, 5, 6, 7, 8, 9, 10, 11, 12, 13] ?_
            iterate 14 (refine qT ?_; simp only [Act.put, qY])
            refine TakeSeq.done ?_
            refine qH 14 fun K hK => ?_
            go_simp
            go_at_call 251; refine (cmpAsc_any x y _).mono ?_; rintro e w1 ⟨rfl, hb⟩; ((obtain ⟨hc1, hf1, hs1⟩ := qR hb); (try have := qN0 wr w1))
            go_wp2_with fail
            refine hK.out _ _ (SteadyAll.of qL) (fun hHeld => ?_)
            clear hK K
            refine qS [15, 16] ?_
            iterate 2 (refine qT ?_; simp only [Act.put, qY])
            refine TakeSeq.done ?_
            refine qD ?_ _
            go_wp2_with fail
            have n00 : (J.toNat * 9 = K.toNat * 9) = False := eq_false (by have := HL.out; omega)
            have n01 : ∀ b, b < 9 → (J.toNat * 9 = K.toNat * 9 + b) = False := fun b hb => eq_false (by have := HL.out; omega)
            have n10 : ∀ a, a < 9 → (J.toNat * 9 + a = K.toNat * 9) = False := fun b hb => eq_false (by have := HL.out; omega)
            have n11 : ∀ a b, a < 9 → b < 9 → (J.toNat * 9 + a = K.toNat * 9 + b) = False := fun a b ha hb => eq_false (by have := HL.out; omega)
            go_region
            go_wp2_with fail
            have P1 := (HQ.out.1.drew.below hb).swap hjl hkl
            rw [HX.out, HY.out, swap_world] at P1
            have ho := HQ.out.2.2.2
            have hx1 : Srt.ln l' J.toNat = x.line := by rw [Srt.ln_at hjl, HX.out]
            have hy1 : Srt.ln l' K.toNat = y.line := by rw [Srt.ln_at hkl, HY.out]
            obtain ⟨e1, e2, e3⟩ := HL.out
            rw [e2] at hx1
            rw [e3] at hy1
            refine ⟨⟨q - 1, Srt.sw l' q (q - 1), by rw [show K = ((q - 1 : Nat) : Int) by have := HJ.out; omega], by omega, by omega, hid ⟨?_, ?_, ?_, ?_⟩⟩, by have := HJ.out; simp [intOf]; omega⟩
            · rw [e2, e3] at P1 ⊢
              first | with_reducible exact P1 | with_reducible exact P1.drew
            · exact HQ.out.2.1.trans (Srt.sw_part (by omega) (by omega) (by omega) (by omega) (by omega) (by omega))
            · exact Srt.ins_step HQ.out.2.2.1 hq hqk (by omega) (by rw [hx1, hy1]; exact hxy)
            · exact qV
          · have hcmp : decide (Lib.compareInt x.line y.line < 0) = false := by rw [cmp_neg]; simp [hxy]
            go_wp2_with fail
            refine qA fun hSt => ?_
            refine qS [0, 1, 2, 3, 4, 5, 6, 7, 8, 9, 10, 11, 12, 13] ?_
            iterate 14 (refine qT ?_; simp only [Act.put, qY])
            refine TakeSeq.done ?_
            refine qH 14 fun K hK => ?_
            go_simp
            go_at_call 251; refine (cmpAsc_any x y _).mono ?_; rintro e w1 ⟨rfl, hb⟩; ((obtain ⟨hc1, hf1, hs1⟩ := qR hb); (try have := qN0 wr w1))
            go_wp2_with fail
            refine hK.out _ _ (SteadyAll.of qL) (fun hHeld => ?_)
            clear hK K
            refine qS [15, 16] ?_
            iterate 2 (refine qT ?_; simp only [Act.put, qY])
            refine TakeSeq.done ?_
            refine qD ?_ _
            go_wp2_with fail
            have ho := HQ.out.2.2.2
            have hx1 : Srt.ln l' J.toNat = x.line := by rw [Srt.ln_at hjl, HX.out]
            have hy1 : Srt.ln l' K.toNat = y.line := by rw [Srt.ln_at hkl, HY.out]
            obtain ⟨e1, e2, e3⟩ := HL.out
            rw [e2] at hx1
            rw [e3] at hy1
            exact ⟨⟨k + 1, l', by simp, by omega, hid ⟨HQ.out.1.drew.below hb, HQ.out.2.1, Srt.ins_done HQ.out.2.2.1 haq (.inr (by rw [hx1, hy1]; omega)), qV⟩⟩, by simp [intOf]; omega⟩
        · have j1 : decide ((a : Int) < J) = false := by simp; omega
          go_wp2_with fail
          refine qA fun hSt => ?_
          refine qS [0, 1, 2, 3, 4, 5, 6, 7, 8, 9, 10, 11, 12, 13, 14, 15, 16] ?_
          iterate 17 (refine qT ?_; simp only [Act.put, qY])
          refine TakeSeq.done ?_
          refine qD ?_ _
          go_wp2_with fail
          have ho := HQ.out.2.2.2
          exact ⟨⟨k + 1, l', by simp, by omega, hid ⟨HQ.out.1.drew, HQ.out.2.1, Srt.ins_done HQ.out.2.2.1 haq (.inl (by omega)), qV⟩⟩, by simp [intOf]; omega⟩
    · have b1 : decide ((k : Int) < b) = false := by simp; omega
      go_wp2_with fail
      exact bodyPost_end (results_none rfl _ _ _) rfl ⟨rfl, ⟨l, HR.out.1, HR.out.2.1, HR.out.2.2.1.less (by omega)⟩, HR.out.2.2.2⟩
end Go.Proofs.YtcoiehgcfjfhaaaGreatDoor
namespace Go.Proofs.YtcoiehgcfjfhaaaGreatDoor
namespace Srt
open Bt
theorem Swapped.part {a c n : Nat} {l l' : List Page} (h : Swapped a c n l l') (hac : a + n ≤ c) : Part a (c + n) l l' := by
  refine ⟨h.len, fun i hi => h.out i (by omega) (by omega), fun i h1 h2 => ?_, h.perm⟩
  by_cases e1 : i < a + n
  · exact ⟨i - a + c, by omega, by omega, h.lo i h1 e1⟩
  · by_cases e2 : c ≤ i
    · exact ⟨i - c + a, by omega, by omega, h.hi i e2 h2⟩
    · exact ⟨i, h1, h2, h.out i (by omega) (by omega)⟩
theorem turn_even {m i : Nat} {l l' : List Page} (h : Swapped (m - i) m i l l') (hi : i ≤ m) : Turn (m - i) m (m + i) l l' := by
  refine ⟨h.part (by omega), fun x h1 h2 => ?_, fun x h1 h2 => ?_⟩
  · rw [h.lo x h1 (by omega)]; congr 1; omega
  · rw [h.hi x (by omega) h2]; congr 1; omega
theorem turn_step1 {m i j : Nat} {l l1 lf : List Page} (h : Swapped (m - i) m j l l1) (hi : i ≤ m) (hj : j < i) (t : Turn (m - i + j) m (m + j) l1 lf) : Turn (m - i) m (m + j) l lf := by
  refine ⟨(h.part (by omega)).trans (t.part.wide (by omega) (by omega)), fun x h1 h2 => ?_, fun x h1 h2 => ?_⟩
  · rw [t.part.out x (.inl (by omega)), h.lo x h1 (by omega)]; congr 1; omega
  · by_cases e : x < m - i + j + (m + j - m)
    · rw [t.low x (by omega) e, h.hi _ (by omega) (by omega)]; congr 1; omega
    · rw [t.high x (by omega) h2, h.out _ (by omega) (by omega)]
theorem turn_step2 {m i j : Nat} {l l1 lf : List Page} (h : Swapped (m - i) (m + j - i) i l l1) (hi : i ≤ m) (hj : i < j) (t : Turn (m - i) m (m + j - i) l1 lf) : Turn (m - i) m (m + j) l lf := by
  have hp : Part (m - i) (m + j) l l1 := (h.part (by omega)).wide (by omega) (by omega)
  refine ⟨hp.trans (t.part.wide (by omega) (by omega)), fun x h1 h2 => ?_, fun x h1 h2 => ?_⟩
  · by_cases e : x < m - i + (m + j - i - m)
    · rw [t.low x h1 e, h.out _ (by omega) (by omega)]
    · rw [t.high x (by omega) (by omega), h.lo _ (by omega) (by omega)]; congr 1; omega
  · rw [t.part.out x (.inr (by omega)), h.hi x (by omega) (by omega)]; congr 1; omega
theorem turn_none (a m b : Nat) (l : List Page) (h : a = m ∨ m = b) (h1 : a ≤ m) (h2 : m ≤ b) : Turn a m b l l := by
  refine ⟨Part.refl _ _ _, fun x h1 h2 => ?_, fun x h1 h2 => ?_⟩
  · rcases h with rfl | rfl
    · congr 1; omega
    · omega
  · rcases h with rfl | rfl
    · omega
    · congr 1; omega
theorem turn_up {a k : Nat} {l l' : List Page} (h : Turn a (a + 1) (k + 1) l l') (hk : a ≤ k) (hl : k + 1 < l.length) : Turn a (a + 1) (k + 2) l (sw l' k (k + 1)) := by
  have hl' : k + 1 < l'.length := by rw [h.part.len]; exact hl
  refine ⟨(h.part.wide (by omega) (by omega)).trans (sw_part (by omega) hl' hk (by omega) (by omega) (by omega)), fun x h1 h2 => ?_, fun x h1 h2 => ?_⟩
  · rw [sw_get (by omega) hl', if_neg (by omega)]
    by_cases e : x = k
    · rw [if_pos e, h.part.out _ (.inr (by omega)), e]; congr 1; omega
    · rw [if_neg e, h.low x h1 (by omega)]
  · rw [sw_get (by omega) hl', if_pos (by omega), h.high k (by omega) (by omega)]
    congr 1; omega
theorem turn_down {m k : Nat} {l l' : List Page} (h : Turn k m (m + 1) l l') (hk : 1 ≤ k) (hkm : k ≤ m) (hl : m < l.length) : Turn (k - 1) m (m + 1) l (sw l' k (k - 1)) := by
  have hl' : k < l'.length := by rw [h.part.len]; omega
  refine ⟨(h.part.wide (by omega) (by omega)).trans (sw_part hl' (by omega) (by omega) (by omega) (by omega) (by omega)), fun x h1 h2 => ?_, fun x h1 h2 => ?_⟩
  · rw [sw_get hl' (by omega), if_pos (by omega), h.low k (by omega) (by omega)]
    congr 1; omega
  · rw [sw_get hl' (by omega), if_neg (by omega)]
    by_cases e : x = k
    · rw [if_pos e, h.part.out _ (.inl (by omega)), e]; congr 1; omega
    · rw [if_neg e, h.high x (by omega) h2]
theorem one_left {a b i : Nat} {l l' : List Page} (h : Asc (a + 1) b l) (hi : a + 1 ≤ i) (hib : i ≤ b) (h1 : ∀ y, a + 1 ≤ y → y < i → ln l y ≤ ln l a) (h2 : ∀ y, i ≤ y → y < b → ln l a ≤ ln l y) (t : Turn a (a + 1) i l l') : Part a b l l' ∧ Asc a b l' := by
  refine ⟨t.part.wide (by omega) hib, fun x y x1 x2 x3 => ?_⟩
  have g : ∀ z, a ≤ z → (z < i - 1 → ln l' z = ln l (z + 1)) ∧ (z = i - 1 → ln l' z = ln l a) ∧ (i ≤ z → ln l' z = ln l z) := fun z hz =>
    ⟨fun h => by have := t.ln_low hz (by omega); rw [this]; congr 1; omega, fun h => by have := t.ln_high (i := z) (by omega) (by omega); rw [this]; congr 1; omega, fun h => t.part.ln_out (.inr h)⟩
  obtain ⟨gx1, gx2, gx3⟩ := g x x1
  obtain ⟨gy1, gy2, gy3⟩ := g y (by omega)
  by_cases ex : x < i - 1
  · rw [gx1 ex]
    by_cases ey : y < i - 1
    · rw [gy1 ey]; exact h _ _ (by omega) (by omega) (by omega)
    · by_cases ey2 : y = i - 1
      · rw [gy2 ey2]; exact h1 _ (by omega) (by omega)
      · rw [gy3 (by omega)]; exact h _ _ (by omega) (by omega) x3
  · by_cases ex2 : x = i - 1
    · rw [gx2 ex2]
      by_cases ey2 : y = i - 1
      · rw [gy2 ey2]; omega
      · rw [gy3 (by omega)]; exact h2 _ (by omega) x3
    · rw [gx3 (by omega), gy3 (by omega)]; exact h _ _ (by omega) (by omega) x3
theorem one_right {a m i : Nat} {l l' : List Page} (h : Asc a m l) (hi : a ≤ i) (him : i ≤ m) (h1 : ∀ x, a ≤ x → x < i → ln l x ≤ ln l m) (h2 : ∀ x, i ≤ x → x < m → ln l m ≤ ln l x) (t : Turn i m (m + 1) l l') : Part a (m + 1) l l' ∧ Asc a (m + 1) l' := by
  refine ⟨t.part.wide hi (by omega), fun x y x1 x2 x3 => ?_⟩
  have g : ∀ z, z < m + 1 → (z < i → ln l' z = ln l z) ∧ (z = i → ln l' z = ln l m) ∧ (i < z → ln l' z = ln l (z - 1)) := fun z hz =>
    ⟨fun h => t.part.ln_out (.inl h), fun h => by have := t.ln_low (i := z) (by omega) (by omega); rw [this]; congr 1; omega, fun h => by have := t.ln_high (i := z) (by omega) hz; rw [this]; congr 1; omega⟩
  obtain ⟨gx1, gx2, gx3⟩ := g x (by omega)
  obtain ⟨gy1, gy2, gy3⟩ := g y x3
  by_cases ex : x < i
  · rw [gx1 ex]
    by_cases ey : y < i
    · rw [gy1 ey]; exact h _ _ x1 x2 (by omega)
    · by_cases ey2 : y = i
      · rw [gy2 ey2]; exact h1 _ x1 ex
      · rw [gy3 (by omega)]; exact h _ _ x1 (by omega) (by omega)
  · by_cases ex2 : x = i
    · rw [gx2 ex2]
      by_cases ey2 : y = i
      · rw [gy2 ey2]; omega
      · rw [gy3 (by omega)]; exact h2 _ (by omega) (by omega)
    · rw [gx3 (by omega), gy3 (by omega)]; exact h _ _ (by omega) (by omega) (by omega)
theorem halves {a m b s e mid : Nat} {l l1 : List Page} (h1 : Asc a m l) (h2 : Asc m b l) (hs : a ≤ s) (hsm : s ≤ m) (hme : m ≤ e) (heb : e ≤ b) (hmid : s + e = mid + m) (t : Turn s m e l l1) : Asc a s l1 ∧ Asc s mid l1 ∧ Asc mid e l1 ∧ Asc e b l1 := by
  refine ⟨fun x y x1 x2 x3 => ?_, fun x y x1 x2 x3 => ?_, fun x y x1 x2 x3 => ?_, fun x y x1 x2 x3 => ?_⟩
  · rw [t.part.ln_out (.inl (by omega)), t.part.ln_out (.inl x3)]; exact h1 _ _ x1 x2 (by omega)
  · rw [t.ln_low x1 (by omega), t.ln_low (by omega) (by omega)]; exact h2 _ _ (by omega) (by omega) (by omega)
  · rw [t.ln_high (by omega) (by omega), t.ln_high (by omega) x3]; exact h1 _ _ (by omega) (by omega) (by omega)
  · rw [t.part.ln_out (.inr x1), t.part.ln_out (.inr (by omega))]; exact h2 _ _ (by omega) x2 x3
theorem halves_order {a m b s e mid : Nat} {l l1 : List Page} (h1 : Asc a m l) (h2 : Asc m b l) (hs : a ≤ s) (hsm : s ≤ m) (hme : m ≤ e) (heb : e ≤ b) (hmid : s + e = mid + m) (t : Turn s m e l l1)
    (c1 : ∀ x y, a ≤ x → x < s → e ≤ y → y < b → ln l x ≤ ln l y) (c2 : ∀ x y, s ≤ x → x < m → m ≤ y → y < e → ln l y ≤ ln l x) :
    ∀ x y, a ≤ x → x < mid → mid ≤ y → y < b → ln l1 x ≤ ln l1 y := by
  intro x y x1 x2 y1 y2
  have gx : (x < s ∧ ln l1 x = ln l x) ∨ (s ≤ x ∧ ln l1 x = ln l (x + (m - s))) := by
    by_cases ex : x < s
    · exact .inl ⟨ex, t.part.ln_out (.inl ex)⟩
    · exact .inr ⟨by omega, t.ln_low (by omega) (by omega)⟩
  have gy : (y < e ∧ ln l1 y = ln l (y - (e - m))) ∨ (e ≤ y ∧ ln l1 y = ln l y) := by
    by_cases ey : y < e
    · exact .inl ⟨ey, t.ln_high (by omega) ey⟩
    · exact .inr ⟨by omega, t.part.ln_out (.inr (by omega))⟩
  rcases gx with ⟨ex, gx⟩ | ⟨ex, gx⟩ <;> rcases gy with ⟨ey, gy⟩ | ⟨ey, gy⟩ <;> rw [gx, gy]
  · exact h1 _ _ x1 (by omega) (by omega)
  · exact c1 _ _ x1 ex ey y2
  · exact c2 _ _ (by omega) (by omega) (by omega) (by omega)
  · exact h2 _ _ (by omega) (by omega) y2
theorem join {a mid b : Nat} {l l1 l2 l3 : List Page} (h1 : a ≤ mid) (h2 : mid ≤ b) (p1 : Part a b l l1) (p2 : Part a mid l1 l2) (a2 : Asc a mid l2) (p3 : Part mid b l2 l3) (a3 : Asc mid b l3)
    (ho : ∀ x y, a ≤ x → x < mid → mid ≤ y → y < b → ln l1 x ≤ ln l1 y) : Part a b l l3 ∧ Asc a b l3 := by
  refine ⟨(p1.trans (p2.wide (Nat.le_refl _) h2)).trans (p3.wide h1 (Nat.le_refl _)), fun x y x1 x2 x3 => ?_⟩
  by_cases ex : x < mid
  · rw [p3.ln_out (.inl ex)]
    by_cases ey : y < mid
    · rw [p3.ln_out (.inl ey)]; exact a2 x y x1 x2 ey
    · obtain ⟨k, k1, k2, k3⟩ := p2.ln_in x1 ex
      obtain ⟨z, z1, z2, z3⟩ := p3.ln_in (i := y) (by omega) x3
      rw [k3, z3, p2.ln_out (.inr z1)]
      exact ho k z k1 k2 z1 z2
  · exact a3 x y (by omega) x2 x3
theorem search_low {a m b p s : Nat} {l : List Page} (h1 : Asc a m l) (h2 : Asc m b l) (hsm : s ≤ m) (he : m ≤ p + 1 - s) (hb : p + 1 - s ≤ b) (hs : s ≤ p + 1) (h : s ≤ a ∨ b ≤ p + 1 - s ∨ (a < s ∧ ln l (s - 1) ≤ ln l (p - (s - 1)))) :
    ∀ x y, a ≤ x → x < s → p + 1 - s ≤ y → y < b → ln l x ≤ ln l y := by
  intro x y x1 x2 y1 y2
  rcases h with h | h | ⟨h3, h⟩
  · omega
  · omega
  · have e1 := h1 x (s - 1) x1 (by omega) (by omega)
    have e2 := h2 (p - (s - 1)) y (by omega) (by omega) y2
    omega
theorem search_high {a m b p s : Nat} {l : List Page} (h1 : Asc a m l) (h2 : Asc m b l) (has : a ≤ s) (hb : p + 1 - s ≤ b) (hs : s ≤ p) (h : m ≤ s ∨ p + 1 - s ≤ m ∨ ln l (p - s) < ln l s) :
    ∀ x y, s ≤ x → x < m → m ≤ y → y < p + 1 - s → ln l y ≤ ln l x := by
  intro x y x1 x2 y1 y2
  rcases h with h | h | h
  · omega
  · omega
  · have e1 := h1 s x has (by omega) x2
    have e2 := h2 y (p - s) y1 (by omega) (by omega)
    omega
end Srt
end Go.Proofs.YtcoiehgcfjfhaaaGreatDoor
namespace Go.Proofs.YtcoiehgcfjfhaaaGreatDoor
open Go.RowKit
theorem swapRange (g cap : Nat) (l0 : List Bt.Page) (a c k n : Nat) (hn : n = l0.length) (hsm : n ≤ 1000000) (hac : a + k ≤ c) (hc : c + k ≤ n) (w : World) (h : PRow w g cap l0) (f : Value) :
    Calls Tryz.prog 321 #[.slice (some ⟨g, 0, none⟩) n cap, .int .i64 a, .int .i64 c, .int .i64 k, f] w
      fun e w' => e = .returned (.tuple #[]) ∧ (∃ l', PRow w' g cap l' ∧ Srt.Swapped a c k l0 l') ∧ Over g w w' := by
  have HP := hid h
  have HN := hid hn
  clear h hn
  go_enter Tryz.func321, Tryz.ntmps321
  go_wp2_with fail
  go_loopw [10] (fun x wr => ∃ (i : Nat) (l : List Bt.Page), x = .int .i64 i ∧ i ≤ k ∧ Hid (PRow wr g cap l ∧ Srt.Swapped a c i l0 l ∧ Over g w wr)) (fun x _ => ((k : Int) - intOf x).toNat)
  case atStart => exact ⟨0, l0, rfl, by omega, hid ⟨HP.out, Srt.Swapped.start _ _ _, Over.refl _ _⟩⟩
  case round =>
    obtain ⟨i, l, rfl, hik, HR⟩ := hrel
    by_cases hi : i < k
    · have b1 : decide ((i : Int) < k) = true := by simp; omega
      have wi : IntKind.i64.wrap ((i : Int) + 1) = (i : Int) + 1 := by rw [IntKind.wrap_i64]; omega
      have hlen : l.length = n := by have := HR.out.2.1.len; have := HN.out; omega
      obtain ⟨J, hJ⟩ : ∃ J : Int, (a : Int) + i = J := ⟨_, rfl⟩
      obtain ⟨K, hK⟩ : ∃ K : Int, (c : Int) + i = K := ⟨_, rfl⟩
      have hJt : J.toNat = a + i := by omega
      have hKt : K.toNat = c + i := by omega
      have wJ : IntKind.i64.wrap ((a : Int) + i) = J := by rw [IntKind.wrap_i64]; omega
      have wK : IntKind.i64.wrap ((c : Int) + i) = K := by rw [IntKind.wrap_i64]; omega
      have j2 : decide (J < 0) = false := by simp; omega
      have j3 : decide (J < (n : Int)) = true := by simp; omega
      have j4 : 0 ≤ J := by omega
      have j5 : J < (n : Int) := by omega
      have k2 : decide (K < 0) = false := by simp; omega
      have k3 : decide (K < (n : Int)) = true := by simp; omega
      have k4 : 0 ≤ K := by omega
      have k5 : K < (n : Int) := by omega
      have hjl : J.toNat < l.length := by omega
      have hkl : K.toNat < l.length := by omega
      have hlt := HR.out.1.lt
      have hfr := HR.out.1.free
      obtain ⟨x, hx⟩ : ∃ x, l[J.toNat] = x := ⟨_, rfl⟩
      obtain ⟨y, hy⟩ : ∃ y, l[K.toNat] = y := ⟨_, rfl⟩
      obtain ⟨c0, c1, c2, c3, c4, c5, c6, c7, c8⟩ := nine (HR.out.1.cells J.toNat x (by rw [← hx]; exact List.getElem?_eq_getElem hjl))
      obtain ⟨d0, d1, d2, d3, d4, d5, d6, d7, d8⟩ := nine (HR.out.1.cells K.toNat y (by rw [← hy]; exact List.getElem?_eq_getElem hkl))
      have HX := hid (And.intro hx hy)
      have HJ := hid (And.intro hJ hK)
      have HL := hid (And.intro hlen (And.intro hJt hKt))
      clear hx hy hJ hK hlen hJt hKt
      have n00 : (J.toNat * 9 = K.toNat * 9) = False := eq_false (by have := HL.out; omega)
      have n01 : ∀ b, b < 9 → (J.toNat * 9 = K.toNat * 9 + b) = False := fun b hb => eq_false (by have := HL.out; omega)
      have n10 : ∀ a, a < 9 → (J.toNat * 9 + a = K.toNat * 9) = False := fun b hb => eq_false (by have := HL.out; omega)
      have n11 : ∀ a b, a < 9 → b < 9 → (J.toNat * 9 + a = K.toNat * 9 + b) = False := fun a b ha hb => eq_false (by have := HL.out; omega)
      go_wp2_with fail
      go_region
      go_wp2_with fail
      have P1 := HR.out.1.swap hjl hkl
      rw [HX.out.1, HX.out.2, swap_world] at P1
      have ho := HR.out.2.2
      obtain ⟨e1, e2, e3⟩ := HL.out
      refine ⟨⟨i + 1, Srt.sw l (a + i) (c + i), by simp, hi, hid ⟨?_, HR.out.2.1.next hi (by omega) (by have := HN.out; omega), ?_⟩⟩, by simp [intOf]; omega⟩
      · rw [e2, e3] at P1 ⊢
        first | with_reducible exact P1 | with_reducible exact P1.drew
      · exact qV
    · have b1 : decide ((i : Int) < k) = false := by simp; omega
      have e : i = k := by omega
      go_wp2_with fail
      exact bodyPost_end (results_none rfl _ _ _) rfl ⟨rfl, ⟨l, HR.out.1, e ▸ HR.out.2.1⟩, HR.out.2.2⟩
theorem rotate (g cap : Nat) (l0 : List Bt.Page) (a m b n : Nat) (hn : n = l0.length) (hsm : n ≤ 1000000) (ham : a < m) (hmb : m < b) (hb : b ≤ n) (w : World) (h : PRow w g cap l0) (f : Value) :
    Calls Tryz.prog 318 #[.slice (some ⟨g, 0, none⟩) n cap, .int .i64 a, .int .i64 m, .int .i64 b, f] w
      fun e w' => e = .returned (.tuple #[]) ∧ (∃ l', PRow w' g cap l' ∧ Srt.Turn a m b l0 l') ∧ Over g w w' := by
  have HP := hid h
  have HN := hid hn
  clear h hn
  obtain ⟨I0, hI0⟩ : ∃ I : Int, (m : Int) - a = I := ⟨_, rfl⟩
  obtain ⟨J0, hJ0⟩ : ∃ I : Int, (b : Int) - m = I := ⟨_, rfl⟩
  have wI0 : IntKind.i64.wrap ((m : Int) - a) = I0 := by rw [IntKind.wrap_i64]; omega
  have wJ0 : IntKind.i64.wrap ((b : Int) - m) = J0 := by rw [IntKind.wrap_i64]; omega
  have HI0 := hid (And.intro hI0 hJ0)
  clear hI0 hJ0
  go_enter Tryz.func318, Tryz.ntmps318
  go_wp2_with fail
  go_loopw [10, 11] (fun x y wr => ∃ (i j : Nat) (l : List Bt.Page), x = .int .i64 i ∧ y = .int .i64 j ∧ 1 ≤ i ∧ 1 ≤ j ∧ i ≤ m ∧ m + j ≤ n ∧ Hid (PRow wr g cap l ∧ l.length = n ∧ (∀ lf, Srt.Turn (m - i) m (m + j) l lf → Srt.Turn a m b l0 lf) ∧ Over g w wr)) (fun x y _ => (intOf x + intOf y).toNat)
  case atStart => exact ⟨m - a, b - m, l0, by have := HI0.out; rw [show I0 = ((m - a : Nat) : Int) by omega], by have := HI0.out; rw [show J0 = ((b - m : Nat) : Int) by omega], by omega, by omega, by omega, by omega, hid ⟨HP.out, HN.out.symm, fun lf h => by rwa [show m - (m - a) = a by omega, show m + (b - m) = b by omega] at h, Over.refl _ _⟩⟩
  case round =>
    obtain ⟨i, j, l, rfl, rfl, hi, hj, him, hjn, HR⟩ := hrel
    obtain ⟨MI, hMI⟩ : ∃ I : Int, (m : Int) - i = I := ⟨_, rfl⟩
    have wMI : IntKind.i64.wrap ((m : Int) - i) = MI := by rw [IntKind.wrap_i64]; omega
    have hMIn : MI = ((m - i : Nat) : Int) := by omega
    have HS := fun (c k : Nat) (h1 : m - i + k ≤ c) (h2 : c + k ≤ n) W (hW : PRow W g cap l) => swapRange g cap l (m - i) c k n HR.out.2.1.symm hsm h1 h2 W hW f
    rw [← hMIn] at HS
    have HSW := hid HS
    have HMI := hid (And.intro hMI hMIn)
    clear hMI hMIn HS
    by_cases hij : i = j
    · subst hij
      go_wp2_with fail
      go_at_call 321; refine (HSW.out m i (by omega) (by omega) _ HR.out.1).mono ?_; rintro e w1 ⟨rfl, ⟨l', P1, S1⟩, o1⟩
      have H1 := hid (And.intro P1 (And.intro S1 o1))
      clear P1 S1 o1
      go_wp2_with fail
      exact bodyPost_end (results_none rfl _ _ _) rfl ⟨rfl, ⟨l', H1.out.1, HR.out.2.2.1 l' (Srt.turn_even H1.out.2.1 him)⟩, HR.out.2.2.2.trans H1.out.2.2⟩
    · have b1 : ((i : Int) != j) = true := by simp; omega
      have b2 : (i != j) = true := by simp [hij]
      by_cases hlt : j < i
      · have b3 : decide ((j : Int) < i) = true := by simp; omega
        have b4 : decide (j < i) = true := by simp; omega
        obtain ⟨IJ, hIJ⟩ : ∃ I : Int, (i : Int) - j = I := ⟨_, rfl⟩
        have wIJ : IntKind.i64.wrap ((i : Int) - j) = IJ := by rw [IntKind.wrap_i64]; omega
        have HIJ := hid hIJ
        clear hIJ
        go_wp2_with fail
        go_at_call 321; refine (HSW.out m j (by omega) (by omega) _ HR.out.1).mono ?_; rintro e w1 ⟨rfl, ⟨l', P1, S1⟩, o1⟩
        have H1 := hid (And.intro P1 (And.intro S1 o1))
        clear P1 S1 o1
        go_wp2_with fail
        have := HIJ.out
        exact ⟨⟨i - j, j, l', by rw [show IJ = ((i - j : Nat) : Int) by omega], rfl, by omega, by omega, by omega, by omega, hid ⟨H1.out.1, H1.out.2.1.len.trans HR.out.2.1, fun lf h => HR.out.2.2.1 lf (Srt.turn_step1 H1.out.2.1 him hlt (by rwa [show m - (i - j) = m - i + j by omega] at h)), HR.out.2.2.2.trans H1.out.2.2⟩⟩, by simp [intOf]; omega⟩
      · have b3 : decide ((j : Int) < i) = false := by simp; omega
        have b4 : decide (j < i) = false := by simp; omega
        obtain ⟨IJ, hIJ⟩ : ∃ I : Int, (j : Int) - i = I := ⟨_, rfl⟩
        have wIJ : IntKind.i64.wrap ((j : Int) - i) = IJ := by rw [IntKind.wrap_i64]; omega
        obtain ⟨MJ, hMJ⟩ : ∃ I : Int, (m : Int) + j = I := ⟨_, rfl⟩
        have wMJ : IntKind.i64.wrap ((m : Int) + j) = MJ := by rw [IntKind.wrap_i64]; omega
        obtain ⟨MK, hMK⟩ : ∃ I : Int, MJ - i = I := ⟨_, rfl⟩
        have wMK : IntKind.i64.wrap (MJ - i) = MK := by rw [IntKind.wrap_i64]; omega
        have HIJ := hid (And.intro hIJ (show MK = ((m + j - i : Nat) : Int) by omega))
        clear hIJ hMJ hMK
        go_wp2_with fail
        rw [HIJ.out.2]
        go_at_call 321; refine (HSW.out (m + j - i) i (by omega) (by omega) _ HR.out.1).mono ?_; rintro e w1 ⟨rfl, ⟨l', P1, S1⟩, o1⟩
        have H1 := hid (And.intro P1 (And.intro S1 o1))
        clear P1 S1 o1
        go_wp2_with fail
        have := HIJ.out.1
        exact ⟨⟨i, j - i, l', rfl, by rw [show IJ = ((j - i : Nat) : Int) by omega], by omega, by omega, by omega, by omega, hid ⟨H1.out.1, H1.out.2.1.len.trans HR.out.2.1, fun lf h => HR.out.2.2.1 lf (Srt.turn_step2 H1.out.2.1 him (by omega) (by rwa [show m + (j - i) = m + j - i by omega] at h)), HR.out.2.2.2.trans H1.out.2.2⟩⟩, by simp [intOf]; omega⟩
end Go.Proofs.YtcoiehgcfjfhaaaGreatDoor
