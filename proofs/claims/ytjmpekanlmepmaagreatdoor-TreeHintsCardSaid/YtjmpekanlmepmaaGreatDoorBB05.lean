/- An index: scan (plain Lean). -/
import Derived.Test.YtjmpekanlmepmaaGreatDoorBB04
import Derived.Test.YtjmpekanlmepmaaGreatDoorBB01
import Derived.Shelf.Small.Bits
import Derived.Shelf.Small.Wraps
import Derived.Shelf.Strconv.Itoa0
import Derived.Shelf.Sort.Plain
import Derived.Shelf.Slices.Turned
import Derived.Ground.Names2Prog
import Derived.Shelf.Slices.CompactI
import Derived.Shelf.Slices.SearchI
import Derived.Shelf.Slices.Cells
import Derived.Shelf.Slices.In.SortNone
import Derived.Test.YtjmpekanlmepmaaGreatDoorProg
import Derived.Test.YtjmpekanlmepmaaGreatDoorRows
import Derived.WalkKit
import Derived.WalkSpells
import Derived.WalkLawsBesides
import Derived.Deep.DeepFit
import Derived.Deep.RegionWith
import Derived.Deep.QuietTactic
import Derived.BigQuiet
import Derived.Lib.Hide
import Derived.Deep.Draws
import Derived.Laws.ResultCell
import Derived.Orders
set_option linter.all false
set_option maxRecDepth 20000
set_option maxHeartbeats 8000000
namespace Go.Proofs.YtjmpekanlmepmaaGreatDoor.Bt
theorem Z3h (lo hi limit : Int) (acc a b : List Entry) : Z1d lo hi limit acc (a ++ b) = Z1d lo hi limit (Z1d lo hi limit acc a) b := by
 induction a generalizing acc with
 | nil => rfl
 | cons e a ih =>
   simp only [List.cons_append, Z1d]
   split <;> exact ih _
theorem Z8L {lo hi limit : Int} {acc a : List Entry} (h : ∀ e ∈ a, e.key < lo ∨ hi < e.key) : Z1d lo hi limit acc a = acc := by
 induction a with
 | nil => rfl
 | cons e a ih =>
   have := h e (by simp)
   simp only [Z1d]
   rw [if_neg (by rintro ⟨h1, h2, _⟩; rcases this with h3 | h3 <;> omega)]
   exact ih (fun x hx => h x (by simp [hx]))
theorem Zbm {lo hi limit : Int} {acc a : List Entry} (h : limit ≤ acc.length) : Z1d lo hi limit acc a = acc := by
 induction a with
 | nil => rfl
 | cons e a ih =>
   simp only [Z1d]
   rw [if_neg (by rintro ⟨_, _, h3⟩; omega)]
   exact ih
theorem Zaf {lo hi limit : Int} {acc a : List Entry} (h : (acc.length : Int) ≤ limit) : ((Z1d lo hi limit acc a).length : Int) ≤ limit := by
 induction a generalizing acc with
 | nil => exact h
 | cons e a ih =>
   simp only [Z1d]
   split
   ·rename_i hc
    exact ih (by simp; omega)
   ·exact ih h
theorem Zae {l : List Int} (h : l ≠ []) : Z23 l ≠ [] := by
 cases l with
 | nil => exact absurd rfl h
 | cons x l =>
   simp only [Z23]
   cases Z23 l with
   | nil => simp [Z2c]
   | cons y r => simp only [Z2c]; split <;> simp
theorem Zb9 {l : List Int} (h : l ≠ []) : compact l ≠ [] := by
 induction l with
 | nil => exact absurd rfl h
 | cons x l ih =>
   cases l with
   | nil => simp [compact]
   | cons y l =>
     simp only [compact]
     split
     ·exact ih (by simp)
     ·simp
theorem Zcv {p : Int} {R : List Cell} (hr : Rise p R) (hv : ∀ c ∈ R, c.2.valid = true) : ∀ x ∈ ents R, p < x.key := by
 induction R generalizing p with
 | nil => intro x hx; cases hx
 | cons c R ih =>
   intro x hx
   have hvc := Node.valid_parts (hv c (by simp))
   simp only [Rise] at hr
   rw [Z0N, List.mem_append] at hx
   split at hr
   ·rename_i hd
    rcases hx with hx | hx
    ·have := (hvc.2.2.2.2.2.2.2.2.1 hd).2.1; rw [this] at hx; cases hx
    ·exact ih hr (fun y hy => hv y (by simp [hy])) x hx
   ·rcases hx with hx | hx
    ·exact hr.2.1 x hx
    ·have := ih hr.2.2 (fun y hy => hv y (by simp [hy])) x hx
     have := hr.1
     omega
structure Scanned (op : Op) (s r : St) (acc es : List Entry) : Prop where
 need : r.need = s.need
 writes : r.writes = s.writes
 ended : r.ended = s.ended
 code : r.out.code = 0
 ents : r.out.entries = Z1d op.key op.last op.limit acc es
 more : r.out.more = decide (((Z1d op.key op.last op.limit acc es).length : Int) = op.limit)
 check : r.out.check ≠ []
theorem Zb8 {ps : List Page} (op : Op) (R : List Cell) : ∀ (l : Int) (n : Node) (p : Int) (fuel : Nat) (s : St) (moves : Int) (acc : List Entry) (check : List Int),
 Chain ((l, n) :: R) nilP → (∀ c ∈ (l, n) :: R, Sees ps c.1 c.2) → (∀ c ∈ (l, n) :: R, c.2.level = 0) → Rise p ((l, n) :: R) → op.last ≤ Z0e → R.length < fuel → moves + R.length ≤ 256 → (acc.length : Int) ≤ op.limit →
 Scanned op s (Z3A op ps fuel s moves acc check (pg ps l) n) acc (n.entries ++ ents R) := by
 induction R with
 | nil =>
   intro l n p fuel s moves acc check hc hs hl hr hlast hfu hmv hacc
   obtain ⟨f, rfl⟩ : ∃ f, fuel = f + 1 := ⟨fuel - 1, by omega⟩
   have hsn : Sees ps l n := hs (l, n) (by simp)
   obtain ⟨a1, a2, a3, a4, a5, a6, a7, a8, a9, a10, a11⟩ := Node.valid_parts hsn.good.valid
   have hnr : n.right = nilP := hc.1
   have hd : n.dead = false := by
    cases hd : n.dead with
    | false => rfl
    | true => exact absurd hnr (a9 hd).2.2.2
   have hhi : n.high = Z08 := a7.2 hnr
   have hst : op.last ≤ n.high := by rw [hhi]; unfold Z0e at hlast; unfold Z08; omega
   simp only [Z3A]
   rw [if_neg (by rw [hd]; simp), if_neg (by rw [hsn.free]; simp)]
   rw [if_pos (.inr hst)]
   rw [Z6l, List.append_nil]
   exact ⟨rfl, rfl, rfl, rfl, rfl, rfl, Zb9 (Zae (by simp))⟩
 | cons d R ih =>
   intro l n p fuel s moves acc check hc hs hl hr hlast hfu hmv hacc
   obtain ⟨f, rfl⟩ : ∃ f, fuel = f + 1 := ⟨fuel - 1, by omega⟩
   obtain ⟨k, m⟩ := d
   have hsn : Sees ps l n := hs (l, n) (by simp)
   have hsm : Sees ps k m := hs (k, m) (by simp)
   have hnr : n.right = ptr k := hc.1
   have hln : n.level = 0 := hl (l, n) (by simp)
   have hlm : m.level = 0 := hl (k, m) (by simp)
   have hnb : ∀ t : St, t.neighbour ps n = (t, some (pg ps k, m)) := fun t => by
    unfold St.neighbour
    rw [hnr, hsm.look]
    simp only
    rw [if_neg (by rw [hln, hlm]; simp)]
   simp only [List.length_cons] at hfu hmv
   obtain ⟨a1, a2, a3, a4, a5, a6, a7, a8, a9, a10, a11⟩ := Node.valid_parts hsn.good.valid
   have go : ∀ (t : St) (acc' : List Entry) (check' : List Int) (q : Int), Rise q ((k, m) :: R) → (acc'.length : Int) ≤ op.limit → Scanned op t (Z3A op ps f t (moves + 1) acc' check' (pg ps k) m) acc' (m.entries ++ ents R) := fun t acc' check' q hq hacc' =>
    ih k m q f t (moves + 1) acc' check' hc.2 (fun c hc => hs c (List.mem_cons_of_mem _ hc)) (fun c hc => hl c (List.mem_cons_of_mem _ hc)) hq hlast (by omega) (by omega) hacc'
   simp only [Z3A]
   have hents : n.entries ++ ents ((k, m) :: R) = n.entries ++ (m.entries ++ ents R) := rfl
   rw [hents]
   simp only [Rise] at hr
   cases hd : n.dead with
   | true =>
     rw [if_pos rfl, if_neg (by omega)]
     rw [if_pos hd] at hr
     simp only [hnb]
     have hne : n.entries = [] := (a9 hd).2.1
     have h1 := go ({ s with out := { s.out with hops := s.out.hops + 1, dead := s.out.dead || true } } : St) acc check p hr hacc
     rw [hne, List.nil_append]
     exact ⟨h1.need, h1.writes, h1.ended, h1.code, h1.ents, h1.more, h1.check⟩
   | false =>
     rw [if_neg (by simp), if_neg (by rw [hsn.free]; simp)]
     rw [if_neg (by rw [hd]; simp)] at hr
     have hacc' : ((Z1d op.key op.last op.limit acc n.entries).length : Int) ≤ op.limit := Zaf hacc
     by_cases hstop : decide (((Z1d op.key op.last op.limit acc n.entries).length : Int) = op.limit) = true ∨ op.last ≤ n.high
     ·rw [if_pos hstop]
      have hrest : Z1d op.key op.last op.limit (Z1d op.key op.last op.limit acc n.entries) (m.entries ++ ents R) = Z1d op.key op.last op.limit acc n.entries := by
       rcases hstop with h1 | h1
       ·have h2 : ((Z1d op.key op.last op.limit acc n.entries).length : Int) = op.limit := by simpa using h1
        exact Zbm (by omega)
       ·refine Z8L fun e he => .inr ?_
        have := Zcv (p := n.high) (R := (k, m) :: R) hr.2.2 (fun c hc => (hs c (List.mem_cons_of_mem _ hc)).good.valid) e he
        omega
      refine ⟨rfl, rfl, rfl, rfl, ?_, ?_, Zb9 (Zae (by simp))⟩
      ·rw [Z3h, hrest]; rfl
      ·rw [Z3h, hrest]; rfl
     ·rw [if_neg hstop, if_neg (by omega)]
      simp only [hnb]
      have h1 := go ({ s with out := { s.out with more := decide (((Z1d op.key op.last op.limit acc n.entries).length : Int) = op.limit), hops := s.out.hops + 1, dead := s.out.dead || false } } : St) (Z1d op.key op.last op.limit acc n.entries) (check ++ [(pg ps l).line]) n.high hr.2.2 hacc'
      refine ⟨h1.need, h1.writes, h1.ended, h1.code, ?_, ?_, h1.check⟩
      ·rw [Z3h]; exact h1.ents
      ·rw [Z3h]; exact h1.more
theorem Inv.scan {ps : List Page} {nx : Int} {es : List Entry} {T : List (List Cell)} (h : Inv ps nx es T) {op : Op} (hkd : op.kind = 4) (hk : 1 ≤ op.key) (hkl : op.key ≤ op.last) (hk2 : op.last ≤ Z0e) (hlim : 1 ≤ op.limit ∧ op.limit ≤ 64) :
 ∃ o, next op ps = ⟨[], [], o, true⟩ ∧ o.code = 0 ∧ o.entries = Z1d op.key op.last op.limit [] es ∧ o.more = decide (((Z1d op.key op.last op.limit [] es).length : Int) = op.limit) ∧ o.check ≠ [] := by
 have hv : op.isValid = true := by unfold Op.isValid; simp [hkd, isKey, hk, hk2, hkl, hlim]; omega
 have hgo : (S0 ps T).go op ps = (S0 ps T).scan op ps := by unfold St.go; rw [if_neg (by omega), if_neg (by omega), if_neg (by omega), if_pos hkd]
 obtain ⟨h1, h2, h3, h4, h5⟩ := h.rootHere
 rw [h.step hv, hgo]
 by_cases hT : T = []
 ·subst hT
  have hes : es = [] := by rw [← h.holds]; rfl
  have e1 : (S0 ps []).scan op ps = (S0 ps []).fail 0 [96] := by
   unfold St.scan St.noTree
   rw [if_pos (show (S0 ps []).root = nilP from rfl), if_neg (by show ¬ locked (pg ps 96) = true; rw [h2]; simp)]
  rw [e1, Z1q rfl, hes]
  refine ⟨_, rfl, rfl, rfl, ?_, by show [96] ≠ []; simp⟩
  show false = decide (((0 : Nat) : Int) = op.limit)
  rw [eq_comm, decide_eq_false_iff_not]; omega
 ·obtain ⟨pre, A, l, n, R, hs, i1, i3, i3b, i4, i5, i5b, i6, i6b, i6c, i7, i8, i9, i10, i11, i12, i13⟩ := h.leaf hT hk (by unfold Z0e at hk2; unfold Z08; omega)
  have hroot : ¬ (S0 ps T).root = nilP := fun e => hT (h.rootNil.1 e)
  have hlv : Level ((([] : List (List Cell)).length : Nat) : Int) (A ++ (l, n) :: R) := Tree.level (pre := pre) (i1 ▸ h.tree)
  have e1 : (S0 ps T).scan op ps = Z3A op ps 257 (after hs (T.length : Int) (S0 ps T)) 0 [] [] (pg ps l) n := by
   unfold St.scan
   rw [if_neg hroot, i7 _ rfl]
  have hsm := h.small
  have hRl : R.length ≤ 151 := by
   rw [i1] at hsm
   simp [flat] at hsm
   omega
  have hsc := Zb8 (ps := ps) op R l n (Z05 0 A) 257 (after hs (T.length : Int) (S0 ps T)) 0 [] [] (Chain.append.1 hlv.chain).2 (fun c hc => h.sees c (by rw [i1]; simp only [Z0P, List.mem_append]; right; simp only [Z16, List.mem_append, List.mem_cons] at hc ⊢; exact .inl (.inr hc))) (fun c hc => hlv.level c (by simp only [List.mem_append]; exact .inr hc)) (Rise.append.1 hlv.rise).2 hk2 (by omega) (by omega) (by simp; omega)
  rw [e1]
  obtain ⟨b1, b2, b3, b4, b5, b6, b7⟩ := hsc
  have hes : Z1d op.key op.last op.limit [] es = Z1d op.key op.last op.limit [] (n.entries ++ ents R) := by
   rw [i9, Z3h, Z8L (a := ents A) (fun e he => .inl (i10 e he))]
  have hclose : (Z3A op ps 257 (after hs (T.length : Int) (S0 ps T)) 0 [] [] (pg ps l) n).close = ⟨[], [], (Z3A op ps 257 (after hs (T.length : Int) (S0 ps T)) 0 [] [] (pg ps l) n).out, true⟩ := by
   unfold St.close
   rw [if_neg (by rw [b1]; show ¬ ([] : List Int) ≠ []; simp), b2, if_pos (by rw [b3]; rfl)]
   rfl
  refine ⟨_, hclose, b4, by rw [hes]; exact b5, by rw [hes]; exact b6, b7⟩
def phi (c : List Cell) : Nat := (c.map (fun x => x.2.entries.length - 3)).sum
def live (c : List Cell) : Nat := (c.map (fun x => if x.2.dead then 0 else 1)).sum
theorem Z28 (a b : List Cell) : phi (a ++ b) = phi a + phi b := by simp [phi]
theorem Z2z (x : Cell) (b : List Cell) : phi (x :: b) = (x.2.entries.length - 3) + phi b := by simp [phi]
theorem Z1c (a b : List Cell) : live (a ++ b) = live a + live b := by simp [live]
theorem Z1f (x : Cell) (b : List Cell) : live (x :: b) = (if x.2.dead then 0 else 1) + live b := by simp [live]
theorem Z9i (c : List Cell) : live c ≤ c.length := by
 induction c with
 | nil => simp [live]
 | cons x c ih => rw [Z1f]; simp only [List.length_cons]; split <;> omega
def Z2b (K : Nat) : List (List Cell) → Prop
 | c :: d :: t => 3 * c.length + phi c ≤ (ents c).length + (if t = [] then K else 0) + 1 ∧ Z2b K (d :: t)
 | _ => True
theorem Z2b.append {K : Nat} {pre post : List (List Cell)} (h : Z2b K (pre ++ post)) : Z2b K post := by
 induction pre with
 | nil => exact h
 | cons c pre ih =>
   apply ih
   cases hp : pre ++ post with
   | nil => trivial
   | cons d t =>
     rw [List.cons_append, hp] at h
     exact h.2
theorem Z2b.last {K : Nat} {pre : List (List Cell)} {lo lo' : List Cell} (h : Z2b K (pre ++ [lo])) : Z2b K (pre ++ [lo']) := by
 induction pre with
 | nil => trivial
 | cons c pre ih =>
   cases pre with
   | nil => exact ⟨h.1, trivial⟩
   | cons d pre =>
     refine ⟨?_, ih h.2⟩
     have := h.1
     simpa using this
theorem Z2b.inner {K : Nat} {pre post : List (List Cell)} {c c' d : List Cell} (h : Z2b K (pre ++ c :: d :: post)) (hc : 3 * c'.length + phi c' + (ents c).length ≤ 3 * c.length + phi c + (ents c').length) : Z2b K (pre ++ c' :: d :: post) := by
 induction pre with
 | nil =>
   refine ⟨?_, h.2⟩
   have := h.1
   omega
 | cons x pre ih =>
   cases pre with
   | nil => exact ⟨by have := h.1; simpa using this, ih h.2⟩
   | cons y pre => exact ⟨by have := h.1; simpa using this, ih h.2⟩
theorem Z2b.kill {K : Nat} {pre : List (List Cell)} {c c' lo lo' : List Cell} (h : Z2b K (pre ++ [c, lo])) (hc : 3 * c'.length + phi c' + (ents c).length ≤ 3 * c.length + phi c + (ents c').length + 1) : Z2b (K + 1) (pre ++ [c', lo']) := by
 induction pre with
 | nil =>
   refine ⟨?_, trivial⟩
   have := h.1
   simp only [if_true] at this ⊢
   omega
 | cons x pre ih =>
   cases pre with
   | nil => exact ⟨by have := h.1; simpa using this, ih h.2⟩
   | cons y pre => exact ⟨by have := h.1; simpa using this, ih h.2⟩
def Z2Z (T : List (List Cell)) : Nat := (flat T.dropLast).length
theorem Z1L (pre : List (List Cell)) (lo : List Cell) : Z2Z (pre ++ [lo]) = (flat pre).length := by simp [Z2Z]
theorem Z46 (c d : List Cell) (t : List (List Cell)) : Z2Z (c :: d :: t) = c.length + Z2Z (d :: t) := by simp [Z2Z, Z16]
theorem Z3D (pre post : List (List Cell)) (c d : List Cell) : Z2Z (pre ++ c :: d :: post) = (flat pre).length + c.length + Z2Z (d :: post) := by
 induction pre with
 | nil => simp [Z46, flat]
 | cons x pre ih =>
   rw [List.cons_append]
   cases hp : pre ++ c :: d :: post with
   | nil => simp at hp
   | cons y t =>
     rw [Z46, ← hp, ih, Z16, List.length_append]; omega
structure Cnt (T : List (List Cell)) (nx : Int) (ins K : Nat) : Prop where
 inner : Z2b K T
 made : nx = 105 + ((live (T.getLastD []) + K + Z2Z T : Nat) : Int)
 leaf : T ≠ [] → 3 * (live (T.getLastD []) + K) + phi (T.getLastD []) ≤ ins + 3
 empty : T = [] → K = 0
theorem Z0L (pre : List (List Cell)) (lo : List Cell) : (pre ++ [lo]).getLastD [] = lo := by simp
theorem Z2l (pre post : List (List Cell)) (c d : List Cell) : (pre ++ c :: d :: post).getLastD [] = (d :: post).getLastD [] := by
 induction pre with
 | nil => simp [List.getLastD_eq_getLast?]
 | cons x pre ih =>
   rw [← ih]
   cases pre <;> simp [List.getLastD_eq_getLast?]
theorem Evo.cnt {new d : Int} {w k : Nat} {T T' : List (List Cell)} (he : Evo new d w k T T') {nx : Int} {ins K : Nat} (h : Cnt T nx ins K) : Cnt T' (nx + d) (ins + w) (K + k) := by
 cases he with
 | same => simpa using h
 | @plant e =>
   have hk := h.empty rfl
   subst hk
   have hm := h.made
   refine ⟨trivial, ?_, fun _ => ?_, fun h => by cases h⟩
   ·simp [live, Z2Z, flat, Z2H] at hm ⊢; omega
   ·simp [live, phi, Z2H]
 | @raise x y r t =>
   refine ⟨⟨?_, h.inner⟩, ?_, fun _ => ?_, fun h => by cases h⟩
   ·simp [phi, Z2D, ents]
   ·rw [h.made, Z46]
    have e : ([(new, Z2D ((t.length : Int) + 1) x.2.high (ptr x.1) (ptr y.1))] :: (x :: y :: r) :: t).getLastD [] = ((x :: y :: r) :: t).getLastD [] := by simp [List.getLastD_eq_getLast?]
    rw [e]
    simp only [List.length_cons, List.length_nil]
    omega
   ·have e : ([(new, Z2D ((t.length : Int) + 1) x.2.high (ptr x.1) (ptr y.1))] :: (x :: y :: r) :: t).getLastD [] = ((x :: y :: r) :: t).getLastD [] := by simp [List.getLastD_eq_getLast?]
    rw [e]
    exact h.leaf (by simp)
 | @leaf pre A R l n es hd hl =>
   have h1 := h.leaf (by simp)
   have h2 := h.made
   rw [Z0L, Z1c, Z1f, Z28, Z2z] at h1
   rw [Z0L, Z1c, Z1f, Z1L] at h2
   refine ⟨h.inner.last, ?_, fun _ => ?_, fun h => by simp at h⟩
   ·rw [Z0L, Z1c, Z1f, Z1L]
    simp only [hd] at h2 ⊢
    omega
   ·rw [Z0L, Z1c, Z1f, Z28, Z2z]
    simp only [hd] at h1 ⊢
    omega
 | @leafSplit pre A R l n e1 e2 hd h5 h1 h2 h3 =>
   have k1 := h.leaf (by simp)
   have k2 := h.made
   rw [Z0L, Z1c, Z1f, Z28, Z2z] at k1
   rw [Z0L, Z1c, Z1f, Z1L] at k2
   have d1 : (Z0o n new e1 (Z03 e1)).dead = false := hd
   have d2 : (Z0p n e2).dead = false := rfl
   have l1 : (Z0o n new e1 (Z03 e1)).entries.length = 3 := h1
   have l2 : (Z0p n e2).entries.length = 3 := h2
   refine ⟨h.inner.last, ?_, fun _ => ?_, fun h => by simp at h⟩
   ·rw [Z0L, Z1c, Z1f, Z1f, Z1L]
    simp only [hd, d1, d2, if_false, Bool.false_eq_true] at k2 ⊢
    omega
   ·rw [Z0L, Z1c, Z1f, Z1f, Z28, Z2z, Z2z]
    simp only [hd, d1, d2, l1, l2, h5, if_false, Bool.false_eq_true] at k1 ⊢
    omega
 | @post pre post A R lo l n a b e x y hn ht hx hr hy hyd hlt =>
   have k2 := h.made
   rw [Z2l, Z3D] at k2
   refine ⟨h.inner.inner ?_, ?_, fun _ => ?_, fun h => by simp at h⟩
   ·simp only [List.length_append, List.length_cons, Z28, Z2z, Z0I, Z0N, hn]
    omega
   ·rw [Z2l, Z3D]
    simp only [List.length_append, List.length_cons] at k2 ⊢
    omega
   ·have k1 := h.leaf (by simp)
    rw [Z2l] at k1 ⊢
    exact k1
 | @postSplit pre post A R lo l n a b e1 e2 e x y hn ht hx hr hy hyd hlt hns h5 h1 h2 h3 =>
   have k2 := h.made
   rw [Z2l, Z3D] at k2
   have l1 : (Z0o n new e1 (Z03 e1)).entries = e1 := rfl
   have l2 : (Z0p n e2).entries = e2 := rfl
   refine ⟨h.inner.inner ?_, ?_, fun _ => ?_, fun h => by simp at h⟩
   ·have h6 : a.length + b.length + 1 = 5 := by rw [hn] at h5; simp at h5; omega
    simp only [List.length_append, List.length_cons, Z28, Z2z, Z0I, Z0N, l1, l2, h1, h2, h5]
    omega
   ·rw [Z2l, Z3D]
    simp only [List.length_append, List.length_cons] at k2 ⊢
    omega
   ·have k1 := h.leaf (by simp)
    rw [Z2l] at k1 ⊢
    exact k1
 | @kill pre U V A R lp l p n es1 es2 e f hd hn hp hto hkey =>
   have k1 := h.leaf (by simp)
   have k2 := h.made
   have e1 : ∀ (x y : List Cell), pre ++ [x, y] = (pre ++ [x]) ++ [y] := fun x y => by simp
   rw [e1, Z0L, Z1L, Z1c, Z1f] at k2
   rw [e1, Z0L, Z1c, Z1f, Z28, Z2z] at k1
   refine ⟨h.inner.kill ?_, ?_, fun _ => ?_, fun h => by simp at h⟩
   ·simp only [List.length_append, List.length_cons, Z28, Z2z, Z0I, Z0N, hp]
    omega
   ·rw [e1, Z0L, Z1L, Z1c, Z1f]
    simp only [hd, Z0P, Z16, List.length_append, List.length_cons, if_true, if_false, Bool.false_eq_true] at k2 ⊢
    omega
   ·rw [e1, Z0L, Z1c, Z1f, Z28, Z2z]
    simp only [hd, if_true, if_false, Bool.false_eq_true] at k1 ⊢
    omega
 | @unlink pre A R l k n m hd hm =>
   have k1 := h.leaf (by simp)
   have k2 := h.made
   rw [Z0L, Z1c, Z1f, Z1f, Z28, Z2z, Z2z] at k1
   rw [Z0L, Z1c, Z1f, Z1f, Z1L] at k2
   refine ⟨h.inner.last, ?_, fun _ => ?_, fun h => by simp at h⟩
   ·rw [Z0L, Z1c, Z1f, Z1L]
    simp only [hd, hm, if_true, if_false, Bool.false_eq_true] at k2 ⊢
    omega
   ·rw [Z0L, Z1c, Z1f, Z28, Z2z]
    simp only [hd, hm, if_true, if_false, Bool.false_eq_true] at k1 ⊢
    omega
theorem Names.count {lo : List Cell} (hr : Rise 0 lo) : ∀ (es : List Entry) (p : Int), Z09 p es = true → Names lo p es → ∀ a r, lo = a ++ r → (∀ a' t a'', a = a' ++ t :: a'' → t.2.dead = false → Z05 0 a' < p) → es.length ≤ live r := by
 intro es
 induction es with
 | nil => intro _ _ _ _ _ _ _; simp
 | cons e es ih =>
   intro p hrs hn a r hlo hC
   simp only [Z09, Bool.and_eq_true, decide_eq_true_eq] at hrs
   obtain ⟨⟨a1, t, b1, q1, q2, q3, q4⟩, hn2⟩ := hn
   -- the place lies behind a
   obtain ⟨r1, h1, h2⟩ : ∃ r1, a1 = a ++ r1 ∧ r = r1 ++ t :: b1 := by
    rw [q1] at hlo
    rcases List.append_eq_append_iff.1 hlo with ⟨a', e1, e2⟩ | ⟨a', e1, e2⟩
    ·cases a' with
     | nil => exact ⟨[], by simpa using e1.symm, by simpa using e2.symm⟩
     | cons x a' =>
       exfalso
       simp only [List.cons_append, List.cons.injEq] at e2
       have := hC a1 x a' e1 (by rw [← e2.1]; exact q3)
       omega
    ·exact ⟨a', e1, e2⟩
   have h3 := ih e.key hrs.2 hn2 (a1 ++ [t]) b1 (by rw [q1]; simp) (fun a' t' a'' he ht => by
    have hle : Z05 0 a' ≤ p := by
     have hra : Rise 0 (a1 ++ [t]) := (Rise.append.1 (show Rise 0 ((a1 ++ [t]) ++ b1) by rw [q1] at hr; simpa using hr)).1
     rcases List.eq_nil_or_concat a'' with rfl | ⟨a3, z, rfl⟩
     ·have := List.append_inj' (show a1 ++ [t] = a' ++ [t'] by simpa using he) rfl
      rw [← this.1]; omega
     ·have h5 : a1 = a' ++ t' :: a3 := by
        have : a1 ++ [t] = (a' ++ t' :: a3) ++ [z] := by simpa using he
        exact (List.append_inj' this rfl).1
      have h6 : Rise 0 a1 := (Rise.append.1 hra).1
      rw [h5] at h6
      have := Z59 h6
      rw [← h5] at this
      omega
    omega)
   rw [h2, Z1c, Z1f, if_neg (by rw [q3]; simp)]
   simp only [List.length_cons]
   omega
theorem Levels.ents_le {up lo : List Cell} {t : List (List Cell)} (h : Levels (up :: lo :: t)) (hn : Links (up :: lo :: t)) : (ents up).length ≤ live lo :=
 Names.count h.2.1.rise (ents up) 0 h.1.risingEnts hn.1 [] lo rfl (fun a' t a'' he _ => by simp at he)
theorem Cnt.bound {T : List (List Cell)} {nx : Int} {ins K : Nat} (h : Cnt T nx ins K) (ht : Tree T) (hi : ins ≤ 76) : T.length ≤ 4 ∧ nx ≤ 144 := by
 by_cases hT : T = []
 ·subst hT
  have h1 := h.made
  have h2 := h.empty rfl
  subst h2
  simp [live, Z2Z, flat] at h1 ⊢
  omega
 have h0 := h.leaf hT
 have hm := h.made
 -- one level above another
 have adj : ∀ (c d : List Cell) (t : List (List Cell)), Levels (c :: d :: t) → Links (c :: d :: t) → Z2b K (c :: d :: t) → 3 * c.length ≤ (if t = [] then live d + K else d.length) + 1 ∧ 1 ≤ c.length := by
  intro c d t hl hn hi
  have h1 := hl.ents_le hn
  have h2 := hi.1
  have h3 := Z9i d
  have h4 : 1 ≤ c.length := List.length_pos_iff.2 hl.1.ne
  refine ⟨?_, h4⟩
  split
  ·rename_i ht; rw [if_pos ht] at h2; omega
  ·rename_i ht; rw [if_neg ht] at h2; omega
 obtain ⟨pre, lo, rfl⟩ : ∃ pre lo, T = pre ++ [lo] := by
  rcases List.eq_nil_or_concat T with h | ⟨a, b, h⟩
  ·exact absurd h hT
  ·exact ⟨a, b, by simpa using h⟩
 rw [Z0L] at h0 hm
 rw [Z1L] at hm
 have hlv := ht.levels
 have hln := ht.links
 have hin := h.inner
 rcases List.eq_nil_or_concat pre with rfl | ⟨pre1, u1, rfl⟩
 ·simp [flat] at hm ⊢; omega
 simp only [List.concat_eq_append, List.append_assoc, List.cons_append, List.nil_append] at hlv hln hin hm ⊢
 have c1 := adj u1 lo [] hlv.append hln.append hin.append
 rw [if_pos rfl] at c1
 rcases List.eq_nil_or_concat pre1 with rfl | ⟨pre2, u2, rfl⟩
 ·simp [flat] at hm ⊢; omega
 simp only [List.concat_eq_append, List.append_assoc, List.cons_append, List.nil_append] at hlv hln hin hm ⊢
 have c2 := adj u2 u1 [lo] hlv.append hln.append hin.append
 rw [if_neg (by simp)] at c2
 rcases List.eq_nil_or_concat pre2 with rfl | ⟨pre3, u3, rfl⟩
 ·simp [flat] at hm ⊢; omega
 simp only [List.concat_eq_append, List.append_assoc, List.cons_append, List.nil_append] at hlv hln hin hm ⊢
 have c3 := adj u3 u2 [u1, lo] hlv.append hln.append hin.append
 rw [if_neg (by simp)] at c3
 rcases List.eq_nil_or_concat pre3 with rfl | ⟨pre4, u4, rfl⟩
 ·simp [flat] at hm ⊢; omega
 simp only [List.concat_eq_append, List.append_assoc, List.cons_append, List.nil_append] at hlv hln hin hm ⊢
 have c4 := adj u4 u3 [u2, u1, lo] hlv.append hln.append hin.append
 rw [if_neg (by simp)] at c4
 exfalso
 omega
theorem Cnt.low {T : List (List Cell)} {nx : Int} {ins : Nat} (h : Cnt T nx ins 0) (ht : Tree T) (hT : T ≠ []) : 2 ^ (T.length - 1) ≤ (T.getLastD []).length := by
 have key : ∀ T : List (List Cell), T ≠ [] → Levels T → Links T → Z2b 0 T → 2 ^ (T.length - 1) * (T.headD []).length ≤ (T.getLastD []).length := by
  intro T
  induction T with
  | nil => intro h; exact absurd rfl h
  | cons c t ih =>
    intro _ hl hn hi
    cases t with
    | nil => simp
    | cons d t =>
      have h1 := ih (by simp) hl.2 hn.tail hi.2
      have h2 := hl.ents_le hn
      have h3 := Z9i d
      have h4 := hi.1
      have h5 : 1 ≤ c.length := List.length_pos_iff.2 hl.1.ne
      have h6 : 2 * c.length ≤ d.length := by
       have : (if t = [] then 0 else 0) = 0 := by split <;> rfl
       rw [this] at h4
       omega
      simp only [List.length_cons, Nat.add_sub_cancel, List.headD_cons] at h1 ⊢
      have e : (c :: d :: t).getLastD [] = (d :: t).getLastD [] := by simp [List.getLastD_eq_getLast?]
      rw [e]
      refine Nat.le_trans ?_ h1
      rw [Nat.pow_succ, Nat.mul_assoc]
      exact Nat.mul_le_mul_left _ h6
 have h1 := key T hT ht.levels ht.links h.inner
 have h2 : 1 ≤ (T.headD []).length := by
  cases T with
  | nil => exact absurd rfl hT
  | cons c t => exact List.length_pos_iff.2 ht.levels.ne
 exact Nat.le_trans (Nat.le_mul_of_pos_right _ h2) h1
inductive Goes (known : List Page) (level k height : Int) : Nat → St → Page → Node → St → Walk → Prop
 | here {s : St} {p : Page} {n : Node} : ¬ n.passes k → n.level = level → locked p = false → Goes known level k height 0 s p n { s with ended := true, out := { s.out with height := height } } (.at_ p n)
 | right {N : Nat} {s t : St} {p p' : Page} {n n' : Node} {wk : Walk} : n.passes k → (s.hop n).look known n.right false = (s.hop n, some (p', n')) → n'.level = n.level → Goes known level k height N (s.hop n) p' n' t wk → Goes known level k height (N + 1) s p n t wk
 | rightStop {s s' : St} {p : Page} {n : Node} : n.passes k → (s.hop n).look known n.right false = (s', none) → Goes known level k height 1 s p n s' .stopped
 | down {N : Nat} {s t : St} {p p' : Page} {n n' : Node} {e : Entry} {wk : Walk} : ¬ n.passes k → n.level ≠ level → n.entries[child n.entries k]? = some e → s.look known e.to false = (s, some (p', n')) → n'.level = n.level - 1 → Goes known level k height N s p' n' t wk → Goes known level k height (N + 1) s p n t wk
 | downStop {s s' : St} {p : Page} {n : Node} {e : Entry} : ¬ n.passes k → n.level ≠ level → n.entries[child n.entries k]? = some e → s.look known e.to false = (s', none) → Goes known level k height 1 s p n s' .stopped
theorem Goes.descend {known : List Page} {level k height : Int} {N : Nat} {s t : St} {p : Page} {n : Node} {wk : Walk} (h : Goes known level k height N s p n t wk) (fuel : Nat) (hf : N < fuel) (moves : Int) (hm : moves + N ≤ 256) : Z1m known level k height fuel s moves p n = (t, wk) := by
 induction h generalizing fuel moves with
 | here h1 h2 h3 =>
   obtain ⟨f, rfl⟩ : ∃ f, fuel = f + 1 := ⟨fuel - 1, by omega⟩
   unfold Z1m
   rw [if_neg h1, if_pos h2, if_neg (by rw [h3]; simp)]
 | right h1 h2 h3 _ ih =>
   obtain ⟨f, rfl⟩ : ∃ f, fuel = f + 1 := ⟨fuel - 1, by omega⟩
   unfold Z1m St.neighbour
   rw [if_pos h1, if_neg (by omega), h2]
   simp only
   rw [if_neg (by rw [h3]; simp)]
   exact ih f (by omega) (moves + 1) (by omega)
 | rightStop h1 h2 =>
   obtain ⟨f, rfl⟩ : ∃ f, fuel = f + 1 := ⟨fuel - 1, by omega⟩
   unfold Z1m St.neighbour
   rw [if_pos h1, if_neg (by omega), h2]
 | down h1 h2 h3 h4 h5 _ ih =>
   obtain ⟨f, rfl⟩ : ∃ f, fuel = f + 1 := ⟨fuel - 1, by omega⟩
   unfold Z1m
   rw [if_neg h1, if_neg h2, h3]
   simp only
   rw [h4]
   simp only
   rw [if_neg (by rw [h5]; simp)]
   exact ih f (by omega) moves (by omega)
 | downStop h1 h2 h3 h4 =>
   obtain ⟨f, rfl⟩ : ∃ f, fuel = f + 1 := ⟨fuel - 1, by omega⟩
   unfold Z1m
   rw [if_neg h1, if_neg h2, h3]
   simp only
   rw [h4]
theorem Walks.goes {known : List Page} {lev k height : Int} {c e : Cell} {hs : List Node} {l : List Cell} (h : Walks lev k c hs l e) (hk : ∀ x ∈ c :: l, Sees known x.1 x.2) (s : St) :
 Goes known lev k height l.length s (pg known c.1) c.2 { hs.foldl St.hop s with ended := true, out := { (hs.foldl St.hop s).out with height := height } } (.at_ (pg known e.1) e.2) := by
 induction h generalizing s with
 | @here c h1 h2 => exact .here h1 h2 (hk c (by simp)).free
 | @right c d e hs l h1 h2 h3 _ ih =>
   exact .right h1 (by rw [h2]; exact (hk d (by simp)).look _ _) h3 (ih (fun x hx => hk x (by simp only [List.mem_cons] at hx ⊢; exact .inr hx)) (s.hop c.2))
 | @down c d e x hs l h1 h2 h3 h4 h5 _ ih =>
   exact .down h1 h2 h3 (by rw [h4]; exact (hk d (by simp)).look _ _) h5 (ih (fun x hx => hk x (by simp only [List.mem_cons] at hx ⊢; exact .inr hx)) s)
inductive Dives (known : List Page) (level k : Int) (s : St) : St → Walk → Prop
 | stop {s' : St} : s.look known s.root false = (s', none) → Dives known level k s s' .stopped
 | absent {p : Page} {n : Node} : s.look known s.root false = (s, some (p, n)) → n.level < level → Dives known level k s s .absent
 | goes {p : Page} {n : Node} {N : Nat} {t : St} {wk : Walk} : s.look known s.root false = (s, some (p, n)) → ¬ n.level < level → N ≤ 256 → Goes known level k (n.level + 1) N s p n t wk → Dives known level k s t wk
theorem Dives.descend {known : List Page} {level k : Int} {s t : St} {wk : Walk} (h : Dives known level k s t wk) : s.descend known level k = (t, wk) := by
 unfold St.descend
 cases h with
 | stop h => rw [h]
 | absent h h2 => rw [h]; simp only; rw [if_pos h2]
 | goes h h2 h3 h4 => rw [h]; simp only; rw [if_neg h2]; exact h4.descend _ (by omega) 0 (by omega)
def Walk.got : Walk → Option (Page × Node)
 | .at_ p n => some (p, n)
 | _ => none
def Walk.isAbsent : Walk → Bool
 | .absent => true
 | _ => false
theorem Inv.dives {ps : List Page} {nx : Int} {es : List Entry} {T : List (List Cell)} (h : Inv ps nx es T) {lev : Nat} (hlev : lev < T.length) {k : Int} (hk : 1 ≤ k) (hk2 : k ≤ Z08) :
 ∃ pre A l n R post hs, T = pre ++ (A ++ (l, n) :: R) :: post ∧ post.length = lev ∧ Z05 0 A < k ∧ n.dead = false ∧ k ≤ n.high ∧ (l, n) ∈ flat T ∧ hs.length ≤ 256 ∧
  (∀ s : St, s.root = Z1i T → Dives ps (lev : Int) k s (after hs (T.length : Int) s) (.at_ (pg ps l) n)) := by
 obtain ⟨pre, A, l, n, R, post, hs, i1, i2, i3, i4, i5, i6, i7, i8, c, r, t, L, rfl, i9, i10⟩ := h.descend hlev hk hk2
 have hcl : c.2.level = (t.length : Int) := h.tree.levels.1.level c (by simp)
 have hops := i9.hops
 have hlen := i10.length_le
 have hsm := h.small
 simp only [List.length_cons] at hlen hlev
 refine ⟨pre, A, l, n, R, post, hs, i1, i2, i3, i4, i5, i6, by rw [hcl] at hops; omega, fun s hs' => ?_⟩
 have hlook : s.look ps s.root false = (s, some (pg ps c.1, c.2)) := by
  rw [hs']
  exact (h.sees c (by simp [flat])).look s false
 have hg := i9.goes (known := ps) (height := c.2.level + 1) (fun x hx => h.sees x (i10.subset hx)) s
 rw [Z8Z, hcl] at hg
 have hh : ((((c :: r) :: t).length : Nat) : Int) = (t.length : Int) + 1 := by simp
 rw [hh]
 exact Dives.goes (N := L.length) hlook (by rw [hcl]; omega) (by omega) (by rw [hcl]; exact hg)
theorem Inv.divesAbsent {ps : List Page} {nx : Int} {es : List Entry} {T : List (List Cell)} (h : Inv ps nx es T) {lev : Nat} (hlev : T.length ≤ lev) (hne : T ≠ []) (k : Int) (s : St) (hs : s.root = Z1i T) : Dives ps (lev : Int) k s s .absent := by
 have tg60 := trivial
 exact wG8
theorem Z84 (hs : List Node) (height : Int) (s : St) : (after hs height s).out.hops = s.out.hops + hs.length := rfl
theorem Inv.rootHas {ps : List Page} {nx : Int} {es : List Entry} {T : List (List Cell)} (h : Inv ps nx es T) (hT : T ≠ []) : ∃ c r t, T = (c :: r) :: t ∧ Z1i T = ptr c.1 ∧ c.2.level = (t.length : Int) := by
 obtain ⟨up, t, rfl⟩ : ∃ up t, T = up :: t := by
  cases T with
  | nil => exact absurd rfl hT
  | cons up t => exact ⟨up, t, rfl⟩
 have hl := h.tree.levels
 obtain ⟨c, r, rfl⟩ : ∃ c r, up = c :: r := by
  cases up with
  | nil => exact absurd rfl hl.ne
  | cons c r => exact ⟨c, r, rfl⟩
 exact ⟨c, r, t, rfl, rfl, hl.1.level c (by simp)⟩
end Go.Proofs.YtjmpekanlmepmaaGreatDoor.Bt
namespace Go.Proofs
open Go.Shelf
def Tryz.lays125_ren : Go.Shelf.Ren := ⟨fun | 125 => 96 | 128 => 119 | 129 => 120 | n => n, fun | 46 => 30 | 3 => 3 | 51 => 52 | 53 => 22 | 4 => 4 | 5 => 5 | 9 => 9 | n => n, fun | n => n⟩
theorem Tryz.lays125 : Go.Proofs.Lays.n125 Tryz.prog Tryz.lays125_ren := {
 mixed := by kernel_rfl
 f125 := Tryz.func96.trans (congrArg some (by kernel_rfl))
 f128 := Tryz.func119.trans (congrArg some (by kernel_rfl))
 f129 := Tryz.func120.trans (congrArg some (by kernel_rfl))
 t3 := Tryz.underlying3
 a3 := Tryz.isAgg3
 z3 := Tryz.sizeOf3
 v3 := Tryz.zeroValue3
 t4 := Tryz.underlying4
 a4 := Tryz.isAgg4
 z4 := Tryz.sizeOf4
 v4 := Tryz.zeroValue4
 t5 := Tryz.underlying5
 a5 := Tryz.isAgg5
 z5 := Tryz.sizeOf5
 v5 := Tryz.zeroValue5
 t9 := Tryz.underlying9
 a9 := Tryz.isAgg9
 z9 := Tryz.sizeOf9
 v9 := Tryz.zeroValue9
 t46 := Tryz.underlying30
 a46 := Tryz.isAgg30
 z46 := Tryz.sizeOf30
 v46 := Tryz.zeroValue30
 t51 := Tryz.underlying52
 a51 := Tryz.isAgg52
 z51 := Tryz.sizeOf52
 v51 := Tryz.zeroValue52
 t53 := Tryz.underlying22
 a53 := Tryz.isAgg22
 z53 := Tryz.sizeOf22
 v53 := Tryz.zeroValue22 }
theorem Tryz.bits_Len (x : Int) (w : World) (h0 : 0 ≤ x) (h1 : x ≤ 18446744073709551615) :
 Calls Tryz.prog 96 #[.int .u64 x] w fun e w' => e = .returned (.int .i64 (Lib.bitLen x.toNat)) ∧ w' = w := Any.bits_Len Tryz.lays125 x w h0 h1
def Tryz.lays122_ren : Go.Shelf.Ren := ⟨fun | 122 => 61 | 215 => 97 | n => n, fun | 3 => 3 | 4 => 4 | n => n, fun | n => n⟩
theorem Tryz.lays122 : Go.Proofs.Lays.n122 Tryz.prog Tryz.lays122_ren := {
 mixed := by kernel_rfl
 f122 := Tryz.func61.trans (congrArg some (by kernel_rfl))
 f215 := Tryz.func97.trans (congrArg some (by kernel_rfl))
 t3 := Tryz.underlying3
 a3 := Tryz.isAgg3
 z3 := Tryz.sizeOf3
 v3 := Tryz.zeroValue3
 t4 := Tryz.underlying4
 a4 := Tryz.isAgg4
 z4 := Tryz.sizeOf4
 v4 := Tryz.zeroValue4 }
open Go.RowKit in
theorem Tryz.cmp_Compare_int (x y : Int) (w : World) :
 Calls Tryz.prog 61 #[.int .i64 x, .int .i64 y] w fun e w' => e = .returned (.int .i64 (Lib.compareInt x y)) ∧ w' = w := Any.cmp_Compare_int Tryz.lays122 x y w
def Tryz.lays189_ren : Go.Shelf.Ren := ⟨fun | 189 => 101 | 125 => 96 | 257 => 121 | 128 => 119 | 129 => 120 | 294 => 131 | 295 => 132 | 296 => 133 | 297 => 134 | 298 => 135 | 299 => 136 | 216 => 137 | 300 => 138 | 301 => 139 | 328 => 142 | 329 => 127 | 330 => 128 | 331 => 143 | 332 => 144 | 215 => 97 | 343 => 145 | n => n, fun | 28 => 45 | 3 => 3 | 46 => 30 | 0 => 0 | 51 => 52 | 53 => 22 | 4 => 4 | 183 => 174 | 182 => 173 | 131 => 114 | 5 => 5 | 9 => 9 | 218 => 183 | 222 => 187 | 228 => 196 | 229 => 197 | n => n, fun | n => n⟩
theorem Tryz.lays189 : Go.Proofs.Lays.n189 Tryz.prog Tryz.lays189_ren := {
 mixed := by kernel_rfl
 f125 := Tryz.func96.trans (congrArg some (by kernel_rfl))
 f128 := Tryz.func119.trans (congrArg some (by kernel_rfl))
 f129 := Tryz.func120.trans (congrArg some (by kernel_rfl))
 f189 := Tryz.func101.trans (congrArg some (by kernel_rfl))
 f215 := Tryz.func97.trans (congrArg some (by kernel_rfl))
 f216 := Tryz.func137.trans (congrArg some (by kernel_rfl))
 f257 := Tryz.func121.trans (congrArg some (by kernel_rfl))
 f294 := Tryz.func131.trans (congrArg some (by kernel_rfl))
 f295 := Tryz.func132.trans (congrArg some (by kernel_rfl))
 f296 := Tryz.func133.trans (congrArg some (by kernel_rfl))
 f297 := Tryz.func134.trans (congrArg some (by kernel_rfl))
 f298 := Tryz.func135.trans (congrArg some (by kernel_rfl))
 f299 := Tryz.func136.trans (congrArg some (by kernel_rfl))
 f300 := Tryz.func138.trans (congrArg some (by kernel_rfl))
 f301 := Tryz.func139.trans (congrArg some (by kernel_rfl))
 f328 := Tryz.func142.trans (congrArg some (by kernel_rfl))
 f329 := Tryz.func127.trans (congrArg some (by kernel_rfl))
 f330 := Tryz.func128.trans (congrArg some (by kernel_rfl))
 f331 := Tryz.func143.trans (congrArg some (by kernel_rfl))
 f332 := Tryz.func144.trans (congrArg some (by kernel_rfl))
 f343 := Tryz.func145.trans (congrArg some (by kernel_rfl))
 t0 := Tryz.underlying0
 a0 := Tryz.isAgg0
 z0 := Tryz.sizeOf0
 v0 := Tryz.zeroValue0
 t3 := Tryz.underlying3
 a3 := Tryz.isAgg3
 z3 := Tryz.sizeOf3
 v3 := Tryz.zeroValue3
 t4 := Tryz.underlying4
 a4 := Tryz.isAgg4
 z4 := Tryz.sizeOf4
 v4 := Tryz.zeroValue4
 t5 := Tryz.underlying5
 a5 := Tryz.isAgg5
 z5 := Tryz.sizeOf5
 v5 := Tryz.zeroValue5
 t9 := Tryz.underlying9
 a9 := Tryz.isAgg9
 z9 := Tryz.sizeOf9
 v9 := Tryz.zeroValue9
 t28 := Tryz.underlying45
 a28 := Tryz.isAgg45
 z28 := Tryz.sizeOf45
 v28 := Tryz.zeroValue45
 t46 := Tryz.underlying30
 a46 := Tryz.isAgg30
 z46 := Tryz.sizeOf30
 v46 := Tryz.zeroValue30
 t51 := Tryz.underlying52
 a51 := Tryz.isAgg52
 z51 := Tryz.sizeOf52
 v51 := Tryz.zeroValue52
 t53 := Tryz.underlying22
 a53 := Tryz.isAgg22
 z53 := Tryz.sizeOf22
 v53 := Tryz.zeroValue22
 t131 := Tryz.underlying114
 a131 := Tryz.isAgg114
 z131 := Tryz.sizeOf114
 v131 := Tryz.zeroValue114
 t182 := Tryz.underlying173
 a182 := Tryz.isAgg173
 z182 := Tryz.sizeOf173
 v182 := Tryz.zeroValue173
 t183 := Tryz.underlying174
 a183 := Tryz.isAgg174
 z183 := Tryz.sizeOf174
 v183 := Tryz.zeroValue174
 t218 := Tryz.underlying183
 a218 := Tryz.isAgg183
 z218 := Tryz.sizeOf183
 v218 := Tryz.zeroValue183
 t222 := Tryz.underlying187
 a222 := Tryz.isAgg187
 z222 := Tryz.sizeOf187
 v222 := Tryz.zeroValue187
 t228 := Tryz.underlying196
 a228 := Tryz.isAgg196
 z228 := Tryz.sizeOf196
 v228 := Tryz.zeroValue196
 t229 := Tryz.underlying197
 a229 := Tryz.isAgg197
 z229 := Tryz.sizeOf197
 v229 := Tryz.zeroValue197 }
open Go.Sort Go.RowKit in
theorem Tryz.slices_Sort_int (blk off cap : Nat) (zs : List Int) (w : World) (hH : Holds (Value.int .i64) w blk off zs.toArray) (hblk : blk < w.heap.size) (hsz : zs.length < 4611686018427387904) :
 Calls Tryz.prog 101 #[.slice (some ⟨blk, off, none⟩) zs.length cap] w fun e w' =>
  e = .returned (.tuple #[]) ∧ ∃ n os, w' = grow (putRow (Value.int .i64) (Sort.ahead w n) blk off (zs.mergeSort fun x y => decide (x ≤ y)).toArray) os := Any.slices_Sort_int Tryz.lays189 blk off cap zs w hH hblk hsz
def Tryz.lays107_ren : Go.Shelf.Ren := ⟨fun | 107 => 110 | 108 => 125 | n => n, fun | 28 => 45 | 3 => 3 | 4 => 4 | 0 => 0 | n => n, fun | n => n⟩
theorem Tryz.lays107 : Go.Proofs.Lays.n107 Tryz.prog Tryz.lays107_ren := {
 mixed := by kernel_rfl
 f107 := Tryz.func110.trans (congrArg some (by kernel_rfl))
 f108 := Tryz.func125.trans (congrArg some (by kernel_rfl))
 t0 := Tryz.underlying0
 a0 := Tryz.isAgg0
 z0 := Tryz.sizeOf0
 v0 := Tryz.zeroValue0
 t3 := Tryz.underlying3
 a3 := Tryz.isAgg3
 z3 := Tryz.sizeOf3
 v3 := Tryz.zeroValue3
 t4 := Tryz.underlying4
 a4 := Tryz.isAgg4
 z4 := Tryz.sizeOf4
 v4 := Tryz.zeroValue4
 t28 := Tryz.underlying45
 a28 := Tryz.isAgg45
 z28 := Tryz.sizeOf45
 v28 := Tryz.zeroValue45 }
open Go.Lib in
theorem Tryz.slices_Contains_int (b off n c : Nat) (zs : List Int) (x : Int) (w : World) (hz : n ≤ zs.length) (hbig : n ≤ 9223372036854775807) (hc : ∀ j, j < zs.length → w.cell? ⟨b, off + j, none⟩ = some (.int .i64 (zs.getD j 0))) :
 Calls Tryz.prog 110 #[.slice (some ⟨b, off, none⟩) n c, .int .i64 x] w fun e w' => e = .returned (.bool ((zs.take n).contains x)) ∧ w' = w := Any.slices_Contains_int Tryz.lays107 b off n c zs x w hz hbig hc
open Go.Lib in
theorem Tryz.slices_Contains_int_empty (a : Option Addr) (c : Nat) (x : Int) (w : World) :
 Calls Tryz.prog 110 #[.slice a 0 c, .int .i64 x] w fun e w' => e = .returned (.bool false) ∧ w' = w := Any.slices_Contains_int_empty Tryz.lays107 a c x w
def Tryz.laysNm220_ren : Go.Shelf.Ren := ⟨fun | 20 => 102 | n => n, fun | 22 => 45 | 3 => 3 | 4 => 4 | 0 => 0 | n => n, fun | n => n⟩
theorem Tryz.laysNm220 : Go.Proofs.Lays2.n20 Tryz.prog Tryz.laysNm220_ren := {
 mixed := by kernel_rfl
 f20 := Tryz.func102.trans (congrArg some (by kernel_rfl))
 t0 := Tryz.underlying0
 a0 := Tryz.isAgg0
 z0 := Tryz.sizeOf0
 v0 := Tryz.zeroValue0
 t3 := Tryz.underlying3
 a3 := Tryz.isAgg3
 z3 := Tryz.sizeOf3
 v3 := Tryz.zeroValue3
 t4 := Tryz.underlying4
 a4 := Tryz.isAgg4
 z4 := Tryz.sizeOf4
 v4 := Tryz.zeroValue4
 t22 := Tryz.underlying45
 a22 := Tryz.isAgg45
 z22 := Tryz.sizeOf45
 v22 := Tryz.zeroValue45
 i3 := by kernel_rfl }
open Go.RowKit Go.Lib Go.Sort in
theorem Tryz.slices_Compact_int (blk off cap : Nat) (zs : List Int) (w : World) (hH : Holds (Value.int .i64) w blk off zs.toArray) (hsz : zs.length ≤ 9223372036854775807) (hcap : zs.length ≤ cap) :
 Calls Tryz.prog 102 #[.slice (some ⟨blk, off, none⟩) zs.length cap] w fun e w' => e = .returned (.slice (some ⟨blk, off, none⟩) (Lib.compact zs).length cap) ∧ ∃ q, w' = putRow (Value.int .i64) (Sort.ahead w q) blk off (Lib.compact zs ++ List.replicate (zs.length - (Lib.compact zs).length) 0).toArray := Any.slices_Compact_int Tryz.laysNm220 blk off cap zs w hH hsz hcap
open Go.RowKit Go.Lib Go.Sort in
theorem Tryz.slices_Compact_int_empty (a : Option Addr) (cap : Nat) (w : World) :
 Calls Tryz.prog 102 #[.slice a 0 cap] w fun e w' => e = .returned (.slice a 0 cap) ∧ w' = w := Any.slices_Compact_int_empty Tryz.laysNm220 a cap w
open Go.RowKit Go.Sort in
theorem Tryz.slices_Sort_int_none (p : Option Addr) (cap : Nat) (w : World) :
 Calls Tryz.prog 101 #[.slice p 0 cap] w fun e w' => e = .returned (.tuple #[]) ∧ w' = w := Any.slices_Sort_int_none Tryz.lays189 p cap w
end Go.Proofs
namespace Go.Proofs.YtjmpekanlmepmaaGreatDoor
open Go.RowKit
def Halt (p : Prop) : Prop := p
theorem halt {p : Prop} (h : Halt p) : p := h
theorem Z4g {p : Prop} (h : p) : Halt p := h
def Blk (w : World) (b : Nat) (t : TypeId) (cs : Array Value) : Prop := w.heap[b]? = some (.cells cs t (0, 0))
section
variable {w w' : World} {b : Nat} {t : TypeId} {cs : Array Value}
theorem Blk.lt (h : Blk w b t cs) : b < w.heap.size := by
 by_cases hb : b < w.heap.size
 ·exact hb
 ·unfold Blk at h
  rw [Array.getElem?_eq_none (by omega)] at h
  exact absurd h (by simp)
theorem Blk.cell (h : Blk w b t cs) : ∀ i, w.cell? ⟨b, i, none⟩ = cs[i]? := fun i => cell_of_row w b i cs t (0, 0) h
theorem Blk.free (h : Blk w b t cs) : ∀ i, w.frozen? ⟨b, i, none⟩ = false := fun i => frozen_of_row w b i cs t h
theorem Blk.made (w : World) (t : TypeId) (cs : Array Value) : Blk (w.alloc (.cells cs t)) w.heap.size t cs := heap_alloc_new w _
theorem Blk.made' {n : Nat} (hn : n = w.heap.size) : Blk (w.alloc (.cells cs t)) n t cs := by subst hn; exact Blk.made w t cs
theorem Blk.alloc (h : Blk w b t cs) (o : Obj) : Blk (w.alloc o) b t cs := (Below.heap_alloc w o b h.lt).trans h
theorem Blk.drew (h : Blk w b t cs) : Blk w.drew b t cs := h
theorem Blk.put (h : Blk w b t cs) (i : Nat) (v : Value) : Blk (w.setCell ⟨b, i, none⟩ v) b t (cs.setIfInBounds i v) := heap_setCell_same w b i cs t v h
theorem Blk.aside (h : Blk w b t cs) {p : Addr} (hp : b ≠ p.block) (v : Value) : Blk (w.setCell p v) b t cs := (heap_setCell_other w p b v hp).trans h
theorem Blk.below {B : Nat} (h : Blk w b t cs) (hb : Below B w w') (hlt : b < B) : Blk w' b t cs := (hb.block b hlt).trans h
theorem Blk.kept (h : Blk w b t cs) (hb : Below w.heap.size w w') : Blk w' b t cs := h.below hb h.lt
theorem Blk.grown {row : Option Nat} (h : Blk w b t cs) (hg : w.grownBy w' row) (hr : some b ≠ row) : Blk w' b t cs := (hg.block b h.lt hr).trans h
end
theorem Z4a {w w1 : World} (hb : Below w.heap.size w w1) : (∀ b o, b < w.heap.size → w1.cell? ⟨b, o, none⟩ = w.cell? ⟨b, o, none⟩) ∧ (∀ b o, b < w.heap.size → w1.frozen? ⟨b, o, none⟩ = w.frozen? ⟨b, o, none⟩) :=
 ⟨fun b o h => hb.cell (p := ⟨b, o, none⟩) h, fun b o h => hb.frozen (p := ⟨b, o, none⟩) h⟩
theorem Z06 {w w1 : World} (h : Below w.heap.size w w1) (o : Obj) : Below w.heap.size w (w1.alloc o) := h.alloc h.size o
theorem below_drewN {B : Nat} {w w1 : World} (h : Below B w w1) (n : Nat) : Below B w (w1.drewN n) := ⟨h.os, h.tape, h.output, h.size, h.block⟩
theorem Z0O {w w1 w2 : World} (h : Below w.heap.size w w1) (h2 : Below w1.heap.size w1 w2) : Below w.heap.size w w2 := h.trans (h2.mono h.size)
theorem Z5Y {P : Program} {fn : Func} {p u : Tmp} {ty : TypeId} (h : fn.results = #[.cell p ty, .tmp u]) (tmps : Array Value) (w : World) (g : Nat) (t : TypeId) (cs : Array Value) (d : TypeDesc)
 (hp : tmps.getD p undef = .pointer (some ⟨g, 0, none⟩)) (hg : Blk w g t cs) (hu : P.underlying ty = some d) (hd : (match d with | .struct _ | .array _ _ => true | _ => false) = true) (hi : (P.info? ty).map (·.size) = some cs.size) :
 (results fn tmps).run P w = .ok (.tuple #[.agg cs, tmps.getD u undef]) w := by
 rw [results_cell_tmp h, hp]
 simp [asAddr, run_loadVar_row w g t ty cs (0, 0) d hg hu hd hi]
theorem below_grown {w w1 w2 : World} {row : Option Nat} (h : Below w.heap.size w w1) (hg : w1.grownBy w2 row) (hr : ∀ k, row = some k → w.heap.size ≤ k) : Below w.heap.size w w2 := h.grown hg h.size hr
theorem Z0i {w : World} {base g n cap size : Nat} {e : TypeId} {xs : List Value} (h : w.ownsRow base e size (.slice (some ⟨g, 0, none⟩) n cap) n xs) : ∀ j u, xs[j]? = some u → w.cell? ⟨g, j, none⟩ = some u := by
 intro j u hu
 have hj : j < xs.length := (List.getElem?_eq_some_iff.1 hu).1
 rw [h.cellAt j (by rw [← h.1]; exact hj)]
 exact hu
theorem Z0X {w : World} {base g n cap size : Nat} {e : TypeId} {xs : List Value} (h : w.ownsRow base e size (.slice (some ⟨g, 0, none⟩) n cap) n xs) : base ≤ g ∧ g < w.heap.size := h.lt g rfl
theorem Z3o {w : World} {base g n cap size : Nat} {e : TypeId} {xs : List Value} (h : w.ownsRow base e size (.slice (some ⟨g, 0, none⟩) n cap) n xs) : n ≤ cap ∧ cap ≤ maxLen := by
 rcases h.2 with ⟨h', _⟩ | ⟨g', cap', cur, h', _, _, h1, h2, _⟩
 ·simp at h'
 ·simp only [Value.slice.injEq, Option.some.injEq, Addr.mk.injEq, and_true, true_and] at h'
  obtain ⟨rfl, rfl⟩ := h'
  exact ⟨h1, h2⟩
theorem Z0D {w : World} {base n size : Nat} {e : TypeId} {v : Value} {xs : List Value} (h : w.ownsRow base e size v n xs) (hn : 0 < n) : ∃ g cap, v = .slice (some ⟨g, 0, none⟩) n cap := by
 rcases h.2 with ⟨_, h0⟩ | ⟨g, cap, _, hv, _⟩
 ·omega
 ·exact ⟨g, cap, hv⟩
theorem Z1E {P : Program} {w : World} {ops : Array Oper} {rest : List Oper} {o : Oper} {a : Act} {Q : Exit → Act → World → Prop} (hgd : o.guard = none) (s x : Operand) (t : TypeId)
 (ho : o.op = .call { callee := .builtin .append, args := #[s, x], argTypes := #[t, t] })
 (base : Nat) (e : TypeId) (i : TypeInfo) (z : Value) (size bytes : Nat) (ht : P.underlying t = some (.slice e)) (hi : P.info? e = some i) (hz : i.zero = some z)
 (hsize : i.size = size) (hby : i.bytes = bytes) (hzs : z.cells.size = size) (hsz : 0 < size)
 (v : Value) (n : Nat) (xs : List Value) (hs : a.eval s = v) (hown : w.ownsRow base e size v n xs)
 (ad : Addr) (m c : Nat) (news : List Value) (hx : a.eval x = .slice (some ad) m c) (hl : news.length = m * size) (hnews : ∀ j u, news[j]? = some u → w.cell? (ad.add j) = some u) (h1 : ∀ u ∈ news, u.oneCell' = true)
 (hm : 0 < m) (h63 : n + m ≤ maxLen) (hbytes : (n + m) * bytes ≤ 140737488355328) (hbase : base ≤ w.heap.size)
 (h : ∀ g cap w', w'.ownsRow base e size (.slice (some ⟨g, 0, none⟩) (n + m) cap) (n + m) (xs ++ news) → w.grownBy w' v.ownBlock → wpList P ops Q rest (a.put o.dst (.slice (some ⟨g, 0, none⟩) (n + m) cap)) w') : wpList P ops Q (o :: rest) a w :=
 wpList_append_own w hgd s x t ho base e i z size bytes ht hi hz hsize hby hzs hsz v n xs hs hown ad m c news hx hl hnews h1 h63 hbytes hbase fun v' w' h2 h3 _ => by
  obtain ⟨g, cap, rfl⟩ := Z0D h2 (by omega)
  exact h g cap w' h2 h3
theorem Z1M {P : Program} {w : World} {o : Oper} {a : Act} {K : Act → World → Prop} {Q : Exit → Act → World → Prop} (s x : Operand) (t : TypeId)
 (ho : o.op = .call { callee := .builtin .append, args := #[s, x], argTypes := #[t, t] })
 (base : Nat) (e : TypeId) (i : TypeInfo) (z : Value) (size bytes : Nat) (ht : P.underlying t = some (.slice e)) (hi : P.info? e = some i) (hz : i.zero = some z)
 (hsize : i.size = size) (hby : i.bytes = bytes) (hzs : z.cells.size = size) (hsz : 0 < size)
 (v : Value) (n : Nat) (xs : List Value) (hs : a.eval s = v) (hown : w.ownsRow base e size v n xs)
 (ad : Addr) (m c : Nat) (news : List Value) (hx : a.eval x = .slice (some ad) m c) (hl : news.length = m * size) (hnews : ∀ j u, news[j]? = some u → w.cell? (ad.add j) = some u) (h1 : ∀ u ∈ news, u.oneCell' = true)
 (hm : 0 < m) (h63 : n + m ≤ maxLen) (hbytes : (n + m) * bytes ≤ 140737488355328) (hbase : base ≤ w.heap.size)
 (h : ∀ g cap w', w'.ownsRow base e size (.slice (some ⟨g, 0, none⟩) (n + m) cap) (n + m) (xs ++ news) → w.grownBy w' v.ownBlock → K (a.put o.dst (.slice (some ⟨g, 0, none⟩) (n + m) cap)) w') : o.wp P a w K Q :=
 wp_append_own w s x t ho base e i z size bytes ht hi hz hsize hby hzs hsz v n xs hs hown ad m c news hx hl hnews h1 h63 hbytes hbase fun v' w' h2 h3 _ => by
  obtain ⟨g, cap, rfl⟩ := Z0D h2 (by omega)
  exact h g cap w' h2 h3
theorem Z42 {w : World} {b : Nat} {u : Value} (h : w.cell? ⟨b, 0, none⟩ = some u) : ∀ j v, [u][j]? = some v → w.cell? ((⟨b, 0, none⟩ : Addr).add j) = some v := by
 intro j v hv
 match j with
 | 0 => simp at hv; subst hv; exact h
 | j + 1 => simp at hv
theorem Z4F (n k : Int) : n.tmod k % k = n % k := by
 have h := Int.mul_tdiv_add_tmod n k
 conv => rhs; rw [← h]
 rw [Int.add_emod, Int.mul_emod_right, Int.zero_add, Int.emod_emod]
theorem Z4L {k : IntKind} {a b : Int} (h : a = b) : Ending.returned (.int k a) = .returned (.int k b) := by rw [h]
theorem qN0 (w w1 : World) (h : w.heap.size < w1.heap.size := by omega) : w.heap.size < w1.heap.size := h
theorem qN1 (w w1 : World) (h : w.heap.size + 1 < w1.heap.size := by omega) : w.heap.size + 1 < w1.heap.size := h
theorem qN2 (w w1 : World) (h : w.heap.size + 1 + 1 < w1.heap.size := by omega) : w.heap.size + 1 + 1 < w1.heap.size := h
theorem qN3 (w w1 : World) (h : w.heap.size + 1 + 1 + 1 < w1.heap.size := by omega) : w.heap.size + 1 + 1 + 1 < w1.heap.size := h
theorem qL {B : Nat} {w w' : World} (h : Below B w w' := by (repeat (first | with_reducible exact Below.refl _ _ | with_reducible assumption | with_reducible refine Below.setCell ?_ (by first | (simp; done) | (simp; omega)) _ | with_reducible refine Z06 ?_ _ | with_reducible refine below_drewN ?_ _ | with_reducible refine Below.drew ?_ | with_reducible refine Z0O ?_ (by assumption)))) : Below B w w' := h
theorem qK {w : World} {b : Nat} {t : TypeId} {cs : Array Value} (h : Blk w b t cs := by (repeat (first | with_reducible exact B | with_reducible apply Blk.put | with_reducible apply Blk.alloc | (with_reducible apply Blk.aside; (case hp => first | (simp; done) | (simp; omega))) | with_reducible apply Blk.drew))) : Blk w b t cs := h
theorem qR {w w1 : World} {n : Nat} (hb : Below w.heap.size w w1) (hn : w.heap.size = n := by (try simp only [size_alloc, size_setCell, size_drew, Z6x]); rfl) : (∀ b o, b < n → w1.cell? ⟨b, o, none⟩ = w.cell? ⟨b, o, none⟩) ∧ (∀ b o, b < n → w1.frozen? ⟨b, o, none⟩ = w.frozen? ⟨b, o, none⟩) ∧ n ≤ w1.heap.size := by
 subst hn
 exact ⟨(Z4a hb).1, (Z4a hb).2, hb.size⟩
def Closed (ops : Array Oper) (D : Nat → Bool) : Prop := ∀ j o, ops[j]? = some o → D j = true → ∀ e ∈ o.after, Region.binds .any e = true → D e.on = true
def Inv (ops : Array Oper) (F : (Nat → Value) → Array Value) (slot : Nat → Nat) (R : (Nat → Bool) → Nat → Value → World → Prop) (C : (Nat → Bool) → (Nat → Value) → World → Prop) (D : Nat → Bool) (a : Act) (w : World) : Prop :=
 Closed ops D ∧ ∃ u : Nat → Value, a = { tmps := F u, defers := [] } ∧ C D u w ∧ ∀ j, D j = true → R D j (u (slot j)) w
end Go.Proofs.YtjmpekanlmepmaaGreatDoor
