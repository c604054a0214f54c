/- Nodes converted to the reference's, and compared with themselves. -/
import Derived.Test.YtjmpekanlmepmaaGreatDoorNN14
import Derived.Test.YtjmpekanlmepmaaGreatDoorNN16
import Derived.Test.YtjmpekanlmepmaaGreatDoorNN01
import Derived.Deep.DeepCutAuto
set_option linter.all false
set_option maxRecDepth 20000
set_option maxHeartbeats 8000000
open Go.Lib (hid)
namespace Go.Proofs.YtjmpekanlmepmaaGreatDoor
open Go.RowKit
theorem own_slice {w : World} {base n size : Nat} {e : TypeId} {v : Value} {xs : List Value} (h : w.ownsRow base e size v n xs) : ∃ a c, v = .slice a n c := by
 rcases h.2 with ⟨rfl, h0⟩ | ⟨g, cap, _, rfl, _⟩
 ·exact ⟨_, _, by rw [h0]⟩
 ·exact ⟨_, _, rfl⟩
def NodePost (n : Bt.Node) (w : World) (e : Ending) (w' : World) : Prop :=
 ∃ v, e = .returned (.agg (nodeCells n v)) ∧ w'.ownsRow w.heap.size 133 3 v n.entries.length (entCells n.entries) ∧ Below w.heap.size w w'
theorem node_any (n : Bt.Node) (v : Value) (w : World) (he : EntRow w v n.entries) (hlen : n.entries.length ≤ 1000) : Calls Tryz.prog 38 #[.agg (nodeCells n v)] w (NodePost n w) := by
 have HE := hid he
 clear he
 unfold nodeCells
 go_enter Tryz.func38, Tryz.ntmps38
 go_wp2_with fail
 refine qB (w.heap.size + 1) fun hSt => ?_
 refine qS [0, 1, 2, 3, 4, 5, 6, 7, 8, 9, 11, 12] ?_
 iterate 12 (refine qT ?_; simp only [Act.put, qY])
 refine TakeSeq.done ?_
 refine qH 10 fun K hK => ?_
 go_simp
 go_at_call 19; refine (ref_any n.right _).mono ?_; rintro e1 w1 ⟨rfl, hb1⟩; simp only [Bt.Ptr.cells]; ((obtain ⟨hc1, hf1, hs1⟩ := qR hb1); (try have := qN0 w w1); (try have := qN1 w w1))
 go_wp2_with fail
 refine hK.out _ _ (SteadyBut.of qL) (fun hHeld => ?_)
 clear hK K
 refine qH 13 fun K hK => ?_
 go_simp
 go_at_call 73; refine (entries_any n.entries v _ ?hrow hlen).mono ?_; (case hrow => exact HE.out.below qL); rintro e2 w2 ⟨v2, rfl, hown, hb2⟩; obtain ⟨a2, c2, rfl⟩ := own_slice hown; ((obtain ⟨hc2, hf2, hs2⟩ := qR hb2); (try have := qN0 w w2); (try have := qN1 w w2)); have HO2 := hid hown; clear hown
 go_wp2_with fail
 refine hK.out _ _ (SteadyBut.of qL) (fun hHeld => ?_)
 clear hK K
 refine qS [14] ?_
 refine qT ?_; simp only [Act.put, qY]
 refine TakeSeq.done ?_
 refine qH 15 fun K hK => ?_
 go_simp
 refine hK.out _ _ (by repeat (first | with_reducible refine SteadyBut.set ?_ _ _ | with_reducible refine SteadyBut.drew' ?_ | exact SteadyBut.of qL)) (fun hHeld => ?_)
 clear hK K
 refine qD ?_ _
 go_wp2_with fail
 have BR := Blk.kept (b := w.heap.size + 1) (Blk.kept (b := w.heap.size + 1) (Blk.drew (made22 w)) hb1) hb2
 refine bodyPost_ret (results_b rfl _ _ (w.heap.size + 1) _ _ _ rfl (by have B := BR; exact qK) Tryz.underlying91 rfl (by kernel_rfl)) rfl ⟨.slice a2 n.entries.length c2, ?_, ?_, qL⟩
 ·rw [set7]; rfl
 ·refine own_base (base := w1.heap.size) ?_ (by omega)
  iterate 7 (refine own_aside ?_ (by show w.heap.size + 1 < w1.heap.size; omega) _)
  exact HO2.out
theorem neq_rentry (a b c : Int) (w : World) : (binOp .neq 133 (.agg #[.int .u32 a, .int .i64 b, .int .i64 c]) (.agg #[.int .u32 a, .int .i64 b, .int .i64 c])).run Tryz.prog w = .ok (.bool false) w := by
 simp [go_sem]
theorem sameEntries_self (es : List Bt.Entry) (n b1 b2 : Nat) (va vb : Value) (w : World) (ha : w.ownsRow b1 133 3 va n (entCells es)) (hb : w.ownsRow b2 133 3 vb n (entCells es)) (hn : n = es.length) (hlen : es.length ≤ 1000) :
 Calls Tryz.prog 74 #[va, vb] w fun e w' => e = .returned (.bool true) ∧ Below w.heap.size w w' := by
 have nr := neq_rentry
 subst hn
 by_cases h0 : es.length = 0
 ·obtain ⟨pa, ca, rfl⟩ := own_zero4 (h0 ▸ ha)
  obtain ⟨pb, cb, rfl⟩ := own_zero4 (h0 ▸ hb)
  clear ha hb
  go_enter Tryz.func74, Tryz.ntmps74
  go_wp2_with fail
  refine wp_loop_rounds 1 ?_
  rw [rounds_succ]
  go_wp2_with fail
  go_ret
  exact ⟨rfl, qL⟩
 ·obtain ⟨ga, ca, rfl⟩ := own_form ha (by omega)
  obtain ⟨gb, cb, rfl⟩ := own_form hb (by omega)
  have hga := (own_lt ha).2
  have hgb := (own_lt hb).2
  have HA := hid (fun k u (hk : (entCells es)[k]? = some u) => own_cells ha k u hk)
  have HB := hid (fun k u (hk : (entCells es)[k]? = some u) => own_cells hb k u hk)
  clear ha hb
  go_enter Tryz.func74, Tryz.ntmps74
  go_wp2_with fail
  go_loopw [5] (fun i wr => ∃ k : Nat, k ≤ es.length ∧ i = .int .i64 k ∧ Hid (Below w.heap.size w wr)) (fun i _ => ((es.length : Int) - intOf i).toNat)
  case atStart => exact ⟨0, by omega, rfl, hid qL⟩
  case round =>
   obtain ⟨k, hkl, rfl, HW⟩ := hrel
   have hga' : ga < wr.heap.size := Nat.lt_of_lt_of_le hga HW.out.size
   have hgb' : gb < wr.heap.size := Nat.lt_of_lt_of_le hgb HW.out.size
   by_cases hk : k < es.length
   ·obtain ⟨x, hx⟩ : ∃ x, x = es[k] := ⟨_, rfl⟩
    have hg : es[k]? = some x := by rw [hx]; exact List.getElem?_eq_getElem hk
    have a0 : wr.cell? ⟨ga, k * 3, none⟩ = some (.int .u32 x.key) := ((below_rules HW.out).1 ga _ hga).trans (HA.out _ _ (entCells_get es k x hg 0 _ rfl))
    have a1 : wr.cell? ⟨ga, k * 3 + 1, none⟩ = some (.int .i64 x.to.line) := ((below_rules HW.out).1 ga _ hga).trans (HA.out _ _ (entCells_get es k x hg 1 _ rfl))
    have a2 : wr.cell? ⟨ga, k * 3 + 2, none⟩ = some (.int .i64 x.to.gen) := ((below_rules HW.out).1 ga _ hga).trans (HA.out _ _ (entCells_get es k x hg 2 _ rfl))
    have b0 : wr.cell? ⟨gb, k * 3, none⟩ = some (.int .u32 x.key) := ((below_rules HW.out).1 gb _ hgb).trans (HB.out _ _ (entCells_get es k x hg 0 _ rfl))
    have b1 : wr.cell? ⟨gb, k * 3 + 1, none⟩ = some (.int .i64 x.to.line) := ((below_rules HW.out).1 gb _ hgb).trans (HB.out _ _ (entCells_get es k x hg 1 _ rfl))
    have b2 : wr.cell? ⟨gb, k * 3 + 2, none⟩ = some (.int .i64 x.to.gen) := ((below_rules HW.out).1 gb _ hgb).trans (HB.out _ _ (entCells_get es k x hg 2 _ rfl))
    have c1 : decide ((k : Int) < es.length) = true := by simp; omega
    have bk0 : (0 : Int) ≤ k := by omega
    have bk1 : (k : Int) < es.length := by omega
    clear hx hg
    go_wp2_with fail
    go_quiet (fail)
    go_wp2_with fail
    have hw := HW.out
    exact ⟨⟨k + 1, by omega, by rw [show ((k : Int) + 1) = ((k + 1 : Nat) : Int) by omega], hid qL⟩, by simp [intOf]; omega⟩
   ·have c1 : decide ((k : Int) < es.length) = false := by simp; omega
    go_wp2_with fail
    have hw := HW.out
    go_ret
    exact ⟨rfl, qL⟩
theorem sameNode_self (n : Bt.Node) (b1 b2 : Nat) (va vb : Value) (w : World) (ha : w.ownsRow b1 133 3 va n.entries.length (entCells n.entries)) (hb : w.ownsRow b2 133 3 vb n.entries.length (entCells n.entries)) (hlen : n.entries.length ≤ 1000) :
 Calls Tryz.prog 39 #[.agg (nodeCells n va), .agg (nodeCells n vb)] w fun e w' => e = .returned (.bool true) ∧ Below w.heap.size w w' := by
 have HA := hid ha
 have HB := hid hb
 have eq := eql_rptr
 have pr : ∀ a b : Int, peq a b a b = true := fun a b => by simp [peq]
 clear ha hb
 unfold nodeCells
 go_enter Tryz.func39, Tryz.ntmps39
 go_wp2_with fail
 go_at_call 74; refine (sameEntries_self n.entries n.entries.length b1 b2 va vb _ ?hx ?hy rfl hlen).mono ?_
 case hx => exact own_below HA.out qL
 case hy => exact own_below HB.out qL
 rintro e1 w1 ⟨rfl, hb1⟩
 go_wp2_with fail
 go_ret
 exact ⟨rfl, qL⟩
end Go.Proofs.YtjmpekanlmepmaaGreatDoor
namespace Go.Proofs.YtjmpekanlmepmaaGreatDoor.Bt
theorem pack_unpack {x : Int} (h0 : 0 ≤ x) (h : validP (unpack x) = true) : pack (unpack x) = x := by
 unfold pack
 rw [if_pos h]
 simp only [unpack]
 omega
theorem unpack_nil {x : Int} (h0 : 0 ≤ x) (h : unpack x = nilP) : x = 0 := by
 simp only [unpack, nilP, Ptr.mk.injEq] at h
 omega
theorem pack_unpack' {x : Int} (h0 : 0 ≤ x) : pack (unpack x) = x ↔ (x = 0 ∨ validP (unpack x) = true) := by
 constructor
 ·intro h
  by_cases hv : validP (unpack x) = true
  ·exact .inr hv
  ·left
   unfold pack at h
   rw [if_neg hv] at h
   exact h.symm
 ·rintro (rfl | h)
  ·rfl
  ·exact pack_unpack h0 h
theorem validP_lt {p : Ptr} (h : validP p = true) : 104 ≤ p.line ∧ p.line < 256 ∧ 1 ≤ p.gen ∧ p.gen ≤ 16777215 := by
 simp only [validP, inHeap, Bool.and_eq_true, decide_eq_true_eq] at h
 omega
theorem pack_lt (p : Ptr) : 0 ≤ pack p ∧ pack p < 4294967296 := by
 unfold pack
 split
 ·have := validP_lt (by assumption); omega
 ·omega
theorem unpack_pack {p : Ptr} (h : p = nilP ∨ validP p = true) : unpack (pack p) = p := by
 rcases h with rfl | h
 ·rfl
 ·have := validP_lt h
  obtain ⟨l, g⟩ := p
  simp only [pack, h, if_true, unpack, Ptr.mk.injEq] at this ⊢
  omega
def refEntries (level high : Int) : Int → List Entry → Bool
 | _, [] => true
 | last, e :: es => decide (1 ≤ e.key) && decide (e.key ≤ high) && validP e.to && !(decide (level = 0) && decide (maxKey < e.key)) && decide (last < e.key) && refEntries level high e.key es
theorem rising_last {last : Int} {es : List Entry} (h : risingFrom last es = true) (hne : es ≠ []) : last < lastKey es := by
 induction es generalizing last with
 | nil => exact absurd rfl hne
 | cons e es ih =>
   simp only [risingFrom, Bool.and_eq_true, decide_eq_true_eq] at h
   cases es with
   | nil => exact h.1.1
   | cons e' es => have := ih h.2 (by simp); simp only [lastKey]; omega
theorem refEntries_iff (level high : Int) (last : Int) (hl : 0 ≤ last) (es : List Entry) :
 refEntries level high last es = true ↔ (risingFrom last es = true ∧ (es ≠ [] → lastKey es ≤ high) ∧ (level = 0 → lastKey es ≤ maxKey)) := by
 induction es generalizing last with
 | nil => simp [refEntries, risingFrom, lastKey, maxKey]
 | cons e es ih =>
   by_cases hk : last < e.key
   ·have hi := ih e.key (by omega)
    simp only [refEntries, risingFrom, Bool.and_eq_true, decide_eq_true_eq, Bool.not_eq_true', Bool.and_eq_false_iff, decide_eq_false_iff_not, hi]
    cases es with
    | nil =>
      simp only [risingFrom, lastKey, ne_eq, reduceCtorEq, not_false_eq_true, forall_const, and_true, true_and, not_true_eq_false, false_implies]
      constructor
      ·rintro ⟨⟨⟨⟨⟨h1, h2⟩, h3⟩, h4⟩, h5⟩, _⟩
       refine ⟨⟨hk, h3⟩, h2, fun h0 => ?_⟩
       rcases h4 with h4 | h4
       ·exact absurd h0 h4
       ·omega
      ·rintro ⟨⟨_, h3⟩, h7, h8⟩
       refine ⟨⟨⟨⟨⟨by omega, h7⟩, h3⟩, ?_⟩, hk⟩, fun _ => by unfold maxKey; omega⟩
       by_cases h0 : level = 0
       ·right; have := h8 h0; omega
       ·left; exact h0
    | cons e' es =>
      simp only [lastKey, ne_eq, reduceCtorEq, not_false_eq_true, forall_const]
      constructor
      ·rintro ⟨⟨⟨⟨⟨h1, h2⟩, h3⟩, h4⟩, h5⟩, h6, h7, h8⟩
       exact ⟨⟨⟨hk, h3⟩, h6⟩, h7, h8⟩
      ·rintro ⟨⟨⟨_, h3⟩, h6⟩, h7, h8⟩
       have hr := rising_last h6 (by simp)
       refine ⟨⟨⟨⟨⟨by omega, by omega⟩, h3⟩, ?_⟩, hk⟩, h6, h7, h8⟩
       by_cases h0 : level = 0
       ·right; have := h8 h0; omega
       ·left; exact h0
   ·simp [refEntries, risingFrom, hk]
def refValid (n : Node) : Bool :=
 if n.level < 0 ∨ 8 < n.level ∨ n.high < 1 ∨ decide (n.right = nilP) ≠ decide (n.high = maxHigh) ∨ (n.right ≠ nilP ∧ validP n.right = false) ∨ 5 < n.entries.length then false
 else if refEntries n.level n.high 0 n.entries = false then false
 else if 0 < n.level ∧ (n.entries.length = 0 ∨ lastKey n.entries ≠ n.high) then false
 else !n.dead || (decide (n.level = 0) && decide (n.entries.length = 0) && !n.leftmost && !decide (n.right = nilP))
theorem refValid_eq (n : Node) (hh : 0 ≤ n.high) : refValid n = n.valid := by
 have hre := refEntries_iff n.level n.high 0 (Int.le_refl 0) n.entries
 unfold refValid Node.valid rising
 by_cases h1 : n.level < 0 ∨ 8 < n.level
 ·rw [if_pos (by rcases h1 with h | h <;> simp [h]), if_pos (by rcases h1 with h | h <;> simp [h])]
 by_cases h2 : n.high = 0
 ·rw [if_pos (by simp [h2]), if_pos (by simp [h2])]
 by_cases h3 : 5 < n.entries.length
 ·rw [if_pos (by simp [h3]), if_pos (by simp [h3])]
 by_cases h4 : decide (n.right = nilP) ≠ decide (n.high = maxHigh)
 ·rw [if_pos (.inr (.inr (.inr (.inl h4))))]
  split
  ·rfl
  ·rw [if_pos (.inr (fun h => h4 h.symm))]
 by_cases h5 : n.right ≠ nilP ∧ validP n.right = false
 ·rw [if_pos (.inr (.inr (.inr (.inr (.inl h5)))))]
  split
  ·rfl
  ·rw [if_pos (.inl h5)]
 rw [if_neg (by
  rintro (h | h | h | h | h | h)
  ·exact h1 (.inl h)
  ·exact h1 (.inr h)
  ·omega
  ·exact h4 h
  ·exact h5 h
  ·exact h3 h)]
 by_cases h6 : risingFrom 0 n.entries = false
 ·rw [if_pos (by cases hr : refEntries n.level n.high 0 n.entries with
    | false => rfl
    | true => have := (hre.1 hr).1; rw [h6] at this; exact absurd this (by simp)), if_pos (.inr (.inr (.inr (.inl h6))))]
 have h6' : risingFrom 0 n.entries = true := by simpa using h6
 rw [if_neg (c := n.level < 0 ∨ 8 < n.level ∨ 5 < n.entries.length ∨ risingFrom 0 n.entries = false ∨ n.high = 0) (by
  rintro (h | h | h | h | h)
  ·exact h1 (.inl h)
  ·exact h1 (.inr h)
  ·exact h3 h
  ·exact h6 h
  ·exact h2 h)]
 rw [if_neg (c := (n.right ≠ nilP ∧ validP n.right = false) ∨ decide (n.high = maxHigh) ≠ decide (n.right = nilP)) (by
  rintro (h | h)
  ·exact h5 h
  ·exact h4 (fun e => h e.symm))]
 have hlz : n.entries = [] → lastKey n.entries = 0 := fun h => by rw [h]; rfl
 by_cases h7 : 0 < n.level
 ·rw [if_pos h7]
  by_cases h8 : lastKey n.entries = n.high
  ·have hne : n.entries ≠ [] := fun h => by have := hlz h; omega
   have hr : refEntries n.level n.high 0 n.entries = true := hre.2 ⟨h6', fun _ => by omega, fun h => by omega⟩
   rw [if_neg (by simp [hr]), if_neg (by
    rintro ⟨_, h | h⟩
    ·exact hne (List.length_eq_zero_iff.1 h)
    ·exact h h8)]
   have hd : decide (n.level = 0) = false := by simp; omega
   simp [h8, hd]
  ·have : (!n.dead && decide (lastKey n.entries = n.high)) = false := by simp [h8]
   rw [this]
   split
   ·rfl
   ·rw [if_pos ⟨h7, .inr h8⟩]
 ·rw [if_neg h7]
  have h0 : n.level = 0 := by omega
  by_cases h8 : lastKey n.entries ≤ n.high ∧ lastKey n.entries ≤ maxKey
  ·have hr : refEntries n.level n.high 0 n.entries = true := hre.2 ⟨h6', fun _ => h8.1, fun _ => h8.2⟩
   rw [if_neg (by simp [hr]), if_neg (by rintro ⟨h, _⟩; omega)]
   by_cases hd : n.dead = true
   ·by_cases h9 : 0 < n.entries.length ∨ n.leftmost = true ∨ n.right = nilP
    ·rw [if_pos ⟨hd, h9⟩]
     rcases h9 with h | h | h
     ·have : ¬ n.entries.length = 0 := by omega
      have h' : ¬ n.entries = [] := fun e => this (by simp [e])
      simp [hd, h']
     ·simp [hd, h]
     ·simp [hd, h]
    ·rw [if_neg (fun h => h9 h.2)]
     have : ¬ 0 < n.entries.length := fun h => h9 (.inl h)
     have h10 : n.leftmost = false := by
      cases h : n.leftmost
      ·rfl
      ·exact absurd (.inr (.inl h)) h9
     have h11 : ¬ n.right = nilP := fun h => h9 (.inr (.inr h))
     have hl : n.entries.length = 0 := by omega
     simp [hd, h0, hl, h10, h11, h8.1, h8.2]
   ·rw [if_neg (fun h => hd h.1)]
    simp [hd, h8.1, h8.2]
  ·have hr : refEntries n.level n.high 0 n.entries = false := by
     cases hr : refEntries n.level n.high 0 n.entries with
     | false => rfl
     | true =>
       obtain ⟨_, a, b⟩ := hre.1 hr
       exfalso
       refine h8 ⟨?_, b h0⟩
       by_cases he : n.entries = []
       ·have := hlz he; omega
       ·exact a he
   rw [if_pos hr]
   have : (decide (lastKey n.entries ≤ n.high) && decide (lastKey n.entries ≤ maxKey)) = false := by
    rw [← Bool.not_eq_true, Bool.and_eq_true, decide_eq_true_eq, decide_eq_true_eq]; exact h8
   rw [this]
   split <;> rfl
theorem entryWord_entryOf {x : Int} (h0 : 0 ≤ x) (h : validP (entryOf x).to = true) : entryWord (entryOf x) = x := by
 have := pack_unpack (x := x % 4294967296) (by omega) h
 simp only [entryWord, entryOf] at this ⊢
 rw [this]; omega
theorem entryOf_entryWord {e : Entry} (hk : 0 ≤ e.key) (h : validP e.to = true) : entryOf (entryWord e) = e := by
 have h1 := pack_lt e.to
 have h2 := unpack_pack (.inr h)
 obtain ⟨k, t⟩ := e
 simp only [entryWord, entryOf, Entry.mk.injEq] at *
 refine ⟨by omega, ?_⟩
 rw [show (k * 4294967296 + pack t) % 4294967296 = pack t by omega]
 exact h2
theorem rising_valid {last : Int} {es : List Entry} (h : risingFrom last es = true) : ∀ e ∈ es, last < e.key ∧ validP e.to = true := by
 induction es generalizing last with
 | nil => intro e he; cases he
 | cons x es ih =>
   simp only [risingFrom, Bool.and_eq_true, decide_eq_true_eq] at h
   intro e he
   rcases List.mem_cons.1 he with rfl | he
   ·exact h.1
   ·have := ih h.2 e he
    exact ⟨by omega, this.2⟩
theorem Node.valid_parts {n : Node} (h : n.valid = true) : 0 ≤ n.level ∧ n.level ≤ 8 ∧ n.entries.length ≤ 5 ∧ rising n.entries = true ∧ n.high ≠ 0 ∧ (n.right = nilP ∨ validP n.right = true) ∧ (n.high = maxHigh ↔ n.right = nilP) ∧ lastKey n.entries ≤ n.high ∧
 (n.dead = true → n.level = 0 ∧ n.entries = [] ∧ n.leftmost = false ∧ n.right ≠ nilP) ∧ (0 < n.level → lastKey n.entries = n.high) ∧ (n.level = 0 → lastKey n.entries ≤ maxKey) := by
 unfold Node.valid at h
 by_cases h1 : n.level < 0 ∨ 8 < n.level ∨ 5 < n.entries.length ∨ rising n.entries = false ∨ n.high = 0
 ·rw [if_pos h1] at h; cases h
 rw [if_neg h1] at h
 by_cases h2 : (n.right ≠ nilP ∧ validP n.right = false) ∨ decide (n.high = maxHigh) ≠ decide (n.right = nilP)
 ·rw [if_pos h2] at h; cases h
 rw [if_neg h2] at h
 have h3 : rising n.entries = true := by
  cases hr : rising n.entries with
  | true => rfl
  | false => exact absurd (.inr (.inr (.inr (.inl hr)))) h1
 have h4 : n.right = nilP ∨ validP n.right = true := by
  by_cases hn : n.right = nilP
  ·exact .inl hn
  ·right
   cases hv : validP n.right with
   | true => rfl
   | false => exact absurd (.inl ⟨hn, hv⟩) h2
 have h5 : n.high = maxHigh ↔ n.right = nilP := by
  have : decide (n.high = maxHigh) = decide (n.right = nilP) := by
   by_cases he : decide (n.high = maxHigh) = decide (n.right = nilP)
   ·exact he
   ·exact absurd (.inr he) h2
  simpa using this
 have b1 : ¬ n.level < 0 := fun x => h1 (.inl x)
 have b2 : ¬ 8 < n.level := fun x => h1 (.inr (.inl x))
 have b3 : ¬ 5 < n.entries.length := fun x => h1 (.inr (.inr (.inl x)))
 have b4 : ¬ n.high = 0 := fun x => h1 (.inr (.inr (.inr (.inr x))))
 by_cases h6 : 0 < n.level
 ·rw [if_pos h6] at h
  simp only [Bool.and_eq_true, Bool.not_eq_true', decide_eq_true_eq] at h
  exact ⟨by omega, by omega, by omega, h3, b4, h4, h5, by omega, fun hd => (by rw [h.1] at hd; cases hd), fun _ => h.2, fun h0 => by omega⟩
 ·rw [if_neg h6] at h
  by_cases h7 : n.dead = true ∧ (0 < n.entries.length ∨ n.leftmost = true ∨ n.right = nilP)
  ·rw [if_pos h7] at h; cases h
  ·rw [if_neg h7] at h
   simp only [Bool.and_eq_true, decide_eq_true_eq] at h
   refine ⟨by omega, by omega, by omega, h3, b4, h4, h5, h.1, fun hd => ?_, fun h0 => by omega, fun _ => h.2⟩
   refine ⟨by omega, ?_, ?_, fun hn => h7 ⟨hd, .inr (.inr hn)⟩⟩
   ·cases hc : n.entries with
    | nil => rfl
    | cons a b => exact absurd ⟨hd, .inl (by rw [hc]; simp)⟩ h7
   ·cases hc : n.leftmost with
    | false => rfl
    | true => exact absurd ⟨hd, .inr (.inl hc)⟩ h7
theorem flag_cases (b : Bool) (v : Int) : (b = true ∧ flag b v = v) ∨ (b = false ∧ flag b v = 0) := by cases b <;> simp [flag]
theorem aux_range {n : Node} (h1 : 0 ≤ n.level) (h2 : n.level ≤ 8) (h3 : n.entries.length ≤ 5) : 0 ≤ n.aux ∧ n.aux < 262144 := by
 unfold Node.aux
 rcases flag_cases n.leftmost 65536 with ⟨_, h⟩ | ⟨_, h⟩ <;> rcases flag_cases n.dead 131072 with ⟨_, h'⟩ | ⟨_, h'⟩ <;> rw [h, h'] <;> omega
theorem tags_packTag {k g a : Int} (hk : 0 ≤ k ∧ k < 256) (hg : 0 ≤ g ∧ g < 16777216) (ha : 0 ≤ a) : tagKind (packTag k g a) = k ∧ tagGen (packTag k g a) = g ∧ tagAux (packTag k g a) = a := by
 unfold packTag tagKind tagGen tagAux
 refine ⟨by omega, by omega, by omega⟩
theorem fill_tags {n : Node} (h : n.valid = true) (p : Page) : tagKind (n.fill p).d0 = tagKind p.d0 ∧ tagGen (n.fill p).d0 = tagGen p.d0 ∧ tagAux (n.fill p).d0 = n.aux := by
 obtain ⟨h1, h2, h3, _⟩ := Node.valid_parts h
 exact tags_packTag (by unfold tagKind; omega) (by unfold tagGen; omega) (aux_range h1 h2 h3).1
theorem words_fill (n : Node) (p : Page) : (n.fill p).words = [wordAt n.entries 0, wordAt n.entries 1, wordAt n.entries 2, wordAt n.entries 3, wordAt n.entries 4] := rfl
theorem take_words (es : List Entry) (h5 : es.length ≤ 5) : [wordAt es 0, wordAt es 1, wordAt es 2, wordAt es 3, wordAt es 4].take es.length = es.map entryWord := by
 match es, h5 with
 | [], _ => rfl
 | [a], _ => rfl
 | [a, b], _ => rfl
 | [a, b, c], _ => rfl
 | [a, b, c, d], _ => rfl
 | [a, b, c, d, e], _ => rfl
 | a :: b :: c :: d :: e :: f :: g, h => simp at h
theorem map_id_of {l : List Entry} {f : Entry → Entry} (h : ∀ e ∈ l, f e = e) : l.map f = l := by
 induction l with
 | nil => rfl
 | cons a l ih => rw [List.map_cons, h a (by simp), ih (fun e he => h e (by simp [he]))]
theorem aux_parts {n : Node} (h1 : 0 ≤ n.level) (h2 : n.level ≤ 8) (h3 : n.entries.length ≤ 5) :
 n.aux % 256 = n.level ∧ n.aux / 256 % 256 = n.entries.length ∧ decide (n.aux / 65536 % 2 = 1) = n.leftmost ∧ decide (n.aux / 131072 % 2 = 1) = n.dead := by
 unfold Node.aux
 rcases flag_cases n.leftmost 65536 with ⟨hb, h⟩ | ⟨hb, h⟩ <;> rcases flag_cases n.dead 131072 with ⟨hb', h'⟩ | ⟨hb', h'⟩ <;> rw [h, h', hb, hb'] <;>
  refine ⟨by omega, by omega, ?_, ?_⟩ <;> first | (apply decide_eq_true; omega) | (apply decide_eq_false; omega)
theorem node_fill {n : Node} (h : n.valid = true) (hh : 0 ≤ n.high) (hh2 : n.high < 4294967296) (p : Page) : (n.fill p).node = n ∧ (n.fill p).count = n.entries.length := by
 obtain ⟨h1, h2, h3, h4, h5, h6, _⟩ := Node.valid_parts h
 obtain ⟨t1, t2, t3⟩ := fill_tags h p
 obtain ⟨a1, a2, a3, a4⟩ := aux_parts h1 h2 h3
 have hc : (n.fill p).count = n.entries.length := by unfold Page.count; rw [t3, a2]
 refine ⟨?_, hc⟩
 have hp := pack_lt n.right
 have hr : unpack (pack n.right) = n.right := unpack_pack h6
 have he : ((n.fill p).words.take (n.fill p).count.toNat).map entryOf = n.entries := by
  rw [hc, words_fill]
  rw [show ((n.entries.length : Int).toNat) = n.entries.length by simp, take_words _ h3, List.map_map]
  exact map_id_of fun e he => by
   have := rising_valid h4 e he
   exact entryOf_entryWord (by omega) this.2
 unfold Page.node
 rw [t3, a1, a3, a4, he]
 have hd1 : (n.fill p).d1 = n.high + pack n.right * 4294967296 := rfl
 rw [hd1, show (n.high + pack n.right * 4294967296) % 4294967296 = n.high by omega, show (n.high + pack n.right * 4294967296) / 4294967296 = pack n.right by omega, hr]
theorem fill_fill (n : Node) (h : n.valid = true) (p : Page) : n.fill (n.fill p) = n.fill p := by
 obtain ⟨t1, t2, t3⟩ := fill_tags h p
 unfold Node.fill at *
 simp only at t1 t2
 simp only [t1, t2]
theorem readNode_fill {n : Node} (h : n.valid = true) (hh : 0 ≤ n.high) (hh2 : n.high < 4294967296) {p : Page} (hk : tagKind p.d0 = 4) : readNode (n.fill p) = some n := by
 obtain ⟨e1, e2⟩ := node_fill h hh hh2 p
 obtain ⟨_, _, h3, _⟩ := Node.valid_parts h
 obtain ⟨t1, _, _⟩ := fill_tags h p
 unfold readNode
 rw [if_neg (by rintro (x | x); exact x (t1.trans hk); omega), e1, if_pos ⟨h, fill_fill n h p⟩]
theorem fill_self {p : Page} (hp : p.Ok) (hc : p.count ≤ 5) (hv : p.node.valid = true) :
 p.node.fill p = p ↔ (tagAux p.d0 / 262144 = 0 ∧ ∀ i, p.count.toNat ≤ i → ∀ x, p.words[i]? = some x → x = 0) := by
 obtain ⟨h1, h2, h3, h4, h5, h6, _⟩ := Node.valid_parts hv
 have hd0 := hp.d0
 have hd1 := hp.d1
 have hcn : 0 ≤ p.count := by unfold Page.count; omega
 have hwl : p.words.length = 5 := rfl
 have hlen : p.node.entries.length = p.count.toNat := by
  show ((p.words.take p.count.toNat).map entryOf).length = _
  rw [List.length_map, List.length_take, hwl]; omega
 have haux : p.node.aux = tagAux p.d0 ↔ tagAux p.d0 / 262144 = 0 := by
  have ht : 0 ≤ tagAux p.d0 := by unfold tagAux; omega
  generalize hA : tagAux p.d0 = A at *
  have e1 : p.node.level = A % 256 := by rw [← hA]; rfl
  have e2 : (p.node.entries.length : Int) = A / 256 % 256 := by rw [hlen, ← hA]; unfold Page.count at hcn ⊢; omega
  have e3 : p.node.leftmost = decide (A / 65536 % 2 = 1) := by rw [← hA]; rfl
  have e4 : p.node.dead = decide (A / 131072 % 2 = 1) := by rw [← hA]; rfl
  unfold Node.aux
  rw [e1, e2, e3, e4]
  unfold flag
  simp only [decide_eq_true_eq]
  split <;> split <;> omega
 have hright : pack p.node.right = p.d1 / 4294967296 := by
  show pack (unpack (p.d1 / 4294967296)) = _
  rw [pack_unpack' (by omega)]
  rcases h6 with h | h
  ·exact .inl (unpack_nil (by omega) h)
  ·exact .inr h
 have hw : ∀ i x, p.words[i]? = some x → (wordAt p.node.entries i = if i < p.count.toNat then x else 0) := by
  intro i x hx
  unfold wordAt
  have hi : i < 5 := by have := (List.getElem?_eq_some_iff.1 hx).1; omega
  by_cases hlt : i < p.count.toNat
  ·rw [if_pos hlt]
   have he : p.node.entries[i]? = some (entryOf x) := by
    show ((p.words.take p.count.toNat).map entryOf)[i]? = _
    rw [List.getElem?_map, List.getElem?_take_of_lt hlt, hx]
    rfl
   rw [he]
   have hm := (rising_valid h4 _ (List.mem_of_getElem? he)).2
   have hx0 : 0 ≤ x := by
    have hmem := List.mem_of_getElem? hx
    simp only [Page.words, List.mem_cons, List.not_mem_nil, or_false] at hmem
    have := hp.d2; have := hp.d3; have := hp.d4; have := hp.d5; have := hp.d6
    rcases hmem with rfl | rfl | rfl | rfl | rfl <;> omega
   exact entryWord_entryOf hx0 hm
  ·rw [if_neg hlt]
   have : p.node.entries[i]? = none := List.getElem?_eq_none (by omega)
   rw [this]
 have hd0' : packTag (tagKind p.d0) (tagGen p.d0) p.node.aux = p.d0 ↔ p.node.aux = tagAux p.d0 := by
  have := (aux_range h1 h2 h3).1
  unfold packTag tagKind tagGen tagAux
  omega
 have hd1' : p.node.high + pack p.node.right * 4294967296 = p.d1 := by
  rw [hright]
  show p.d1 % 4294967296 + _ = _
  omega
 constructor
 ·intro h
  unfold Node.fill at h
  have h := h
  rw [Page.mk.injEq] at h
  obtain ⟨_, _, q0, _, q2, q3, q4, q5, q6⟩ := h
  refine ⟨haux.1 (hd0'.1 q0), fun i hi x hx => ?_⟩
  have := hw i x hx
  rw [if_neg (by omega)] at this
  have h5 : i < 5 := by have := (List.getElem?_eq_some_iff.1 hx).1; omega
  match i, h5 with
  | 0, _ => simp [Page.words] at hx; omega
  | 1, _ => simp [Page.words] at hx; omega
  | 2, _ => simp [Page.words] at hx; omega
  | 3, _ => simp [Page.words] at hx; omega
  | 4, _ => simp [Page.words] at hx; omega
 ·rintro ⟨q0, qw⟩
  unfold Node.fill
  have hz : ∀ i x, p.words[i]? = some x → wordAt p.node.entries i = x := fun i x hx => by
   rw [hw i x hx]
   split
   ·rfl
   ·exact (qw i (by omega) x hx).symm
  rw [hd0'.2 (haux.2 q0), hd1', hz 0 p.d2 rfl, hz 1 p.d3 rfl, hz 2 p.d4 rfl, hz 3 p.d5 rfl, hz 4 p.d6 rfl]
def restZero (p : Page) : Bool := (p.words.drop p.count.toNat).all (fun x => decide (x = 0))
theorem restZero_iff (p : Page) : restZero p = true ↔ ∀ i, p.count.toNat ≤ i → ∀ x, p.words[i]? = some x → x = 0 := by
 unfold restZero
 rw [List.all_eq_true]
 constructor
 ·intro h i hi x hx
  have : x ∈ p.words.drop p.count.toNat := by
   rw [List.mem_iff_getElem?]
   exact ⟨i - p.count.toNat, by rw [List.getElem?_drop, show p.count.toNat + (i - p.count.toNat) = i by omega]; exact hx⟩
  simpa using h x this
 ·intro h x hx
  obtain ⟨i, hi⟩ := List.mem_iff_getElem?.1 hx
  rw [List.getElem?_drop] at hi
  simpa using h _ (by omega) x hi
def refReadNode (p : Page) : Option Node :=
 if tagKind p.d0 ≠ 4 ∨ tagAux p.d0 / 262144 ≠ 0 ∨ 5 < p.count then none
 else if p.d1 / 4294967296 ≠ 0 ∧ validP (unpack (p.d1 / 4294967296)) = false then none
 else if restZero p = true ∧ refValid p.node = true then some p.node else none
theorem refReadNode_eq {p : Page} (hp : p.Ok) : refReadNode p = readNode p := by
 have hd1 := hp.d1
 have hv := refValid_eq p.node (by show 0 ≤ p.d1 % 4294967296; omega)
 unfold refReadNode readNode
 by_cases h1 : tagKind p.d0 ≠ 4
 ·rw [if_pos (.inl h1), if_pos (.inl h1)]
 by_cases h2 : 5 < p.count
 ·rw [if_pos (.inr (.inr h2)), if_pos (.inr h2)]
 rw [if_neg (c := tagKind p.d0 ≠ 4 ∨ 5 < p.count) (by rintro (h | h); exact h1 h; exact h2 h)]
 by_cases h4 : p.node.valid = true
 ·have hs := fill_self hp (by omega) h4
  have h6 := (Node.valid_parts h4).2.2.2.2.2.1
  have hr : ¬ (p.d1 / 4294967296 ≠ 0 ∧ validP (unpack (p.d1 / 4294967296)) = false) := by
   rintro ⟨a, b⟩
   rcases h6 with h | h
   ·exact a (unpack_nil (by omega) h)
   ·rw [show p.node.right = unpack (p.d1 / 4294967296) from rfl, b] at h; cases h
  by_cases h3 : tagAux p.d0 / 262144 ≠ 0
  ·rw [if_pos (.inr (.inl h3)), if_neg (fun h => h3 (hs.1 h.2).1)]
  ·rw [if_neg (by rintro (h | h | h); exact h1 h; exact h3 h; exact h2 h), if_neg hr]
   have h3' : tagAux p.d0 / 262144 = 0 := by omega
   by_cases h5 : restZero p = true
   ·rw [if_pos ⟨h5, by rw [hv]; exact h4⟩, if_pos ⟨h4, hs.2 ⟨h3', (restZero_iff p).1 h5⟩⟩]
   ·rw [if_neg (fun h => h5 h.1), if_neg (fun h => h5 ((restZero_iff p).2 (hs.1 h.2).2))]
 ·rw [if_neg (c := p.node.valid = true ∧ p.node.fill p = p) (fun h => h4 h.1)]
  split
  ·rfl
  split
  ·rfl
  rw [if_neg (fun h => h4 (by rw [← hv]; exact h.2))]
end Go.Proofs.YtjmpekanlmepmaaGreatDoor.Bt
namespace Go.Proofs.YtjmpekanlmepmaaGreatDoor
open Go.RowKit
def keyBefore (es : List Bt.Entry) : Nat → Int
 | 0 => 0
 | k + 1 => match es[k]? with | some e => e.key | none => 0
theorem refEntries_step {lv hi : Int} {es : List Bt.Entry} {k : Nat} (hk : k < es.length) (h : Bt.refEntries lv hi 0 es = Bt.refEntries lv hi (keyBefore es k) (es.drop k)) :
 Bt.refEntries lv hi 0 es = (decide (1 ≤ es[k].key) && decide (es[k].key ≤ hi) && Bt.validP es[k].to && !(decide (lv = 0) && decide (Bt.maxKey < es[k].key)) && decide (keyBefore es k < es[k].key) && Bt.refEntries lv hi (keyBefore es (k + 1)) (es.drop (k + 1))) := by
 rw [h, List.drop_eq_getElem_cons hk]
 simp only [Bt.refEntries]
 have : keyBefore es (k + 1) = es[k].key := by simp [keyBefore, List.getElem?_eq_getElem hk]
 rw [this]
def headBad (n : Bt.Node) : Prop := n.level < 0 ∨ 8 < n.level ∨ n.high < 1 ∨ decide (n.right = Bt.nilP) ≠ decide (n.high = Bt.maxHigh) ∨ (n.right ≠ Bt.nilP ∧ Bt.validP n.right = false) ∨ 5 < n.entries.length
theorem refValid_headBad {n : Bt.Node} (h : headBad n) : Bt.refValid n = false := by unfold headBad at h; unfold Bt.refValid; rw [if_pos h]
def ValidPost (n : Bt.Node) (w : World) (e : Ending) (w' : World) : Prop := e = .returned (.bool (Bt.refValid n)) ∧ Below w.heap.size w w'
theorem refValid_head (n : Bt.Node) (a : Option Addr) (c : Nat) (w : World) (h : headBad n) : Calls Tryz.prog 70 #[.agg (nodeCells n (.slice a n.entries.length c))] w (ValidPost n w) := by
 have HX := hid (refValid_headBad h)
 obtain ⟨l, hl⟩ : ∃ l, l = n.entries.length := ⟨_, rfl⟩
 obtain ⟨b, hb⟩ : ∃ b, peq n.right.line n.right.gen 0 0 = b := ⟨_, rfl⟩
 have hb2 : b = decide (n.right = Bt.nilP) := by rw [← hb, peq_nil]
 have eq := eql_rptr
 have HM : Hid (n.high = 4294967295 ↔ (n.high == 4294967295) = true) := hid (by simp)
 obtain ⟨hm, hhm⟩ : ∃ hm, (n.high == 4294967295) = hm := ⟨_, rfl⟩
 unfold nodeCells
 rw [← hl]
 have HL := hid hl
 clear hl
 by_cases h1 : n.level < 0
 ·have c1 : decide (n.level < 0) = true := by simp [h1]
  clear h hb2
  go_enter Tryz.func70, Tryz.ntmps70
  go_wp2_with fail
  go_ret
  exact ⟨by rw [HX.out]; rfl, qL⟩
 have c1 : decide (n.level < 0) = false := by simp; omega
 by_cases h2 : 8 < n.level
 ·have c2 : decide (8 < n.level) = true := by simp [h2]
  clear h hb2
  go_enter Tryz.func70, Tryz.ntmps70
  go_wp2_with fail
  go_ret
  exact ⟨by rw [HX.out]; rfl, qL⟩
 have c2 : decide (8 < n.level) = false := by simp; omega
 by_cases h3 : n.high < 1
 ·have c3 : decide (n.high < 1) = true := by simp [h3]
  clear h hb2
  go_enter Tryz.func70, Tryz.ntmps70
  go_wp2_with fail
  go_ret
  exact ⟨by rw [HX.out]; rfl, qL⟩
 have c3 : decide (n.high < 1) = false := by simp; omega
 have hbm : b = hm ∨ (b = true ∧ hm = false) ∨ (b = false ∧ hm = true) := by cases b <;> cases hm <;> simp
 rcases hbm with hbm | ⟨rfl, rfl⟩ | ⟨rfl, rfl⟩
 rotate_left 1
 ·clear h hb2
  go_enter Tryz.func70, Tryz.ntmps70
  go_wp2_with fail
  go_ret
  exact ⟨by rw [HX.out]; rfl, qL⟩
 ·clear h hb2
  go_enter Tryz.func70, Tryz.ntmps70
  go_wp2_with fail
  go_ret
  exact ⟨by rw [HX.out]; rfl, qL⟩
 subst hbm
 by_cases h5 : n.right ≠ Bt.nilP ∧ Bt.validP n.right = false
 ·have hbf : b = false := by rw [hb2]; simp [h5.1]
  subst hbf
  have HV : Hid (Bt.validP ⟨n.right.line, n.right.gen⟩ = false) := hid h5.2
  clear h hb2 h5
  go_enter Tryz.func70, Tryz.ntmps70
  go_wp2_with fail
  go_at_call 43; refine (ValidPointer_any _ _ _).mono ?_; rintro e1 w1 ⟨rfl, hb1⟩; rw [HV.out]; ((obtain ⟨hc1, hf1, hs1⟩ := qR hb1); (try have := qN0 w w1))
  go_wp2_with fail
  go_ret
  exact ⟨by rw [HX.out]; rfl, qL⟩
 have h6 : 5 < l := by
  rcases h with h | h | h | h | h | h
  ·exact absurd h h1
  ·exact absurd h h2
  ·exact absurd h h3
  ·exfalso
   apply h
   rw [← hb2, ← hhm]
   by_cases hc : n.high = 4294967295 <;> simp [hc, Bt.maxHigh]
  ·exact absurd h h5
  ·have := HL.out; omega
 have c6 : decide ((5 : Int) < l) = true := by simp; omega
 by_cases hn : n.right = Bt.nilP
 ·have hbt : b = true := by rw [hb2]; simp [hn]
  subst hbt
  clear h hb2 h5 hn
  go_enter Tryz.func70, Tryz.ntmps70
  go_wp2_with fail
  go_ret
  exact ⟨by rw [HX.out]; rfl, qL⟩
 ·have hbf : b = false := by rw [hb2]; simp [hn]
  subst hbf
  have HV : Hid (Bt.validP ⟨n.right.line, n.right.gen⟩ = true) := hid (by
   cases hv : Bt.validP ⟨n.right.line, n.right.gen⟩ with
   | true => rfl
   | false => exact absurd ⟨hn, hv⟩ h5)
  clear h hb2 h5 hn
  go_enter Tryz.func70, Tryz.ntmps70
  go_wp2_with fail
  go_at_call 43; refine (ValidPointer_any _ _ _).mono ?_; rintro e1 w1 ⟨rfl, hb1⟩; rw [HV.out]; ((obtain ⟨hc1, hf1, hs1⟩ := qR hb1); (try have := qN0 w w1))
  go_wp2_with fail
  go_ret
  exact ⟨by rw [HX.out]; rfl, qL⟩
theorem refValid_good {n : Bt.Node} (h : ¬ headBad n) : Bt.refValid n = (if Bt.refEntries n.level n.high 0 n.entries = false then false else if 0 < n.level ∧ (n.entries.length = 0 ∨ Bt.lastKey n.entries ≠ n.high) then false else !n.dead || (decide (n.level = 0) && decide (n.entries.length = 0) && !n.leftmost && !decide (n.right = Bt.nilP))) := by
 unfold headBad at h; unfold Bt.refValid; rw [if_neg h]
def LoopAt (n : Bt.Node) (w : World) (k : Nat) (wr : World) : Prop := Below w.heap.size w wr ∧ Bt.refEntries n.level n.high 0 n.entries = Bt.refEntries n.level n.high (keyBefore n.entries k) (n.entries.drop k)
def LoopRel (n : Bt.Node) (w : World) (i : Value) (wr : World) : Prop := ∃ k : Nat, k ≤ n.entries.length ∧ i = .int .i64 k ∧ Hid (LoopAt n w k wr)
def HeadCut (W : World) (s45 : Value) (wx : World) : Prop := s45 = .bool false ∧ Below W.heap.size W wx
theorem refValid_rest (n : Bt.Node) (base : Nat) (v : Value) (w : World) (h : ¬ headBad n) (hv : w.ownsRow base 133 3 v n.entries.length (entCells n.entries)) : Calls Tryz.prog 70 #[.agg (nodeCells n v)] w (ValidPost n w) := by
 have HG := hid (refValid_good h)
 have h1 : 0 ≤ n.level := by by_cases x : n.level < 0; exact absurd (.inl x) h; omega
 have h2 : n.level ≤ 8 := by by_cases x : 8 < n.level; exact absurd (.inr (.inl x)) h; omega
 have h3 : 1 ≤ n.high := by by_cases x : n.high < 1; exact absurd (.inr (.inr (.inl x))) h; omega
 have h4 : decide (n.right = Bt.nilP) = decide (n.high = Bt.maxHigh) := by
  by_cases x : decide (n.right = Bt.nilP) = decide (n.high = Bt.maxHigh)
  ·exact x
  ·exact absurd (.inr (.inr (.inr (.inl x)))) h
 have h5 : n.right = Bt.nilP ∨ Bt.validP ⟨n.right.line, n.right.gen⟩ = true := by
  by_cases x : n.right = Bt.nilP
  ·exact .inl x
  ·right
   cases hv : Bt.validP ⟨n.right.line, n.right.gen⟩ with
   | true => rfl
   | false => exact absurd (.inr (.inr (.inr (.inr (.inl ⟨x, hv⟩))))) h
 have h6 : n.entries.length ≤ 5 := by by_cases x : 5 < n.entries.length; exact absurd (.inr (.inr (.inr (.inr (.inr x))))) h; omega
 obtain ⟨b, hb⟩ : ∃ b, peq n.right.line n.right.gen 0 0 = b := ⟨_, rfl⟩
 have hb2 : b = decide (n.right = Bt.nilP) := by rw [← hb, peq_nil]
 have hm : (n.high == 4294967295) = b := by rw [hb2, h4]; by_cases hc : n.high = 4294967295 <;> simp [hc, Bt.maxHigh]
 have HBN := hid hb2
 have c1 : decide (n.level < 0) = false := by simp; omega
 have c2 : decide (8 < n.level) = false := by simp; omega
 have c3 : decide (n.high < 1) = false := by simp; omega
 obtain ⟨a, c, rfl⟩ := own_slice hv
 have HV := hid hv
 have c6 : decide ((5 : Int) < n.entries.length) = false := by simp; omega
 have eq := eql_rptr
 have HH5 := hid h5
 have HL := hid h6
 clear h h4 h5 hv hb2
 unfold nodeCells
 go_enter Tryz.func70, Tryz.ntmps70
 go_upto_region 2 with (fail)
 go_cut [45] (HeadCut (w.alloc (.cells #[.int .i64 n.level, .bool n.leftmost, .bool n.dead, .int .u32 n.high, .int .i64 n.right.line, .int .i64 n.right.gen, .slice a n.entries.length c] 91)))
 case first =>
  rcases HH5.out with hn | hn
  ·have hbt : b = true := by rw [HBN.out]; simp [hn]
   subst hbt
   clear hn
   go_wp2_with fail
   go_meet
   exact ⟨rfl, qL⟩
  ·cases b with
   | true =>
     clear hn
     go_wp2_with fail
     go_meet
     exact ⟨rfl, qL⟩
   | false =>
     have HVP := hid hn
     clear hn
     go_wp2_with fail
     go_at_call 43; refine (ValidPointer_any _ _ _).mono ?_; rintro e1 w1 ⟨rfl, hb1⟩; rw [HVP.out]; ((obtain ⟨hc1, hf1, hs1⟩ := qR hb1); (try have := qN0 w w1))
     go_wp2_with fail
     go_meet
     exact ⟨rfl, qL⟩
 case rest =>
  rename World => wz
  obtain ⟨rfl, hbz⟩ := hcut
  have HZ : Hid (Below w.heap.size w wz) := hid (below_step (below_alloc (Below.refl _ _) _) hbz)
  have B0 : Blk wz w.heap.size 91 #[.int .i64 n.level, .bool n.leftmost, .bool n.dead, .int .u32 n.high, .int .i64 n.right.line, .int .i64 n.right.gen, .slice a n.entries.length c] := Blk.kept (made1 w) hbz
  have HB0 := hid B0
  have k0 := B0.cell
  have l0 := B0.lt
  clear B0 hbz
  go_wp2_with fail
  go_loopw [4] (fun i wr => LoopRel n wz i wr) (fun i _ => ((n.entries.length : Int) - intOf i).toNat)
  case atStart => exact ⟨0, by omega, rfl, hid ⟨Below.refl _ _, rfl⟩⟩
  case round =>
   obtain ⟨k, hkl, rfl, HA⟩ := hrel
   have kr : ∀ i, wr.cell? ⟨w.heap.size, i, none⟩ = (#[.int .i64 n.level, .bool n.leftmost, .bool n.dead, .int .u32 n.high, .int .i64 n.right.line, .int .i64 n.right.gen, .slice a n.entries.length c] : Array Value)[i]? := (HB0.out.kept HA.out.1).cell
   have lr : w.heap.size < wr.heap.size := (HB0.out.kept HA.out.1).lt
   clear k0 l0
   by_cases hk : k < n.entries.length
   ·obtain ⟨g, hag⟩ : ∃ g, a = some ⟨g, 0, none⟩ := by
      obtain ⟨g, cp, hv2⟩ := own_form HV.out (by omega)
      simp only [Value.slice.injEq] at hv2
      exact ⟨g, hv2.1⟩
    subst hag
    obtain ⟨x, hx⟩ : ∃ x, x = n.entries[k] := ⟨_, rfl⟩
    have hxg : n.entries[k]? = some x := by rw [hx]; exact List.getElem?_eq_getElem hk
    have hgl := (own_lt HV.out).2
    have hgr : g < wr.heap.size := Nat.lt_of_lt_of_le hgl (Nat.le_trans HZ.out.size HA.out.1.size)
    have hbw : Below w.heap.size w wr := below_step HZ.out HA.out.1
    have x0 : wr.cell? ⟨g, k * 3, none⟩ = some (.int .u32 x.key) := ((below_rules hbw).1 g _ hgl).trans (own_cells HV.out _ _ (entCells_get _ k x hxg 0 _ rfl))
    have x1 : wr.cell? ⟨g, k * 3 + 1, none⟩ = some (.int .i64 x.to.line) := ((below_rules hbw).1 g _ hgl).trans (own_cells HV.out _ _ (entCells_get _ k x hxg 1 _ rfl))
    have x2 : wr.cell? ⟨g, k * 3 + 2, none⟩ = some (.int .i64 x.to.gen) := ((below_rules hbw).1 g _ hgl).trans (own_cells HV.out _ _ (entCells_get _ k x hxg 2 _ rfl))
    have c7 : decide ((k : Int) < n.entries.length) = true := by simp; omega
    have bk0 : (0 : Int) ≤ k := by omega
    have bk1 : (k : Int) < n.entries.length := by omega
    have hst := refEntries_step hk HA.out.2
    rw [← hx] at hst
    have HST := hid hst
    have HBW := hid hbw
    clear hst hx hxg hbw
    go_wp2_with fail
    by_cases q1 : x.key < 1
    ·have c8 : decide (x.key < 1) = true := by simp [q1]
     have HBAD : Hid (Bt.refEntries n.level n.high 0 n.entries = false) := hid (by rw [HST.out]; have hq : decide (1 ≤ x.key) = false := (by simp; omega); simp [hq])
     refine qA fun hSt => ?_
     refine qS [0, 1, 2, 3, 4, 5, 6, 7, 8, 9, 10, 11, 12, 13, 14, 15, 16, 17, 18, 19, 20, 21, 22, 23, 24, 25, 26, 27, 28, 29, 30, 31, 32, 33, 34, 35, 36, 37, 38, 39, 40, 41] ?_
     iterate 42 (refine qT ?_; simp only [Act.put, qY])
     refine TakeSeq.done ?_
     refine qD ?_ _
     go_wp2_with fail
     have hbW := HBW.out
     go_ret
     exact ⟨by rw [HG.out, if_pos HBAD.out]; rfl, qL⟩
    have c8 : decide (x.key < 1) = false := by simp; omega
    have d8 : decide (1 ≤ x.key) = true := by simp; omega
    by_cases q2 : n.high < x.key
    ·have c9 : decide (n.high < x.key) = true := by simp [q2]
     have HBAD : Hid (Bt.refEntries n.level n.high 0 n.entries = false) := hid (by rw [HST.out]; have hq : decide (x.key ≤ n.high) = false := (by simp; omega); simp [hq])
     refine qA fun hSt => ?_
     refine qS [0, 1, 2, 3, 4, 5, 6, 7, 8, 9, 10, 11, 12, 13, 14, 15, 16, 17, 18, 19, 20, 21, 22, 23, 24, 25, 26, 27, 28, 29, 30, 31, 32, 33, 34, 35, 36, 37, 38, 39, 40, 41] ?_
     iterate 42 (refine qT ?_; simp only [Act.put, qY])
     refine TakeSeq.done ?_
     refine qD ?_ _
     go_wp2_with fail
     have hbW := HBW.out
     go_ret
     exact ⟨by rw [HG.out, if_pos HBAD.out]; rfl, qL⟩
    have c9 : decide (n.high < x.key) = false := by simp; omega
    have d9 : decide (x.key ≤ n.high) = true := by simp; omega
    rcases hvx : Bt.validP ⟨x.to.line, x.to.gen⟩ with _ | _
    ·have HVX := hid hvx
     have HBAD : Hid (Bt.refEntries n.level n.high 0 n.entries = false) := hid (by rw [HST.out]; have hq : Bt.validP x.to = false := hvx; simp [hq])
     clear hvx
     refine qA fun hSt => ?_
     refine qS [0, 1, 2, 3, 4, 5, 6, 7, 8, 9, 10, 11, 12] ?_
     iterate 13 (refine qT ?_; simp only [Act.put, qY])
     refine TakeSeq.done ?_
     refine qH 13 fun K hK => ?_
     go_simp
     go_at_call 43; refine (ValidPointer_any x.to.line x.to.gen _).mono ?_; rintro e2 w2 ⟨rfl, hb2⟩; rw [HVX.out]; ((obtain ⟨hc2, hf2, hs2⟩ := qR hb2); (try have := qN0 w w2); (try have := qN0 wr w2))
     go_wp2_with fail
     refine hK.out _ _ (SteadyAll.of qL) (fun hHeld => ?_)
     clear hK K
     refine qS [14, 15, 16, 17, 18, 19, 20, 21, 22, 23, 24, 25, 26, 27, 28, 29, 30, 31, 32, 33, 34, 35, 36, 37, 38, 39, 40, 41] ?_
     iterate 28 (refine qT ?_; simp only [Act.put, qY])
     refine TakeSeq.done ?_
     refine qD ?_ _
     go_wp2_with fail
     have hbW := HBW.out
     go_ret
     exact ⟨by rw [HG.out, if_pos HBAD.out]; rfl, qL⟩
    have HVX := hid hvx
    have HVT : Hid (Bt.validP x.to = true) := hid hvx
    clear hvx
    by_cases q3 : n.level = 0 ∧ 4294967294 < x.key
    ·have c10 : (n.level == 0) = true := by simp [q3.1]
     have c11 : decide (4294967294 < x.key) = true := by simp [q3.2]
     have HBAD : Hid (Bt.refEntries n.level n.high 0 n.entries = false) := hid (by rw [HST.out]; simp [q3.1, show Bt.maxKey < x.key from q3.2])
     refine qA fun hSt => ?_
     refine qS [0, 1, 2, 3, 4, 5, 6, 7, 8, 9, 10, 11, 12] ?_
     iterate 13 (refine qT ?_; simp only [Act.put, qY])
     refine TakeSeq.done ?_
     refine qH 13 fun K hK => ?_
     go_simp
     go_at_call 43; refine (ValidPointer_any x.to.line x.to.gen _).mono ?_; rintro e2 w2 ⟨rfl, hb2⟩; rw [HVX.out]; ((obtain ⟨hc2, hf2, hs2⟩ := qR hb2); (try have := qN0 w w2); (try have := qN0 wr w2))
     go_wp2_with fail
     refine hK.out _ _ (SteadyAll.of qL) (fun hHeld => ?_)
     clear hK K
     refine qS [14, 15, 16, 17, 18, 19, 20, 21, 22, 23, 24, 25, 26, 27, 28, 29, 30, 31, 32, 33, 34, 35, 36, 37, 38, 39, 40, 41] ?_
     iterate 28 (refine qT ?_; simp only [Act.put, qY])
     refine TakeSeq.done ?_
     refine qD ?_ _
     go_wp2_with fail
     have hbW := HBW.out
     go_ret
     exact ⟨by rw [HG.out, if_pos HBAD.out]; rfl, qL⟩
    have HLK : Hid ((!(decide (n.level = 0) && decide (Bt.maxKey < x.key))) = true) := hid (by
     by_cases ha : n.level = 0
     ·have : ¬ Bt.maxKey < x.key := fun hc => q3 ⟨ha, hc⟩
      simp [this]
     ·simp [ha])
    rcases Nat.eq_zero_or_pos k with hkz | hkp
    ·have c12 : decide ((0 : Int) < k) = false := by simp; omega
     have c12b : decide (0 < k) = false := by simp; omega
     have HNEXT : Hid (Bt.refEntries n.level n.high 0 n.entries = Bt.refEntries n.level n.high (keyBefore n.entries (k + 1)) (n.entries.drop (k + 1))) := hid (by
      have hk0 : keyBefore n.entries k = 0 := by subst hkz; rfl
      have hz : decide (keyBefore n.entries k < x.key) = true := by rw [hk0]; simp; omega
      rw [HST.out, d8, d9, HVT.out, HLK.out, hz]; simp)
     clear hkz
     by_cases ha : n.level = 0
     ·have c10 : (n.level == 0) = true := by simp [ha]
      have c11 : decide (4294967294 < x.key) = false := by simp; by_cases hc : 4294967294 < x.key; exact absurd ⟨ha, hc⟩ q3; omega
      clear ha q3
      refine qA fun hSt => ?_
      refine qS [0, 1, 2, 3, 4, 5, 6, 7, 8, 9, 10, 11, 12] ?_
      iterate 13 (refine qT ?_; simp only [Act.put, qY])
      refine TakeSeq.done ?_
      refine qH 13 fun K hK => ?_
      go_simp
      go_at_call 43; refine (ValidPointer_any x.to.line x.to.gen _).mono ?_; rintro e2 w2 ⟨rfl, hb2⟩; rw [HVX.out]; ((obtain ⟨hc2, hf2, hs2⟩ := qR hb2); (try have := qN0 w w2); (try have := qN0 wr w2))
      go_wp2_with fail
      refine hK.out _ _ (SteadyAll.of qL) (fun hHeld => ?_)
      clear hK K
      refine qS [14, 15, 16, 17, 18, 19, 20, 21, 22, 23, 24, 25, 26, 27, 28, 29, 30, 31, 32, 33, 34, 35, 36, 37, 38, 39, 40, 41] ?_
      iterate 28 (refine qT ?_; simp only [Act.put, qY])
      refine TakeSeq.done ?_
      refine qD ?_ _
      go_wp2_with fail
      have hbA := HA.out.1
      exact ⟨⟨k + 1, by omega, by rw [show ((k : Int) + 1) = ((k + 1 : Nat) : Int) by omega], hid ⟨qL, HNEXT.out⟩⟩, by simp [intOf]; omega⟩
     ·have c10 : (n.level == 0) = false := by simp [ha]
      clear ha q3
      refine qA fun hSt => ?_
      refine qS [0, 1, 2, 3, 4, 5, 6, 7, 8, 9, 10, 11, 12] ?_
      iterate 13 (refine qT ?_; simp only [Act.put, qY])
      refine TakeSeq.done ?_
      refine qH 13 fun K hK => ?_
      go_simp
      go_at_call 43; refine (ValidPointer_any x.to.line x.to.gen _).mono ?_; rintro e2 w2 ⟨rfl, hb2⟩; rw [HVX.out]; ((obtain ⟨hc2, hf2, hs2⟩ := qR hb2); (try have := qN0 w w2); (try have := qN0 wr w2))
      go_wp2_with fail
      refine hK.out _ _ (SteadyAll.of qL) (fun hHeld => ?_)
      clear hK K
      refine qS [14, 15, 16, 17, 18, 19, 20, 21, 22, 23, 24, 25, 26, 27, 28, 29, 30, 31, 32, 33, 34, 35, 36, 37, 38, 39, 40, 41] ?_
      iterate 28 (refine qT ?_; simp only [Act.put, qY])
      refine TakeSeq.done ?_
      refine qD ?_ _
      go_wp2_with fail
      have hbA := HA.out.1
      exact ⟨⟨k + 1, by omega, by rw [show ((k : Int) + 1) = ((k + 1 : Nat) : Int) by omega], hid ⟨qL, HNEXT.out⟩⟩, by simp [intOf]; omega⟩
    ·obtain ⟨m, hm1⟩ : ∃ m, k = m + 1 := ⟨k - 1, by omega⟩
     obtain ⟨y, hy⟩ : ∃ y, y = n.entries[m]'(by omega) := ⟨_, rfl⟩
     have hyg : n.entries[m]? = some y := by rw [hy]; exact List.getElem?_eq_getElem (by omega)
     have hky : keyBefore n.entries k = y.key := by rw [hm1]; simp [keyBefore, hyg]
     have y0 : wr.cell? ⟨g, m * 3, none⟩ = some (.int .u32 y.key) := ((below_rules HBW.out).1 g _ hgl).trans (own_cells HV.out _ _ (entCells_get _ m y hyg 0 _ rfl))
     have c12 : decide ((0 : Int) < k) = true := by simp; omega
     have c12b : decide (0 < k) = true := by simp; omega
     have wk1 : IntKind.i64.wrap ((k : Int) - 1) = m := by rw [IntKind.wrap_i64]; omega
     have wk2 : wrap64 ((k : Int) - 1) = m := by unfold wrap64; omega
     have bm0 : (0 : Int) ≤ m := by omega
     have bm1 : (m : Int) < n.entries.length := by omega
     have HKY := hid hky
     clear hm1 hy hyg hky
     by_cases q4 : x.key ≤ y.key
     ·have c13 : decide (x.key ≤ y.key) = true := by simp [q4]
      have HBAD : Hid (Bt.refEntries n.level n.high 0 n.entries = false) := hid (by
       have hz : decide (keyBefore n.entries k < x.key) = false := by rw [HKY.out]; simp; omega
       rw [HST.out, hz]; simp)
      by_cases ha : n.level = 0
      ·have c10 : (n.level == 0) = true := by simp [ha]
       have c11 : decide (4294967294 < x.key) = false := by simp; by_cases hc : 4294967294 < x.key; exact absurd ⟨ha, hc⟩ q3; omega
       clear ha q3
       refine qA fun hSt => ?_
       refine qS [0, 1, 2, 3, 4, 5, 6, 7, 8, 9, 10, 11, 12] ?_
       iterate 13 (refine qT ?_; simp only [Act.put, qY])
       refine TakeSeq.done ?_
       refine qH 13 fun K hK => ?_
       go_simp
       go_at_call 43; refine (ValidPointer_any x.to.line x.to.gen _).mono ?_; rintro e2 w2 ⟨rfl, hb2⟩; rw [HVX.out]; ((obtain ⟨hc2, hf2, hs2⟩ := qR hb2); (try have := qN0 w w2); (try have := qN0 wr w2))
       go_wp2_with fail
       refine hK.out _ _ (SteadyAll.of qL) (fun hHeld => ?_)
       clear hK K
       refine qS [14, 15, 16, 17, 18, 19, 20, 21, 22, 23, 24, 25, 26, 27, 28, 29, 30, 31, 32, 33, 34, 35, 36, 37, 38, 39, 40, 41] ?_
       iterate 28 (refine qT ?_; simp only [Act.put, qY])
       refine TakeSeq.done ?_
       refine qD ?_ _
       go_wp2_with fail
       have hbW := HBW.out
       go_ret
       exact ⟨by rw [HG.out, if_pos HBAD.out]; rfl, qL⟩
      ·have c10 : (n.level == 0) = false := by simp [ha]
       clear ha q3
       refine qA fun hSt => ?_
       refine qS [0, 1, 2, 3, 4, 5, 6, 7, 8, 9, 10, 11, 12] ?_
       iterate 13 (refine qT ?_; simp only [Act.put, qY])
       refine TakeSeq.done ?_
       refine qH 13 fun K hK => ?_
       go_simp
       go_at_call 43; refine (ValidPointer_any x.to.line x.to.gen _).mono ?_; rintro e2 w2 ⟨rfl, hb2⟩; rw [HVX.out]; ((obtain ⟨hc2, hf2, hs2⟩ := qR hb2); (try have := qN0 w w2); (try have := qN0 wr w2))
       go_wp2_with fail
       refine hK.out _ _ (SteadyAll.of qL) (fun hHeld => ?_)
       clear hK K
       refine qS [14, 15, 16, 17, 18, 19, 20, 21, 22, 23, 24, 25, 26, 27, 28, 29, 30, 31, 32, 33, 34, 35, 36, 37, 38, 39, 40, 41] ?_
       iterate 28 (refine qT ?_; simp only [Act.put, qY])
       refine TakeSeq.done ?_
       refine qD ?_ _
       go_wp2_with fail
       have hbW := HBW.out
       go_ret
       exact ⟨by rw [HG.out, if_pos HBAD.out]; rfl, qL⟩
     ·have c13 : decide (x.key ≤ y.key) = false := by simp; omega
      have HNEXT : Hid (Bt.refEntries n.level n.high 0 n.entries = Bt.refEntries n.level n.high (keyBefore n.entries (k + 1)) (n.entries.drop (k + 1))) := hid (by
       have hz : decide (keyBefore n.entries k < x.key) = true := by rw [HKY.out]; simp; omega
       rw [HST.out, d8, d9, HVT.out, HLK.out, hz]; simp)
      by_cases ha : n.level = 0
      ·have c10 : (n.level == 0) = true := by simp [ha]
       have c11 : decide (4294967294 < x.key) = false := by simp; by_cases hc : 4294967294 < x.key; exact absurd ⟨ha, hc⟩ q3; omega
       clear ha q3
       refine qA fun hSt => ?_
       refine qS [0, 1, 2, 3, 4, 5, 6, 7, 8, 9, 10, 11, 12] ?_
       iterate 13 (refine qT ?_; simp only [Act.put, qY])
       refine TakeSeq.done ?_
       refine qH 13 fun K hK => ?_
       go_simp
       go_at_call 43; refine (ValidPointer_any x.to.line x.to.gen _).mono ?_; rintro e2 w2 ⟨rfl, hb2⟩; rw [HVX.out]; ((obtain ⟨hc2, hf2, hs2⟩ := qR hb2); (try have := qN0 w w2); (try have := qN0 wr w2))
       go_wp2_with fail
       refine hK.out _ _ (SteadyAll.of qL) (fun hHeld => ?_)
       clear hK K
       refine qS [14, 15, 16, 17, 18, 19, 20, 21, 22, 23, 24, 25, 26, 27, 28, 29, 30, 31, 32, 33, 34, 35, 36, 37, 38, 39, 40, 41] ?_
       iterate 28 (refine qT ?_; simp only [Act.put, qY])
       refine TakeSeq.done ?_
       refine qD ?_ _
       go_wp2_with fail
       have hbA := HA.out.1
       exact ⟨⟨k + 1, by omega, by rw [show ((k : Int) + 1) = ((k + 1 : Nat) : Int) by omega], hid ⟨qL, HNEXT.out⟩⟩, by simp [intOf]; omega⟩
      ·have c10 : (n.level == 0) = false := by simp [ha]
       clear ha q3
       refine qA fun hSt => ?_
       refine qS [0, 1, 2, 3, 4, 5, 6, 7, 8, 9, 10, 11, 12] ?_
       iterate 13 (refine qT ?_; simp only [Act.put, qY])
       refine TakeSeq.done ?_
       refine qH 13 fun K hK => ?_
       go_simp
       go_at_call 43; refine (ValidPointer_any x.to.line x.to.gen _).mono ?_; rintro e2 w2 ⟨rfl, hb2⟩; rw [HVX.out]; ((obtain ⟨hc2, hf2, hs2⟩ := qR hb2); (try have := qN0 w w2); (try have := qN0 wr w2))
       go_wp2_with fail
       refine hK.out _ _ (SteadyAll.of qL) (fun hHeld => ?_)
       clear hK K
       refine qS [14, 15, 16, 17, 18, 19, 20, 21, 22, 23, 24, 25, 26, 27, 28, 29, 30, 31, 32, 33, 34, 35, 36, 37, 38, 39, 40, 41] ?_
       iterate 28 (refine qT ?_; simp only [Act.put, qY])
       refine TakeSeq.done ?_
       refine qD ?_ _
       go_wp2_with fail
       have hbA := HA.out.1
       exact ⟨⟨k + 1, by omega, by rw [show ((k : Int) + 1) = ((k + 1 : Nat) : Int) by omega], hid ⟨qL, HNEXT.out⟩⟩, by simp [intOf]; omega⟩
   ·have hkl2 : k = n.entries.length := by omega
    have HRE : Hid (Bt.refEntries n.level n.high 0 n.entries = true) := hid (by rw [HA.out.2, hkl2, List.drop_length]; rfl)
    have c7 : decide ((k : Int) < n.entries.length) = false := by simp; omega
    have c7b : decide (k < n.entries.length) = false := by simp; omega
    have c7c : ¬ (k < n.entries.length) := hk
    have HBW := hid (below_step HZ.out HA.out.1)
    clear hkl2 hkl hk
    by_cases hlv : 0 < n.level
    ·have c14 : decide (0 < n.level) = true := by simp [hlv]
     have c10 : (n.level == 0) = false := by rw [beq_eq_false_iff_ne]; omega
     by_cases hle : n.entries.length = 0
     ·have c15 : ((n.entries.length : Int) == 0) = true := by rw [beq_iff_eq]; omega
      have HF : Hid (Bt.refValid n = false) := hid (by rw [HG.out, if_neg (by rw [HRE.out]; simp), if_pos ⟨hlv, .inl hle⟩])
      clear hlv hle
      go_wp2_with fail
      go_quiet (fail)
      go_wp2_with fail
      have hbW := HBW.out
      go_ret
      exact ⟨by rw [HF.out]; rfl, qL⟩
     ·obtain ⟨g, hag⟩ : ∃ g, a = some ⟨g, 0, none⟩ := by
        obtain ⟨g, cp, hv2⟩ := own_form HV.out (by omega)
        simp only [Value.slice.injEq] at hv2
        exact ⟨g, hv2.1⟩
      subst hag
      obtain ⟨m, hm1⟩ : ∃ m, n.entries.length = m + 1 := ⟨n.entries.length - 1, by omega⟩
      obtain ⟨z, hz⟩ : ∃ z, z = n.entries[m]'(by omega) := ⟨_, rfl⟩
      have hzg : n.entries[m]? = some z := by rw [hz]; exact List.getElem?_eq_getElem (by omega)
      have hgl := (own_lt HV.out).2
      have hgr : g < wr.heap.size := Nat.lt_of_lt_of_le hgl HBW.out.size
      have z0 : wr.cell? ⟨g, m * 3, none⟩ = some (.int .u32 z.key) := ((below_rules HBW.out).1 g _ hgl).trans (own_cells HV.out _ _ (entCells_get _ m z hzg 0 _ rfl))
      have c15 : ((n.entries.length : Int) == 0) = false := by rw [beq_eq_false_iff_ne]; omega
      have wk1 : IntKind.i64.wrap ((n.entries.length : Int) - 1) = m := by rw [IntKind.wrap_i64]; omega
      have wk2 : wrap64 ((n.entries.length : Int) - 1) = m := by unfold wrap64; omega
      have bm0 : (0 : Int) ≤ m := by omega
      have bm1 : (m : Int) < n.entries.length := by omega
      have hlast : Bt.lastKey n.entries = z.key := by rw [lastKey_get n.entries m (by omega), hz]
      by_cases hq : z.key = n.high
      ·have c16 : (z.key != n.high) = false := by simp [hq]
       have HF : Hid (Bt.refValid n = !n.dead) := hid (by
        rw [HG.out, if_neg (by rw [HRE.out]; simp), if_neg (by rintro ⟨_, h | h⟩; exact hle h; exact h (hlast.trans hq))]
        have : decide (n.level = 0) = false := by simp; omega
        simp [this])
       clear hlv hle hm1 hz hzg hlast hq
       rcases hdd : n.dead with _ | _
       all_goals
        go_wp2_with fail
        go_quiet (fail)
        go_wp2_with fail
        have hbW := HBW.out
        go_ret
        exact ⟨by rw [HF.out, hdd]; rfl, qL⟩
      ·have c16 : (z.key != n.high) = true := by simp [hq]
       have HF : Hid (Bt.refValid n = false) := hid (by rw [HG.out, if_neg (by rw [HRE.out]; simp), if_pos ⟨hlv, .inr (fun h => hq (hlast.symm.trans h))⟩])
       clear hlv hle hm1 hz hzg hlast hq
       go_wp2_with fail
       go_quiet (fail)
       go_wp2_with fail
       have hbW := HBW.out
       go_ret
       exact ⟨by rw [HF.out]; rfl, qL⟩
    ·have c14 : decide (0 < n.level) = false := by simp; omega
     have c10 : (n.level == 0) = true := by rw [beq_iff_eq]; omega
     have HF : Hid (Bt.refValid n = (!n.dead || (decide (n.entries.length = 0) && !n.leftmost && !b))) := hid (by
      rw [HG.out, if_neg (by rw [HRE.out]; simp), if_neg (by rintro ⟨h, _⟩; exact hlv h), ← HBN.out]
      have : decide (n.level = 0) = true := by simp; omega
      rw [this, Bool.true_and])
     clear hlv
     by_cases hle : n.entries.length = 0
     ·have c15 : ((n.entries.length : Int) == 0) = true := by rw [beq_iff_eq]; omega
      have HLE : Hid (decide (n.entries.length = 0) = true) := hid (by simp [hle])
      clear hle
      rcases hdd : n.dead with _ | _ <;> rcases hlm : n.leftmost with _ | _ <;> cases b
      all_goals
       go_wp2_with fail
       go_quiet (fail)
       go_wp2_with fail
       have hbW := HBW.out
       go_ret
       exact ⟨by rw [HF.out, HLE.out, hdd, hlm]; rfl, qL⟩
     ·have c15 : ((n.entries.length : Int) == 0) = false := by rw [beq_eq_false_iff_ne]; omega
      have HLE : Hid (decide (n.entries.length = 0) = false) := hid (by simp [hle])
      clear hle
      rcases hdd : n.dead with _ | _
      all_goals
       go_wp2_with fail
       go_quiet (fail)
       go_wp2_with fail
       have hbW := HBW.out
       go_ret
       exact ⟨by rw [HF.out, HLE.out, hdd]; rfl, qL⟩
end Go.Proofs.YtjmpekanlmepmaaGreatDoor
