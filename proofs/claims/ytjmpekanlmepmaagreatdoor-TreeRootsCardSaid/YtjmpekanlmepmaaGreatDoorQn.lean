/- A region that draws its order, whose one operation 'last' waits for all others: what its loads read need hold till then only ('v.x = append(v.x, ..)' through a pointer). Package bodegalaw24: an index in memory, with what it should have. -/
import Derived.Test.YtjmpekanlmepmaaGreatDoorQa
import Derived.Test.YtjmpekanlmepmaaGreatDoorWL2
import Derived.Test.YtjmpekanlmepmaaGreatDoorQl
set_option linter.unusedVariables false
set_option linter.unusedSimpArgs false
set_option linter.unusedSectionVars false
set_option linter.constructorNameAsVariable false
namespace Go.Proofs.YtjmpekanlmepmaaGreatDoor
open Go.RowKit

section
variable {P : Program} {ops : Array Oper} {Q : Exit → Act → World → Prop} {md : Region.Mode} {S : World → Prop} {last : Nat}

def wpAnyL (P : Program) (md : Region.Mode) (ops : Array Oper) (Q : Exit → Act → World → Prop) (S : World → Prop) (last : Nat) : Nat → Array Bool → Act → World → Prop
  | 0, listed, a, w => Region.ready md ops listed = [] ∧ Q .normal a w
  | fuel + 1, listed, a, w =>
    (Region.ready md ops listed = [] → Q .normal a w) ∧
    ∀ i ∈ Region.ready md ops listed, (i = last → ∀ k, k < ops.size → k ≠ last → listed.getD k false = true) → wpOp P ops Q i (fun a' w' => (i ≠ last → S w') ∧ wpAnyL P md ops Q S last fuel (listed.setIfInBounds i true) a' w') a w

/-- What is listed, its forerunners are. -/
def ListedBack (md : Region.Mode) (ops : Array Oper) (listed : Array Bool) : Prop := ∀ k o, ops[k]? = some o → listed.getD k false = true → ∀ e ∈ o.after, Region.binds md e = true → listed.getD e.on false = true
/-- Each operation but the last has one that waits for it. -/
def feeds (md : Region.Mode) (ops : Array Oper) (last : Nat) : Bool :=
  decide (last < ops.size) && (List.range ops.size).all fun k => k == last || (List.range ops.size).any fun m => decide (k < m) && ((ops[m]?).map fun o => o.after.any fun e => e.on == k && Region.binds md e).getD false
theorem feeds_spec (h : feeds md ops last = true) {k : Nat} (hk : k < ops.size) (hne : k ≠ last) : ∃ m o e, k < m ∧ m < ops.size ∧ ops[m]? = some o ∧ e ∈ o.after ∧ e.on = k ∧ Region.binds md e = true := by
  unfold feeds at h
  rw [Bool.and_eq_true] at h
  have h1 := List.all_eq_true.1 h.2 k (List.mem_range.2 hk)
  rw [Bool.or_eq_true, beq_iff_eq] at h1
  rcases h1 with h1 | h1
  · exact absurd h1 hne
  · obtain ⟨m, hm, h2⟩ := List.any_eq_true.1 h1
    have hlt := List.mem_range.1 hm
    rw [Bool.and_eq_true, decide_eq_true_eq] at h2
    have ho : ops[m]? = some ops[m] := Array.getElem?_eq_getElem hlt
    rw [ho] at h2
    simp only [Option.map_some, Option.getD_some, Array.any_eq_true', Bool.and_eq_true, beq_iff_eq] at h2
    obtain ⟨h3, e, h4, h5, h6⟩ := h2
    exact ⟨m, _, e, h3, hlt, ho, h4, h5, h6⟩
theorem feeds_all (h : feeds md ops last = true) {listed : Array Bool} (hb : ListedBack md ops listed) (hr : last ∈ Region.ready md ops listed) : ∀ k, k < ops.size → k ≠ last → listed.getD k false = true := by
  intro k hk
  obtain ⟨h0, ol, hol, hall⟩ := mem_ready.1 hr
  have main : ∀ d k, ops.size - k ≤ d → k < ops.size → k ≠ last → listed.getD k false = true := by
    intro d
    induction d with
    | zero => intro k hd hk _; omega
    | succ d ih =>
      intro k hd hk hne
      obtain ⟨m, o, e, h1, h2, h3, h4, h5, h6⟩ := feeds_spec h hk hne
      by_cases hml : m = last
      · subst hml
        rw [hol] at h3
        obtain rfl := Option.some.inj h3
        rw [← h5]; exact hall e h4 h6
      · have := hb m o h3 (ih m (by omega) h2 hml) e h4 h6
        rw [← h5]; exact this
  exact main _ k (Nat.le_refl _) hk
theorem ListedBack.set {listed : Array Bool} (hb : ListedBack md ops listed) {i : Nat} (hi : i ∈ Region.ready md ops listed) : ListedBack md ops (listed.setIfInBounds i true) := by
  intro k o ho hk e he hbd
  obtain ⟨h0, oi, hoi, hall⟩ := mem_ready.1 hi
  have keep : ∀ j, listed.getD j false = true → (listed.setIfInBounds i true).getD j false = true := fun j hj => by
    by_cases hij : i = j
    · subst hij
      by_cases hlt : i < listed.size
      · simp [Array.getD_eq_getD_getElem?, hlt]
      · rw [Array.getD_eq_getD_getElem?, Array.getElem?_eq_none (by omega)] at hj; simp at hj
    · rw [Array.getD_eq_getD_getElem?] at hj ⊢
      rw [Array.getElem?_setIfInBounds, if_neg hij]
      exact hj
  by_cases hki : i = k
  · subst hki
    rw [hoi] at ho
    obtain rfl := Option.some.inj ho
    exact keep _ (hall e he hbd)
  · refine keep _ (hb k o ho ?_ e he hbd)
    rw [Array.getD_eq_getD_getElem?] at hk ⊢
    rw [Array.getElem?_setIfInBounds, if_neg hki] at hk
    exact hk

theorem wpAny_of_late (hf : feeds md ops last = true) : ∀ (fuel : Nat) (listed : Array Bool) (a : Act) (w : World), ListedBack md ops listed → wpAnyL P md ops Q S last fuel listed a w → wpAny P md ops Q fuel listed a w
  | 0, _, _, _, _, h => h
  | fuel + 1, listed, a, w, hb, h => ⟨h.1, fun i hi => wpOp_mono (fun a' w' h' => wpAny_of_late hf fuel _ a' w' (hb.set hi) h'.2) (h.2 i hi (fun he => feeds_all hf hb (he ▸ hi)))⟩

theorem wp_region_late {id : Nat} {a : Act} {w : World} (hm : P.follows .mixedOrders = true) (hf : feeds .any ops last = true) (hS : S w.drew)
    (h : S w.drew → wpAnyL P .any ops Q S last ops.size (Array.replicate ops.size false) a w.drew) : (Code.region id ops true).wp P Q a w := by
  refine wp_region_any hm (wpAny_of_late (S := S) (last := last) hf _ _ _ _ (fun k o _ hk => ?_) (h hS))
  rw [Array.getD_eq_getD_getElem?, Array.getElem?_replicate] at hk
  split at hk <;> simp at hk

theorem wpAnyL_first {i : Nat} {oi : Oper} {v : Value} (hi : ops[i]? = some oi) (hil : i ≠ last) (hsel : ∀ (j : Nat) (o : Oper) cs b, ops[j]? = some o → o.op ≠ .select cs b)
    (hQ : ∀ c a w, Q (.panic c) (a.put oi.dst v) w → Q (.panic c) a w) :
    ∀ (fuel : Nat) (listed : Array Bool) (a : Act) (w : World),
      (∀ j oj, ops[j]? = some oj → j ≠ i → listed.getD j true = false → (∀ e ∈ oj.after, Region.binds md e = true → e.on ≠ i) → oi.apart ops oj = true) →
      i ∈ Region.ready md ops listed → YieldsIf P ops S oi v a → S w →
      wpAnyL P md ops Q S last fuel (listed.setIfInBounds i true) (a.put oi.dst v) w → wpAnyL P md ops Q S last (fuel + 1) listed a w := by
  have hlt : i < ops.size := (Array.getElem?_eq_some_iff.1 hi).1
  have hno : ∀ listed : Array Bool, i ∈ Region.ready md ops listed → ¬ (∀ k, k < ops.size → k ≠ last → listed.getD k false = true) := fun listed hr h => by
    have h1 := h i hlt hil
    have h0 := (mem_ready.1 hr).1
    rcases Nat.lt_or_ge i listed.size with h' | h'
    · simp [h'] at h0 h1; rw [h0] at h1; cases h1
    · simp [Array.getElem?_eq_none h'] at h1
  have hset : ∀ (listed : Array Bool) (j k : Nat), j ≠ last → (∀ k, k < ops.size → k ≠ last → listed.getD k false = true) → True := fun _ _ _ _ _ => trivial
  intro fuel
  induction fuel with
  | zero =>
    intro listed a w _ hr hy hS H
    refine ⟨fun h => (by rw [h] at hr; cases hr), fun j hj hjl => ?_⟩
    by_cases hji : j = i
    · subst hji; exact hy.wpOp hi hS ⟨fun _ => hS, H⟩
    · have := ready_mono hj hji
      rw [H.1] at this
      cases this
  | succ fuel ih =>
    intro listed a w hfree hr hy hS H
    refine ⟨fun h => (by rw [h] at hr; cases hr), fun j hj hjl => ?_⟩
    by_cases hji : j = i
    · subst hji; exact hy.wpOp hi hS ⟨fun _ => hS, H⟩
    · have hjlast : j ≠ last := fun he => hno listed hr (hjl he)
      have h1 := H.2 j (ready_mono hj hji) (fun he => absurd he hjlast)
      obtain ⟨hjun, oj, hoj, hall⟩ := mem_ready.1 hj
      have hnot : ∀ e ∈ oj.after, Region.binds md e = true → e.on ≠ i := fun e he hb heq => by
        have h1 := hall e he hb
        have h0 := (mem_ready.1 hr).1
        rw [heq] at h1
        rcases Nat.lt_or_ge i listed.size with h' | h'
        · simp [h'] at h0 h1; rw [h0] at h1; cases h1
        · simp [Array.getElem?_eq_none h'] at h1
      have h2 := wpOp_putIf hoj (hfree j oj hoj hji hjun hnot) (fun cs b => hsel i oi cs b hi) (fun cs b => hsel j oj cs b hoj) hQ hy h1
      have hfree' : ∀ k ok, ops[k]? = some ok → k ≠ i → (listed.setIfInBounds j true).getD k true = false →
          (∀ e ∈ ok.after, Region.binds md e = true → e.on ≠ i) → oi.apart ops ok = true := fun k ok hk hki hun hno => by
        refine hfree k ok hk hki ?_ hno
        by_cases hjk : j = k
        · subst hjk; exact hjun
        · rw [getD_set_ne true hjk] at hun; exact hun
      refine wpOp_mono (fun a' w' h3 => ⟨h3.2.1, ih (listed.setIfInBounds j true) a' w' hfree' (ready_mono hr (Ne.symm hji)) h3.1 (h3.2.1 hjlast) ?_⟩) h2
      rw [Array.setIfInBounds_comm _ _ hji]
      exact h3.2.2

theorem wpAnyL_take {i : Nat} {oi : Oper} {v : Value} {fuel : Nat} {listed : Array Bool} {a : Act} {w : World} (hi : ops[i]? = some oi) (hil : i ≠ last)
    (hs : Region.noSelect ops = true) (hf : Region.free md ops listed i = true) (hr : (Region.ready md ops listed).contains i = true)
    (hQ : ∀ c a w, Q (.panic c) (a.put oi.dst v) w → Q (.panic c) a w) (hy : YieldsIf P ops S oi v a) (hS : S w)
    (h : wpAnyL P md ops Q S last fuel (listed.setIfInBounds i true) (a.put oi.dst v) w) : wpAnyL P md ops Q S last (fuel + 1) listed a w :=
  wpAnyL_first hi hil (Region.noSelect_spec hs) hQ fuel listed a w (Region.free_spec hi hf) (by simpa using hr) hy hS h
theorem wpAnyL_done {listed : Array Bool} {a : Act} {w : World} (hr : Region.ready md ops listed = []) (h : Q .normal a w) :
    ∀ fuel, wpAnyL P md ops Q S last fuel listed a w
  | 0 => ⟨hr, h⟩
  | _ + 1 => ⟨fun _ => h, by rw [hr]; simp⟩

/-- Operations that are taken first, one behind the other. -/
def TakeSeqL (P : Program) (md : Region.Mode) (ops : Array Oper) (Q : Exit → Act → World → Prop) (S : World → Prop) (last : Nat) (fuel : Nat) : List Nat → Array Bool → Act → World → Prop
  | [], l, a, w => wpAnyL P md ops Q S last fuel l a w
  | i :: is, l, a, w => ∃ o v, ops[i]? = some o ∧ YieldsIf P ops S o v a ∧ TakeSeqL P md ops Q S last fuel is (l.setIfInBounds i true) (a.put o.dst v) w
theorem TakeSeqL.step {fuel i : Nat} {is : List Nat} {l : Array Bool} {a : Act} {w : World} {o : Oper} {v : Value} (ho : ops[i]? = some o) (hy : YieldsIf P ops S o v a)
    (h : TakeSeqL P md ops Q S last fuel is (l.setIfInBounds i true) (a.put o.dst v) w) : TakeSeqL P md ops Q S last fuel (i :: is) l a w := ⟨o, v, ho, hy, h⟩
theorem TakeSeqL.done {fuel : Nat} {l : Array Bool} {a : Act} {w : World} (h : wpAnyL P md ops Q S last fuel l a w) : TakeSeqL P md ops Q S last fuel [] l a w := h
theorem wpAnyL_seq {is : List Nat} {fuel : Nat} {l : Array Bool} {a : Act} {w : World} (hs : Region.noSelect ops = true) (ht : (takeable md ops l is && !is.contains last) = true)
    (hQ : ∀ c a d v w, Q (.panic c) (a.put d v) w → Q (.panic c) a w) (hS : S w) (h : TakeSeqL P md ops Q S last fuel is l a w) : wpAnyL P md ops Q S last (fuel + is.length) l a w := by
  rw [Bool.and_eq_true] at ht
  induction is generalizing l a with
  | nil => exact h
  | cons i is ih =>
    obtain ⟨o, v, ho, hy, h2⟩ := h
    obtain ⟨ht1, ht2⟩ := ht
    simp only [takeable, Bool.and_eq_true] at ht1
    have hne : i ≠ last ∧ (!is.contains last) = true := by
      simp only [List.contains_cons, Bool.not_or, Bool.and_eq_true, Bool.not_eq_true', beq_eq_false_iff_ne] at ht2
      exact ⟨fun he => ht2.1 he.symm, by simpa using ht2.2⟩
    exact wpAnyL_take ho hne.1 hs ht1.1.1 ht1.1.2 (fun c a w => hQ c a o.dst v w) hy hS (ih ⟨ht1.2, hne.2⟩ h2)

/-- Each of the operations 'rs' comes up next. -/
def AllReadyL (P : Program) (md : Region.Mode) (ops : Array Oper) (Q : Exit → Act → World → Prop) (S : World → Prop) (last : Nat) (fuel : Nat) (listed : Array Bool) (a : Act) (w : World) (rs : List Nat) : Prop :=
  ∀ i ∈ rs, wpOp P ops Q i (fun a' w' => (i ≠ last → S w') ∧ wpAnyL P md ops Q S last fuel (listed.setIfInBounds i true) a' w') a w
theorem AllReadyL.nil {fuel : Nat} {listed : Array Bool} {a : Act} {w : World} : AllReadyL P md ops Q S last fuel listed a w [] := fun _ h => by cases h
theorem AllReadyL.cons {fuel : Nat} {listed : Array Bool} {a : Act} {w : World} {i : Nat} {o : Oper} {rs : List Nat} (ho : ops[i]? = some o) (hil : i ≠ last)
    (h : ∀ K' : Act → World → Prop, Shut (∀ a w, S w → (S w → wpAnyL P md ops Q S last fuel (listed.setIfInBounds i true) a w) → K' a w) → if Region.wanted o (yielded ops a.tmps) = true then Oper.wp P o a w K' Q else K' (a.put o.dst undef) w)
    (hs : AllReadyL P md ops Q S last fuel listed a w rs) : AllReadyL P md ops Q S last fuel listed a w (i :: rs) := fun j hj => by
  rcases List.mem_cons.1 hj with rfl | hj
  · exact wpOp_step ho (fun K' hK => h K' (fun a w hS hW => hK a w ⟨fun _ => hS, hW hS⟩))
  · exact hs j hj
theorem AllReadyL.final {fuel : Nat} {listed : Array Bool} {a : Act} {w : World} {o : Oper} (ho : ops[last]? = some o)
    (h : ∀ K' : Act → World → Prop, Shut (∀ a w, wpAnyL P md ops Q S last fuel (listed.setIfInBounds last true) a w → K' a w) → if Region.wanted o (yielded ops a.tmps) = true then Oper.wp P o a w K' Q else K' (a.put o.dst undef) w) :
    AllReadyL P md ops Q S last fuel listed a w [last] := fun j hj => by
  obtain rfl := List.mem_singleton.1 hj
  exact wpOp_step ho (fun K' hK => h K' (fun a w hW => hK a w ⟨fun h => absurd rfl h, hW⟩))
theorem wpAnyL_ready {rs : List Nat} {fuel : Nat} {listed : Array Bool} {a : Act} {w : World} (hr : Region.ready md ops listed = rs) (hne : rs ≠ [])
    (h : AllReadyL P md ops Q S last fuel listed a w rs) : wpAnyL P md ops Q S last (fuel + 1) listed a w := ⟨fun h0 => absurd (hr ▸ h0) hne, fun i hi _ => h i (hr ▸ hi)⟩
end
end Go.Proofs.YtjmpekanlmepmaaGreatDoor
namespace Go.Proofs.YtjmpekanlmepmaaGreatDoor
open Go.RowKit

def ptrCells (l : List Bt.Ptr) : List Value := l.flatMap (fun p => p.cells.toList)
theorem ptrCells_length (l : List Bt.Ptr) : (ptrCells l).length = l.length * 2 := by
  induction l with
  | nil => rfl
  | cons p l ih => simp only [ptrCells, List.flatMap_cons, List.length_append, List.length_cons] at ih ⊢; rw [ih]; simp [Bt.Ptr.cells]; omega
theorem keyCells_length (l : List Int) : (keyCells l).length = l.length * 1 := by simp [keyCells]
def insertK {α : Type} (l : List α) (i : Nat) (a : α) : List α := l.take i ++ a :: l.drop i
theorem insertK_length {α : Type} (l : List α) (i : Nat) (a : α) (h : i ≤ l.length) : (insertK l i a).length = l.length + 1 := by simp [insertK]; omega
theorem keyCells_insert (l : List Int) (a : Int) (i : Nat) : (([] ++ (keyCells l).take (i * 1)) ++ [Value.int .u32 a]) ++ (keyCells l).drop (i * 1) = keyCells (insertK l i a) := by
  simp [keyCells, insertK, List.map_take, List.map_drop]
theorem ptrCells_append (a b : List Bt.Ptr) : ptrCells (a ++ b) = ptrCells a ++ ptrCells b := by simp [ptrCells]
theorem ptrCells_insert (l : List Bt.Ptr) (a : Bt.Ptr) (i : Nat) (h : i ≤ l.length) : (([] ++ (ptrCells l).take (i * 2)) ++ [Value.int .i64 a.line, .int .i64 a.gen]) ++ (ptrCells l).drop (i * 2) = ptrCells (insertK l i a) := by
  have e : ptrCells l = ptrCells (l.take i) ++ ptrCells (l.drop i) := by rw [← ptrCells_append, List.take_append_drop]
  have hl : (ptrCells (l.take i)).length = i * 2 := by rw [ptrCells_length, List.length_take, Nat.min_eq_left h]
  have h1 : (ptrCells l).take (i * 2) = ptrCells (l.take i) := by rw [e, ← hl, List.take_left]
  have h2 : (ptrCells l).drop (i * 2) = ptrCells (l.drop i) := by rw [e, ← hl, List.drop_left]
  rw [h1, h2]
  simp [insertK, ptrCells_append, ptrCells, Bt.Ptr.cells]

theorem infoU32 : (Tryz.prog.info? 52).map (fun i => (i.zero, i.size, i.bytes)) = some (some (.int .u32 0), 1, 4) := by kernel_rfl
theorem infoPtr : (Tryz.prog.info? 27).map (fun i => (i.zero, i.size, i.bytes)) = some (some (.agg #[.int .i64 0, .int .i64 0]), 2, 16) := by kernel_rfl
theorem elemU32 : Tryz.prog.elem 55 = 52 := by kernel_rfl
theorem elemPtr : Tryz.prog.elem 56 = 27 := by kernel_rfl

theorem own_cast {w : World} {base n n' size : Nat} {e : TypeId} {v : Value} {xs xs' : List Value} (h : w.ownsRow base e size v n xs) (hn : n = n') (hx : xs = xs') : w.ownsRow base e size v n' xs' := by subst hn; subst hx; exact h
theorem own_empty {w : World} {base n size : Nat} {e : TypeId} (hn : n = w.heap.size) (hb : base ≤ n) : (w.alloc (.cells #[] e)).ownsRow base e size (.slice (some ⟨n, 0, none⟩) 0 0) 0 [] := by
  subst hn
  exact World.ownsRow_lit w #[] 0 hb (by unfold maxLen; omega) (by simp)
theorem own_overTwo {w w' : World} {base n size x P : Nat} {e : TypeId} {v : Value} {xs : List Value} (h : w.ownsRow base e size v n xs) (ho : OverTwo x P w w') (hx : x < base) (hP : P < base) : w'.ownsRow base e size v n xs := by
  refine ⟨h.1, ?_⟩
  rcases h.2 with h1 | ⟨g, cap, cur, hv, hbg, hg, hr⟩
  · exact .inl h1
  · have hlt : g < w.heap.size := (Array.getElem?_eq_some_iff.1 hg).1
    exact .inr ⟨g, cap, cur, hv, hbg, (ho.block g hlt (by omega) (by omega)).trans hg, hr⟩

section
variable {x P : Nat} {w w1 w2 : World}
theorem OverTwo.refl (x P : Nat) (w : World) : OverTwo x P w w := ⟨rfl, rfl, rfl, Nat.le_refl _, fun _ _ _ _ => rfl⟩
theorem OverTwo.trans (h1 : OverTwo x P w w1) (h2 : OverTwo x P w1 w2) : OverTwo x P w w2 :=
  ⟨h2.os.trans h1.os, h2.tape.trans h1.tape, h2.output.trans h1.output, Nat.le_trans h1.size h2.size, fun j hj hx hP => (h2.block j (Nat.lt_of_lt_of_le hj h1.size) hx hP).trans (h1.block j hj hx hP)⟩
theorem OverTwo.of_below (h : Below w.heap.size w w1) : OverTwo x P w w1 := ⟨h.os, h.tape, h.output, h.size, fun j hj _ _ => h.block j hj⟩
theorem OverTwo.of_left (h : Over x w w1) : OverTwo x P w w1 := ⟨h.os, h.tape, h.output, h.size, fun j hj hx _ => h.block j hj (by simpa using hx)⟩
theorem OverTwo.to_below {w0 : World} (h0 : Below w0.heap.size w0 w) (h : OverTwo x P w w1) (hx : w0.heap.size ≤ x) (hP : w0.heap.size ≤ P) : Below w0.heap.size w0 w1 :=
  ⟨h.os.trans h0.os, h.tape.trans h0.tape, h.output.trans h0.output, Nat.le_trans h0.size h.size, fun j hj => (h.block j (Nat.lt_of_lt_of_le hj h0.size) (by omega) (by omega)).trans (h0.block j hj)⟩
end

/-- An index: its pages, its next fresh place, its keys and pointers. -/
structure IxOk (x P cap : Nat) (pages : List Bt.Page) (next : Int) (keys : List Int) (tos : List Bt.Ptr) (vk vt vg : Value) (w : World) : Prop where
  blk : Blk w x 58 (ixCells P pages.length cap next vk vt vg)
  pg : PagesAt P cap pages w
  keys : w.ownsRow (x + 1) 52 1 vk keys.length (keyCells keys)
  tos : w.ownsRow (x + 1) 27 2 vt tos.length (ptrCells tos)
  none : NoneAt w
  hPx : P < x
  hgP : 0 < P
def IxAt (x P cap : Nat) (pages : List Bt.Page) (next : Int) (keys : List Int) (tos : List Bt.Ptr) (w : World) : Prop := ∃ vk vt vg, IxOk x P cap pages next keys tos vk vt vg w

theorem PagesAt.two {x P cap : Nat} {pages : List Bt.Page} {w w' : World} (h : PagesAt P cap pages w) (ho : ∀ j, j = P → w'.heap[j]? = w.heap[j]?) (hs : w.heap.size ≤ w'.heap.size) : PagesAt P cap pages w' := by
  have hb := ho P rfl
  refine ⟨⟨h.row.ok, h.row.len, ?_⟩, fun i => ?_, Nat.lt_of_lt_of_le h.lt hs, by obtain ⟨cs, hc⟩ := h.blk; exact ⟨cs, hb.trans hc⟩⟩
  · rcases h.row.form with h1 | ⟨c, cp, hv, hlt, hcells⟩
    · exact .inl h1
    · refine .inr ⟨c, cp, hv, Nat.lt_of_lt_of_le hlt hs, fun i p hi j v hv2 => ?_⟩
      simp only [Value.slice.injEq, Option.some.injEq, Addr.mk.injEq, and_true, true_and] at hv
      obtain ⟨rfl, rfl⟩ := hv
      have := hcells i p hi j v hv2
      simpa only [World.cell?, hb] using this
  · have := h.free i
    simpa only [World.frozen?, hb] using this
theorem IxOk.over {x P cap : Nat} {pages : List Bt.Page} {next : Int} {keys : List Int} {tos : List Bt.Ptr} {vk vt vg : Value} {w w' : World} (h : IxOk x P cap pages next keys tos vk vt vg w) (hb : Below w.heap.size w w') : IxOk x P cap pages next keys tos vk vt vg w' :=
  ⟨h.blk.kept hb, h.pg.two (x := x) (fun j hj => by subst hj; exact hb.block _ h.pg.lt) hb.size, own_below h.keys hb, own_below h.tos hb, h.none.below hb, h.hPx, h.hgP⟩
theorem IxAt.over {x P cap : Nat} {pages : List Bt.Page} {next : Int} {keys : List Int} {tos : List Bt.Ptr} {w w' : World} (h : IxAt x P cap pages next keys tos w) (hb : Below w.heap.size w w') : IxAt x P cap pages next keys tos w' := by
  obtain ⟨vk, vt, vg, h⟩ := h
  exact ⟨vk, vt, vg, h.over hb⟩

/-- An operation on an index is over: the new pages, the result. -/
def RunIx (x P cap : Nat) (pages : List Bt.Page) (next : Int) (keys : List Int) (tos : List Bt.Ptr) (o : Bt.Out) (w : World) (e : Ending) (w' : World) : Prop :=
  ∃ ve vc, e = .returned (.tuple #[.agg (outCells o ve vc), .bool true]) ∧ IxAt x P cap pages next keys tos w' ∧ OverTwo x P w w' ∧
    w'.ownsRow w.heap.size 69 3 ve o.entries.length (entCells o.entries) ∧ w'.ownsRow w.heap.size 3 1 vc o.check.length (intCells o.check)
theorem RunIx.of {x P cap n : Nat} {pages pages' : List Bt.Page} {next next' : Int} {keys : List Int} {tos : List Bt.Ptr} {vk vt vg : Value} {o : Bt.Out} {w : World} {e : Ending} {w' : World} (h : IxOk x P cap pages next keys tos vk vt vg w)
    (hl : pages'.length = pages.length) (hp : IxPost x P cap pages' next' vk vt vg o w e w') : RunIx x P cap pages' next' keys tos o w e w' := by
  obtain ⟨ve, vc, he, hb, hpg, ho, hn, hre, hrc⟩ := hp
  exact ⟨ve, vc, he, ⟨vk, vt, vg, hb, hpg, own_overTwo h.keys ho (by omega) (by have := h.hPx; omega), own_overTwo h.tos ho (by omega) (by have := h.hPx; omega), hn, h.hPx, h.hgP⟩, ho, hre, hrc⟩
end Go.Proofs.YtjmpekanlmepmaaGreatDoor
