/- A region that draws its order, walked once by an invariant: whatever has been done already, each operation whose forerunners are done keeps it. -/
import Derived.Test.YtfpmmmhnnbanbaaGreatDoorK
import Derived.Orders
namespace Go.Proofs.YtfpmmmhnnbanbaaGreatDoor
open Go.RowKit

/-- What is done, and operation i besides. -/
def plus (D : Nat → Bool) (i : Nat) : Nat → Bool := fun j => j == i || D j
theorem plus_self (D : Nat → Bool) (i : Nat) : plus D i i = true := by simp [plus]
theorem plus_other (D : Nat → Bool) (i j : Nat) (h : j ≠ i) : plus D i j = D j := by simp [plus, h]
theorem plus_of (D : Nat → Bool) (i j : Nat) (h : D j = true) : plus D i j = true := by simp [plus, h]

/-- Every binding edge leads back. -/
def edgesBack (ops : Array Oper) : Bool := (List.range ops.size).all fun i => ((ops[i]?).map fun o => o.after.all fun e => !Region.binds .any e || decide (e.on < i)).getD true

theorem wpAny_inv {P : Program} {ops : Array Oper} {Q : Exit → Act → World → Prop} {I : (Nat → Bool) → Act → World → Prop} (hb : edgesBack ops = true)
    (hstep : ∀ D a w, I D a w → ∀ i o, ops[i]? = some o → D i = false → (∀ e ∈ o.after, Region.binds .any e = true → D e.on = true) → ∀ K : Act → World → Prop, (∀ a' w', I (plus D i) a' w' → K a' w') → wpOp P ops Q i K a w)
    (hend : ∀ D a w, I D a w → (∀ i, i < ops.size → D i = true) → Q .normal a w) :
    ∀ (fuel : Nat) (listed : Array Bool) (a : Act) (w : World), listed.size = ops.size → (listed.toList.filter (!·)).length ≤ fuel → I (fun j => listed.getD j false) a w → wpAny P .any ops Q fuel listed a w := by
  have hall : ∀ listed : Array Bool, listed.size = ops.size → Region.ready .any ops listed = [] → ∀ i, i < ops.size → listed.getD i false = true := by
    intro listed hsz hr i
    induction i using Nat.strongRecOn with
    | _ i ih =>
      intro hi
      rcases hv : listed.getD i false with _ | _
      · exfalso
        have hmem : i ∈ Region.ready .any ops listed := by
          unfold Region.ready
          rw [List.mem_filter]
          refine ⟨List.mem_range.2 hi, ?_⟩
          have h1 : listed.getD i true = false := by
            rw [Array.getD_eq_getD_getElem?] at hv ⊢
            rw [Array.getElem?_eq_getElem (by omega)] at hv ⊢
            simpa using hv
          have h2 : ops[i]? = some ops[i] := Array.getElem?_eq_getElem hi
          rw [h1, h2]
          simp only [Bool.not_false, Option.map_some, Option.getD_some, Bool.true_and, Array.all_eq_true_iff_forall_mem]
          intro e he
          rcases hbd : Region.binds .any e with _ | _
          · simp
          · have hlt : e.on < i := by
              have := List.all_eq_true.1 hb i (List.mem_range.2 hi)
              rw [h2] at this
              simp only [Option.map_some, Option.getD_some, Array.all_eq_true_iff_forall_mem] at this
              simpa [hbd] using this e he
            simp [ih e.on hlt (by omega)]
        rw [hr] at hmem
        simp at hmem
      · rfl
  intro fuel
  induction fuel with
  | zero =>
    intro listed a w hsz hf hI
    have hr : Region.ready .any ops listed = [] := by
      rw [List.eq_nil_iff_forall_not_mem]
      intro i hi
      unfold Region.ready at hi
      rw [List.mem_filter] at hi
      have hlt := List.mem_range.1 hi.1
      have h1 := (Bool.and_eq_true_iff.1 hi.2).1
      have hlt' : i < listed.size := by omega
      have h3 : listed[i] = false := by
        rw [Array.getD_eq_getD_getElem?, Array.getElem?_eq_getElem hlt'] at h1
        simpa using h1
      have : false ∈ listed.toList.filter (!·) := List.mem_filter.2 ⟨by rw [← h3]; exact Array.getElem_mem_toList hlt', rfl⟩
      rw [List.length_eq_zero_iff.1 (Nat.le_zero.1 hf)] at this
      simp at this
    exact ⟨hr, hend _ a w hI (hall listed hsz hr)⟩
  | succ fuel ih =>
    intro listed a w hsz hf hI
    refine ⟨fun hr => hend _ a w hI (hall listed hsz hr), fun i hi => ?_⟩
    unfold Region.ready at hi
    rw [List.mem_filter] at hi
    have hlt := List.mem_range.1 hi.1
    have hlt' : i < listed.size := by omega
    obtain ⟨h1, h2⟩ := Bool.and_eq_true_iff.1 hi.2
    have h3 : listed[i] = false := by
      rw [Array.getD_eq_getD_getElem?, Array.getElem?_eq_getElem hlt'] at h1
      simpa using h1
    have ho : ops[i]? = some ops[i] := Array.getElem?_eq_getElem hlt
    refine hstep _ a w hI i ops[i] ho (by rw [Array.getD_eq_getD_getElem?, Array.getElem?_eq_getElem hlt']; simpa using h3) (fun e he hbd => ?_) _ (fun a' w' hI' => ih (listed.setIfInBounds i true) a' w' (by simpa using hsz) ?_ ?_)
    · rw [ho] at h2
      simp only [Option.map_some, Option.getD_some, Array.all_eq_true_iff_forall_mem] at h2
      simpa [hbd] using h2 e he
    · have hcount : ∀ (l : List Bool) (k : Nat) (hk : k < l.length), l[k] = false → ((l.set k true).filter (!·)).length + 1 = (l.filter (!·)).length := by
        intro l
        induction l with
        | nil => intro k hk; simp at hk
        | cons x l ihl =>
          intro k hk hx
          match k with
          | 0 => simp at hx; subst hx; simp
          | k + 1 =>
            have := ihl k (by simpa using hk) (by simpa using hx)
            simp only [List.set_cons_succ, List.filter_cons]
            split
            · simp only [List.length_cons]; omega
            · exact this
      have := hcount listed.toList i (by simpa using hlt') (by simpa using h3)
      rw [Array.toList_setIfInBounds]
      omega
    · have hfun : (fun j => (listed.setIfInBounds i true).getD j false) = plus (fun j => listed.getD j false) i := by
        funext j
        by_cases hj : i = j
        · subst hj; simp [plus, hlt']
        · have hj' : ¬ j = i := fun e => hj e.symm
          simp [plus, hj, hj']
      rw [hfun]
      exact hI'

theorem wp_region_inv {P : Program} {ops : Array Oper} {Q : Exit → Act → World → Prop} {a : Act} {w : World} {id : Nat} (I : (Nat → Bool) → Act → World → Prop) (hm : P.follows .mixedOrders = true) (hb : edgesBack ops = true)
    (hstart : I (fun _ => false) a w.drew)
    (hstep : ∀ D a w, I D a w → ∀ i o, ops[i]? = some o → D i = false → (∀ e ∈ o.after, Region.binds .any e = true → D e.on = true) → ∀ K : Act → World → Prop, (∀ a' w', I (plus D i) a' w' → K a' w') → wpOp P ops Q i K a w)
    (hend : ∀ D a w, I D a w → (∀ i, i < ops.size → D i = true) → Q .normal a w) : (Code.region id ops true).wp P Q a w := by
  refine wp_region_any hm (wpAny_inv hb hstep hend ops.size _ a w.drew (by simp) ?_ ?_)
  · refine Nat.le_trans (List.length_filter_le _ _) (by simp)
  · have : (fun j => (Array.replicate ops.size false).getD j false) = fun _ => false := by
      funext j
      rw [Array.getD_eq_getD_getElem?, Array.getElem?_replicate]
      split <;> rfl
    rw [this]
    exact hstart

/-- An operation without a guard. -/
theorem wpOp_plain {P : Program} {ops : Array Oper} {Q : Exit → Act → World → Prop} {i : Nat} {o : Oper} {K : Act → World → Prop} {a : Act} {w : World} (ho : ops[i]? = some o) (hg : o.guard = none) (h : o.wp P a w K Q) : wpOp P ops Q i K a w := by
  unfold wpOp
  rw [ho]
  simp only [Region.wanted, hg, if_true]
  exact .inl h

/-- One slot turned. -/
def upd (u : Nat → Value) (s : Nat) (v : Value) : Nat → Value := fun k => if k = s then v else u k
theorem upd_same (u : Nat → Value) (s : Nat) (v : Value) : upd u s v s = v := by simp [upd]
theorem upd_other (u : Nat → Value) (s k : Nat) (v : Value) (h : k ≠ s) : upd u s v k = u k := by simp [upd, h]

/-- Whatever is done, its forerunners are done. -/
def Closed (ops : Array Oper) (D : Nat → Bool) : Prop := ∀ j o, ops[j]? = some o → D j = true → ∀ e ∈ o.after, Region.binds .any e = true → D e.on = true
/-- Where operation i is still to come, whatever must come behind it is still to come. -/
theorem Closed.later {ops : Array Oper} {D : Nat → Bool} (h : Closed ops D) {i j : Nat} {o : Oper} (ho : ops[j]? = some o) (hi : D i = false) {e : Edge} (he : e ∈ o.after) (hb : Region.binds .any e = true) (hon : e.on = i) : D j = false := by
  rcases hj : D j with _ | _
  · rfl
  · have := h j o ho hj e he hb
    rw [hon, hi] at this
    exact absurd this (by simp)

/-- What the slots hold once their operations are done: R j v w: operation j has yielded v. C: what is known besides. -/
def Inv (ops : Array Oper) (F : (Nat → Value) → Array Value) (slot : Nat → Nat) (R : (Nat → Bool) → Nat → Value → World → Prop) (C : (Nat → Bool) → (Nat → Value) → World → Prop) (D : Nat → Bool) (a : Act) (w : World) : Prop :=
  Closed ops D ∧ ∃ u : Nat → Value, a = { tmps := F u, defers := [] } ∧ C D u w ∧ ∀ j, D j = true → R D j (u (slot j)) w

/-- What is known of the operations' values as long as operation k is still to come. -/
def till (k : Nat) (R : Nat → Value → World → Prop) : (Nat → Bool) → Nat → Value → World → Prop := fun D j v w => D k = false → R j v w
/-- Behind operation i: it has yielded v in w'; what the others have yielded is as it was. -/
def Next (slot : Nat → Nat) (R : (Nat → Bool) → Nat → Value → World → Prop) (C : (Nat → Bool) → (Nat → Value) → World → Prop) (D : Nat → Bool) (u : Nat → Value) (i : Nat) (w : World) (v : Value) (w' : World) : Prop :=
  R (plus D i) i v w' ∧ C (plus D i) (upd u (slot i) v) w' ∧ ∀ j x, R D j x w → R (plus D i) j x w'

theorem wp_region_values {P : Program} {ops : Array Oper} {Q : Exit → Act → World → Prop} {w : World} {id : Nat} (F : (Nat → Value) → Array Value) (slot : Nat → Nat)
    (R : (Nat → Bool) → Nat → Value → World → Prop) (C : (Nat → Bool) → (Nat → Value) → World → Prop) (u0 : Nat → Value)
    (hm : P.follows .mixedOrders = true) (hb : edgesBack ops = true) (hinj : ∀ i j, i < ops.size → j ≠ i → slot j ≠ slot i) (hC : C (fun _ => false) u0 w.drew)
    (hstep : ∀ i o, ops[i]? = some o → ∀ D u w, Closed ops D → D i = false → C D u w → (∀ e ∈ o.after, Region.binds .any e = true → D e.on = true ∧ R D e.on (u (slot e.on)) w) →
      ∀ K : Act → World → Prop, (∀ v w', Next slot R C D u i w v w' → K { tmps := F (upd u (slot i) v), defers := [] } w') → wpOp P ops Q i K { tmps := F u, defers := [] } w)
    (hend : ∀ D u w, C D u w → (∀ i, i < ops.size → D i = true ∧ R D i (u (slot i)) w) → Q .normal { tmps := F u, defers := [] } w) :
    (Code.region id ops true).wp P Q { tmps := F u0, defers := [] } w := by
  refine wp_region_inv (Inv ops F slot R C) hm hb ⟨fun _ _ _ h => by simp at h, u0, rfl, hC, fun _ h => by simp at h⟩ ?_ ?_
  · rintro D a w ⟨hcl, u, rfl, hc, hr⟩ i o ho hni hpre K hK
    refine hstep i o ho D u w hcl hni hc (fun e he hbd => ⟨hpre e he hbd, hr _ (hpre e he hbd)⟩) K fun v w' ⟨h1, h2, h3⟩ => hK _ _ ⟨fun j o' ho' hj e he hbd => ?_, _, rfl, h2, fun j hj => ?_⟩
    · by_cases hji : j = i
      · subst hji
        rw [ho] at ho'
        obtain rfl := Option.some.inj ho'
        exact plus_of D j e.on (hpre e he hbd)
      · rw [plus_other D i j hji] at hj
        exact plus_of D i e.on (hcl j o' ho' hj e he hbd)
    · by_cases hji : j = i
      · subst hji
        rw [upd_same]
        exact h1
      · rw [upd_other _ _ _ _ (hinj i j (Array.getElem?_eq_some_iff.1 ho).1 hji)]
        rw [plus_other D i j hji] at hj
        exact h3 _ _ (hr j hj)
  · rintro D a w ⟨_, u, rfl, hc, hr⟩ hall
    exact hend D u w hc fun i hi => ⟨hall i hi, hr i (hall i hi)⟩

end Go.Proofs.YtfpmmmhnnbanbaaGreatDoor
