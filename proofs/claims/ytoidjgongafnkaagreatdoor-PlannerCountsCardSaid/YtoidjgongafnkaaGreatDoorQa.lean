/- Small facts about memory that all walks of this seat use: a block that is known whole, and what lies below a mark. A region that draws its order, walked once by an invariant: whatever has been done already, each operation whose forerunners are done keeps it. Small laws on memory, rows and regions that all walks of this seat use. A region that draws its order, whose one operation 'last' waits for all others: what its loads read need hold till then only ('v.x = append(v.x, ..)' through a pointer). -/
import Derived.Test.YtoidjgongafnkaaGreatDoorRows
import Derived.WalkKit
import Derived.WalkSpells
import Derived.WalkLawsBesides
import Derived.Deep.DeepFit
import Derived.Deep.RegionWith
import Derived.Deep.QuietTactic
import Derived.BigQuiet
import Derived.Lib.Hide
import Derived.Deep.Draws
import Derived.Laws.ResultCell
import Derived.Orders
import Derived.Deep.RegionHeld3
import Derived.Laws.Tables
import Derived.Laws.CopyRow
import Derived.Laws.BitsAllLaws
import Derived.Deep.DeepCutAuto
set_option linter.unusedVariables false
set_option linter.unusedSimpArgs false
set_option linter.unusedSectionVars false
set_option linter.constructorNameAsVariable false
namespace Go.Proofs.YtoidjgongafnkaaGreatDoor
open Go.RowKit

/-- A goal at which the walk is to stand still: 'go_wp2_with (at_builtin; refine halt ?_)', then 'refine unhalt ?_'. -/
def Halt (p : Prop) : Prop := p
theorem halt {p : Prop} (h : Halt p) : p := h
theorem unhalt {p : Prop} (h : p) : Halt p := h

/-- Block b holds just these cells, none of them frozen. -/
def Blk (w : World) (b : Nat) (t : TypeId) (cs : Array Value) : Prop := w.heap[b]? = some (.cells cs t (0, 0))

section
variable {w w' : World} {b : Nat} {t : TypeId} {cs : Array Value}

theorem Blk.lt (h : Blk w b t cs) : b < w.heap.size := by
  by_cases hb : b < w.heap.size
  · exact hb
  · unfold Blk at h
    rw [Array.getElem?_eq_none (by omega)] at h
    exact absurd h (by simp)
theorem Blk.cell (h : Blk w b t cs) : ∀ i, w.cell? ⟨b, i, none⟩ = cs[i]? := fun i => cell_of_row w b i cs t (0, 0) h
theorem Blk.free (h : Blk w b t cs) : ∀ i, w.frozen? ⟨b, i, none⟩ = false := fun i => frozen_of_row w b i cs t h
theorem Blk.made (w : World) (t : TypeId) (cs : Array Value) : Blk (w.alloc (.cells cs t)) w.heap.size t cs := heap_alloc_new w _
theorem Blk.made' {n : Nat} (hn : n = w.heap.size) : Blk (w.alloc (.cells cs t)) n t cs := by subst hn; exact Blk.made w t cs
theorem Blk.alloc (h : Blk w b t cs) (o : Obj) : Blk (w.alloc o) b t cs := (Below.heap_alloc w o b h.lt).trans h
theorem Blk.drew (h : Blk w b t cs) : Blk w.drew b t cs := h
theorem Blk.drewN (h : Blk w b t cs) (n : Nat) : Blk (w.drewN n) b t cs := h
theorem Blk.put (h : Blk w b t cs) (i : Nat) (v : Value) : Blk (w.setCell ⟨b, i, none⟩ v) b t (cs.setIfInBounds i v) := heap_setCell_same w b i cs t v h
theorem Blk.aside (h : Blk w b t cs) {p : Addr} (hp : b ≠ p.block) (v : Value) : Blk (w.setCell p v) b t cs := (heap_setCell_other w p b v hp).trans h
theorem Blk.below {B : Nat} (h : Blk w b t cs) (hb : Below B w w') (hlt : b < B) : Blk w' b t cs := (hb.block b hlt).trans h
theorem Blk.kept (h : Blk w b t cs) (hb : Below w.heap.size w w') : Blk w' b t cs := h.below hb h.lt
theorem Blk.grown {row : Option Nat} (h : Blk w b t cs) (hg : w.grownBy w' row) (hr : some b ≠ row) : Blk w' b t cs := (hg.block b h.lt hr).trans h
end

/-- What lay below a mark reads as it did: two rules for the walk. -/
theorem below_rules {w w1 : World} (hb : Below w.heap.size w w1) : (∀ b o, b < w.heap.size → w1.cell? ⟨b, o, none⟩ = w.cell? ⟨b, o, none⟩) ∧ (∀ b o, b < w.heap.size → w1.frozen? ⟨b, o, none⟩ = w.frozen? ⟨b, o, none⟩) :=
  ⟨fun b o h => hb.cell (p := ⟨b, o, none⟩) h, fun b o h => hb.frozen (p := ⟨b, o, none⟩) h⟩

theorem below_alloc {w w1 : World} (h : Below w.heap.size w w1) (o : Obj) : Below w.heap.size w (w1.alloc o) := h.alloc h.size o
theorem below_drewN {B : Nat} {w w1 : World} (h : Below B w w1) (n : Nat) : Below B w (w1.drewN n) := ⟨h.os, h.tape, h.output, h.size, h.block⟩
theorem below_step {w w1 w2 : World} (h : Below w.heap.size w w1) (h2 : Below w1.heap.size w1 w2) : Below w.heap.size w w2 := h.trans (h2.mono h.size)

/-- A function that hands back a struct (which lies in a variable) and a plain value. -/
theorem results_blk_tmp {P : Program} {fn : Func} {p u : Tmp} {ty : TypeId} (h : fn.results = #[.cell p ty, .tmp u]) (tmps : Array Value) (w : World) (g : Nat) (t : TypeId) (cs : Array Value) (d : TypeDesc)
    (hp : tmps.getD p undef = .pointer (some ⟨g, 0, none⟩)) (hg : Blk w g t cs) (hu : P.underlying ty = some d) (hd : (match d with | .struct _ | .array _ _ => true | _ => false) = true) (hi : (P.info? ty).map (·.size) = some cs.size) :
    (results fn tmps).run P w = .ok (.tuple #[.agg cs, tmps.getD u undef]) w := by
  rw [results_cell_tmp h, hp]
  simp [asAddr, run_loadVar_row w g t ty cs (0, 0) d hg hu hd hi]

theorem below_grown {w w1 w2 : World} {row : Option Nat} (h : Below w.heap.size w w1) (hg : w1.grownBy w2 row) (hr : ∀ k, row = some k → w.heap.size ≤ k) : Below w.heap.size w w2 := h.grown hg h.size hr

/-- A row of the call's own, its slice written out. -/
theorem own_cells {w : World} {base g n cap size : Nat} {e : TypeId} {xs : List Value} (h : w.ownsRow base e size (.slice (some ⟨g, 0, none⟩) n cap) n xs) : ∀ j u, xs[j]? = some u → w.cell? ⟨g, j, none⟩ = some u := by
  intro j u hu
  have hj : j < xs.length := (List.getElem?_eq_some_iff.1 hu).1
  rw [h.cellAt j (by rw [← h.1]; exact hj)]
  exact hu
theorem own_lt {w : World} {base g n cap size : Nat} {e : TypeId} {xs : List Value} (h : w.ownsRow base e size (.slice (some ⟨g, 0, none⟩) n cap) n xs) : base ≤ g ∧ g < w.heap.size := h.lt g rfl
theorem own_cap {w : World} {base g n cap size : Nat} {e : TypeId} {xs : List Value} (h : w.ownsRow base e size (.slice (some ⟨g, 0, none⟩) n cap) n xs) : n ≤ cap ∧ cap ≤ maxLen := by
  rcases h.2 with ⟨h', _⟩ | ⟨g', cap', cur, h', _, _, h1, h2, _⟩
  · simp at h'
  · simp only [Value.slice.injEq, Option.some.injEq, Addr.mk.injEq, and_true, true_and] at h'
    obtain ⟨rfl, rfl⟩ := h'
    exact ⟨h1, h2⟩
theorem own_form {w : World} {base n size : Nat} {e : TypeId} {v : Value} {xs : List Value} (h : w.ownsRow base e size v n xs) (hn : 0 < n) : ∃ g cap, v = .slice (some ⟨g, 0, none⟩) n cap := by
  rcases h.2 with ⟨_, h0⟩ | ⟨g, cap, _, hv, _⟩
  · omega
  · exact ⟨g, cap, hv⟩

/-- An append of at least one element onto a row of the call's own: the slice that comes of it is written out. -/
theorem wpList_append_mine {P : Program} {w : World} {ops : Array Oper} {rest : List Oper} {o : Oper} {a : Act} {Q : Exit → Act → World → Prop} (hgd : o.guard = none) (s x : Operand) (t : TypeId)
    (ho : o.op = .call { callee := .builtin .append, args := #[s, x], argTypes := #[t, t] })
    (base : Nat) (e : TypeId) (i : TypeInfo) (z : Value) (size bytes : Nat) (ht : P.underlying t = some (.slice e)) (hi : P.info? e = some i) (hz : i.zero = some z)
    (hsize : i.size = size) (hby : i.bytes = bytes) (hzs : z.cells.size = size) (hsz : 0 < size)
    (v : Value) (n : Nat) (xs : List Value) (hs : a.eval s = v) (hown : w.ownsRow base e size v n xs)
    (ad : Addr) (m c : Nat) (news : List Value) (hx : a.eval x = .slice (some ad) m c) (hl : news.length = m * size) (hnews : ∀ j u, news[j]? = some u → w.cell? (ad.add j) = some u) (h1 : ∀ u ∈ news, u.oneCell' = true)
    (hm : 0 < m) (h63 : n + m ≤ maxLen) (hbytes : (n + m) * bytes ≤ 140737488355328) (hbase : base ≤ w.heap.size)
    (h : ∀ g cap w', w'.ownsRow base e size (.slice (some ⟨g, 0, none⟩) (n + m) cap) (n + m) (xs ++ news) → w.grownBy w' v.ownBlock → wpList P ops Q rest (a.put o.dst (.slice (some ⟨g, 0, none⟩) (n + m) cap)) w') : wpList P ops Q (o :: rest) a w :=
  wpList_append_own w hgd s x t ho base e i z size bytes ht hi hz hsize hby hzs hsz v n xs hs hown ad m c news hx hl hnews h1 h63 hbytes hbase fun v' w' h2 h3 _ => by
    obtain ⟨g, cap, rfl⟩ := own_form h2 (by omega)
    exact h g cap w' h2 h3

theorem wp_append_mine {P : Program} {w : World} {o : Oper} {a : Act} {K : Act → World → Prop} {Q : Exit → Act → World → Prop} (s x : Operand) (t : TypeId)
    (ho : o.op = .call { callee := .builtin .append, args := #[s, x], argTypes := #[t, t] })
    (base : Nat) (e : TypeId) (i : TypeInfo) (z : Value) (size bytes : Nat) (ht : P.underlying t = some (.slice e)) (hi : P.info? e = some i) (hz : i.zero = some z)
    (hsize : i.size = size) (hby : i.bytes = bytes) (hzs : z.cells.size = size) (hsz : 0 < size)
    (v : Value) (n : Nat) (xs : List Value) (hs : a.eval s = v) (hown : w.ownsRow base e size v n xs)
    (ad : Addr) (m c : Nat) (news : List Value) (hx : a.eval x = .slice (some ad) m c) (hl : news.length = m * size) (hnews : ∀ j u, news[j]? = some u → w.cell? (ad.add j) = some u) (h1 : ∀ u ∈ news, u.oneCell' = true)
    (hm : 0 < m) (h63 : n + m ≤ maxLen) (hbytes : (n + m) * bytes ≤ 140737488355328) (hbase : base ≤ w.heap.size)
    (h : ∀ g cap w', w'.ownsRow base e size (.slice (some ⟨g, 0, none⟩) (n + m) cap) (n + m) (xs ++ news) → w.grownBy w' v.ownBlock → K (a.put o.dst (.slice (some ⟨g, 0, none⟩) (n + m) cap)) w') : o.wp P a w K Q :=
  wp_append_own w s x t ho base e i z size bytes ht hi hz hsize hby hzs hsz v n xs hs hown ad m c news hx hl hnews h1 h63 hbytes hbase fun v' w' h2 h3 _ => by
    obtain ⟨g, cap, rfl⟩ := own_form h2 (by omega)
    exact h g cap w' h2 h3

theorem one_news {w : World} {b : Nat} {u : Value} (h : w.cell? ⟨b, 0, none⟩ = some u) : ∀ j v, [u][j]? = some v → w.cell? ((⟨b, 0, none⟩ : Addr).add j) = some v := by
  intro j v hv
  match j with
  | 0 => simp at hv; subst hv; exact h
  | j + 1 => simp at hv

theorem tmod_emod_self (n k : Int) : n.tmod k % k = n % k := by
  have h := Int.mul_tdiv_add_tmod n k
  conv => rhs; rw [← h]
  rw [Int.add_emod, Int.mul_emod_right, Int.zero_add, Int.emod_emod]

theorem ret_int {k : IntKind} {a b : Int} (h : a = b) : Ending.returned (.int k a) = .returned (.int k b) := by rw [h]

end Go.Proofs.YtoidjgongafnkaaGreatDoor
namespace Go.Proofs.YtoidjgongafnkaaGreatDoor
open Go.RowKit

/-- What is done, and operation i besides. -/
def plus (D : Nat → Bool) (i : Nat) : Nat → Bool := fun j => j == i || D j
theorem plus_self (D : Nat → Bool) (i : Nat) : plus D i i = true := by simp [plus]
theorem plus_other (D : Nat → Bool) (i j : Nat) (h : j ≠ i) : plus D i j = D j := by simp [plus, h]
theorem plus_of (D : Nat → Bool) (i j : Nat) (h : D j = true) : plus D i j = true := by simp [plus, h]

/-- Every binding edge leads back. -/
def edgesBack (ops : Array Oper) : Bool := (List.range ops.size).all fun i => ((ops[i]?).map fun o => o.after.all fun e => !Region.binds .any e || decide (e.on < i)).getD true

theorem wpAny_inv {P : Program} {ops : Array Oper} {Q : Exit → Act → World → Prop} {I : (Nat → Bool) → Act → World → Prop} (hb : edgesBack ops = true)
    (hstep : ∀ D a w, I D a w → ∀ i o, ops[i]? = some o → D i = false → (∀ e ∈ o.after, Region.binds .any e = true → D e.on = true) → ∀ K : Act → World → Prop, (∀ a' w', I (plus D i) a' w' → K a' w') → wpOp P ops Q i K a w)
    (hend : ∀ D a w, I D a w → (∀ i, i < ops.size → D i = true) → Q .normal a w) :
    ∀ (fuel : Nat) (listed : Array Bool) (a : Act) (w : World), listed.size = ops.size → (listed.toList.filter (!·)).length ≤ fuel → I (fun j => listed.getD j false) a w → wpAny P .any ops Q fuel listed a w := by
  have hall : ∀ listed : Array Bool, listed.size = ops.size → Region.ready .any ops listed = [] → ∀ i, i < ops.size → listed.getD i false = true := by
    intro listed hsz hr i
    induction i using Nat.strongRecOn with
    | _ i ih =>
      intro hi
      rcases hv : listed.getD i false with _ | _
      · exfalso
        have hmem : i ∈ Region.ready .any ops listed := by
          unfold Region.ready
          rw [List.mem_filter]
          refine ⟨List.mem_range.2 hi, ?_⟩
          have h1 : listed.getD i true = false := by
            rw [Array.getD_eq_getD_getElem?] at hv ⊢
            rw [Array.getElem?_eq_getElem (by omega)] at hv ⊢
            simpa using hv
          have h2 : ops[i]? = some ops[i] := Array.getElem?_eq_getElem hi
          rw [h1, h2]
          simp only [Bool.not_false, Option.map_some, Option.getD_some, Bool.true_and, Array.all_eq_true_iff_forall_mem]
          intro e he
          rcases hbd : Region.binds .any e with _ | _
          · simp
          · have hlt : e.on < i := by
              have := List.all_eq_true.1 hb i (List.mem_range.2 hi)
              rw [h2] at this
              simp only [Option.map_some, Option.getD_some, Array.all_eq_true_iff_forall_mem] at this
              simpa [hbd] using this e he
            simp [ih e.on hlt (by omega)]
        rw [hr] at hmem
        simp at hmem
      · rfl
  intro fuel
  induction fuel with
  | zero =>
    intro listed a w hsz hf hI
    have hr : Region.ready .any ops listed = [] := by
      rw [List.eq_nil_iff_forall_not_mem]
      intro i hi
      unfold Region.ready at hi
      rw [List.mem_filter] at hi
      have hlt := List.mem_range.1 hi.1
      have h1 := (Bool.and_eq_true_iff.1 hi.2).1
      have hlt' : i < listed.size := by omega
      have h3 : listed[i] = false := by
        rw [Array.getD_eq_getD_getElem?, Array.getElem?_eq_getElem hlt'] at h1
        simpa using h1
      have : false ∈ listed.toList.filter (!·) := List.mem_filter.2 ⟨by rw [← h3]; exact Array.getElem_mem_toList hlt', rfl⟩
      rw [List.length_eq_zero_iff.1 (Nat.le_zero.1 hf)] at this
      simp at this
    exact ⟨hr, hend _ a w hI (hall listed hsz hr)⟩
  | succ fuel ih =>
    intro listed a w hsz hf hI
    refine ⟨fun hr => hend _ a w hI (hall listed hsz hr), fun i hi => ?_⟩
    unfold Region.ready at hi
    rw [List.mem_filter] at hi
    have hlt := List.mem_range.1 hi.1
    have hlt' : i < listed.size := by omega
    obtain ⟨h1, h2⟩ := Bool.and_eq_true_iff.1 hi.2
    have h3 : listed[i] = false := by
      rw [Array.getD_eq_getD_getElem?, Array.getElem?_eq_getElem hlt'] at h1
      simpa using h1
    have ho : ops[i]? = some ops[i] := Array.getElem?_eq_getElem hlt
    refine hstep _ a w hI i ops[i] ho (by rw [Array.getD_eq_getD_getElem?, Array.getElem?_eq_getElem hlt']; simpa using h3) (fun e he hbd => ?_) _ (fun a' w' hI' => ih (listed.setIfInBounds i true) a' w' (by simpa using hsz) ?_ ?_)
    · rw [ho] at h2
      simp only [Option.map_some, Option.getD_some, Array.all_eq_true_iff_forall_mem] at h2
      simpa [hbd] using h2 e he
    · have hcount : ∀ (l : List Bool) (k : Nat) (hk : k < l.length), l[k] = false → ((l.set k true).filter (!·)).length + 1 = (l.filter (!·)).length := by
        intro l
        induction l with
        | nil => intro k hk; simp at hk
        | cons x l ihl =>
          intro k hk hx
          match k with
          | 0 => simp at hx; subst hx; simp
          | k + 1 =>
            have := ihl k (by simpa using hk) (by simpa using hx)
            simp only [List.set_cons_succ, List.filter_cons]
            split
            · simp only [List.length_cons]; omega
            · exact this
      have := hcount listed.toList i (by simpa using hlt') (by simpa using h3)
      rw [Array.toList_setIfInBounds]
      omega
    · have hfun : (fun j => (listed.setIfInBounds i true).getD j false) = plus (fun j => listed.getD j false) i := by
        funext j
        by_cases hj : i = j
        · subst hj; simp [plus, hlt']
        · have hj' : ¬ j = i := fun e => hj e.symm
          simp [plus, hj, hj']
      rw [hfun]
      exact hI'

theorem wp_region_inv {P : Program} {ops : Array Oper} {Q : Exit → Act → World → Prop} {a : Act} {w : World} {id : Nat} (I : (Nat → Bool) → Act → World → Prop) (hm : P.follows .mixedOrders = true) (hb : edgesBack ops = true)
    (hstart : I (fun _ => false) a w.drew)
    (hstep : ∀ D a w, I D a w → ∀ i o, ops[i]? = some o → D i = false → (∀ e ∈ o.after, Region.binds .any e = true → D e.on = true) → ∀ K : Act → World → Prop, (∀ a' w', I (plus D i) a' w' → K a' w') → wpOp P ops Q i K a w)
    (hend : ∀ D a w, I D a w → (∀ i, i < ops.size → D i = true) → Q .normal a w) : (Code.region id ops true).wp P Q a w := by
  refine wp_region_any hm (wpAny_inv hb hstep hend ops.size _ a w.drew (by simp) ?_ ?_)
  · refine Nat.le_trans (List.length_filter_le _ _) (by simp)
  · have : (fun j => (Array.replicate ops.size false).getD j false) = fun _ => false := by
      funext j
      rw [Array.getD_eq_getD_getElem?, Array.getElem?_replicate]
      split <;> rfl
    rw [this]
    exact hstart

/-- An operation without a guard. -/
theorem wpOp_plain {P : Program} {ops : Array Oper} {Q : Exit → Act → World → Prop} {i : Nat} {o : Oper} {K : Act → World → Prop} {a : Act} {w : World} (ho : ops[i]? = some o) (hg : o.guard = none) (h : o.wp P a w K Q) : wpOp P ops Q i K a w := by
  unfold wpOp
  rw [ho]
  simp only [Region.wanted, hg, if_true]
  exact .inl h

/-- One slot turned. -/
def upd (u : Nat → Value) (s : Nat) (v : Value) : Nat → Value := fun k => if k = s then v else u k
theorem upd_same (u : Nat → Value) (s : Nat) (v : Value) : upd u s v s = v := by simp [upd]
theorem upd_other (u : Nat → Value) (s k : Nat) (v : Value) (h : k ≠ s) : upd u s v k = u k := by simp [upd, h]

/-- Whatever is done, its forerunners are done. -/
def Closed (ops : Array Oper) (D : Nat → Bool) : Prop := ∀ j o, ops[j]? = some o → D j = true → ∀ e ∈ o.after, Region.binds .any e = true → D e.on = true
/-- Where operation i is still to come, whatever must come behind it is still to come. -/
theorem Closed.later {ops : Array Oper} {D : Nat → Bool} (h : Closed ops D) {i j : Nat} {o : Oper} (ho : ops[j]? = some o) (hi : D i = false) {e : Edge} (he : e ∈ o.after) (hb : Region.binds .any e = true) (hon : e.on = i) : D j = false := by
  rcases hj : D j with _ | _
  · rfl
  · have := h j o ho hj e he hb
    rw [hon, hi] at this
    exact absurd this (by simp)

/-- What the slots hold once their operations are done: R j v w: operation j has yielded v. C: what is known besides. -/
def Inv (ops : Array Oper) (F : (Nat → Value) → Array Value) (slot : Nat → Nat) (R : (Nat → Bool) → Nat → Value → World → Prop) (C : (Nat → Bool) → (Nat → Value) → World → Prop) (D : Nat → Bool) (a : Act) (w : World) : Prop :=
  Closed ops D ∧ ∃ u : Nat → Value, a = { tmps := F u, defers := [] } ∧ C D u w ∧ ∀ j, D j = true → R D j (u (slot j)) w

/-- What is known of the operations' values as long as operation k is still to come. -/
def till (k : Nat) (R : Nat → Value → World → Prop) : (Nat → Bool) → Nat → Value → World → Prop := fun D j v w => D k = false → R j v w
/-- Behind operation i: it has yielded v in w'; what the others have yielded is as it was. -/
def Next (slot : Nat → Nat) (R : (Nat → Bool) → Nat → Value → World → Prop) (C : (Nat → Bool) → (Nat → Value) → World → Prop) (D : Nat → Bool) (u : Nat → Value) (i : Nat) (w : World) (v : Value) (w' : World) : Prop :=
  R (plus D i) i v w' ∧ C (plus D i) (upd u (slot i) v) w' ∧ ∀ j x, R D j x w → R (plus D i) j x w'

theorem wp_region_values {P : Program} {ops : Array Oper} {Q : Exit → Act → World → Prop} {w : World} {id : Nat} (F : (Nat → Value) → Array Value) (slot : Nat → Nat)
    (R : (Nat → Bool) → Nat → Value → World → Prop) (C : (Nat → Bool) → (Nat → Value) → World → Prop) (u0 : Nat → Value)
    (hm : P.follows .mixedOrders = true) (hb : edgesBack ops = true) (hinj : ∀ i j, i < ops.size → j ≠ i → slot j ≠ slot i) (hC : C (fun _ => false) u0 w.drew)
    (hstep : ∀ i o, ops[i]? = some o → ∀ D u w, Closed ops D → D i = false → C D u w → (∀ e ∈ o.after, Region.binds .any e = true → D e.on = true ∧ R D e.on (u (slot e.on)) w) →
      ∀ K : Act → World → Prop, (∀ v w', Next slot R C D u i w v w' → K { tmps := F (upd u (slot i) v), defers := [] } w') → wpOp P ops Q i K { tmps := F u, defers := [] } w)
    (hend : ∀ D u w, C D u w → (∀ i, i < ops.size → D i = true ∧ R D i (u (slot i)) w) → Q .normal { tmps := F u, defers := [] } w) :
    (Code.region id ops true).wp P Q { tmps := F u0, defers := [] } w := by
  refine wp_region_inv (Inv ops F slot R C) hm hb ⟨fun _ _ _ h => by simp at h, u0, rfl, hC, fun _ h => by simp at h⟩ ?_ ?_
  · rintro D a w ⟨hcl, u, rfl, hc, hr⟩ i o ho hni hpre K hK
    refine hstep i o ho D u w hcl hni hc (fun e he hbd => ⟨hpre e he hbd, hr _ (hpre e he hbd)⟩) K fun v w' ⟨h1, h2, h3⟩ => hK _ _ ⟨fun j o' ho' hj e he hbd => ?_, _, rfl, h2, fun j hj => ?_⟩
    · by_cases hji : j = i
      · subst hji
        rw [ho] at ho'
        obtain rfl := Option.some.inj ho'
        exact plus_of D j e.on (hpre e he hbd)
      · rw [plus_other D i j hji] at hj
        exact plus_of D i e.on (hcl j o' ho' hj e he hbd)
    · by_cases hji : j = i
      · subst hji
        rw [upd_same]
        exact h1
      · rw [upd_other _ _ _ _ (hinj i j (Array.getElem?_eq_some_iff.1 ho).1 hji)]
        rw [plus_other D i j hji] at hj
        exact h3 _ _ (hr j hj)
  · rintro D a w ⟨_, u, rfl, hc, hr⟩ hall
    exact hend D u w hc fun i hi => ⟨hall i hi, hr i (hall i hi)⟩

end Go.Proofs.YtoidjgongafnkaaGreatDoor
namespace Go.Proofs.YtoidjgongafnkaaGreatDoor
open Go.RowKit

/-- A function that hands back a struct that lies in a variable. -/
theorem results_blk {P : Program} {fn : Func} {p : Tmp} {ty : TypeId} (h : fn.results = #[.cell p ty]) (tmps : Array Value) (w : World) (g : Nat) (t : TypeId) (cs : Array Value) (d : TypeDesc)
    (hp : tmps.getD p undef = .pointer (some ⟨g, 0, none⟩)) (hg : Blk w g t cs) (hu : P.underlying ty = some d) (hd : (match d with | .struct _ | .array _ _ => true | _ => false) = true) (hi : (P.info? ty).map (·.size) = some cs.size) :
    (results fn tmps).run P w = .ok (.agg cs) w := by
  have e : (results fn tmps).run P w = ((asAddr (tmps.getD p undef)).run P w).andThen fun a w₁ => (loadVar ty a).run P w₁ := by
    simp only [results, h]
    simp [Sem.run_bind, Result.andThen]
  rw [e, hp]
  simp [asAddr, Result.andThen, run_loadVar_row w g t ty cs (0, 0) d hg hu hd hi]
theorem results_b {P : Program} {fn : Func} {p : Tmp} {ty : TypeId} (h : fn.results = #[.cell p ty]) (tmps : Array Value) (w : World) (g : Nat) (t : TypeId) (cs : Array Value) (d : TypeDesc)
    (hp : tmps.getD p undef = .pointer (some ⟨g, 0, none⟩)) (hg : Blk w g t cs) (hu : P.underlying ty = some d) (hd : (match d with | .struct _ | .array _ _ => true | _ => false) = true) (hi : (P.info? ty).map (·.size) = some cs.size) :
    (results fn tmps).run P w = .ok (.agg cs) w := results_blk h tmps w g t cs d hp hg hu hd hi
/-- The same, and plain values beside it. -/
theorem results_bt {P : Program} {fn : Func} {p u : Tmp} {ty : TypeId} (h : fn.results = #[.cell p ty, .tmp u]) (tmps : Array Value) (w : World) (g : Nat) (t : TypeId) (cs : Array Value) (d : TypeDesc)
    (hp : tmps.getD p undef = .pointer (some ⟨g, 0, none⟩)) (hg : Blk w g t cs) (hu : P.underlying ty = some d) (hd : (match d with | .struct _ | .array _ _ => true | _ => false) = true) (hi : (P.info? ty).map (·.size) = some cs.size) :
    (results fn tmps).run P w = .ok (.tuple #[.agg cs, tmps.getD u undef]) w := results_blk_tmp h tmps w g t cs d hp hg hu hd hi
theorem results_btt {P : Program} {fn : Func} {p u u2 : Tmp} {ty : TypeId} (h : fn.results = #[.cell p ty, .tmp u, .tmp u2]) (tmps : Array Value) (w : World) (g : Nat) (t : TypeId) (cs : Array Value) (d : TypeDesc)
    (hp : tmps.getD p undef = .pointer (some ⟨g, 0, none⟩)) (hg : Blk w g t cs) (hu : P.underlying ty = some d) (hd : (match d with | .struct _ | .array _ _ => true | _ => false) = true) (hi : (P.info? ty).map (·.size) = some cs.size) :
    (results fn tmps).run P w = .ok (.tuple #[.agg cs, tmps.getD u undef, tmps.getD u2 undef]) w := by
  have e : (results fn tmps).run P w = ((asAddr (tmps.getD p undef)).run P w).andThen fun a w₁ => ((loadVar ty a).run P w₁).andThen fun v w₂ => .ok (.tuple #[v, tmps.getD u undef, tmps.getD u2 undef]) w₂ := by
    simp only [results, h]
    simp [Sem.run_bind, Result.andThen]
  rw [e, hp]
  simp [asAddr, Result.andThen, run_loadVar_row w g t ty cs (0, 0) d hg hu hd hi]
theorem Blk.cast {w : World} {b : Nat} {t : TypeId} {cs cs' : Array Value} (h : Blk w b t cs) (e : cs = cs') : Blk w b t cs' := e ▸ h
section
variable (w : World) {t t' t2 : TypeId} {cs cs' cs2 : Array Value} {o o2 : Obj}
theorem made1 : Blk (w.alloc (.cells cs t)) w.heap.size t cs := Blk.made w t cs
theorem made12 : Blk ((w.alloc (.cells cs t)).alloc o) w.heap.size t cs := (Blk.made w t cs).alloc _
theorem made22 : Blk ((w.alloc o).alloc (.cells cs t)) (w.heap.size + 1) t cs := Blk.made' (by simp)
theorem made13 : Blk (((w.alloc (.cells cs t)).alloc o).alloc o2) w.heap.size t cs := ((Blk.made w t cs).alloc _).alloc _
theorem made23 : Blk (((w.alloc o).alloc (.cells cs t)).alloc o2) (w.heap.size + 1) t cs := (Blk.made' (by simp)).alloc _
theorem made33 : Blk (((w.alloc o).alloc o2).alloc (.cells cs t)) (w.heap.size + 1 + 1) t cs := Blk.made' (by simp)
theorem made44 {o3 : Obj} : Blk ((((w.alloc o).alloc o2).alloc o3).alloc (.cells cs t)) (w.heap.size + 1 + 1 + 1) t cs := Blk.made' (by simp)
theorem below1 {B : Nat} (hB : B ≤ w.heap.size) : Below B w (w.alloc o) := (Below.refl B w).alloc hB o
theorem below2 {B : Nat} (hB : B ≤ w.heap.size) : Below B w ((w.alloc o).alloc o2) := (below1 w hB).alloc (by simp; omega) o2
end
theorem set2 (x0 x1 v0 v1 : Value) : ((#[x0, x1].setIfInBounds 0 v0).setIfInBounds 1 v1) = #[v0, v1] := by kernel_rfl
theorem set3 (x0 x1 x2 v0 v1 v2 : Value) : (((#[x0, x1, x2].setIfInBounds 0 v0).setIfInBounds 1 v1).setIfInBounds 2 v2) = #[v0, v1, v2] := by kernel_rfl
theorem set9 (x0 x1 x2 x3 x4 x5 x6 x7 x8 v0 v1 v2 v3 v4 v5 v6 v7 v8 : Value) : (((((((((#[x0, x1, x2, x3, x4, x5, x6, x7, x8].setIfInBounds 0 v0).setIfInBounds 1 v1).setIfInBounds 2 v2).setIfInBounds 3 v3).setIfInBounds 4 v4).setIfInBounds 5 v5).setIfInBounds 6 v6).setIfInBounds 7 v7).setIfInBounds 8 v8) = #[v0, v1, v2, v3, v4, v5, v6, v7, v8] := by kernel_rfl
theorem Blk.all2 {w : World} {b : Nat} {t : TypeId} {x0 x1 : Value} (h : Blk w b t #[x0, x1]) (v0 v1 : Value) : Blk ((w.setCell ⟨b, 0, none⟩ v0).setCell ⟨b, 1, none⟩ v1) b t #[v0, v1] := Blk.cast ((h.put 0 v0).put 1 v1) (by kernel_rfl)
theorem Blk.all3 {w : World} {b : Nat} {t : TypeId} {x0 x1 x2 : Value} (h : Blk w b t #[x0, x1, x2]) (v0 v1 v2 : Value) : Blk (((w.setCell ⟨b, 0, none⟩ v0).setCell ⟨b, 1, none⟩ v1).setCell ⟨b, 2, none⟩ v2) b t #[v0, v1, v2] := Blk.cast (((h.put 0 v0).put 1 v1).put 2 v2) (by kernel_rfl)
theorem Blk.all9 {w : World} {b : Nat} {t : TypeId} {x0 x1 x2 x3 x4 x5 x6 x7 x8 : Value} (h : Blk w b t #[x0, x1, x2, x3, x4, x5, x6, x7, x8]) (v0 v1 v2 v3 v4 v5 v6 v7 v8 : Value) : Blk (((((((((w.setCell ⟨b, 0, none⟩ v0).setCell ⟨b, 1, none⟩ v1).setCell ⟨b, 2, none⟩ v2).setCell ⟨b, 3, none⟩ v3).setCell ⟨b, 4, none⟩ v4).setCell ⟨b, 5, none⟩ v5).setCell ⟨b, 6, none⟩ v6).setCell ⟨b, 7, none⟩ v7).setCell ⟨b, 8, none⟩ v8) b t #[v0, v1, v2, v3, v4, v5, v6, v7, v8] := Blk.cast (((((((((h.put 0 v0).put 1 v1).put 2 v2).put 3 v3).put 4 v4).put 5 v5).put 6 v6).put 7 v7).put 8 v8) (by kernel_rfl)
theorem size_alloc (w : World) (o : Obj) : (w.alloc o).heap.size = w.heap.size + 1 := by simp
theorem size_setCell (w : World) (p : Addr) (v : Value) : (w.setCell p v).heap.size = w.heap.size := by simp [World.setCell]
theorem size_drew (w : World) : w.drew.heap.size = w.heap.size := rfl
theorem size_drewN (w : World) (n : Nat) : (w.drewN n).heap.size = w.heap.size := rfl
/-- What a region that draws its order may load, whatever has been done: what stood in w1 stands (but for block r). -/
structure SteadyAll (w1 wx : World) : Prop where
  rule : ∀ b o, b < w1.heap.size → wx.cell? ⟨b, o, none⟩ = w1.cell? ⟨b, o, none⟩
structure SteadyBut (r : Nat) (w1 wx : World) : Prop where
  rule : ∀ b o, b < w1.heap.size → (b < r ∨ r < b) → wx.cell? ⟨b, o, none⟩ = w1.cell? ⟨b, o, none⟩
theorem SteadyAll.of {w1 wx : World} (h : Below w1.heap.size w1 wx) : SteadyAll w1 wx := ⟨fun b o hb => h.cell (p := ⟨b, o, none⟩) hb⟩
theorem SteadyBut.of {r : Nat} {w1 wx : World} (h : Below w1.heap.size w1 wx) : SteadyBut r w1 wx := ⟨fun b o hb _ => h.cell (p := ⟨b, o, none⟩) hb⟩
theorem SteadyBut.set {r : Nat} {w1 wx : World} (h : SteadyBut r w1 wx) (i : Nat) (v : Value) : SteadyBut r w1 (wx.setCell ⟨r, i, none⟩ v) :=
  ⟨fun b o hb hr => by rw [World.cell?_setCell_other _ _ _ _ (by intro e; injection e with e1; omega)]; exact h.rule b o hb hr⟩

section
variable {P : Program} {ops : Array Oper} {Q : Exit → Act → World → Prop} {md : Region.Mode} {S : World → Prop}
/-- May these operations be taken first, one behind the other? -/
def takeable (md : Region.Mode) (ops : Array Oper) : Array Bool → List Nat → Bool
  | _, [] => true
  | l, i :: is => Region.free md ops l i && (Region.ready md ops l).contains i && takeable md ops (l.setIfInBounds i true) is
def TakeSeq (P : Program) (md : Region.Mode) (ops : Array Oper) (Q : Exit → Act → World → Prop) (S : World → Prop) (fuel : Nat) : List Nat → Array Bool → Act → World → Prop
  | [], l, a, w => wpAnyH P md ops Q S fuel l a w
  | i :: is, l, a, w => ∃ o v, ops[i]? = some o ∧ YieldsIf P ops S o v a ∧ TakeSeq P md ops Q S fuel is (l.setIfInBounds i true) (a.put o.dst v) w
theorem TakeSeq.step {fuel i : Nat} {is : List Nat} {l : Array Bool} {a : Act} {w : World} {o : Oper} {v : Value} (ho : ops[i]? = some o) (hy : YieldsIf P ops S o v a)
    (h : TakeSeq P md ops Q S fuel is (l.setIfInBounds i true) (a.put o.dst v) w) : TakeSeq P md ops Q S fuel (i :: is) l a w := ⟨o, v, ho, hy, h⟩
theorem TakeSeq.done {fuel : Nat} {l : Array Bool} {a : Act} {w : World} (h : wpAnyH P md ops Q S fuel l a w) : TakeSeq P md ops Q S fuel [] l a w := h
theorem wpAnyH_seq {is : List Nat} {fuel : Nat} {l : Array Bool} {a : Act} {w : World} (hs : Region.noSelect ops = true) (ht : takeable md ops l is = true)
    (hQ : ∀ c a d v w, Q (.panic c) (a.put d v) w → Q (.panic c) a w) (hS : S w) (h : TakeSeq P md ops Q S fuel is l a w) : wpAnyH P md ops Q S (fuel + is.length) l a w := by
  induction is generalizing l a with
  | nil => exact h
  | cons i is ih =>
    obtain ⟨o, v, ho, hy, h2⟩ := h
    simp only [takeable, Bool.and_eq_true] at ht
    exact wpAnyH_take ho hs ht.1.1 ht.1.2 (fun c a w => hQ c a o.dst v w) hy hS (ih ht.2 h2)
end
theorem ret_bool {a b : Bool} (h : a = b) : Ending.returned (.bool a) = .returned (.bool b) := by rw [h]

section
variable {w w' : World} {base n size : Nat} {e : TypeId} {v : Value} {xs : List Value}
theorem own_below (h : w.ownsRow base e size v n xs) (hb : Below w.heap.size w w') : w'.ownsRow base e size v n xs := by
  refine ⟨h.1, ?_⟩
  rcases h.2 with h1 | ⟨g, cap, cur, hv, hbase, hc, h1, h2, h3, h4⟩
  · exact .inl h1
  · exact .inr ⟨g, cap, cur, hv, hbase, (hb.block g (Array.getElem?_eq_some_iff.1 hc).1).trans hc, h1, h2, h3, h4⟩
theorem own_aside (h : w.ownsRow base e size v n xs) {p : Addr} (hp : p.block < base) (u : Value) : (w.setCell p u).ownsRow base e size v n xs := by
  refine ⟨h.1, ?_⟩
  rcases h.2 with h1 | ⟨g, cap, cur, hv, hbase, hc, h1, h2, h3, h4⟩
  · exact .inl h1
  · exact .inr ⟨g, cap, cur, hv, hbase, (heap_setCell_other w p g u (by omega)).trans hc, h1, h2, h3, h4⟩
theorem own_ne {b : Nat} (h : w.ownsRow base e size v n xs) (hb : b < base) : some b ≠ v.ownBlock := by
  rcases h.2 with ⟨rfl, _⟩ | ⟨g, cap, cur, rfl, hbase, _⟩
  · simp [Value.ownBlock]
  · simp [Value.ownBlock]; omega
theorem own_row_ge (h : w.ownsRow base e size v n xs) : ∀ k, v.ownBlock = some k → base ≤ k := by
  rcases h.2 with ⟨rfl, _⟩ | ⟨g, cap, cur, rfl, hbase, _⟩
  · simp [Value.ownBlock]
  · intro k hk; simp [Value.ownBlock] at hk; omega
end
theorem own_one {w : World} {base n size : Nat} {e : TypeId} {v : Value} {xs : List Value} (h : w.ownsRow base e size v n xs) : v.oneCell' = true := by
  rcases h.2 with ⟨rfl, _⟩ | ⟨g, cap, cur, rfl, _⟩ <;> rfl
theorem own_put {w : World} {base n size b i : Nat} {e : TypeId} {v : Value} {xs : List Value} (h : w.ownsRow base e size v n xs) (hb : some b ≠ v.ownBlock) (u : Value) : (w.setCell ⟨b, i, none⟩ u).ownsRow base e size v n xs := by
  refine ⟨h.1, ?_⟩
  rcases h.2 with h1 | ⟨g, cap, cur, hv, hbase, hc, h1, h2, h3, h4⟩
  · exact .inl h1
  · subst hv
    simp [Value.ownBlock] at hb
    exact .inr ⟨g, cap, cur, rfl, hbase, (heap_setCell_other w ⟨b, i, none⟩ g u (fun e => hb e.symm)).trans hc, h1, h2, h3, h4⟩
/-- Only block b has changed, and what is new. -/
abbrev Over (b : Nat) (w w' : World) : Prop := w.grownBy w' (some b)
theorem over_rules {b : Nat} {w w1 : World} (h : Over b w w1) :
    (∀ c o, c < w.heap.size → (c < b ∨ b < c) → w1.cell? ⟨c, o, none⟩ = w.cell? ⟨c, o, none⟩) ∧ (∀ c o, c < w.heap.size → (c < b ∨ b < c) → w1.frozen? ⟨c, o, none⟩ = w.frozen? ⟨c, o, none⟩) := by
  have hb : ∀ c, c < w.heap.size → (c < b ∨ b < c) → w1.heap[c]? = w.heap[c]? := fun c hc hn => h.block c hc (by simp; omega)
  refine ⟨fun c o hc hn => ?_, fun c o hc hn => ?_⟩
  · simp only [World.cell?, hb c hc hn]
  · simp only [World.frozen?, hb c hc hn]
theorem Over.of_below {b : Nat} {w w' : World} (h : Below w.heap.size w w') : Over b w w' := ⟨h.os, h.tape, h.output, h.size, fun k hk _ => h.block k hk⟩
section
variable {b : Nat} {w w1 w2 : World}
theorem Over.refl (b : Nat) (w : World) : Over b w w := ⟨rfl, rfl, rfl, Nat.le_refl _, fun _ _ _ => rfl⟩
theorem Over.trans (h1 : Over b w w1) (h2 : Over b w1 w2) : Over b w w2 :=
  ⟨h2.os.trans h1.os, h2.tape.trans h1.tape, h2.output.trans h1.output, Nat.le_trans h1.size h2.size, fun k hk hn => (h2.block k (Nat.lt_of_lt_of_le hk h1.size) hn).trans (h1.block k hk hn)⟩
theorem Over.then_below (h1 : Over b w w1) (h2 : Below w1.heap.size w1 w2) : Over b w w2 := h1.trans (Over.of_below h2)
theorem Over.alloc (h : Over b w w1) (o : Obj) : Over b w (w1.alloc o) := h.then_below (below_alloc (Below.refl _ _) _)
theorem Over.drew (h : Over b w w1) : Over b w w1.drew := ⟨h.os, h.tape, h.output, h.size, h.block⟩
theorem Over.put (h : Over b w w1) (i : Nat) (v : Value) : Over b w (w1.setCell ⟨b, i, none⟩ v) :=
  h.trans ⟨rfl, rfl, rfl, by simp [World.setCell], fun k hk hn => heap_setCell_other w1 ⟨b, i, none⟩ k v (by intro e; exact hn (by rw [e]))⟩
theorem Over.own (h : Over b w w1) {p : Addr} (hp : w.heap.size ≤ p.block) (v : Value) : Over b w (w1.setCell p v) :=
  ⟨h.os, h.tape, h.output, by simpa [World.setCell] using h.size, fun k hk hn => (heap_setCell_other w1 p k v (by omega)).trans (h.block k hk hn)⟩
end
theorem own_over {w w' : World} {base n size b : Nat} {e : TypeId} {v : Value} {xs : List Value} (h : w.ownsRow base e size v n xs) (ho : Over b w w') (hb : b < base) : w'.ownsRow base e size v n xs := by
  refine h.kept ho ?_
  rcases hv : v.ownBlock with _ | c
  · exact .inl rfl
  · right
    have := own_row_ge h c hv
    simp; omega
theorem own_lt' {w : World} {base n size : Nat} {e : TypeId} {v : Value} {xs : List Value} (h : w.ownsRow base e size v n xs) (c : Nat) (hc : v.ownBlock = some c) : c < w.heap.size := by
  rcases h.2 with ⟨rfl, _⟩ | ⟨g, cap, cur, rfl, _, hh, _⟩
  · simp [Value.ownBlock] at hc
  · simp [Value.ownBlock] at hc; subst hc; exact (Array.getElem?_eq_some_iff.1 hh).1
theorem own_set {w : World} {base n size : Nat} {e : TypeId} {v : Value} {xs : List Value} (h : w.ownsRow base e size v n xs) {p : Addr} (hp : v.ownBlock ≠ some p.block) (u : Value) : (w.setCell p u).ownsRow base e size v n xs := by
  refine ⟨h.1, ?_⟩
  rcases h.2 with h1 | ⟨c, cap, cur, hv, hbase, hc, h1, h2, h3, h4⟩
  · exact .inl h1
  · subst hv
    simp [Value.ownBlock] at hp
    exact .inr ⟨c, cap, cur, rfl, hbase, (heap_setCell_other w p c u hp).trans hc, h1, h2, h3, h4⟩
theorem own_base {w : World} {base base' n size : Nat} {e : TypeId} {v : Value} {xs : List Value} (h : w.ownsRow base e size v n xs) (hb : base' ≤ base) : w.ownsRow base' e size v n xs := by
  refine ⟨h.1, ?_⟩
  rcases h.2 with h1 | ⟨c, cap, cur, hv, hbase, hr⟩
  · exact .inl h1
  · exact .inr ⟨c, cap, cur, hv, by omega, hr⟩
theorem own_not {w : World} {base n size g : Nat} {e : TypeId} {v : Value} {xs : List Value} (h : w.ownsRow base e size v n xs) (hg : g < base) : v.ownBlock ≠ some g := fun e => by
  have := own_row_ge h g e
  omega
theorem own_drew {w : World} {base n size : Nat} {e : TypeId} {v : Value} {xs : List Value} (h : w.ownsRow base e size v n xs) : w.drew.ownsRow base e size v n xs := h
theorem own_zero {w : World} {base size : Nat} {e : TypeId} {v : Value} {xs : List Value} (h : w.ownsRow base e size v 0 xs) : ∃ p cap, v = .slice p 0 cap := by
  rcases h.2 with ⟨rfl, _⟩ | ⟨g, cap, _, rfl, _⟩
  · exact ⟨_, _, rfl⟩
  · exact ⟨_, _, rfl⟩
theorem own_cast {w : World} {base n n' size : Nat} {e : TypeId} {v : Value} {xs xs' : List Value} (h : w.ownsRow base e size v n xs) (hn : n = n') (hx : xs = xs') : w.ownsRow base e size v n' xs' := by subst hn; subst hx; exact h
theorem own_empty {w : World} {base n size : Nat} {e : TypeId} (hn : n = w.heap.size) (hb : base ≤ n) : (w.alloc (.cells #[] e)).ownsRow base e size (.slice (some ⟨n, 0, none⟩) 0 0) 0 [] := by
  subst hn
  exact World.ownsRow_lit w #[] 0 hb (by unfold maxLen; omega) (by simp)
/-- What is appended: a row of cells, or nothing at all. -/
def SrcAt (w : World) (v : Value) (m : Nat) (news : List Value) : Prop :=
  (v = .slice none 0 0 ∧ m = 0 ∧ news = []) ∨ ∃ ad c, v = .slice (some ad) m c ∧ (∀ j u, news[j]? = some u → w.cell? (ad.add j) = some u) ∧ (∀ u ∈ news, u.oneCell' = true)
theorem wp_append_src {P : Program} {w : World} {o : Oper} {a : Act} {K : Act → World → Prop} {Q : Exit → Act → World → Prop} (s x : Operand) (t : TypeId)
    (ho : o.op = .call { callee := .builtin .append, args := #[s, x], argTypes := #[t, t] })
    (base : Nat) (e : TypeId) (i : TypeInfo) (z : Value) (size bytes : Nat) (ht : P.underlying t = some (.slice e)) (hi : P.info? e = some i) (hz : i.zero = some z)
    (hsize : i.size = size) (hby : i.bytes = bytes) (hzs : z.cells.size = size) (hsz : 0 < size)
    (v : Value) (n : Nat) (xs : List Value) (hs : a.eval s = v) (hown : w.ownsRow base e size v n xs)
    (vx : Value) (m : Nat) (news : List Value) (hx : a.eval x = vx) (hsrc : SrcAt w vx m news) (hl : news.length = m * size)
    (h63 : n + m ≤ maxLen) (hbytes : (n + m) * bytes ≤ 140737488355328) (hbase : base ≤ w.heap.size)
    (h : ∀ v' w', w'.ownsRow base e size v' (n + m) (xs ++ news) → w.grownBy w' v.ownBlock → K (a.put o.dst v') w') : o.wp P a w K Q := by
  rcases hsrc with ⟨rfl, rfl, rfl⟩ | ⟨ad, c, rfl, hnews, h1⟩
  · have hr := run_append_owned_none (P := P) (w := w) base t o.type e i size ht hi v n xs hown
    unfold Oper.wp execOp
    simp only [ho, resolve, invoke, builtin, Sem.run_bind, Sem.run_pure, Result.andThen_ok, List.map_toArray, List.map_cons, List.map_nil, hs, hx, hr]
    exact h v w (by simpa using hown) ⟨rfl, rfl, rfl, Nat.le_refl _, fun _ _ _ => rfl⟩
  · exact wp_append_own w s x t ho base e i z size bytes ht hi hz hsize hby hzs hsz v n xs hs hown ad m c news hx hl hnews h1 h63 hbytes hbase fun v' w' h2 h3 _ => h v' w' h2 h3
theorem own_held {w w' : World} {base n size : Nat} {e : TypeId} {v : Value} {o : Option Nat} {xs : List Value} (h : w.ownsRow base e size v n xs) (hg : w.grownBy w' o) (hn : ∀ c, v.ownBlock = some c → o ≠ some c) : w'.ownsRow base e size v n xs :=
  h.kept hg (by
    rcases hv : v.ownBlock with _ | c
    · exact .inl rfl
    · exact .inr (fun e => hn c hv e.symm))
theorem own_shape {w : World} {base n size : Nat} {e : TypeId} {v : Value} {xs : List Value} (h : w.ownsRow base e size v n xs) : ∃ p cap, v = .slice p n cap := by
  rcases h.2 with ⟨rfl, h0⟩ | ⟨g, cap, _, hv, _⟩
  · exact ⟨none, 0, by rw [h0]⟩
  · exact ⟨_, cap, hv⟩
theorem setRow_self {w : World} {g : Nat} {t : TypeId} {cs : Array Value} (h : Blk w g t cs) : w.setRow g cs = w := by
  have hlt := h.lt
  have hv : w.heap[g] = .cells cs t (0, 0) := (Array.getElem?_eq_some_iff.1 h).2
  unfold World.setRow
  cases w with
  | mk heap tape drawn os output =>
    congr 1
    apply Array.ext
    · simp
    · intro k h1 h2
      simp only [Array.getElem_modify]
      split
      · rename_i hk; subst hk; simp at hv; simp [hv]
      · rfl
theorem setRow_over (w : World) (g : Nat) (cs : Array Value) : Over g w (w.setRow g cs) := ⟨rfl, rfl, rfl, by simp, fun k _ hn => setRow_other w g k cs (by simpa using hn)⟩
/-- A struct has been stored: the world behind it, and what is known of it. -/
theorem setRow_cut {w : World} {g : Nat} {t : TypeId} {old : Array Value} (cs : Array Value) (h : Blk w g t old) : ∃ wx, wx = w.setRow g cs ∧ Blk wx g t cs ∧ Over g w wx ∧ wx.heap.size = w.heap.size :=
  ⟨_, rfl, setRow_heap w g old cs t (0, 0) h, setRow_over w g cs, by simp⟩
section
variable {P : Program} {ops : Array Oper} {rest : List Oper} {o : Oper} {a : Act} {w : World} {Q : Exit → Act → World → Prop}
theorem wpList_store_cut (hgd : o.guard = none) (ty : TypeId) (x y : Operand) (ho : o.op = .store ty x y) (g : Nat) (cells : Array Value) (hx : a.eval x = .pointer (some ⟨g, 0, none⟩)) (hy : a.eval y = .agg cells)
    (t : TypeId) (old : Array Value) (hg : Blk w g t old) (hi : (P.info? ty).map (·.size) = some cells.size) (hold : old.size = cells.size) (h1 : cells.all (·.oneCell') = true)
    (h : ∀ wx, Blk wx g t cells → Over g w wx → wx.heap.size = w.heap.size → wpList P ops Q rest (a.put o.dst undef) wx) : wpList P ops Q (o :: rest) a w :=
  wpList_store_row hgd ty x y ho g cells hx hy t old hg hi hold h1 (h _ (setRow_heap w g old cells t (0, 0) hg) (setRow_over w g cells) (by simp))
/-- It is stored where it was loaded from. -/
theorem wpList_store_self (hgd : o.guard = none) (ty : TypeId) (x y : Operand) (ho : o.op = .store ty x y) (g : Nat) (cells : Array Value) (hx : a.eval x = .pointer (some ⟨g, 0, none⟩)) (hy : a.eval y = .agg cells)
    (t : TypeId) (hg : Blk w g t cells) (hi : (P.info? ty).map (·.size) = some cells.size) (h1 : cells.all (·.oneCell') = true)
    (h : wpList P ops Q rest (a.put o.dst undef) w) : wpList P ops Q (o :: rest) a w :=
  wpList_store_row hgd ty x y ho g cells hx hy t cells hg hi rfl h1 (by rw [setRow_self hg]; exact h)
theorem wpList_load_blk (hgd : o.guard = none) (ty : TypeId) (x : Operand) (ho : o.op = .load ty x) (g : Nat) (hx : a.eval x = .pointer (some ⟨g, 0, none⟩)) (t : TypeId) (cs : Array Value) (d : TypeDesc) (hg : Blk w g t cs)
    (hu : P.underlying ty = some d) (hd : (match d with | .struct _ | .array _ _ => true | _ => false) = true) (hi : (P.info? ty).map (·.size) = some cs.size)
    (h : wpList P ops Q rest (a.put o.dst (.agg cs)) w) : wpList P ops Q (o :: rest) a w :=
  wpList_load_row hgd ty x ho g hx t cs (0, 0) d hg hu hd hi h
end
/-- What lay below a mark, and what is changed. -/
theorem own_new {w w' : World} {base n size g : Nat} {e : TypeId} {v : Value} {xs : List Value} (h : w.ownsRow base e size v n xs) (ho : Over g w w') (hn : v.ownBlock ≠ some g) : w'.ownsRow base e size v n xs :=
  h.kept ho (by
    rcases hv : v.ownBlock with _ | c
    · exact .inl rfl
    · exact .inr (fun e => hn (by rw [hv]; exact e)))
theorem SteadyBut.over {r : Nat} {w1 wx : World} (h : Over r w1 wx) : SteadyBut r w1 wx := ⟨fun b o hb hr => (over_rules h).1 b o hb hr⟩
end Go.Proofs.YtoidjgongafnkaaGreatDoor
namespace Go.Proofs.YtoidjgongafnkaaGreatDoor
open Go.RowKit

section
variable {P : Program} {ops : Array Oper} {Q : Exit → Act → World → Prop} {md : Region.Mode} {S : World → Prop} {last : Nat}

def wpAnyL (P : Program) (md : Region.Mode) (ops : Array Oper) (Q : Exit → Act → World → Prop) (S : World → Prop) (last : Nat) : Nat → Array Bool → Act → World → Prop
  | 0, listed, a, w => Region.ready md ops listed = [] ∧ Q .normal a w
  | fuel + 1, listed, a, w =>
    (Region.ready md ops listed = [] → Q .normal a w) ∧
    ∀ i ∈ Region.ready md ops listed, (i = last → ∀ k, k < ops.size → k ≠ last → listed.getD k false = true) → wpOp P ops Q i (fun a' w' => (i ≠ last → S w') ∧ wpAnyL P md ops Q S last fuel (listed.setIfInBounds i true) a' w') a w

/-- What is listed, its forerunners are. -/
def ListedBack (md : Region.Mode) (ops : Array Oper) (listed : Array Bool) : Prop := ∀ k o, ops[k]? = some o → listed.getD k false = true → ∀ e ∈ o.after, Region.binds md e = true → listed.getD e.on false = true
/-- Each operation but the last has one that waits for it. -/
def feeds (md : Region.Mode) (ops : Array Oper) (last : Nat) : Bool :=
  decide (last < ops.size) && (List.range ops.size).all fun k => k == last || (List.range ops.size).any fun m => decide (k < m) && ((ops[m]?).map fun o => o.after.any fun e => e.on == k && Region.binds md e).getD false
theorem feeds_spec (h : feeds md ops last = true) {k : Nat} (hk : k < ops.size) (hne : k ≠ last) : ∃ m o e, k < m ∧ m < ops.size ∧ ops[m]? = some o ∧ e ∈ o.after ∧ e.on = k ∧ Region.binds md e = true := by
  unfold feeds at h
  rw [Bool.and_eq_true] at h
  have h1 := List.all_eq_true.1 h.2 k (List.mem_range.2 hk)
  rw [Bool.or_eq_true, beq_iff_eq] at h1
  rcases h1 with h1 | h1
  · exact absurd h1 hne
  · obtain ⟨m, hm, h2⟩ := List.any_eq_true.1 h1
    have hlt := List.mem_range.1 hm
    rw [Bool.and_eq_true, decide_eq_true_eq] at h2
    have ho : ops[m]? = some ops[m] := Array.getElem?_eq_getElem hlt
    rw [ho] at h2
    simp only [Option.map_some, Option.getD_some, Array.any_eq_true', Bool.and_eq_true, beq_iff_eq] at h2
    obtain ⟨h3, e, h4, h5, h6⟩ := h2
    exact ⟨m, _, e, h3, hlt, ho, h4, h5, h6⟩
theorem feeds_all (h : feeds md ops last = true) {listed : Array Bool} (hb : ListedBack md ops listed) (hr : last ∈ Region.ready md ops listed) : ∀ k, k < ops.size → k ≠ last → listed.getD k false = true := by
  intro k hk
  obtain ⟨h0, ol, hol, hall⟩ := mem_ready.1 hr
  have main : ∀ d k, ops.size - k ≤ d → k < ops.size → k ≠ last → listed.getD k false = true := by
    intro d
    induction d with
    | zero => intro k hd hk _; omega
    | succ d ih =>
      intro k hd hk hne
      obtain ⟨m, o, e, h1, h2, h3, h4, h5, h6⟩ := feeds_spec h hk hne
      by_cases hml : m = last
      · subst hml
        rw [hol] at h3
        obtain rfl := Option.some.inj h3
        rw [← h5]; exact hall e h4 h6
      · have := hb m o h3 (ih m (by omega) h2 hml) e h4 h6
        rw [← h5]; exact this
  exact main _ k (Nat.le_refl _) hk
theorem ListedBack.set {listed : Array Bool} (hb : ListedBack md ops listed) {i : Nat} (hi : i ∈ Region.ready md ops listed) : ListedBack md ops (listed.setIfInBounds i true) := by
  intro k o ho hk e he hbd
  obtain ⟨h0, oi, hoi, hall⟩ := mem_ready.1 hi
  have keep : ∀ j, listed.getD j false = true → (listed.setIfInBounds i true).getD j false = true := fun j hj => by
    by_cases hij : i = j
    · subst hij
      by_cases hlt : i < listed.size
      · simp [Array.getD_eq_getD_getElem?, hlt]
      · rw [Array.getD_eq_getD_getElem?, Array.getElem?_eq_none (by omega)] at hj; simp at hj
    · rw [Array.getD_eq_getD_getElem?] at hj ⊢
      rw [Array.getElem?_setIfInBounds, if_neg hij]
      exact hj
  by_cases hki : i = k
  · subst hki
    rw [hoi] at ho
    obtain rfl := Option.some.inj ho
    exact keep _ (hall e he hbd)
  · refine keep _ (hb k o ho ?_ e he hbd)
    rw [Array.getD_eq_getD_getElem?] at hk ⊢
    rw [Array.getElem?_setIfInBounds, if_neg hki] at hk
    exact hk

theorem wpAny_of_late (hf : feeds md ops last = true) : ∀ (fuel : Nat) (listed : Array Bool) (a : Act) (w : World), ListedBack md ops listed → wpAnyL P md ops Q S last fuel listed a w → wpAny P md ops Q fuel listed a w
  | 0, _, _, _, _, h => h
  | fuel + 1, listed, a, w, hb, h => ⟨h.1, fun i hi => wpOp_mono (fun a' w' h' => wpAny_of_late hf fuel _ a' w' (hb.set hi) h'.2) (h.2 i hi (fun he => feeds_all hf hb (he ▸ hi)))⟩

theorem wp_region_late {id : Nat} {a : Act} {w : World} (hm : P.follows .mixedOrders = true) (hf : feeds .any ops last = true) (hS : S w.drew)
    (h : S w.drew → wpAnyL P .any ops Q S last ops.size (Array.replicate ops.size false) a w.drew) : (Code.region id ops true).wp P Q a w := by
  refine wp_region_any hm (wpAny_of_late (S := S) (last := last) hf _ _ _ _ (fun k o _ hk => ?_) (h hS))
  rw [Array.getD_eq_getD_getElem?, Array.getElem?_replicate] at hk
  split at hk <;> simp at hk

theorem wpAnyL_first {i : Nat} {oi : Oper} {v : Value} (hi : ops[i]? = some oi) (hil : i ≠ last) (hsel : ∀ (j : Nat) (o : Oper) cs b, ops[j]? = some o → o.op ≠ .select cs b)
    (hQ : ∀ c a w, Q (.panic c) (a.put oi.dst v) w → Q (.panic c) a w) :
    ∀ (fuel : Nat) (listed : Array Bool) (a : Act) (w : World),
      (∀ j oj, ops[j]? = some oj → j ≠ i → listed.getD j true = false → (∀ e ∈ oj.after, Region.binds md e = true → e.on ≠ i) → oi.apart ops oj = true) →
      i ∈ Region.ready md ops listed → YieldsIf P ops S oi v a → S w →
      wpAnyL P md ops Q S last fuel (listed.setIfInBounds i true) (a.put oi.dst v) w → wpAnyL P md ops Q S last (fuel + 1) listed a w := by
  have hlt : i < ops.size := (Array.getElem?_eq_some_iff.1 hi).1
  have hno : ∀ listed : Array Bool, i ∈ Region.ready md ops listed → ¬ (∀ k, k < ops.size → k ≠ last → listed.getD k false = true) := fun listed hr h => by
    have h1 := h i hlt hil
    have h0 := (mem_ready.1 hr).1
    rcases Nat.lt_or_ge i listed.size with h' | h'
    · simp [h'] at h0 h1; rw [h0] at h1; cases h1
    · simp [Array.getElem?_eq_none h'] at h1
  have hset : ∀ (listed : Array Bool) (j k : Nat), j ≠ last → (∀ k, k < ops.size → k ≠ last → listed.getD k false = true) → True := fun _ _ _ _ _ => trivial
  intro fuel
  induction fuel with
  | zero =>
    intro listed a w _ hr hy hS H
    refine ⟨fun h => (by rw [h] at hr; cases hr), fun j hj hjl => ?_⟩
    by_cases hji : j = i
    · subst hji; exact hy.wpOp hi hS ⟨fun _ => hS, H⟩
    · have := ready_mono hj hji
      rw [H.1] at this
      cases this
  | succ fuel ih =>
    intro listed a w hfree hr hy hS H
    refine ⟨fun h => (by rw [h] at hr; cases hr), fun j hj hjl => ?_⟩
    by_cases hji : j = i
    · subst hji; exact hy.wpOp hi hS ⟨fun _ => hS, H⟩
    · have hjlast : j ≠ last := fun he => hno listed hr (hjl he)
      have h1 := H.2 j (ready_mono hj hji) (fun he => absurd he hjlast)
      obtain ⟨hjun, oj, hoj, hall⟩ := mem_ready.1 hj
      have hnot : ∀ e ∈ oj.after, Region.binds md e = true → e.on ≠ i := fun e he hb heq => by
        have h1 := hall e he hb
        have h0 := (mem_ready.1 hr).1
        rw [heq] at h1
        rcases Nat.lt_or_ge i listed.size with h' | h'
        · simp [h'] at h0 h1; rw [h0] at h1; cases h1
        · simp [Array.getElem?_eq_none h'] at h1
      have h2 := wpOp_putIf hoj (hfree j oj hoj hji hjun hnot) (fun cs b => hsel i oi cs b hi) (fun cs b => hsel j oj cs b hoj) hQ hy h1
      have hfree' : ∀ k ok, ops[k]? = some ok → k ≠ i → (listed.setIfInBounds j true).getD k true = false →
          (∀ e ∈ ok.after, Region.binds md e = true → e.on ≠ i) → oi.apart ops ok = true := fun k ok hk hki hun hno => by
        refine hfree k ok hk hki ?_ hno
        by_cases hjk : j = k
        · subst hjk; exact hjun
        · rw [getD_set_ne true hjk] at hun; exact hun
      refine wpOp_mono (fun a' w' h3 => ⟨h3.2.1, ih (listed.setIfInBounds j true) a' w' hfree' (ready_mono hr (Ne.symm hji)) h3.1 (h3.2.1 hjlast) ?_⟩) h2
      rw [Array.setIfInBounds_comm _ _ hji]
      exact h3.2.2

theorem wpAnyL_take {i : Nat} {oi : Oper} {v : Value} {fuel : Nat} {listed : Array Bool} {a : Act} {w : World} (hi : ops[i]? = some oi) (hil : i ≠ last)
    (hs : Region.noSelect ops = true) (hf : Region.free md ops listed i = true) (hr : (Region.ready md ops listed).contains i = true)
    (hQ : ∀ c a w, Q (.panic c) (a.put oi.dst v) w → Q (.panic c) a w) (hy : YieldsIf P ops S oi v a) (hS : S w)
    (h : wpAnyL P md ops Q S last fuel (listed.setIfInBounds i true) (a.put oi.dst v) w) : wpAnyL P md ops Q S last (fuel + 1) listed a w :=
  wpAnyL_first hi hil (Region.noSelect_spec hs) hQ fuel listed a w (Region.free_spec hi hf) (by simpa using hr) hy hS h
theorem wpAnyL_done {listed : Array Bool} {a : Act} {w : World} (hr : Region.ready md ops listed = []) (h : Q .normal a w) :
    ∀ fuel, wpAnyL P md ops Q S last fuel listed a w
  | 0 => ⟨hr, h⟩
  | _ + 1 => ⟨fun _ => h, by rw [hr]; simp⟩

/-- Operations that are taken first, one behind the other. -/
def TakeSeqL (P : Program) (md : Region.Mode) (ops : Array Oper) (Q : Exit → Act → World → Prop) (S : World → Prop) (last : Nat) (fuel : Nat) : List Nat → Array Bool → Act → World → Prop
  | [], l, a, w => wpAnyL P md ops Q S last fuel l a w
  | i :: is, l, a, w => ∃ o v, ops[i]? = some o ∧ YieldsIf P ops S o v a ∧ TakeSeqL P md ops Q S last fuel is (l.setIfInBounds i true) (a.put o.dst v) w
theorem TakeSeqL.step {fuel i : Nat} {is : List Nat} {l : Array Bool} {a : Act} {w : World} {o : Oper} {v : Value} (ho : ops[i]? = some o) (hy : YieldsIf P ops S o v a)
    (h : TakeSeqL P md ops Q S last fuel is (l.setIfInBounds i true) (a.put o.dst v) w) : TakeSeqL P md ops Q S last fuel (i :: is) l a w := ⟨o, v, ho, hy, h⟩
theorem TakeSeqL.done {fuel : Nat} {l : Array Bool} {a : Act} {w : World} (h : wpAnyL P md ops Q S last fuel l a w) : TakeSeqL P md ops Q S last fuel [] l a w := h
theorem wpAnyL_seq {is : List Nat} {fuel : Nat} {l : Array Bool} {a : Act} {w : World} (hs : Region.noSelect ops = true) (ht : (takeable md ops l is && !is.contains last) = true)
    (hQ : ∀ c a d v w, Q (.panic c) (a.put d v) w → Q (.panic c) a w) (hS : S w) (h : TakeSeqL P md ops Q S last fuel is l a w) : wpAnyL P md ops Q S last (fuel + is.length) l a w := by
  rw [Bool.and_eq_true] at ht
  induction is generalizing l a with
  | nil => exact h
  | cons i is ih =>
    obtain ⟨o, v, ho, hy, h2⟩ := h
    obtain ⟨ht1, ht2⟩ := ht
    simp only [takeable, Bool.and_eq_true] at ht1
    have hne : i ≠ last ∧ (!is.contains last) = true := by
      simp only [List.contains_cons, Bool.not_or, Bool.and_eq_true, Bool.not_eq_true', beq_eq_false_iff_ne] at ht2
      exact ⟨fun he => ht2.1 he.symm, by simpa using ht2.2⟩
    exact wpAnyL_take ho hne.1 hs ht1.1.1 ht1.1.2 (fun c a w => hQ c a o.dst v w) hy hS (ih ⟨ht1.2, hne.2⟩ h2)

/-- Each of the operations 'rs' comes up next. -/
def AllReadyL (P : Program) (md : Region.Mode) (ops : Array Oper) (Q : Exit → Act → World → Prop) (S : World → Prop) (last : Nat) (fuel : Nat) (listed : Array Bool) (a : Act) (w : World) (rs : List Nat) : Prop :=
  ∀ i ∈ rs, wpOp P ops Q i (fun a' w' => (i ≠ last → S w') ∧ wpAnyL P md ops Q S last fuel (listed.setIfInBounds i true) a' w') a w
theorem AllReadyL.nil {fuel : Nat} {listed : Array Bool} {a : Act} {w : World} : AllReadyL P md ops Q S last fuel listed a w [] := fun _ h => by cases h
theorem AllReadyL.cons {fuel : Nat} {listed : Array Bool} {a : Act} {w : World} {i : Nat} {o : Oper} {rs : List Nat} (ho : ops[i]? = some o) (hil : i ≠ last)
    (h : ∀ K' : Act → World → Prop, Shut (∀ a w, S w → (S w → wpAnyL P md ops Q S last fuel (listed.setIfInBounds i true) a w) → K' a w) → if Region.wanted o (yielded ops a.tmps) = true then Oper.wp P o a w K' Q else K' (a.put o.dst undef) w)
    (hs : AllReadyL P md ops Q S last fuel listed a w rs) : AllReadyL P md ops Q S last fuel listed a w (i :: rs) := fun j hj => by
  rcases List.mem_cons.1 hj with rfl | hj
  · exact wpOp_step ho (fun K' hK => h K' (fun a w hS hW => hK a w ⟨fun _ => hS, hW hS⟩))
  · exact hs j hj
theorem AllReadyL.final {fuel : Nat} {listed : Array Bool} {a : Act} {w : World} {o : Oper} (ho : ops[last]? = some o)
    (h : ∀ K' : Act → World → Prop, Shut (∀ a w, wpAnyL P md ops Q S last fuel (listed.setIfInBounds last true) a w → K' a w) → if Region.wanted o (yielded ops a.tmps) = true then Oper.wp P o a w K' Q else K' (a.put o.dst undef) w) :
    AllReadyL P md ops Q S last fuel listed a w [last] := fun j hj => by
  obtain rfl := List.mem_singleton.1 hj
  exact wpOp_step ho (fun K' hK => h K' (fun a w hW => hK a w ⟨fun h => absurd rfl h, hW⟩))
theorem wpAnyL_ready {rs : List Nat} {fuel : Nat} {listed : Array Bool} {a : Act} {w : World} (hr : Region.ready md ops listed = rs) (hne : rs ≠ [])
    (h : AllReadyL P md ops Q S last fuel listed a w rs) : wpAnyL P md ops Q S last (fuel + 1) listed a w := ⟨fun h0 => absurd (hr ▸ h0) hne, fun i hi _ => h i (hr ▸ hi)⟩
end
end Go.Proofs.YtoidjgongafnkaaGreatDoor
