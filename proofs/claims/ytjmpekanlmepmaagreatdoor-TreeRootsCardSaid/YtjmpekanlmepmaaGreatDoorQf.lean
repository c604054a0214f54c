/- Package btree: where a key stands in a node. Package btree: where a key stands in a leaf. -/
import Derived.Test.YtjmpekanlmepmaaGreatDoorQc
import Derived.IntWalk
set_option linter.unusedVariables false
set_option linter.unusedSimpArgs false
set_option linter.unusedSectionVars false
set_option linter.constructorNameAsVariable false
namespace Go.Proofs.YtjmpekanlmepmaaGreatDoor
open Go.RowKit

theorem isNaN_any (x : Int) (w : World) : Calls Tryz.prog 123 #[.int .u32 x] w fun e w' => e = .returned (.bool false) ∧ w = w' := by
  go_enter Tryz.func123, Tryz.ntmps123
  go_wp2
  go_ret
  exact ⟨rfl, rfl⟩

def cmpOf (a b : Int) : Int := if a < b then -1 else if b < a then 1 else 0
theorem Compare_any (a b : Int) (w : World) : Calls Tryz.prog 108 #[.int .u32 a, .int .u32 b] w fun e w' => e = .returned (.int .i64 (cmpOf a b)) ∧ w = w' := by
  by_cases h1 : a < b
  · have HX : Hid (cmpOf a b = -1) := Lib.hid (by simp [cmpOf, h1])
    go_enter Tryz.func108, Tryz.ntmps108
    go_wp2_with (go_at_call 123; refine (isNaN_any _ _).mono ?_; rintro e w1 ⟨rfl, rfl⟩)
    go_ret
    exact ⟨ret_int HX.out.symm, rfl⟩
  · by_cases h2 : b < a
    · have HX : Hid (cmpOf a b = 1) := Lib.hid (by simp [cmpOf, h1, h2])
      have h1' : decide (a < b) = false := by simp [h1]
      clear h1
      go_enter Tryz.func108, Tryz.ntmps108
      go_wp2_with (go_at_call 123; refine (isNaN_any _ _).mono ?_; rintro e w1 ⟨rfl, rfl⟩)
      go_ret
      exact ⟨ret_int HX.out.symm, rfl⟩
    · have HX : Hid (cmpOf a b = 0) := Lib.hid (by simp [cmpOf, h1, h2])
      have h1' : decide (a < b) = false := by simp [h1]
      have h2' : decide (b < a) = false := by simp [h2]
      clear h1 h2
      go_enter Tryz.func108, Tryz.ntmps108
      go_wp2_with (go_at_call 123; refine (isNaN_any _ _).mono ?_; rintro e w1 ⟨rfl, rfl⟩)
      go_ret
      exact ⟨ret_int HX.out.symm, rfl⟩

theorem child1_any (e : Bt.Entry) (k : Int) (w : World) : Calls Tryz.prog 107 #[.agg e.cells, .int .u32 k] w fun r w' => r = .returned (.int .i64 (cmpOf e.key k)) ∧ Below w.heap.size w w' := by
  unfold Bt.Entry.cells
  go_enter Tryz.func107, Tryz.ntmps107
  go_wp2_with (go_at_call 108; refine (Compare_any _ _ _).mono ?_; rintro e w1 ⟨rfl, rfl⟩)
  go_ret
  exact ⟨rfl, by (repeat (first | with_reducible exact Below.refl _ _ | with_reducible assumption | with_reducible refine Below.setCell ?_ (by first | (simp; done) | (simp; omega)) _ | with_reducible refine below_alloc ?_ _ | with_reducible refine below_drewN ?_ _ | with_reducible refine Below.drew ?_ | with_reducible refine below_step ?_ (by assumption)))⟩

/-- Ascending keys: the first that are below k are those ahead of child's place. -/
def Asc (es : List Bt.Entry) : Prop := es.Pairwise (fun a b => a.key < b.key)
theorem child_le (es : List Bt.Entry) (k : Int) : Bt.child es k ≤ es.length := by
  induction es with
  | nil => exact Nat.le_refl _
  | cons e es ih => simp only [Bt.child]; split <;> simp <;> omega
theorem child_spec (es : List Bt.Entry) (k : Int) (hs : Asc es) (h : Nat) (hh : h < es.length) : es[h].key < k ↔ h < Bt.child es k := by
  induction es generalizing h with
  | nil => simp at hh
  | cons e es ih =>
    have hs' := List.pairwise_cons.1 hs
    simp only [Bt.child]
    by_cases hk : e.key < k
    · rw [if_pos hk]
      cases h with
      | zero => simpa using hk
      | succ h =>
        have := ih hs'.2 h (by simpa using hh)
        simp only [List.getElem_cons_succ]
        omega
    · rw [if_neg hk]
      cases h with
      | zero => simpa using hk
      | succ h =>
        have hh' : h < es.length := by simpa using hh
        simp only [List.getElem_cons_succ]
        have := hs'.1 es[h] (List.getElem_mem hh')
        omega

theorem asc_of_rising (es : List Bt.Entry) (last : Int) (h : Bt.risingFrom last es = true) : Asc es ∧ ∀ e ∈ es, last < e.key := by
  induction es generalizing last with
  | nil => exact ⟨List.Pairwise.nil, by simp⟩
  | cons e es ih =>
    simp only [Bt.risingFrom, Bool.and_eq_true, decide_eq_true_eq] at h
    obtain ⟨h1, h2⟩ := ih e.key h.2
    refine ⟨List.pairwise_cons.2 ⟨h2, h1⟩, ?_⟩
    intro x hx
    rcases List.mem_cons.1 hx with rfl | hx
    · exact h.1.1
    · have := h2 x hx
      omega

def BsRel (es : List Bt.Entry) (k : Int) (w : World) (i j : Value) (wr : World) : Prop :=
  ∃ a b : Nat, i = .int .i64 a ∧ j = .int .i64 b ∧ a ≤ Bt.child es k ∧ Bt.child es k ≤ b ∧ b ≤ es.length ∧ Below w.heap.size w wr
def SearchPost (es : List Bt.Entry) (k : Int) (w : World) (e : Ending) (w' : World) : Prop :=
  e = .returned (.tuple #[.int .i64 (Bt.child es k), .bool (Bt.hasKey es k)]) ∧ Below w.heap.size w w'

set_option maxHeartbeats 1000000 in
theorem bsearch_any (es : List Bt.Entry) (v : Value) (k : Int) (w : World) (he : EntRow w v es) (hs : Asc es) (h5 : es.length ≤ 5) :
    Calls Tryz.prog 106 #[v, .int .u32 k, .func (.func 107) #[] #[]] w (SearchPost es k w) := by
  have hcl := Lib.hid (child_le es k)
  have Hs := Lib.hid hs
  rcases he.form with ⟨rfl, rfl⟩ | ⟨b, off, cap, rfl, hlt, hcells⟩
  · go_enter Tryz.func106, Tryz.ntmps106
    go_wp2_with fail
    refine wp_loop_rounds 1 ?_
    rw [rounds_succ]
    go_wp2_with fail
    go_ret2
    exact ⟨rfl, Below.refl _ _⟩
  · have Hc := Lib.hid hcells
    clear hcells he hs
    go_enter Tryz.func106, Tryz.ntmps106
    go_wp2_with fail
    go_loopw [9, 10] (fun i j wr => BsRel es k w i j wr) (fun i j _ => (intOf j - intOf i).toNat)
    case atStart => exact ⟨0, es.length, rfl, rfl, Nat.zero_le _, hcl.out, Nat.le_refl _, Below.refl _ _⟩
    case round =>
      obtain ⟨a, c, rfl, rfl, h1, h2, h3, hbw⟩ := hrel
      have HB := Lib.hid (And.intro h1 h2)
      clear h1 h2
      by_cases hac : a < c
      · obtain ⟨h, hh⟩ : ∃ h : Nat, h = (a + c) / 2 := ⟨_, rfl⟩
        have hh1 : a ≤ h := by omega
        have hh2 : h < c := by omega
        have hh3 : ((a : Int) + c) / 2 = (h : Int) := by omega
        have hlt2 : h < es.length := by omega
        obtain ⟨c0, c1, c2⟩ := three Hc.out hlt2
        rw [← hbw.cell (p := ⟨b, off + h * 3, none⟩) hlt] at c0
        rw [← hbw.cell (p := ⟨b, off + h * 3 + 1, none⟩) hlt] at c1
        rw [← hbw.cell (p := ⟨b, off + h * 3 + 2, none⟩) hlt] at c2
        have HS := Lib.hid (child_spec es k Hs.out h hlt2)
        by_cases hk : es[h].key < k
        · have hcmp : cmpOf es[h].key k = -1 := by simp [cmpOf, hk]
          have HK := Lib.hid hk
          clear hk hh
          go_wp2_with (go_at_call 107; refine (child1_any es[h] k _).mono ?_; rintro e w1 ⟨rfl, hb⟩; rw [hcmp]; ((obtain ⟨hc1, hf1⟩ := below_rules hb; have hs1 := Below.size hb; try simp only [size_alloc, size_setCell, size_drew, size_drewN] at hs1 hc1 hf1); (try have z1_wr_0 : wr.heap.size < w1.heap.size := by omega)))
          all_goals
            have hb1 := HB.out
            refine ⟨⟨h + 1, c, by go_num, rfl, ?_, hb1.2, h3, by (repeat (first | with_reducible exact Below.refl _ _ | with_reducible assumption | with_reducible refine Below.setCell ?_ (by first | (simp; done) | (simp; omega)) _ | with_reducible refine below_alloc ?_ _ | with_reducible refine below_drewN ?_ _ | with_reducible refine Below.drew ?_ | with_reducible refine below_step ?_ (by assumption)))⟩, by simp [intOf]; omega⟩
            have := HS.out.1 HK.out
            omega
        · have hcmp : decide (cmpOf es[h].key k < 0) = false := by simp [cmpOf, hk]; split <;> omega
          have HK := Lib.hid hk
          clear hk hh
          go_wp2_with (go_at_call 107; refine (child1_any es[h] k _).mono ?_; rintro e w1 ⟨rfl, hb⟩; ((obtain ⟨hc1, hf1⟩ := below_rules hb; have hs1 := Below.size hb; try simp only [size_alloc, size_setCell, size_drew, size_drewN] at hs1 hc1 hf1); (try have z1_wr_0 : wr.heap.size < w1.heap.size := by omega)))
          all_goals
            have hb1 := HB.out
            refine ⟨⟨a, h, rfl, rfl, hb1.1, ?_, by omega, by (repeat (first | with_reducible exact Below.refl _ _ | with_reducible assumption | with_reducible refine Below.setCell ?_ (by first | (simp; done) | (simp; omega)) _ | with_reducible refine below_alloc ?_ _ | with_reducible refine below_drewN ?_ _ | with_reducible refine Below.drew ?_ | with_reducible refine below_step ?_ (by assumption)))⟩, by simp [intOf]; omega⟩
            have h9 := HS.out
            have h8 := HK.out
            by_cases h7 : h < Bt.child es k
            · have := h9.2 h7; omega
            · omega
      · have hb1 := HB.out
        have hae : Bt.child es k = a := by omega
        have HE := Lib.hid hae
        clear hae hb1
        by_cases hlt2 : a < es.length
        · obtain ⟨c0, c1, c2⟩ := three Hc.out hlt2
          rw [← hbw.cell (p := ⟨b, off + a * 3, none⟩) hlt] at c0
          rw [← hbw.cell (p := ⟨b, off + a * 3 + 1, none⟩) hlt] at c1
          rw [← hbw.cell (p := ⟨b, off + a * 3 + 2, none⟩) hlt] at c2
          have HH : Hid (Bt.hasKey es k = decide (es[a].key = k)) := Lib.hid (by simp [Bt.hasKey, HE.out, List.getElem?_eq_getElem hlt2])
          have HC : Hid ((cmpOf es[a].key k == 0) = decide (es[a].key = k)) := Lib.hid (by
            unfold cmpOf
            by_cases h7 : es[a].key < k
            · have : ¬ es[a].key = k := by omega
              simp [h7, this]
            · by_cases h8 : k < es[a].key
              · have : ¬ es[a].key = k := by omega
                simp [h7, h8, this]
              · have : es[a].key = k := by omega
                simp [this])
          have hlt3 : decide (a < es.length) = true := by simp [hlt2]
          go_wp2_with (go_at_call 107; refine (child1_any es[a] k _).mono ?_; rintro e w1 ⟨rfl, hb⟩; ((obtain ⟨hc1, hf1⟩ := below_rules hb; have hs1 := Below.size hb; try simp only [size_alloc, size_setCell, size_drew, size_drewN] at hs1 hc1 hf1); (try have z1_wr_0 : wr.heap.size < w1.heap.size := by omega)))
          all_goals go_ret2
          all_goals exact ⟨by rw [HE.out, HH.out, ← HC.out]; rfl, by (repeat (first | with_reducible exact Below.refl _ _ | with_reducible assumption | with_reducible refine Below.setCell ?_ (by first | (simp; done) | (simp; omega)) _ | with_reducible refine below_alloc ?_ _ | with_reducible refine below_drewN ?_ _ | with_reducible refine Below.drew ?_ | with_reducible refine below_step ?_ (by assumption)))⟩
        · have HH : Hid (Bt.hasKey es k = false) := Lib.hid (by simp [Bt.hasKey, HE.out, List.getElem?_eq_none (Nat.le_of_not_lt hlt2)])
          have hlt3 : decide (a < es.length) = false := by simp [hlt2]
          go_wp2_with fail
          all_goals go_ret2
          all_goals exact ⟨by rw [HE.out, HH.out]; rfl, by (repeat (first | with_reducible exact Below.refl _ _ | with_reducible assumption | with_reducible refine Below.setCell ?_ (by first | (simp; done) | (simp; omega)) _ | with_reducible refine below_alloc ?_ _ | with_reducible refine below_drewN ?_ _ | with_reducible refine Below.drew ?_ | with_reducible refine below_step ?_ (by assumption)))⟩

/-- What a node that can be stored says of its entries. -/
theorem valid_asc (n : Bt.Node) (hv : n.valid = true) : Asc n.entries ∧ n.entries.length ≤ 5 := by
  unfold Bt.Node.valid at hv
  split at hv
  · cases hv
  · rename_i h
    have hr : Bt.rising n.entries = true := by
      cases hr : Bt.rising n.entries with
      | true => rfl
      | false => exact absurd (Or.inr (Or.inr (Or.inr (Or.inl hr)))) h
    exact ⟨(asc_of_rising _ 0 hr).1, by omega⟩

theorem child_any (n : Bt.Node) (v : Value) (k : Int) (w : World) (he : EntRow w v n.entries) (hs : Asc n.entries) (h5 : n.entries.length ≤ 5) : Calls Tryz.prog 91 #[.agg (nodeCells n v), .int .u32 k] w
    fun e w' => e = .returned (.int .i64 (Bt.child n.entries k)) ∧ Below w.heap.size w w' := by
  have He := Lib.hid he
  clear he
  unfold nodeCells
  go_enter Tryz.func91, Tryz.ntmps91
  go_wp2_with fail
  go_at_call 106; refine (bsearch_any n.entries v k _ ?hpg hs h5).mono ?_
  case hpg => exact He.out.below (by (repeat (first | with_reducible exact Below.refl _ _ | with_reducible assumption | with_reducible refine Below.setCell ?_ (by first | (simp; done) | (simp; omega)) _ | with_reducible refine below_alloc ?_ _ | with_reducible refine below_drewN ?_ _ | with_reducible refine Below.drew ?_ | with_reducible refine below_step ?_ (by assumption))))
  rintro e w1 ⟨rfl, hb⟩
  go_wp2_with fail
  go_ret
  exact ⟨rfl, by (repeat (first | with_reducible exact Below.refl _ _ | with_reducible assumption | with_reducible refine Below.setCell ?_ (by first | (simp; done) | (simp; omega)) _ | with_reducible refine below_alloc ?_ _ | with_reducible refine below_drewN ?_ _ | with_reducible refine Below.drew ?_ | with_reducible refine below_step ?_ (by assumption)))⟩
end Go.Proofs.YtjmpekanlmepmaaGreatDoor
namespace Go.Proofs.YtjmpekanlmepmaaGreatDoor
open Go.RowKit

set_option maxRecDepth 10000 in
set_option maxHeartbeats 1000000 in
theorem search_any (n : Bt.Node) (v : Value) (k : Int) (w : World) (he : EntRow w v n.entries) (hs : Asc n.entries) (h5 : n.entries.length ≤ 5) : Calls Tryz.prog 84 #[.agg (nodeCells n v), .int .u32 k] w (SearchPost n.entries k w) := by
  have He := Lib.hid he
  have Hs := Lib.hid hs
  obtain ⟨c, hc⟩ : ∃ c, c = Bt.child n.entries k := ⟨_, rfl⟩
  have hcl : c ≤ n.entries.length := by rw [hc]; exact child_le _ _
  have HC := Lib.hid hc
  clear hs hc
  unfold nodeCells
  rcases he.form with ⟨rfl, hes⟩ | ⟨b, off, cap, rfl, hlt, hcells⟩
  · have hl0 : n.entries.length = 0 := by rw [hes]; rfl
    have hc0 : c = 0 := by omega
    subst hc0
    have HH : Hid (Bt.hasKey n.entries k = false) := Lib.hid (by rw [hes]; rfl)
    clear hes he hl0 hcl
    go_enter Tryz.func84, Tryz.ntmps84
    go_wp2_with fail
    go_at_call 91; refine (child_any n _ k _ ?hpg Hs.out h5).mono ?_
    case hpg => exact He.out.below (by (repeat (first | with_reducible exact Below.refl _ _ | with_reducible assumption | with_reducible refine Below.setCell ?_ (by first | (simp; done) | (simp; omega)) _ | with_reducible refine below_alloc ?_ _ | with_reducible refine below_drewN ?_ _ | with_reducible refine Below.drew ?_ | with_reducible refine below_step ?_ (by assumption))))
    rintro e w1 ⟨rfl, hb⟩; rw [← HC.out]; ((obtain ⟨hc1, hf1⟩ := below_rules hb; have hs1 := Below.size hb; try simp only [size_alloc, size_setCell, size_drew, size_drewN] at hs1 hc1 hf1); (try have z1_w_0 : w.heap.size < w1.heap.size := by omega); (try have z1_w_1 : w.heap.size + 1 < w1.heap.size := by omega))
    go_wp2_with fail
    refine wp_region_held_drew (S := SteadyAll _) (by kernel_rfl) (SteadyAll.of (Below.refl _ _).drew) ?_
    intro hSt
    refine wpAnyH_seq (is := [0, 1, 2, 3, 4, 5, 6, 7, 8, 9, 10, 11, 12, 13, 14, 15, 16, 17]) (by kernel_rfl) (by kernel_rfl) (fun _ _ d _ _ h => by cases d <;> exact h) (by assumption) ?_
    iterate 18 (first | (refine TakeSeq.step (v := undef) rfl (Or.inr ⟨by rfl, rfl⟩) ?_; simp only [Act.put, List.setIfInBounds_toArray, List.set_cons_zero, List.set_cons_succ, List.getElem_toArray, List.getElem_cons_zero, List.getElem_cons_succ]) | (refine TakeSeq.step (v := ?_) rfl (Or.inl ⟨by rfl, ?_⟩) ?_; rotate_left 1; (focus (intro wq hSq; have hrd := hSq.rule; go_simp; with_reducible rfl)); simp only [Act.put, List.setIfInBounds_toArray, List.set_cons_zero, List.set_cons_succ, List.getElem_toArray, List.getElem_cons_zero, List.getElem_cons_succ]))
    refine TakeSeq.done ?_
    refine wpAnyH_done (by kernel_rfl) ?_ _
    go_wp2_with fail
    go_ret2
    exact ⟨by rw [← HC.out, HH.out]; rfl, by (repeat (first | with_reducible exact Below.refl _ _ | with_reducible assumption | with_reducible refine Below.setCell ?_ (by first | (simp; done) | (simp; omega)) _ | with_reducible refine below_alloc ?_ _ | with_reducible refine below_drewN ?_ _ | with_reducible refine Below.drew ?_ | with_reducible refine below_step ?_ (by assumption)))⟩
  · have Hc := Lib.hid hcells
    clear hcells he
    by_cases hlt2 : c < n.entries.length
    · obtain ⟨c0, c1, c2⟩ := three Hc.out hlt2
      have HH : Hid (Bt.hasKey n.entries k = (n.entries[c].key == k)) := Lib.hid (by simp only [Bt.hasKey, ← HC.out, List.getElem?_eq_getElem hlt2]; rfl)
      have hlt3 : decide (c < n.entries.length) = true := by simp [hlt2]
      have hi1 : (0 : Int) ≤ c := by omega
      have hi2 : (c : Int) < n.entries.length := by omega
      go_enter Tryz.func84, Tryz.ntmps84
      go_wp2_with fail
      go_at_call 91; refine (child_any n _ k _ ?hpg Hs.out h5).mono ?_
      case hpg => exact He.out.below (by (repeat (first | with_reducible exact Below.refl _ _ | with_reducible assumption | with_reducible refine Below.setCell ?_ (by first | (simp; done) | (simp; omega)) _ | with_reducible refine below_alloc ?_ _ | with_reducible refine below_drewN ?_ _ | with_reducible refine Below.drew ?_ | with_reducible refine below_step ?_ (by assumption))))
      rintro e w1 ⟨rfl, hb⟩; rw [← HC.out]; ((obtain ⟨hc1, hf1⟩ := below_rules hb; have hs1 := Below.size hb; try simp only [size_alloc, size_setCell, size_drew, size_drewN] at hs1 hc1 hf1); (try have z1_w_0 : w.heap.size < w1.heap.size := by omega); (try have z1_w_1 : w.heap.size + 1 < w1.heap.size := by omega))
      have hlt4 : b < w1.heap.size := by omega
      go_wp2_with fail
      refine wp_region_held_drew (S := SteadyAll _) (by kernel_rfl) (SteadyAll.of (Below.refl _ _).drew) ?_
      intro hSt
      refine wpAnyH_seq (is := [0, 1, 2, 3, 4, 5, 6, 7, 8, 9, 10, 11, 12, 13, 14, 15, 16, 17]) (by kernel_rfl) (by kernel_rfl) (fun _ _ d _ _ h => by cases d <;> exact h) (by assumption) ?_
      iterate 18 (first | (refine TakeSeq.step (v := undef) rfl (Or.inr ⟨by rfl, rfl⟩) ?_; simp only [Act.put, List.setIfInBounds_toArray, List.set_cons_zero, List.set_cons_succ, List.getElem_toArray, List.getElem_cons_zero, List.getElem_cons_succ]) | (refine TakeSeq.step (v := ?_) rfl (Or.inl ⟨by rfl, ?_⟩) ?_; rotate_left 1; (focus (intro wq hSq; have hrd := hSq.rule; go_simp; with_reducible rfl)); simp only [Act.put, List.setIfInBounds_toArray, List.set_cons_zero, List.set_cons_succ, List.getElem_toArray, List.getElem_cons_zero, List.getElem_cons_succ]))
      refine TakeSeq.done ?_
      refine wpAnyH_done (by kernel_rfl) ?_ _
      go_wp2_with fail
      go_ret2
      exact ⟨by rw [← HC.out, HH.out]; rfl, by (repeat (first | with_reducible exact Below.refl _ _ | with_reducible assumption | with_reducible refine Below.setCell ?_ (by first | (simp; done) | (simp; omega)) _ | with_reducible refine below_alloc ?_ _ | with_reducible refine below_drewN ?_ _ | with_reducible refine Below.drew ?_ | with_reducible refine below_step ?_ (by assumption)))⟩
    · have HH : Hid (Bt.hasKey n.entries k = false) := Lib.hid (by simp only [Bt.hasKey, ← HC.out, List.getElem?_eq_none (Nat.le_of_not_lt hlt2)])
      have hlt3 : decide (c < n.entries.length) = false := by simp [hlt2]
      go_enter Tryz.func84, Tryz.ntmps84
      go_wp2_with fail
      go_at_call 91; refine (child_any n _ k _ ?hpg Hs.out h5).mono ?_
      case hpg => exact He.out.below (by (repeat (first | with_reducible exact Below.refl _ _ | with_reducible assumption | with_reducible refine Below.setCell ?_ (by first | (simp; done) | (simp; omega)) _ | with_reducible refine below_alloc ?_ _ | with_reducible refine below_drewN ?_ _ | with_reducible refine Below.drew ?_ | with_reducible refine below_step ?_ (by assumption))))
      rintro e w1 ⟨rfl, hb⟩; rw [← HC.out]; ((obtain ⟨hc1, hf1⟩ := below_rules hb; have hs1 := Below.size hb; try simp only [size_alloc, size_setCell, size_drew, size_drewN] at hs1 hc1 hf1); (try have z1_w_0 : w.heap.size < w1.heap.size := by omega); (try have z1_w_1 : w.heap.size + 1 < w1.heap.size := by omega))
      go_wp2_with fail
      refine wp_region_held_drew (S := SteadyAll _) (by kernel_rfl) (SteadyAll.of (Below.refl _ _).drew) ?_
      intro hSt
      refine wpAnyH_seq (is := [0, 1, 2, 3, 4, 5, 6, 7, 8, 9, 10, 11, 12, 13, 14, 15, 16, 17]) (by kernel_rfl) (by kernel_rfl) (fun _ _ d _ _ h => by cases d <;> exact h) (by assumption) ?_
      iterate 18 (first | (refine TakeSeq.step (v := undef) rfl (Or.inr ⟨by rfl, rfl⟩) ?_; simp only [Act.put, List.setIfInBounds_toArray, List.set_cons_zero, List.set_cons_succ, List.getElem_toArray, List.getElem_cons_zero, List.getElem_cons_succ]) | (refine TakeSeq.step (v := ?_) rfl (Or.inl ⟨by rfl, ?_⟩) ?_; rotate_left 1; (focus (intro wq hSq; have hrd := hSq.rule; go_simp; with_reducible rfl)); simp only [Act.put, List.setIfInBounds_toArray, List.set_cons_zero, List.set_cons_succ, List.getElem_toArray, List.getElem_cons_zero, List.getElem_cons_succ]))
      refine TakeSeq.done ?_
      refine wpAnyH_done (by kernel_rfl) ?_ _
      go_wp2_with fail
      go_ret2
      exact ⟨by rw [← HC.out, HH.out]; rfl, by (repeat (first | with_reducible exact Below.refl _ _ | with_reducible assumption | with_reducible refine Below.setCell ?_ (by first | (simp; done) | (simp; omega)) _ | with_reducible refine below_alloc ?_ _ | with_reducible refine below_drewN ?_ _ | with_reducible refine Below.drew ?_ | with_reducible refine below_step ?_ (by assumption)))⟩
end Go.Proofs.YtjmpekanlmepmaaGreatDoor
