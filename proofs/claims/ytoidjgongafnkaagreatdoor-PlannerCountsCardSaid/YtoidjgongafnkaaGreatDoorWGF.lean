/- The text of a program of one statement: query.Format. -/
import Derived.Test.YtoidjgongafnkaaGreatDoorWGE
import Derived.Test.YtoidjgongafnkaaGreatDoorWShelf
import Derived.Test.YtoidjgongafnkaaGreatDoorWGC
set_option linter.unusedVariables false
set_option linter.unusedSimpArgs false
set_option linter.unusedSectionVars false
set_option linter.constructorNameAsVariable false
namespace Go.Proofs.YtoidjgongafnkaaGreatDoor
open Go.RowKit

def SomeText (w : World) (e : Ending) (w' : World) : Prop := ∃ s, e = .returned (.tuple #[.string s, .int .i64 0]) ∧ Below w.heap.size w w'

/-- The table of forms; the address of its sixth entry; a new entry. -/
def FormsAt (v : Value) (w : World) : Prop := ∃ c c2, v = .slice (some ⟨c, 0, none⟩) 10 10 ∧ w.cell? ⟨c, 10, none⟩ = some (.string ⟨#[103, 101, 116]⟩) ∧ w.cell? ⟨c, 11, none⟩ = some (.slice (some ⟨c2, 0, none⟩) 1 1) ∧ w.cell? ⟨c2, 0, none⟩ = some (.int .i64 0) ∧ c < w.heap.size ∧ c2 < w.heap.size
def AtForm (v : Value) (w : World) : Prop := ∃ c c2, v = .pointer (some ⟨c, 10, none⟩) ∧ w.cell? ⟨c, 10, none⟩ = some (.string ⟨#[103, 101, 116]⟩) ∧ w.cell? ⟨c, 11, none⟩ = some (.slice (some ⟨c2, 0, none⟩) 1 1) ∧ w.cell? ⟨c2, 0, none⟩ = some (.int .i64 0) ∧ c < w.heap.size ∧ c2 < w.heap.size
def IsForm (v : Value) (w : World) : Prop := ∃ c2, v = .agg #[.string ⟨#[103, 101, 116]⟩, .slice (some ⟨c2, 0, none⟩) 1 1] ∧ w.cell? ⟨c2, 0, none⟩ = some (.int .i64 0) ∧ c2 < w.heap.size
def NewForm (n : Nat) (v : Value) (w : World) : Prop := ∃ g, v = .pointer (some ⟨g, 0, none⟩) ∧ Blk w g 174 #[.string ⟨#[]⟩, .slice none 0 0] ∧ n < g
theorem FormsAt.kept {v : Value} {w w' : World} (h : FormsAt v w) (hb : Below w.heap.size w w') : FormsAt v w' :=
  let ⟨c, c2, h1, h2, h3, h4, h5, h6⟩ := h
  ⟨c, c2, h1, (hb.cell (p := ⟨c, 10, none⟩) h5).trans h2, (hb.cell (p := ⟨c, 11, none⟩) h5).trans h3, (hb.cell (p := ⟨c2, 0, none⟩) h6).trans h4, Nat.lt_of_lt_of_le h5 hb.size, Nat.lt_of_lt_of_le h6 hb.size⟩
theorem AtForm.kept {v : Value} {w w' : World} (h : AtForm v w) (hb : Below w.heap.size w w') : AtForm v w' :=
  let ⟨c, c2, h1, h2, h3, h4, h5, h6⟩ := h
  ⟨c, c2, h1, (hb.cell (p := ⟨c, 10, none⟩) h5).trans h2, (hb.cell (p := ⟨c, 11, none⟩) h5).trans h3, (hb.cell (p := ⟨c2, 0, none⟩) h6).trans h4, Nat.lt_of_lt_of_le h5 hb.size, Nat.lt_of_lt_of_le h6 hb.size⟩
theorem IsForm.kept {v : Value} {w w' : World} (h : IsForm v w) (hb : Below w.heap.size w w') : IsForm v w' :=
  let ⟨c2, h1, h4, h6⟩ := h
  ⟨c2, h1, (hb.cell (p := ⟨c2, 0, none⟩) h6).trans h4, Nat.lt_of_lt_of_le h6 hb.size⟩
theorem NewForm.kept {n : Nat} {v : Value} {w w' : World} (h : NewForm n v w) (hb : Below w.heap.size w w') : NewForm n v w' :=
  let ⟨g, h1, h2, h3⟩ := h
  ⟨g, h1, h2.kept hb, h3⟩

def formatF (b n : Nat) (u : Nat → Value) : Array Value := #[.slice (some ⟨b, 0, none⟩) 1 1, undef, .string ⟨#[]⟩, .int .i64 0, .slice none 0 0, undef, .pointer (some ⟨n, 0, none⟩), u 7, undef, undef, undef, .slice (some ⟨b, 0, none⟩) 1 1, .int .i64 1, .bool false, .bool false, .slice (some ⟨b, 0, none⟩) 1 1, .int .i64 1, .bool false, .bool false, .slice (some ⟨b, 0, none⟩) 1 1, .int .i64 1, .int .i64 0, .bool true, .pointer (some ⟨b, 0, none⟩), .agg #[.int .i64 5, .int .u32 5, .int .u32 0, .int .i64 0, .int .i64 0, .int .i64 0, .int .i64 0, .int .i64 0, .int .i64 0, .int .i64 0, .int .i64 0, .int .i64 0], .agg #[.int .i64 5, .int .u32 5, .int .u32 0, .int .i64 0, .int .i64 0, .int .i64 0, .int .i64 0, .int .i64 0, .int .i64 0, .int .i64 0, .int .i64 0, .int .i64 0], .bool true, .bool false, u 28, u 29, u 30, u 31, u 32, undef, undef, undef, undef, undef, undef, undef, undef, undef, undef, undef, undef, undef, undef, undef, undef, undef, undef, undef, undef, undef, undef, undef, undef]
def formatSlot (j : Nat) : Nat := if j = 5 then 7 else if j < 5 then 28 + j else 1000 + j
def formatR (n : Nat) : Nat → Value → World → Prop
  | 0, v, w => FormsAt v w
  | 1, v, _ => v = .pointer (some ⟨n, 0, none⟩)
  | 2, v, _ => v = .int .i64 5
  | 3, v, w => AtForm v w
  | 4, v, w => IsForm v w
  | 5, v, w => NewForm n v w
  | _, _, _ => True
theorem formatR_kept (n : Nat) {w w' : World} (hb : Below w.heap.size w w') : ∀ j x, formatR n j x w → formatR n j x w' := by
  intro j x h
  unfold formatR at h ⊢
  split at h <;> first | exact FormsAt.kept h hb | exact AtForm.kept h hb | exact IsForm.kept h hb | exact NewForm.kept h hb | exact h
/-- The new entry is filled. -/
def Filled (v : Value) (w : World) : Prop := ∃ g c2, v = .pointer (some ⟨g, 0, none⟩) ∧ Blk w g 174 #[.string ⟨#[103, 101, 116]⟩, .slice (some ⟨c2, 0, none⟩) 1 1] ∧ w.cell? ⟨c2, 0, none⟩ = some (.int .i64 0) ∧ c2 < w.heap.size
def formatC (n : Nat) (w : World) (D : Nat → Bool) (u : Nat → Value) (wx : World) : Prop := Blk wx n 93 #[.int .i64 5, .int .u32 5, .int .u32 0, .int .i64 0, .int .i64 0, .int .i64 0, .int .i64 0, .int .i64 0, .int .i64 0, .int .i64 0, .int .i64 0, .int .i64 0] ∧ Below w.heap.size w wx ∧ (D 6 = true → Filled (u 7) wx)
theorem formatC_pure {n : Nat} {w wx : World} {D : Nat → Bool} {u : Nat → Value} {i s : Nat} {v : Value} (h : formatC n w D u wx) (h6 : D 6 = false) (hi : 6 ≠ i) : formatC n w (plus D i) (upd u s v) wx :=
  ⟨h.1, h.2.1, fun hd => by rw [plus_other D i 6 hi, h6] at hd; exact absurd hd (by simp)⟩
theorem formatC_call {n : Nat} {w wx wy : World} {D : Nat → Bool} {u : Nat → Value} {i s : Nat} {v : Value} (h : formatC n w D u wx) (hb : Below wx.heap.size wx wy) (h6 : D 6 = false) (hi : 6 ≠ i) : formatC n w (plus D i) (upd u s v) wy :=
  ⟨h.1.kept hb, below_step h.2.1 hb, fun hd => by rw [plus_other D i 6 hi, h6] at hd; exact absurd hd (by simp)⟩
theorem till_pure {k : Nat} {R : Nat → Value → World → Prop} {D : Nat → Bool} {i : Nat} {w : World} (hk : D k = false) : ∀ j x, till k R D j x w → till k R (plus D i) j x w := fun _ _ h _ => h hk
theorem till_call {k : Nat} {R : Nat → Value → World → Prop} {D : Nat → Bool} {i : Nat} {w w' : World} (hk : D k = false) (hR : ∀ j x, R j x w → R j x w') : ∀ j x, till k R D j x w → till k R (plus D i) j x w' := fun j x h _ => hR j x (h hk)
theorem till_last {k : Nat} {R : Nat → Value → World → Prop} {D : Nat → Bool} {w w' : World} : ∀ j x, till k R D j x w → till k R (plus D k) j x w' := fun _ _ _ h => absurd h (by simp [plus])

def OneText (m : Nat) (w : World) (e : Ending) (w' : World) : Prop := ∃ s, e = .returned (.string s) ∧ s.data.toList.length ≤ m ∧ Below w.heap.size w w'
theorem join_any (g cap n m : Nat) (xs : List ByteArray) (sep : ByteArray) (w : World) (hn : xs.length = n) (hc : ∀ (j : Nat) x, xs[j]? = some x → w.cell? ⟨g, j, none⟩ = some (.string x)) (hg : g < w.heap.size) (hN : n ≤ 140737488355328) (hcap : n ≤ cap)
    (hlen : (Lib.join (xs.map (·.data.toList)) sep.data.toList).length ≤ m) (hm : m ≤ 140737488355328) : Calls Tryz.prog 82 #[.slice (some ⟨g, 0, none⟩) n cap, .string sep] w (OneText m w) := by
  subst hn
  exact (Tryz.strings_Join g 0 cap xs sep w (fun j x h => by rw [Nat.zero_add]; exact hc j x h) hg hN hcap (Nat.le_trans hlen hm)).mono fun _ _ h => ⟨_, h.1, by simpa using hlen, h.2⟩

theorem formatC_last {n : Nat} {w wx : World} {D : Nat → Bool} {u : Nat → Value} {v : Value} {g c2 : Nat} (h : formatC n w D u wx) (h7 : u 7 = .pointer (some ⟨g, 0, none⟩)) (hg : Blk wx g 174 #[.string ⟨#[]⟩, .slice none 0 0]) (hn : n < g) (hnw : w.heap.size ≤ n)
    (h3 : wx.cell? ⟨c2, 0, none⟩ = some (.int .i64 0)) (h5 : c2 < wx.heap.size) : formatC n w (plus D 6) (upd u (formatSlot 6) v) ((wx.setCell ⟨g, 0, none⟩ (.string ⟨#[103, 101, 116]⟩)).setCell ⟨g, 1, none⟩ (.slice (some ⟨c2, 0, none⟩) 1 1)) := by
  have hne : c2 ≠ g := by
    rintro rfl
    have := hg.cell 0
    rw [h3] at this
    simp at this
  refine ⟨(h.1.aside (p := ⟨g, 0, none⟩) (by show n ≠ g; omega) _).aside (p := ⟨g, 1, none⟩) (by show n ≠ g; omega) _, (h.2.1.setCell (p := ⟨g, 0, none⟩) (by show w.heap.size ≤ g; omega) _).setCell (p := ⟨g, 1, none⟩) (by show w.heap.size ≤ g; omega) _, fun _ => ⟨g, c2, ?_, (hg.put 0 _).put 1 _, ?_, by simpa using h5⟩⟩
  · rw [upd_other _ _ _ _ (by decide)]; exact h7
  · rw [World.cell?_setCell_other _ _ _ _ (by intro e; injection e with e1; exact hne e1.symm), World.cell?_setCell_other _ _ _ _ (by intro e; injection e with e1; exact hne e1.symm)]; exact h3

set_option maxRecDepth 100000 in
set_option maxHeartbeats 1000000 in
theorem format_any (b : Nat) (w : World) (hB : Blk w b 93 #[.int .i64 5, .int .u32 5, .int .u32 0, .int .i64 0, .int .i64 0, .int .i64 0, .int .i64 0, .int .i64 0, .int .i64 0, .int .i64 0, .int .i64 0, .int .i64 0]) :
    Calls Tryz.prog 44 #[.slice (some ⟨b, 0, none⟩) 1 1] w (SomeText w) := by
  obtain ⟨i0, hi, hz0, hz1, hz2⟩ := info_parts info9
  have kb := hB.cell
  have hlt := hB.lt
  go_enter Tryz.func44, Tryz.ntmps44
  go_wp2
  refine wp_loop_rounds 2 ?_
  rw [rounds_succ]
  go_wp2_with fail
  refine (valid_any _).mono ?_
  rintro e w1 ⟨rfl, hb1⟩
  have B0 := (Blk.made w _ _).kept hb1
  have hbel := below_step (below_alloc (Below.refl _ _) _) hb1
  have k0 := B0.cell
  have hlt1 := B0.lt
  clear hb1 kb
  go_wp2_with fail
  go_cut [7] (fun v wx => Filled v wx ∧ Blk wx w.heap.size 93 #[.int .i64 5, .int .u32 5, .int .u32 0, .int .i64 0, .int .i64 0, .int .i64 0, .int .i64 0, .int .i64 0, .int .i64 0, .int .i64 0, .int .i64 0, .int .i64 0] ∧ Below w.heap.size w wx)
  case first =>
    clear k0 hlt1
    refine wp_region_values (formatF b w.heap.size) formatSlot (till 6 (formatR w.heap.size)) (formatC w.heap.size w) (fun _ => undef) (by kernel_rfl) (by kernel_rfl)
      (fun i j hi hj => by simp only [List.size_toArray, List.length_cons, List.length_nil] at hi; unfold formatSlot; (repeat' split) <;> omega) ⟨B0.drew, hbel.drew, fun h => by simp at h⟩ ?_ ?_
    · intro i o ho
      match i, ho with
      | 0, ho =>
        obtain rfl := Option.some.inj ho
        intro D u wx hcl hni hC hpre K hK
        have h6 : D 6 = false := hcl.later (j := 6) rfl hni (e := ⟨0, .phase⟩) (by simp) rfl rfl
        clear hpre hcl
        refine wpOp_plain rfl rfl ?_
        unfold formatF
        go_wp2_with (go_at_call 80; refine (forms_any _).mono ?_; rintro e w2 ⟨c, c2, rfl, h1, h2, h3, h4, h5, hb2⟩; refine halt ?_)
        refine unhalt ?_
        first | exact ⟨fun _ => ⟨c, c2, rfl, h1, h2, h3, h4, h5⟩, formatC_call hC hb2 h6 (by decide), till_call h6 (formatR_kept _ hb2)⟩ | (have key := hK (.slice (some ⟨c, 0, none⟩) 10 10) w2 ⟨fun _ => ⟨c, c2, rfl, h1, h2, h3, h4, h5⟩, formatC_call hC hb2 h6 (by decide), till_call h6 (formatR_kept _ hb2)⟩; simpa [formatF, formatSlot, upd] using key)
      | 1, ho =>
        obtain rfl := Option.some.inj ho
        intro D u wx hcl hni hC hpre K hK
        have h6 : D 6 = false := hcl.later (j := 6) rfl hni (e := ⟨1, .phase⟩) (by simp) rfl rfl
        clear hpre hcl
        refine wpOp_plain rfl rfl ?_
        unfold formatF
        go_wp2_with fail
        first | exact ⟨fun _ => rfl, formatC_pure hC h6 (by decide), till_pure h6⟩ | (have key := hK (.pointer (some ⟨w.heap.size, 0, none⟩)) wx ⟨fun _ => rfl, formatC_pure hC h6 (by decide), till_pure h6⟩; simpa [formatF, formatSlot, upd] using key)
      | 2, ho =>
        obtain rfl := Option.some.inj ho
        intro D u wx hcl hni hC hpre K hK
        have h6 : D 6 = false := hcl.later (j := 6) rfl hni (e := ⟨2, .phase⟩) (by simp) rfl rfl
        obtain h29 : u 29 = .pointer (some ⟨w.heap.size, 0, none⟩) := (hpre ⟨1, .data⟩ (by simp) rfl).2 h6
        have k0 := hC.1.cell
        clear hpre hcl
        refine wpOp_plain rfl rfl ?_
        unfold formatF
        go_wp2_with fail
        first | exact ⟨fun _ => rfl, formatC_pure hC h6 (by decide), till_pure h6⟩ | (have key := hK (.int .i64 5) wx ⟨fun _ => rfl, formatC_pure hC h6 (by decide), till_pure h6⟩; simpa [formatF, formatSlot, upd, h29] using key)
      | 3, ho =>
        obtain rfl := Option.some.inj ho
        intro D u wx hcl hni hC hpre K hK
        have h6 : D 6 = false := hcl.later (j := 6) rfl hni (e := ⟨3, .phase⟩) (by simp) rfl rfl
        obtain ⟨c, c2, h28, h1, h2, h3, h4, h5⟩ : FormsAt (u 28) wx := (hpre ⟨0, .data⟩ (by simp) rfl).2 h6
        obtain h30 : u 30 = .int .i64 5 := (hpre ⟨2, .data⟩ (by simp) rfl).2 h6
        clear hpre hcl
        refine wpOp_plain rfl rfl ?_
        unfold formatF
        go_wp2_with fail
        first | exact ⟨fun _ => ⟨c, c2, rfl, h1, h2, h3, h4, h5⟩, formatC_pure hC h6 (by decide), till_pure h6⟩ | (have key := hK (.pointer (some ⟨c, 10, none⟩)) wx ⟨fun _ => ⟨c, c2, rfl, h1, h2, h3, h4, h5⟩, formatC_pure hC h6 (by decide), till_pure h6⟩; simpa [formatF, formatSlot, upd, h28, h30] using key)
      | 4, ho =>
        obtain rfl := Option.some.inj ho
        intro D u wx hcl hni hC hpre K hK
        have h6 : D 6 = false := hcl.later (j := 6) rfl hni (e := ⟨4, .phase⟩) (by simp) rfl rfl
        obtain ⟨c, c2, h31, h1, h2, h3, h4, h5⟩ : AtForm (u 31) wx := (hpre ⟨3, .data⟩ (by simp) rfl).2 h6
        clear hpre hcl
        refine wpOp_plain rfl rfl ?_
        unfold formatF
        go_wp2_with fail
        first | exact ⟨fun _ => ⟨c2, rfl, h3, h5⟩, formatC_pure hC h6 (by decide), till_pure h6⟩ | (have key := hK (.agg #[.string ⟨#[103, 101, 116]⟩, .slice (some ⟨c2, 0, none⟩) 1 1]) wx ⟨fun _ => ⟨c2, rfl, h3, h5⟩, formatC_pure hC h6 (by decide), till_pure h6⟩; simpa [formatF, formatSlot, upd, h31] using key)
      | 5, ho =>
        obtain rfl := Option.some.inj ho
        intro D u wx hcl hni hC hpre K hK
        have h6 : D 6 = false := hcl.later (j := 6) rfl hni (e := ⟨5, .phase⟩) (by simp) rfl rfl
        clear hpre hcl
        refine wpOp_plain rfl rfl ?_
        unfold formatF
        go_wp2_with fail
        first | exact ⟨fun _ => ⟨_, rfl, Blk.made' rfl, hC.1.lt⟩, formatC_call hC (below_alloc (Below.refl _ _) _) h6 (by decide), till_call h6 (formatR_kept _ (below_alloc (Below.refl _ _) _))⟩ | (have key := hK (.pointer (some ⟨wx.heap.size, 0, none⟩)) (wx.alloc (.cells #[.string ⟨#[]⟩, .slice none 0 0] 174)) ⟨fun _ => ⟨_, rfl, Blk.made' rfl, hC.1.lt⟩, formatC_call hC (below_alloc (Below.refl _ _) _) h6 (by decide), till_call h6 (formatR_kept _ (below_alloc (Below.refl _ _) _))⟩; simpa [formatF, formatSlot, upd] using key)
      | 6, ho =>
        obtain rfl := Option.some.inj ho
        intro D u wx hcl hni hC hpre K hK
        obtain ⟨c2, h32, h3, h5⟩ : IsForm (u 32) wx := (hpre ⟨4, .data⟩ (by simp) rfl).2 hni
        obtain ⟨g, h7, hg, hng⟩ : NewForm w.heap.size (u 7) wx := (hpre ⟨5, .data⟩ (by simp) rfl).2 hni
        have kg := hg.cell
        have fg := hg.free
        clear hpre hcl
        refine wpOp_plain rfl rfl ?_
        unfold formatF
        go_wp2_with fail
        first | exact ⟨fun h => absurd h (by simp [plus]), formatC_last hC h7 hg hng (Nat.le_refl _) h3 h5, till_last⟩ | (have key := hK undef ((wx.setCell ⟨g, 0, none⟩ (.string ⟨#[103, 101, 116]⟩)).setCell ⟨g, 1, none⟩ (.slice (some ⟨c2, 0, none⟩) 1 1)) ⟨fun h => absurd h (by simp [plus]), formatC_last hC h7 hg hng (Nat.le_refl _) h3 h5, till_last⟩; simpa [formatF, formatSlot, upd, h32, h7] using key)
      | i + 7, ho => simp at ho
    · intro D u wx hC hall
      unfold formatF
      go_wp2_with fail
      go_meet
      case rel => exact ⟨hC.2.2 (hall 6 (by decide)).1, hC.1, hC.2.1⟩
  case rest =>
    obtain ⟨⟨g, c2, rfl, hG, h3, h5⟩, hB, hbl⟩ := hcut
    clear k0 hlt1 hbel B0
    have kg := hG.cell
    have lg := hG.lt
    have k0 := hB.cell
    have l0 := hB.lt
    go_wp2_with fail
    refine wp_loop_rounds 2 ?_
    rw [rounds_succ]
    go_wp2_with fail
    refine (words_any _).mono ?_
    rintro e w3 ⟨b3, rfl, hc3, hl3, hb3⟩
    have Bt := (Blk.made wc _ _).kept hb3
    have hbl3 := below_step (below_alloc hbl _) hb3
    have hge : w.heap.size ≤ wc.heap.size := hbl.size
    clear kg k0 h3 h5 hb3 hbl
    go_wp2_with (at_builtin; refine halt ?_)
    refine unhalt ?_
    refine wpList_append_mine rfl (.tmp 43) (.tmp 46) 171 rfl w.heap.size 9 i0 _ 1 16 Tryz.underlying171 hi hz0 hz1 hz2 rfl (by decide) (.slice (some ⟨wc.heap.size, 0, none⟩) 1 1) 1 [.string ⟨#[103, 101, 116]⟩] rfl
      ⟨rfl, .inr ⟨_, _, _, rfl, hge, Bt, Nat.le_refl _, by unfold maxLen; omega, rfl, rfl⟩⟩ ⟨b3, 0, none⟩ 1 1 [.string ⟨#[53]⟩] rfl rfl (one_news hc3) (by intro u hu; simp at hu; subst hu; rfl) (by omega) (by unfold maxLen; omega) (by omega) hbl3.size ?_
    intro g4 cap4 w4 hown4 hg4
    have hc4 := own_cells hown4
    have hl4 := own_lt hown4
    have hbl4 := below_grown hbl3 hg4 (by simp [Value.ownBlock]; exact hge)
    have hcap4 := own_cap hown4
    clear hg4 hbl3 Bt hc3 hl3
    go_wp2
    rw [rounds_succ]
    go_wp2_with fail
    refine (join_any g4 cap4 2 64 [⟨#[103, 101, 116]⟩, ⟨#[53]⟩] ⟨#[32]⟩ w4 rfl ?_ hl4.2 (by omega) hcap4.1 (by decide) (by omega)).mono ?_
    · intro j x hx
      exact hc4 j (.string x) (by
        match j, hx with
        | 0, hx => simp at hx; subst hx; rfl
        | 1, hx => simp at hx; subst hx; rfl
        | j + 2, hx => simp at hx)
    rintro e w5 ⟨s5, rfl, hs5, hb5⟩
    have hbl5 := below_step hbl4 hb5
    clear hc4 hb5 hbl4
    go_wp2_with (at_builtin; refine halt ?_)
    refine unhalt ?_
    refine wpList_append_mine rfl (.tmp 49) (.tmp 52) 171 rfl w.heap.size 9 i0 _ 1 16 Tryz.underlying171 hi hz0 hz1 hz2 rfl (by decide) (.slice none 0 0) 0 [] rfl
      (World.ownsRow_nil _ _ _ _) ⟨w5.heap.size, 0, none⟩ 1 1 [.string s5] rfl rfl (one_news (by simp)) (by intro u hu; simp at hu; subst hu; rfl) (by omega) (by unfold maxLen; omega) (by omega) (by have := hbl5.size; simp; omega) ?_
    intro g6 cap6 w6 hown6 hg6
    have hc6 := own_cells hown6
    have hl6 := own_lt hown6
    have hbl6 := below_grown (below_alloc hbl5 _) hg6 (by simp [Value.ownBlock])
    have hcap6 := own_cap hown6
    clear hg6 hbl5
    go_wp2
    rw [rounds_succ]
    go_wp2_with fail
    refine (join_any g6 cap6 1 64 [s5] ⟨#[59, 32]⟩ w6 rfl ?_ hl6.2 (by omega) hcap6.1 (by simpa [Lib.join] using hs5) (by omega)).mono ?_
    · intro j x hx
      exact hc6 j (.string x) (by
        match j, hx with
        | 0, hx => simp at hx; subst hx; rfl
        | j + 1, hx => simp at hx)
    rintro e w7 ⟨s7, rfl, _, hb7⟩
    have hfin := below_step hbl6 hb7
    clear hc6 hb7 hbl6
    go_wp2_with fail
    go_ret2
    exact ⟨_, rfl, hfin⟩
end Go.Proofs.YtoidjgongafnkaaGreatDoor
