/- planner.Make at the sanity check's program, and the sanity check itself. -/
import Derived.Test.YtoidjgongafnkaaGreatDoorWGF
import Derived.Test.YtoidjgongafnkaaGreatDoorWGB
import Derived.Deep.RegionHeld3
import Derived.BigRegion
set_option linter.unusedVariables false
set_option linter.unusedSimpArgs false
set_option linter.unusedSectionVars false
set_option linter.constructorNameAsVariable false
namespace Go.Proofs.YtoidjgongafnkaaGreatDoor
open Go.RowKit

theorem predicted_any (w : World) : Calls Tryz.prog 46 #[.agg #[.int .i64 5, .int .u32 5, .int .u32 0, .int .i64 0, .int .i64 0, .int .i64 0, .int .i64 0, .int .i64 0, .int .i64 0, .int .i64 0, .int .i64 0, .int .i64 0]] w
    fun e w' => e = .returned (.tuple #[.int .i64 2, .int .i64 0]) ∧ Below w.heap.size w w' := by
  go_enter Tryz.func46, Tryz.ntmps46
  go_wp2
  go_ret2
  exact ⟨rfl, below_alloc (Below.refl _ _) _⟩

/-- The frame of planner.Make at the two predictions; what each operation yields. -/
def makeF (b n m : Nat) (s : ByteArray) (u : Nat → Value) : Array Value := #[.slice (some ⟨b, 0, none⟩) 1 1, .slice none 0 0, .int .i64 1, .bool false, undef, undef, undef, undef, .pointer (some ⟨n, 0, none⟩), .int .i64 0, .string s, .int .i64 0, .pointer (some ⟨m, 0, none⟩), .int .i64 2, .int .i64 0, undef, .pointer (some ⟨m + 1, 0, none⟩), .int .i64 2, .int .i64 0, u 19, u 20, .tuple #[.string s, .int .i64 0], .slice (some ⟨b, 0, none⟩) 1 1, .tuple #[.string s, .int .i64 0], .string s, .int .i64 0, .int .i64 0, .bool false, .bool false, .int .i64 1, .bool false, .bool false, .bool false, .int .i64 1, .bool false, .bool false, undef, .slice (some ⟨b, 0, none⟩) 1 1, .int .i64 1, .int .i64 0, .bool true, .pointer (some ⟨b, 0, none⟩), .agg #[.int .i64 5, .int .u32 5, .int .u32 0, .int .i64 0, .int .i64 0, .int .i64 0, .int .i64 0, .int .i64 0, .int .i64 0, .int .i64 0, .int .i64 0, .int .i64 0], .bool false, .bool false, undef, undef, .bool false, undef, .tuple #[.int .i64 2, .int .i64 0], .agg #[.int .i64 5, .int .u32 5, .int .u32 0, .int .i64 0, .int .i64 0, .int .i64 0, .int .i64 0, .int .i64 0, .int .i64 0, .int .i64 0, .int .i64 0, .int .i64 0], .tuple #[.int .i64 2, .int .i64 0], .int .i64 2, .int .i64 0, .int .i64 0, .int .i64 2, .int .i64 2, .int .i64 0, .int .i64 0, .int .i64 0, u 60, u 61, u 62, u 63, u 64, u 65, u 66, u 67, undef, undef, undef, undef, undef, undef, undef, undef, undef, undef, undef, undef, undef, undef, undef, undef, undef, undef, undef, undef, undef, undef, undef, undef, undef, undef, undef, undef, undef, undef, undef, undef, undef, undef, undef, undef, undef, undef, undef, undef, undef, undef, undef, undef, undef, undef, undef, undef, undef, undef, undef, undef, undef, undef, undef, undef]
def makeSlot (j : Nat) : Nat := if j < 8 then 60 + j else if j = 8 then 19 else if j = 9 then 20 else 1000 + j
def makeR (m : Nat) : Nat → Value → World → Prop
  | 0, v, _ => v = .pointer (some ⟨m + 1, 1, none⟩)
  | 1, v, _ => v = .int .u32 5
  | 2, v, _ => v = .slice none 0 0
  | 3, v, _ => v = .int .i64 4
  | 4, v, _ => v = .pointer (some ⟨m + 1, 1, none⟩)
  | 5, v, _ => v = .int .u32 5
  | 6, v, _ => v = .slice none 0 0
  | 7, v, _ => v = .int .i64 5
  | 8, v, _ => v = .int .i64 4
  | 9, v, _ => v = .int .i64 5
  | _, _, _ => True
theorem makeR_kept (m : Nat) {w w' : World} : ∀ j x, makeR m j x w → makeR m j x w' := by
  intro j x h
  unfold makeR at h ⊢
  split at h <;> exact h

/-- The frame of planner.Make at the append; what each operation yields. -/
theorem info3 : (Tryz.prog.info? 3).map (fun i => (i.zero, i.size, i.bytes)) = some (some (.int .i64 0), 1, 8) := by kernel_rfl
def makeF2 (b n m : Nat) (s : ByteArray) (q u : Nat → Value) : Array Value := #[.slice (some ⟨b, 0, none⟩) 1 1, .slice none 0 0, .int .i64 1, .bool false, undef, undef, undef, undef, .pointer (some ⟨n, 0, none⟩), .int .i64 0, .string s, .int .i64 0, .pointer (some ⟨m, 0, none⟩), .int .i64 2, .int .i64 0, undef, .pointer (some ⟨m + 1, 0, none⟩), .int .i64 2, .int .i64 0, q 19, q 20, .tuple #[.string s, .int .i64 0], .slice (some ⟨b, 0, none⟩) 1 1, .tuple #[.string s, .int .i64 0], .string s, .int .i64 0, .int .i64 0, .bool false, .bool false, .int .i64 1, .bool false, .bool false, .bool false, .int .i64 1, .bool false, .bool false, undef, .slice (some ⟨b, 0, none⟩) 1 1, .int .i64 1, .int .i64 0, .bool true, .pointer (some ⟨b, 0, none⟩), .agg #[.int .i64 5, .int .u32 5, .int .u32 0, .int .i64 0, .int .i64 0, .int .i64 0, .int .i64 0, .int .i64 0, .int .i64 0, .int .i64 0, .int .i64 0, .int .i64 0], .bool false, .bool false, undef, undef, .bool false, undef, .tuple #[.int .i64 2, .int .i64 0], .agg #[.int .i64 5, .int .u32 5, .int .u32 0, .int .i64 0, .int .i64 0, .int .i64 0, .int .i64 0, .int .i64 0, .int .i64 0, .int .i64 0, .int .i64 0, .int .i64 0], .tuple #[.int .i64 2, .int .i64 0], .int .i64 2, .int .i64 0, .int .i64 0, .int .i64 2, .int .i64 2, .int .i64 0, .int .i64 0, .int .i64 0, q 60, q 61, q 62, q 63, q 64, q 65, q 66, q 67, undef, undef, undef, undef, undef, undef, undef, undef, undef, undef, .bool false, .pointer (some ⟨m + 1, 0, none⟩), .int .i64 5, .bool false, .bool false, .pointer (some ⟨m + 1, 0, none⟩), .int .i64 5, .bool false, .bool false, .bool false, .pointer (some ⟨m + 1, 0, none⟩), .int .i64 5, .bool false, .bool false, undef, undef, undef, undef, undef, undef, undef, undef, undef, undef, .bool true, q 19, q 20, .bool true, u 106, u 107, u 108, u 109, u 110, u 111, u 112, u 113, u 114, u 115, undef, undef, undef, undef, undef, undef, undef, undef]
def makeSlot2 (j : Nat) : Nat := if j < 9 then 106 + j else if j = 10 then 115 else 1000 + j
def NewAt (m : Nat) (v : Value) (w : World) : Prop := ∃ x, v = .slice (some ⟨x, 0, none⟩) 1 1 ∧ Blk w x 3 #[.int .i64 1] ∧ x ≠ m
def AppAt (m : Nat) (v : Value) (w : World) : Prop := ∃ g cap, v = .slice (some ⟨g, 0, none⟩) 1 cap ∧ w.cell? ⟨g, 0, none⟩ = some (.int .i64 1) ∧ g < w.heap.size ∧ g ≠ m
def makeR2 (m : Nat) : Nat → Value → World → Prop
  | 0, v, _ => v = .pointer (some ⟨m, 0, none⟩)
  | 1, v, _ => v = .slice none 0 0
  | 2, v, w => NewAt m v w
  | 3, v, w => AppAt m v w
  | 4, v, _ => v = .pointer (some ⟨m, 1, none⟩)
  | 5, v, _ => v = .int .i64 0
  | 6, v, _ => v = .int .i64 4
  | 7, v, _ => v = .int .i64 4
  | 8, v, _ => v = .pointer (some ⟨m, 0, none⟩)
  | 10, v, _ => v = .pointer (some ⟨m, 1, none⟩)
  | _, _, _ => True
theorem makeR2_kept (m : Nat) {w w' : World} (hb : Below w.heap.size w w') : ∀ j x, makeR2 m j x w → makeR2 m j x w' := by
  intro j x h
  unfold makeR2 at h ⊢
  split at h
  case h_3 => obtain ⟨y, h1, h2, h3⟩ := h; exact ⟨y, h1, h2.kept hb, h3⟩
  case h_4 => obtain ⟨y, c, h1, h2, h3, h4⟩ := h; exact ⟨y, c, h1, (hb.cell (p := ⟨y, 0, none⟩) h3).trans h2, Nat.lt_of_lt_of_le h3 hb.size, h4⟩
  all_goals exact h
theorem makeR2_put (m k : Nat) (v : Value) {w : World} : ∀ j x, makeR2 m j x w → makeR2 m j x (w.setCell ⟨m, k, none⟩ v) := by
  intro j x h
  unfold makeR2 at h ⊢
  split at h
  case h_3 => obtain ⟨y, h1, h2, h3⟩ := h; exact ⟨y, h1, h2.aside (p := ⟨m, k, none⟩) h3 v, h3⟩
  case h_4 => obtain ⟨y, c, h1, h2, h3, h4⟩ := h; exact ⟨y, c, h1, by rw [World.cell?_setCell_other _ _ _ _ (by intro e; injection e with e1; exact h4 e1.symm)]; exact h2, by simpa using h3, h4⟩
  all_goals exact h
def makeC2 (n m : Nat) (w : World) (D : Nat → Bool) (u : Nat → Value) (wx : World) : Prop :=
  Blk wx n 85 #[.slice none 0 0, .int .i64 0, .int .i64 0, .int .i64 0] ∧ Below w.heap.size w wx ∧ (D 9 = false → Blk wx m 85 #[.slice none 0 0, .int .i64 0, .int .i64 0, .int .i64 0]) ∧ (D 9 = true → D 11 = false → Blk wx m 85 #[u 109, .int .i64 0, .int .i64 0, .int .i64 0]) ∧ (D 11 = true → Blk wx m 85 #[u 109, .int .i64 4, .int .i64 0, .int .i64 0])
theorem makeC2_pure {n m : Nat} {w wx : World} {D : Nat → Bool} {u : Nat → Value} {i s : Nat} {v : Value} (h : makeC2 n m w D u wx) (h9 : 9 ≠ i) (h11 : 11 ≠ i) (hs : 109 ≠ s) : makeC2 n m w (plus D i) (upd u s v) wx := by
  unfold makeC2 at *
  rw [plus_other D i 9 h9, plus_other D i 11 h11, upd_other u s 109 v hs]
  exact h
theorem makeC2_call {n m : Nat} {w wx wy : World} {D : Nat → Bool} {u : Nat → Value} {i s : Nat} {v : Value} (h : makeC2 n m w D u wx) (hb : Below wx.heap.size wx wy) (d9 : D 9 = false) (d11 : D 11 = false) (h9 : 9 ≠ i) (h11 : 11 ≠ i) : makeC2 n m w (plus D i) (upd u s v) wy := by
  unfold makeC2 at *
  rw [plus_other D i 9 h9, plus_other D i 11 h11, d9, d11]
  exact ⟨h.1.kept hb, below_step h.2.1 hb, fun _ => (h.2.2.1 d9).kept hb, fun h => by simp at h, fun h => by simp at h⟩
theorem makeC2_store {n m : Nat} {w wx : World} {D : Nat → Bool} {u : Nat → Value} {s : Nat} {v : Value} (h : makeC2 n m w D u wx) (d9 : D 9 = false) (d11 : D 11 = false) (hs : 109 ≠ s) (hnm : n ≠ m) (hm : w.heap.size ≤ m) : makeC2 n m w (plus D 9) (upd u s v) (wx.setCell ⟨m, 0, none⟩ (u 109)) := by
  unfold makeC2 at *
  rw [plus_self, plus_other D 9 11 (by decide), d11, upd_other u s 109 v hs]
  exact ⟨h.1.aside (p := ⟨m, 0, none⟩) hnm _, h.2.1.setCell (p := ⟨m, 0, none⟩) hm _, fun h => by simp at h, fun _ _ => (h.2.2.1 d9).put 0 _, fun h => by simp at h⟩
theorem makeC2_last {n m : Nat} {w wx : World} {D : Nat → Bool} {u : Nat → Value} {s : Nat} {v : Value} (h : makeC2 n m w D u wx) (d9 : D 9 = true) (d11 : D 11 = false) (hs : 109 ≠ s) (hnm : n ≠ m) (hm : w.heap.size ≤ m) : makeC2 n m w (plus D 11) (upd u s v) (wx.setCell ⟨m, 1, none⟩ (.int .i64 4)) := by
  unfold makeC2 at *
  rw [plus_self, plus_other D 11 9 (by decide), d9, upd_other u s 109 v hs]
  exact ⟨h.1.aside (p := ⟨m, 1, none⟩) hnm _, h.2.1.setCell (p := ⟨m, 1, none⟩) hm _, fun h => by simp at h, fun _ h => by simp at h, fun _ => (h.2.2.2.1 d9 d11).put 1 _⟩

def PlanPost (w : World) (e : Ending) (w' : World) : Prop :=
  ∃ g cap, e = .returned (.tuple #[.agg #[.slice (some ⟨g, 0, none⟩) 1 cap, .int .i64 4, .int .i64 1, .int .i64 2], .int .i64 0]) ∧ w'.cell? ⟨g, 0, none⟩ = some (.int .i64 1) ∧ g < w'.heap.size ∧ Below w.heap.size w w'

set_option maxRecDepth 100000 in
set_option maxHeartbeats 1000000 in
theorem make_any (b : Nat) (w : World) (hB : Blk w b 93 #[.int .i64 5, .int .u32 5, .int .u32 0, .int .i64 0, .int .i64 0, .int .i64 0, .int .i64 0, .int .i64 0, .int .i64 0, .int .i64 0, .int .i64 0, .int .i64 0]) :
    Calls Tryz.prog 22 #[.slice (some ⟨b, 0, none⟩) 1 1, .slice none 0 0, .int .i64 1, .bool false] w (PlanPost w) := by
  obtain ⟨i0, hi, hz0, hz1, hz2⟩ := info_parts info3
  go_enter Tryz.func22, Tryz.ntmps22
  go_wp2_with fail
  refine (format_any b _ (hB.alloc _)).mono ?_
  rintro e w1 ⟨s, rfl, hb1⟩
  have B1 := (hB.alloc _).kept hb1
  have P1 := (Blk.made w _ _).kept hb1
  have hbl := below_step (below_alloc (Below.refl _ _) _) hb1
  have lp := P1.lt
  have lb := B1.lt
  have kb := B1.cell
  clear hb1
  go_wp2_with fail
  refine wp_loop_rounds 2 ?_
  rw [rounds_succ]
  go_wp2_with fail
  refine (predicted_any _).mono ?_
  rintro e w2 ⟨rfl, hb2⟩
  have P2 := ((P1.alloc _).alloc _).kept hb2
  have L2 := ((Blk.made w1 _ _).alloc _).kept hb2
  have S2 := (Blk.made' (n := w1.heap.size + 1) (w := w1.alloc _) (by simp)).kept hb2
  have hbl2 := below_step (below_alloc (below_alloc hbl _) _) hb2
  clear hb2 hbl kb
  go_wp2_with fail
  refine wp_region_values (makeF b w.heap.size w1.heap.size s) makeSlot (fun _ => makeR w1.heap.size) (fun _ _ wx => Blk wx w.heap.size 85 #[.slice none 0 0, .int .i64 0, .int .i64 0, .int .i64 0] ∧ Blk wx w1.heap.size 85 #[.slice none 0 0, .int .i64 0, .int .i64 0, .int .i64 0] ∧ Blk wx (w1.heap.size + 1) 93 #[.int .i64 5, .int .u32 5, .int .u32 0, .int .i64 0, .int .i64 0, .int .i64 0, .int .i64 0, .int .i64 0, .int .i64 0, .int .i64 0, .int .i64 0, .int .i64 0] ∧ Below w.heap.size w wx) (fun k => if k = 19 then undef else undef) (by kernel_rfl) (by kernel_rfl)
    (fun i j hi hj => by simp only [List.size_toArray, List.length_cons, List.length_nil] at hi; unfold makeSlot; (repeat' split) <;> omega) ⟨P2.drew, L2.drew, S2.drew, hbl2.drew⟩ ?_ ?_
  · intro i o ho
    match i, ho with
    | 0, ho =>
      obtain rfl := Option.some.inj ho
      intro D u wx hcl hni hC hpre K hK
      clear hpre hcl
      refine wpOp_plain rfl rfl ?_
      unfold makeF
      go_wp2_with fail
      first | exact ⟨rfl, hC, fun _ _ h => h⟩ | (have key := hK (.pointer (some ⟨w1.heap.size + 1, 1, none⟩)) wx ⟨rfl, hC, fun _ _ h => h⟩; simpa [makeF, makeSlot, upd] using key)
    | 1, ho =>
      obtain rfl := Option.some.inj ho
      intro D u wx hcl hni hC hpre K hK
      obtain h60 : u 60 = .pointer (some ⟨w1.heap.size + 1, 1, none⟩) := (hpre ⟨0, .data⟩ (by simp) rfl).2
      have k0 := hC.2.2.1.cell
      clear hpre hcl
      refine wpOp_plain rfl rfl ?_
      unfold makeF
      go_wp2_with fail
      first | exact ⟨rfl, hC, fun _ _ h => h⟩ | (have key := hK (.int .u32 5) wx ⟨rfl, hC, fun _ _ h => h⟩; simpa [makeF, makeSlot, upd, h60] using key)
    | 2, ho =>
      obtain rfl := Option.some.inj ho
      intro D u wx hcl hni hC hpre K hK
      clear hpre hcl
      refine wpOp_plain rfl rfl ?_
      unfold makeF
      go_wp2_with fail
      first | exact ⟨rfl, hC, fun _ _ h => h⟩ | (have key := hK (.slice none 0 0) wx ⟨rfl, hC, fun _ _ h => h⟩; simpa [makeF, makeSlot, upd] using key)
    | 3, ho =>
      obtain rfl := Option.some.inj ho
      intro D u wx hcl hni hC hpre K hK
      obtain h61 : u 61 = .int .u32 5 := (hpre ⟨1, .data⟩ (by simp) rfl).2
      obtain h62 : u 62 = .slice none 0 0 := (hpre ⟨2, .data⟩ (by simp) rfl).2
      clear hpre hcl
      refine wpOp_plain rfl rfl ?_
      unfold makeF
      go_wp2_with (go_at_call 23; refine (hash_any _).mono ?_; rintro e w3 ⟨rfl, hb⟩; refine halt ?_)
      refine unhalt ?_
      first | exact ⟨rfl, ⟨hC.1.kept hb, hC.2.1.kept hb, hC.2.2.1.kept hb, below_step hC.2.2.2 hb⟩, makeR_kept _⟩ | (have key := hK (.int .i64 4) w3 ⟨rfl, ⟨hC.1.kept hb, hC.2.1.kept hb, hC.2.2.1.kept hb, below_step hC.2.2.2 hb⟩, makeR_kept _⟩; simpa [makeF, makeSlot, upd, h61, h62] using key)
    | 4, ho =>
      obtain rfl := Option.some.inj ho
      intro D u wx hcl hni hC hpre K hK
      clear hpre hcl
      refine wpOp_plain rfl rfl ?_
      unfold makeF
      go_wp2_with fail
      first | exact ⟨rfl, hC, fun _ _ h => h⟩ | (have key := hK (.pointer (some ⟨w1.heap.size + 1, 1, none⟩)) wx ⟨rfl, hC, fun _ _ h => h⟩; simpa [makeF, makeSlot, upd] using key)
    | 5, ho =>
      obtain rfl := Option.some.inj ho
      intro D u wx hcl hni hC hpre K hK
      obtain h64 : u 64 = .pointer (some ⟨w1.heap.size + 1, 1, none⟩) := (hpre ⟨4, .data⟩ (by simp) rfl).2
      have k0 := hC.2.2.1.cell
      clear hpre hcl
      refine wpOp_plain rfl rfl ?_
      unfold makeF
      go_wp2_with fail
      first | exact ⟨rfl, hC, fun _ _ h => h⟩ | (have key := hK (.int .u32 5) wx ⟨rfl, hC, fun _ _ h => h⟩; simpa [makeF, makeSlot, upd, h64] using key)
    | 6, ho =>
      obtain rfl := Option.some.inj ho
      intro D u wx hcl hni hC hpre K hK
      clear hpre hcl
      refine wpOp_plain rfl rfl ?_
      unfold makeF
      go_wp2_with fail
      first | exact ⟨rfl, hC, fun _ _ h => h⟩ | (have key := hK (.slice none 0 0) wx ⟨rfl, hC, fun _ _ h => h⟩; simpa [makeF, makeSlot, upd] using key)
    | 7, ho =>
      obtain rfl := Option.some.inj ho
      intro D u wx hcl hni hC hpre K hK
      obtain h65 : u 65 = .int .u32 5 := (hpre ⟨5, .data⟩ (by simp) rfl).2
      obtain h66 : u 66 = .slice none 0 0 := (hpre ⟨6, .data⟩ (by simp) rfl).2
      clear hpre hcl
      refine wpOp_plain rfl rfl ?_
      unfold makeF
      go_wp2_with (go_at_call 24; refine (tree_any _).mono ?_; rintro e w3 ⟨rfl, hb⟩; refine halt ?_)
      refine unhalt ?_
      first | exact ⟨rfl, ⟨hC.1.kept hb, hC.2.1.kept hb, hC.2.2.1.kept hb, below_step hC.2.2.2 hb⟩, makeR_kept _⟩ | (have key := hK (.int .i64 5) w3 ⟨rfl, ⟨hC.1.kept hb, hC.2.1.kept hb, hC.2.2.1.kept hb, below_step hC.2.2.2 hb⟩, makeR_kept _⟩; simpa [makeF, makeSlot, upd, h65, h66] using key)
    | 8, ho =>
      obtain rfl := Option.some.inj ho
      intro D u wx hcl hni hC hpre K hK
      obtain h63 : u 63 = .int .i64 4 := (hpre ⟨3, .data⟩ (by simp) rfl).2
      clear hpre hcl
      refine wpOp_plain rfl rfl ?_
      unfold makeF
      go_wp2_with fail
      first | exact ⟨rfl, hC, fun _ _ h => h⟩ | (have key := hK (.int .i64 4) wx ⟨rfl, hC, fun _ _ h => h⟩; simpa [makeF, makeSlot, upd, h63] using key)
    | 9, ho =>
      obtain rfl := Option.some.inj ho
      intro D u wx hcl hni hC hpre K hK
      obtain h67 : u 67 = .int .i64 5 := (hpre ⟨7, .data⟩ (by simp) rfl).2
      clear hpre hcl
      refine wpOp_plain rfl rfl ?_
      unfold makeF
      go_wp2_with fail
      first | exact ⟨rfl, hC, fun _ _ h => h⟩ | (have key := hK (.int .i64 5) wx ⟨rfl, hC, fun _ _ h => h⟩; simpa [makeF, makeSlot, upd, h67] using key)
    | i + 10, ho => simp at ho
  · clear P2 L2 S2 hbl2 w2
    intro D q wx hC hall
    have h19 : q 19 = .int .i64 4 := (hall 8 (by decide)).2
    have h20 : q 20 = .int .i64 5 := (hall 9 (by decide)).2
    obtain ⟨P2, L2, S2, hbl2⟩ := hC
    clear hall
    have kl := L2.cell
    have fl := L2.free
    have ks := S2.cell
    unfold makeF
    go_wp2_with fail
    refine wp_region_values (makeF2 b w.heap.size w1.heap.size s q) makeSlot2 (fun _ => makeR2 w1.heap.size) (makeC2 w.heap.size w1.heap.size w) (fun _ => undef) (by kernel_rfl) (by kernel_rfl)
      (fun i j hi hj => by simp only [List.size_toArray, List.length_cons, List.length_nil] at hi; unfold makeSlot2; (repeat' split) <;> omega) ⟨P2.drew, hbl2.drew, fun _ => L2.drew, fun h => by simp at h, fun h => by simp at h⟩ ?_ ?_
    · clear kl fl ks P2 L2 S2 hbl2 wx D h20
      intro i o ho
      match i, ho with
      | 0, ho =>
        obtain rfl := Option.some.inj ho
        intro D u wx hcl hni hC hpre K hK
        clear hpre hcl
        refine wpOp_plain rfl rfl ?_
        unfold makeF2
        go_wp2_with fail
        first | exact ⟨rfl, makeC2_pure hC (by decide) (by decide) (by decide), fun _ _ h => h⟩ | (have key := hK (.pointer (some ⟨w1.heap.size, 0, none⟩)) wx ⟨rfl, makeC2_pure hC (by decide) (by decide) (by decide), fun _ _ h => h⟩; simpa [makeF2, makeSlot2, upd, h19] using key)
      | 1, ho =>
        obtain rfl := Option.some.inj ho
        intro D u wx hcl hni hC hpre K hK
        obtain h106 : u 106 = .pointer (some ⟨w1.heap.size, 0, none⟩) := (hpre ⟨0, .data⟩ (by simp) rfl).2
        have d9 : D 9 = false := hcl.later (j := 9) rfl hni (e := ⟨1, .phase⟩) (by simp) rfl rfl
        have d11 : D 11 = false := hcl.later (j := 11) rfl hni (e := ⟨1, .phase⟩) (by simp) rfl rfl
        have k0 := (hC.2.2.1 d9).cell
        clear hpre hcl
        refine wpOp_plain rfl rfl ?_
        unfold makeF2
        go_wp2_with fail
        first | exact ⟨rfl, makeC2_pure hC (by decide) (by decide) (by decide), fun _ _ h => h⟩ | (have key := hK (.slice none 0 0) wx ⟨rfl, makeC2_pure hC (by decide) (by decide) (by decide), fun _ _ h => h⟩; simpa [makeF2, makeSlot2, upd, h19, h106] using key)
      | 2, ho =>
        obtain rfl := Option.some.inj ho
        intro D u wx hcl hni hC hpre K hK
        have d9 : D 9 = false := hcl.later (j := 9) rfl hni (e := ⟨2, .phase⟩) (by simp) rfl rfl
        have d11 : D 11 = false := hcl.later (j := 11) rfl hni (e := ⟨2, .phase⟩) (by simp) rfl rfl
        have hml := (hC.2.2.1 d9).lt
        clear hpre hcl
        refine wpOp_plain rfl rfl ?_
        unfold makeF2
        go_wp2_with fail
        first | exact ⟨⟨_, rfl, Blk.made' rfl, by omega⟩, makeC2_call hC (below_alloc (Below.refl _ _) _) d9 d11 (by decide) (by decide), makeR2_kept _ (below_alloc (Below.refl _ _) _)⟩ | (have key := hK (.slice (some ⟨wx.heap.size, 0, none⟩) 1 1) (wx.alloc (.cells #[.int .i64 1] 3)) ⟨⟨_, rfl, Blk.made' rfl, by omega⟩, makeC2_call hC (below_alloc (Below.refl _ _) _) d9 d11 (by decide) (by decide), makeR2_kept _ (below_alloc (Below.refl _ _) _)⟩; simpa [makeF2, makeSlot2, upd, h19] using key)
      | 3, ho =>
        obtain rfl := Option.some.inj ho
        intro D u wx hcl hni hC hpre K hK
        obtain h107 : u 107 = .slice none 0 0 := (hpre ⟨1, .data⟩ (by simp) rfl).2
        obtain ⟨x, h108, hx, hxm⟩ : NewAt w1.heap.size (u 108) wx := (hpre ⟨2, .data⟩ (by simp) rfl).2
        have d9 : D 9 = false := hcl.later (j := 9) rfl hni (e := ⟨3, .phase⟩) (by simp) rfl rfl
        have d11 : D 11 = false := hcl.later (j := 11) rfl hni (e := ⟨3, .phase⟩) (by simp) rfl rfl
        clear hpre hcl
        refine wpOp_plain rfl rfl ?_
        unfold makeF2
        refine wp_append_mine (.tmp 107) (.tmp 108) 83 rfl wx.heap.size 3 i0 _ 1 8 Tryz.underlying83 hi hz0 hz1 hz2 rfl (by decide) (.slice none 0 0) 0 [] h107 (World.ownsRow_nil _ _ _ _) ⟨x, 0, none⟩ 1 1 [.int .i64 1] h108 rfl (one_news (hx.cell 0)) (by intro u hu; simp at hu; subst hu; rfl) (by omega) (by unfold maxLen; omega) (by omega) (Nat.le_refl _) ?_
        intro g cap w3 hown hg
        have hb3 : Below wx.heap.size wx w3 := below_grown (Below.refl _ _) hg (by simp [Value.ownBlock])
        have hgl := own_lt hown
        have hml := (hC.2.2.1 d9).lt
        first | exact ⟨⟨g, cap, rfl, own_cells hown 0 _ rfl, hgl.2, by omega⟩, makeC2_call hC hb3 d9 d11 (by decide) (by decide), makeR2_kept _ hb3⟩ | (have key := hK (.slice (some ⟨g, 0, none⟩) 1 cap) w3 ⟨⟨g, cap, rfl, own_cells hown 0 _ rfl, hgl.2, by omega⟩, makeC2_call hC hb3 d9 d11 (by decide) (by decide), makeR2_kept _ hb3⟩; simpa [makeF2, makeSlot2, upd, h19, Act.put, h107, h108] using key)
      | 4, ho =>
        obtain rfl := Option.some.inj ho
        intro D u wx hcl hni hC hpre K hK
        clear hpre hcl
        refine wpOp_plain rfl rfl ?_
        unfold makeF2
        go_wp2_with fail
        first | exact ⟨rfl, makeC2_pure hC (by decide) (by decide) (by decide), fun _ _ h => h⟩ | (have key := hK (.pointer (some ⟨w1.heap.size, 1, none⟩)) wx ⟨rfl, makeC2_pure hC (by decide) (by decide) (by decide), fun _ _ h => h⟩; simpa [makeF2, makeSlot2, upd, h19] using key)
      | 5, ho =>
        obtain rfl := Option.some.inj ho
        intro D u wx hcl hni hC hpre K hK
        obtain h110 : u 110 = .pointer (some ⟨w1.heap.size, 1, none⟩) := (hpre ⟨4, .data⟩ (by simp) rfl).2
        have d9 : D 9 = false := hcl.later (j := 9) rfl hni (e := ⟨5, .phase⟩) (by simp) rfl rfl
        have d11 : D 11 = false := hcl.later (j := 11) rfl hni (e := ⟨5, .phase⟩) (by simp) rfl rfl
        have k0 := (hC.2.2.1 d9).cell
        clear hpre hcl
        refine wpOp_plain rfl rfl ?_
        unfold makeF2
        go_wp2_with fail
        first | exact ⟨rfl, makeC2_pure hC (by decide) (by decide) (by decide), fun _ _ h => h⟩ | (have key := hK (.int .i64 0) wx ⟨rfl, makeC2_pure hC (by decide) (by decide) (by decide), fun _ _ h => h⟩; simpa [makeF2, makeSlot2, upd, h19, h110] using key)
      | 6, ho =>
        obtain rfl := Option.some.inj ho
        intro D u wx hcl hni hC hpre K hK
        clear hpre hcl
        refine wpOp_plain rfl rfl ?_
        unfold makeF2
        go_wp2_with fail
        first | exact ⟨rfl, makeC2_pure hC (by decide) (by decide) (by decide), fun _ _ h => h⟩ | (have key := hK (.int .i64 4) wx ⟨rfl, makeC2_pure hC (by decide) (by decide) (by decide), fun _ _ h => h⟩; simpa [makeF2, makeSlot2, upd, h19] using key)
      | 7, ho =>
        obtain rfl := Option.some.inj ho
        intro D u wx hcl hni hC hpre K hK
        obtain h111 : u 111 = .int .i64 0 := (hpre ⟨5, .data⟩ (by simp) rfl).2
        obtain h112 : u 112 = .int .i64 4 := (hpre ⟨6, .data⟩ (by simp) rfl).2
        clear hpre hcl
        refine wpOp_plain rfl rfl ?_
        unfold makeF2
        go_wp2_with fail
        first | exact ⟨rfl, makeC2_pure hC (by decide) (by decide) (by decide), fun _ _ h => h⟩ | (have key := hK (.int .i64 4) wx ⟨rfl, makeC2_pure hC (by decide) (by decide) (by decide), fun _ _ h => h⟩; simpa [makeF2, makeSlot2, upd, h19, h111, h112] using key)
      | 8, ho =>
        obtain rfl := Option.some.inj ho
        intro D u wx hcl hni hC hpre K hK
        clear hpre hcl
        refine wpOp_plain rfl rfl ?_
        unfold makeF2
        go_wp2_with fail
        first | exact ⟨rfl, makeC2_pure hC (by decide) (by decide) (by decide), fun _ _ h => h⟩ | (have key := hK (.pointer (some ⟨w1.heap.size, 0, none⟩)) wx ⟨rfl, makeC2_pure hC (by decide) (by decide) (by decide), fun _ _ h => h⟩; simpa [makeF2, makeSlot2, upd, h19] using key)
      | 9, ho =>
        obtain rfl := Option.some.inj ho
        intro D u wx hcl hni hC hpre K hK
        obtain h114 : u 114 = .pointer (some ⟨w1.heap.size, 0, none⟩) := (hpre ⟨8, .data⟩ (by simp) rfl).2
        obtain ⟨g, cap, h109, hg1, hg2, hg3⟩ : AppAt w1.heap.size (u 109) wx := (hpre ⟨3, .data⟩ (by simp) rfl).2
        have d11 : D 11 = false := hcl.later (j := 11) rfl hni (e := ⟨9, .phase⟩) (by simp) rfl rfl
        have k0 := (hC.2.2.1 hni).cell
        have f0 := (hC.2.2.1 hni).free
        clear hpre hcl
        refine wpOp_plain rfl rfl ?_
        unfold makeF2
        go_wp2_with fail
        first | exact ⟨trivial, makeC2_store hC hni d11 (by decide) (by omega) (by omega), makeR2_put _ _ _⟩ | (have key := hK undef (wx.setCell ⟨w1.heap.size, 0, none⟩ (u 109)) ⟨trivial, makeC2_store hC hni d11 (by decide) (by omega) (by omega), makeR2_put _ _ _⟩; simpa [makeF2, makeSlot2, upd, h19, h114, h109] using key)
      | 10, ho =>
        obtain rfl := Option.some.inj ho
        intro D u wx hcl hni hC hpre K hK
        clear hpre hcl
        refine wpOp_plain rfl rfl ?_
        unfold makeF2
        go_wp2_with fail
        first | exact ⟨rfl, makeC2_pure hC (by decide) (by decide) (by decide), fun _ _ h => h⟩ | (have key := hK (.pointer (some ⟨w1.heap.size, 1, none⟩)) wx ⟨rfl, makeC2_pure hC (by decide) (by decide) (by decide), fun _ _ h => h⟩; simpa [makeF2, makeSlot2, upd, h19] using key)
      | 11, ho =>
        obtain rfl := Option.some.inj ho
        intro D u wx hcl hni hC hpre K hK
        obtain h115 : u 115 = .pointer (some ⟨w1.heap.size, 1, none⟩) := (hpre ⟨10, .data⟩ (by simp) rfl).2
        obtain h113 : u 113 = .int .i64 4 := (hpre ⟨7, .data⟩ (by simp) rfl).2
        have d9 := (hpre ⟨9, .phase⟩ (by simp) rfl).1
        have k0 := (hC.2.2.2.1 d9 hni).cell
        have f0 := (hC.2.2.2.1 d9 hni).free
        clear hpre hcl
        refine wpOp_plain rfl rfl ?_
        unfold makeF2
        go_wp2_with fail
        first | exact ⟨trivial, makeC2_last hC d9 hni (by decide) (by omega) (by omega), makeR2_put _ _ _⟩ | (have key := hK undef (wx.setCell ⟨w1.heap.size, 1, none⟩ (.int .i64 4)) ⟨trivial, makeC2_last hC d9 hni (by decide) (by omega) (by omega), makeR2_put _ _ _⟩; simpa [makeF2, makeSlot2, upd, h19, h115, h113] using key)
      | i + 12, ho => simp at ho
    · clear kl fl ks P2 L2 S2 hbl2 wx D h19 h20
      intro D u wx hC hall
      obtain ⟨g, cap, h109, hg1, hg2, hg3⟩ : AppAt w1.heap.size (u 109) wx := (hall 3 (by decide)).2
      have L := hC.2.2.2.2 (hall 11 (by decide)).1
      rw [h109] at L
      have P := hC.1
      have hbl := hC.2.1
      clear hall hC h109
      unfold makeF2
      go_wp2
      rw [rounds_succ]
      go_wp2_with fail
      refine (planCommit_any 1 2 0 _).mono ?_
      rw [show costT 1 2 0 = 1 from by decide, show costV 1 2 0 = 2 from by decide]
      rintro e w4 ⟨rfl, hb4⟩
      have L4 := L.kept hb4
      have P4 := P.kept hb4
      have hbl4 := below_step hbl hb4
      have hg4 := (hb4.cell (p := ⟨g, 0, none⟩) hg2).trans hg1
      have hg5 := Nat.lt_of_lt_of_le hg2 hb4.size
      clear hb4 hbl L P hg1 hg2
      have kl := L4.cell
      have fl := L4.free
      have kp := P4.cell
      have fp := P4.free
      go_wp2_with fail
      have hne : w.heap.size ≠ w1.heap.size := by omega
      have hblk := (((((P4.aside (p := ⟨w1.heap.size, 2, none⟩) hne (.int .i64 1)).aside (p := ⟨w1.heap.size, 3, none⟩) hne (.int .i64 2)).put 0 (.slice (some ⟨g, 0, none⟩) 1 cap)).put 1 (.int .i64 4)).put 2 (.int .i64 1)).put 3 (.int .i64 2)
      refine bodyPost_ret (results_blk_tmp rfl _ _ w.heap.size 85 _ _ rfl hblk Tryz.underlying85 rfl (by kernel_rfl)) rfl ⟨g, cap, rfl, ?_, by simpa using hg5, ?_⟩
      · have hgn : g ≠ w.heap.size := by
          rintro rfl
          have := P4.cell 0
          rw [hg4] at this
          simp at this
        repeat rw [World.cell?_setCell_other _ _ _ _ (by intro e; injection e with e1; first | exact hgn e1.symm | exact hg3 e1.symm)]
        exact hg4
      · repeat (first | with_reducible exact hbl4 | with_reducible refine Below.setCell ?_ (by simp; try omega) _)
end Go.Proofs.YtoidjgongafnkaaGreatDoor
