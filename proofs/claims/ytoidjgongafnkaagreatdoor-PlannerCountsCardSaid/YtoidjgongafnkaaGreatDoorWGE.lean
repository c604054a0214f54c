/- The text of a program of one statement: the words of a statement's part. -/
import Derived.Test.YtoidjgongafnkaaGreatDoorWGD
import Derived.Test.YtoidjgongafnkaaGreatDoorQa
import Derived.Deep.Cut
import Derived.Deep.DeepCutAuto
set_option linter.unusedVariables false
set_option linter.unusedSimpArgs false
set_option linter.unusedSectionVars false
set_option linter.constructorNameAsVariable false
namespace Go.Proofs.YtoidjgongafnkaaGreatDoor
open Go.RowKit

/-- A slice of n strings, its first one. -/
def Strs (n : Nat) (w : World) (e : Ending) (w' : World) : Prop :=
  ∃ b s, e = .returned (.slice (some ⟨b, 0, none⟩) n n) ∧ w'.cell? ⟨b, 0, none⟩ = some (.string s) ∧ b < w'.heap.size ∧ Below w.heap.size w w'

theorem columns_any (w : World) : Calls Tryz.prog 131 #[] w (Strs 3 w) := by
  go_enter Tryz.func131, Tryz.ntmps131
  go_wp2
  go_ret
  exact ⟨_, _, rfl, by simp; rfl, by simp, below_alloc (Below.refl _ _) _⟩

theorem comparisons_any (w : World) : Calls Tryz.prog 132 #[] w (Strs 7 w) := by
  go_enter Tryz.func132, Tryz.ntmps132
  go_wp2
  go_ret
  exact ⟨_, _, rfl, by simp; rfl, by simp, below_alloc (Below.refl _ _) _⟩

/-- A slice of n strings; the address of a string; a string. -/
def StrsAt (n : Nat) (v : Value) (w : World) : Prop := ∃ b s, v = .slice (some ⟨b, 0, none⟩) n n ∧ w.cell? ⟨b, 0, none⟩ = some (.string s) ∧ b < w.heap.size
def AtStr (v : Value) (w : World) : Prop := ∃ b s, v = .pointer (some ⟨b, 0, none⟩) ∧ w.cell? ⟨b, 0, none⟩ = some (.string s) ∧ b < w.heap.size
def IsStr (v : Value) : Prop := ∃ s, v = .string s
def IsSlice (v : Value) : Prop := ∃ b, v = .slice (some ⟨b, 0, none⟩) 3 3
theorem StrsAt.kept {n : Nat} {v : Value} {w w' : World} (h : StrsAt n v w) (hb : Below w.heap.size w w') : StrsAt n v w' :=
  let ⟨b, s, h1, h2, h3⟩ := h
  ⟨b, s, h1, (hb.cell (p := ⟨b, 0, none⟩) h3).trans h2, Nat.lt_of_lt_of_le h3 hb.size⟩
theorem AtStr.kept {v : Value} {w w' : World} (h : AtStr v w) (hb : Below w.heap.size w w') : AtStr v w' :=
  let ⟨b, s, h1, h2, h3⟩ := h
  ⟨b, s, h1, (hb.cell (p := ⟨b, 0, none⟩) h3).trans h2, Nat.lt_of_lt_of_le h3 hb.size⟩

/-- The frame of query.words at its first region; what each operation yields. -/
def wordsF (n : Nat) (u : Nat → Value) : Array Value := #[.agg #[.int .i64 5, .int .u32 5, .int .u32 0, .int .i64 0, .int .i64 0, .int .i64 0, .int .i64 0, .int .i64 0, .int .i64 0, .int .i64 0, .int .i64 0, .int .i64 0], .int .i64 0, .pointer (some ⟨n, 0, none⟩), undef, .slice none 0 0, u 5, undef, undef, undef, u 9, u 10, u 11, u 12, u 13, u 14, u 15, u 16, u 17, u 18, u 19, u 20, u 21, u 22, u 23, u 24, u 25, undef, undef, undef, undef, undef, undef, undef, undef, undef, undef, undef, undef, undef, undef, undef, undef, undef, undef, undef, undef, undef, undef, undef, undef, undef, undef, undef, undef, undef, undef, undef, undef, undef, undef, undef, undef, undef, undef, undef, undef, undef, undef, undef, undef, undef, undef, undef, undef, undef, undef, undef, undef, undef, undef, undef, undef, undef, undef, undef, undef, undef, undef, undef, undef, undef]
def wordsSlot (j : Nat) : Nat := if j = 17 then 5 else 9 + j
def wordsR (n : Nat) : Nat → Value → World → Prop
  | 0, v, w => StrsAt 3 v w
  | 1, v, _ => v = .pointer (some ⟨n, 8, none⟩)
  | 2, v, _ => v = .pointer (some ⟨n, 8, none⟩)
  | 3, v, _ => v = .int .i64 0
  | 4, v, w => AtStr v w
  | 5, v, _ => IsStr v
  | 6, v, w => StrsAt 7 v w
  | 7, v, _ => v = .pointer (some ⟨n, 8, none⟩)
  | 8, v, _ => v = .pointer (some ⟨n, 9, none⟩)
  | 9, v, _ => v = .int .i64 0
  | 10, v, w => AtStr v w
  | 11, v, _ => IsStr v
  | 12, v, _ => v = .pointer (some ⟨n, 8, none⟩)
  | 13, v, _ => v = .pointer (some ⟨n, 10, none⟩)
  | 14, v, _ => v = .int .i64 0
  | 15, v, _ => IsStr v
  | 16, v, _ => IsSlice v
  | 17, v, _ => IsSlice v
  | _, _, _ => True
theorem wordsR_kept (n : Nat) {w w' : World} (hb : Below w.heap.size w w') : ∀ j x, wordsR n j x w → wordsR n j x w' := by
  intro j x h
  unfold wordsR at h ⊢
  split at h <;> first | exact StrsAt.kept h hb | exact AtStr.kept h hb | exact h

set_option maxRecDepth 100000 in
theorem words_any (w : World) : Calls Tryz.prog 81 #[.agg #[.int .i64 5, .int .u32 5, .int .u32 0, .int .i64 0, .int .i64 0, .int .i64 0, .int .i64 0, .int .i64 0, .int .i64 0, .int .i64 0, .int .i64 0, .int .i64 0], .int .i64 0] w
    fun e w' => ∃ b, e = .returned (.slice (some ⟨b, 0, none⟩) 1 1) ∧ w'.cell? ⟨b, 0, none⟩ = some (.string ⟨#[53]⟩) ∧ b < w'.heap.size ∧ Below w.heap.size w w' := by
  go_enter Tryz.func81, Tryz.ntmps81
  go_wp2
  go_cut [5] (fun _ wx => Blk wx w.heap.size 93 #[.int .i64 5, .int .u32 5, .int .u32 0, .int .i64 0, .int .i64 0, .int .i64 0, .int .i64 0, .int .i64 0, .int .i64 0, .int .i64 0, .int .i64 0, .int .i64 0] ∧ Below w.heap.size w wx)
  case rest =>
    obtain ⟨hB, hbel⟩ := hcut
    have k0 := hB.cell
    go_wp2_with (go_at_call 133; refine (decimal_any _).mono ?_; rintro e w1 ⟨rfl, hb1⟩)
    go_ret
    exact ⟨_, rfl, by simp [go_sem], by simp, below_alloc (below_step hbel hb1) _⟩
  case first =>
    refine wp_region_values (wordsF w.heap.size) wordsSlot (fun _ => wordsR w.heap.size) (fun _ _ wx => Blk wx w.heap.size 93 #[.int .i64 5, .int .u32 5, .int .u32 0, .int .i64 0, .int .i64 0, .int .i64 0, .int .i64 0, .int .i64 0, .int .i64 0, .int .i64 0, .int .i64 0, .int .i64 0] ∧ Below w.heap.size w wx) (fun _ => undef) (by kernel_rfl) (by kernel_rfl)
      (fun i j hi hj => by simp only [List.size_toArray, List.length_cons, List.length_nil] at hi; unfold wordsSlot; split <;> split <;> omega) ⟨(Blk.made w 93 _).drew, (below_alloc (Below.refl _ _) _).drew⟩ ?_ ?_
    · intro i o ho
      match i, ho with
      | 0, ho =>
        obtain rfl := Option.some.inj ho
        intro D u wx hcl hni hC hpre K hK
        clear hpre hcl
        refine wpOp_plain rfl rfl ?_
        unfold wordsF
        go_wp2_with (go_at_call 131; refine (columns_any _).mono ?_; rintro e w1 ⟨b, s, rfl, hc, hl, hb⟩; refine halt ?_)
        refine unhalt ?_
        first | exact ⟨⟨b, s, rfl, hc, hl⟩, ⟨hC.1.kept hb, below_step hC.2 hb⟩, wordsR_kept _ hb⟩ | (have key := hK (.slice (some ⟨b, 0, none⟩) 3 3) w1 ⟨⟨b, s, rfl, hc, hl⟩, ⟨hC.1.kept hb, below_step hC.2 hb⟩, wordsR_kept _ hb⟩; simpa [wordsF, wordsSlot, upd] using key)
      | 1, ho =>
        obtain rfl := Option.some.inj ho
        intro D u wx hcl hni hC hpre K hK
        clear hpre hcl
        refine wpOp_plain rfl rfl ?_
        unfold wordsF
        go_wp2_with fail
        first | exact ⟨rfl, hC, fun _ _ h => h⟩ | (have key := hK (.pointer (some ⟨w.heap.size, 8, none⟩)) wx ⟨rfl, hC, fun _ _ h => h⟩; simpa [wordsF, wordsSlot, upd] using key)
      | 2, ho =>
        obtain rfl := Option.some.inj ho
        intro D u wx hcl hni hC hpre K hK
        obtain h1 : u 10 = .pointer (some ⟨w.heap.size, 8, none⟩) := (hpre ⟨1, .data⟩ (by simp) rfl).2
        clear hpre hcl
        refine wpOp_plain rfl rfl ?_
        unfold wordsF
        go_wp2_with fail
        first | exact ⟨rfl, hC, fun _ _ h => h⟩ | (have key := hK (.pointer (some ⟨w.heap.size, 8, none⟩)) wx ⟨rfl, hC, fun _ _ h => h⟩; simpa [wordsF, wordsSlot, upd, h1] using key)
      | 3, ho =>
        obtain rfl := Option.some.inj ho
        intro D u wx hcl hni hC hpre K hK
        obtain h2 : u 11 = .pointer (some ⟨w.heap.size, 8, none⟩) := (hpre ⟨2, .data⟩ (by simp) rfl).2
        have k0 := hC.1.cell
        clear hpre hcl
        refine wpOp_plain rfl rfl ?_
        unfold wordsF
        go_wp2_with fail
        first | exact ⟨rfl, hC, fun _ _ h => h⟩ | (have key := hK (.int .i64 0) wx ⟨rfl, hC, fun _ _ h => h⟩; simpa [wordsF, wordsSlot, upd, h2] using key)
      | 4, ho =>
        obtain rfl := Option.some.inj ho
        intro D u wx hcl hni hC hpre K hK
        obtain ⟨b, s, h9, hc, hl⟩ : StrsAt 3 (u 9) wx := (hpre ⟨0, .data⟩ (by simp) rfl).2
        obtain h12 : u 12 = .int .i64 0 := (hpre ⟨3, .data⟩ (by simp) rfl).2
        clear hpre hcl
        refine wpOp_plain rfl rfl ?_
        unfold wordsF
        go_wp2_with fail
        first | exact ⟨⟨b, s, rfl, hc, hl⟩, hC, fun _ _ h => h⟩ | (have key := hK (.pointer (some ⟨b, 0, none⟩)) wx ⟨⟨b, s, rfl, hc, hl⟩, hC, fun _ _ h => h⟩; simpa [wordsF, wordsSlot, upd, h9, h12] using key)
      | 5, ho =>
        obtain rfl := Option.some.inj ho
        intro D u wx hcl hni hC hpre K hK
        obtain ⟨b, s, h13, hc, hl⟩ : AtStr (u 13) wx := (hpre ⟨4, .data⟩ (by simp) rfl).2
        clear hpre hcl
        refine wpOp_plain rfl rfl ?_
        unfold wordsF
        go_wp2_with fail
        first | exact ⟨⟨s, rfl⟩, hC, fun _ _ h => h⟩ | (have key := hK (.string s) wx ⟨⟨s, rfl⟩, hC, fun _ _ h => h⟩; simpa [wordsF, wordsSlot, upd, h13] using key)
      | 6, ho =>
        obtain rfl := Option.some.inj ho
        intro D u wx hcl hni hC hpre K hK
        clear hpre hcl
        refine wpOp_plain rfl rfl ?_
        unfold wordsF
        go_wp2_with (go_at_call 132; refine (comparisons_any _).mono ?_; rintro e w1 ⟨b, s, rfl, hc, hl, hb⟩; refine halt ?_)
        refine unhalt ?_
        first | exact ⟨⟨b, s, rfl, hc, hl⟩, ⟨hC.1.kept hb, below_step hC.2 hb⟩, wordsR_kept _ hb⟩ | (have key := hK (.slice (some ⟨b, 0, none⟩) 7 7) w1 ⟨⟨b, s, rfl, hc, hl⟩, ⟨hC.1.kept hb, below_step hC.2 hb⟩, wordsR_kept _ hb⟩; simpa [wordsF, wordsSlot, upd] using key)
      | 7, ho =>
        obtain rfl := Option.some.inj ho
        intro D u wx hcl hni hC hpre K hK
        clear hpre hcl
        refine wpOp_plain rfl rfl ?_
        unfold wordsF
        go_wp2_with fail
        first | exact ⟨rfl, hC, fun _ _ h => h⟩ | (have key := hK (.pointer (some ⟨w.heap.size, 8, none⟩)) wx ⟨rfl, hC, fun _ _ h => h⟩; simpa [wordsF, wordsSlot, upd] using key)
      | 8, ho =>
        obtain rfl := Option.some.inj ho
        intro D u wx hcl hni hC hpre K hK
        obtain h7 : u 16 = .pointer (some ⟨w.heap.size, 8, none⟩) := (hpre ⟨7, .data⟩ (by simp) rfl).2
        clear hpre hcl
        refine wpOp_plain rfl rfl ?_
        unfold wordsF
        go_wp2_with fail
        first | exact ⟨rfl, hC, fun _ _ h => h⟩ | (have key := hK (.pointer (some ⟨w.heap.size, 9, none⟩)) wx ⟨rfl, hC, fun _ _ h => h⟩; simpa [wordsF, wordsSlot, upd, h7] using key)
      | 9, ho =>
        obtain rfl := Option.some.inj ho
        intro D u wx hcl hni hC hpre K hK
        obtain h8 : u 17 = .pointer (some ⟨w.heap.size, 9, none⟩) := (hpre ⟨8, .data⟩ (by simp) rfl).2
        have k0 := hC.1.cell
        clear hpre hcl
        refine wpOp_plain rfl rfl ?_
        unfold wordsF
        go_wp2_with fail
        first | exact ⟨rfl, hC, fun _ _ h => h⟩ | (have key := hK (.int .i64 0) wx ⟨rfl, hC, fun _ _ h => h⟩; simpa [wordsF, wordsSlot, upd, h8] using key)
      | 10, ho =>
        obtain rfl := Option.some.inj ho
        intro D u wx hcl hni hC hpre K hK
        obtain ⟨b, s, h15, hc, hl⟩ : StrsAt 7 (u 15) wx := (hpre ⟨6, .data⟩ (by simp) rfl).2
        obtain h18 : u 18 = .int .i64 0 := (hpre ⟨9, .data⟩ (by simp) rfl).2
        clear hpre hcl
        refine wpOp_plain rfl rfl ?_
        unfold wordsF
        go_wp2_with fail
        first | exact ⟨⟨b, s, rfl, hc, hl⟩, hC, fun _ _ h => h⟩ | (have key := hK (.pointer (some ⟨b, 0, none⟩)) wx ⟨⟨b, s, rfl, hc, hl⟩, hC, fun _ _ h => h⟩; simpa [wordsF, wordsSlot, upd, h15, h18] using key)
      | 11, ho =>
        obtain rfl := Option.some.inj ho
        intro D u wx hcl hni hC hpre K hK
        obtain ⟨b, s, h19, hc, hl⟩ : AtStr (u 19) wx := (hpre ⟨10, .data⟩ (by simp) rfl).2
        clear hpre hcl
        refine wpOp_plain rfl rfl ?_
        unfold wordsF
        go_wp2_with fail
        first | exact ⟨⟨s, rfl⟩, hC, fun _ _ h => h⟩ | (have key := hK (.string s) wx ⟨⟨s, rfl⟩, hC, fun _ _ h => h⟩; simpa [wordsF, wordsSlot, upd, h19] using key)
      | 12, ho =>
        obtain rfl := Option.some.inj ho
        intro D u wx hcl hni hC hpre K hK
        clear hpre hcl
        refine wpOp_plain rfl rfl ?_
        unfold wordsF
        go_wp2_with fail
        first | exact ⟨rfl, hC, fun _ _ h => h⟩ | (have key := hK (.pointer (some ⟨w.heap.size, 8, none⟩)) wx ⟨rfl, hC, fun _ _ h => h⟩; simpa [wordsF, wordsSlot, upd] using key)
      | 13, ho =>
        obtain rfl := Option.some.inj ho
        intro D u wx hcl hni hC hpre K hK
        obtain h12 : u 21 = .pointer (some ⟨w.heap.size, 8, none⟩) := (hpre ⟨12, .data⟩ (by simp) rfl).2
        clear hpre hcl
        refine wpOp_plain rfl rfl ?_
        unfold wordsF
        go_wp2_with fail
        first | exact ⟨rfl, hC, fun _ _ h => h⟩ | (have key := hK (.pointer (some ⟨w.heap.size, 10, none⟩)) wx ⟨rfl, hC, fun _ _ h => h⟩; simpa [wordsF, wordsSlot, upd, h12] using key)
      | 14, ho =>
        obtain rfl := Option.some.inj ho
        intro D u wx hcl hni hC hpre K hK
        obtain h13 : u 22 = .pointer (some ⟨w.heap.size, 10, none⟩) := (hpre ⟨13, .data⟩ (by simp) rfl).2
        have k0 := hC.1.cell
        clear hpre hcl
        refine wpOp_plain rfl rfl ?_
        unfold wordsF
        go_wp2_with fail
        first | exact ⟨rfl, hC, fun _ _ h => h⟩ | (have key := hK (.int .i64 0) wx ⟨rfl, hC, fun _ _ h => h⟩; simpa [wordsF, wordsSlot, upd, h13] using key)
      | 15, ho =>
        obtain rfl := Option.some.inj ho
        intro D u wx hcl hni hC hpre K hK
        obtain h23 : u 23 = .int .i64 0 := (hpre ⟨14, .data⟩ (by simp) rfl).2
        clear hpre hcl
        refine wpOp_plain rfl rfl ?_
        unfold wordsF
        go_wp2_with (go_at_call 133; refine (decimal_zero _).mono ?_; rintro e w1 ⟨rfl, hb⟩; refine halt ?_)
        refine unhalt ?_
        first | exact ⟨⟨_, rfl⟩, ⟨hC.1.kept hb, below_step hC.2 hb⟩, wordsR_kept _ hb⟩ | (have key := hK (.string ⟨#[48]⟩) w1 ⟨⟨_, rfl⟩, ⟨hC.1.kept hb, below_step hC.2 hb⟩, wordsR_kept _ hb⟩; simpa [wordsF, wordsSlot, upd, h23] using key)
      | 16, ho =>
        obtain rfl := Option.some.inj ho
        intro D u wx hcl hni hC hpre K hK
        obtain ⟨s5, h14⟩ : IsStr (u 14) := (hpre ⟨5, .data⟩ (by simp) rfl).2
        obtain ⟨s11, h20⟩ : IsStr (u 20) := (hpre ⟨11, .data⟩ (by simp) rfl).2
        obtain ⟨s15, h24⟩ : IsStr (u 24) := (hpre ⟨15, .data⟩ (by simp) rfl).2
        clear hpre hcl
        refine wpOp_plain rfl rfl ?_
        unfold wordsF
        go_wp2_with fail
        first | exact ⟨⟨_, rfl⟩, ⟨hC.1.alloc _, below_alloc hC.2 _⟩, wordsR_kept _ (below_alloc (Below.refl _ _) _)⟩ | (have key := hK (.slice (some ⟨wx.heap.size, 0, none⟩) 3 3) (wx.alloc (.cells #[.string s5, .string s11, .string s15] 9)) ⟨⟨_, rfl⟩, ⟨hC.1.alloc _, below_alloc hC.2 _⟩, wordsR_kept _ (below_alloc (Below.refl _ _) _)⟩; simpa [wordsF, wordsSlot, upd, h14, h20, h24] using key)
      | 17, ho =>
        obtain rfl := Option.some.inj ho
        intro D u wx hcl hni hC hpre K hK
        obtain ⟨b, h25⟩ : IsSlice (u 25) := (hpre ⟨16, .data⟩ (by simp) rfl).2
        clear hpre hcl
        refine wpOp_plain rfl rfl ?_
        unfold wordsF
        go_wp2_with fail
        first | exact ⟨⟨b, rfl⟩, hC, fun _ _ h => h⟩ | (have key := hK (.slice (some ⟨b, 0, none⟩) 3 3) wx ⟨⟨b, rfl⟩, hC, fun _ _ h => h⟩; simpa [wordsF, wordsSlot, upd, h25] using key)
      | i + 18, ho => simp at ho
    · intro D u wx hC _
      unfold wordsF
      go_wp2_with fail
      go_meet
      case rel => exact hC
end Go.Proofs.YtoidjgongafnkaaGreatDoor
