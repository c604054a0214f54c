/- Package btree: the tree is raised. Package btree: whether an operation is valid: Insert and Raise. -/
import Derived.Test.YtjmpekanlmepmaaGreatDoorWI6
import Derived.Test.YtjmpekanlmepmaaGreatDoorWI10
import Derived.Test.YtjmpekanlmepmaaGreatDoorWH2
import Derived.Test.YtjmpekanlmepmaaGreatDoorQg
set_option linter.unusedVariables false
set_option linter.unusedSimpArgs false
set_option linter.unusedSectionVars false
set_option linter.constructorNameAsVariable false
namespace Go.Proofs.YtjmpekanlmepmaaGreatDoor
open Go.RowKit

def raiseNode (s : Bt.St) (n : Bt.Node) : Bt.Node := ⟨n.level + 1, true, false, Bt.maxHigh, Bt.nilP, [⟨n.high, s.root⟩, ⟨Bt.maxHigh, n.right⟩]⟩

theorem readNode_valid {p : Bt.Page} {n : Bt.Node} (h : Bt.readNode p = some n) : n.valid = true ∧ n = p.node := by
  unfold Bt.readNode at h
  split at h
  · cases h
  · split at h
    · rename_i h2
      rw [Option.some.inj h] at h2
      exact ⟨h2.1, (Option.some.inj h).symm⟩
    · cases h
theorem valid_level {n : Bt.Node} (h : n.valid = true) : 0 ≤ n.level ∧ n.level ≤ 8 := by
  unfold Bt.Node.valid at h
  split at h
  · cases h
  · omega

set_option maxRecDepth 10000 in
set_option maxHeartbeats 2000000 in
theorem raise_empty (A : Nat → Prop) (op : Bt.Op) (known : List Bt.Page) (vf vk : Value) (s : Bt.St) (b : Nat) (page : Bt.Page) (n : Bt.Node) (w : World) (h : IsRun A op known vf vk s b w) (hA : ∀ c, A c → c < w.heap.size)
    (hroot : s.root ≠ Bt.nilP) (hl : s.look known s.root true = (s, some (page, n))) (hright : n.right ≠ Bt.nilP) (hlev : n.level ≠ 8) (hf : op.fresh = []) :
    Calls Tryz.prog 56 #[.pointer (some ⟨b, 0, none⟩)] w (RunPost A op known vf vk (s.raise op known) b (.tuple #[]) w) := by
  have HX : Hid (s.raise op known = (s.fresh op [page.line]).1) := Lib.hid (by simp [Bt.St.raise, hroot, hl, hright, hlev, Bt.St.fresh, hf])
  have HY : Hid ((s.fresh op [page.line]).2 = none) := Lib.hid (by simp [Bt.St.fresh, hf])
  have HR := Lib.hid h
  have HL := Lib.hid hl
  have HF := Lib.hid hf
  have hlt := h.lt
  have hlt1 : b < w.heap.size + 1 := by omega
  obtain ⟨vn, vw, ve, vc, hc⟩ := h.cells
  have k34 : w.cell? ⟨b, 34, none⟩ = some (.int .i64 s.root.line) := hc 34
  have k35 : w.cell? ⟨b, 35, none⟩ = some (.int .i64 s.root.gen) := hc 35
  have hp : peq s.root.line s.root.gen 0 0 = false := by rw [peq_nil]; simp [hroot]
  have hpr : peq n.right.line n.right.gen 0 0 = false := by rw [peq_nil]; simp [hright]
  have b8 : (n.level == 8) = false := by simp [hlev]
  have eq := eql_ptr
  have hn : NoneAt w := by obtain ⟨vn, vw, ve, vc, hr, _⟩ := h; exact hr.none
  obtain ⟨g0, g1, gl⟩ := hn
  have hgb : 0 < b := by obtain ⟨vn, vw, ve, vc, hr, _⟩ := h; exact hr.pos
  clear h hc hroot hl hright hlev hf
  go_enter Tryz.func56, Tryz.ntmps56
  go_wp2_with fail
  refine wp_region_held_drew (S := SteadyAll _) (by kernel_rfl) (SteadyAll.of (Below.refl _ _).drew) ?_
  intro hSt
  refine wpAnyH_seq (is := [0, 1, 2, 3, 4, 5]) (by kernel_rfl) (by kernel_rfl) (fun _ _ d _ _ h => by cases d <;> exact h) (by assumption) ?_
  iterate 6 (first | (refine TakeSeq.step (v := undef) rfl (Or.inr ⟨by rfl, rfl⟩) ?_; simp only [Act.put, List.setIfInBounds_toArray, List.set_cons_zero, List.set_cons_succ, List.getElem_toArray, List.getElem_cons_zero, List.getElem_cons_succ]) | (refine TakeSeq.step (v := ?_) rfl (Or.inl ⟨by rfl, ?_⟩) ?_; rotate_left 1; (focus (intro wq hSq; have hrd := hSq.rule; go_simp; with_reducible rfl)); simp only [Act.put, List.setIfInBounds_toArray, List.set_cons_zero, List.set_cons_succ, List.getElem_toArray, List.getElem_cons_zero, List.getElem_cons_succ]))
  refine TakeSeq.done ?_
  refine wpAnyH_done (by kernel_rfl) ?_ _
  go_wp2_with fail
  go_at_call 92; refine (look_open A op known vf vk s b s.root _ ?hrun ?hlow).mono ?_
  case hrun => exact HR.out.drew
  case hlow => exact fun c hc => by have := hA c hc; simpa using this
  rw [HL.out]
  rintro e w1 ⟨hrun1, ho1, v, rfl, hown⟩
  have HR1 := Lib.hid hrun1
  have hsv : ∀ (a : Addr) (m : Mode) (wx : World), (store a v m).run Tryz.prog wx = stored Tryz.prog wx a v m := fun a m wx => run_store Tryz.prog wx a v m (own_one hown)
  have hq1 : b < w1.heap.size := hrun1.lt
  have hq2 : b < w1.heap.size + 1 := by omega
  have gl1 : 0 < w1.heap.size := by omega
  have gl2 : 0 < w1.heap.size + 1 := by omega
  clear hrun1 hown
  ((obtain ⟨hc1, hf1⟩ := over_rules ho1; have hs1 := World.grownBy.size ho1; try simp only [size_alloc, size_setCell, size_drew, size_drewN] at hs1 hc1 hf1); (try have z1_w_0 : w.heap.size < w1.heap.size := by omega))
  simp only [foundCells]
  go_wp2_with fail
  go_at_call 93; refine (fresh_empty A op known vf vk s b _ [page.line] _ ?hrun2 ?hlow2 HF.out).mono ?_
  case hrun2 => exact HR1.out.below (by (repeat (first | with_reducible exact Below.refl _ _ | with_reducible assumption | with_reducible refine Below.setCell ?_ (by first | (simp; done) | (simp; omega)) _ | with_reducible refine below_alloc ?_ _ | with_reducible refine below_drewN ?_ _ | with_reducible refine Below.drew ?_ | with_reducible refine below_step ?_ (by assumption))))
  case hlow2 => exact fun c hc => by have := hA c hc; simp only [size_alloc]; omega
  rintro e w2 ⟨hrun2, ho2, rfl⟩
  rw [HY.out]
  rw [HY.out] at hrun2
  have HR2 := Lib.hid (show IsRun (New A _) op known vf vk _ b w2 from hrun2)
  clear hrun2
  ((obtain ⟨hc2, hf2⟩ := over_rules ho2; have hs2 := World.grownBy.size ho2; try simp only [size_alloc, size_setCell, size_drew, size_drewN] at hs2 hc2 hf2); (try have z2_w_0 : w.heap.size < w2.heap.size := by omega); (try have z2_w1_0 : w1.heap.size < w2.heap.size := by omega))
  simp only [Option.getD_none, Option.isSome_none, zeroPage_cells]
  go_wp2_with fail
  refine bodyPost_ret (results_none rfl _ _ _) rfl ⟨rfl, ?_, by (repeat (first | with_reducible exact Over.refl _ _ | with_reducible assumption | with_reducible refine Over.put ?_ _ _ | with_reducible refine Over.alloc ?_ _ | with_reducible refine Over.drew ?_ | with_reducible refine Over.own ?_ (by first | (simp; done) | (simp; omega)) _ | with_reducible refine Over.trans ?_ (by assumption) | with_reducible refine Over.then_below ?_ (by assumption)))⟩
  rw [HX.out]
  refine IsRun.alloc (IsRun.imp HR2.out (fun c hc => ?_)) _
  rcases hc with h1 | h1
  · exact .inl h1
  · exact .inr (by simp at h1; omega)
end Go.Proofs.YtjmpekanlmepmaaGreatDoor
namespace Go.Proofs.YtjmpekanlmepmaaGreatDoor
open Go.RowKit

def opCells (op : Bt.Op) (vf : Value) : Array Value := #[.int .i64 op.kind, .int .u32 op.key, .int .u32 op.last, .int .i64 op.to.line, .int .i64 op.to.gen, .int .i64 op.level, .int .i64 op.limit, vf]

theorem isKey_any (k : Int) (w : World) : Calls Tryz.prog 77 #[.int .u32 k] w fun e w' => e = .returned (.bool (Bt.isKey k)) ∧ w = w' := by
  go_enter Tryz.func77, Tryz.ntmps77
  go_wp2
  all_goals go_ret
  all_goals
    refine ⟨ret_bool ?_, rfl⟩
    unfold Bt.isKey Bt.maxKey
    first | (simp [*]; done) | (simp; omega)

theorem isValid_insert (op : Bt.Op) (vf : Value) (w : World) (hk : op.kind = 2) (hv : Bt.isKey op.key = true) (hp : Bt.validP op.to = true) :
    Calls Tryz.prog 49 #[.agg (opCells op vf)] w fun e w' => e = .returned (.bool true) ∧ Below w.heap.size w w' := by
  have HV := Lib.hid hv
  have HP := Lib.hid hp
  have b6 : (op.kind == 6) = false := by simp [hk]
  have b5 : (op.kind == 5) = false := by simp [hk]
  have b2 : (op.kind == 2) = true := by simp [hk]
  clear hk hv hp
  unfold opCells
  go_enter Tryz.func49, Tryz.ntmps49
  go_wp2_with fail
  go_at_call 77; refine (isKey_any op.key _).mono ?_; rintro e w1 ⟨rfl, rfl⟩; rw [HV.out]
  go_wp2_with fail
  go_at_call 75; refine (Valid_any op.to.line op.to.gen _).mono ?_; rintro e w1 ⟨rfl, hb⟩
  rw [show Bt.validP ⟨op.to.line, op.to.gen⟩ = true from HP.out]
  go_wp2_with fail
  refine bodyPost_ret (results_tmp rfl _ _ _) rfl ⟨rfl, by (repeat (first | with_reducible exact Below.refl _ _ | with_reducible assumption | with_reducible refine Below.setCell ?_ (by first | (simp; done) | (simp; omega)) _ | with_reducible refine below_alloc ?_ _ | with_reducible refine below_drewN ?_ _ | with_reducible refine Below.drew ?_ | with_reducible refine below_step ?_ (by assumption)))⟩
theorem isValid_raise (op : Bt.Op) (vf : Value) (w : World) (hk : op.kind = 6) :
    Calls Tryz.prog 49 #[.agg (opCells op vf)] w fun e w' => e = .returned (.bool true) ∧ Below w.heap.size w w' := by
  have b6 : (op.kind == 6) = true := by simp [hk]
  clear hk
  unfold opCells
  go_enter Tryz.func49, Tryz.ntmps49
  go_wp2_with fail
  refine bodyPost_ret (results_tmp rfl _ _ _) rfl ⟨rfl, by (repeat (first | with_reducible exact Below.refl _ _ | with_reducible assumption | with_reducible refine Below.setCell ?_ (by first | (simp; done) | (simp; omega)) _ | with_reducible refine below_alloc ?_ _ | with_reducible refine below_drewN ?_ _ | with_reducible refine Below.drew ?_ | with_reducible refine below_step ?_ (by assumption)))⟩
end Go.Proofs.YtjmpekanlmepmaaGreatDoor
