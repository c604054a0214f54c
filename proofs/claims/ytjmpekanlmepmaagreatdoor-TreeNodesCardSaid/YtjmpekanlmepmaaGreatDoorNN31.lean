/- Package btree: the tree is raised. -/
import Derived.Test.YtjmpekanlmepmaaGreatDoorNN21
import Derived.Test.YtjmpekanlmepmaaGreatDoorNN24
import Derived.Test.YtjmpekanlmepmaaGreatDoorNN30
set_option linter.all false
set_option maxRecDepth 20000
set_option maxHeartbeats 8000000
open Go.Lib (hid)
namespace Go.Proofs.YtjmpekanlmepmaaGreatDoor
open Go.RowKit
def raiseNode (s : Bt.St) (n : Bt.Node) : Bt.Node := ⟨n.level + 1, true, false, Bt.maxHigh, Bt.nilP, [⟨n.high, s.root⟩, ⟨Bt.maxHigh, n.right⟩]⟩
theorem readNode_valid {p : Bt.Page} {n : Bt.Node} (h : Bt.readNode p = some n) : n.valid = true ∧ n = p.node := by
 unfold Bt.readNode at h
 split at h
 ·cases h
 ·split at h
  ·rename_i h2
   rw [Option.some.inj h] at h2
   exact ⟨h2.1, (Option.some.inj h).symm⟩
  ·cases h
theorem valid_level {n : Bt.Node} (h : n.valid = true) : 0 ≤ n.level ∧ n.level ≤ 8 := by
 unfold Bt.Node.valid at h
 split at h
 ·cases h
 ·omega
theorem raise_empty (A : Nat → Prop) (op : Bt.Op) (known : List Bt.Page) (vf vk : Value) (s : Bt.St) (b : Nat) (page : Bt.Page) (n : Bt.Node) (w : World) (h : IsRun A op known vf vk s b w) (hA : ∀ c, A c → c < w.heap.size)
 (hroot : s.root ≠ Bt.nilP) (hl : s.look known s.root true = (s, some (page, n))) (hright : n.right ≠ Bt.nilP) (hlev : n.level ≠ 8) (hf : op.fresh = []) :
 Calls Tryz.prog 56 #[.pointer (some ⟨b, 0, none⟩)] w (RunPost A op known vf vk (s.raise op known) b (.tuple #[]) w) := by
 have HX : Hid (s.raise op known = (s.fresh op [page.line]).1) := hid (by simp [Bt.St.raise, hroot, hl, hright, hlev, Bt.St.fresh, hf])
 have HY : Hid ((s.fresh op [page.line]).2 = none) := hid (by simp [Bt.St.fresh, hf])
 have HR := hid h
 have HL := hid hl
 have HF := hid hf
 have hlt := h.lt
 have hlt1 : b < w.heap.size + 1 := by omega
 obtain ⟨vn, vw, ve, vc, hc⟩ := h.cells
 have k34 : w.cell? ⟨b, 34, none⟩ = some (.int .i64 s.root.line) := hc 34
 have k35 : w.cell? ⟨b, 35, none⟩ = some (.int .i64 s.root.gen) := hc 35
 have hp : peq s.root.line s.root.gen 0 0 = false := by rw [peq_nil]; simp [hroot]
 have hpr : peq n.right.line n.right.gen 0 0 = false := by rw [peq_nil]; simp [hright]
 have b8 : (n.level == 8) = false := by simp [hlev]
 have eq := eql_ptr
 have hn : NoneAt w := by obtain ⟨vn, vw, ve, vc, hr, _⟩ := h; exact hr.none
 obtain ⟨g0, g1, gl⟩ := hn
 have hgb : 0 < b := by obtain ⟨vn, vw, ve, vc, hr, _⟩ := h; exact hr.pos
 clear h hc hroot hl hright hlev hf
 go_enter Tryz.func56, Tryz.ntmps56
 go_wp2_with fail
 refine qA fun hSt => ?_
 refine qS [0, 1, 2, 3, 4, 5] ?_
 iterate 6 (refine qT ?_; simp only [Act.put, qY])
 refine TakeSeq.done ?_
 refine qD ?_ _
 go_wp2_with fail
 go_at_call 92; refine (look_open A op known vf vk s b s.root _ ?hrun ?hlow).mono ?_
 case hrun => exact HR.out.drew
 case hlow => exact fun c hc => by have := hA c hc; simpa using this
 rw [HL.out]
 rintro e w1 ⟨hrun1, ho1, v, rfl, hown⟩
 have HR1 := hid hrun1
 have hsv := qSt hown
 have hq1 : b < w1.heap.size := hrun1.lt
 have hq2 : b < w1.heap.size + 1 := by omega
 have gl1 : 0 < w1.heap.size := by omega
 have gl2 : 0 < w1.heap.size + 1 := by omega
 clear hrun1 hown
 ((obtain ⟨hc1, hf1, hs1⟩ := qO ho1); (try have := qN0 w w1))
 simp only [foundCells]
 go_wp2_with fail
 go_at_call 93; refine (fresh_empty A op known vf vk s b _ [page.line] _ ?hrun2 ?hlow2 HF.out).mono ?_
 case hrun2 => exact HR1.out.below qL
 case hlow2 => exact fun c hc => by have := hA c hc; simp only [size_alloc]; omega
 rintro e w2 ⟨hrun2, ho2, rfl⟩
 rw [HY.out]
 rw [HY.out] at hrun2
 have HR2 := hid (show IsRun (New A _) op known vf vk _ b w2 from hrun2)
 clear hrun2
 ((obtain ⟨hc2, hf2, hs2⟩ := qO ho2); (try have := qN0 w w2); (try have := qN0 w1 w2))
 simp only [Option.getD_none, Option.isSome_none, zeroPage_cells]
 go_wp2_with fail
 refine bodyPost_ret (results_none rfl _ _ _) rfl ⟨rfl, ?_, qV⟩
 rw [HX.out]
 refine IsRun.alloc (IsRun.imp HR2.out (fun c hc => ?_)) _
 rcases hc with h1 | h1
 ·exact .inl h1
 ·exact .inr (by simp at h1; omega)
end Go.Proofs.YtjmpekanlmepmaaGreatDoor
