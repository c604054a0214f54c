/- Package btree: the first leaf is planted. Package btree: a leaf is looked for, and the root is it. -/
import Derived.Test.YtjmpekanlmepmaaGreatDoorQi
import Derived.Test.YtjmpekanlmepmaaGreatDoorQe
import Derived.Test.YtjmpekanlmepmaaGreatDoorWI3
set_option linter.unusedVariables false
set_option linter.unusedSimpArgs false
set_option linter.unusedSectionVars false
set_option linter.constructorNameAsVariable false
namespace Go.Proofs.YtjmpekanlmepmaaGreatDoor
open Go.RowKit

theorem alloc_good {p q : Bt.Page} (hp : p.Ok) (h : Bt.allocate p 4 0 = (q, 0)) : q.Ok ∧ Bt.validP (Bt.at_ q) = true ∧ q.line = p.line ∧ q.head = p.head ∧ q.d0 = 4 + (Bt.tagGen p.d0 + 1) * 256 := by
  unfold Bt.allocate at h
  have hg : 0 ≤ Bt.tagGen p.d0 ∧ Bt.tagGen p.d0 < 16777216 := by unfold Bt.tagGen; omega
  split at h
  · simp at h
  · split at h
    · simp at h
    · split at h
      · simp at h
      · split at h
        · simp at h
        · rename_i h1 h2 h3 h4
          simp only [Prod.mk.injEq, and_true] at h
          subst h
          have hd : Bt.packTag 4 (Bt.tagGen p.d0 + 1) 0 = 4 + (Bt.tagGen p.d0 + 1) * 256 := by unfold Bt.packTag; omega
          have h5 : Bt.tagGen (4 + (Bt.tagGen p.d0 + 1) * 256) = Bt.tagGen p.d0 + 1 := by
            generalize Bt.tagGen p.d0 = t at *
            unfold Bt.tagGen
            omega
          refine ⟨⟨hp.head, ?_, ?_, ?_, ?_, ?_, ?_, ?_⟩, ?_, rfl, rfl, hd⟩
          · show (0 : Int) ≤ Bt.packTag 4 (Bt.tagGen p.d0 + 1) 0 ∧ Bt.packTag 4 (Bt.tagGen p.d0 + 1) 0 < 18446744073709551616
            rw [hd]; omega
          all_goals first | (show (0 : Int) ≤ 0 ∧ (0 : Int) < 18446744073709551616; omega) | skip
          show Bt.validP ⟨p.line, Bt.tagGen (Bt.packTag 4 (Bt.tagGen p.d0 + 1) 0)⟩ = true
          rw [hd, h5]
          simp only [Bt.validP, Bool.and_eq_true, decide_eq_true_eq]
          refine ⟨⟨?_, by omega⟩, by omega⟩
          simpa using fun e => h1 (Or.inl e)

def plantLeaf (e : Bt.Entry) : Bt.Node := ⟨0, true, false, Bt.maxHigh, Bt.nilP, [e]⟩

set_option maxRecDepth 10000 in
set_option maxHeartbeats 2000000 in
theorem plant_empty (A : Nat → Prop) (op : Bt.Op) (known : List Bt.Page) (vf vk : Value) (s : Bt.St) (b : Nat) (e : Bt.Entry) (w : World) (h : IsRun A op known vf vk s b w) (hA : ∀ c, A c → c < w.heap.size)
    (hrp : s.rootPage.Ok) (hlk : Bt.locked s.rootPage = false) (hf : op.fresh = []) :
    Calls Tryz.prog 85 #[.pointer (some ⟨b, 0, none⟩), .agg e.cells] w (RunPost A op known vf vk (s.plant op e) b (.tuple #[]) w) := by
  have HX : Hid (s.plant op e = (s.fresh op []).1) := Lib.hid (by simp [Bt.St.plant, hlk, Bt.St.fresh, hf])
  have HY : Hid ((s.fresh op []).2 = none) := Lib.hid (by simp [Bt.St.fresh, hf])
  have HR := Lib.hid h
  have HF := Lib.hid hf
  have HRP := Lib.hid hrp
  have HLK := Lib.hid hlk
  have hlt := h.lt
  have hlt1 : b < w.heap.size + 1 := by omega
  obtain ⟨vn, vw, ve, vc, hc⟩ := h.cells
  have k25 : w.cell? ⟨b, 25, none⟩ = some (.int .i64 s.rootPage.line) := hc 25
  have k26 : w.cell? ⟨b, 26, none⟩ = some (.int .u64 s.rootPage.head) := hc 26
  have k27 : w.cell? ⟨b, 27, none⟩ = some (.int .u64 s.rootPage.d0) := hc 27
  have k28 : w.cell? ⟨b, 28, none⟩ = some (.int .u64 s.rootPage.d1) := hc 28
  have k29 : w.cell? ⟨b, 29, none⟩ = some (.int .u64 s.rootPage.d2) := hc 29
  have k30 : w.cell? ⟨b, 30, none⟩ = some (.int .u64 s.rootPage.d3) := hc 30
  have k31 : w.cell? ⟨b, 31, none⟩ = some (.int .u64 s.rootPage.d4) := hc 31
  have k32 : w.cell? ⟨b, 32, none⟩ = some (.int .u64 s.rootPage.d5) := hc 32
  have k33 : w.cell? ⟨b, 33, none⟩ = some (.int .u64 s.rootPage.d6) := hc 33
  clear h hc hf hrp hlk
  unfold Bt.Entry.cells
  go_enter Tryz.func85, Tryz.ntmps85
  go_wp2_with fail
  go_at_call 80; refine (Locked_any s.rootPage HRP.out _).mono ?_; rintro e w1 ⟨rfl, hb⟩; rw [HLK.out]; ((obtain ⟨hc1, hf1⟩ := below_rules hb; have hs1 := Below.size hb; try simp only [size_alloc, size_setCell, size_drew, size_drewN] at hs1 hc1 hf1); (try have z1_w_0 : w.heap.size < w1.heap.size := by omega); (try have z1_w_1 : w.heap.size + 1 < w1.heap.size := by omega))
  have HB := Lib.hid hb
  go_wp2_with fail
  go_at_call 93; refine (fresh_empty A op known vf vk s b _ [] _ ?hrun ?hlow HF.out).mono ?_
  case hrun => exact HR.out.below (by (repeat (first | with_reducible exact Below.refl _ _ | with_reducible assumption | with_reducible refine Below.setCell ?_ (by first | (simp; done) | (simp; omega)) _ | with_reducible refine below_alloc ?_ _ | with_reducible refine below_drewN ?_ _ | with_reducible refine Below.drew ?_ | with_reducible refine below_step ?_ (by assumption))))
  case hlow => exact fun c hc => by have := hA c hc; omega
  rintro e w2 ⟨hrun2, ho2, rfl⟩
  rw [HY.out]
  rw [HY.out] at hrun2
  have HR2 := Lib.hid (show IsRun (New A _) op known vf vk _ b w2 from hrun2)
  clear hrun2
  ((obtain ⟨hc2, hf2⟩ := over_rules ho2; have hs2 := World.grownBy.size ho2; try simp only [size_alloc, size_setCell, size_drew, size_drewN] at hs2 hc2 hf2); (try have z2_w_0 : w.heap.size < w2.heap.size := by omega); (try have z2_w_1 : w.heap.size + 1 < w2.heap.size := by omega); (try have z2_w1_0 : w1.heap.size < w2.heap.size := by omega))
  simp only [Option.getD_none, Option.isSome_none, zeroPage_cells]
  go_wp2_with fail
  refine bodyPost_ret (results_none rfl _ _ _) rfl ⟨rfl, ?_, by (repeat (first | with_reducible exact Over.refl _ _ | with_reducible assumption | with_reducible refine Over.put ?_ _ _ | with_reducible refine Over.alloc ?_ _ | with_reducible refine Over.drew ?_ | with_reducible refine Over.own ?_ (by first | (simp; done) | (simp; omega)) _ | with_reducible refine Over.trans ?_ (by assumption) | with_reducible refine Over.then_below ?_ (by assumption)))⟩
  rw [HX.out]
  refine IsRun.alloc (IsRun.imp HR2.out (fun c hc => ?_)) _ |>.below (by (repeat (first | with_reducible exact Below.refl _ _ | with_reducible assumption | with_reducible refine Below.setCell ?_ (by first | (simp; done) | (simp; omega)) _ | with_reducible refine below_alloc ?_ _ | with_reducible refine below_drewN ?_ _ | with_reducible refine Below.drew ?_ | with_reducible refine below_step ?_ (by assumption))))
  rcases hc with h1 | h1
  · exact .inl h1
  · exact .inr (by omega)
end Go.Proofs.YtjmpekanlmepmaaGreatDoor
namespace Go.Proofs.YtjmpekanlmepmaaGreatDoor
open Go.RowKit

/-- A leaf: the page and the node. -/
def LeafRes (A : Nat → Prop) (op : Bt.Op) (known : List Bt.Page) (vf vk : Value) (b : Nat) (s : Bt.St) (p : Bt.Page) (n : Bt.Node) (w : World) (e : Ending) (w' : World) : Prop :=
  IsRun A op known vf vk s b w' ∧ Over b w w' ∧
  ∃ v, e = .returned (.tuple #[.agg (foundCells p n v), .bool true]) ∧ w'.ownsRow w.heap.size 69 3 v n.entries.length (entCells n.entries)

set_option maxRecDepth 10000 in
set_option maxHeartbeats 2000000 in
theorem leaf_here (A : Nat → Prop) (op : Bt.Op) (known : List Bt.Page) (vf vk : Value) (s : Bt.St) (b : Nat) (page : Bt.Page) (n : Bt.Node) (w : World) (h : IsRun A op known vf vk s b w) (hA : ∀ c, A c → c < w.heap.size)
    (hl : s.look known s.root false = (s, some (page, n))) (hlev : n.level = 0) (hd : n.dead = false) (hk : op.key ≤ n.high) (hlk : Bt.locked page = false) :
    Calls Tryz.prog 83 #[.pointer (some ⟨b, 0, none⟩)] w (LeafRes A op known vf vk b { s with ended := true, out := { s.out with height := n.level + 1 } } page n w) := by
  have HR := Lib.hid h
  have hlt := h.lt
  have hlt1 : b < w.heap.size + 1 := by omega
  have HD : ∀ wx, IsRun A op known vf vk s b wx → (∀ c, A c → c < wx.heap.size) → Calls Tryz.prog 90 #[.pointer (some ⟨b, 0, none⟩), .int .i64 0, .int .u32 op.key] wx (WalkRes A op known vf vk b { s with ended := true, out := { s.out with height := n.level + 1 } } page n wx) := fun wx h1 h2 => by
    have := descend_here A op known vf vk s b op.key page n wx h1 h2 hl hd hk hlk
    rw [hlev] at this ⊢
    exact this
  have HDD := Lib.hid HD
  obtain ⟨vn, vw, ve, vc, hc⟩ := h.cells
  have k1 : w.cell? ⟨b, 1, none⟩ = some (.int .u32 op.key) := hc 1
  clear h hl hd hk hlk hc HD hlev
  go_enter Tryz.func83, Tryz.ntmps83
  go_wp2_with fail
  go_at_call 90; refine (HDD.out _ ?hrun ?hlow).mono ?_
  case hrun => exact HR.out.below (by (repeat (first | with_reducible exact Below.refl _ _ | with_reducible assumption | with_reducible refine Below.setCell ?_ (by first | (simp; done) | (simp; omega)) _ | with_reducible refine below_alloc ?_ _ | with_reducible refine below_drewN ?_ _ | with_reducible refine Below.drew ?_ | with_reducible refine below_step ?_ (by assumption))))
  case hlow => exact fun c hc => by have := hA c hc; simp; omega
  rintro e w1 ⟨hrun1, ho1, v, rfl, hown⟩
  have HR1 := Lib.hid hrun1
  have HOWN := Lib.hid hown
  have hsv : ∀ (a : Addr) (m : Mode) (wx : World), (store a v m).run Tryz.prog wx = stored Tryz.prog wx a v m := fun a m wx => run_store Tryz.prog wx a v m (own_one hown)
  clear hrun1 hown
  ((obtain ⟨hc1, hf1⟩ := over_rules ho1; have hs1 := World.grownBy.size ho1; try simp only [size_alloc, size_setCell, size_drew, size_drewN] at hs1 hc1 hf1); (try have z1_w_0 : w.heap.size < w1.heap.size := by omega))
  simp only [foundCells]
  go_wp2_with fail
  have BF := (Blk.made w 145 #[.int .i64 0, .int .u64 0, .int .u64 0, .int .u64 0, .int .u64 0, .int .u64 0, .int .u64 0, .int .u64 0, .int .u64 0, .int .i64 0, .bool false, .bool false, .int .u32 0, .int .i64 0, .int .i64 0, .slice none 0 0]).grown ho1 (by simp; omega)
  refine bodyPost_ret (results_bt rfl _ _ (w.heap.size) _ _ _ rfl (by (repeat (first | with_reducible exact BF | with_reducible apply Blk.put | with_reducible apply Blk.alloc | (with_reducible apply Blk.aside; (case hp => first | (simp; done) | (simp; omega))) | with_reducible apply Blk.drew))) Tryz.underlying145 rfl (by kernel_rfl)) rfl ?_
  have hna : ¬ A w.heap.size := fun h1 => by have := hA _ h1; omega
  refine ⟨IsRun.alloc (IsRun.put16 HR1.out hlt hna _ _ _ _ _ _ _ _ _ _ _ _ _ _ _ _) _, by (repeat (first | with_reducible exact Over.refl _ _ | with_reducible assumption | with_reducible refine Over.put ?_ _ _ | with_reducible refine Over.alloc ?_ _ | with_reducible refine Over.drew ?_ | with_reducible refine Over.own ?_ (by first | (simp; done) | (simp; omega)) _ | with_reducible refine Over.trans ?_ (by assumption) | with_reducible refine Over.then_below ?_ (by assumption))), v, ?_,
    own_below (own_put16 (own_base HOWN.out (by simp)) (own_not HOWN.out (by simp)) _ _ _ _ _ _ _ _ _ _ _ _ _ _ _ _) (below_alloc (Below.refl _ _) _)⟩
  · rw [set16]
    rfl
end Go.Proofs.YtjmpekanlmepmaaGreatDoor
