/- Package btree: a descent that ends at its first node. -/
import Derived.Test.YtjmpekanlmepmaaGreatDoorQi
set_option linter.unusedVariables false
set_option linter.unusedSimpArgs false
set_option linter.unusedSectionVars false
set_option linter.constructorNameAsVariable false
namespace Go.Proofs.YtjmpekanlmepmaaGreatDoor
open Go.RowKit

theorem IsRun.knownRow {A : Nat → Prop} {op : Bt.Op} {known : List Bt.Page} {vf vk : Value} {s : Bt.St} {b : Nat} {w : World} (h : IsRun A op known vf vk s b w) : PgRow w vk known := by
  obtain ⟨vn, vw, ve, vc, hr, _⟩ := h
  exact hr.known
theorem look_known {s s' : Bt.St} {known : List Bt.Page} {q : Bt.Ptr} {l : Bool} {page : Bt.Page} {n : Bt.Node} (h : s.look known q l = (s', some (page, n))) : page ∈ known ∧ s' = s ∧ n = page.node ∧ Bt.readNode page = some n := by
  unfold Bt.St.look at h
  split at h
  · simp at h
  · simp at h
  · rename_i p hp
    split at h
    · simp at h
    · rename_i m hm
      simp only [Prod.mk.injEq, Option.some.injEq] at h
      obtain ⟨rfl, rfl, rfl⟩ := h
      refine ⟨lookup_found_ok hp, rfl, ?_, hm⟩
      unfold Bt.readNode at hm
      split at hm
      · cases hm
      · split at hm
        · exact (Option.some.inj hm).symm
        · cases hm

/-- A descent's result at a node. -/
def WalkRes (A : Nat → Prop) (op : Bt.Op) (known : List Bt.Page) (vf vk : Value) (b : Nat) (s : Bt.St) (p : Bt.Page) (n : Bt.Node) (w : World) (e : Ending) (w' : World) : Prop :=
  IsRun A op known vf vk s b w' ∧ Over b w w' ∧
  ∃ v, e = .returned (.tuple #[.agg (foundCells p n v), .bool false, .bool true]) ∧ w'.ownsRow w.heap.size 69 3 v n.entries.length (entCells n.entries)

/-- Where a descent stands at the head of its loop. -/
structure DescAt (A : Nat → Prop) (op : Bt.Op) (known : List Bt.Page) (vf vk : Value) (s : Bt.St) (b g : Nat) (page : Bt.Page) (n : Bt.Node) (v : Value) (w0 wr : World) : Prop where
  blk : Blk wr g 145 (foundCells page n v)
  own : wr.ownsRow (w0.heap.size + 1) 69 3 v n.entries.length (entCells n.entries)
  run : IsRun A op known vf vk s b wr
  over : Over b w0 wr
def DescHead (A : Nat → Prop) (op : Bt.Op) (known : List Bt.Page) (vf vk : Value) (s : Bt.St) (b g : Nat) (page : Bt.Page) (n : Bt.Node) (w0 : World) (i : Value) (wr : World) : Prop := i = .int .i64 0 ∧ ∃ v, DescAt A op known vf vk s b g page n v w0 wr

set_option maxRecDepth 10000 in
set_option maxHeartbeats 2000000 in
theorem descend_here (A : Nat → Prop) (op : Bt.Op) (known : List Bt.Page) (vf vk : Value) (s : Bt.St) (b : Nat) (k : Int) (page : Bt.Page) (n : Bt.Node) (w : World) (h : IsRun A op known vf vk s b w) (hA : ∀ c, A c → c < w.heap.size)
    (hl : s.look known s.root false = (s, some (page, n))) (hd : n.dead = false) (hk : k ≤ n.high) (hlk : Bt.locked page = false) :
    Calls Tryz.prog 90 #[.pointer (some ⟨b, 0, none⟩), .int .i64 n.level, .int .u32 k] w (WalkRes A op known vf vk b { s with ended := true, out := { s.out with height := n.level + 1 } } page n w) := by
  have HR := Lib.hid h
  have HL := Lib.hid hl
  have hlt := h.lt
  have hlt1 : b < w.heap.size + 1 := by omega
  have HP : Hid page.Ok := Lib.hid (h.knownRow.ok page (look_known hl).1)
  have HLK := Lib.hid hlk
  have HD := Lib.hid hd
  obtain ⟨vn, vw, ve, vc, hc⟩ := h.cells
  have k34 : w.cell? ⟨b, 34, none⟩ = some (.int .i64 s.root.line) := hc 34
  have k35 : w.cell? ⟨b, 35, none⟩ = some (.int .i64 s.root.gen) := hc 35
  have hlv : 0 ≤ n.level ∧ n.level ≤ 8 := by
    have hr := (look_known hl).2.2.2
    unfold Bt.readNode at hr
    split at hr
    · cases hr
    · split at hr
      · rename_i h2
        rw [Option.some.inj hr] at h2
        have hv := h2.1
        unfold Bt.Node.valid at hv
        split at hv
        · cases hv
        · omega
      · cases hr
  have hwr : wrap64 (n.level + 1) = n.level + 1 := by unfold wrap64; omega
  have b1 : decide (n.level < n.level) = false := by simp
  have b2 : decide (n.high < k) = false := by simp; omega
  have b3 : (n.level == n.level) = true := by simp
  clear h hl hc hk hlk hd
  go_enter Tryz.func90, Tryz.ntmps90
  go_wp2_with fail
  go_at_call 92; refine (look_peek A op known vf vk s b s.root _ ?hrun ?hlow).mono ?_
  case hrun => exact HR.out.below (by (repeat (first | with_reducible exact Below.refl _ _ | with_reducible assumption | with_reducible refine Below.setCell ?_ (by first | (simp; done) | (simp; omega)) _ | with_reducible refine below_alloc ?_ _ | with_reducible refine below_drewN ?_ _ | with_reducible refine Below.drew ?_ | with_reducible refine below_step ?_ (by assumption))))
  case hlow => exact fun c hc => by have := hA c hc; simp; omega
  rw [HL.out]
  rintro e w1 ⟨hrun1, ho1, v, rfl, hown⟩
  have HR1 := Lib.hid hrun1
  have HOWN := Lib.hid hown
  have hsv : ∀ (a : Addr) (m : Mode) (wx : World), (store a v m).run Tryz.prog wx = stored Tryz.prog wx a v m := fun a m wx => run_store Tryz.prog wx a v m (own_one hown)
  clear hrun1 hown
  ((obtain ⟨hc1, hf1⟩ := over_rules ho1; have hs1 := World.grownBy.size ho1; try simp only [size_alloc, size_setCell, size_drew, size_drewN] at hs1 hc1 hf1); (try have z1_w_0 : w.heap.size < w1.heap.size := by omega))
  simp only [foundCells]
  go_wp2_with fail
  go_loopw [10] (fun i wr => DescHead A op known vf vk s b w.heap.size page n w i wr) (fun _ _ => 0)
  case atStart =>
    have BF := (Blk.made w 145 #[.int .i64 0, .int .u64 0, .int .u64 0, .int .u64 0, .int .u64 0, .int .u64 0, .int .u64 0, .int .u64 0, .int .u64 0, .int .i64 0, .bool false, .bool false, .int .u32 0, .int .i64 0, .int .i64 0, .slice none 0 0]).grown ho1 (by simp; omega)
    refine ⟨rfl, v, ⟨?_, ?_, ?_, by (repeat (first | with_reducible exact Over.refl _ _ | with_reducible assumption | with_reducible refine Over.put ?_ _ _ | with_reducible refine Over.alloc ?_ _ | with_reducible refine Over.drew ?_ | with_reducible refine Over.own ?_ (by first | (simp; done) | (simp; omega)) _ | with_reducible refine Over.trans ?_ (by assumption) | with_reducible refine Over.then_below ?_ (by assumption)))⟩⟩
    · refine Blk.cast (by (repeat (first | with_reducible exact BF | with_reducible apply Blk.put | with_reducible apply Blk.alloc | (with_reducible apply Blk.aside; (case hp => first | (simp; done) | (simp; omega))) | with_reducible apply Blk.drew))) ?_
      rw [set16]
      rfl
    · exact own_put16 (own_base HOWN.out (by simp)) (own_not HOWN.out (by simp)) _ _ _ _ _ _ _ _ _ _ _ _ _ _ _ _
    · refine IsRun.put16 HR1.out (by omega) (fun h1 => by have := hA _ h1; omega) _ _ _ _ _ _ _ _ _ _ _ _ _ _ _ _
  case round =>
    obtain ⟨rfl, u, hda⟩ := hrel
    have HDA := Lib.hid hda
    have HC : Hid (foundCells page n u = #[.int .i64 page.line, .int .u64 page.head, .int .u64 page.d0, .int .u64 page.d1, .int .u64 page.d2, .int .u64 page.d3, .int .u64 page.d4, .int .u64 page.d5, .int .u64 page.d6,
      .int .i64 n.level, .bool n.leftmost, .bool n.dead, .int .u32 n.high, .int .i64 n.right.line, .int .i64 n.right.gen, u]) := Lib.hid rfl
    have kg := hda.blk.cell
    rw [HC.out] at kg
    have hgw : w.heap.size < wr.heap.size := hda.blk.lt
    have hfg := hda.blk.free
    have hsu : ∀ (a : Addr) (m : Mode) (wx : World), (store a u m).run Tryz.prog wx = stored Tryz.prog wx a u m := fun a m wx => run_store Tryz.prog wx a u m (own_one hda.own)
    obtain ⟨un, uw, ue, uc, hc⟩ := hda.run.cells
    have hfb := hda.run.free
    have hbw := hda.run.lt
    have j36 : wr.cell? ⟨b, 36, none⟩ = some (.bool s.ended) := hc 36
    have j24 : wr.cell? ⟨b, 24, none⟩ = some (.int .i64 s.out.height) := hc 24
    have hdd := HD.out
    clear hda hc
    go_wp2_with fail
    go_at_call 80; refine (Locked_any page HP.out _).mono ?_; rintro e w2 ⟨rfl, hb2⟩; rw [HLK.out]; ((obtain ⟨hc2, hf2⟩ := below_rules hb2; have hs2 := Below.size hb2; try simp only [size_alloc, size_setCell, size_drew, size_drewN] at hs2 hc2 hf2); (try have z2_w_0 : w.heap.size < w2.heap.size := by omega); (try have z2_wr_0 : wr.heap.size < w2.heap.size := by omega))
    go_wp2_with fail
    have BX := HDA.out.blk
    rw [HC.out] at BX
    have BF2 := Blk.kept (b := w.heap.size) (by (repeat (first | with_reducible exact BX | with_reducible apply Blk.put | with_reducible apply Blk.alloc | (with_reducible apply Blk.aside; (case hp => first | (simp; done) | (simp; omega))) | with_reducible apply Blk.drew))) hb2
    refine bodyPost_ret (results_btt rfl _ _ (w.heap.size) _ _ _ rfl (by (repeat (first | with_reducible exact BF2 | with_reducible apply Blk.put | with_reducible apply Blk.alloc | (with_reducible apply Blk.aside; (case hp => first | (simp; done) | (simp; omega))) | with_reducible apply Blk.drew))) Tryz.underlying145 rfl (by kernel_rfl)) rfl ?_
    have R36 := (HDA.out.run.field (s' := { s with ended := true }) 36 (.bool true) (fun _ _ _ _ => rfl)).field (s' := { s with ended := true, out := { s.out with height := n.level + 1 } }) 24 (.int .i64 (n.level + 1)) (fun _ _ _ _ => rfl)
    have HOV := HDA.out.over
    have hnb : u.ownBlock ≠ some b := own_not HDA.out.own (by omega)
    have hng : u.ownBlock ≠ some w.heap.size := own_not HDA.out.own (by omega)
    have hna : ¬ A w.heap.size := fun h1 => by have := hA _ h1; omega
    refine ⟨IsRun.put16 (IsRun.below (IsRun.below R36 (by (repeat (first | with_reducible exact Below.refl _ _ | with_reducible assumption | with_reducible refine Below.setCell ?_ (by first | (simp; done) | (simp; omega)) _ | with_reducible refine below_alloc ?_ _ | with_reducible refine below_drewN ?_ _ | with_reducible refine Below.drew ?_ | with_reducible refine below_step ?_ (by assumption))))) hb2) hlt hna _ _ _ _ _ _ _ _ _ _ _ _ _ _ _ _, by (repeat (first | with_reducible exact Over.refl _ _ | with_reducible assumption | with_reducible refine Over.put ?_ _ _ | with_reducible refine Over.alloc ?_ _ | with_reducible refine Over.drew ?_ | with_reducible refine Over.own ?_ (by first | (simp; done) | (simp; omega)) _ | with_reducible refine Over.trans ?_ (by assumption) | with_reducible refine Over.then_below ?_ (by assumption))), u, ?_,
      own_base (own_put16 (own_below (own_below (own_set (p := ⟨b, 24, none⟩) (own_set (p := ⟨b, 36, none⟩) HDA.out.own hnb (.bool true)) hnb (.int .i64 (n.level + 1))) (by (repeat (first | with_reducible exact Below.refl _ _ | with_reducible assumption | with_reducible refine Below.setCell ?_ (by first | (simp; done) | (simp; omega)) _ | with_reducible refine below_alloc ?_ _ | with_reducible refine below_drewN ?_ _ | with_reducible refine Below.drew ?_ | with_reducible refine below_step ?_ (by assumption))))) hb2) hng _ _ _ _ _ _ _ _ _ _ _ _ _ _ _ _) (by omega)⟩
    · rw [set16, ← HD.out]
      rfl
end Go.Proofs.YtjmpekanlmepmaaGreatDoor
