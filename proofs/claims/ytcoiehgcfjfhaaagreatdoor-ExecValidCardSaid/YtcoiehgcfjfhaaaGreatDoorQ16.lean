/- Package segment: header of a known page. -/
import Derived.Test.YtcoiehgcfjfhaaaGreatDoorQ14
set_option linter.all false
set_option maxRecDepth 20000
set_option maxHeartbeats 8000000
open Go.Lib (hid)
namespace Go.Proofs.YtcoiehgcfjfhaaaGreatDoor
open Go.RowKit
theorem segHeader (ks : List Bt.Page) (u : Int) (hu : u = 0 ∨ u = 2 ∨ u = 14) (h : Int) (hh : h % 256 = 0 ∧ 0 ≤ h ∧ h < 18446744073709551616) (hlat : Bt.latest ks 104 = some (hdrPage h u)) (vk : Value) (w : World) (hp : PgRow w vk ks) :
    Calls Tryz.prog 216 #[vk, .int .i64 0] w fun e w' => e = .returned (.tuple #[.agg (hdrPage h u).cells, .agg #[.int .i64 0, .int .u32 u], .bool true, .int .i64 0]) ∧ Below w.heap.size w w' := by
  have HLA : Hid (∀ W, Below w.heap.size w W → Calls Tryz.prog 60 #[vk, .int .i64 104] W fun e w' => e = .returned (.tuple #[.agg (hdrPage h u).cells, .bool true]) ∧ Below W.heap.size W w') := hid (fun W hb => by
    have h := Latest_any ks vk 104 W (hp.below hb)
    rw [hlat] at h
    exact h)
  have HLK : Hid (∀ W, Calls Tryz.prog 62 #[.agg (hdrPage h u).cells] W fun e w' => e = .returned (.bool false) ∧ Below W.heap.size W w') := hid (fun W => by
    have h1 := Locked_any (hdrPage h u) ⟨hh.2, by simp [hdrPage], by simp only [hdrPage]; omega, by simp [hdrPage], by simp [hdrPage], by simp [hdrPage], by simp [hdrPage], by simp [hdrPage]⟩ W
    rw [show Bt.locked (hdrPage h u) = false by simp [Bt.locked, hdrPage, hh.1]] at h1
    exact h1)
  have HHL := hid (fun W => segHeaderLine_0 W)
  have HRN := hid (fun W => segReadHeader h u hu W)
  obtain ⟨pv, cv, rfl⟩ := hp.slice
  obtain ⟨nv, hnv⟩ : ∃ n, ks.length = n := ⟨_, rfl⟩
  rw [hnv] at HLA ⊢
  clear hp hnv hlat hh hu
  unfold hdrPage Bt.Page.cells at HLA HLK HRN ⊢
  simp only at HLA HLK HRN ⊢
  go_enter Tryz.func216, Tryz.ntmps216
  go_wp2_with fail
  go_at_call 218; refine (HHL.out _).mono ?_; rintro e w0 ⟨rfl, hw⟩; obtain rfl := hw
  go_wp2_with fail
  go_at_call 60; refine (HLA.out _ qL).mono ?_; rintro e w1 ⟨rfl, hb1⟩; ((obtain ⟨hc1, hf1, hs1⟩ := qR hb1); (try have z1_w_0 := qN0 w w1); (try have z1_w_1 := qN1 w w1))
  have KP := ((Blk.made w 75 #[.int .i64 0, .int .u64 0, .int .u64 0, .int .u64 0, .int .u64 0, .int .u64 0, .int .u64 0, .int .u64 0, .int .u64 0]).alloc (.cells #[.int .i64 0, .int .u32 0] 344)).kept hb1
  have KZ := (Blk.made' (w := w.alloc (.cells #[.int .i64 0, .int .u64 0, .int .u64 0, .int .u64 0, .int .u64 0, .int .u64 0, .int .u64 0, .int .u64 0, .int .u64 0] 75)) (t := 344) (cs := #[.int .i64 0, .int .u32 0]) rfl).kept hb1
  rw [size_alloc] at KZ
  have HK := hid (And.intro KP KZ)
  clear KP KZ
  go_upto_region 2 with (fail)
  refine wp_name (fun W => Blk W w.heap.size 75 #[.int .i64 104, .int .u64 h, .int .u64 1, .int .u64 u, .int .u64 0, .int .u64 0, .int .u64 0, .int .u64 0, .int .u64 0] ∧ Blk W (w.heap.size + 1) 344 #[.int .i64 0, .int .u32 0] ∧ Below w.heap.size w W) ⟨?_, ?_, qL⟩ (fun wx HX => ?_)
  · apply Blk.cast
    · have B := HK.out.1
      (repeat (first | with_reducible exact B | with_reducible apply Blk.put | with_reducible apply Blk.alloc | (with_reducible apply Blk.aside; (case hp => first | (simp; done) | (simp; omega))) | with_reducible apply Blk.drew))
    · kernel_rfl
  · have B := HK.out.2
    (repeat (first | with_reducible exact B | with_reducible apply Blk.put | with_reducible apply Blk.alloc | (with_reducible apply Blk.aside; (case hp => first | (simp; done) | (simp; omega))) | with_reducible apply Blk.drew))
  clear HK hb1 hc1 hf1 hs1 z1_w_0 z1_w_1
  have kp := HX.out.1.cell
  have fp := HX.out.1.free
  have kz := HX.out.2.1.cell
  have fz := HX.out.2.1.free
  have lz := HX.out.2.1.lt
  have lp := HX.out.1.lt
  go_wp2_with fail
  go_at_call 62; refine (HLK.out _).mono ?_; rintro e w2 ⟨rfl, hb2⟩; ((obtain ⟨hc2, hf2, hs2⟩ := qR hb2); (try have := qN0 w w2); (try have := qN1 w w2); (try have := qN0 wx w2))
  go_wp2_with fail
  go_at_call 271; refine (HRN.out _).mono ?_; rintro e w3 ⟨rfl, hb3⟩; ((obtain ⟨hc3, hf3, hs3⟩ := qR hb3); (try have := qN0 w w3); (try have := qN1 w w3); (try have := qN0 w2 w3))
  go_upto_region 7 with (fail)
  refine wp_name (fun W => Blk W w.heap.size 75 #[.int .i64 104, .int .u64 h, .int .u64 1, .int .u64 u, .int .u64 0, .int .u64 0, .int .u64 0, .int .u64 0, .int .u64 0] ∧ Blk W (w.heap.size + 1) 344 #[.int .i64 0, .int .u32 u] ∧ Below w.heap.size w W) ⟨?_, ?_, ?_⟩ (fun wy HY => ?_)
  · have B := (HX.out.1.kept hb2).kept hb3
    (repeat (first | with_reducible exact B | with_reducible apply Blk.put | with_reducible apply Blk.alloc | (with_reducible apply Blk.aside; (case hp => first | (simp; done) | (simp; omega))) | with_reducible apply Blk.drew))
  · apply Blk.cast
    · have B := (HX.out.2.1.kept hb2).kept hb3
      (repeat (first | with_reducible exact B | with_reducible apply Blk.put | with_reducible apply Blk.alloc | (with_reducible apply Blk.aside; (case hp => first | (simp; done) | (simp; omega))) | with_reducible apply Blk.drew))
    · kernel_rfl
  · have hbx := HX.out.2.2
    exact qL
  clear HX hb2 hc2 hf2 hs2 hb3 hc3 hf3 hs3 kp fp kz fz lz lp
  have kp := HY.out.1.cell
  have fp := HY.out.1.free
  have kz := HY.out.2.1.cell
  have fz := HY.out.2.1.free
  have lz := HY.out.2.1.lt
  have lp := HY.out.1.lt
  go_region
  go_wp2_with fail
  have BP := HY.out.1
  have BN := HY.out.2.1
  have hbw := HY.out.2.2
  refine bodyPost_ret (results_bbtt rfl _ _ w.heap.size (w.heap.size + 1) 75 344 #[.int .i64 104, .int .u64 h, .int .u64 1, .int .u64 u, .int .u64 0, .int .u64 0, .int .u64 0, .int .u64 0, .int .u64 0] #[.int .i64 0, .int .u32 u] rfl rfl ?_ ?_ _ Tryz.underlying75 rfl (by kernel_rfl) _ Tryz.underlying344 rfl (by kernel_rfl)) rfl ⟨rfl, qL⟩
  · apply Blk.cast
    · (repeat (first | with_reducible exact BP | with_reducible apply Blk.put | with_reducible apply Blk.alloc | (with_reducible apply Blk.aside; (case hp => first | (simp; done) | (simp; omega))) | with_reducible apply Blk.drew))
    · kernel_rfl
  · apply Blk.cast
    · (repeat (first | with_reducible exact BN | with_reducible apply Blk.put | with_reducible apply Blk.alloc | (with_reducible apply Blk.aside; (case hp => first | (simp; done) | (simp; omega))) | with_reducible apply Blk.drew))
    · kernel_rfl
end Go.Proofs.YtcoiehgcfjfhaaaGreatDoor
