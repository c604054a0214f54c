/- Package pointer, fifth part: Peek, Open, At, tagged, Allocate. -/
import Derived.Test.YtjmpekanlmepmaaGreatDoorNN03
set_option linter.all false
set_option maxRecDepth 20000
set_option maxHeartbeats 8000000
open Go.Lib (hid)
namespace Go.Proofs.YtjmpekanlmepmaaGreatDoor
open Go.RowKit
theorem sG26 {P : Prop} (h : P := by
 go_wp2_with fail
 go_at_call 65; refine (lookup_any known v p _ _ _ ?hpg).mono ?_; (case hpg => exact Hk.out.below qL); rintro e w1 ⟨rfl, hb⟩; ((obtain ⟨hc1, hf1, hs1⟩ := qR hb); (try have := qN0 w w1); (try have := qN1 w w1))
 have B := (made22 w (t := 25) (cs := Bt.zeroPage.cells)).kept hb
 simp only [Bt.zeroPage, Bt.Page.cells] at B
 simp only [Bt.Page.cells]
 go_wp2
 (refine bodyPost_ret (results_btt rfl _ _ (w.heap.size + 1) _ _ _ rfl (by exact qK) Tryz.underlying25 rfl (by kernel_rfl)) rfl ⟨?_, ?_⟩)
 ·rw [set9]; rfl
 ·exact qL) : P := h
theorem Peek_any (known : List Bt.Page) (v : Value) (p : Bt.Ptr) (kind : Int) (w : World) (hk : PgRow w v known) : Calls Tryz.prog 105 #[v, .agg p.cells, .int .i64 kind] w (LookPost known p kind false w) := by
 have Hk := hid hk
 clear hk
 unfold Bt.Ptr.cells
 go_enter Tryz.func105, Tryz.ntmps105
 exact sG26
theorem Open_any (known : List Bt.Page) (v : Value) (p : Bt.Ptr) (kind : Int) (w : World) (hk : PgRow w v known) : Calls Tryz.prog 32 #[v, .agg p.cells, .int .i64 kind] w (LookPost known p kind true w) := by
 have Hk := hid hk
 clear hk
 unfold Bt.Ptr.cells
 go_enter Tryz.func32, Tryz.ntmps32
 exact sG26
theorem field_tag1 (x y z : Value) (w : World) : (Instr.field 122 (.agg #[x, y, z]) 1).run Tryz.prog w = .ok y w := by kernel_rfl
theorem At_any (p : Bt.Page) (hp : p.Ok) (w : World) : Calls Tryz.prog 33 #[.agg p.cells] w fun e w' => e = .returned (.agg (Bt.at_ p).cells) ∧ Below w.heap.size w w' := by
 unfold Bt.Page.cells
 have Hp := hid hp
 clear hp
 have ff := field_tag1
 go_enter Tryz.func33, Tryz.ntmps33
 go_wp2_with fail
 go_region_with (go_at_call 66; refine (tagOf_any p Hp.out _).mono ?_; rintro e w1 ⟨rfl, hb⟩; ((obtain ⟨hc1, hf1, hs1⟩ := qR hb); (try have := qN0 w w1); (try have := qN1 w w1)))
 all_goals
  have B := (made22 w (t := 27) (cs := #[.int .i64 0, .int .i64 0])).drew.kept hb
  go_wp2
  (refine bodyPost_ret (results_b rfl _ _ (w.heap.size + 1) _ _ _ rfl (by exact qK) Tryz.underlying27 rfl (by kernel_rfl)) rfl ⟨?_, ?_⟩)
  ·rw [set2]; rfl
  ·exact qL
theorem tagged_any (p : Bt.Page) (k g a : Int) (hk : -9223372036854775808 ≤ k ∧ k ≤ 9223372036854775807) (hg : -9223372036854775808 ≤ g ∧ g ≤ 9223372036854775807) (ha : 0 ≤ a ∧ a < 4294967296) (w : World) :
 Calls Tryz.prog 124 #[.agg p.cells, .agg #[.int .i64 k, .int .i64 g, .int .u32 a]] w fun e w' => e = .returned (.agg (⟨p.line, p.head, Bt.packTag k g a, 0, 0, 0, 0, 0, 0⟩ : Bt.Page).cells) ∧ Below w.heap.size w w' := by
 unfold Bt.Page.cells
 go_enter Tryz.func124, Tryz.ntmps124
 go_wp2_with fail
 go_at_call 99; refine (PackTag_any k g a hk hg ha _).mono ?_; rintro e w1 ⟨rfl, hb⟩; ((obtain ⟨hc1, hf1, hs1⟩ := qR hb); (try have := qN0 w w1); (try have := qN1 w w1); (try have := qN2 w w1); (try have := qN3 w w1))
 have B := ((made33 w (t := 25) (cs := Bt.zeroPage.cells)).alloc _).kept hb
 simp only [Bt.zeroPage, Bt.Page.cells] at B
 go_wp2
 (refine bodyPost_ret (results_b rfl _ _ (w.heap.size + 1 + 1) _ _ _ rfl (by exact qK) Tryz.underlying25 rfl (by kernel_rfl)) rfl ⟨?_, ?_⟩)
 ·rw [set9]
 ·exact qL
theorem zeroPage_cells : Bt.zeroPage.cells = #[.int .i64 0, .int .u64 0, .int .u64 0, .int .u64 0, .int .u64 0, .int .u64 0, .int .u64 0, .int .u64 0, .int .u64 0] := rfl
theorem Allocate_any (p : Bt.Page) (hp : p.Ok) (w : World) :
 Calls Tryz.prog 109 #[.agg p.cells, .int .i64 4, .int .u32 0] w fun e w' => e = .returned (.tuple #[.agg (Bt.allocate p 4 0).1.cells, .int .i64 (Bt.allocate p 4 0).2]) ∧ Below w.heap.size w w' := by
 have Hp := hid hp
 have hg : 0 ≤ Bt.tagGen p.d0 ∧ Bt.tagGen p.d0 < 16777216 := by unfold Bt.tagGen; omega
 clear hp
 by_cases h1 : Bt.inHeap p.line = false
 ·have HX : Hid (Bt.allocate p 4 0 = (Bt.zeroPage, 1)) := hid (by simp [Bt.allocate, h1])
  have H1 := hid h1
  clear h1
  unfold Bt.Page.cells
  go_enter Tryz.func109, Tryz.ntmps109
  go_wp2_with fail
  go_at_call 66; refine (tagOf_any p Hp.out _).mono ?_; rintro e w1 ⟨rfl, hb⟩; ((obtain ⟨hc1, hf1, hs1⟩ := qR hb); (try have := qN0 w w1); (try have := qN1 w w1))
  go_wp2_with fail
  go_at_call 100; refine (inHeap_any p.line _).mono ?_; rintro e w2 ⟨rfl, rfl⟩; rw [H1.out]
  have B := (made22 w (t := 25) (cs := Bt.zeroPage.cells)).kept hb
  rw [zeroPage_cells] at B
  go_wp2
  (refine bodyPost_ret (results_bt rfl _ _ (w.heap.size + 1) _ _ _ rfl (by exact qK) Tryz.underlying25 rfl (by kernel_rfl)) rfl ⟨?_, ?_⟩)
  ·rw [HX.out, set9]; rfl
  ·exact qL
 ·have H1 : Hid (Bt.inHeap p.line = true) := hid (by simpa using h1)
  have h1' := H1.out
  rcases h2 : Bt.locked p with _ | _
  ·have H2 := hid h2
   by_cases h3 : Bt.tagKind p.d0 = 0
   ·by_cases h4 : Bt.tagGen p.d0 = 16777215
    ·have HX : Hid (Bt.allocate p 4 0 = (Bt.zeroPage, 18)) := hid (by simp [Bt.allocate, h1', h2, h3, h4])
     have b3 : (Bt.tagKind p.d0 != 0) = false := by simp [h3]
     have b4 : (Bt.tagGen p.d0 == 16777215) = true := by simp [h4]
     clear h1 h1' h2 h3 h4
     unfold Bt.Page.cells
     go_enter Tryz.func109, Tryz.ntmps109
     go_wp2_with fail
     go_at_call 66; refine (tagOf_any p Hp.out _).mono ?_; rintro e w1 ⟨rfl, hb⟩; ((obtain ⟨hc1, hf1, hs1⟩ := qR hb); (try have := qN0 w w1); (try have := qN1 w w1))
     go_wp2_with fail
     go_at_call 100; refine (inHeap_any p.line _).mono ?_; rintro e w2 ⟨rfl, rfl⟩; rw [H1.out]
     go_wp2_with fail
     go_at_call 80; refine (Locked_any p Hp.out _).mono ?_; rintro e w3 ⟨rfl, hb3⟩; rw [H2.out]; ((obtain ⟨hc3, hf3, hs3⟩ := qR hb3); (try have := qN0 w w3); (try have := qN1 w w3); (try have := qN0 w1 w3); (try have := qN1 w1 w3))
     have B := (((made22 w (t := 25) (cs := Bt.zeroPage.cells)).kept hb).alloc _).kept hb3
     rw [zeroPage_cells] at B
     go_wp2
     (refine bodyPost_ret (results_bt rfl _ _ (w.heap.size + 1) _ _ _ rfl (by exact qK) Tryz.underlying25 rfl (by kernel_rfl)) rfl ⟨?_, ?_⟩)
     ·rw [HX.out, set9]; rfl
     ·exact qL
    ·have HX : Hid (Bt.allocate p 4 0 = (⟨p.line, p.head, Bt.packTag 4 (Bt.tagGen p.d0 + 1) 0, 0, 0, 0, 0, 0, 0⟩, 0)) := hid (by simp [Bt.allocate, h1', h2, h3, h4])
     have b3 : (Bt.tagKind p.d0 != 0) = false := by simp [h3]
     have b4 : (Bt.tagGen p.d0 == 16777215) = false := by simp [h4]
     clear h1 h1' h2 h3 h4
     unfold Bt.Page.cells
     go_enter Tryz.func109, Tryz.ntmps109
     go_wp2_with fail
     go_at_call 66; refine (tagOf_any p Hp.out _).mono ?_; rintro e w1 ⟨rfl, hb⟩; ((obtain ⟨hc1, hf1, hs1⟩ := qR hb); (try have := qN0 w w1); (try have := qN1 w w1))
     go_wp2_with fail
     go_at_call 100; refine (inHeap_any p.line _).mono ?_; rintro e w2 ⟨rfl, rfl⟩; rw [H1.out]
     go_wp2_with fail
     go_at_call 80; refine (Locked_any p Hp.out _).mono ?_; rintro e w3 ⟨rfl, hb3⟩; rw [H2.out]; ((obtain ⟨hc3, hf3, hs3⟩ := qR hb3); (try have := qN0 w w3); (try have := qN1 w w3); (try have := qN0 w1 w3); (try have := qN1 w1 w3))
     go_wp2_with fail
     go_at_call 124; refine (tagged_any p _ _ _ (by omega) (by omega) (by omega) _).mono ?_; rintro e w4 ⟨rfl, hb4⟩; ((obtain ⟨hc4, hf4, hs4⟩ := qR hb4); (try have := qN0 w w4); (try have := qN1 w w4); (try have := qN0 w1 w4); (try have := qN1 w1 w4))
     have B := ((((made22 w (t := 25) (cs := Bt.zeroPage.cells)).kept hb).alloc _).kept hb3).kept hb4
     rw [zeroPage_cells] at B
     simp only [Bt.Page.cells]
     go_wp2
     (refine bodyPost_ret (results_bt rfl _ _ (w.heap.size + 1) _ _ _ rfl (by exact qK) Tryz.underlying25 rfl (by kernel_rfl)) rfl ⟨?_, ?_⟩)
     ·rw [HX.out, set9]; rfl
     ·exact qL
   ·have HX : Hid (Bt.allocate p 4 0 = (Bt.zeroPage, 17)) := hid (by simp [Bt.allocate, h1', h2, h3])
    have b3 : (Bt.tagKind p.d0 != 0) = true := by simp [h3]
    clear h1 h1' h2 h3
    unfold Bt.Page.cells
    go_enter Tryz.func109, Tryz.ntmps109
    go_wp2_with fail
    go_at_call 66; refine (tagOf_any p Hp.out _).mono ?_; rintro e w1 ⟨rfl, hb⟩; ((obtain ⟨hc1, hf1, hs1⟩ := qR hb); (try have := qN0 w w1); (try have := qN1 w w1))
    go_wp2_with fail
    go_at_call 100; refine (inHeap_any p.line _).mono ?_; rintro e w2 ⟨rfl, rfl⟩; rw [H1.out]
    go_wp2_with fail
    go_at_call 80; refine (Locked_any p Hp.out _).mono ?_; rintro e w3 ⟨rfl, hb3⟩; rw [H2.out]; ((obtain ⟨hc3, hf3, hs3⟩ := qR hb3); (try have := qN0 w w3); (try have := qN1 w w3); (try have := qN0 w1 w3); (try have := qN1 w1 w3))
    have B := (((made22 w (t := 25) (cs := Bt.zeroPage.cells)).kept hb).alloc _).kept hb3
    rw [zeroPage_cells] at B
    go_wp2
    (refine bodyPost_ret (results_bt rfl _ _ (w.heap.size + 1) _ _ _ rfl (by exact qK) Tryz.underlying25 rfl (by kernel_rfl)) rfl ⟨?_, ?_⟩)
    ·rw [HX.out, set9]; rfl
    ·exact qL
  ·have H2 := hid h2
   have HX : Hid (Bt.allocate p 4 0 = (Bt.zeroPage, 3)) := hid (by simp [Bt.allocate, h1', h2])
   clear h1 h1' h2
   unfold Bt.Page.cells
   go_enter Tryz.func109, Tryz.ntmps109
   go_wp2_with fail
   go_at_call 66; refine (tagOf_any p Hp.out _).mono ?_; rintro e w1 ⟨rfl, hb⟩; ((obtain ⟨hc1, hf1, hs1⟩ := qR hb); (try have := qN0 w w1); (try have := qN1 w w1))
   go_wp2_with fail
   go_at_call 100; refine (inHeap_any p.line _).mono ?_; rintro e w2 ⟨rfl, rfl⟩; rw [H1.out]
   go_wp2_with fail
   go_at_call 80; refine (Locked_any p Hp.out _).mono ?_; rintro e w3 ⟨rfl, hb3⟩; rw [H2.out]; ((obtain ⟨hc3, hf3, hs3⟩ := qR hb3); (try have := qN0 w w3); (try have := qN1 w w3); (try have := qN0 w1 w3); (try have := qN1 w1 w3))
   have B := (((made22 w (t := 25) (cs := Bt.zeroPage.cells)).kept hb).alloc _).kept hb3
   rw [zeroPage_cells] at B
   go_wp2
   (refine bodyPost_ret (results_bt rfl _ _ (w.heap.size + 1) _ _ _ rfl (by exact qK) Tryz.underlying25 rfl (by kernel_rfl)) rfl ⟨?_, ?_⟩)
   ·rw [HX.out, set9]; rfl
   ·exact qL
end Go.Proofs.YtjmpekanlmepmaaGreatDoor
