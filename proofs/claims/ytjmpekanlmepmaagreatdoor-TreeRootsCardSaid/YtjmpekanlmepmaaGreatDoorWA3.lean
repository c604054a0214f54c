/- Package pointer, fourth part: lookup. -/
import Derived.Test.YtjmpekanlmepmaaGreatDoorQa
set_option linter.unusedVariables false
set_option linter.unusedSimpArgs false
set_option linter.unusedSectionVars false
set_option linter.constructorNameAsVariable false
namespace Go.Proofs.YtjmpekanlmepmaaGreatDoor
open Go.RowKit

theorem lookup_fb (known : List Bt.Page) (v : Value) (p : Bt.Ptr) (kind : Int) (page : Bt.Page) (w : World) (Hk : Hid (PgRow w v known)) (Hv : Hid (Bt.validP p = true)) (Hl : Hid (Bt.latest known p.line = some page))
    (h1 : Bt.tagKind page.d0 = 0) :
    Calls Tryz.prog 65 #[v, .agg p.cells, .int .i64 kind, .bool false] w (LookPost known p kind false w) := by
  have Hpok := Lib.hid (Hk.out.ok page (latest_mem Hl.out).1)
  have HX : Hid (Bt.lookup known p kind false = .bad 11) := Lib.hid (by simp only [Bt.lookup, Hv.out, Hl.out]; simp [h1])
  have b1 : (Bt.tagKind page.d0 == 0) = true := by simp [h1]
  clear h1
  unfold Bt.Ptr.cells
  go_enter Tryz.func65, Tryz.ntmps65
  go_wp2_with fail
  go_at_call 75; refine (Valid_any _ _ _).mono ?_; rintro e w1 ⟨rfl, hb⟩; rw [Hv.out]; ((obtain ⟨hc1, hf1⟩ := below_rules hb; have hs1 := Below.size hb; try simp only [size_alloc, size_setCell, size_drew, size_drewN] at hs1 hc1 hf1); (try have z1_w_0 : w.heap.size < w1.heap.size := by omega); (try have z1_w_1 : w.heap.size + 1 < w1.heap.size := by omega))
  have P1 : Hid (PgRow w1 v known) := Lib.hid (Hk.out.below (below_step (by (repeat (first | with_reducible exact Below.refl _ _ | with_reducible assumption | with_reducible refine Below.setCell ?_ (by first | (simp; done) | (simp; omega)) _ | with_reducible refine below_alloc ?_ _ | with_reducible refine below_drewN ?_ _ | with_reducible refine Below.drew ?_ | with_reducible refine below_step ?_ (by assumption)))) hb))
  go_wp2_with fail
  go_at_call 78; refine (Latest_any known v _ _ P1.out).mono ?_; rintro e w2 ⟨rfl, hb2⟩; rw [Hl.out]; ((obtain ⟨hc2, hf2⟩ := below_rules hb2; have hs2 := Below.size hb2; try simp only [size_alloc, size_setCell, size_drew, size_drewN] at hs2 hc2 hf2); (try have z2_w_0 : w.heap.size < w2.heap.size := by omega); (try have z2_w_1 : w.heap.size + 1 < w2.heap.size := by omega))
  simp only [Option.getD_some, Option.isSome_some, Bt.Page.cells]
  go_wp2_with fail
  go_at_call 66; refine (tagOf_any page Hpok.out _).mono ?_; rintro e w3 ⟨rfl, hb3⟩; ((obtain ⟨hc3, hf3⟩ := below_rules hb3; have hs3 := Below.size hb3; try simp only [size_alloc, size_setCell, size_drew, size_drewN] at hs3 hc3 hf3); (try have z3_w_0 : w.heap.size < w3.heap.size := by omega); (try have z3_w_1 : w.heap.size + 1 < w3.heap.size := by omega); (try have z3_w2_0 : w2.heap.size < w3.heap.size := by omega); (try have z3_w2_1 : w2.heap.size + 1 < w3.heap.size := by omega))
  have B := (((made22 w (t := 25) (cs := Bt.zeroPage.cells)).kept hb).kept hb2).alloc (.cells page.cells 25) |>.kept hb3
  simp only [Bt.zeroPage, Bt.Page.cells] at B
  go_wp2
  all_goals ((refine bodyPost_ret (results_btt rfl _ _ (w.heap.size + 1) _ _ _ rfl (by (repeat (first | with_reducible exact B | with_reducible apply Blk.put | with_reducible apply Blk.alloc | (with_reducible apply Blk.aside; (case hp => first | (simp; done) | (simp; omega))) | with_reducible apply Blk.drew))) Tryz.underlying25 rfl (by kernel_rfl)) rfl ⟨?_, ?_⟩); (rotate_left; (repeat (first | with_reducible exact Below.refl _ _ | with_reducible assumption | with_reducible refine Below.setCell ?_ (by first | (simp; done) | (simp; omega)) _ | with_reducible refine below_alloc ?_ _ | with_reducible refine below_drewN ?_ _ | with_reducible refine Below.drew ?_ | with_reducible refine below_step ?_ (by assumption)))); (rw [HX.out, set9]; rfl))

theorem lookup_fc (known : List Bt.Page) (v : Value) (p : Bt.Ptr) (kind : Int) (page : Bt.Page) (w : World) (Hk : Hid (PgRow w v known)) (Hv : Hid (Bt.validP p = true)) (Hl : Hid (Bt.latest known p.line = some page))
    (h1 : ¬ Bt.tagKind page.d0 = 0) (h2 : ¬ Bt.tagGen page.d0 = p.gen) :
    Calls Tryz.prog 65 #[v, .agg p.cells, .int .i64 kind, .bool false] w (LookPost known p kind false w) := by
  have Hpok := Lib.hid (Hk.out.ok page (latest_mem Hl.out).1)
  have HX : Hid (Bt.lookup known p kind false = .bad 11) := Lib.hid (by simp only [Bt.lookup, Hv.out, Hl.out]; simp [h1, h2])
  have b1 : (Bt.tagKind page.d0 == 0) = false := by simp [h1]
  have b2 : (Bt.tagGen page.d0 != p.gen) = true := by simp [h2]
  clear h1 h2
  unfold Bt.Ptr.cells
  go_enter Tryz.func65, Tryz.ntmps65
  go_wp2_with fail
  go_at_call 75; refine (Valid_any _ _ _).mono ?_; rintro e w1 ⟨rfl, hb⟩; rw [Hv.out]; ((obtain ⟨hc1, hf1⟩ := below_rules hb; have hs1 := Below.size hb; try simp only [size_alloc, size_setCell, size_drew, size_drewN] at hs1 hc1 hf1); (try have z1_w_0 : w.heap.size < w1.heap.size := by omega); (try have z1_w_1 : w.heap.size + 1 < w1.heap.size := by omega))
  have P1 : Hid (PgRow w1 v known) := Lib.hid (Hk.out.below (below_step (by (repeat (first | with_reducible exact Below.refl _ _ | with_reducible assumption | with_reducible refine Below.setCell ?_ (by first | (simp; done) | (simp; omega)) _ | with_reducible refine below_alloc ?_ _ | with_reducible refine below_drewN ?_ _ | with_reducible refine Below.drew ?_ | with_reducible refine below_step ?_ (by assumption)))) hb))
  go_wp2_with fail
  go_at_call 78; refine (Latest_any known v _ _ P1.out).mono ?_; rintro e w2 ⟨rfl, hb2⟩; rw [Hl.out]; ((obtain ⟨hc2, hf2⟩ := below_rules hb2; have hs2 := Below.size hb2; try simp only [size_alloc, size_setCell, size_drew, size_drewN] at hs2 hc2 hf2); (try have z2_w_0 : w.heap.size < w2.heap.size := by omega); (try have z2_w_1 : w.heap.size + 1 < w2.heap.size := by omega))
  simp only [Option.getD_some, Option.isSome_some, Bt.Page.cells]
  go_wp2_with fail
  go_at_call 66; refine (tagOf_any page Hpok.out _).mono ?_; rintro e w3 ⟨rfl, hb3⟩; ((obtain ⟨hc3, hf3⟩ := below_rules hb3; have hs3 := Below.size hb3; try simp only [size_alloc, size_setCell, size_drew, size_drewN] at hs3 hc3 hf3); (try have z3_w_0 : w.heap.size < w3.heap.size := by omega); (try have z3_w_1 : w.heap.size + 1 < w3.heap.size := by omega); (try have z3_w2_0 : w2.heap.size < w3.heap.size := by omega); (try have z3_w2_1 : w2.heap.size + 1 < w3.heap.size := by omega))
  have B := (((made22 w (t := 25) (cs := Bt.zeroPage.cells)).kept hb).kept hb2).alloc (.cells page.cells 25) |>.kept hb3
  simp only [Bt.zeroPage, Bt.Page.cells] at B
  go_wp2
  all_goals ((refine bodyPost_ret (results_btt rfl _ _ (w.heap.size + 1) _ _ _ rfl (by (repeat (first | with_reducible exact B | with_reducible apply Blk.put | with_reducible apply Blk.alloc | (with_reducible apply Blk.aside; (case hp => first | (simp; done) | (simp; omega))) | with_reducible apply Blk.drew))) Tryz.underlying25 rfl (by kernel_rfl)) rfl ⟨?_, ?_⟩); (rotate_left; (repeat (first | with_reducible exact Below.refl _ _ | with_reducible assumption | with_reducible refine Below.setCell ?_ (by first | (simp; done) | (simp; omega)) _ | with_reducible refine below_alloc ?_ _ | with_reducible refine below_drewN ?_ _ | with_reducible refine Below.drew ?_ | with_reducible refine below_step ?_ (by assumption)))); (rw [HX.out, set9]; rfl))

theorem lookup_fd (known : List Bt.Page) (v : Value) (p : Bt.Ptr) (kind : Int) (page : Bt.Page) (w : World) (Hk : Hid (PgRow w v known)) (Hv : Hid (Bt.validP p = true)) (Hl : Hid (Bt.latest known p.line = some page))
    (h1 : ¬ Bt.tagKind page.d0 = 0) (h2 : Bt.tagGen page.d0 = p.gen) (h3 : ¬ Bt.tagKind page.d0 = kind) :
    Calls Tryz.prog 65 #[v, .agg p.cells, .int .i64 kind, .bool false] w (LookPost known p kind false w) := by
  have Hpok := Lib.hid (Hk.out.ok page (latest_mem Hl.out).1)
  have HX : Hid (Bt.lookup known p kind false = .bad 14) := Lib.hid (by simp only [Bt.lookup, Hv.out, Hl.out]; simp [h1, h2, h3])
  have b1 : (Bt.tagKind page.d0 == 0) = false := by simp [h1]
  have b2 : (Bt.tagGen page.d0 != p.gen) = false := by simp [h2]
  have b3 : (Bt.tagKind page.d0 != kind) = true := by simp [h3]
  clear h1 h2 h3
  unfold Bt.Ptr.cells
  go_enter Tryz.func65, Tryz.ntmps65
  go_wp2_with fail
  go_at_call 75; refine (Valid_any _ _ _).mono ?_; rintro e w1 ⟨rfl, hb⟩; rw [Hv.out]; ((obtain ⟨hc1, hf1⟩ := below_rules hb; have hs1 := Below.size hb; try simp only [size_alloc, size_setCell, size_drew, size_drewN] at hs1 hc1 hf1); (try have z1_w_0 : w.heap.size < w1.heap.size := by omega); (try have z1_w_1 : w.heap.size + 1 < w1.heap.size := by omega))
  have P1 : Hid (PgRow w1 v known) := Lib.hid (Hk.out.below (below_step (by (repeat (first | with_reducible exact Below.refl _ _ | with_reducible assumption | with_reducible refine Below.setCell ?_ (by first | (simp; done) | (simp; omega)) _ | with_reducible refine below_alloc ?_ _ | with_reducible refine below_drewN ?_ _ | with_reducible refine Below.drew ?_ | with_reducible refine below_step ?_ (by assumption)))) hb))
  go_wp2_with fail
  go_at_call 78; refine (Latest_any known v _ _ P1.out).mono ?_; rintro e w2 ⟨rfl, hb2⟩; rw [Hl.out]; ((obtain ⟨hc2, hf2⟩ := below_rules hb2; have hs2 := Below.size hb2; try simp only [size_alloc, size_setCell, size_drew, size_drewN] at hs2 hc2 hf2); (try have z2_w_0 : w.heap.size < w2.heap.size := by omega); (try have z2_w_1 : w.heap.size + 1 < w2.heap.size := by omega))
  simp only [Option.getD_some, Option.isSome_some, Bt.Page.cells]
  go_wp2_with fail
  go_at_call 66; refine (tagOf_any page Hpok.out _).mono ?_; rintro e w3 ⟨rfl, hb3⟩; ((obtain ⟨hc3, hf3⟩ := below_rules hb3; have hs3 := Below.size hb3; try simp only [size_alloc, size_setCell, size_drew, size_drewN] at hs3 hc3 hf3); (try have z3_w_0 : w.heap.size < w3.heap.size := by omega); (try have z3_w_1 : w.heap.size + 1 < w3.heap.size := by omega); (try have z3_w2_0 : w2.heap.size < w3.heap.size := by omega); (try have z3_w2_1 : w2.heap.size + 1 < w3.heap.size := by omega))
  have B := (((made22 w (t := 25) (cs := Bt.zeroPage.cells)).kept hb).kept hb2).alloc (.cells page.cells 25) |>.kept hb3
  simp only [Bt.zeroPage, Bt.Page.cells] at B
  go_wp2
  all_goals ((refine bodyPost_ret (results_btt rfl _ _ (w.heap.size + 1) _ _ _ rfl (by (repeat (first | with_reducible exact B | with_reducible apply Blk.put | with_reducible apply Blk.alloc | (with_reducible apply Blk.aside; (case hp => first | (simp; done) | (simp; omega))) | with_reducible apply Blk.drew))) Tryz.underlying25 rfl (by kernel_rfl)) rfl ⟨?_, ?_⟩); (rotate_left; (repeat (first | with_reducible exact Below.refl _ _ | with_reducible assumption | with_reducible refine Below.setCell ?_ (by first | (simp; done) | (simp; omega)) _ | with_reducible refine below_alloc ?_ _ | with_reducible refine below_drewN ?_ _ | with_reducible refine Below.drew ?_ | with_reducible refine below_step ?_ (by assumption)))); (rw [HX.out, set9]; rfl))

theorem lookup_fe (known : List Bt.Page) (v : Value) (p : Bt.Ptr) (kind : Int) (page : Bt.Page) (w : World) (Hk : Hid (PgRow w v known)) (Hv : Hid (Bt.validP p = true)) (Hl : Hid (Bt.latest known p.line = some page))
    (h1 : ¬ Bt.tagKind page.d0 = 0) (h2 : Bt.tagGen page.d0 = p.gen) (h3 : Bt.tagKind page.d0 = kind) :
    Calls Tryz.prog 65 #[v, .agg p.cells, .int .i64 kind, .bool false] w (LookPost known p kind false w) := by
  have Hpok := Lib.hid (Hk.out.ok page (latest_mem Hl.out).1)
  have HX : Hid (Bt.lookup known p kind false = .found page) := Lib.hid (by simp only [Bt.lookup, Hv.out, Hl.out]; simp [← h3, h1, h2])
  have b1 : (Bt.tagKind page.d0 == 0) = false := by simp [h1]
  have b2 : (Bt.tagGen page.d0 != p.gen) = false := by simp [h2]
  have b3 : (Bt.tagKind page.d0 != kind) = false := by simp [h3]
  clear h1 h2 h3
  unfold Bt.Ptr.cells
  go_enter Tryz.func65, Tryz.ntmps65
  go_wp2_with fail
  go_at_call 75; refine (Valid_any _ _ _).mono ?_; rintro e w1 ⟨rfl, hb⟩; rw [Hv.out]; ((obtain ⟨hc1, hf1⟩ := below_rules hb; have hs1 := Below.size hb; try simp only [size_alloc, size_setCell, size_drew, size_drewN] at hs1 hc1 hf1); (try have z1_w_0 : w.heap.size < w1.heap.size := by omega); (try have z1_w_1 : w.heap.size + 1 < w1.heap.size := by omega))
  have P1 : Hid (PgRow w1 v known) := Lib.hid (Hk.out.below (below_step (by (repeat (first | with_reducible exact Below.refl _ _ | with_reducible assumption | with_reducible refine Below.setCell ?_ (by first | (simp; done) | (simp; omega)) _ | with_reducible refine below_alloc ?_ _ | with_reducible refine below_drewN ?_ _ | with_reducible refine Below.drew ?_ | with_reducible refine below_step ?_ (by assumption)))) hb))
  go_wp2_with fail
  go_at_call 78; refine (Latest_any known v _ _ P1.out).mono ?_; rintro e w2 ⟨rfl, hb2⟩; rw [Hl.out]; ((obtain ⟨hc2, hf2⟩ := below_rules hb2; have hs2 := Below.size hb2; try simp only [size_alloc, size_setCell, size_drew, size_drewN] at hs2 hc2 hf2); (try have z2_w_0 : w.heap.size < w2.heap.size := by omega); (try have z2_w_1 : w.heap.size + 1 < w2.heap.size := by omega))
  simp only [Option.getD_some, Option.isSome_some, Bt.Page.cells]
  go_wp2_with fail
  go_at_call 66; refine (tagOf_any page Hpok.out _).mono ?_; rintro e w3 ⟨rfl, hb3⟩; ((obtain ⟨hc3, hf3⟩ := below_rules hb3; have hs3 := Below.size hb3; try simp only [size_alloc, size_setCell, size_drew, size_drewN] at hs3 hc3 hf3); (try have z3_w_0 : w.heap.size < w3.heap.size := by omega); (try have z3_w_1 : w.heap.size + 1 < w3.heap.size := by omega); (try have z3_w2_0 : w2.heap.size < w3.heap.size := by omega); (try have z3_w2_1 : w2.heap.size + 1 < w3.heap.size := by omega))
  have B := (((made22 w (t := 25) (cs := Bt.zeroPage.cells)).kept hb).kept hb2).alloc (.cells page.cells 25) |>.kept hb3
  simp only [Bt.zeroPage, Bt.Page.cells] at B
  go_wp2
  all_goals ((refine bodyPost_ret (results_btt rfl _ _ (w.heap.size + 1) _ _ _ rfl (by (repeat (first | with_reducible exact B | with_reducible apply Blk.put | with_reducible apply Blk.alloc | (with_reducible apply Blk.aside; (case hp => first | (simp; done) | (simp; omega))) | with_reducible apply Blk.drew))) Tryz.underlying25 rfl (by kernel_rfl)) rfl ⟨?_, ?_⟩); (rotate_left; (repeat (first | with_reducible exact Below.refl _ _ | with_reducible assumption | with_reducible refine Below.setCell ?_ (by first | (simp; done) | (simp; omega)) _ | with_reducible refine below_alloc ?_ _ | with_reducible refine below_drewN ?_ _ | with_reducible refine Below.drew ?_ | with_reducible refine below_step ?_ (by assumption)))); (rw [HX.out, set9]; rfl))

theorem lookup_tb (known : List Bt.Page) (v : Value) (p : Bt.Ptr) (kind : Int) (page : Bt.Page) (w : World) (Hk : Hid (PgRow w v known)) (Hv : Hid (Bt.validP p = true)) (Hl : Hid (Bt.latest known p.line = some page))
    (HK : Hid (Bt.locked page = false)) (h1 : Bt.tagKind page.d0 = 0) :
    Calls Tryz.prog 65 #[v, .agg p.cells, .int .i64 kind, .bool true] w (LookPost known p kind true w) := by
  have Hpok := Lib.hid (Hk.out.ok page (latest_mem Hl.out).1)
  have HX : Hid (Bt.lookup known p kind true = .bad 11) := Lib.hid (by simp only [Bt.lookup, Hv.out, Hl.out]; simp [h1, HK.out])
  have b1 : (Bt.tagKind page.d0 == 0) = true := by simp [h1]
  clear h1
  unfold Bt.Ptr.cells
  go_enter Tryz.func65, Tryz.ntmps65
  go_wp2_with fail
  go_at_call 75; refine (Valid_any _ _ _).mono ?_; rintro e w1 ⟨rfl, hb⟩; rw [Hv.out]; ((obtain ⟨hc1, hf1⟩ := below_rules hb; have hs1 := Below.size hb; try simp only [size_alloc, size_setCell, size_drew, size_drewN] at hs1 hc1 hf1); (try have z1_w_0 : w.heap.size < w1.heap.size := by omega); (try have z1_w_1 : w.heap.size + 1 < w1.heap.size := by omega))
  have P1 : Hid (PgRow w1 v known) := Lib.hid (Hk.out.below (below_step (by (repeat (first | with_reducible exact Below.refl _ _ | with_reducible assumption | with_reducible refine Below.setCell ?_ (by first | (simp; done) | (simp; omega)) _ | with_reducible refine below_alloc ?_ _ | with_reducible refine below_drewN ?_ _ | with_reducible refine Below.drew ?_ | with_reducible refine below_step ?_ (by assumption)))) hb))
  go_wp2_with fail
  go_at_call 78; refine (Latest_any known v _ _ P1.out).mono ?_; rintro e w2 ⟨rfl, hb2⟩; rw [Hl.out]; ((obtain ⟨hc2, hf2⟩ := below_rules hb2; have hs2 := Below.size hb2; try simp only [size_alloc, size_setCell, size_drew, size_drewN] at hs2 hc2 hf2); (try have z2_w_0 : w.heap.size < w2.heap.size := by omega); (try have z2_w_1 : w.heap.size + 1 < w2.heap.size := by omega))
  simp only [Option.getD_some, Option.isSome_some, Bt.Page.cells]
  go_wp2_with fail
  go_at_call 66; refine (tagOf_any page Hpok.out _).mono ?_; rintro e w3 ⟨rfl, hb3⟩; ((obtain ⟨hc3, hf3⟩ := below_rules hb3; have hs3 := Below.size hb3; try simp only [size_alloc, size_setCell, size_drew, size_drewN] at hs3 hc3 hf3); (try have z3_w_0 : w.heap.size < w3.heap.size := by omega); (try have z3_w_1 : w.heap.size + 1 < w3.heap.size := by omega); (try have z3_w2_0 : w2.heap.size < w3.heap.size := by omega); (try have z3_w2_1 : w2.heap.size + 1 < w3.heap.size := by omega))
  have B := (((made22 w (t := 25) (cs := Bt.zeroPage.cells)).kept hb).kept hb2).alloc (.cells page.cells 25) |>.kept hb3
  simp only [Bt.zeroPage, Bt.Page.cells] at B
  go_wp2_with fail
  go_at_call 80; refine (Locked_any page Hpok.out _).mono ?_; rintro e w4 ⟨rfl, hb4⟩; rw [HK.out]; ((obtain ⟨hc4, hf4⟩ := below_rules hb4; have hs4 := Below.size hb4; try simp only [size_alloc, size_setCell, size_drew, size_drewN] at hs4 hc4 hf4); (try have z4_w_0 : w.heap.size < w4.heap.size := by omega); (try have z4_w_1 : w.heap.size + 1 < w4.heap.size := by omega); (try have z4_w2_0 : w2.heap.size < w4.heap.size := by omega); (try have z4_w2_1 : w2.heap.size + 1 < w4.heap.size := by omega); (try have z4_w3_0 : w3.heap.size < w4.heap.size := by omega); (try have z4_w3_1 : w3.heap.size + 1 < w4.heap.size := by omega))
  have B4 := (B.alloc _).kept hb4
  go_wp2
  all_goals ((refine bodyPost_ret (results_btt rfl _ _ (w.heap.size + 1) _ _ _ rfl (by (repeat (first | with_reducible exact B4 | with_reducible apply Blk.put | with_reducible apply Blk.alloc | (with_reducible apply Blk.aside; (case hp => first | (simp; done) | (simp; omega))) | with_reducible apply Blk.drew))) Tryz.underlying25 rfl (by kernel_rfl)) rfl ⟨?_, ?_⟩); (rotate_left; (repeat (first | with_reducible exact Below.refl _ _ | with_reducible assumption | with_reducible refine Below.setCell ?_ (by first | (simp; done) | (simp; omega)) _ | with_reducible refine below_alloc ?_ _ | with_reducible refine below_drewN ?_ _ | with_reducible refine Below.drew ?_ | with_reducible refine below_step ?_ (by assumption)))); (rw [HX.out, set9]; rfl))

theorem lookup_tc (known : List Bt.Page) (v : Value) (p : Bt.Ptr) (kind : Int) (page : Bt.Page) (w : World) (Hk : Hid (PgRow w v known)) (Hv : Hid (Bt.validP p = true)) (Hl : Hid (Bt.latest known p.line = some page))
    (HK : Hid (Bt.locked page = false)) (h1 : ¬ Bt.tagKind page.d0 = 0) (h2 : ¬ Bt.tagGen page.d0 = p.gen) :
    Calls Tryz.prog 65 #[v, .agg p.cells, .int .i64 kind, .bool true] w (LookPost known p kind true w) := by
  have Hpok := Lib.hid (Hk.out.ok page (latest_mem Hl.out).1)
  have HX : Hid (Bt.lookup known p kind true = .bad 11) := Lib.hid (by simp only [Bt.lookup, Hv.out, Hl.out]; simp [h1, h2, HK.out])
  have b1 : (Bt.tagKind page.d0 == 0) = false := by simp [h1]
  have b2 : (Bt.tagGen page.d0 != p.gen) = true := by simp [h2]
  clear h1 h2
  unfold Bt.Ptr.cells
  go_enter Tryz.func65, Tryz.ntmps65
  go_wp2_with fail
  go_at_call 75; refine (Valid_any _ _ _).mono ?_; rintro e w1 ⟨rfl, hb⟩; rw [Hv.out]; ((obtain ⟨hc1, hf1⟩ := below_rules hb; have hs1 := Below.size hb; try simp only [size_alloc, size_setCell, size_drew, size_drewN] at hs1 hc1 hf1); (try have z1_w_0 : w.heap.size < w1.heap.size := by omega); (try have z1_w_1 : w.heap.size + 1 < w1.heap.size := by omega))
  have P1 : Hid (PgRow w1 v known) := Lib.hid (Hk.out.below (below_step (by (repeat (first | with_reducible exact Below.refl _ _ | with_reducible assumption | with_reducible refine Below.setCell ?_ (by first | (simp; done) | (simp; omega)) _ | with_reducible refine below_alloc ?_ _ | with_reducible refine below_drewN ?_ _ | with_reducible refine Below.drew ?_ | with_reducible refine below_step ?_ (by assumption)))) hb))
  go_wp2_with fail
  go_at_call 78; refine (Latest_any known v _ _ P1.out).mono ?_; rintro e w2 ⟨rfl, hb2⟩; rw [Hl.out]; ((obtain ⟨hc2, hf2⟩ := below_rules hb2; have hs2 := Below.size hb2; try simp only [size_alloc, size_setCell, size_drew, size_drewN] at hs2 hc2 hf2); (try have z2_w_0 : w.heap.size < w2.heap.size := by omega); (try have z2_w_1 : w.heap.size + 1 < w2.heap.size := by omega))
  simp only [Option.getD_some, Option.isSome_some, Bt.Page.cells]
  go_wp2_with fail
  go_at_call 66; refine (tagOf_any page Hpok.out _).mono ?_; rintro e w3 ⟨rfl, hb3⟩; ((obtain ⟨hc3, hf3⟩ := below_rules hb3; have hs3 := Below.size hb3; try simp only [size_alloc, size_setCell, size_drew, size_drewN] at hs3 hc3 hf3); (try have z3_w_0 : w.heap.size < w3.heap.size := by omega); (try have z3_w_1 : w.heap.size + 1 < w3.heap.size := by omega); (try have z3_w2_0 : w2.heap.size < w3.heap.size := by omega); (try have z3_w2_1 : w2.heap.size + 1 < w3.heap.size := by omega))
  have B := (((made22 w (t := 25) (cs := Bt.zeroPage.cells)).kept hb).kept hb2).alloc (.cells page.cells 25) |>.kept hb3
  simp only [Bt.zeroPage, Bt.Page.cells] at B
  go_wp2_with fail
  go_at_call 80; refine (Locked_any page Hpok.out _).mono ?_; rintro e w4 ⟨rfl, hb4⟩; rw [HK.out]; ((obtain ⟨hc4, hf4⟩ := below_rules hb4; have hs4 := Below.size hb4; try simp only [size_alloc, size_setCell, size_drew, size_drewN] at hs4 hc4 hf4); (try have z4_w_0 : w.heap.size < w4.heap.size := by omega); (try have z4_w_1 : w.heap.size + 1 < w4.heap.size := by omega); (try have z4_w2_0 : w2.heap.size < w4.heap.size := by omega); (try have z4_w2_1 : w2.heap.size + 1 < w4.heap.size := by omega); (try have z4_w3_0 : w3.heap.size < w4.heap.size := by omega); (try have z4_w3_1 : w3.heap.size + 1 < w4.heap.size := by omega))
  have B4 := (B.alloc _).kept hb4
  go_wp2
  all_goals ((refine bodyPost_ret (results_btt rfl _ _ (w.heap.size + 1) _ _ _ rfl (by (repeat (first | with_reducible exact B4 | with_reducible apply Blk.put | with_reducible apply Blk.alloc | (with_reducible apply Blk.aside; (case hp => first | (simp; done) | (simp; omega))) | with_reducible apply Blk.drew))) Tryz.underlying25 rfl (by kernel_rfl)) rfl ⟨?_, ?_⟩); (rotate_left; (repeat (first | with_reducible exact Below.refl _ _ | with_reducible assumption | with_reducible refine Below.setCell ?_ (by first | (simp; done) | (simp; omega)) _ | with_reducible refine below_alloc ?_ _ | with_reducible refine below_drewN ?_ _ | with_reducible refine Below.drew ?_ | with_reducible refine below_step ?_ (by assumption)))); (rw [HX.out, set9]; rfl))

theorem lookup_td (known : List Bt.Page) (v : Value) (p : Bt.Ptr) (kind : Int) (page : Bt.Page) (w : World) (Hk : Hid (PgRow w v known)) (Hv : Hid (Bt.validP p = true)) (Hl : Hid (Bt.latest known p.line = some page))
    (HK : Hid (Bt.locked page = false)) (h1 : ¬ Bt.tagKind page.d0 = 0) (h2 : Bt.tagGen page.d0 = p.gen) (h3 : ¬ Bt.tagKind page.d0 = kind) :
    Calls Tryz.prog 65 #[v, .agg p.cells, .int .i64 kind, .bool true] w (LookPost known p kind true w) := by
  have Hpok := Lib.hid (Hk.out.ok page (latest_mem Hl.out).1)
  have HX : Hid (Bt.lookup known p kind true = .bad 14) := Lib.hid (by simp only [Bt.lookup, Hv.out, Hl.out]; simp [h1, h2, h3, HK.out])
  have b1 : (Bt.tagKind page.d0 == 0) = false := by simp [h1]
  have b2 : (Bt.tagGen page.d0 != p.gen) = false := by simp [h2]
  have b3 : (Bt.tagKind page.d0 != kind) = true := by simp [h3]
  clear h1 h2 h3
  unfold Bt.Ptr.cells
  go_enter Tryz.func65, Tryz.ntmps65
  go_wp2_with fail
  go_at_call 75; refine (Valid_any _ _ _).mono ?_; rintro e w1 ⟨rfl, hb⟩; rw [Hv.out]; ((obtain ⟨hc1, hf1⟩ := below_rules hb; have hs1 := Below.size hb; try simp only [size_alloc, size_setCell, size_drew, size_drewN] at hs1 hc1 hf1); (try have z1_w_0 : w.heap.size < w1.heap.size := by omega); (try have z1_w_1 : w.heap.size + 1 < w1.heap.size := by omega))
  have P1 : Hid (PgRow w1 v known) := Lib.hid (Hk.out.below (below_step (by (repeat (first | with_reducible exact Below.refl _ _ | with_reducible assumption | with_reducible refine Below.setCell ?_ (by first | (simp; done) | (simp; omega)) _ | with_reducible refine below_alloc ?_ _ | with_reducible refine below_drewN ?_ _ | with_reducible refine Below.drew ?_ | with_reducible refine below_step ?_ (by assumption)))) hb))
  go_wp2_with fail
  go_at_call 78; refine (Latest_any known v _ _ P1.out).mono ?_; rintro e w2 ⟨rfl, hb2⟩; rw [Hl.out]; ((obtain ⟨hc2, hf2⟩ := below_rules hb2; have hs2 := Below.size hb2; try simp only [size_alloc, size_setCell, size_drew, size_drewN] at hs2 hc2 hf2); (try have z2_w_0 : w.heap.size < w2.heap.size := by omega); (try have z2_w_1 : w.heap.size + 1 < w2.heap.size := by omega))
  simp only [Option.getD_some, Option.isSome_some, Bt.Page.cells]
  go_wp2_with fail
  go_at_call 66; refine (tagOf_any page Hpok.out _).mono ?_; rintro e w3 ⟨rfl, hb3⟩; ((obtain ⟨hc3, hf3⟩ := below_rules hb3; have hs3 := Below.size hb3; try simp only [size_alloc, size_setCell, size_drew, size_drewN] at hs3 hc3 hf3); (try have z3_w_0 : w.heap.size < w3.heap.size := by omega); (try have z3_w_1 : w.heap.size + 1 < w3.heap.size := by omega); (try have z3_w2_0 : w2.heap.size < w3.heap.size := by omega); (try have z3_w2_1 : w2.heap.size + 1 < w3.heap.size := by omega))
  have B := (((made22 w (t := 25) (cs := Bt.zeroPage.cells)).kept hb).kept hb2).alloc (.cells page.cells 25) |>.kept hb3
  simp only [Bt.zeroPage, Bt.Page.cells] at B
  go_wp2_with fail
  go_at_call 80; refine (Locked_any page Hpok.out _).mono ?_; rintro e w4 ⟨rfl, hb4⟩; rw [HK.out]; ((obtain ⟨hc4, hf4⟩ := below_rules hb4; have hs4 := Below.size hb4; try simp only [size_alloc, size_setCell, size_drew, size_drewN] at hs4 hc4 hf4); (try have z4_w_0 : w.heap.size < w4.heap.size := by omega); (try have z4_w_1 : w.heap.size + 1 < w4.heap.size := by omega); (try have z4_w2_0 : w2.heap.size < w4.heap.size := by omega); (try have z4_w2_1 : w2.heap.size + 1 < w4.heap.size := by omega); (try have z4_w3_0 : w3.heap.size < w4.heap.size := by omega); (try have z4_w3_1 : w3.heap.size + 1 < w4.heap.size := by omega))
  have B4 := (B.alloc _).kept hb4
  go_wp2
  all_goals ((refine bodyPost_ret (results_btt rfl _ _ (w.heap.size + 1) _ _ _ rfl (by (repeat (first | with_reducible exact B4 | with_reducible apply Blk.put | with_reducible apply Blk.alloc | (with_reducible apply Blk.aside; (case hp => first | (simp; done) | (simp; omega))) | with_reducible apply Blk.drew))) Tryz.underlying25 rfl (by kernel_rfl)) rfl ⟨?_, ?_⟩); (rotate_left; (repeat (first | with_reducible exact Below.refl _ _ | with_reducible assumption | with_reducible refine Below.setCell ?_ (by first | (simp; done) | (simp; omega)) _ | with_reducible refine below_alloc ?_ _ | with_reducible refine below_drewN ?_ _ | with_reducible refine Below.drew ?_ | with_reducible refine below_step ?_ (by assumption)))); (rw [HX.out, set9]; rfl))

theorem lookup_te (known : List Bt.Page) (v : Value) (p : Bt.Ptr) (kind : Int) (page : Bt.Page) (w : World) (Hk : Hid (PgRow w v known)) (Hv : Hid (Bt.validP p = true)) (Hl : Hid (Bt.latest known p.line = some page))
    (HK : Hid (Bt.locked page = false)) (h1 : ¬ Bt.tagKind page.d0 = 0) (h2 : Bt.tagGen page.d0 = p.gen) (h3 : Bt.tagKind page.d0 = kind) :
    Calls Tryz.prog 65 #[v, .agg p.cells, .int .i64 kind, .bool true] w (LookPost known p kind true w) := by
  have Hpok := Lib.hid (Hk.out.ok page (latest_mem Hl.out).1)
  have HX : Hid (Bt.lookup known p kind true = .found page) := Lib.hid (by simp only [Bt.lookup, Hv.out, Hl.out]; simp [← h3, h1, h2, HK.out])
  have b1 : (Bt.tagKind page.d0 == 0) = false := by simp [h1]
  have b2 : (Bt.tagGen page.d0 != p.gen) = false := by simp [h2]
  have b3 : (Bt.tagKind page.d0 != kind) = false := by simp [h3]
  clear h1 h2 h3
  unfold Bt.Ptr.cells
  go_enter Tryz.func65, Tryz.ntmps65
  go_wp2_with fail
  go_at_call 75; refine (Valid_any _ _ _).mono ?_; rintro e w1 ⟨rfl, hb⟩; rw [Hv.out]; ((obtain ⟨hc1, hf1⟩ := below_rules hb; have hs1 := Below.size hb; try simp only [size_alloc, size_setCell, size_drew, size_drewN] at hs1 hc1 hf1); (try have z1_w_0 : w.heap.size < w1.heap.size := by omega); (try have z1_w_1 : w.heap.size + 1 < w1.heap.size := by omega))
  have P1 : Hid (PgRow w1 v known) := Lib.hid (Hk.out.below (below_step (by (repeat (first | with_reducible exact Below.refl _ _ | with_reducible assumption | with_reducible refine Below.setCell ?_ (by first | (simp; done) | (simp; omega)) _ | with_reducible refine below_alloc ?_ _ | with_reducible refine below_drewN ?_ _ | with_reducible refine Below.drew ?_ | with_reducible refine below_step ?_ (by assumption)))) hb))
  go_wp2_with fail
  go_at_call 78; refine (Latest_any known v _ _ P1.out).mono ?_; rintro e w2 ⟨rfl, hb2⟩; rw [Hl.out]; ((obtain ⟨hc2, hf2⟩ := below_rules hb2; have hs2 := Below.size hb2; try simp only [size_alloc, size_setCell, size_drew, size_drewN] at hs2 hc2 hf2); (try have z2_w_0 : w.heap.size < w2.heap.size := by omega); (try have z2_w_1 : w.heap.size + 1 < w2.heap.size := by omega))
  simp only [Option.getD_some, Option.isSome_some, Bt.Page.cells]
  go_wp2_with fail
  go_at_call 66; refine (tagOf_any page Hpok.out _).mono ?_; rintro e w3 ⟨rfl, hb3⟩; ((obtain ⟨hc3, hf3⟩ := below_rules hb3; have hs3 := Below.size hb3; try simp only [size_alloc, size_setCell, size_drew, size_drewN] at hs3 hc3 hf3); (try have z3_w_0 : w.heap.size < w3.heap.size := by omega); (try have z3_w_1 : w.heap.size + 1 < w3.heap.size := by omega); (try have z3_w2_0 : w2.heap.size < w3.heap.size := by omega); (try have z3_w2_1 : w2.heap.size + 1 < w3.heap.size := by omega))
  have B := (((made22 w (t := 25) (cs := Bt.zeroPage.cells)).kept hb).kept hb2).alloc (.cells page.cells 25) |>.kept hb3
  simp only [Bt.zeroPage, Bt.Page.cells] at B
  go_wp2_with fail
  go_at_call 80; refine (Locked_any page Hpok.out _).mono ?_; rintro e w4 ⟨rfl, hb4⟩; rw [HK.out]; ((obtain ⟨hc4, hf4⟩ := below_rules hb4; have hs4 := Below.size hb4; try simp only [size_alloc, size_setCell, size_drew, size_drewN] at hs4 hc4 hf4); (try have z4_w_0 : w.heap.size < w4.heap.size := by omega); (try have z4_w_1 : w.heap.size + 1 < w4.heap.size := by omega); (try have z4_w2_0 : w2.heap.size < w4.heap.size := by omega); (try have z4_w2_1 : w2.heap.size + 1 < w4.heap.size := by omega); (try have z4_w3_0 : w3.heap.size < w4.heap.size := by omega); (try have z4_w3_1 : w3.heap.size + 1 < w4.heap.size := by omega))
  have B4 := (B.alloc _).kept hb4
  go_wp2
  all_goals ((refine bodyPost_ret (results_btt rfl _ _ (w.heap.size + 1) _ _ _ rfl (by (repeat (first | with_reducible exact B4 | with_reducible apply Blk.put | with_reducible apply Blk.alloc | (with_reducible apply Blk.aside; (case hp => first | (simp; done) | (simp; omega))) | with_reducible apply Blk.drew))) Tryz.underlying25 rfl (by kernel_rfl)) rfl ⟨?_, ?_⟩); (rotate_left; (repeat (first | with_reducible exact Below.refl _ _ | with_reducible assumption | with_reducible refine Below.setCell ?_ (by first | (simp; done) | (simp; omega)) _ | with_reducible refine below_alloc ?_ _ | with_reducible refine below_drewN ?_ _ | with_reducible refine Below.drew ?_ | with_reducible refine below_step ?_ (by assumption)))); (rw [HX.out, set9]; rfl))

theorem lookup_ta (known : List Bt.Page) (v : Value) (p : Bt.Ptr) (kind : Int) (page : Bt.Page) (w : World) (Hk : Hid (PgRow w v known)) (Hv : Hid (Bt.validP p = true)) (Hl : Hid (Bt.latest known p.line = some page))
    (HK : Hid (Bt.locked page = true)) :
    Calls Tryz.prog 65 #[v, .agg p.cells, .int .i64 kind, .bool true] w (LookPost known p kind true w) := by
  have Hpok := Lib.hid (Hk.out.ok page (latest_mem Hl.out).1)
  have HX : Hid (Bt.lookup known p kind true = .bad 3) := Lib.hid (by simp only [Bt.lookup, Hv.out, Hl.out]; simp [HK.out])
  unfold Bt.Ptr.cells
  go_enter Tryz.func65, Tryz.ntmps65
  go_wp2_with fail
  go_at_call 75; refine (Valid_any _ _ _).mono ?_; rintro e w1 ⟨rfl, hb⟩; rw [Hv.out]; ((obtain ⟨hc1, hf1⟩ := below_rules hb; have hs1 := Below.size hb; try simp only [size_alloc, size_setCell, size_drew, size_drewN] at hs1 hc1 hf1); (try have z1_w_0 : w.heap.size < w1.heap.size := by omega); (try have z1_w_1 : w.heap.size + 1 < w1.heap.size := by omega))
  have P1 : Hid (PgRow w1 v known) := Lib.hid (Hk.out.below (below_step (by (repeat (first | with_reducible exact Below.refl _ _ | with_reducible assumption | with_reducible refine Below.setCell ?_ (by first | (simp; done) | (simp; omega)) _ | with_reducible refine below_alloc ?_ _ | with_reducible refine below_drewN ?_ _ | with_reducible refine Below.drew ?_ | with_reducible refine below_step ?_ (by assumption)))) hb))
  go_wp2_with fail
  go_at_call 78; refine (Latest_any known v _ _ P1.out).mono ?_; rintro e w2 ⟨rfl, hb2⟩; rw [Hl.out]; ((obtain ⟨hc2, hf2⟩ := below_rules hb2; have hs2 := Below.size hb2; try simp only [size_alloc, size_setCell, size_drew, size_drewN] at hs2 hc2 hf2); (try have z2_w_0 : w.heap.size < w2.heap.size := by omega); (try have z2_w_1 : w.heap.size + 1 < w2.heap.size := by omega))
  simp only [Option.getD_some, Option.isSome_some, Bt.Page.cells]
  go_wp2_with fail
  go_at_call 66; refine (tagOf_any page Hpok.out _).mono ?_; rintro e w3 ⟨rfl, hb3⟩; ((obtain ⟨hc3, hf3⟩ := below_rules hb3; have hs3 := Below.size hb3; try simp only [size_alloc, size_setCell, size_drew, size_drewN] at hs3 hc3 hf3); (try have z3_w_0 : w.heap.size < w3.heap.size := by omega); (try have z3_w_1 : w.heap.size + 1 < w3.heap.size := by omega); (try have z3_w2_0 : w2.heap.size < w3.heap.size := by omega); (try have z3_w2_1 : w2.heap.size + 1 < w3.heap.size := by omega))
  have B := (((made22 w (t := 25) (cs := Bt.zeroPage.cells)).kept hb).kept hb2).alloc (.cells page.cells 25) |>.kept hb3
  simp only [Bt.zeroPage, Bt.Page.cells] at B
  go_wp2_with fail
  go_at_call 80; refine (Locked_any page Hpok.out _).mono ?_; rintro e w4 ⟨rfl, hb4⟩; rw [HK.out]; ((obtain ⟨hc4, hf4⟩ := below_rules hb4; have hs4 := Below.size hb4; try simp only [size_alloc, size_setCell, size_drew, size_drewN] at hs4 hc4 hf4); (try have z4_w_0 : w.heap.size < w4.heap.size := by omega); (try have z4_w_1 : w.heap.size + 1 < w4.heap.size := by omega); (try have z4_w2_0 : w2.heap.size < w4.heap.size := by omega); (try have z4_w2_1 : w2.heap.size + 1 < w4.heap.size := by omega); (try have z4_w3_0 : w3.heap.size < w4.heap.size := by omega); (try have z4_w3_1 : w3.heap.size + 1 < w4.heap.size := by omega))
  have B4 := (B.alloc _).kept hb4
  go_wp2
  all_goals ((refine bodyPost_ret (results_btt rfl _ _ (w.heap.size + 1) _ _ _ rfl (by (repeat (first | with_reducible exact B4 | with_reducible apply Blk.put | with_reducible apply Blk.alloc | (with_reducible apply Blk.aside; (case hp => first | (simp; done) | (simp; omega))) | with_reducible apply Blk.drew))) Tryz.underlying25 rfl (by kernel_rfl)) rfl ⟨?_, ?_⟩); (rotate_left; (repeat (first | with_reducible exact Below.refl _ _ | with_reducible assumption | with_reducible refine Below.setCell ?_ (by first | (simp; done) | (simp; omega)) _ | with_reducible refine below_alloc ?_ _ | with_reducible refine below_drewN ?_ _ | with_reducible refine Below.drew ?_ | with_reducible refine below_step ?_ (by assumption)))); (rw [HX.out, set9]; rfl))

theorem lookup_any (known : List Bt.Page) (v : Value) (p : Bt.Ptr) (kind : Int) (locks : Bool) (w : World) (hk : PgRow w v known) : Calls Tryz.prog 65 #[v, .agg p.cells, .int .i64 kind, .bool locks] w (LookPost known p kind locks w) := by
  have Hk := Lib.hid hk
  rcases hv : Bt.validP p with _ | _
  · exact lookup_bad known v p kind locks w (Lib.hid hv)
  · have Hv := Lib.hid hv
    rcases hl : Bt.latest known p.line with _ | page
    · exact lookup_none known v p kind locks w Hk Hv (Lib.hid hl)
    · have Hl := Lib.hid hl
      rcases locks with _ | _
      · by_cases h1 : Bt.tagKind page.d0 = 0
        · exact lookup_fb known v p kind page w Hk Hv Hl h1
        · by_cases h2 : Bt.tagGen page.d0 = p.gen
          · by_cases h3 : Bt.tagKind page.d0 = kind
            · exact lookup_fe known v p kind page w Hk Hv Hl h1 h2 h3
            · exact lookup_fd known v p kind page w Hk Hv Hl h1 h2 h3
          · exact lookup_fc known v p kind page w Hk Hv Hl h1 h2
      · rcases hk : Bt.locked page with _ | _
        · have HK := Lib.hid hk
          by_cases h1 : Bt.tagKind page.d0 = 0
          · exact lookup_tb known v p kind page w Hk Hv Hl HK h1
          · by_cases h2 : Bt.tagGen page.d0 = p.gen
            · by_cases h3 : Bt.tagKind page.d0 = kind
              · exact lookup_te known v p kind page w Hk Hv Hl HK h1 h2 h3
              · exact lookup_td known v p kind page w Hk Hv Hl HK h1 h2 h3
            · exact lookup_tc known v p kind page w Hk Hv Hl HK h1 h2
        · exact lookup_ta known v p kind page w Hk Hv Hl (Lib.hid hk)
end Go.Proofs.YtjmpekanlmepmaaGreatDoor
