/- hashindex.run.fresh with two pages at hand. -/
import Derived.Test.YtcoiehgcfjfhaaaGreatDoorQ22
import Derived.Test.YtcoiehgcfjfhaaaGreatDoorQ18
import Derived.Test.YtcoiehgcfjfhaaaGreatDoorQ20
import Derived.Test.YtcoiehgcfjfhaaaGreatDoorQ10
import Derived.Test.YtcoiehgcfjfhaaaGreatDoorQ05
set_option linter.all false
set_option maxRecDepth 20000
set_option maxHeartbeats 8000000
open Go.Lib (hid)
namespace Go.Proofs.YtcoiehgcfjfhaaaGreatDoor
open Go.RowKit
def freshFn (c : Nat) : Value := .func (.func 298) #[] #[.pointer (some ⟨c, 0, none⟩)]
theorem hiContains0 (c : Nat) (w : World) : Calls Tryz.prog 297 #[.slice none 0 0, freshFn c] w fun e w' => e = .returned (.bool false) ∧ Below w.heap.size w w' := by
  have HI : Hid (Calls Tryz.prog 313 #[.slice none 0 0, freshFn c] w fun e w' => e = .returned (.int .i64 (-1)) ∧ Below w.heap.size w w') := hid (by
    unfold freshFn
    go_enter Tryz.func313, Tryz.ntmps313
    go_wp2_with fail
    refine wp_loop_rounds 1 ?_
    rw [rounds_succ]
    go_wp2_with fail
    refine bodyPost_ret (results_tmp rfl _ _ _) rfl ⟨rfl, qL⟩)
  unfold freshFn at HI ⊢
  go_enter Tryz.func297, Tryz.ntmps297
  go_wp2_with fail
  go_at_call 313; refine HI.out.mono ?_; rintro e w1 ⟨rfl, hb1⟩
  have HB := hid hb1
  clear hb1
  go_wp2_with fail
  refine bodyPost_ret (results_tmp rfl _ _ _) rfl ⟨rfl, HB.out⟩
theorem hiFreshFn (p : Bt.Page) (c : Nat) (l : Int) (hne : p.line ≠ l) (w : World) (hc : w.cell? ⟨c, 0, none⟩ = some (.int .i64 l)) (hlt : c < w.heap.size) :
    Calls Tryz.prog 298 #[.agg p.cells, .pointer (some ⟨c, 0, none⟩)] w fun e w' => e = .returned (.bool false) ∧ Below w.heap.size w w' := by
  have b1 : (p.line == l) = false := by simpa using hne
  unfold Bt.Page.cells
  go_enter Tryz.func298, Tryz.ntmps298
  go_wp2_with fail
  refine bodyPost_ret (results_tmp rfl _ _ _) rfl ⟨rfl, qL⟩
theorem hiContains1 (g cap c : Nat) (p : Bt.Page) (l : Int) (hne : p.line ≠ l) (w : World) (hg : g < w.heap.size) (hp : w.rangeAt g (0 * 9) p.cells.toList) (hc : w.cell? ⟨c, 0, none⟩ = some (.int .i64 l)) (hlt : c < w.heap.size) :
    Calls Tryz.prog 297 #[.slice (some ⟨g, 0, none⟩) 1 cap, freshFn c] w fun e w' => e = .returned (.bool false) ∧ Below w.heap.size w w' := by
  have HI : Hid (Calls Tryz.prog 313 #[.slice (some ⟨g, 0, none⟩) 1 cap, freshFn c] w fun e w' => e = .returned (.int .i64 (-1)) ∧ Below w.heap.size w w') := hid (by
    have HF := hid (fun W h h2 => hiFreshFn p c l hne W h h2)
    have HC := hid hc
    obtain ⟨c0, c1, c2, c3, c4, c5, c6, c7, c8⟩ := nine hp
    clear hp hc hne
    rw [Nat.zero_mul] at c0
    simp only [Nat.zero_mul, Nat.zero_add] at c1 c2 c3 c4 c5 c6 c7 c8
    unfold freshFn
    go_enter Tryz.func313, Tryz.ntmps313
    go_wp2_with fail
    refine wp_loop_rounds 2 ?_
    rw [rounds_succ]
    go_wp2_with fail
    unfold Bt.Page.cells at HF
    go_at_call 298; refine (HF.out _ HC.out hlt).mono ?_; rintro e w1 ⟨rfl, hb1⟩
    have HB := hid hb1
    clear hb1
    go_wp2_with fail
    rw [rounds_succ]
    go_wp2_with fail
    refine bodyPost_ret (results_tmp rfl _ _ _) rfl ⟨rfl, HB.out⟩)
  unfold freshFn at HI ⊢
  go_enter Tryz.func297, Tryz.ntmps297
  go_wp2_with fail
  go_at_call 313; refine HI.out.mono ?_; rintro e w1 ⟨rfl, hb1⟩
  have HB := hid hb1
  clear hb1
  go_wp2_with fail
  refine bodyPost_ret (results_tmp rfl _ _ _) rfl ⟨rfl, HB.out⟩
theorem hiFresh_two (r f cf g : Nat) (vk : Value) (w : World) (B : Blk w r 337 (hrCells 2 5 105 1 (.slice (some ⟨f, 0, none⟩) 2 cf) vk (.slice none 0 0) 0 false (.slice none 0 0) 0 96 256)) (hf : PgRow w (.slice (some ⟨f, 0, none⟩) 2 cf) [freeP 106, freeP 107]) (hk : Blk w g 3 #[.int .i64 2, .int .i64 3]) :
    Calls Tryz.prog 263 #[.pointer (some ⟨r, 0, none⟩), .slice (some ⟨g, 0, none⟩) 2 2] w fun e w' => ∃ gf cg, e = .returned (.tuple #[.slice (some ⟨gf, 0, none⟩) 2 cg, .bool true]) ∧ w'.ownsRow w.heap.size 75 9 (.slice (some ⟨gf, 0, none⟩) 2 cg) 2 (pageCells [bktTag, dirTag]) ∧ Below w.heap.size w w' := by
  obtain ⟨i1, hi1, hy0, hy1, hy2⟩ := info_parts infoPage
  have hmf : ∀ (fn : Fn) (first cap : Array Value) (w : World), (Instr.makeFunc fn first cap).run Tryz.prog w = .ok (.func fn first cap) w := fun _ _ _ _ => rfl
  have HAL2 := hid (fun W => ptrAlloc 106 2 (by omega) (by omega) W)
  have HAL3 := hid (fun W => ptrAlloc 107 3 (by omega) (by omega) W)
  have HC0 := hid (fun c W => hiContains0 c W)
  have HC1 := hid (fun g cap c W h1 h2 h3 h4 => hiContains1 g cap c bktTag 107 (by simp [bktTag]) W h1 h2 h3 h4)
  have hfl : f < w.heap.size := by
    rcases hf.form with ⟨h1, _⟩ | ⟨b, cap, h1, h2, _⟩
    · cases h1
    · cases h1; exact h2
  obtain ⟨a0, a1, a2, a3, a4, a5, a6, a7, a8⟩ : _ ∧ _ ∧ _ ∧ _ ∧ _ ∧ _ ∧ _ ∧ _ ∧ _ := nine (w := w) (b := f) (k := 0) (p := freeP 106) (by
    rcases hf.form with ⟨h1, _⟩ | ⟨b, cap, h1, h2, h3⟩
    · cases h1
    · cases h1; exact fun j u hu => h3 0 _ rfl j u (by simpa using hu))
  obtain ⟨d0, d1, d2, d3, d4, d5, d6, d7, d8⟩ : _ ∧ _ ∧ _ ∧ _ ∧ _ ∧ _ ∧ _ ∧ _ ∧ _ := nine (w := w) (b := f) (k := 1) (p := freeP 107) (by
    rcases hf.form with ⟨h1, _⟩ | ⟨b, cap, h1, h2, h3⟩
    · cases h1
    · cases h1; exact fun j u hu => h3 1 _ rfl j u (by simpa using hu))
  simp only [freeP, Nat.zero_mul, Nat.zero_add, Nat.one_mul] at a0 a1 a2 a3 a4 a5 a6 a7 a8 d0 d1 d2 d3 d4 d5 d6 d7 d8
  have kc := B.cell
  have lc := B.lt
  have kk := hk.cell
  have lk := hk.lt
  clear B hf hk
  unfold hrCells at kc
  unfold freeP Bt.Page.cells at HAL2 HAL3
  simp only at HAL2 HAL3
  unfold freshFn at HC0 HC1
  go_enter Tryz.func263, Tryz.ntmps263
  go_wp2_with fail
  refine wp_loop_rounds 3 ?_
  rw [rounds_succ]
  go_wp2_with fail
  go_at_call 108; refine (HAL2.out _).mono ?_; rintro e w1 ⟨rfl, hb1⟩; ((obtain ⟨hc1, hf1, hs1⟩ := qR hb1); (try have := qN0 w w1))
  go_wp2_with fail
  go_at_call 297; refine (HC0.out _ _).mono ?_; rintro e w2 ⟨rfl, hb2⟩; ((obtain ⟨hc2, hf2, hs2⟩ := qR hb2); (try have := qN0 w w2); (try have := qN0 w1 w2))
  go_wp2_with (at_builtin; refine halt ?_)
  refine unhalt ?_
  have lw2 : w.heap.size ≤ w2.heap.size := by omega
  have hbq : Below w.heap.size w ((w2.alloc (.cells #[.int .i64 106, .int .u64 256, .int .u64 258, .int .u64 0, .int .u64 0, .int .u64 0, .int .u64 0, .int .u64 0, .int .u64 0] 75))) := qL
  refine wpList_append_mine rfl (.tmp 59) (.tmp 61) 42 rfl w.heap.size 75 i1 _ 9 72 Tryz.underlying42 hi1 hy0 hy1 hy2 rfl (by decide) (.slice none 0 0) 0 [] rfl
    (World.ownsRow_nil _ _ _ _) ⟨w2.heap.size, 0, none⟩ 1 1 (#[.int .i64 106, .int .u64 256, .int .u64 258, .int .u64 0, .int .u64 0, .int .u64 0, .int .u64 0, .int .u64 0, .int .u64 0] : Array Value).toList rfl rfl (nine_news (cs := #[.int .i64 106, .int .u64 256, .int .u64 258, .int .u64 0, .int .u64 0, .int .u64 0, .int .u64 0, .int .u64 0, .int .u64 0]) (Blk.made w2 _ _))
    (by intro u hu; simp at hu; rcases hu with rfl | rfl | rfl | rfl <;> rfl) (by omega) (by unfold maxLen; omega) (by omega) (by simp; omega) ?_
  intro g3 c3 w3 hown3 hg3
  have hown3 : w3.ownsRow w.heap.size 75 9 (.slice (some ⟨g3, 0, none⟩) 1 c3) 1 (pageCells [bktTag]) := hown3
  have hb3 : Below w.heap.size w w3 := below_grown (w := w) hbq hg3 (fun j hj => by cases hj)
  have H3 := hid (And.intro hown3 hb3)
  have lg3 : g3 < w3.heap.size := (own_lt hown3).2
  clear hown3 hg3 hbq hb1 hc1 hf1 hs1 hb2 hc2 hf2 hs2 lw2
  ((obtain ⟨hc3, hf3, hs3⟩ := qR hb3); (try have := qN0 w w3))
  have lc3 : r < w3.heap.size := by omega
  have lf3 : f < w3.heap.size := by omega
  have lk3 : g < w3.heap.size := by omega
  clear hb3
  go_wp2_with fail
  rw [rounds_succ]
  go_wp2_with fail
  go_at_call 108; refine (HAL3.out _).mono ?_; rintro e w4 ⟨rfl, hb4⟩; ((obtain ⟨hc4, hf4, hs4⟩ := qR hb4); (try have := qN0 w w4); (try have := qN0 w3 w4))
  go_wp2_with fail
  have hown4 := own_below (own_below H3.out.1 hb4) (below_alloc (Below.refl w4.heap.size w4) (.cells #[.int .i64 107, .int .u64 256, .int .u64 259, .int .u64 0, .int .u64 0, .int .u64 0, .int .u64 0, .int .u64 0, .int .u64 0] 75))
  go_at_call 297
  refine (HC1.out g3 c3 w4.heap.size _ ?h1 ?h2 ?h3 ?h4).mono ?_
  case h1 => simp; omega
  case h2 => exact fun j u hu => own_cells hown4 _ _ (by rw [Nat.zero_mul, Nat.zero_add]; exact hu)
  case h3 => exact (Blk.cell (b := w4.heap.size) (Blk.made w4 75 #[.int .i64 107, .int .u64 256, .int .u64 259, .int .u64 0, .int .u64 0, .int .u64 0, .int .u64 0, .int .u64 0, .int .u64 0]) 0).trans rfl
  case h4 => simp
  rintro e w5 ⟨rfl, hb5⟩
  have hb35 : Below w3.heap.size w3 w5 := qL
  have lw45 : w4.heap.size < w5.heap.size := by have := hb5.size; simp at this; omega
  have K5 := (Blk.made w4 75 #[.int .i64 107, .int .u64 256, .int .u64 259, .int .u64 0, .int .u64 0, .int .u64 0, .int .u64 0, .int .u64 0, .int .u64 0]).kept hb5
  have HK5 := hid (And.intro K5 hb35)
  have k5 := K5.cell
  have lw5 : w.heap.size ≤ w5.heap.size := by have := hb35.size; omega
  clear K5 hb35 hb4 hc4 hf4 hs4 hb5 hown4
  go_wp2_with (at_builtin; refine halt ?_)
  refine unhalt ?_
  have hbq : Below w3.heap.size w3 ((w5.alloc (.cells #[.int .i64 107, .int .u64 256, .int .u64 259, .int .u64 0, .int .u64 0, .int .u64 0, .int .u64 0, .int .u64 0, .int .u64 0] 75))) := by have h := HK5.out.2; exact qL
  refine wpList_append_mine rfl (.tmp 59) (.tmp 61) 42 rfl w.heap.size 75 i1 _ 9 72 Tryz.underlying42 hi1 hy0 hy1 hy2 rfl (by decide) (.slice (some ⟨g3, 0, none⟩) 1 c3) 1 (pageCells [bktTag]) rfl
    (own_below H3.out.1 hbq) ⟨w5.heap.size, 0, none⟩ 1 1 (#[.int .i64 107, .int .u64 256, .int .u64 259, .int .u64 0, .int .u64 0, .int .u64 0, .int .u64 0, .int .u64 0, .int .u64 0] : Array Value).toList rfl rfl (nine_news (cs := #[.int .i64 107, .int .u64 256, .int .u64 259, .int .u64 0, .int .u64 0, .int .u64 0, .int .u64 0, .int .u64 0, .int .u64 0]) (Blk.made w5 _ _))
    (by intro u hu; simp at hu; rcases hu with rfl | rfl | rfl | rfl <;> rfl) (by omega) (by unfold maxLen; omega) (by omega) (by simp; omega) ?_
  intro g6 c6 w6 hown6 hg6
  have hown6 : w6.ownsRow w.heap.size 75 9 (.slice (some ⟨g6, 0, none⟩) 2 c6) 2 (pageCells [bktTag, dirTag]) := hown6
  have hb6 : Below w.heap.size w w6 := below_grown (w := w) (below_step H3.out.2 hbq) hg6 (fun j hj => by have := own_row_ge H3.out.1 j hj; omega)
  have H6 := hid (And.intro hown6 hb6)
  clear hown6 hb6 hg6 hbq
  go_wp2_with fail
  rw [rounds_succ]
  go_wp2_with fail
  refine bodyPost_ret (results_tmp2 rfl _ _ _) rfl ⟨g6, c6, rfl, H6.out.1, H6.out.2⟩
theorem sb_over {r : Nat} {w1 wx wy : World} (h : SteadyBut r w1 wx) (hs : w1.heap.size ≤ wx.heap.size) (ho : Over r wx wy) : SteadyBut r w1 wy := ⟨fun b o hb hne => ((over_rules ho).1 b o (Nat.lt_of_lt_of_le hb hs) hne).trans (h.rule b o hb hne)⟩
def WritePost (r b0 : Nat) (cs : Value → Array Value) (L : List Bt.Page) (n : Nat) (w : World) (e : Ending) (w' : World) : Prop :=
  ∃ g c, e = .returned (.tuple #[]) ∧ Blk w' r 337 (cs (.slice (some ⟨g, 0, none⟩) n c)) ∧ w'.ownsRow b0 75 9 (.slice (some ⟨g, 0, none⟩) n c) n (pageCells L) ∧ Below r w w' ∧ (∀ b, b < b0 → b ≠ r → w'.heap[b]? = w.heap[b]?)
theorem hiWrite0 (r : Nat) (p : Bt.Page) (vf vk : Value) (w : World) (B : Blk w r 337 (hrCells 2 5 105 1 vf vk (.slice none 0 0) 0 false (.slice none 0 0) 0 96 256)) :
    Calls Tryz.prog 261 #[.pointer (some ⟨r, 0, none⟩), .agg p.cells] w (WritePost r w.heap.size (fun vw => hrCells 2 5 105 1 vf vk vw 0 false (.slice none 0 0) 0 96 256) [p] 1 w) := by
  obtain ⟨i1, hi1, hy0, hy1, hy2⟩ := info_parts infoPage
  have kc := B.cell
  have fc := B.free
  have lc := B.lt
  have HB := hid B
  clear B
  unfold hrCells at kc
  unfold Bt.Page.cells
  go_enter Tryz.func261, Tryz.ntmps261
  go_wp2_with fail
  refine wp_region_late (S := SteadyAll _) (last := 10) (by kernel_rfl) (by kernel_rfl) (SteadyAll.of (Below.refl _ _).drew) ?_
  intro hSt
  refine wpAnyL_seq (is := [0, 1, 2, 3, 4, 5]) (by kernel_rfl) (by kernel_rfl) (fun _ _ d _ _ h => by cases d <;> exact h) (by assumption) ?_
  iterate 6 (refine qU ?_; simp only [Act.put, qY])
  refine TakeSeqL.done ?_
  refine qHL 6 fun K hK => ?_
  go_simp
  refine hK.out _ _ (SteadyAll.of qL) (fun hHeld => ?_)
  clear hK K
  refine qHL 7 fun K hK => ?_
  have hl1 : r + 1 ≤ w.heap.size := lc
  refine wp_append_mine (.tmp 8) (.tmp 10) 42 rfl w.heap.size 75 i1 _ 9 72 Tryz.underlying42 hi1 hy0 hy1 hy2 rfl (by decide) (.slice none 0 0) 0 [] rfl
    (World.ownsRow_nil _ _ _ _) ⟨w.heap.size + 1, 0, none⟩ 1 1 (#[.int .i64 p.line, .int .u64 p.head, .int .u64 p.d0, .int .u64 p.d1, .int .u64 p.d2, .int .u64 p.d3, .int .u64 p.d4, .int .u64 p.d5, .int .u64 p.d6] : Array Value).toList rfl rfl (nine_news (cs := #[.int .i64 p.line, .int .u64 p.head, .int .u64 p.d0, .int .u64 p.d1, .int .u64 p.d2, .int .u64 p.d3, .int .u64 p.d4, .int .u64 p.d5, .int .u64 p.d6]) (Blk.drew (Blk.made' (by simp))))
    (by intro u hu; simp at hu; rcases hu with rfl | rfl | rfl | rfl | rfl | rfl | rfl | rfl | rfl <;> rfl) (by omega) (by unfold maxLen; omega) (by omega) (by simp; omega) ?_
  intro g3 c3 w3 hown3 hg3
  have hb3 : Below w.heap.size w w3 := below_grown (w := w) qL hg3 (fun j hj => by cases hj)
  have hb3' : Below (w.alloc (.cells #[.int .i64 p.line, .int .u64 p.head, .int .u64 p.d0, .int .u64 p.d1, .int .u64 p.d2, .int .u64 p.d3, .int .u64 p.d4, .int .u64 p.d5, .int .u64 p.d6] 75)).heap.size (w.alloc (.cells #[.int .i64 p.line, .int .u64 p.head, .int .u64 p.d0, .int .u64 p.d1, .int .u64 p.d2, .int .u64 p.d3, .int .u64 p.d4, .int .u64 p.d5, .int .u64 p.d6] 75)) w3 := below_grown qL hg3 (fun j hj => by cases hj)
  have hown3 : w3.ownsRow w.heap.size 75 9 (.slice (some ⟨g3, 0, none⟩) 1 c3) 1 (pageCells [p]) := hown3
  have hge := own_row_ge hown3 g3 rfl
  have HG := hid (And.intro hown3 (And.intro hb3 (HB.out.kept hb3)))
  refine hK.out _ _ (SteadyAll.of hb3') (fun hHeld => ?_)
  clear hK K hown3 hg3 hb3'
  have kc3 := HG.out.2.2.cell
  have fc3 := HG.out.2.2.free
  have lc3 := HG.out.2.2.lt
  unfold hrCells at kc3
  refine wpAnyL_seq (is := [8, 9]) (by kernel_rfl) (by kernel_rfl) (fun _ _ d _ _ h => by cases d <;> exact h) (by assumption) ?_
  iterate 2 (refine qU ?_; simp only [Act.put, qY])
  refine TakeSeqL.done ?_
  refine wpAnyL_ready (rs := [10]) (by kernel_rfl) (by simp) ?_
  refine AllReadyL.final rfl (fun K hK => ?_)
  rw [if_pos (by rfl)]
  go_simp
  refine hK.out _ _ ?_
  clear hK K
  refine wpAnyL_done (by kernel_rfl) ?_ _
  go_wp2_with fail
  refine bodyPost_end (results_none rfl _ _ _) rfl ⟨g3, c3, rfl, Blk.cast (HG.out.2.2.put 7 _) (by kernel_rfl), own_aside HG.out.1 (by show r < w.heap.size; omega) _, ?_, fun b hb hne => (heap_setCell_other w3 ⟨r, 7, none⟩ b _ hne).trans (HG.out.2.1.block b hb)⟩
  exact Below.setCell (p := ⟨r, 7, none⟩) (HG.out.2.1.mono (Nat.le_of_lt lc)) (Nat.le_refl r) _
theorem hiWriteN (r b0 n g cap : Nat) (hb0 : r < b0) (L : List Bt.Page) (p : Bt.Page) (vf vk : Value) (w : World) (hn : n = L.length) (hsm : n ≤ 5) (B : Blk w r 337 (hrCells 2 5 105 1 vf vk (.slice (some ⟨g, 0, none⟩) n cap) 0 false (.slice none 0 0) 0 96 256)) (hbs : b0 ≤ w.heap.size) (hown : w.ownsRow b0 75 9 (.slice (some ⟨g, 0, none⟩) n cap) n (pageCells L)) :
    Calls Tryz.prog 261 #[.pointer (some ⟨r, 0, none⟩), .agg p.cells] w (WritePost r b0 (fun vw => hrCells 2 5 105 1 vf vk vw 0 false (.slice none 0 0) 0 96 256) (L ++ [p]) (n + 1) w) := by
  obtain ⟨i1, hi1, hy0, hy1, hy2⟩ := info_parts infoPage
  have kc := B.cell
  have fc := B.free
  have lc := B.lt
  have hge := own_row_ge hown g rfl
  have lg := (own_lt hown).2
  have hrg : r < g := by omega
  have HB := hid (And.intro B (And.intro hown hn))
  clear B hown hn
  unfold hrCells at kc
  unfold Bt.Page.cells
  go_enter Tryz.func261, Tryz.ntmps261
  go_wp2_with fail
  refine wp_region_late (S := SteadyBut g _) (last := 10) (by kernel_rfl) (by kernel_rfl) (SteadyBut.of (Below.refl _ _).drew) ?_
  intro hSt
  refine wpAnyL_seq (is := [0, 1, 2, 3, 4, 5]) (by kernel_rfl) (by kernel_rfl) (fun _ _ d _ _ h => by cases d <;> exact h) (by assumption) ?_
  iterate 6 (refine qU ?_; simp only [Act.put, qY])
  refine TakeSeqL.done ?_
  refine qHL 6 fun K hK => ?_
  go_simp
  refine hK.out _ _ (SteadyBut.of qL) (fun hHeld => ?_)
  clear hK K
  refine qHL 7 fun K hK => ?_
  have hl1 : r + 1 ≤ w.heap.size := lc
  have hbX : Below w.heap.size w (((w.alloc (.cells #[.int .i64 p.line, .int .u64 p.head, .int .u64 p.d0, .int .u64 p.d1, .int .u64 p.d2, .int .u64 p.d3, .int .u64 p.d4, .int .u64 p.d5, .int .u64 p.d6] 75)).alloc (.cells #[.int .i64 p.line, .int .u64 p.head, .int .u64 p.d0, .int .u64 p.d1, .int .u64 p.d2, .int .u64 p.d3, .int .u64 p.d4, .int .u64 p.d5, .int .u64 p.d6] 75)).drew) := qL
  refine wp_append_mine (.tmp 8) (.tmp 10) 42 rfl b0 75 i1 _ 9 72 Tryz.underlying42 hi1 hy0 hy1 hy2 rfl (by decide) (.slice (some ⟨g, 0, none⟩) n cap) n (pageCells L) rfl
    (own_below HB.out.2.1 hbX) ⟨w.heap.size + 1, 0, none⟩ 1 1 (#[.int .i64 p.line, .int .u64 p.head, .int .u64 p.d0, .int .u64 p.d1, .int .u64 p.d2, .int .u64 p.d3, .int .u64 p.d4, .int .u64 p.d5, .int .u64 p.d6] : Array Value).toList rfl rfl (nine_news (cs := #[.int .i64 p.line, .int .u64 p.head, .int .u64 p.d0, .int .u64 p.d1, .int .u64 p.d2, .int .u64 p.d3, .int .u64 p.d4, .int .u64 p.d5, .int .u64 p.d6]) (Blk.drew (Blk.made' (by simp))))
    (by intro u hu; simp at hu; rcases hu with rfl | rfl | rfl | rfl | rfl | rfl | rfl | rfl | rfl <;> rfl) (by omega) (by unfold maxLen; omega) (by omega) (by simp; omega) ?_
  intro g3 c3 w3 hown3 hg3
  have hb3 : Below r w w3 := (hbX.mono (by omega)).trans ⟨hg3.os, hg3.tape, hg3.output, hg3.size, fun k hk => hg3.block k (Nat.lt_of_lt_of_le hk (by have := hbX.size; omega)) (by simp [Value.ownBlock]; omega)⟩
  have hown3 : w3.ownsRow b0 75 9 (.slice (some ⟨g3, 0, none⟩) (n + 1) c3) (n + 1) (pageCells (L ++ [p])) := by
    have e : pageCells (L ++ [p]) = pageCells L ++ #[.int .i64 p.line, .int .u64 p.head, .int .u64 p.d0, .int .u64 p.d1, .int .u64 p.d2, .int .u64 p.d3, .int .u64 p.d4, .int .u64 p.d5, .int .u64 p.d6].toList := by simp [pageCells, Bt.Page.cells]
    rw [e]
    exact hown3
  have hge3 := own_row_ge hown3 g3 rfl
  have B3 : Blk w3 r _ _ := (HB.out.1.kept hbX).grown hg3 (by simp [Value.ownBlock]; omega)
  have hfr : ∀ b, b < b0 → w3.heap[b]? = w.heap[b]? := fun b hb => (hg3.block b (Nat.lt_of_lt_of_le (Nat.lt_of_lt_of_le hb hbs) hbX.size) (by simp [Value.ownBlock]; omega)).trans (hbX.block b (Nat.lt_of_lt_of_le hb hbs))
  have HFR := hid hfr
  have HG := hid (And.intro hown3 (And.intro hb3 B3))
  refine hK.out _ _ (sb_over (SteadyBut.of qL) (by simp) hg3) (fun hHeld => ?_)
  clear hK K hown3 hg3 B3 hfr
  have kc3 := HG.out.2.2.cell
  have fc3 := HG.out.2.2.free
  have lc3 := HG.out.2.2.lt
  unfold hrCells at kc3
  refine wpAnyL_seq (is := [8, 9]) (by kernel_rfl) (by kernel_rfl) (fun _ _ d _ _ h => by cases d <;> exact h) (by assumption) ?_
  iterate 2 (refine qU ?_; simp only [Act.put, qY])
  refine TakeSeqL.done ?_
  refine wpAnyL_ready (rs := [10]) (by kernel_rfl) (by simp) ?_
  refine AllReadyL.final rfl (fun K hK => ?_)
  rw [if_pos (by rfl)]
  go_simp
  refine hK.out _ _ ?_
  clear hK K
  refine wpAnyL_done (by kernel_rfl) ?_ _
  go_wp2_with fail
  refine bodyPost_end (results_none rfl _ _ _) rfl ⟨g3, c3, rfl, Blk.cast (HG.out.2.2.put 7 _) (by kernel_rfl), own_aside HG.out.1 (by show r < b0; omega) _, ?_, fun b hb hne => (heap_setCell_other w3 ⟨r, 7, none⟩ b _ hne).trans (HFR.out b hb)⟩
  exact Below.setCell (p := ⟨r, 7, none⟩) HG.out.2.1 (Nat.le_refl r) _
def hr2 (f cf : Nat) (vk vw : Value) : Array Value := hrCells 2 5 105 1 (.slice (some ⟨f, 0, none⟩) 2 cf) vk vw 0 false (.slice none 0 0) 0 96 256
def TwoPages (r f cf : Nat) (vk : Value) (w : World) (s4 s5 : Value) (wr : World) : Prop :=
  ∃ X4 X5 : Nat, s4 = .pointer (some ⟨X4, 0, none⟩) ∧ s5 = .pointer (some ⟨X5, 0, none⟩) ∧ r < X4 ∧ r < X5 ∧ Hid (Blk wr X4 75 bktTag.cells ∧ Blk wr X5 75 dirTag.cells ∧ Blk wr r 337 (hr2 f cf vk (.slice none 0 0)) ∧ Below w.heap.size w wr)
def RootCut (r X5 f cf : Nat) (vk vw : Value) (b0 : Nat) (w8 : World) (s7 s8 : Value) (wr : World) : Prop :=
  ∃ X7 : Nat, s7 = .pointer (some ⟨X7, 0, none⟩) ∧ s8 = .int .i64 0 ∧ Hid (Blk wr X7 75 rootPage2.cells ∧ r < X7 ∧ Below w8.heap.size w8 wr)
theorem hiAt (p : Bt.Page) (l : Int) (hp : p.Ok) (hl : p.line = l) (hg : Bt.tagGen p.d0 = 1) (w : World) : Calls Tryz.prog 110 #[.agg p.cells] w fun e w' => e = .returned (.agg #[.int .i64 l, .int .i64 1]) ∧ Below w.heap.size w w' := by
  have h := At_any p hp w
  have e : (Bt.at_ p).cells = #[.int .i64 l, .int .i64 1] := by simp [Bt.at_, Bt.Ptr.cells, hl, hg]
  rw [e] at h
  exact h
theorem hiInsertFirst (r f cf : Nat) (vk : Value) (w : World) (B : Blk w r 337 (hr2 f cf vk (.slice none 0 0))) (hf : PgRow w (.slice (some ⟨f, 0, none⟩) 2 cf) [freeP 106, freeP 107]) (hn : HNone w) (hnr : 2 < r) :
    Calls Tryz.prog 259 #[.pointer (some ⟨r, 0, none⟩)] w fun e w' => ∃ g c, e = .returned (.tuple #[]) ∧ Blk w' r 337 (hrCells 2 5 105 1 (.slice (some ⟨f, 0, none⟩) 2 cf) vk (.slice (some ⟨g, 0, none⟩) 3 c) 0 true (.slice none 0 0) 0 96 256) ∧ w'.ownsRow (r + 1) 75 9 (.slice (some ⟨g, 0, none⟩) 3 c) 3 (pageCells [bktPage, dirPage, rootPage2]) ∧ Below r w w' := by
  have HLK : Hid (∀ W, Calls Tryz.prog 62 #[.agg zRootP.cells] W fun e w' => e = .returned (.bool false) ∧ Below W.heap.size W w') := hid (fun W => Locked_any zRootP ⟨by decide, by decide, by decide, by decide, by decide, by decide, by decide, by decide⟩ W)
  unfold zRootP Bt.Page.cells at HLK
  have HFR := hid (fun g W h1 h2 h3 => hiFresh_two r f cf g vk W h1 h2 h3)
  have HF := hid hf
  have HN := hid hn
  have kc := B.cell
  have lc := B.lt
  have HB := hid B
  clear B hf hn
  unfold hr2 hrCells at kc
  go_enter Tryz.func259, Tryz.ntmps259
  go_wp2_with fail
  go_at_call 62; refine (HLK.out _).mono ?_; rintro e w1 ⟨rfl, hb1⟩; ((obtain ⟨hc1, hf1, hs1⟩ := qR hb1); (try have := qN0 w w1))
  have lc1 : r < w1.heap.size := by omega
  go_wp2_with fail
  have K1 := Blk.made w1 3 #[.int .i64 2, .int .i64 3]
  have hbX : Below w.heap.size w (w1.alloc (.cells #[.int .i64 2, .int .i64 3] 3)) := qL
  go_at_call 263; refine (HFR.out _ _ (HB.out.kept hbX) (HF.out.below hbX) K1).mono ?_; rintro e w2 ⟨gf, cg, rfl, hown2, hb2⟩
  have hbw2 : Below w.heap.size w w2 := below_step hbX hb2
  have lgf := (own_lt hown2).2
  obtain ⟨a0, a1, a2, a3, a4, a5, a6, a7, a8⟩ := nine (w := w2) (b := gf) (k := 0) (p := bktTag) (fun j u hu => own_cells hown2 _ _ (by rw [Nat.zero_mul, Nat.zero_add]; simp only [pageCells, List.flatMap_cons]; rw [List.getElem?_append_left (List.getElem?_eq_some_iff.1 hu).1]; exact hu))
  obtain ⟨d0, d1, d2, d3, d4, d5, d6, d7, d8⟩ := nine (w := w2) (b := gf) (k := 1) (p := dirTag) (fun j u hu => own_cells hown2 _ _ (by rw [Nat.one_mul]; simp only [pageCells, List.flatMap_cons]; rw [List.getElem?_append_right (by simp [Bt.Page.cells]), List.getElem?_append_left (by have := (List.getElem?_eq_some_iff.1 hu).1; simpa [Bt.Page.cells] using this)]; simpa [Bt.Page.cells] using hu))
  simp only [bktTag, dirTag, Nat.zero_mul, Nat.zero_add, Nat.one_mul] at a0 a1 a2 a3 a4 a5 a6 a7 a8 d0 d1 d2 d3 d4 d5 d6 d7 d8
  have B2 := HB.out.kept hbw2
  have H2 := hid (And.intro B2 hbw2)
  have lc2 := B2.lt
  clear B2 hbw2 hown2 hb2 hbX K1 hb1 hc1 hf1 hs1 kc
  go_upto_region 4 with (fail)
  go_cut [4, 5] from 24 to 29 (TwoPages r f cf vk w)
  case first =>
    refine qA fun hSt => ?_
    refine qS [0, 1, 2, 3, 4, 5] ?_
    iterate 6 (refine qT ?_; simp only [Act.put, qY])
    refine TakeSeq.done ?_
    refine wpAnyH_ready (rs := [6, 7]) (by kernel_rfl) (by simp) ?_
    refine AllReadyH.cons rfl (fun K hK => ?_) (AllReadyH.cons rfl (fun K hK => ?_) (AllReadyH.nil))
    · skip
      rw [if_pos (by rfl)]
      go_simp
      refine hK.out _ _ (SteadyAll.of qL) (fun hHeld => ?_)
      clear hK K
      refine qH 7 fun K hK => ?_
      go_simp
      refine hK.out _ _ (SteadyAll.of qL) (fun hHeld => ?_)
      clear hK K
      refine qH 8 fun K hK => ?_
      go_simp
      refine hK.out _ _ (SteadyAll.of qL) (fun hHeld => ?_)
      clear hK K
      refine qH 9 fun K hK => ?_
      go_simp
      refine hK.out _ _ (SteadyAll.of qL) (fun hHeld => ?_)
      clear hK K
      refine qD ?_ _
      go_wp2_with fail
      go_meet
      refine ⟨w2.heap.size, w2.heap.size + 1, rfl, rfl, lc2, by omega, hid ⟨((Blk.made w2 _ _).alloc _).drew, (Blk.made' (by simp)).drew, ((H2.out.1.alloc _).alloc _).drew, ?_⟩⟩
      have h := H2.out.2
      exact qL
    · skip
      rw [if_pos (by rfl)]
      go_simp
      refine hK.out _ _ (SteadyAll.of qL) (fun hHeld => ?_)
      clear hK K
      refine qH 6 fun K hK => ?_
      go_simp
      refine hK.out _ _ (SteadyAll.of qL) (fun hHeld => ?_)
      clear hK K
      refine qH 8 fun K hK => ?_
      go_simp
      refine hK.out _ _ (SteadyAll.of qL) (fun hHeld => ?_)
      clear hK K
      refine qH 9 fun K hK => ?_
      go_simp
      refine hK.out _ _ (SteadyAll.of qL) (fun hHeld => ?_)
      clear hK K
      refine qD ?_ _
      go_wp2_with fail
      go_meet
      refine ⟨w2.heap.size + 1, w2.heap.size, rfl, rfl, by omega, lc2, hid ⟨(Blk.made' (by simp)).drew, ((Blk.made w2 _ _).alloc _).drew, ((H2.out.1.alloc _).alloc _).drew, ?_⟩⟩
      have h := H2.out.2
      exact qL
  case rest =>
    obtain ⟨X4, X5, rfl, rfl, hr4, hr5, HC⟩ := hcut
    clear a0 a1 a2 a3 a4 a5 a6 a7 a8 d0 d1 d2 d3 d4 d5 d6 d7 d8 H2 HB lc1 lc2 lgf
    have k4 := HC.out.1.cell
    have l4 := HC.out.1.lt
    have k5 := HC.out.2.1.cell
    have l5 := HC.out.2.1.lt
    have kr := HC.out.2.2.1.cell
    have lr := HC.out.2.2.1.lt
    unfold bktTag Bt.Page.cells at k4
    unfold dirTag Bt.Page.cells at k5
    unfold hr2 hrCells at kr
    simp only at k4 k5
    have HA6 : Hid (∀ W, Calls Tryz.prog 110 #[.agg bktTag.cells] W fun e w' => e = .returned (.agg #[.int .i64 106, .int .i64 1]) ∧ Below W.heap.size W w') := hid (fun W => hiAt bktTag 106 ⟨by decide, by decide, by decide, by decide, by decide, by decide, by decide, by decide⟩ rfl rfl W)
    have HA7 : Hid (∀ W, Calls Tryz.prog 110 #[.agg dirTag.cells] W fun e w' => e = .returned (.agg #[.int .i64 107, .int .i64 1]) ∧ Below W.heap.size W w') := hid (fun W => hiAt dirTag 107 ⟨by decide, by decide, by decide, by decide, by decide, by decide, by decide, by decide⟩ rfl rfl W)
    unfold bktTag Bt.Page.cells at HA6
    unfold dirTag Bt.Page.cells at HA7
    simp only at HA6 HA7
    go_wp2_with fail
    go_at_call 110; refine (HA6.out _).mono ?_; rintro e w3 ⟨rfl, hb3⟩; ((obtain ⟨hc3, hf3, hs3⟩ := qR hb3); (try have := qN0 wc w3))
    go_upto_region 6 with (fail)
    have lr3 : r < w3.heap.size := by omega
    refine wp_name (fun W => Blk W X4 75 bktTag.cells ∧ Blk W X5 75 dirTag.cells ∧ Blk W r 337 (hr2 f cf vk (.slice none 0 0)) ∧ Blk W w3.heap.size 154 #[.int .i64 106, .int .i64 1] ∧ Below w.heap.size w W) ⟨(HC.out.1.kept hb3).alloc _, (HC.out.2.1.kept hb3).alloc _, (HC.out.2.2.1.kept hb3).alloc _, Blk.made _ _ _, by have h := HC.out.2.2.2; exact qL⟩ (fun w4 H4 => ?_)
    obtain ⟨X6, hX6⟩ : ∃ x, w3.heap.size = x := ⟨_, rfl⟩
    rw [hX6] at H4 lr3 ⊢
    clear HC k4 l4 k5 l5 kr lr hb3 hc3 hf3 hs3 hX6
    have HBF := hid (fun e W h => hiBucketFill e W h)
    have HW0 := hid (fun W B => hiWrite0 r bktPage (.slice (some ⟨f, 0, none⟩) 2 cf) vk W B)
    unfold bktTag bktPage Bt.Page.cells at HBF
    unfold bktPage Bt.Page.cells at HW0
    simp only at HBF HW0
    have k4 := H4.out.1.cell
    have l4 := H4.out.1.lt
    have kr := H4.out.2.2.1.cell
    have lr := H4.out.2.2.1.lt
    unfold bktTag Bt.Page.cells at k4
    unfold hr2 hrCells at kr
    simp only at k4
    refine wp_region_late (S := SteadyAll _) (last := 16) (by kernel_rfl) (by kernel_rfl) (SteadyAll.of (Below.refl _ _).drew) ?_
    intro hSt
    refine wpAnyL_seq (is := [0, 1, 2, 3, 4, 5, 6, 7, 8, 9, 10, 11, 14]) (by kernel_rfl) (by kernel_rfl) (fun _ _ d _ _ h => by cases d <;> exact h) (by assumption) ?_
    iterate 13 (refine qU ?_; simp only [Act.put, qY])
    refine TakeSeqL.done ?_
    refine qHL 12 fun K hK => ?_
    go_simp
    refine hK.out _ _ (SteadyAll.of qL) (fun hHeld => ?_)
    clear hK K
    refine wpAnyL_seq (is := [13]) (by kernel_rfl) (by kernel_rfl) (fun _ _ d _ _ h => by cases d <;> exact h) (by assumption) ?_
    refine qU ?_; simp only [Act.put, qY]
    refine TakeSeqL.done ?_
    refine qHL 15 fun K hK => ?_
    go_simp
    go_at_call 262; refine (HBF.out w4.heap.size _ ((Blk.made w4 _ _).drew)).mono ?_; rintro e w5 ⟨rfl, hb5⟩
    go_wp2_with fail
    refine hK.out _ _ (SteadyAll.of qL) (fun hHeld => ?_)
    clear hK K
    have hb45 : Below w4.heap.size w4 w5 := ((below_alloc (Below.refl _ _) _).drew : Below w4.heap.size w4 _).trans (hb5.mono (by simp))
    have B5 := H4.out.2.2.1.kept hb45
    have X55 := H4.out.2.1.kept hb45
    have X65 := H4.out.2.2.2.1.kept hb45
    have hbw5 : Below w.heap.size w w5 := below_step H4.out.2.2.2.2 hb45
    have H5 := hid (And.intro B5 (And.intro X55 (And.intro X65 hbw5)))
    clear B5 X55 X65 hbw5 hb45 hb5
    refine wpAnyL_ready (rs := [16]) (by kernel_rfl) (by simp) ?_
    refine AllReadyL.final rfl (fun K hK => ?_)
    rw [if_pos (by rfl)]
    go_simp
    go_at_call 261; refine (HW0.out _ H5.out.1).mono ?_; rintro e w6 ⟨g6, c6, rfl, B6, hown6, hb6, hfr6⟩
    have X56 : Blk w6 X5 75 dirTag.cells := (hfr6 X5 H5.out.2.1.lt (by omega)).trans H5.out.2.1
    have X66 : Blk w6 X6 154 #[.int .i64 106, .int .i64 1] := (hfr6 X6 H5.out.2.2.1.lt (by omega)).trans H5.out.2.2.1
    have lb0 : r < w5.heap.size := H5.out.1.lt
    have hs56 : w5.heap.size ≤ w6.heap.size := hb6.size
    have hx5 := H5.out.2.1.lt
    have hx6 := H5.out.2.2.1.lt
    have hbr6 : Below r w w6 := (H5.out.2.2.2.mono (Nat.le_of_lt lc)).trans hb6
    have H6 := hid (And.intro B6 (And.intro X56 (And.intro X66 (And.intro hown6 hbr6))))
    obtain ⟨b0, hb0⟩ : ∃ x, w5.heap.size = x := ⟨_, rfl⟩
    rw [hb0] at H6 lb0 hs56 hx5 hx6
    clear B6 X56 X66 hown6 hbr6 hb6 hfr6 H5 H4 hb0
    go_wp2_with fail
    refine hK.out _ _ ?_
    clear hK K
    refine wpAnyL_done (by kernel_rfl) ?_ _
    have HFS := hid (fun W => hiFillSlots W)
    have HW1 := hid (fun W h1 h2 h3 => hiWriteN r b0 1 g6 c6 lb0 [bktPage] dirPage (.slice (some ⟨f, 0, none⟩) 2 cf) vk W rfl (by omega) h1 h2 h3)
    unfold dirTag dirPage slotCells Bt.Page.cells at HFS
    unfold dirPage Bt.Page.cells at HW1
    simp only at HFS HW1
    have k5 := H6.out.2.1.cell
    have l5 := H6.out.2.1.lt
    have k6 := H6.out.2.2.1.cell
    have l6 := H6.out.2.2.1.lt
    unfold dirTag Bt.Page.cells at k5
    simp only at k5
    clear k4 l4 kr lr
    go_wp2_with fail
    go_at_call 268; refine (HFS.out _).mono ?_; rintro e w7 ⟨rfl, hb7⟩
    have B7 := H6.out.1.kept hb7
    have X57 := H6.out.2.1.kept hb7
    have X67 := H6.out.2.2.1.kept hb7
    have O7 := own_below H6.out.2.2.2.1 hb7
    have hbr7 : Below r w w7 := H6.out.2.2.2.2.trans (hb7.mono (Nat.le_of_lt H6.out.1.lt))
    have H7 := hid (And.intro B7 (And.intro X57 (And.intro X67 (And.intro O7 hbr7))))
    have hs67 : b0 ≤ w7.heap.size := Nat.le_trans hs56 hb7.size
    clear B7 X57 X67 O7 hbr7 hb7 H6 k5 l5 k6 l6
    go_wp2_with fail
    go_at_call 261; refine (HW1.out _ H7.out.1 hs67 H7.out.2.2.2.1).mono ?_; rintro e w8 ⟨g8, c8, rfl, B8, hown8, hb8, hfr8⟩
    have X58 : Blk w8 X5 75 dirTag.cells := (hfr8 X5 hx5 (by omega)).trans H7.out.2.1
    have X68 : Blk w8 X6 154 #[.int .i64 106, .int .i64 1] := (hfr8 X6 hx6 (by omega)).trans H7.out.2.2.1
    have hs78 : b0 ≤ w8.heap.size := Nat.le_trans hs67 hb8.size
    have hbr8 : Below r w w8 := H7.out.2.2.2.2.trans hb8
    have H8 := hid (And.intro B8 (And.intro X58 (And.intro X68 (And.intro hown8 hbr8))))
    clear B8 X58 X68 hown8 hbr8 hb8 hfr8 H7 HW1 HFS HW0 HBF
    go_upto_region 8 with (fail)
    have HWR := hid (fun W h => hiWriteRoot W h)
    unfold rootPage2 zRootP Bt.Page.cells at HWR
    simp only at HWR
    have k5 := H8.out.2.1.cell
    have l5 := H8.out.2.1.lt
    have k6 := H8.out.2.2.1.cell
    have l6 := H8.out.2.2.1.lt
    have kr := H8.out.1.cell
    have lr := H8.out.1.lt
    have hn8 : HNone w8 := by
      refine ⟨?_, ?_, ?_⟩
      · exact (H8.out.2.2.2.2.cell (p := ⟨2, 0, none⟩) hnr).trans HN.out.c0
      · exact (H8.out.2.2.2.2.cell (p := ⟨2, 1, none⟩) hnr).trans HN.out.c1
      · exact Nat.lt_of_lt_of_le HN.out.lt H8.out.2.2.2.2.size
    have HN8 := hid hn8
    clear hn8
    unfold dirTag Bt.Page.cells at k5
    simp only at k5
    unfold hrCells at kr
    go_cut [7, 8] from 55 to 67 (RootCut r X5 f cf vk (.slice (some ⟨g8, 0, none⟩) 2 c8) b0 w8)
    case first =>
      refine qA fun hSt => ?_
      refine qS [0, 1, 2, 3, 4, 5] ?_
      iterate 6 (refine qT ?_; simp only [Act.put, qY])
      refine TakeSeq.done ?_
      refine wpAnyH_ready (rs := [6, 13]) (by kernel_rfl) (by simp) ?_
      refine AllReadyH.cons rfl (fun K hK => ?_) (AllReadyH.cons rfl (fun K hK => ?_) (AllReadyH.nil))
      · skip
        rw [if_pos (by rfl)]
        go_simp
        go_at_call 110; refine (HA7.out _).mono ?_; rintro e w9 ⟨rfl, hb9⟩
        go_wp2_with fail
        refine hK.out _ _ (SteadyAll.of qL) (fun hHeld => ?_)
        clear hK K
        refine qS [7, 8] ?_
        iterate 2 (refine qT ?_; simp only [Act.put, qY])
        refine TakeSeq.done ?_
        refine wpAnyH_ready (rs := [9, 13]) (by kernel_rfl) (by simp) ?_
        refine AllReadyH.cons rfl (fun K hK => ?_) (AllReadyH.cons rfl (fun K hK => ?_) (AllReadyH.nil))
        · skip
          rw [if_pos (by rfl)]
          go_simp
          go_at_call 270; refine (HWR.out _ ((HN8.out.below (Below.refl _ _).drew).below hb9)).mono ?_; rintro e wa ⟨rfl, hba⟩
          go_wp2_with fail
          refine hK.out _ _ (SteadyAll.of qL) (fun hHeld => ?_)
          clear hK K
          have hba' : Below w8.heap.size w8 wa := qL
          have hsa := hba'.size
          refine qS [10, 11, 12] ?_
          iterate 3 (refine qT ?_; simp only [Act.put, qY])
          refine TakeSeq.done ?_
          refine qH 13 fun K hK => ?_
          go_simp
          refine hK.out _ _ (SteadyAll.of qL) (fun hHeld => ?_)
          clear hK K
          refine qH 14 fun K hK => ?_
          go_simp
          refine hK.out _ _ (SteadyAll.of qL) (fun hHeld => ?_)
          clear hK K
          refine qS [15] ?_
          refine qT ?_; simp only [Act.put, qY]
          refine TakeSeq.done ?_
          refine qD ?_ _
          go_wp2_with fail
          go_meet
          refine ⟨wa.heap.size, rfl, rfl, hid ⟨?_, by omega, qL⟩⟩
          exact (Blk.made wa _ _).drew
        · skip
          rw [if_pos (by rfl)]
          go_simp
          refine hK.out _ _ (SteadyAll.of qL) (fun hHeld => ?_)
          clear hK K
          refine qH 9 fun K hK => ?_
          go_simp
          go_at_call 270; refine (HWR.out _ (((HN8.out.below (Below.refl _ _).drew).below hb9).below (below_alloc (Below.refl _ _) _))).mono ?_; rintro e wa ⟨rfl, hba⟩
          go_wp2_with fail
          refine hK.out _ _ (SteadyAll.of qL) (fun hHeld => ?_)
          clear hK K
          have BZ := (Blk.made w9 75 #[.int .i64 0, .int .u64 0, .int .u64 0, .int .u64 0, .int .u64 0, .int .u64 0, .int .u64 0, .int .u64 0, .int .u64 0]).kept hba
          have hba' : Below w8.heap.size w8 wa := qL
          have hsa : w8.heap.size ≤ w9.heap.size := by have := hb9.size; simpa using this
          have kz := BZ.cell
          have fz := BZ.free
          have lz := BZ.lt
          refine qS [10, 11, 12] ?_
          iterate 3 (refine qT ?_; simp only [Act.put, qY])
          refine TakeSeq.done ?_
          refine qH 14 fun K hK => ?_
          go_simp
          refine hK.out _ _ (SteadyAll.of qL) (fun hHeld => ?_)
          clear hK K
          refine qS [15] ?_
          refine qT ?_; simp only [Act.put, qY]
          refine TakeSeq.done ?_
          refine qD ?_ _
          go_wp2_with fail
          go_meet
          refine ⟨w9.heap.size, rfl, rfl, hid ⟨Blk.cast (((((((((BZ.put 0 _).put 1 _).put 2 _).put 3 _).put 4 _).put 5 _).put 6 _).put 7 _).put 8 _) (by kernel_rfl), by omega, qL⟩⟩
      · skip
        rw [if_pos (by rfl)]
        go_simp
        refine hK.out _ _ (SteadyAll.of qL) (fun hHeld => ?_)
        clear hK K
        refine qH 6 fun K hK => ?_
        go_simp
        go_at_call 110; refine (HA7.out _).mono ?_; rintro e w9 ⟨rfl, hb9⟩
        go_wp2_with fail
        refine hK.out _ _ (SteadyAll.of qL) (fun hHeld => ?_)
        clear hK K
        have BZ0 := (Blk.made w8 75 #[.int .i64 0, .int .u64 0, .int .u64 0, .int .u64 0, .int .u64 0, .int .u64 0, .int .u64 0, .int .u64 0, .int .u64 0]).drew.kept hb9
        refine qS [7, 8] ?_
        iterate 2 (refine qT ?_; simp only [Act.put, qY])
        refine TakeSeq.done ?_
        refine qH 9 fun K hK => ?_
        go_simp
        go_at_call 270; refine (HWR.out _ (((HN8.out.below (below_alloc (Below.refl w8.heap.size w8) (.cells #[.int .i64 0, .int .u64 0, .int .u64 0, .int .u64 0, .int .u64 0, .int .u64 0, .int .u64 0, .int .u64 0, .int .u64 0] 75))).below (Below.refl _ _).drew).below hb9)).mono ?_; rintro e wa ⟨rfl, hba⟩
        go_wp2_with fail
        refine hK.out _ _ (SteadyAll.of qL) (fun hHeld => ?_)
        clear hK K
        have BZ := BZ0.kept hba
        have hba' : Below w8.heap.size w8 wa := qL
        have kz := BZ.cell
        have fz := BZ.free
        have lz := BZ.lt
        refine qS [10, 11, 12] ?_
        iterate 3 (refine qT ?_; simp only [Act.put, qY])
        refine TakeSeq.done ?_
        refine qH 14 fun K hK => ?_
        go_simp
        refine hK.out _ _ (SteadyAll.of qL) (fun hHeld => ?_)
        clear hK K
        refine qS [15] ?_
        refine qT ?_; simp only [Act.put, qY]
        refine TakeSeq.done ?_
        refine qD ?_ _
        go_wp2_with fail
        go_meet
        refine ⟨w8.heap.size, rfl, rfl, hid ⟨Blk.cast (((((((((BZ.put 0 _).put 1 _).put 2 _).put 3 _).put 4 _).put 5 _).put 6 _).put 7 _).put 8 _) (by kernel_rfl), lr, qL⟩⟩
    case rest =>
      obtain ⟨X7, rfl, rfl, H9⟩ := hcut
      have hb9 := H9.out.2.2
      have B9 := H8.out.1.kept hb9
      have O9 := own_below H8.out.2.2.2.1 hb9
      have hbr9 : Below r w wc := H8.out.2.2.2.2.trans (hb9.mono (Nat.le_of_lt lr))
      have HW2 := hid (fun h1 h2 h3 => hiWriteN r b0 2 g8 c8 lb0 [bktPage, dirPage] rootPage2 (.slice (some ⟨f, 0, none⟩) 2 cf) vk wc rfl (by omega) h1 h2 h3)
      unfold rootPage2 Bt.Page.cells at HW2
      simp only at HW2
      have hs9 : b0 ≤ wc.heap.size := Nat.le_trans hs78 hb9.size
      have H10 := hid (And.intro B9 (And.intro O9 hbr9))
      have k7 := H9.out.1.cell
      have l7 := H9.out.1.lt
      unfold rootPage2 Bt.Page.cells at k7
      simp only at k7
      clear hb9 B9 O9 hbr9 H8 k5 l5 k6 l6 kr lr
      go_wp2_with fail
      go_at_call 261; refine (HW2.out H10.out.1 hs9 H10.out.2.1).mono ?_; rintro e wd ⟨gd, cd, rfl, Bd, hownd, hbd, hfrd⟩
      have hbrd : Below r w wd := H10.out.2.2.trans hbd
      have HD := hid (And.intro Bd (And.intro hownd hbrd))
      have kr := Bd.cell
      have fr := Bd.free
      have lr := Bd.lt
      clear Bd hownd hbd hfrd hbrd H10 H9 k7 l7 HW2
      unfold hrCells at kr
      go_wp2_with fail
      refine bodyPost_end (results_none rfl _ _ _) rfl ⟨gd, cd, rfl, Blk.cast (HD.out.1.put 10 _) (by kernel_rfl), own_aside (own_lower HD.out.2.1 lb0) (by show r < r + 1; omega) _, Below.setCell (p := ⟨r, 10, none⟩) HD.out.2.2 (Nat.le_refl r) _⟩
theorem cmpHi_any (p q : Bt.Page) (w : World) : Calls Tryz.prog 206 #[.agg p.cells, .agg q.cells] w fun e w' => e = .returned (.int .i64 (Lib.compareInt p.line q.line)) ∧ Below w.heap.size w w' := by
  unfold Bt.Page.cells
  go_enter Tryz.func206, Tryz.ntmps206
  go_wp2_with (go_at_call 149; refine (Tryz.cmp_Compare_int p.line q.line _).mono ?_; rintro e w1 ⟨rfl, hw⟩; subst hw)
  go_ret
  exact ⟨rfl, qL⟩
theorem hiIsort (g cap : Nat) (l0 : List Bt.Page) (a b n : Nat) (hn : n = l0.length) (hsm : n ≤ 1000000) (hab : a ≤ b) (hb : b ≤ n) (w : World) (h : PRow w g cap l0) :
    Calls Tryz.prog 241 #[.slice (some ⟨g, 0, none⟩) n cap, .int .i64 a, .int .i64 b, cmpHi] w (SortPost g cap a b l0 w) := by
  have HP := hid h
  have HN := hid hn
  clear h hn
  unfold cmpHi SortPost
  have wa : IntKind.i64.wrap ((a : Int) + 1) = (a : Int) + 1 := by rw [IntKind.wrap_i64]; omega
  go_enter Tryz.func241, Tryz.ntmps241
  go_wp2_with fail
  go_loopw [8] (fun i wr => ∃ (k : Nat) (l : List Bt.Page), i = .int .i64 k ∧ a + 1 ≤ k ∧ Hid (PRow wr g cap l ∧ Srt.Part a b l0 l ∧ Srt.Asc a k l ∧ Over g w wr)) (fun i _ => ((b : Int) + 1 - intOf i).toNat)
  case atStart => exact ⟨a + 1, l0, by simp, by omega, hid ⟨HP.out, Srt.Part.refl _ _ _, Srt.Asc.one _ _, Over.refl _ _⟩⟩
  case round =>
    obtain ⟨k, l, rfl, hk, HR⟩ := hrel
    by_cases hkb : k < b
    · have b1 : decide ((k : Int) < b) = true := by simp; omega
      have wk : IntKind.i64.wrap ((k : Int) + 1) = (k : Int) + 1 := by rw [IntKind.wrap_i64]; omega
      go_wp2_with fail
      go_loopw [9] (fun j wr => ∃ (q : Nat) (l' : List Bt.Page), j = .int .i64 q ∧ a ≤ q ∧ q ≤ k ∧ Hid (PRow wr g cap l' ∧ Srt.Part a b l0 l' ∧ Srt.InsAt a k q l' ∧ Over g w wr)) (fun j _ => (intOf j).toNat)
      case atStart => exact ⟨k, l, rfl, by omega, by omega, hid ⟨HR.out.1, HR.out.2.1, Srt.ins_start HR.out.2.2.1, HR.out.2.2.2⟩⟩
      case round =>
        obtain ⟨q, l', rfl, haq, hqk, HQ⟩ := hrel
        have hlen : l'.length = n := by have := HQ.out.2.1.len; have := HN.out; omega
        obtain ⟨J, hJ⟩ : ∃ J : Int, (q : Int) = J := ⟨_, rfl⟩
        rw [hJ]
        have hJt : J.toNat = q := by omega
        by_cases hq : a < q
        · have j1 : decide ((a : Int) < J) = true := by simp; omega
          obtain ⟨K, hK⟩ : ∃ K : Int, J - 1 = K := ⟨_, rfl⟩
          have hKt : K.toNat = q - 1 := by omega
          have wK : IntKind.i64.wrap (J - 1) = K := by rw [IntKind.wrap_i64]; omega
          have j2 : decide (J < 0) = false := by simp; omega
          have j3 : decide (J < (n : Int)) = true := by simp; omega
          have j4 : 0 ≤ J := by omega
          have j5 : J < (n : Int) := by omega
          have k2 : decide (K < 0) = false := by simp; omega
          have k3 : decide (K < (n : Int)) = true := by simp; omega
          have k4 : 0 ≤ K := by omega
          have k5 : K < (n : Int) := by omega
          have hjl : J.toNat < l'.length := by omega
          have hkl : K.toNat < l'.length := by omega
          have hlt := HQ.out.1.lt
          have hfr := HQ.out.1.free
          obtain ⟨x, hx⟩ : ∃ x, l'[J.toNat] = x := ⟨_, rfl⟩
          obtain ⟨y, hy⟩ : ∃ y, l'[K.toNat] = y := ⟨_, rfl⟩
          obtain ⟨c0, c1, c2, c3, c4, c5, c6, c7, c8⟩ := nine (HQ.out.1.cells J.toNat x (by rw [← hx]; exact List.getElem?_eq_getElem hjl))
          obtain ⟨d0, d1, d2, d3, d4, d5, d6, d7, d8⟩ := nine (HQ.out.1.cells K.toNat y (by rw [← hy]; exact List.getElem?_eq_getElem hkl))
          have HX := hid hx
          have HY := hid hy
          have HJ := hid (And.intro hJ hK)
          have HL := hid (And.intro hlen (And.intro hJt hKt))
          clear hx hy hJ hK hlen hJt hKt
          by_cases hxy : x.line < y.line
          · have hcmp : decide (Lib.compareInt x.line y.line < 0) = true := by rw [cmp_neg]; simp [hxy]
            go_wp2_with fail
            refine qA fun hSt => ?_
            refine qS [0, 1, 2, 3, 4, 5, 6, 7, 8, 9, 10, 11, 12, 13] ?_
            iterate 14 (refine qT ?_; simp only [Act.put, qY])
            refine TakeSeq.done ?_
            refine qH 14 fun K hK => ?_
            go_simp
            go_at_call 206; refine (cmpHi_any x y _).mono ?_; rintro e w1 ⟨rfl, hb⟩; ((obtain ⟨hc1, hf1, hs1⟩ := qR hb); (try have := qN0 wr w1))
            go_wp2_with fail
            refine hK.out _ _ (SteadyAll.of qL) (fun hHeld => ?_)
            clear hK K
            refine qS [15, 16] ?_
            iterate 2 (refine qT ?_; simp only [Act.put, qY])
            refine TakeSeq.done ?_
            refine qD ?_ _
            go_wp2_with fail
            have n00 : (J.toNat * 9 = K.toNat * 9) = False := eq_false (by have := HL.out; omega)
            have n01 : ∀ b, b < 9 → (J.toNat * 9 = K.toNat * 9 + b) = False := fun b hb => eq_false (by have := HL.out; omega)
            have n10 : ∀ a, a < 9 → (J.toNat * 9 + a = K.toNat * 9) = False := fun b hb => eq_false (by have := HL.out; omega)
            have n11 : ∀ a b, a < 9 → b < 9 → (J.toNat * 9 + a = K.toNat * 9 + b) = False := fun a b ha hb => eq_false (by have := HL.out; omega)
            go_region
            go_wp2_with fail
            have P1 := (HQ.out.1.drew.below hb).swap hjl hkl
            rw [HX.out, HY.out, swap_world] at P1
            have ho := HQ.out.2.2.2
            have hx1 : Srt.ln l' J.toNat = x.line := by rw [Srt.ln_at hjl, HX.out]
            have hy1 : Srt.ln l' K.toNat = y.line := by rw [Srt.ln_at hkl, HY.out]
            obtain ⟨e1, e2, e3⟩ := HL.out
            rw [e2] at hx1
            rw [e3] at hy1
            refine ⟨⟨q - 1, Srt.sw l' q (q - 1), by rw [show K = ((q - 1 : Nat) : Int) by have := HJ.out; omega], by omega, by omega, hid ⟨?_, ?_, ?_, ?_⟩⟩, by have := HJ.out; simp [intOf]; omega⟩
            · rw [e2, e3] at P1 ⊢
              first | with_reducible exact P1 | with_reducible exact P1.drew
            · exact HQ.out.2.1.trans (Srt.sw_part (by omega) (by omega) (by omega) (by omega) (by omega) (by omega))
            · exact Srt.ins_step HQ.out.2.2.1 hq hqk (by omega) (by rw [hx1, hy1]; exact hxy)
            · exact qV
          · have hcmp : decide (Lib.compareInt x.line y.line < 0) = false := by rw [cmp_neg]; simp [hxy]
            go_wp2_with fail
            refine qA fun hSt => ?_
            refine qS [0, 1, 2, 3, 4, 5, 6, 7, 8, 9, 10, 11, 12, 13] ?_
            iterate 14 (refine qT ?_; simp only [Act.put, qY])
            refine TakeSeq.done ?_
            refine qH 14 fun K hK => ?_
            go_simp
            go_at_call 206; refine (cmpHi_any x y _).mono ?_; rintro e w1 ⟨rfl, hb⟩; ((obtain ⟨hc1, hf1, hs1⟩ := qR hb); (try have := qN0 wr w1))
            go_wp2_with fail
            refine hK.out _ _ (SteadyAll.of qL) (fun hHeld => ?_)
            clear hK K
            refine qS [15, 16] ?_
            iterate 2 (refine qT ?_; simp only [Act.put, qY])
            refine TakeSeq.done ?_
            refine qD ?_ _
            go_wp2_with fail
            have ho := HQ.out.2.2.2
            have hx1 : Srt.ln l' J.toNat = x.line := by rw [Srt.ln_at hjl, HX.out]
            have hy1 : Srt.ln l' K.toNat = y.line := by rw [Srt.ln_at hkl, HY.out]
            obtain ⟨e1, e2, e3⟩ := HL.out
            rw [e2] at hx1
            rw [e3] at hy1
            exact ⟨⟨k + 1, l', by simp, by omega, hid ⟨HQ.out.1.drew.below hb, HQ.out.2.1, Srt.ins_done HQ.out.2.2.1 haq (.inr (by rw [hx1, hy1]; omega)), qV⟩⟩, by simp [intOf]; omega⟩
        · have j1 : decide ((a : Int) < J) = false := by simp; omega
          go_wp2_with fail
          refine qA fun hSt => ?_
          refine qS [0, 1, 2, 3, 4, 5, 6, 7, 8, 9, 10, 11, 12, 13, 14, 15, 16] ?_
          iterate 17 (refine qT ?_; simp only [Act.put, qY])
          refine TakeSeq.done ?_
          refine qD ?_ _
          go_wp2_with fail
          have ho := HQ.out.2.2.2
          exact ⟨⟨k + 1, l', by simp, by omega, hid ⟨HQ.out.1.drew, HQ.out.2.1, Srt.ins_done HQ.out.2.2.1 haq (.inl (by omega)), qV⟩⟩, by simp [intOf]; omega⟩
    · have b1 : decide ((k : Int) < b) = false := by simp; omega
      go_wp2_with fail
      exact bodyPost_end (results_none rfl _ _ _) rfl ⟨rfl, ⟨l, HR.out.1, HR.out.2.1, HR.out.2.2.1.less (by omega)⟩, HR.out.2.2.2⟩
theorem three_sorted (l' : List Bt.Page) (hp : l'.Perm [bktPage, dirPage, rootPage2]) (ha : Srt.Asc 0 3 l') : l' = [rootPage2, bktPage, dirPage] := by
  have hlen : l'.length = 3 := by rw [hp.length_eq]; rfl
  match l', hlen with
  | [x, y, z], _ =>
    have h01 := ha 0 1 (by omega) (by omega) (by omega)
    have h12 := ha 1 2 (by omega) (by omega) (by omega)
    simp [Srt.ln] at h01 h12
    have mx : x ∈ [bktPage, dirPage, rootPage2] := hp.subset (by simp)
    have my : y ∈ [bktPage, dirPage, rootPage2] := hp.subset (by simp)
    have mz : z ∈ [bktPage, dirPage, rootPage2] := hp.subset (by simp)
    have hnd : [x, y, z].Nodup := hp.nodup_iff.2 (by decide)
    simp only [List.mem_cons, List.not_mem_nil, or_false] at mx my mz
    rcases mx with rfl | rfl | rfl <;> rcases my with rfl | rfl | rfl <;> rcases mz with rfl | rfl | rfl <;> first | rfl | (exfalso; revert h01 h12 hnd; decide)
theorem hiSort3 (g cap : Nat) (w : World) (h : PRow w g cap [bktPage, dirPage, rootPage2]) : Calls Tryz.prog 147 #[.slice (some ⟨g, 0, none⟩) 3 cap, cmpHi] w fun e w' => e = .returned (.tuple #[]) ∧ PRow w' g cap [rootPage2, bktPage, dirPage] ∧ Over g w w' := by
  have HP : Hid (Calls Tryz.prog 195 #[.slice (some ⟨g, 0, none⟩) 3 cap, .int .i64 0, .int .i64 3, .int .i64 (Lib.bitLen 3), cmpHi] w fun e w' => e = .returned (.tuple #[]) ∧ PRow w' g cap [rootPage2, bktPage, dirPage] ∧ Over g w w') := hid (by
    have HI := hid (hiIsort g cap [bktPage, dirPage, rootPage2] 0 3 3 rfl (by omega) (by omega) (by omega) w h)
    clear h
    unfold cmpHi SortPost at HI
    unfold cmpHi
    go_enter Tryz.func195, Tryz.ntmps195
    go_wp2_with fail
    refine wp_loop_rounds 1 ?_
    rw [rounds_succ]
    go_wp2_with fail
    go_at_call 241; refine HI.out.mono ?_; rintro e w1 ⟨rfl, ⟨l', hp', hpart, hasc⟩, ho⟩
    have e1 := three_sorted l' hpart.perm hasc
    rw [e1] at hp'
    have HX := hid (And.intro hp' ho)
    clear hp' hpart hasc ho e1
    go_wp2_with fail
    refine bodyPost_ret (results_none rfl _ _ _) rfl ⟨rfl, HX.out.1, HX.out.2⟩)
  clear h
  unfold cmpHi at HP ⊢
  go_enter Tryz.func147, Tryz.ntmps147
  go_wp2_with fail
  go_at_call 77; refine (Tryz.bits_Len 3 _ (by omega) (by omega)).mono ?_; rintro e w1 ⟨rfl, hw⟩; obtain rfl : w = w1 := hw.symm; clear hw
  go_wp2_with fail
  go_at_call 195; refine HP.out.mono ?_; rintro e w1 ⟨rfl, hp1, ho1⟩
  have HX := hid (And.intro hp1 ho1)
  clear hp1 ho1
  go_wp2_with fail
  refine bodyPost_end (results_none rfl _ _ _) rfl ⟨rfl, HX.out.1, HX.out.2⟩
theorem hiFresh_limit (r g : Nat) (key tl tg : Int) (vk : Value) (w : World) (B : Blk w r 337 (hrCells 2 key tl tg (.slice none 0 0) vk (.slice none 0 0) 0 false (.slice none 0 0) 0 96 256)) :
    Calls Tryz.prog 263 #[.pointer (some ⟨r, 0, none⟩), .slice (some ⟨g, 0, none⟩) 2 2] w fun e w' => e = .returned (.tuple #[.slice none 0 0, .bool false]) ∧ Blk w' r 337 (hrCells 2 key tl tg (.slice none 0 0) vk (.slice none 0 0) 18 false (.slice none 0 0) 2 96 256) ∧ Over r w w' := by
  have HF := hid (fun W h => hiFail r 2 key tl tg (.slice none 0 0) vk (.slice none 0 0) 0 false (.slice none 0 0) 2 96 256 18 none 0 0 W h)
  have kc := B.cell
  have fc := B.free
  have lc := B.lt
  have HB := hid B
  clear B
  unfold hrCells at kc
  go_enter Tryz.func263, Tryz.ntmps263
  go_wp2_with fail
  have B1 := Blk.cast (cs' := hrCells 2 key tl tg (.slice none 0 0) vk (.slice none 0 0) 0 false (.slice none 0 0) 2 96 256) (HB.out.put 18 (.int .i64 2)) (by kernel_rfl)
  go_at_call 253; refine (HF.out _ B1).mono ?_; rintro e w1 ⟨rfl, B2, ho⟩
  have ho2 : Over r w w1 := ((Over.refl r w).put 18 _).trans ho
  go_wp2_with fail
  refine bodyPost_ret (results_tmp2 rfl _ _ _) rfl ⟨rfl, B2, ho2⟩
theorem hiInsert_limit (r : Nat) (key tl tg : Int) (vk : Value) (w : World) (B : Blk w r 337 (hrCells 2 key tl tg (.slice none 0 0) vk (.slice none 0 0) 0 false (.slice none 0 0) 0 96 256)) (hn : HNone w) :
    Calls Tryz.prog 202 #[.pointer (some ⟨r, 0, none⟩)] w fun e w' => e = .returned (.tuple #[]) ∧ Blk w' r 337 (hrCells 2 key tl tg (.slice none 0 0) vk (.slice none 0 0) 18 false (.slice none 0 0) 2 96 256) ∧ Over r w w' := by
  have HFR := hid (fun g W h => hiFresh_limit r g key tl tg vk W h)
  have HLK : Hid (∀ W, Calls Tryz.prog 62 #[.agg zRootP.cells] W fun e w' => e = .returned (.bool false) ∧ Below W.heap.size W w') := hid (fun W => Locked_any zRootP ⟨by decide, by decide, by decide, by decide, by decide, by decide, by decide, by decide⟩ W)
  unfold zRootP Bt.Page.cells at HLK
  have HI : Hid (∀ W, Blk W r 337 (hrCells 2 key tl tg (.slice none 0 0) vk (.slice none 0 0) 0 false (.slice none 0 0) 0 96 256) → Calls Tryz.prog 259 #[.pointer (some ⟨r, 0, none⟩)] W fun e w' => e = .returned (.tuple #[]) ∧ Blk w' r 337 (hrCells 2 key tl tg (.slice none 0 0) vk (.slice none 0 0) 18 false (.slice none 0 0) 2 96 256) ∧ Over r W w') := hid (fun W B => by
    clear hn
    have kc := B.cell
    have lc := B.lt
    have HB := hid B
    clear B
    unfold hrCells at kc
    go_enter Tryz.func259, Tryz.ntmps259
    go_wp2_with fail
    go_at_call 62; refine (HLK.out _).mono ?_; rintro e w1 ⟨rfl, hb1⟩; ((obtain ⟨hc1, hf1, hs1⟩ := qR hb1); (try have := qN0 W w1))
    go_wp2_with fail
    go_at_call 263; refine (HFR.out _ _ ((HB.out.kept hb1).alloc _)).mono ?_; rintro e w2 ⟨rfl, B2, ho⟩
    have ho2 : Over r W w2 := ((Over.of_below hb1).trans (Over.of_below (below_alloc (Below.refl _ _) _))).trans ho
    have H2 := hid (And.intro B2 ho2)
    clear B2 ho2 ho
    go_wp2_with fail
    refine bodyPost_ret (results_none rfl _ _ _) rfl ⟨rfl, H2.out.1, H2.out.2⟩)
  have HA := hid (HI.out w.drew B.drew)
  obtain ⟨c0, c1, lt⟩ := hn
  have eq := eql_ptr
  have e1 : peq 0 0 0 0 = true := rfl
  have kc := B.cell
  have lc := B.lt
  clear B HI
  unfold hrCells at kc
  go_enter Tryz.func202, Tryz.ntmps202
  go_wp2_with fail
  go_region
  go_wp2_with fail
  go_at_call 259; refine HA.out.mono ?_; rintro e w1 ⟨rfl, B1, ho⟩
  have ho' : Over r w w1 := (Over.of_below (Below.refl _ _).drew).trans ho
  go_wp2_with fail
  refine bodyPost_ret (results_none rfl _ _ _) rfl ⟨rfl, B1, ho'⟩
end Go.Proofs.YtcoiehgcfjfhaaaGreatDoor
