/- query.words: the words of a part of a valid statement. -/
import Derived.Test.YtcoiehgcfjfhaaaGreatDoorQ11
import Derived.Test.YtcoiehgcfjfhaaaGreatDoorQ01
import Derived.Deep.CutBlock
import Derived.Deep.DeepCutAuto
import Derived.Deep.CutRange
import Derived.Test.YtcoiehgcfjfhaaaGreatDoorQ10
set_option linter.all false
set_option maxRecDepth 20000
set_option maxHeartbeats 8000000
open Go.Lib (hid)
namespace Go.Proofs.YtcoiehgcfjfhaaaGreatDoor
open Go.RowKit
def i64ok (x : Int) : Prop := -9223372036854775808 ≤ x ∧ x ≤ 9223372036854775807
structure Sq.St.Fits (s : Sq.St) : Prop where
  key : 0 ≤ s.key ∧ s.key ≤ 4294967295
  last : 0 ≤ s.last ∧ s.last ≤ 4294967295
  c0 : i64ok s.c0
  c1 : i64ok s.c1
  c2 : i64ok s.c2
  value : i64ok s.value
  wval : i64ok s.wval
  limit : i64ok s.limit
  col : 0 ≤ s.col ∧ s.col ≤ 2
  wcol : 0 ≤ s.wcol ∧ s.wcol ≤ 2
  wop : 0 ≤ s.wop ∧ s.wop ≤ 6
def Words (w : World) (e : Ending) (w' : World) : Prop :=
  ∃ (v : Value) (xs : List ByteArray), e = .returned v ∧ w'.ownsRow w.heap.size 9 1 v xs.length (strCells xs) ∧ xs.length ≤ 4 ∧ (∀ x ∈ xs, x.data.toList.length ≤ 21) ∧ Below w.heap.size w w'
theorem strs_own {w : World} {B g : Nat} (xs : List ByteArray) (n : Nat) (hn : xs.length = n) (hg : B ≤ g) (hsm : n ≤ 100) (hb : Blk w g 9 (strCells xs).toArray) : w.ownsRow B 9 1 (.slice (some ⟨g, 0, none⟩) n n) n (strCells xs) :=
  ⟨by simp [strCells, hn], .inr ⟨g, n, _, rfl, hg, hb, Nat.le_refl _, by unfold maxLen; omega, by simp [strCells, hn], by simp only [strCells]; exact List.take_of_length_le (by simp [hn])⟩⟩
theorem strs_made {w : World} {B : Nat} (xs : List ByteArray) (n : Nat) (hn : xs.length = n) (hB : B ≤ w.heap.size) (hsm : n ≤ 100) : (w.alloc (.cells (strCells xs).toArray 9)).ownsRow B 9 1 (.slice (some ⟨w.heap.size, 0, none⟩) n n) n (strCells xs) :=
  strs_own xs n hn hB hsm (Blk.made _ _ _)
structure WordsCut (s : Sq.St) (w : World) (g : Nat) (xs : List ByteArray) (wx : World) : Prop where
  box : Blk wx w.heap.size 54 s.arr
  row : Blk wx g 9 (strCells xs).toArray
  lt : w.heap.size < g
  short : ∀ x ∈ xs, x.data.toList.length ≤ 21
  below : Below w.heap.size w wx
theorem index3_0 (x y z : Value) (w : World) : (Instr.index 50 (.agg #[x, y, z]) (.int .i64 0)).run Tryz.prog w = .ok x w := by kernel_rfl
theorem index3_1 (x y z : Value) (w : World) : (Instr.index 50 (.agg #[x, y, z]) (.int .i64 1)).run Tryz.prog w = .ok y w := by kernel_rfl
theorem index3_2 (x y z : Value) (w : World) : (Instr.index 50 (.agg #[x, y, z]) (.int .i64 2)).run Tryz.prog w = .ok z w := by kernel_rfl
theorem words_start (s : Sq.St) (hs : s.Fits) (p : Nat) (hp8 : p < 8) (w : World) : Calls Tryz.prog 30 #[.agg s.arr, .int .i64 p] w (Words w) := by
  obtain ⟨i0, hi, hz0, hz1, hz2⟩ := info_parts infoStr
  have HC := hid (fun W => columns_ok W)
  have HO := hid (fun W => comparisons_ok W)
  have HD := hid (fun v h1 h2 W => decimal_ok v h1 h2 W)
  have HDW := hid (fun W => decimal_ok s.wval hs.wval.1 hs.wval.2 W)
  have a1 : decide (s.wcol < 0) = false := by have := hs.wcol; simp; omega
  have a2 : 0 ≤ s.wcol := hs.wcol.1
  have a3 : s.wcol < 3 := by have := hs.wcol; omega
  have o1 : decide (s.wop < 0) = false := by have := hs.wop; simp; omega
  have o2 : 0 ≤ s.wop := hs.wop.1
  have o3 : s.wop < 7 := by have := hs.wop; omega
  have HS := hid hs
  clear hs
  unfold Words
  unfold Sq.St.arr
  go_enter Tryz.func30, Tryz.ntmps30
  go_upto_region 1 with (fail)
  go_cut [5] from 9 to 25 (fun t wx => ∃ (g : Nat) (s1 s2 s3 : ByteArray), t = .slice (some ⟨g, 0, none⟩) 3 3 ∧ Hid (WordsCut s w g [s1, s2, s3] wx))
  case first =>
    go_upto_region 1 with (fail)
    refine qA fun hSt => ?_
    refine qS [1, 2, 3, 7, 8, 9, 12, 13, 14] ?_
    iterate 9 (refine qT ?_; simp only [Act.put, qY])
    refine TakeSeq.done ?_
    refine qH 0 fun K hK => ?_
    go_simp
    go_at_call 53; refine (HC.out _).mono ?_; rintro e w1 ⟨b1, rfl, hl1, hr1, hb1⟩; ((obtain ⟨hc1, hf1, hs1⟩ := qR hb1); (try have := qN0 w w1))
    go_wp2_with fail
    refine hK.out _ _ (SteadyAll.of qL) (fun hHeld => ?_)
    clear hK K
    obtain ⟨s1, hc1s, hs1l⟩ := hr1 s.wcol.toNat (by omega)
    refine wpAnyH_stronger (S1 := SteadyAll w1) (fun wq hq => SteadyAll.trans (by assumption) (by have hsz := hb1.size; (try simp only [size_alloc, size_setCell, size_drew, size_drewN] at hsz ⊢); omega) hq) _ _ _ _ ?_
    have hSr_w1 : SteadyAll w1 w1 := SteadyAll.of (Below.refl _ _)
    refine qS [4, 5] ?_
    iterate 2 (refine qT ?_; simp only [Act.put, qY])
    refine TakeSeq.done ?_
    refine qH 6 fun K hK => ?_
    go_simp
    go_at_call 54; refine (HO.out _).mono ?_; rintro e w2 ⟨b2, rfl, hl2, hr2, hb2⟩; ((obtain ⟨hc2, hf2, hs2⟩ := qR hb2); (try have := qN0 w1 w2))
    go_wp2_with fail
    refine hK.out _ _ (SteadyAll.of qL) (fun hHeld => ?_)
    clear hK K
    obtain ⟨s2, hc2s, hs2l⟩ := hr2 s.wop.toNat (by omega)
    refine wpAnyH_stronger (S1 := SteadyAll w2) (fun wq hq => SteadyAll.trans (by assumption) (by have hsz := hb2.size; (try simp only [size_alloc, size_setCell, size_drew, size_drewN] at hsz ⊢); omega) hq) _ _ _ _ ?_
    have hSr_w2 : SteadyAll w2 w2 := SteadyAll.of (Below.refl _ _)
    refine qS [10, 11] ?_
    iterate 2 (refine qT ?_; simp only [Act.put, qY])
    refine TakeSeq.done ?_
    refine qH 15 fun K hK => ?_
    go_simp
    go_at_call 55; refine (HDW.out _).mono ?_; rintro e w3 ⟨s3, rfl, hs3l, hb3⟩
    go_wp2_with fail
    refine hK.out _ _ (SteadyAll.of qL) (fun hHeld => ?_)
    clear hK K
    refine qH 16 fun K hK => ?_
    go_simp
    refine hK.out _ _ (SteadyAll.of qL) (fun hHeld => ?_)
    clear hK K
    refine qS [17] ?_
    refine qT ?_; simp only [Act.put, qY]
    refine TakeSeq.done ?_
    refine qD ?_ _
    go_wp2_with fail
    go_meet
    refine ⟨_, s1, s2, s3, rfl, hid ⟨?_, Blk.made _ _ _, ?_, ?_, ?_⟩⟩
    · exact (((((Blk.made w _ _).drew).kept hb1).kept hb2).kept hb3).alloc _
    · have := hb1.size; have := hb2.size; have := hb3.size; simp only [size_alloc, size_drew] at *; omega
    · intro x hx
      simp only [List.mem_cons, List.not_mem_nil, or_false] at hx
      rcases hx with rfl | rfl | rfl <;> omega
    · exact qL
  case rest =>
    obtain ⟨g, s1, s2, s3, rfl, HW⟩ := hcut
    have BX := HW.out.box
    have kx := BX.cell
    have lx := BX.lt
    unfold Sq.St.arr at kx
    clear BX a1 a2 a3 o1 o2 o3
    rcases (by omega : p = 0 ∨ p = 1 ∨ p = 2 ∨ p = 3 ∨ p = 4 ∨ p = 5 ∨ p = 6 ∨ p = 7) with rfl | rfl | rfl | rfl | rfl | rfl | rfl | rfl
    · have wk : IntKind.i64.wrap s.key = s.key := by rw [IntKind.wrap_i64]; have := HS.out.key; omega
      go_wp2_with fail
      go_at_call 55; refine (HD.out s.key (by have := HS.out.key; omega) (by have := HS.out.key; omega) _).mono ?_; rintro e w2 ⟨x, rfl, hx, hb2⟩
      have hB2 : w.heap.size ≤ w2.heap.size := Nat.le_trans HW.out.below.size hb2.size
      have HF := hid (And.intro hx (And.intro (below_step HW.out.below hb2) hB2))
      clear hb2 hx
      go_wp2_with fail
      exact bodyPost_ret (results_tmp rfl _ _ _) rfl ⟨.slice (some ⟨w2.heap.size, 0, none⟩) 1 1, [x], rfl, strs_made [x] 1 rfl HF.out.2.2 (by omega), by simp, (by intro y hy; simp only [List.mem_cons, List.not_mem_nil, or_false] at hy; subst hy; exact HF.out.1), below_alloc HF.out.2.1 _⟩
    · have wk : IntKind.i64.wrap s.last = s.last := by rw [IntKind.wrap_i64]; have := HS.out.last; omega
      go_wp2_with fail
      go_at_call 55; refine (HD.out s.last (by have := HS.out.last; omega) (by have := HS.out.last; omega) _).mono ?_; rintro e w2 ⟨x, rfl, hx, hb2⟩
      have hB2 : w.heap.size ≤ w2.heap.size := Nat.le_trans HW.out.below.size hb2.size
      have HF := hid (And.intro hx (And.intro (below_step HW.out.below hb2) hB2))
      clear hb2 hx
      go_wp2_with fail
      exact bodyPost_ret (results_tmp rfl _ _ _) rfl ⟨.slice (some ⟨w2.heap.size, 0, none⟩) 1 1, [x], rfl, strs_made [x] 1 rfl HF.out.2.2 (by omega), by simp, (by intro y hy; simp only [List.mem_cons, List.not_mem_nil, or_false] at hy; subst hy; exact HF.out.1), below_alloc HF.out.2.1 _⟩
    · have ix0 : ∀ W, (Instr.index 50 (.agg #[.int .i64 s.c0, .int .i64 s.c1, .int .i64 s.c2]) (.int .i64 0)).run Tryz.prog W = .ok (.int .i64 s.c0) W := fun W => index3_0 _ _ _ W
      have ix1 : ∀ W, (Instr.index 50 (.agg #[.int .i64 s.c0, .int .i64 s.c1, .int .i64 s.c2]) (.int .i64 1)).run Tryz.prog W = .ok (.int .i64 s.c1) W := fun W => index3_1 _ _ _ W
      have ix2 : ∀ W, (Instr.index 50 (.agg #[.int .i64 s.c0, .int .i64 s.c1, .int .i64 s.c2]) (.int .i64 2)).run Tryz.prog W = .ok (.int .i64 s.c2) W := fun W => index3_2 _ _ _ W
      go_wp2_with fail
      refine wp_loop_rounds 4 ?_
      rw [rounds_succ]
      go_wp2_with fail
      go_at_call 55; refine (HD.out s.c0 (by exact HS.out.c0.1) (by exact HS.out.c0.2) _).mono ?_; rintro e u0 ⟨x0, rfl, hx0, hb0⟩
      ((obtain ⟨hc0, hf0, hs0⟩ := qR hb0); (try have := qN0 wc u0))
      have hbb0 : Below w.heap.size w u0 := by have h1 := HW.out.below; exact qL
      have hsz0 : w.heap.size ≤ u0.heap.size := hbb0.size
      go_wp2_with (at_builtin; refine halt ?_)
      refine unhalt ?_
      refine wpList_append_mine rfl (.tmp 48) (.tmp 51) 93 rfl w.heap.size 9 i0 _ 1 16 Tryz.underlying93 hi hz0 hz1 hz2 rfl (by decide) (.slice none 0 0) 0 (strCells []) rfl (World.ownsRow_nil _ _ _ _) ⟨u0.heap.size, 0, none⟩ 1 1
        [.string x0] rfl rfl (one_news (u := .string x0) ((Blk.made u0 _ _).cell 0)) (by intro u hu; simp only [List.mem_cons, List.not_mem_nil, or_false] at hu; subst hu; rfl) (by omega) (by unfold maxLen; omega) (by omega) (by simp only [size_alloc]; omega) ?_
      intro g0 cap0 v0 hown hg
      have hbv : Below w.heap.size w v0 := below_grown (w := w) (below_alloc hbb0 _) hg (fun j hj => by cases hj)
      have H0 : Hid (v0.ownsRow w.heap.size 9 1 (.slice (some ⟨g0, 0, none⟩) 1 cap0) 1 (strCells [x0]) ∧ Below w.heap.size w v0 ∧ x0.data.toList.length ≤ 21) := hid ⟨hown, hbv, hx0⟩
      clear hown hg hbv hx0 hbb0
      go_wp2_with fail
      rw [rounds_succ]
      go_wp2_with fail
      go_at_call 55; refine (HD.out s.c1 (by exact HS.out.c1.1) (by exact HS.out.c1.2) _).mono ?_; rintro e u1 ⟨x1, rfl, hx1, hb1⟩
      ((obtain ⟨hc1, hf1, hs1⟩ := qR hb1); (try have := qN0 wc u1))
      have hbb1 : Below w.heap.size w u1 := by have h1 := H0.out.2.1; exact qL
      have hsz1 : w.heap.size ≤ u1.heap.size := hbb1.size
      go_wp2_with (at_builtin; refine halt ?_)
      refine unhalt ?_
      refine wpList_append_mine rfl (.tmp 48) (.tmp 51) 93 rfl w.heap.size 9 i0 _ 1 16 Tryz.underlying93 hi hz0 hz1 hz2 rfl (by decide) (.slice (some ⟨g0, 0, none⟩) 1 cap0) 1 (strCells [x0]) rfl (own_below (own_below H0.out.1 hb1) (below_alloc (Below.refl _ _) _)) ⟨u1.heap.size, 0, none⟩ 1 1
        [.string x1] rfl rfl (one_news (u := .string x1) ((Blk.made u1 _ _).cell 0)) (by intro u hu; simp only [List.mem_cons, List.not_mem_nil, or_false] at hu; subst hu; rfl) (by omega) (by unfold maxLen; omega) (by omega) (by simp only [size_alloc]; omega) ?_
      intro g1 cap1 v1 hown hg
      have hbv : Below w.heap.size w v1 := below_grown (w := w) (below_alloc hbb1 _) hg (fun j hj => by have h1 := own_row_ge H0.out.1 j hj; omega)
      have H1 : Hid (v1.ownsRow w.heap.size 9 1 (.slice (some ⟨g1, 0, none⟩) 2 cap1) 2 (strCells [x0, x1]) ∧ Below w.heap.size w v1 ∧ x1.data.toList.length ≤ 21) := hid ⟨hown, hbv, hx1⟩
      clear hown hg hbv hx1 hbb1
      go_wp2_with fail
      rw [rounds_succ]
      go_wp2_with fail
      go_at_call 55; refine (HD.out s.c2 (by exact HS.out.c2.1) (by exact HS.out.c2.2) _).mono ?_; rintro e u2 ⟨x2, rfl, hx2, hb2⟩
      ((obtain ⟨hc2, hf2, hs2⟩ := qR hb2); (try have := qN0 wc u2))
      have hbb2 : Below w.heap.size w u2 := by have h1 := H1.out.2.1; exact qL
      have hsz2 : w.heap.size ≤ u2.heap.size := hbb2.size
      go_wp2_with (at_builtin; refine halt ?_)
      refine unhalt ?_
      refine wpList_append_mine rfl (.tmp 48) (.tmp 51) 93 rfl w.heap.size 9 i0 _ 1 16 Tryz.underlying93 hi hz0 hz1 hz2 rfl (by decide) (.slice (some ⟨g1, 0, none⟩) 2 cap1) 2 (strCells [x0, x1]) rfl (own_below (own_below H1.out.1 hb2) (below_alloc (Below.refl _ _) _)) ⟨u2.heap.size, 0, none⟩ 1 1
        [.string x2] rfl rfl (one_news (u := .string x2) ((Blk.made u2 _ _).cell 0)) (by intro u hu; simp only [List.mem_cons, List.not_mem_nil, or_false] at hu; subst hu; rfl) (by omega) (by unfold maxLen; omega) (by omega) (by simp only [size_alloc]; omega) ?_
      intro g2 cap2 v2 hown hg
      have hbv : Below w.heap.size w v2 := below_grown (w := w) (below_alloc hbb2 _) hg (fun j hj => by have h1 := own_row_ge H1.out.1 j hj; omega)
      have H2 : Hid (v2.ownsRow w.heap.size 9 1 (.slice (some ⟨g2, 0, none⟩) 3 cap2) 3 (strCells [x0, x1, x2]) ∧ Below w.heap.size w v2 ∧ x2.data.toList.length ≤ 21) := hid ⟨hown, hbv, hx2⟩
      clear hown hg hbv hx2 hbb2
      go_wp2_with fail
      rw [rounds_succ]
      go_wp2_with fail
      exact bodyPost_ret (results_tmp rfl _ _ _) rfl ⟨.slice (some ⟨g2, 0, none⟩) 3 cap2, [x0, x1, x2], rfl, H2.out.1, by simp, (by intro y hy; simp only [List.mem_cons, List.not_mem_nil, or_false] at hy; rcases hy with rfl | rfl | rfl <;> first | exact H0.out.2.2 | exact H1.out.2.2 | exact H2.out.2.2), H2.out.2.1⟩
    · have a1 : decide (s.col < 0) = false := by have := HS.out.col; simp; omega
      have a2 : 0 ≤ s.col := HS.out.col.1
      have a3 : s.col < 3 := by have := HS.out.col; omega
      go_upto_region 16 with (fail)
      refine qA fun hSt => ?_
      refine qS [1, 2] ?_
      iterate 2 (refine qT ?_; simp only [Act.put, qY])
      refine TakeSeq.done ?_
      refine qH 0 fun K hK => ?_
      go_simp
      go_at_call 53; refine (HC.out _).mono ?_; rintro e w1 ⟨b1, rfl, hl1, hr1, hb1⟩
      go_wp2_with fail
      refine hK.out _ _ (SteadyAll.of qL) (fun hHeld => ?_)
      clear hK K
      obtain ⟨s4, hc4, hs4⟩ := hr1 s.col.toNat (by omega)
      refine wpAnyH_stronger (S1 := SteadyAll w1) (fun wq hq => SteadyAll.trans (by assumption) (by have hsz := hb1.size; (try simp only [size_alloc, size_setCell, size_drew, size_drewN] at hsz ⊢); omega) hq) _ _ _ _ ?_
      have hSr_w1 : SteadyAll w1 w1 := SteadyAll.of (Below.refl _ _)
      refine qS [3, 4] ?_
      iterate 2 (refine qT ?_; simp only [Act.put, qY])
      refine TakeSeq.done ?_
      have hbw : Below w.heap.size w w1 := by have := HW.out.below; exact qL
      have HF := hid (And.intro hs4 hbw)
      refine qH 5 fun K hK => ?_
      go_simp
      refine hK.out _ _ (SteadyAll.of qL) (fun hHeld => ?_)
      clear hK K
      refine qS [6] ?_
      refine qT ?_; simp only [Act.put, qY]
      refine TakeSeq.done ?_
      refine qD ?_ _
      go_wp2_with fail
      exact bodyPost_ret (results_tmp rfl _ _ _) rfl ⟨.slice (some ⟨w1.heap.size, 0, none⟩) 1 1, [s4], rfl, strs_made [s4] 1 rfl HF.out.2.size (by omega), by simp, (by intro y hy; simp only [List.mem_cons, List.not_mem_nil, or_false] at hy; subst hy; have := HF.out.1; omega), below_alloc HF.out.2 _⟩
    · go_wp2_with fail
      go_at_call 55; refine (HD.out s.value (by exact HS.out.value.1) (by exact HS.out.value.2) _).mono ?_; rintro e w2 ⟨x, rfl, hx, hb2⟩
      have hB2 : w.heap.size ≤ w2.heap.size := Nat.le_trans HW.out.below.size hb2.size
      have HF := hid (And.intro hx (And.intro (below_step HW.out.below hb2) hB2))
      clear hb2 hx
      go_wp2_with fail
      exact bodyPost_ret (results_tmp rfl _ _ _) rfl ⟨.slice (some ⟨w2.heap.size, 0, none⟩) 1 1, [x], rfl, strs_made [x] 1 rfl HF.out.2.2 (by omega), by simp, (by intro y hy; simp only [List.mem_cons, List.not_mem_nil, or_false] at hy; subst hy; exact HF.out.1), below_alloc HF.out.2.1 _⟩
    · go_wp2_with fail
      exact bodyPost_ret (results_tmp rfl _ _ _) rfl ⟨.slice (some ⟨g, 0, none⟩) 3 3, [s1, s2, s3], rfl, strs_own [s1, s2, s3] 3 rfl (Nat.le_of_lt HW.out.lt) (by omega) HW.out.row, by simp, HW.out.short, HW.out.below⟩
    · cases hw : (s.wop != 0)
      · go_wp2_with fail
        exact bodyPost_ret (results_tmp rfl _ _ _) rfl ⟨.slice none 0 0, [], rfl, World.ownsRow_nil _ _ _ _, by simp, by simp, HW.out.below⟩
      · go_wp2_with fail
        have hbx : Below wc.heap.size wc ((wc.alloc (.cells #[.string ⟨#[119, 104, 101, 114, 101]⟩] 9)).alloc (.cells #[.slice (some ⟨wc.heap.size, 0, none⟩) 1 1, .slice (some ⟨g, 0, none⟩) 3 3] 93)) := below_alloc (below_alloc (Below.refl _ _) _) _
        have hrow := HW.out.row
        have hgl := hrow.lt
        have hwl : w.heap.size ≤ wc.heap.size := HW.out.below.size
        go_at_call 56
        refine (concatStr [⟨#[119, 104, 101, 114, 101]⟩] [s1, s2, s3] wc.heap.size 1 g 3 (wc.heap.size + 1) 1 3 rfl rfl _ ⟨rfl, by simp; omega, ?hx⟩ ⟨rfl, by simp; omega, ?hy⟩ (by simp [go_sem]) (by simp [go_sem]) (by simp) (by omega) (by omega)).mono ?_
        case hx =>
          intro j u hu
          rw [((Blk.made wc 9 #[.string ⟨#[119, 104, 101, 114, 101]⟩]).alloc _).cell]
          simpa [strCells] using hu
        case hy =>
          intro j u hu
          rw [(hrow.kept hbx).cell]
          simpa using hu
        rintro e w2 ⟨v, rfl, hown, hb2⟩
        have HF : Hid (w2.ownsRow w.heap.size 9 1 v 4 (strCells [⟨#[119, 104, 101, 114, 101]⟩, s1, s2, s3]) ∧ Below w.heap.size w w2) := hid ⟨own_base hown (by simp; omega), by have h1 := HW.out.below; exact qL⟩
        have hsh := HW.out.short
        have HSH := hid hsh
        clear hown hb2 hrow hbx hsh
        go_wp2_with fail
        exact bodyPost_ret (results_tmp rfl _ _ _) rfl ⟨v, [⟨#[119, 104, 101, 114, 101]⟩, s1, s2, s3], rfl, HF.out.1, by simp, (by intro y hy; rcases List.mem_cons.1 hy with rfl | hy <;> first | decide | exact HSH.out y hy), HF.out.2⟩
    · cases hl : (s.limit != 0)
      · go_wp2_with fail
        exact bodyPost_ret (results_tmp rfl _ _ _) rfl ⟨.slice none 0 0, [], rfl, World.ownsRow_nil _ _ _ _, by simp, by simp, HW.out.below⟩
      · go_wp2_with fail
        go_at_call 55; refine (HD.out s.limit (by exact HS.out.limit.1) (by exact HS.out.limit.2) _).mono ?_; rintro e w2 ⟨x, rfl, hx, hb2⟩
        have hB2 : w.heap.size ≤ w2.heap.size := Nat.le_trans HW.out.below.size hb2.size
        have HF := hid (And.intro hx (And.intro (below_step HW.out.below hb2) hB2))
        clear hb2 hx
        go_wp2_with fail
        exact bodyPost_ret (results_tmp rfl _ _ _) rfl ⟨.slice (some ⟨w2.heap.size, 0, none⟩) 2 2, [⟨#[108, 105, 109, 105, 116]⟩, x], rfl, strs_made [⟨#[108, 105, 109, 105, 116]⟩, x] 2 rfl HF.out.2.2 (by omega), by simp, (by intro y hy; simp only [List.mem_cons, List.not_mem_nil, or_false] at hy; rcases hy with rfl | rfl <;> first | decide | exact HF.out.1), below_alloc HF.out.2.1 _⟩
structure Sq.St.Typed (s : Sq.St) : Prop where
  kind : i64ok s.kind
  key : 0 ≤ s.key ∧ s.key ≤ 4294967295
  last : 0 ≤ s.last ∧ s.last ≤ 4294967295
  c0 : i64ok s.c0
  c1 : i64ok s.c1
  c2 : i64ok s.c2
  col : i64ok s.col
  value : i64ok s.value
  wcol : i64ok s.wcol
  wop : i64ok s.wop
  wval : i64ok s.wval
  limit : i64ok s.limit
theorem Sq.St.Typed.fits {s : Sq.St} (h : s.Typed) (hv : s.valid = true) : s.Fits := by
  have hr := hv
  rw [Sq.valid_ref] at hr
  simp only [Sq.St.refValid, Bool.and_eq_true, decide_eq_true_eq] at hr
  obtain ⟨⟨⟨_, ⟨⟨⟨h1, h2⟩, h3, h4⟩, h5, h6⟩, _, _⟩, _⟩, _⟩ := hr
  exact ⟨h.key, h.last, h.c0, h.c1, h.c2, h.value, h.wval, h.limit, ⟨h1, h2⟩, ⟨h3, h4⟩, ⟨h5, h6⟩⟩
structure StmRow (w : World) (p : Option Addr) (l : List Sq.St) : Prop where
  typed : ∀ s ∈ l, s.Typed
  row : l = [] ∨ ∃ b o, p = some ⟨b, o, none⟩ ∧ b < w.heap.size ∧ ∀ (i : Nat) s, l[i]? = some s → ∀ (j : Nat) u, s.arr[j]? = some u → w.cell? ⟨b, o + i * 12 + j, none⟩ = some u
theorem StmRow.below {w w' : World} {p : Option Addr} {l : List Sq.St} (h : StmRow w p l) (hb : Below w.heap.size w w') : StmRow w' p l := by
  refine ⟨h.typed, ?_⟩
  rcases h.row with h1 | ⟨b, o, hp, hlt, hc⟩
  · exact .inl h1
  · exact .inr ⟨b, o, hp, Nat.lt_of_lt_of_le hlt hb.size, fun i s hi j u hu => (hb.cell (p := ⟨b, o + i * 12 + j, none⟩) hlt).trans (hc i s hi j u hu)⟩
theorem results_t2 {P : Program} {fn : Func} {a b : Tmp} (h : fn.results = #[.tmp a, .tmp b]) (tmps : Array Value) (w : World) :
    (results fn tmps).run P w = .ok (.tuple #[tmps.getD a undef, tmps.getD b undef]) w := by
  simp only [results, h]
  simp [Sem.run_bind, Result.andThen]
def Sq.good (l : List Sq.St) : Bool := decide (1 ≤ l.length) && decide (l.length ≤ 8) && l.all Sq.St.valid
def okCode (b : Bool) : Int := if b then 0 else 1
def FmtPost (l : List Sq.St) (w : World) (e : Ending) (w' : World) : Prop := (∃ s, e = .returned (.tuple #[.string s, .int .i64 (okCode (Sq.good l))])) ∧ Below w.heap.size w w'
theorem join_any (g cap n m : Nat) (xs : List ByteArray) (sep : ByteArray) (w : World) (hn : xs.length = n) (hc : ∀ (j : Nat) x, xs[j]? = some x → w.cell? ⟨g, j, none⟩ = some (.string x)) (hg : g < w.heap.size) (hN : n ≤ 140737488355328) (hcap : n ≤ cap)
    (hlen : (Lib.join (xs.map (·.data.toList)) sep.data.toList).length ≤ m) (hm : m ≤ 140737488355328) : Calls Tryz.prog 31 #[.slice (some ⟨g, 0, none⟩) n cap, .string sep] w (OneText m w) := by
  subst hn
  exact (Tryz.strings_Join g 0 cap xs sep w (fun j x h => by rw [Nat.zero_add]; exact hc j x h) hg hN hcap (Nat.le_trans hlen hm)).mono fun _ _ h => ⟨_, h.1, by simpa using hlen, h.2⟩
theorem join_len (sep : List UInt8) (k : Nat) : ∀ (xs : List (List UInt8)), (∀ x ∈ xs, x.length ≤ k) → (Lib.join xs sep).length ≤ xs.length * (k + sep.length)
  | [], _ => by simp [Lib.join]
  | [x], h => by
    have := h x (by simp)
    simp [Lib.join]
    omega
  | x :: y :: r, h => by
    have h1 := h x (by simp)
    have h2 := join_len sep k (y :: r) (fun z hz => h z (by simp [hz]))
    have e2 : Lib.join (x :: y :: r) sep = x ++ (sep ++ Lib.join (y :: r) sep) := by simp [Lib.join, List.intercalate, List.intersperse]
    rw [e2]
    simp only [List.length_append, List.length_cons] at h2 ⊢
    have e : (r.length + 1 + 1) * (k + sep.length) = (r.length + 1) * (k + sep.length) + (k + sep.length) := by rw [Nat.succ_mul]
    omega
theorem format_len (p : Option Addr) (c n : Nat) (l : List Sq.St) (hl : l.length = n) (hn : n < 1 ∨ 8 < n) (hb : n ≤ maxLen) (w : World) : Calls Tryz.prog 16 #[.slice p n c] w (FmtPost l w) := by
  have HG : Hid (okCode (Sq.good l) = 1) := hid (by
    have h : Sq.good l = false := by
      unfold Sq.good
      rcases hn with h | h
      · rw [decide_eq_false (by omega)]; rfl
      · rw [decide_eq_false (p := l.length ≤ 8) (by omega)]; simp
    rw [h]; rfl)
  obtain ⟨cc, hc⟩ : ∃ b, decide ((n : Int) < 1) = b := ⟨_, rfl⟩
  have hc2 : cc = false → decide (8 < (n : Int)) = true := fun h => by subst h; have := of_decide_eq_false hc; simp; omega
  clear hl hn
  cases cc
  · have hc2 := hc2 rfl
    go_enter Tryz.func16, Tryz.ntmps16
    go_wp2_with fail
    exact bodyPost_ret (results_t2 rfl _ _) rfl ⟨⟨_, by rw [HG.out]; rfl⟩, qL⟩
  · clear hc2
    go_enter Tryz.func16, Tryz.ntmps16
    go_wp2_with fail
    exact bodyPost_ret (results_t2 rfl _ _) rfl ⟨⟨_, by rw [HG.out]; rfl⟩, qL⟩
theorem SteadyAll.trans_but {w0 w1 wq : World} {r : Nat} (h0 : SteadyAll w0 w1) (hr : w0.heap.size ≤ r) (hs : w0.heap.size ≤ w1.heap.size) (h : SteadyBut r w1 wq) : SteadyAll w0 wq :=
  ⟨fun b o hb => (h.rule b o (Nat.lt_of_lt_of_le hb hs) (.inl (Nat.lt_of_lt_of_le hb hr))).trans (h0.rule b o hb)⟩
theorem word_len (k : Nat) : (Sq.word k).length ≤ 6 := by
  rcases k with _ | _ | _ | _ | _ | _ | _ | _ | _ | _ | k <;> simp [Sq.word]
structure FmtAt (l : List Sq.St) (w : World) (k : Nat) (xs : List ByteArray) (v : Value) (wr : World) : Prop where
  own : wr.ownsRow w.heap.size 9 1 v k (strCells xs)
  len : xs.length = k
  short : ∀ x ∈ xs, x.data.toList.length ≤ 500
  good : (l.take k).all Sq.St.valid = true
  below : Below w.heap.size w wr
structure FormCut (s : Sq.St) (w1 : World) (b6 g7 b2 m : Nat) (wx : World) : Prop where
  form : Blk wx g7 96 #[.string ⟨(Sq.word s.kind.toNat).toArray⟩, .slice (some ⟨b2, 0, none⟩) m m]
  box : Blk wx b6 54 s.arr
  row : ∀ (i p : Nat), (Sq.parts s.kind.toNat)[i]? = some p → wx.cell? ⟨b2, i, none⟩ = some (.int .i64 p)
  lt : b2 < wx.heap.size
  below : Below w1.heap.size w1 wx
structure InAt (wy : World) (j : Nat) (ys : List ByteArray) (v : Value) (wx : World) : Prop where
  own : wx.ownsRow wy.heap.size 9 1 v ys.length (strCells ys)
  one : 1 ≤ ys.length
  len : ys.length ≤ 1 + 4 * j
  short : ∀ y ∈ ys, y.data.toList.length ≤ 21
  below : Below wy.heap.size wy wx
theorem own_srcS {w : World} {base n size : Nat} {e : TypeId} {v : Value} {xs : List Value} (h : w.ownsRow base e size v n xs) (h1 : ∀ u ∈ xs, u.oneCell' = true) : SrcAt w v n xs := by
  rcases h.2 with ⟨rfl, rfl⟩ | ⟨g, c, cur, rfl, hb, hg, _⟩
  · exact .inl ⟨rfl, rfl, List.length_eq_zero_iff.1 (by simpa using h.1)⟩
  · exact .inr ⟨⟨g, 0, none⟩, c, rfl, fun j u hu => by rw [Addr.add_lit, Nat.zero_add]; exact own_cells h j u hu, h1⟩
theorem format_some (b o c n : Nat) (l : List Sq.St) (hl : l.length = n) (hn1 : 1 ≤ n) (hn8 : n ≤ 8) (w : World) (ht : ∀ s ∈ l, s.Typed) (hb : b < w.heap.size)
    (hc : ∀ (i : Nat) s, l[i]? = some s → ∀ (j : Nat) u, s.arr[j]? = some u → w.cell? ⟨b, o + i * 12 + j, none⟩ = some u) :
    Calls Tryz.prog 16 #[.slice (some ⟨b, o, none⟩) n c] w (FmtPost l w) := by
  obtain ⟨i0, hi, hz0, hz1, hz2⟩ := info_parts infoStr
  have HFO := hid (fun W => forms_ok W)
  have HV := hid (fun s W => qValid s W)
  have HW := hid (fun s hs p hp W => words_start s hs p hp W)
  have HL := hid (And.intro hl (And.intro ht hc))
  have n1 : decide ((n : Int) < 1) = false := by simp; omega
  have n8 : decide (8 < (n : Int)) = false := by simp; omega
  clear hl ht hc
  go_enter Tryz.func16, Tryz.ntmps16
  go_wp2_with fail
  go_loopw [4, 21] (fun tx i wr => ∃ (k : Nat) (xs : List ByteArray), i = .int .i64 k ∧ k ≤ n ∧ Hid (FmtAt l w k xs tx wr)) (fun _ i _ => ((n : Int) - intOf i).toNat)
  case atStart => exact ⟨0, [], rfl, by omega, hid ⟨World.ownsRow_nil _ _ _ _, rfl, by simp, by simp, Below.refl _ _⟩⟩
  case round =>
    obtain ⟨k, xs, rfl, hkn, HR⟩ := hrel
    obtain ⟨wA, hwA⟩ : ∃ wA, wA = wr := ⟨_, rfl⟩
    subst hwA
    have hwr : w.heap.size ≤ wA.heap.size := HR.out.below.size
    have hbr : b < wA.heap.size := by omega
    by_cases hk : k < n
    · have b1 : decide ((k : Int) < n) = true := by simp; omega
      have wk : IntKind.i64.wrap ((k : Int) + 1) = (k : Int) + 1 := by rw [IntKind.wrap_i64]; omega
      have k4 : decide ((k : Int) < 0) = false := by simp
      have k5 : (0 : Int) ≤ k := by omega
      have k6 : (k : Int) < n := by omega
      obtain ⟨s, hs⟩ : ∃ s, l[k]? = some s := ⟨_, List.getElem?_eq_getElem (by have := HL.out.1; omega)⟩
      have hty : s.Typed := HL.out.2.1 s (List.mem_of_getElem? hs)
      have hcs : ∀ (j : Nat) u, s.arr[j]? = some u → wA.cell? ⟨b, o + k * 12 + j, none⟩ = some u := fun j u hu => (HR.out.below.cell (p := ⟨b, o + k * 12 + j, none⟩) hb).trans (HL.out.2.2 k s hs j u hu)
      have d0 : wA.cell? ⟨b, o + k * 12, none⟩ = some (.int .i64 s.kind) := hcs 0 _ rfl
      have d1 : wA.cell? ⟨b, o + k * 12 + 1, none⟩ = some (.int .u32 s.key) := hcs 1 _ rfl
      have d2 : wA.cell? ⟨b, o + k * 12 + 2, none⟩ = some (.int .u32 s.last) := hcs 2 _ rfl
      have d3 : wA.cell? ⟨b, o + k * 12 + 3, none⟩ = some (.int .i64 s.c0) := hcs 3 _ rfl
      have d4 : wA.cell? ⟨b, o + k * 12 + 4, none⟩ = some (.int .i64 s.c1) := hcs 4 _ rfl
      have d5 : wA.cell? ⟨b, o + k * 12 + 5, none⟩ = some (.int .i64 s.c2) := hcs 5 _ rfl
      have d6 : wA.cell? ⟨b, o + k * 12 + 6, none⟩ = some (.int .i64 s.col) := hcs 6 _ rfl
      have d7 : wA.cell? ⟨b, o + k * 12 + 7, none⟩ = some (.int .i64 s.value) := hcs 7 _ rfl
      have d8 : wA.cell? ⟨b, o + k * 12 + 8, none⟩ = some (.int .i64 s.wcol) := hcs 8 _ rfl
      have d9 : wA.cell? ⟨b, o + k * 12 + 9, none⟩ = some (.int .i64 s.wop) := hcs 9 _ rfl
      have d10 : wA.cell? ⟨b, o + k * 12 + 10, none⟩ = some (.int .i64 s.wval) := hcs 10 _ rfl
      have d11 : wA.cell? ⟨b, o + k * 12 + 11, none⟩ = some (.int .i64 s.limit) := hcs 11 _ rfl
      have HS := hid (And.intro hs hty)
      obtain ⟨ok, hok⟩ : ∃ v, s.valid = v := ⟨_, rfl⟩
      have HVS : Hid (∀ W, Calls Tryz.prog 28 #[.agg #[.int .i64 s.kind, .int .u32 s.key, .int .u32 s.last, .int .i64 s.c0, .int .i64 s.c1, .int .i64 s.c2, .int .i64 s.col, .int .i64 s.value, .int .i64 s.wcol, .int .i64 s.wop, .int .i64 s.wval, .int .i64 s.limit]] W fun e w' => e = .returned (.bool ok) ∧ Below W.heap.size W w') := hid (fun W => by have h := HV.out s W; unfold QvPost at h; rw [hok] at h; exact h)
      have HOK := hid hok
      clear hs hty hok hcs
      go_wp2_with fail
      go_at_call 28
      refine (HVS.out _).mono ?_
      rintro e w1 ⟨rfl, hb1⟩
      have BS : Blk w1 wA.heap.size 54 #[.int .i64 s.kind, .int .u32 s.key, .int .u32 s.last, .int .i64 s.c0, .int .i64 s.c1, .int .i64 s.c2, .int .i64 s.col, .int .i64 s.value, .int .i64 s.wcol, .int .i64 s.wop, .int .i64 s.wval, .int .i64 s.limit] := (Blk.made wA _ _).kept hb1
      have hbw1 : Below wA.heap.size wA w1 := qL
      have HB1 := hid (And.intro BS hbw1)
      have ks := BS.cell
      have ls := BS.lt
      clear hb1 BS hbw1 d0 d1 d2 d3 d4 d5 d6 d7 d8 d9 d10 d11
      cases ok
      · have HG : Hid (okCode (Sq.good l) = 1) := hid (by
          have h : l.all Sq.St.valid = false := by rw [List.all_eq_false]; exact ⟨s, List.mem_of_getElem? HS.out.1, by simp [HOK.out]⟩
          simp [Sq.good, h, okCode])
        go_wp2_with fail
        exact bodyPost_ret (results_t2 rfl _ _) rfl ⟨⟨_, by rw [HG.out]; rfl⟩, below_step HR.out.below HB1.out.2⟩
      · have hfit := HS.out.2.fits HOK.out
        have hkd : 1 ≤ s.kind ∧ s.kind ≤ 9 := by
          have h := HOK.out
          simp only [Sq.St.valid, Bool.and_eq_true, decide_eq_true_eq] at h
          exact h.1.1
        have j1 : decide (s.kind < 0) = false := by simp; omega
        have j2 : (0 : Int) ≤ s.kind := by omega
        have j3 : s.kind < 10 := by omega
        have HF := hid (And.intro hfit hkd)
        obtain ⟨m, hm⟩ : ∃ n, (Sq.parts s.kind.toNat).length = n := ⟨_, rfl⟩
        have HM : Hid ((Sq.parts s.kind.toNat).length = m ∧ m ≤ 4) := hid ⟨hm, hm ▸ parts_len _⟩
        clear hfit hkd hm
        go_upto_region 9 with (fail)
        go_cut [7] from 28 to 32 (fun f wx => ∃ g7 b2, f = .pointer (some ⟨g7, 0, none⟩) ∧ Hid (FormCut s w1 wA.heap.size g7 b2 m wx))
        case first =>
          go_upto_region 9 with (fail)
          refine qA fun hSt => ?_
          refine qS [1, 2] ?_
          iterate 2 (refine qT ?_; simp only [Act.put, qY])
          refine TakeSeq.done ?_
          refine wpAnyH_ready (rs := [0, 5]) (by kernel_rfl) (by simp) ?_
          refine AllReadyH.cons rfl (fun K hK => ?_) (AllReadyH.cons rfl (fun K hK => ?_) (AllReadyH.nil))
          · skip
            rw [if_pos (by rfl)]
            go_simp
            go_at_call 29; refine (HFO.out _).mono ?_; rintro e w2 ⟨bf, rfl, hbf, hlf, hFF, hb2⟩; ((obtain ⟨hc2, hf2, hs2⟩ := qR hb2); (try have := qN0 w1 w2))
            go_wp2_with fail
            refine hK.out _ _ (SteadyAll.of qL) (fun hHeld => ?_)
            clear hK K
            obtain ⟨b2, hw1, hp1, hlo, hlb2, hrow⟩ := hFF s.kind.toNat (by have := HF.out.2; omega) (by have := HF.out.2; omega)
            rw [HM.out.1] at hp1
            have cW : w2.cell? ⟨bf, s.kind.toNat * 2, none⟩ = some (.string ⟨(Sq.word s.kind.toNat).toArray⟩) := by rw [Nat.mul_comm]; exact hw1
            have cP : w2.cell? ⟨bf, s.kind.toNat * 2 + 1, none⟩ = some (.slice (some ⟨b2, 0, none⟩) m m) := by rw [Nat.mul_comm]; exact hp1
            refine wpAnyH_stronger (S1 := SteadyAll w2) (fun wq hq => SteadyAll.trans (by assumption) (by have hsz := hb2.size; (try simp only [size_alloc, size_setCell, size_drew, size_drewN] at hsz ⊢); omega) hq) _ _ _ _ ?_
            have hSr_w2 : SteadyAll w2 w2 := SteadyAll.of (Below.refl _ _)
            refine qS [3, 4] ?_
            iterate 2 (refine qT ?_; simp only [Act.put, qY])
            refine TakeSeq.done ?_
            refine qH 5 fun K hK => ?_
            go_simp
            refine hK.out _ _ (SteadyAll.of qL) (fun hHeld => ?_)
            clear hK K
            refine qH 6 fun K hK => ?_
            go_simp
            refine hK.out _ _ (SteadyAll.of qL) (fun hHeld => ?_)
            clear hK K
            refine qD ?_ _
            go_wp2_with fail
            go_meet
            exact ⟨w2.heap.size, b2, rfl, hid ⟨Blk.made _ _ _, ((HB1.out.1.drew).kept hb2).alloc _, fun i p hp => ((below_alloc (Below.refl w2.heap.size w2) _).cell (p := ⟨b2, i, none⟩) hlb2).trans (hrow i p hp), by simp; omega, qL⟩⟩
          · skip
            rw [if_pos (by rfl)]
            go_simp
            refine hK.out _ _ (SteadyAll.of qL) (fun hHeld => ?_)
            clear hK K
            refine qH 0 fun K hK => ?_
            go_simp
            go_at_call 29; refine (HFO.out _).mono ?_; rintro e w2 ⟨bf, rfl, hbf, hlf, hFF, hb2⟩; ((obtain ⟨hc2, hf2, hs2⟩ := qR hb2); (try have := qN0 w1 w2); (try have := qN1 w1 w2))
            go_wp2_with fail
            refine hK.out _ _ (SteadyAll.of qL) (fun hHeld => ?_)
            clear hK K
            obtain ⟨b2, hw1, hp1, hlo, hlb2, hrow⟩ := hFF s.kind.toNat (by have := HF.out.2; omega) (by have := HF.out.2; omega)
            rw [HM.out.1] at hp1
            have cW : w2.cell? ⟨bf, s.kind.toNat * 2, none⟩ = some (.string ⟨(Sq.word s.kind.toNat).toArray⟩) := by rw [Nat.mul_comm]; exact hw1
            have cP : w2.cell? ⟨bf, s.kind.toNat * 2 + 1, none⟩ = some (.slice (some ⟨b2, 0, none⟩) m m) := by rw [Nat.mul_comm]; exact hp1
            have hs2w : w1.heap.size < w2.heap.size := by have := hb2.size; simp only [size_alloc, size_drew] at this; omega
            refine wpAnyH_stronger (S1 := SteadyBut w1.heap.size w2) (fun wq hq => SteadyAll.trans_but (by assumption) (by first | omega | simp) (by first | omega | (simp; omega)) hq) _ _ _ _ ?_
            have hSr : SteadyBut w1.heap.size w2 w2 := SteadyBut.of (Below.refl _ _)
            have hbf2 : w1.heap.size < bf := by have h := hbf; simp at h; omega
            have B7 := (((Blk.made w1.drew 96 #[.string ⟨#[]⟩, .slice none 0 0])).kept hb2)
            have k7 := B7.cell
            have f7 := B7.free
            have H7 := hid B7
            clear B7
            refine qS [3, 4] ?_
            iterate 2 (refine qT ?_; simp only [Act.put, qY])
            refine TakeSeq.done ?_
            refine qH 6 fun K hK => ?_
            go_simp
            refine hK.out _ _ qE (fun hHeld => ?_)
            clear hK K
            refine qD ?_ _
            go_wp2_with fail
            go_meet
            have BX : Blk w2 wA.heap.size 54 s.arr := ((HB1.out.1.drew).alloc (.cells #[.string ⟨#[]⟩, .slice none 0 0] 96)).kept hb2
            have hlo2 : w1.heap.size < b2 := by have := hlo; simp at this; omega
            have hx : wA.heap.size < w1.heap.size := ls
            refine ⟨w1.heap.size, b2, rfl, hid ⟨(H7.out.put 0 _).put 1 _, by (have B := BX; exact qK), fun i p hp => ?_, by simp; omega, ?_⟩⟩
            · rw [World.cell?_setCell_other _ _ _ _ (by intro e; injection e with e1; omega), World.cell?_setCell_other _ _ _ _ (by intro e; injection e with e1; omega)]
              exact hrow i p hp
            · exact qL
        case rest =>
          obtain ⟨g7, b2, rfl, HX⟩ := hcut
          obtain ⟨wy, hwy⟩ : ∃ wy, wy = wc := ⟨_, rfl⟩
          subst hwy
          have BF := HX.out.form
          have kf := BF.cell
          have lf := BF.lt
          have hw1y : w1.heap.size ≤ wy.heap.size := HX.out.below.size
          have hww : w.heap.size ≤ wy.heap.size := by omega
          have HSW : Hid (InAt wy 0 [⟨(Sq.word s.kind.toNat).toArray⟩] (.slice (some ⟨wy.heap.size, 0, none⟩) 1 1) (wy.alloc (.cells #[.string ⟨(Sq.word s.kind.toNat).toArray⟩] 9))) := Lib.hid
            ⟨strs_made [⟨(Sq.word s.kind.toNat).toArray⟩] 1 rfl (Nat.le_refl _) (by omega), by simp, by simp, by (intro y hy; simp only [List.mem_cons, List.not_mem_nil, or_false] at hy; subst hy; have := word_len s.kind.toNat; simp; omega), below_alloc (Below.refl _ _) _⟩
          clear BF
          go_wp2_with fail
          go_loopw [8, 39] (fun tx i wx => ∃ (j : Nat) (ys : List ByteArray), i = .int .i64 j ∧ j ≤ m ∧ Hid (InAt wy j ys tx wx)) (fun _ i _ => ((m : Int) - intOf i).toNat)
          case atStart => exact ⟨0, _, rfl, by omega, HSW⟩
          case round =>
            obtain ⟨j, ys, rfl, hjm, HI⟩ := hrel
            obtain ⟨w5, hw5⟩ : ∃ w5, w5 = wr := ⟨_, rfl⟩
            subst hw5
            obtain ⟨pu, cu, hu⟩ := own_shape HI.out.own
            subst hu
            obtain ⟨q, hq⟩ : ∃ q, ys.length = q := ⟨_, rfl⟩
            have HOWN : Hid (w5.ownsRow wy.heap.size 9 1 (.slice pu q cu) q (strCells ys) ∧ ys.length = q ∧ 1 ≤ q ∧ q ≤ 1 + 4 * j) := hid (by have h1 := HI.out.own; have h2 := HI.out.one; have h3 := HI.out.len; rw [hq] at h1 h2 h3; exact ⟨h1, hq, h2, h3⟩)
            rw [hq]
            have hm4 := HM.out.2
            have hq17 : q ≤ 1 + 4 * j := HOWN.out.2.2.2
            have hb5 := HI.out.below.size
            clear hq
            by_cases hj : j < m
            · have c1 : decide ((j : Int) < m) = true := by simp; omega
              have wj : IntKind.i64.wrap ((j : Int) + 1) = (j : Int) + 1 := by rw [IntKind.wrap_i64]; omega
              have j4 : decide ((j : Int) < 0) = false := by simp
              have j5 : (0 : Int) ≤ j := by omega
              have j6 : (j : Int) < m := by omega
              obtain ⟨pt, hp⟩ : ∃ p, (Sq.parts s.kind.toNat)[j]? = some p := ⟨_, List.getElem?_eq_getElem (by have := HM.out.1; omega)⟩
              have cp : w5.cell? ⟨b2, j, none⟩ = some (.int .i64 pt) := (HI.out.below.cell (p := ⟨b2, j, none⟩) HX.out.lt).trans (HX.out.row j pt hp)
              have lb : b2 < w5.heap.size := by have := HX.out.lt; omega
              have BX : Blk w5 wA.heap.size 54 #[.int .i64 s.kind, .int .u32 s.key, .int .u32 s.last, .int .i64 s.c0, .int .i64 s.c1, .int .i64 s.c2, .int .i64 s.col, .int .i64 s.value, .int .i64 s.wcol, .int .i64 s.wop, .int .i64 s.wval, .int .i64 s.limit] := HX.out.box.kept HI.out.below
              have kx := BX.cell
              have lx := BX.lt
              have HWJ : Hid (∀ W, Calls Tryz.prog 30 #[.agg #[.int .i64 s.kind, .int .u32 s.key, .int .u32 s.last, .int .i64 s.c0, .int .i64 s.c1, .int .i64 s.c2, .int .i64 s.col, .int .i64 s.value, .int .i64 s.wcol, .int .i64 s.wop, .int .i64 s.wval, .int .i64 s.limit], .int .i64 pt] W (Words W)) := hid (fun W => HW.out s HF.out.1 pt (parts_lt _ _ _ hp) W)
              clear BX hp
              go_wp2_with fail
              go_at_call 30
              refine (HWJ.out _).mono ?_
              rintro e w6 ⟨v, zs, rfl, hown, hzl, hzs, hb6⟩
              have hs6 := hb6.size
              have HZ := hid (And.intro hown (And.intro hzl (And.intro hzs hb6)))
              clear hown hzs hb6 kx
              go_wp2_with (at_builtin; refine halt ?_)
              refine unhalt ?_
              refine wpList_plain rfl fun K' hK' => ?_
              refine wp_append_src (.tmp 43) (.tmp 46) 93 rfl wy.heap.size 9 i0 _ 1 16 Tryz.underlying93 hi hz0 hz1 hz2 rfl (by decide) (.slice pu q cu) q (strCells ys) rfl (own_below HOWN.out.1 HZ.out.2.2.2) v zs.length (strCells zs) rfl (own_srcS HZ.out.1 (strCells_one zs)) (by simp [strCells]) (by unfold maxLen; omega) (by omega) (by omega) ?_
              intro v7 w7 hown7 hg7
              refine hK' _ _ ?_
              clear hK' K'
              have hbw7 : Below wy.heap.size wy w7 := below_grown (below_step HI.out.below HZ.out.2.2.2) hg7 (fun j hj => own_row_ge HOWN.out.1 j hj)
              have H7 : Hid (InAt wy (j + 1) (ys ++ zs) v7 w7) := hid ⟨by rw [show (ys ++ zs).length = q + zs.length by simp [HOWN.out.2.1], show strCells (ys ++ zs) = strCells ys ++ strCells zs from List.map_append]; exact hown7, by simp; have := HOWN.out; omega, by simp; have := HOWN.out; omega, (by intro y hy; rcases List.mem_append.1 hy with h | h <;> first | exact HI.out.short y h | exact HZ.out.2.2.1 y h), hbw7⟩
              clear hown7 hg7 hbw7
              go_wp2_with fail
              exact ⟨⟨j + 1, ys ++ zs, by simp, by omega, H7⟩, by simp [intOf]; omega⟩
            · have c1 : decide ((j : Int) < m) = false := by simp; omega
              obtain rfl : j = m := by omega
              obtain ⟨p4, c4, hu4⟩ := own_shape HR.out.own
              subst hu4
              rcases HOWN.out.1.2 with ⟨h0, hk0⟩ | ⟨g, cap, cur, hv, hge, hblk, hcap, _⟩
              · have := HOWN.out.2.2.1
                omega
              · simp only [Value.slice.injEq, true_and] at hv
                obtain ⟨rfl, rfl⟩ := hv
                have HJ := hid (join_any g cu q 400 ys ⟨#[32]⟩ w5 HOWN.out.2.1 (fun j x hx => own_cells HOWN.out.1 j _ (by simp [strCells, hx])) (own_lt HOWN.out.1).2 (by omega) hcap (Nat.le_trans (join_len _ 21 _ (by intro x hx; simp only [List.mem_map] at hx; obtain ⟨y, hy, rfl⟩ := hx; exact HI.out.short y hy)) (by have := HOWN.out.2; simp; omega)) (by omega))
                have hb15 : Below wA.heap.size wA w5 := by have h1 := HB1.out.2; have h2 := HX.out.below; have h3 := HI.out.below; exact qL
                have HB5 := hid hb15
                clear hblk hcap hge hb15
                go_wp2_with fail
                go_at_call 31
                refine HJ.out.mono ?_
                rintro e w6 ⟨sx, rfl, hsx, hb6⟩
                have HB6 := hid (And.intro (below_step HB5.out hb6) hsx)
                have hs6 : w.heap.size ≤ w6.heap.size := by have h1 := HB5.out.size; have h2 := hb6.size; omega
                clear hb6 hsx
                go_wp2_with (at_builtin; refine halt ?_)
                refine unhalt ?_
                refine wpList_append_mine rfl (.tmp 49) (.tmp 52) 93 rfl w.heap.size 9 i0 _ 1 16 Tryz.underlying93 hi hz0 hz1 hz2 rfl (by decide) (.slice p4 k c4) k (strCells xs) rfl (own_below (own_below HR.out.own HB6.out.1) (below_alloc (Below.refl _ _) _)) ⟨w6.heap.size, 0, none⟩ 1 1
                  [.string sx] rfl rfl (one_news (u := .string sx) ((Blk.made w6 _ _).cell 0)) (by intro u hu; simp only [List.mem_cons, List.not_mem_nil, or_false] at hu; subst hu; rfl) (by omega) (by unfold maxLen; omega) (by omega) (by simp only [size_alloc]; omega) ?_
                intro g8 cap8 w8 hown8 hg8
                have hb8 : Below w.heap.size w w8 := below_grown (below_alloc (below_step HR.out.below HB6.out.1) _) hg8 (fun j hj => own_row_ge HR.out.own j hj)
                have H8 : Hid (FmtAt l w (k + 1) (xs ++ [sx]) (.slice (some ⟨g8, 0, none⟩) (k + 1) cap8) w8) := hid ⟨by rw [show strCells (xs ++ [sx]) = strCells xs ++ [.string sx] by simp [strCells]]; exact hown8, by simp [HR.out.len], (by intro y hy; rcases List.mem_append.1 hy with h | h <;> first | exact HR.out.short y h | (simp only [List.mem_cons, List.not_mem_nil, or_false] at h; subst h; have := HB6.out.2; omega)), (by
                  obtain ⟨hlt', he⟩ := List.getElem?_eq_some_iff.1 HS.out.1
                  rw [List.take_succ_eq_append_getElem hlt', List.all_append, HR.out.good, he]
                  simp [HOK.out]), hb8⟩
                clear hown8 hg8 hb8
                go_wp2_with fail
                exact ⟨⟨k + 1, xs ++ [sx], by simp, by omega, H8⟩, by simp [intOf]; omega⟩
    · have b1 : decide ((k : Int) < n) = false := by simp; omega
      obtain rfl : k = n := by omega
      rcases HR.out.own.2 with ⟨h0, hk0⟩ | ⟨g, cap, cur, hv, hge, hblk, hcap, _⟩
      · omega
      · subst hv
        have HG : Hid (okCode (Sq.good l) = 0) := hid (by
          have h := HR.out.good
          rw [List.take_of_length_le (by have := HL.out.1; omega)] at h
          have h1 := HL.out.1
          simp [Sq.good, h, okCode]
          omega)
        have HJ := hid (join_any g cap k 5000 xs ⟨#[59, 32]⟩ wA HR.out.len (fun j x hx => own_cells HR.out.own j _ (by simp [strCells, hx])) (own_lt HR.out.own).2 (by omega) hcap (Nat.le_trans (join_len _ 500 _ (by intro x hx; simp only [List.mem_map] at hx; obtain ⟨y, hy, rfl⟩ := hx; exact HR.out.short y hy)) (by have := HR.out.len; simp; omega)) (by omega))
        clear hblk hcap hge
        go_wp2_with fail
        go_at_call 31
        refine HJ.out.mono ?_
        rintro e w2 ⟨sx, rfl, _, hb2⟩
        have HB2 := hid (below_step HR.out.below hb2)
        clear hb2
        go_wp2_with fail
        exact bodyPost_ret (results_t2 rfl _ _) rfl ⟨⟨_, by rw [HG.out]; rfl⟩, HB2.out⟩
def Sq.St.range (s : Sq.St) : Bool := s.kind == 6 || s.kind == 7 || s.kind == 8
def Sq.St.wr (s : Sq.St) : Bool := decide (1 ≤ s.kind) && decide (s.kind ≤ 4)
theorem exIsRange (s : Sq.St) (w : World) : Calls Tryz.prog 17 #[.agg s.arr] w fun e w' => e = .returned (.bool s.range) ∧ Below w.heap.size w w' := by
  unfold Sq.St.arr Sq.St.range
  rcases h6 : s.kind == 6 with _ | _ <;> rcases h7 : s.kind == 7 with _ | _ <;> rcases h8 : s.kind == 8 with _ | _ <;>
    (go_enter Tryz.func17, Tryz.ntmps17; go_wp2_with fail; refine bodyPost_ret (results_tmp rfl _ _ _) rfl ⟨rfl, qL⟩)
end Go.Proofs.YtcoiehgcfjfhaaaGreatDoor
