/- The reference's fabric: what a node checks. The reference's fabric: the pieces of a verb. -/
import Derived.Test.YtoidjgongafnkaaGreatDoorWEa
set_option linter.unusedVariables false
set_option linter.unusedSimpArgs false
set_option linter.unusedSectionVars false
set_option linter.constructorNameAsVariable false
namespace Go.Proofs.YtoidjgongafnkaaGreatDoor
open Go.RowKit

set_option maxRecDepth 10000 in
set_option maxHeartbeats 2000000 in
theorem check_ok (x : Cm.Vb) (p : Option Addr) (c : Nat) (w : World) (h : x.Ok) :
    Calls Tryz.prog 111 #[.agg (vbArr x (.slice p x.words.length c)), .int .i64 1, .int .u64 1, .int .u64 1, .int .u64 1] w fun e w' => e = .returned (.int .i64 0) ∧ Below w.heap.size w w' := by
  have HC : Hid (∀ W, Calls Tryz.prog 187 #[.agg (vbArr x (.slice p x.words.length c))] W fun e w' => e = .returned (.bool false) ∧ Below W.heap.size W w') := Lib.hid (fun W => control_ok x p c W h)
  obtain ⟨kd, nd, at', n, old, new, ws⟩ := x
  simp only [vbArr] at *
  clear h
  go_enter Tryz.func111, Tryz.ntmps111
  rcases Classical.em (kd = 1) with rfl | hk
  · go_wp2_with fail
    go_at_call 187
    refine (HC.out _).mono ?_
    rintro e w1 ⟨rfl, hb⟩
    have BX := (Blk.made w 147 #[.int .i64 1, .int .i64 nd, .int .i64 at', .int .i64 n, .int .u64 old, .int .u64 new, .slice p ws.length c, .int .u64 1, .int .i64 1]).kept hb
    have HB1 : Hid (Below w.heap.size w w1) := Lib.hid (by (repeat (first | with_reducible exact Below.refl _ _ | with_reducible assumption | with_reducible refine Below.setCell ?_ (by first | (simp; done) | (simp; omega)) _ | with_reducible refine below_alloc ?_ _ | with_reducible refine below_drewN ?_ _ | with_reducible refine Below.drew ?_ | with_reducible refine below_step ?_ (by assumption))))
    have kb := BX.cell
    have lb := BX.lt
    have HX := Lib.hid BX
    clear hb BX
    go_wp2_with fail
    go_at_call 187
    refine (HC.out _).mono ?_
    rintro e w2 ⟨rfl, hb⟩
    have BX2 := HX.out.kept hb
    have HB2 : Hid (Below w.heap.size w w2) := Lib.hid (by have := HB1.out; (repeat (first | with_reducible exact Below.refl _ _ | with_reducible assumption | with_reducible refine Below.setCell ?_ (by first | (simp; done) | (simp; omega)) _ | with_reducible refine below_alloc ?_ _ | with_reducible refine below_drewN ?_ _ | with_reducible refine Below.drew ?_ | with_reducible refine below_step ?_ (by assumption))))
    have kb2 := BX2.cell
    have lb2 := BX2.lt
    clear hb BX2 kb lb
    go_wp2_with fail
    refine bodyPost_ret (results_tmp rfl _ _ _) rfl ⟨rfl, HB2.out⟩
  · have bk : (kd == 1) = false := by simpa using hk
    have bk' : decide (kd = 1) = false := by simpa using hk
    go_wp2_with fail
    go_at_call 187
    refine (HC.out _).mono ?_
    rintro e w1 ⟨rfl, hb⟩
    have BX := (Blk.made w 147 #[.int .i64 kd, .int .i64 nd, .int .i64 at', .int .i64 n, .int .u64 old, .int .u64 new, .slice p ws.length c, .int .u64 1, .int .i64 1]).kept hb
    have HB1 : Hid (Below w.heap.size w w1) := Lib.hid (by (repeat (first | with_reducible exact Below.refl _ _ | with_reducible assumption | with_reducible refine Below.setCell ?_ (by first | (simp; done) | (simp; omega)) _ | with_reducible refine below_alloc ?_ _ | with_reducible refine below_drewN ?_ _ | with_reducible refine Below.drew ?_ | with_reducible refine below_step ?_ (by assumption))))
    have kb := BX.cell
    have lb := BX.lt
    have HX := Lib.hid BX
    clear hb BX
    go_wp2_with fail
    refine bodyPost_ret (results_tmp rfl _ _ _) rfl ⟨rfl, HB1.out⟩

theorem refClient0 (w : World) : Calls Tryz.prog 57 #[.int .i64 0] w fun e w' => e = .returned (.bool true) ∧ w = w' := by
  go_enter Tryz.func57, Tryz.ntmps57
  go_wp2_with fail
  refine bodyPost_ret (results_tmp rfl _ _ _) rfl ⟨rfl, rfl⟩
theorem refDoor0 (w : World) : Calls Tryz.prog 32 #[.int .i64 0] w fun e w' => e = .returned (.int .i64 24) ∧ w = w' := by
  go_enter Tryz.func32, Tryz.ntmps32
  go_wp2_with fail
  go_at_call 57
  refine (refClient0 _).mono ?_
  rintro e w1 ⟨rfl, rfl⟩
  go_wp2_with fail
  refine bodyPost_ret (results_tmp rfl _ _ _) rfl ⟨rfl, rfl⟩
theorem refCons0 (w : World) : Calls Tryz.prog 31 #[.int .i64 0] w fun e w' => e = .returned (.int .i64 8) ∧ w = w' := by
  go_enter Tryz.func31, Tryz.ntmps31
  go_wp2_with fail
  refine bodyPost_ret (results_tmp rfl _ _ _) rfl ⟨rfl, rfl⟩
/-- A word of a node. -/
theorem refAt_ok (bn o b k : Nat) (cap : Nat) (y : Int) (w : World) (hk : k < 864) (h0 : w.cell? ⟨bn, o, none⟩ = some (.slice (some ⟨b, 0, none⟩) 864 cap)) (hl : bn < w.heap.size) (h1 : w.cell? ⟨b, k, none⟩ = some (.int .u64 y)) (hb : b < w.heap.size) :
    Calls Tryz.prog 112 #[.pointer (some ⟨bn, o, none⟩), .int .i64 k] w fun e w' => e = .returned (.int .u64 y) ∧ w = w' := by
  have b0 : decide ((k : Int) < 0) = false := by simp
  have b1 : decide ((864 : Int) ≤ k) = false := by simp; omega
  have b2 : (0 : Int) ≤ k := by omega
  have b3 : (k : Int) < 864 := by omega
  go_enter Tryz.func112, Tryz.ntmps112
  go_wp2_with fail
  refine bodyPost_ret (results_tmp rfl _ _ _) rfl ⟨rfl, rfl⟩
end Go.Proofs.YtoidjgongafnkaaGreatDoor
namespace Go.Proofs.YtoidjgongafnkaaGreatDoor
open Go.RowKit

def pcCells (l : List (Nat × Nat)) : List Value := l.flatMap fun t => [.int .i64 (t.1 : Int), .int .i64 (t.2 : Int)]
theorem pcCells_append (a b : List (Nat × Nat)) : pcCells (a ++ b) = pcCells a ++ pcCells b := by simp [pcCells]
theorem pieces_zero (f a : Nat) : Cm.pieces f a 0 = [] := by cases f <;> simp [Cm.pieces]
theorem pieces_step (f a l : Nat) (h : 0 < l) : Cm.pieces (f + 1) a l = (a, min l (8 - a % 8)) :: Cm.pieces f (a + min l (8 - a % 8)) (l - min l (8 - a % 8)) := by
  rw [Cm.pieces]
  rw [if_neg (by omega)]
theorem infoPiece : (Tryz.prog.info? 215).map (fun i => (i.zero, i.size, i.bytes)) = some (some (.agg #[.int .i64 0, .int .i64 0]), 2, 16) := by kernel_rfl
def PcLoop (x : Cm.Vb) (W : World) (v va vl : Value) (wr : World) : Prop :=
  ∃ (d : List (Nat × Nat)) (a l f : Nat), va = .int .i64 a ∧ vl = .int .i64 l ∧ a + l ≤ 864 ∧ Hid (x.pieces = d ++ Cm.pieces f a l ∧ l ≤ f ∧ d.length + l ≤ 100 ∧ wr.ownsRow W.heap.size 215 2 v d.length (pcCells d) ∧ Below W.heap.size W wr)

set_option maxRecDepth 10000 in
set_option maxHeartbeats 1000000 in
theorem pieces_ok (x : Cm.Vb) (p : Option Addr) (c : Nat) (w : World) (h : x.Ok) :
    Calls Tryz.prog 113 #[.agg (vbArr x (.slice p x.words.length c))] w fun e w' => (∃ v, e = .returned v ∧ w'.ownsRow w.heap.size 215 2 v x.pieces.length (pcCells x.pieces)) ∧ Below w.heap.size w w' := by
  obtain ⟨i0, hi, hz0, hz1, hz2⟩ := info_parts infoPiece
  have HC : Hid (∀ W, Calls Tryz.prog 110 #[.agg (vbArr x (.slice p x.words.length c))] W fun e w' => e = .returned (.int .i64 (x.count : Int)) ∧ Below W.heap.size W w') := Lib.hid (fun W => count_ok x p c W h)
  have HO := Lib.hid h
  clear h
  unfold vbArr at *
  go_enter Tryz.func113, Tryz.ntmps113
  go_wp2_with fail
  have BX := Blk.made w 147 #[.int .i64 x.kind, .int .i64 x.node, .int .i64 x.at_, .int .i64 x.n, .int .u64 x.old, .int .u64 x.new, .slice p x.words.length c, .int .u64 1, .int .i64 1]
  have hb0 := below_alloc (Below.refl w.heap.size w) (.cells #[.int .i64 x.kind, .int .i64 x.node, .int .i64 x.at_, .int .i64 x.n, .int .u64 x.old, .int .u64 x.new, .slice p x.words.length c, .int .u64 1, .int .i64 1] 147)
  generalize hw1 : World.alloc w _ = w1 at *
  have HB := Lib.hid (And.intro BX hb0)
  have kb := BX.cell
  have lb := BX.lt
  clear hw1 BX hb0
  refine wp_region_held_drew (S := SteadyAll _) (by kernel_rfl) (SteadyAll.of (Below.refl _ _).drew) ?_
  intro hSt
  refine wpAnyH_seq (is := [0, 1, 2]) (by kernel_rfl) (by kernel_rfl) (fun _ _ d _ _ h => by cases d <;> exact h) (by assumption) ?_
  iterate 3 (first | (refine TakeSeq.step (v := undef) rfl (Or.inr ⟨by rfl, rfl⟩) ?_; simp only [Act.put, List.setIfInBounds_toArray, List.set_cons_zero, List.set_cons_succ, List.getElem_toArray, List.getElem_cons_zero, List.getElem_cons_succ]) | (refine TakeSeq.step (v := ?_) rfl (Or.inl ⟨by rfl, ?_⟩) ?_; rotate_left 1; (focus (intro wq hSq; have hrd := hSq.rule; go_simp; with_reducible rfl)); simp only [Act.put, List.setIfInBounds_toArray, List.set_cons_zero, List.set_cons_succ, List.getElem_toArray, List.getElem_cons_zero, List.getElem_cons_succ]))
  refine TakeSeq.done ?_
  refine wpAnyH_ready (rs := [3]) (by kernel_rfl) (by simp) ?_
  refine AllReadyH.cons rfl (fun K hK => ?_) (AllReadyH.nil)
  rw [if_pos (by rfl)]
  go_simp
  go_at_call 110; refine (HC.out _).mono ?_; rintro e w2 ⟨rfl, hb⟩
  go_wp2_with fail
  refine hK.out _ _ (SteadyAll.of (by (repeat (first | with_reducible exact Below.refl _ _ | with_reducible assumption | with_reducible refine Below.setCell ?_ (by first | (simp; done) | (simp; omega)) _ | with_reducible refine below_alloc ?_ _ | with_reducible refine below_drewN ?_ _ | with_reducible refine Below.drew ?_ | with_reducible refine below_step ?_ (by assumption))))) (fun hHeld => ?_)
  clear hK K
  refine wpAnyH_seq (is := [4, 5]) (by kernel_rfl) (by kernel_rfl) (fun _ _ d _ _ h => by cases d <;> exact h) (by assumption) ?_
  iterate 2 (first | (refine TakeSeq.step (v := undef) rfl (Or.inr ⟨by rfl, rfl⟩) ?_; simp only [Act.put, List.setIfInBounds_toArray, List.set_cons_zero, List.set_cons_succ, List.getElem_toArray, List.getElem_cons_zero, List.getElem_cons_succ]) | (refine TakeSeq.step (v := ?_) rfl (Or.inl ⟨by rfl, ?_⟩) ?_; rotate_left 1; (focus (intro wq hSq; have hrd := hSq.rule; go_simp; with_reducible rfl)); simp only [Act.put, List.setIfInBounds_toArray, List.set_cons_zero, List.set_cons_succ, List.getElem_toArray, List.getElem_cons_zero, List.getElem_cons_succ]))
  refine TakeSeq.done ?_
  refine wpAnyH_done (by kernel_rfl) ?_ _
  have HB2 : Hid (Below w.heap.size w w2) := Lib.hid (by have := HB.out.2; (repeat (first | with_reducible exact Below.refl _ _ | with_reducible assumption | with_reducible refine Below.setCell ?_ (by first | (simp; done) | (simp; omega)) _ | with_reducible refine below_alloc ?_ _ | with_reducible refine below_drewN ?_ _ | with_reducible refine Below.drew ?_ | with_reducible refine below_step ?_ (by assumption))))
  clear kb lb hb hSt
  go_wp2_with fail
  go_loopw [3, 4, 5] (fun v va vl wr => PcLoop x w2 v va vl wr) (fun _ _ vl _ => (intOf vl).toNat)
  case atStart =>
    have h := HO.out
    exact ⟨[], x.at_, x.count, x.count, rfl, rfl, h.a2, Lib.hid ⟨rfl, Nat.le_refl _, by simpa using h.c2, World.ownsRow_nil _ _ _ _, Below.refl _ _⟩⟩
  case round =>
    obtain ⟨d, a, l, f, rfl, rfl, hal, H⟩ := hrel
    rcases l with _ | l
    · go_wp2_with fail
      have h := H.out
      rw [pieces_zero, List.append_nil] at h
      refine bodyPost_ret (results_tmp rfl _ _ _) rfl ⟨⟨_, rfl, ?_⟩, below_step HB2.out h.2.2.2.2⟩
      rw [h.1]
      exact own_base h.2.2.2.1 HB2.out.size
    · have b1 : decide ((0 : Int) < ((l + 1 : Nat) : Int)) = true := by simp <;> omega
      have q1 : (a : Int) < 864 := by omega
      have q2 : (0 : Int) ≤ a := by omega
      have q3 : ((l + 1 : Nat) : Int) ≤ 864 := by omega
      obtain ⟨hpc, hlf, hd1, hown, hbl⟩ := H.out
      have hwl := hbl.size
      rcases f with _ | f
      · omega
      clear H
      by_cases hm : (l : Int) + 1 ≤ 8 - (a : Int) % 8
      · go_wp2_with (at_builtin; refine halt ?_)
        refine unhalt ?_
        refine wpList_append_mine rfl (.tmp 18) (.tmp 22) 211 rfl w2.heap.size 215 i0 _ 2 16 Tryz.underlying211 hi hz0 hz1 hz2 rfl (by decide) u3 d.length (pcCells d) rfl
          (own_below hown (below_alloc (Below.refl _ _) _)) ⟨wr.heap.size, 0, none⟩ 1 1 [.int .i64 (a : Int), .int .i64 ((l : Int) + 1)] rfl rfl (lit_news (o := 0) (cs := #[.int .i64 (a : Int), .int .i64 ((l : Int) + 1)]) (Blk.made _ _ _))
          (by intro u hu; simp at hu; rcases hu with rfl | rfl <;> rfl) (by omega) (by unfold maxLen; omega) (by omega) (by simp; omega) ?_
        intro g4 cap4 w4 hown4 hg4
        have hb4 : Below w2.heap.size w2 w4 := below_grown (w := w2) (w1 := wr.alloc _) (by have := hbl; (repeat (first | with_reducible exact Below.refl _ _ | with_reducible assumption | with_reducible refine Below.setCell ?_ (by first | (simp; done) | (simp; omega)) _ | with_reducible refine below_alloc ?_ _ | with_reducible refine below_drewN ?_ _ | with_reducible refine Below.drew ?_ | with_reducible refine below_step ?_ (by assumption)))) hg4 (fun j hj => own_row_ge hown j hj)
        have e0 : min (l + 1) (8 - a % 8) = (l + 1) := by omega
        have HN : Hid (x.pieces = (d ++ [(a, (l + 1))]) ++ Cm.pieces f (a + (l + 1)) (l + 1 - (l + 1)) ∧ l + 1 - (l + 1) ≤ f ∧ (d ++ [(a, (l + 1))]).length + (l + 1 - (l + 1)) ≤ 100 ∧ w4.ownsRow w2.heap.size 215 2 _ (d ++ [(a, (l + 1))]).length (pcCells (d ++ [(a, (l + 1))])) ∧ Below w2.heap.size w2 w4) := Lib.hid ⟨by
          rw [hpc, pieces_step _ _ _ (by omega), e0]; simp, by omega, by simp; omega, own_cast hown4 (by simp) (by rw [pcCells_append]; simp [pcCells]; try omega), hb4⟩
        clear hown4 hg4 hb4 hown hbl hpc
        go_wp2_with fail
        exact ⟨⟨d ++ [(a, (l + 1))], a + (l + 1), l + 1 - (l + 1), f, by congr 1 <;> omega, by congr 1 <;> omega, by omega, HN⟩, by simp [intOf] <;> omega⟩
      · have hm2 : 8 - (a : Int) % 8 < (l : Int) + 1 := by omega
        go_wp2_with (at_builtin; refine halt ?_)
        refine unhalt ?_
        refine wpList_append_mine rfl (.tmp 18) (.tmp 22) 211 rfl w2.heap.size 215 i0 _ 2 16 Tryz.underlying211 hi hz0 hz1 hz2 rfl (by decide) u3 d.length (pcCells d) rfl
          (own_below hown (below_alloc (Below.refl _ _) _)) ⟨wr.heap.size, 0, none⟩ 1 1 [.int .i64 (a : Int), .int .i64 (8 - (a : Int) % 8)] rfl rfl (lit_news (o := 0) (cs := #[.int .i64 (a : Int), .int .i64 (8 - (a : Int) % 8)]) (Blk.made _ _ _))
          (by intro u hu; simp at hu; rcases hu with rfl | rfl <;> rfl) (by omega) (by unfold maxLen; omega) (by omega) (by simp; omega) ?_
        intro g4 cap4 w4 hown4 hg4
        have hb4 : Below w2.heap.size w2 w4 := below_grown (w := w2) (w1 := wr.alloc _) (by have := hbl; (repeat (first | with_reducible exact Below.refl _ _ | with_reducible assumption | with_reducible refine Below.setCell ?_ (by first | (simp; done) | (simp; omega)) _ | with_reducible refine below_alloc ?_ _ | with_reducible refine below_drewN ?_ _ | with_reducible refine Below.drew ?_ | with_reducible refine below_step ?_ (by assumption)))) hg4 (fun j hj => own_row_ge hown j hj)
        have e0 : min (l + 1) (8 - a % 8) = (8 - a % 8) := by omega
        have HN : Hid (x.pieces = (d ++ [(a, (8 - a % 8))]) ++ Cm.pieces f (a + (8 - a % 8)) (l + 1 - (8 - a % 8)) ∧ l + 1 - (8 - a % 8) ≤ f ∧ (d ++ [(a, (8 - a % 8))]).length + (l + 1 - (8 - a % 8)) ≤ 100 ∧ w4.ownsRow w2.heap.size 215 2 _ (d ++ [(a, (8 - a % 8))]).length (pcCells (d ++ [(a, (8 - a % 8))])) ∧ Below w2.heap.size w2 w4) := Lib.hid ⟨by
          rw [hpc, pieces_step _ _ _ (by omega), e0]; simp, by omega, by simp; omega, own_cast hown4 (by simp) (by rw [pcCells_append]; simp [pcCells]; try omega), hb4⟩
        clear hown4 hg4 hb4 hown hbl hpc
        go_wp2_with fail
        exact ⟨⟨d ++ [(a, (8 - a % 8))], a + (8 - a % 8), l + 1 - (8 - a % 8), f, by congr 1 <;> omega, by congr 1 <;> omega, by omega, HN⟩, by simp [intOf] <;> omega⟩
end Go.Proofs.YtoidjgongafnkaaGreatDoor
