/- The reference's fabric: new pairs, a new fabric. -/
import Derived.Test.YtoidjgongafnkaaGreatDoorWFl
set_option linter.unusedVariables false
set_option linter.unusedSimpArgs false
set_option linter.unusedSectionVars false
set_option linter.constructorNameAsVariable false
namespace Go.Proofs.YtoidjgongafnkaaGreatDoor
open Go.RowKit

theorem infoPair : (Tryz.prog.info? 107).map (fun i => (i.zero, i.size, i.bytes)) = some (some (.agg #[.int .i64 0, .int .i64 0, .int .i64 0, .slice none 0 0]), 4, 48) := by kernel_rfl
theorem infoClient : (Tryz.prog.info? 65).map (fun i => (i.zero, i.size, i.bytes)) = some (some (.agg #[.bool false, .int .i64 0, .bool false, .slice none 0 0, .slice none 0 0, .int .i64 0, .int .i64 0]), 7, 88) := by kernel_rfl
theorem infoPairs : (Tryz.prog.info? 56).map (fun i => (i.zero, i.size, i.bytes)) = some (some (.slice none 0 0), 1, 24) := by kernel_rfl
def prCells (l : List Nat) : List Value := l.flatMap fun (i : Nat) => [.int .i64 0, .int .i64 1, .int .i64 (i : Int), .slice none 0 0]
theorem prCells_append (a b : List Nat) : prCells (a ++ b) = prCells a ++ prCells b := by simp [prCells]
def RnLoop (W : World) (n : Nat) (v iv : Value) (wr : World) : Prop := ∃ j : Nat, j ≤ n ∧ iv = .int .i64 j ∧ Hid (wr.ownsRow W.heap.size 107 4 v j (prCells (List.range j)) ∧ Below W.heap.size W wr)
def RnPost (n lv : Nat) (csl : Array Value) (w w' : World) : Prop :=
  ∃ pr cp csp, w.heap.size ≤ pr ∧ Blk w' pr 107 csp ∧ (∀ i, i < n → csp[i * 4]? = some (.int .i64 0) ∧ csp[i * 4 + 1]? = some (.int .i64 1) ∧ csp[i * 4 + 2]? = some (.int .i64 i) ∧ csp[i * 4 + 3]? = some (.slice none 0 0)) ∧
    Blk w' lv 56 (csl.setIfInBounds 0 (.slice (some ⟨pr, 0, none⟩) n cp)) ∧ Mod (fun k => k = lv) w w'

set_option maxRecDepth 10000 in
set_option maxHeartbeats 2000000 in
theorem renew_ok (f nd cl lv n cn cc ca : Nat) (csl : Array Value) (v0 : Value) (w : World) (hn : 1 ≤ n) (hn4 : n ≤ 4) (hf : Blk w f 58 #[.int .i64 108, .slice (some ⟨nd, 0, none⟩) n cn, .slice (some ⟨cl, 0, none⟩) 1 cc, .slice (some ⟨lv, 0, none⟩) 1 ca, .slice none 0 0])
    (hc : w.cell? ⟨cl, 1, none⟩ = some (.int .i64 1)) (hcl : cl < w.heap.size) (hl : Blk w lv 56 csl) (hl0 : csl[0]? = some v0) :
    Calls Tryz.prog 13 #[.pointer (some ⟨f, 0, none⟩), .int .i64 0] w fun e w' => e = .returned (.tuple #[]) ∧ RnPost n lv csl w w' := by
  obtain ⟨i0, hi, hz0, hz1, hz2⟩ := info_parts infoPair
  have HG := Lib.hid (And.intro hf (And.intro hc hl))
  have hfl := hf.lt
  clear hf hc
  go_enter Tryz.func13, Tryz.ntmps13
  go_wp2_with fail
  go_loopw [4, 5] (fun v iv wr => RnLoop w n v iv wr) (fun _ iv _ => ((n : Int) - intOf iv).toNat)
  case atStart => exact ⟨0, by omega, rfl, Lib.hid ⟨(World.ownsRow_nil _ _ _ _ : w.ownsRow w.heap.size 107 4 (.slice none 0 0) 0 []), Below.refl _ _⟩⟩
  case round =>
    obtain ⟨j, hj, rfl, H⟩ := hrel
    have kf := (HG.out.1.kept H.out.2).cell
    have lf := (HG.out.1.kept H.out.2).lt
    have k1 := (H.out.2.cell (p := ⟨cl, 1, none⟩) hcl).trans HG.out.2.1
    have lc := Nat.lt_of_lt_of_le hcl H.out.2.size
    by_cases hj2 : j < n
    · have b1 : decide ((j : Int) < n) = true := by simp; omega
      obtain ⟨hown, hbl⟩ := H.out
      have hwl := hbl.size
      clear H
      go_wp2_with (at_builtin; refine halt ?_)
      refine unhalt ?_
      refine wpList_append_mine rfl (.tmp 15) (.tmp 27) 56 rfl w.heap.size 107 i0 _ 4 48 Tryz.underlying56 hi hz0 hz1 hz2 rfl (by decide) u4 j (prCells (List.range j)) rfl
        (own_below hown (below_alloc (Below.refl _ _) _)) ⟨wr.heap.size, 0, none⟩ 1 1 [.int .i64 0, .int .i64 1, .int .i64 (j : Int), .slice none 0 0] rfl rfl (lit_news (o := 0) (cs := #[.int .i64 0, .int .i64 1, .int .i64 (j : Int), .slice none 0 0]) (Blk.made _ _ _))
        (by intro u hu; simp at hu; rcases hu with rfl | rfl | rfl | rfl <;> rfl) (by omega) (by unfold maxLen; omega) (by omega) (by simp; omega) ?_
      intro g4 cap4 w4 hown4 hg4
      have hb4 : Below w.heap.size w w4 := below_grown (w := w) (w1 := wr.alloc _) (by have := hbl; (repeat (first | with_reducible exact Below.refl _ _ | with_reducible assumption | with_reducible refine Below.setCell ?_ (by first | (simp; done) | (simp; omega)) _ | with_reducible refine below_alloc ?_ _ | with_reducible refine below_drewN ?_ _ | with_reducible refine Below.drew ?_ | with_reducible refine below_step ?_ (by assumption)))) hg4 (fun j hj => own_row_ge hown j hj)
      have HN : Hid (w4.ownsRow w.heap.size 107 4 (.slice (some ⟨g4, 0, none⟩) (j + 1) cap4) (j + 1) (prCells (List.range (j + 1))) ∧ Below w.heap.size w w4) := Lib.hid ⟨own_cast hown4 rfl (by rw [List.range_succ, prCells_append]; simp [prCells]), hb4⟩
      clear hown4 hg4 hb4 hown hbl
      go_wp2_with fail
      exact ⟨⟨j + 1, by omega, by simp, HN⟩, by simp [intOf]; omega⟩
    · have b1 : ¬ (j : Int) < n := by omega
      have hbl2 := hl.kept H.out.2
      have kl : wr.cell? ⟨lv, 0, none⟩ = some v0 := (hbl2.cell _).trans hl0
      have fl := hbl2.free
      have ll := hbl2.lt
      obtain ⟨g5, c5, rfl⟩ := own_form H.out.1 (by omega)
      have HBL := Lib.hid hbl2
      clear hbl2
      go_wp2_with fail
      refine bodyPost_end (results_none rfl _ _ _) rfl ⟨rfl, ?_⟩
      obtain rfl : j = n := by omega
      obtain ⟨hown, hb⟩ := H.out
      obtain ⟨hge, hcap, cur, BG, hsz, hcur⟩ := own_blk hown
      have hlt := hl.lt
      refine ⟨g5, c5, cur, hge, BG.aside (by simp; omega) _, fun i hi => ?_, HBL.out.put 0 _, (Mod.of_below (S := fun k => k = lv) hb).put (p := ⟨lv, 0, none⟩) (.inl rfl) _⟩
      have hfl := fun r hr => flat_at (fun (i : Nat) => [Value.int .i64 0, Value.int .i64 1, Value.int .i64 (i : Int), Value.slice none 0 0]) 4 (fun _ => rfl) (List.range j) i i (by simp [hi]) r hr
      exact ⟨hcur _ _ (hfl 0 (by omega)), hcur _ _ (hfl 1 (by omega)), hcur _ _ (hfl 2 (by omega)), hcur _ _ (hfl 3 (by omega))⟩

structure SteadyOn (b : Nat) (w1 wx : World) : Prop where
  rule : ∀ o, wx.cell? ⟨b, o, none⟩ = w1.cell? ⟨b, o, none⟩
theorem Over.grown2 {b : Nat} {W w1 w2 : World} {row : Option Nat} (h : Over b W w1) (hg : w1.grownBy w2 row) (hr : ∀ k, row = some k → W.heap.size ≤ k) : Over b W w2 :=
  ⟨hg.os.trans h.os, hg.tape.trans h.tape, hg.output.trans h.output, Nat.le_trans h.size hg.size, fun k hk hn => (hg.block k (Nat.lt_of_lt_of_le hk h.size) (fun e => by
    have := hr k e.symm
    omega)).trans (h.block k hk hn)⟩
/-- The nodes of a new fabric. -/
def ndCells (l : List Value) : List Value := l.flatMap fun v => [v, .bool true]
theorem ndCells_append (a b : List Value) : ndCells (a ++ b) = ndCells a ++ ndCells b := by simp [ndCells]
def NwLoop (w : World) (n : Nat) (W : World) (iv : Value) (wr : World) : Prop :=
  ∃ l : List Value, l.length ≤ n ∧ iv = .int .i64 l.length ∧ Hid (∃ v, (∀ u ∈ l, ∃ p q c, u = .slice p q c) ∧ Blk wr w.heap.size 58 #[.int .i64 108, v, .slice none 0 0, .slice none 0 0, .slice none 0 0] ∧
    wr.ownsRow W.heap.size 61 2 v l.length (ndCells l) ∧ Over w.heap.size W wr)
def NewPost (n : Nat) (w : World) (e : Ending) (w' : World) : Prop :=
  ∃ g : Geo, e = .returned (.pointer (some ⟨g.f, 0, none⟩)) ∧ g.Pre w' n ∧ Below w.heap.size w w' ∧ w.heap.size ≤ g.nd ∧ w.heap.size ≤ g.cl ∧ w.heap.size ≤ g.pr

set_option maxRecDepth 10000 in
set_option maxHeartbeats 2000000 in
theorem new_ok (n : Nat) (w : World) (hn : 1 ≤ n) (hn4 : n ≤ 4) : Calls Tryz.prog 5 #[.int .i64 n, .int .i64 1, .int .i64 108] w (NewPost n w) := by
  obtain ⟨i0, hi, hz0, hz1, hz2⟩ := info_parts infoNode
  obtain ⟨j0, hj, hy0, hy1, hy2⟩ := info_parts infoClient
  obtain ⟨k0, hk, hx0, hx1, hx2⟩ := info_parts infoPairs
  go_enter Tryz.func5, Tryz.ntmps5
  go_wp2_with fail
  have BF : Blk (w.alloc (.cells #[.int .i64 108, .slice none 0 0, .slice none 0 0, .slice none 0 0, .slice none 0 0] 58)) w.heap.size 58 #[.int .i64 108, .slice none 0 0, .slice none 0 0, .slice none 0 0, .slice none 0 0] := Blk.made _ _ _
  have hbW : Below w.heap.size w (w.alloc (.cells #[.int .i64 108, .slice none 0 0, .slice none 0 0, .slice none 0 0, .slice none 0 0] 58)) := by (repeat (first | with_reducible exact Below.refl _ _ | with_reducible assumption | with_reducible refine Below.setCell ?_ (by first | (simp; done) | (simp; omega)) _ | with_reducible refine below_alloc ?_ _ | with_reducible refine below_drewN ?_ _ | with_reducible refine Below.drew ?_ | with_reducible refine below_step ?_ (by assumption)))
  have hsW : (w.alloc (.cells #[.int .i64 108, .slice none 0 0, .slice none 0 0, .slice none 0 0, .slice none 0 0] 58)).heap.size = w.heap.size + 1 := by simp
  generalize hW : World.alloc w _ = W at *
  have HB := Lib.hid (And.intro BF (And.intro hbW hsW))
  have hlW : w.heap.size < W.heap.size := by omega
  clear hW BF hbW hsW
  go_loopw [8] (fun iv wr => NwLoop w n W iv wr) (fun iv _ => ((n : Int) - intOf iv).toNat)
  case atStart => exact ⟨[], by simp, rfl, Lib.hid ⟨_, by simp, HB.out.1, (World.ownsRow_nil _ _ _ _ : W.ownsRow W.heap.size 61 2 (.slice none 0 0) 0 []), Over.refl _ _⟩⟩
  case round =>
    obtain ⟨l, hl, rfl, H⟩ := hrel
    obtain ⟨v, hlv, hb, hown, ho⟩ := H.out
    have hsz := ho.size
    obtain ⟨pv, cv, rfl⟩ := own_shape hown
    obtain ⟨i, hil⟩ : ∃ i, i = l.length := ⟨_, rfl⟩
    rw [← hil] at hb hown hl ⊢
    have HI := Lib.hid (And.intro hil (And.intro hlv ho))
    have kf := hb.cell
    have ff := hb.free
    have lf := hb.lt
    have HX := Lib.hid (And.intro hb hown)
    clear H hb hown hlv ho hil
    by_cases hj2 : i < n
    · have b1 : decide ((i : Int) < n) = true := by simp; omega
      go_wp2_with fail
      refine wp_region_late (S := SteadyOn w.heap.size wr) (last := 11) (by kernel_rfl) (by kernel_rfl) ⟨fun _ => rfl⟩ ?_
      intro hSt
      refine wpAnyL_seq (is := [0, 1, 2, 3, 4, 5]) (by kernel_rfl) (by kernel_rfl) (fun _ _ d _ _ h => by cases d <;> exact h) (by assumption) ?_
      iterate 6 (first | (refine TakeSeqL.step (v := undef) rfl (Or.inr ⟨by rfl, rfl⟩) ?_; simp only [Act.put, List.setIfInBounds_toArray, List.set_cons_zero, List.set_cons_succ, List.getElem_toArray, List.getElem_cons_zero, List.getElem_cons_succ]) | (refine TakeSeqL.step (v := ?_) rfl (Or.inl ⟨by rfl, ?_⟩) ?_; rotate_left 1; (focus (intro wq hSq; have hrd := hSq.rule; go_simp; with_reducible rfl)); simp only [Act.put, List.setIfInBounds_toArray, List.set_cons_zero, List.set_cons_succ, List.getElem_toArray, List.getElem_cons_zero, List.getElem_cons_succ]))
      refine TakeSeqL.done ?_
      refine wpAnyL_ready (rs := [6]) (by kernel_rfl) (by simp) ?_
      refine AllReadyL.cons rfl (by decide) (fun K hK => ?_) (AllReadyL.nil)
      rw [if_pos (by rfl)]
      go_simp
      go_at_call 12; refine (newNode_ok _).mono ?_; rintro e w3 ⟨⟨p3, q3, c3, rfl⟩, hb3⟩; have hb4 : Below wr.heap.size wr w3 := (by (repeat (first | with_reducible exact Below.refl _ _ | with_reducible assumption | with_reducible refine Below.setCell ?_ (by first | (simp; done) | (simp; omega)) _ | with_reducible refine below_alloc ?_ _ | with_reducible refine below_drewN ?_ _ | with_reducible refine Below.drew ?_ | with_reducible refine below_step ?_ (by assumption))))
      go_wp2_with fail
      refine hK.out _ _ (⟨fun o => hb4.cell (p := ⟨w.heap.size, o, none⟩) lf⟩) (fun hHeld => ?_)
      clear hK K
      refine wpAnyL_ready (rs := [7]) (by kernel_rfl) (by simp) ?_
      refine AllReadyL.cons rfl (by decide) (fun K hK => ?_) (AllReadyL.nil)
      rw [if_pos (by rfl)]
      go_simp
      refine hK.out _ _ (⟨fun o => (below_alloc hb4 _).cell (p := ⟨w.heap.size, o, none⟩) lf⟩) (fun hHeld => ?_)
      clear hK K
      refine wpAnyL_ready (rs := [8]) (by kernel_rfl) (by simp) ?_
      refine AllReadyL.cons rfl (by decide) (fun K hK => ?_) (AllReadyL.nil)
      rw [if_pos (by rfl)]
      have h34 := hb4.size
      have hown3 := own_below (own_below HX.out.2 hb4) (below_alloc (Below.refl _ _) (.cells #[.slice p3 q3 c3, .bool true] 61))
      refine wp_append_mine (.tmp 22) (.tmp 25) 53 rfl W.heap.size 61 i0 _ 2 32 Tryz.underlying53 hi hz0 hz1 hz2 rfl (by decide) (.slice pv i cv) i (ndCells l) rfl
        hown3 ⟨w3.heap.size, 0, none⟩ 1 1 [.slice p3 q3 c3, .bool true] rfl rfl (lit_news (o := 0) (cs := #[.slice p3 q3 c3, .bool true]) (Blk.made _ _ _)) (by intro u hu; simp at hu; rcases hu with rfl | rfl <;> rfl) (by omega) (by unfold maxLen; omega) (by omega) (by simp; omega) ?_
      intro g6 c6 w6 hown6 hg6
      have BF6 : Blk w6 w.heap.size 58 #[.int .i64 108, .slice pv i cv, .slice none 0 0, .slice none 0 0, .slice none 0 0] := ((HX.out.1.kept hb4).alloc _).grown hg6 (own_ne hown3 hlW)
      refine hK.out _ _ ⟨fun o => by rw [BF6.cell, HX.out.1.cell]⟩ (fun hHeld => ?_)
      clear hK K
      simp only [Act.put, List.setIfInBounds_toArray, List.set_cons_zero, List.set_cons_succ, List.getElem_toArray, List.getElem_cons_zero, List.getElem_cons_succ]
      have kf6 := BF6.cell
      have ff6 := BF6.free
      have lf6 := BF6.lt
      refine wpAnyL_seq (is := [9, 10]) (by kernel_rfl) (by kernel_rfl) (fun _ _ d _ _ h => by cases d <;> exact h) (by assumption) ?_
      iterate 2 (first | (refine TakeSeqL.step (v := undef) rfl (Or.inr ⟨by rfl, rfl⟩) ?_; simp only [Act.put, List.setIfInBounds_toArray, List.set_cons_zero, List.set_cons_succ, List.getElem_toArray, List.getElem_cons_zero, List.getElem_cons_succ]) | (refine TakeSeqL.step (v := ?_) rfl (Or.inl ⟨by rfl, ?_⟩) ?_; rotate_left 1; (focus (intro wq hSq; have hrd := hSq.rule; go_simp; with_reducible rfl)); simp only [Act.put, List.setIfInBounds_toArray, List.set_cons_zero, List.set_cons_succ, List.getElem_toArray, List.getElem_cons_zero, List.getElem_cons_succ]))
      refine TakeSeqL.done ?_
      refine wpAnyL_ready (rs := [11]) (by kernel_rfl) (by simp) ?_
      refine AllReadyL.final rfl (fun K hK => ?_)
      rw [if_pos (by rfl)]
      go_simp
      refine hK.out _ _ ?_
      clear hK K
      refine wpAnyL_done (by kernel_rfl) ?_ _
      go_wp2_with fail
      obtain ⟨hil, hlv, ho⟩ := HI.out
      have hne : w.heap.size < g6 := by have := (own_blk hown6).1; omega
      refine ⟨⟨l ++ [.slice p3 q3 c3], by rw [List.length_append, ← hil]; simp; omega, by rw [List.length_append, ← hil]; simp, Lib.hid ⟨_, fun u hu => ?_, (BF6.put 1 (.slice (some ⟨g6, 0, none⟩) (i + 1) c6)).cast rfl, ?_, ?_⟩⟩, by simp [intOf]; omega⟩
      · rcases List.mem_append.1 hu with h | h
        · exact hlv u h
        · exact ⟨_, _, _, by simpa using h⟩
      · have h1 := own_cast hown6 (show i + 1 = (l ++ [Value.slice p3 q3 c3]).length by rw [List.length_append, ← hil]; rfl) (show ndCells l ++ [.slice p3 q3 c3, .bool true] = ndCells (l ++ [.slice p3 q3 c3]) by rw [ndCells_append]; simp [ndCells])
        exact own_set h1 (by simp [Value.ownBlock]; omega) _
      · exact (Over.grown2 ((ho.trans (Over.of_below hb4)).alloc _) hg6 (fun k hk => own_row_ge hown3 k hk)).put 1 _
    · have e : n = i := by omega
      subst e
      have b1 : ¬ (n : Int) < n := by omega
      obtain ⟨nd, hpv⟩ := own_form HX.out.2 (by omega)
      obtain ⟨cn, hpv⟩ := hpv
      simp only [Value.slice.injEq, true_and] at hpv
      obtain ⟨rfl, rfl⟩ := hpv
      clear b1
      go_wp2_with fail
      refine wp_loop_rounds 2 ?_
      rw [rounds_succ]
      go_wp2_with (at_builtin; refine halt ?_)
      refine unhalt ?_
      have hown0 := HX.out.2
      have BF0 := HX.out.1
      refine wpList_append_mine rfl (.tmp 38) (.tmp 40) 54 rfl wr.heap.size 65 j0 _ 7 88 Tryz.underlying54 hj hy0 hy1 hy2 rfl (by decide) (.slice none 0 0) 0 [] rfl
        (World.ownsRow_nil _ _ _ _) ⟨wr.heap.size, 0, none⟩ 1 1 [.bool true, .int .i64 1, .bool false, .slice none 0 0, .slice none 0 0, .int .i64 0, .int .i64 0] rfl rfl (lit_news (o := 0) (cs := #[.bool true, .int .i64 1, .bool false, .slice none 0 0, .slice none 0 0, .int .i64 0, .int .i64 0]) (Blk.made _ _ _))
        (by intro u hu; simp at hu; rcases hu with rfl | rfl | rfl | rfl | rfl | rfl | rfl <;> rfl) (by omega) (by unfold maxLen; omega) (by omega) (by simp) ?_
      intro gc cc wc hownc hgc
      have hbc : Below wr.heap.size wr wc := below_grown (w := wr) (w1 := wr.alloc _) (by (repeat (first | with_reducible exact Below.refl _ _ | with_reducible assumption | with_reducible refine Below.setCell ?_ (by first | (simp; done) | (simp; omega)) _ | with_reducible refine below_alloc ?_ _ | with_reducible refine below_drewN ?_ _ | with_reducible refine Below.drew ?_ | with_reducible refine below_step ?_ (by assumption)))) hgc (fun j hj => by simp [Value.ownBlock] at hj)
      have BFc := BF0.kept hbc
      have hownn := own_below hown0 hbc
      obtain ⟨hgcb, -, curc, BCc, hcc, hcurc⟩ := own_blk hownc
      have kfc := BFc.cell
      have ffc := BFc.free
      have lfc := BFc.lt
      clear hown0 BF0 kf ff lf
      go_upto_region 10 with (fail)
      have hgw : w.heap.size < gc := by omega
      have BF7 : Blk (wc.setCell ⟨w.heap.size, 2, none⟩ (.slice (some ⟨gc, 0, none⟩) 1 cc)) w.heap.size 58 #[.int .i64 108, .slice (some ⟨nd, 0, none⟩) n cv, .slice (some ⟨gc, 0, none⟩) 1 cc, .slice none 0 0, .slice none 0 0] := (BFc.put 2 _).cast rfl
      have ho7 : Over w.heap.size wc (wc.setCell ⟨w.heap.size, 2, none⟩ (.slice (some ⟨gc, 0, none⟩) 1 cc)) := (Over.refl _ _).put 2 _
      have HO7 : Hid (Over w.heap.size wr (wc.setCell ⟨w.heap.size, 2, none⟩ (.slice (some ⟨gc, 0, none⟩) 1 cc)) ∧ (wc.setCell ⟨w.heap.size, 2, none⟩ (.slice (some ⟨gc, 0, none⟩) 1 cc)).ownsRow W.heap.size 61 2 (.slice (some ⟨nd, 0, none⟩) n cv) n (ndCells l) ∧ Blk (wc.setCell ⟨w.heap.size, 2, none⟩ (.slice (some ⟨gc, 0, none⟩) 1 cc)) gc 65 curc) := Lib.hid ⟨(Over.of_below hbc).trans ho7, own_set hownn (by have := (own_blk hownn).1; simp [Value.ownBlock]; omega) _, BCc.aside (by simp; omega) _⟩
      have hszc : (wc.setCell ⟨w.heap.size, 2, none⟩ (.slice (some ⟨gc, 0, none⟩) 1 cc)).heap.size = wc.heap.size := by simp
      have hcW := hbc.size
      have hszc1 := Nat.le_of_eq hszc.symm
      clear hszc
      generalize hW7 : World.setCell wc _ _ = w7 at *
      have kf7 := BF7.cell
      have ff7 := BF7.free
      have lf7 := BF7.lt
      have HB7 := Lib.hid BF7
      have HCc := Lib.hid hcurc
      clear hW7 ho7 BF7 BFc hownn BCc hcc hcurc hownc hgc kfc ffc lfc hbc
      go_wp2_with (at_builtin; refine halt ?_)
      refine unhalt ?_
      refine wpList_append_mine rfl (.tmp 48) (.tmp 49) 55 rfl w7.heap.size 56 k0 _ 1 24 Tryz.underlying55 hk hx0 hx1 hx2 rfl (by decide) (.slice none 0 0) 0 [] rfl
        (World.ownsRow_nil _ _ _ _) ⟨w7.heap.size, 0, none⟩ 1 1 [.slice none 0 0] rfl rfl (lit_news (o := 0) (cs := #[.slice none 0 0]) (Blk.made _ _ _))
        (by intro u hu; simp at hu; rcases hu with rfl; rfl) (by omega) (by unfold maxLen; omega) (by omega) (by simp) ?_
      intro gl cl w8 hownl hgl
      have hb8 : Below w7.heap.size w7 w8 := below_grown (w := w7) (w1 := w7.alloc _) (by (repeat (first | with_reducible exact Below.refl _ _ | with_reducible assumption | with_reducible refine Below.setCell ?_ (by first | (simp; done) | (simp; omega)) _ | with_reducible refine below_alloc ?_ _ | with_reducible refine below_drewN ?_ _ | with_reducible refine Below.drew ?_ | with_reducible refine below_step ?_ (by assumption)))) hgl (fun j hj => by simp [Value.ownBlock] at hj)
      have BF8 := HB7.out.kept hb8
      obtain ⟨hglb, -, curl, BL8, hcl, hcurl⟩ := own_blk hownl
      have kf8 := BF8.cell
      have ff8 := BF8.free
      have lf8 := BF8.lt
      clear kf7 ff7 lf7
      go_upto_region 11 with (fail)
      have hglw : w.heap.size < gl := by omega
      have hcgl : gc < gl := by have := HO7.out.2.2.lt; omega
      have BF9 : Blk (w8.setCell ⟨w.heap.size, 3, none⟩ (.slice (some ⟨gl, 0, none⟩) 1 cl)) w.heap.size 58 #[.int .i64 108, .slice (some ⟨nd, 0, none⟩) n cv, .slice (some ⟨gc, 0, none⟩) 1 cc, .slice (some ⟨gl, 0, none⟩) 1 cl, .slice none 0 0] := (BF8.put 3 _).cast rfl
      have hown8 := own_below HO7.out.2.1 hb8
      have HO9 : Hid (Over w.heap.size wr (w8.setCell ⟨w.heap.size, 3, none⟩ (.slice (some ⟨gl, 0, none⟩) 1 cl)) ∧ (w8.setCell ⟨w.heap.size, 3, none⟩ (.slice (some ⟨gl, 0, none⟩) 1 cl)).ownsRow W.heap.size 61 2 (.slice (some ⟨nd, 0, none⟩) n cv) n (ndCells l) ∧ Blk (w8.setCell ⟨w.heap.size, 3, none⟩ (.slice (some ⟨gl, 0, none⟩) 1 cl)) gc 65 curc ∧ Blk (w8.setCell ⟨w.heap.size, 3, none⟩ (.slice (some ⟨gl, 0, none⟩) 1 cl)) gl 56 curl) :=
        Lib.hid ⟨(HO7.out.1.trans (Over.of_below hb8)).put 3 _, own_set hown8 (by have := (own_blk hown8).1; simp [Value.ownBlock]; omega) _, (HO7.out.2.2.kept hb8).aside (by simp; omega) _, BL8.aside (by simp; omega) _⟩
      have HCl := Lib.hid (hcurl 0 (.slice none 0 0) rfl)
      generalize hW9 : World.setCell w8 _ _ = w9 at *
      have HRn : Hid (Calls Tryz.prog 13 #[.pointer (some ⟨w.heap.size, 0, none⟩), .int .i64 0] w9 fun e w' => e = .returned (.tuple #[]) ∧ RnPost n gl curl w9 w') := Lib.hid (by
        refine renew_ok w.heap.size nd gc gl n cv cc cl curl _ w9 hn hn4 BF9 ?_ HO9.out.2.2.1.lt HO9.out.2.2.2 HCl.out
        exact (HO9.out.2.2.1.cell 1).trans (HCc.out 1 _ rfl))
      have HB9 := Lib.hid BF9
      clear hW9 BF9 BF8 hown8 BL8 hcl hcurl hownl hgl kf8 ff8 lf8 hb8
      go_wp2_with fail
      go_at_call 13
      refine HRn.out.mono ?_
      rintro e w10 ⟨rfl, pr, cp, csp, hpr, hbp, hpc, hbl, hm⟩
      have HP : Hid (({ f := w.heap.size, nd := nd, cl := gc, lv := gl, pr := pr, mb := List.replicate n 0, cn := cv, cc := cc, ca := cl, cp := cp } : Geo).Pre w10 n ∧ Below w.heap.size w w10 ∧ w.heap.size ≤ nd ∧ w.heap.size ≤ gc ∧ w.heap.size ≤ pr) := Lib.hid (by
        have hnd := own_blk HO9.out.2.1
        obtain ⟨hndb, -, curn, BN, hcn, hcurn⟩ := hnd
        have hgll := HO9.out.2.2.2
        refine ⟨⟨?_, by simp, ⟨curn, hm.blk BN (BN.ne hgll (by decide)), fun i hi => ?_⟩, ⟨_, hbl, ?_⟩, ⟨curc, 0, 0, hm.blk HO9.out.2.2.1 (HO9.out.2.2.1.ne hgll (by decide)), HCc.out 0 _ rfl, HCc.out 1 _ rfl, HCc.out 2 _ rfl, HCc.out 3 _ rfl, HCc.out 4 _ rfl, HCc.out 5 _ rfl, HCc.out 6 _ rfl⟩, ⟨csp, hbp, hpc⟩⟩, ?_, by omega, by omega, by have := HO9.out.1.size; omega⟩
        · have := hm.blk HB9.out (HB9.out.ne hgll (by decide))
          simpa [Geo.fcs] using this
        · obtain ⟨hil, hlv, ho⟩ := HI.out
          obtain ⟨u, hu⟩ : ∃ u, l[i]? = some u := ⟨_, List.getElem?_eq_getElem (by omega)⟩
          obtain ⟨p, q, c, rfl⟩ := hlv u (List.mem_of_getElem? hu)
          have hfl := fun r hr => flat_at (fun v : Value => [v, Value.bool true]) 2 (fun _ => rfl) l i _ hu r hr
          exact ⟨p, q, c, hcurn _ _ (hfl 0 (by omega)), hcurn _ _ (hfl 1 (by omega))⟩
        · rw [Array.getElem?_setIfInBounds, if_pos rfl, if_pos (Array.getElem?_eq_some_iff.1 HCl.out).1]
        · obtain ⟨hil, hlv, ho⟩ := HI.out
          have h1 : Over w.heap.size W w9 := ho.trans HO9.out.1
          have h2 := HB.out.2.1
          exact ⟨hm.os.trans (h1.os.trans h2.os), hm.tape.trans (h1.tape.trans h2.tape), hm.output.trans (h1.output.trans h2.output), by have := h1.size; have := hm.size; have := h2.size; omega, fun k hk => (hm.block k (by have := h1.size; have := h2.size; omega) (by omega)).trans ((h1.block k (by have := h2.size; omega) (fun e => by injection e with e; omega)).trans (h2.block k hk))⟩)
      clear hbp hpc hbl hm
      go_wp2_with fail
      rw [rounds_succ]
      go_wp2_with fail
      refine bodyPost_ret (results_tmp rfl _ _ _) rfl ?_
      exact ⟨_, rfl, HP.out⟩
end Go.Proofs.YtoidjgongafnkaaGreatDoor
