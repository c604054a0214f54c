/- The reference's fabric: a piece of a verb on a node's memory. -/
import Derived.Test.YtoidjgongafnkaaGreatDoorQh
import Derived.Test.YtoidjgongafnkaaGreatDoorWCs
set_option linter.unusedVariables false
set_option linter.unusedSimpArgs false
set_option linter.unusedSectionVars false
set_option linter.constructorNameAsVariable false
namespace Go.Proofs.YtoidjgongafnkaaGreatDoor
open Go.RowKit

/-- A node's words. -/
def MemAt (w : World) (b : Nat) (m : Cm.Mem) : Prop := ∃ cs, Blk w b 33 cs ∧ cs.size = 864 ∧ ∀ k, k < 864 → cs[k]? = some (.int .u64 (m k))
theorem MemAt.cell {w : World} {b : Nat} {m : Cm.Mem} (h : MemAt w b m) (k : Nat) (hk : k < 864) : w.cell? ⟨b, k, none⟩ = some (.int .u64 (m k)) := by
  obtain ⟨cs, h1, _, h3⟩ := h
  rw [h1.cell, h3 k hk]
theorem MemAt.lt {w : World} {b : Nat} {m : Cm.Mem} (h : MemAt w b m) : b < w.heap.size := by
  obtain ⟨cs, h1, _, _⟩ := h
  exact h1.lt
theorem MemAt.free {w : World} {b : Nat} {m : Cm.Mem} (h : MemAt w b m) (k : Nat) : w.frozen? ⟨b, k, none⟩ = false := by
  obtain ⟨cs, h1, _, _⟩ := h
  exact h1.free k
theorem MemAt.put {w : World} {b : Nat} {m : Cm.Mem} (h : MemAt w b m) (i : Nat) (x : Int) : MemAt (w.setCell ⟨b, i, none⟩ (.int .u64 x)) b (m.set i x) := by
  obtain ⟨cs, h1, h2, h3⟩ := h
  refine ⟨_, h1.put i _, by simp [h2], fun k hk => ?_⟩
  rw [Array.getElem?_setIfInBounds]
  unfold Cm.Mem.set
  by_cases e : i = k
  · subst e; simp [h2, hk]
  · rw [if_neg e, if_neg (fun h => e h.symm)]; exact h3 k hk
theorem MemAt.mod {S : Nat → Prop} {w w' : World} {b : Nat} {m : Cm.Mem} (h : MemAt w b m) (hm : Mod S w w') (hs : ¬ S b) : MemAt w' b m := by
  obtain ⟨cs, h1, h2, h3⟩ := h
  exact ⟨cs, hm.blk h1 hs, h2, h3⟩
theorem MemAt.below {w w' : World} {b : Nat} {m : Cm.Mem} (h : MemAt w b m) (hb : Below w.heap.size w w') : MemAt w' b m := by
  obtain ⟨cs, h1, h2, h3⟩ := h
  exact ⟨cs, h1.kept hb, h2, h3⟩
theorem MemAt.src {w : World} {b : Nat} {m : Cm.Mem} (h : MemAt w b m) (a n c : Nat) (ha : a + n ≤ 864) : SrcAt w (.slice (some ⟨b, a, none⟩) n c) n (u64s ((List.range n).map fun i => m (a + i))) := by
  refine .inr ⟨⟨b, a, none⟩, c, rfl, fun q u hq => ?_, u64s_one _⟩
  have e : (⟨b, a, none⟩ : Addr).add q = ⟨b, a + q, none⟩ := by unfold Addr.add; split <;> simp_all
  rw [e]
  simp only [u64s, List.map_map, List.getElem?_map, Option.map_eq_some_iff] at hq
  obtain ⟨i, hi, rfl⟩ := hq
  have hi2 := List.getElem?_eq_some_iff.1 hi
  obtain ⟨hl, hi3⟩ := hi2
  simp at hl hi3
  subst hi3
  exact h.cell _ (by omega)
theorem write_snoc (l : List Int) : ∀ (m : Cm.Mem) (i : Nat) (x : Int), m.write i (l ++ [x]) = (m.write i l).set (i + l.length) x := by
  induction l with
  | nil => intro m i x; simp [Cm.Mem.write]
  | cons y l ih =>
    intro m i x
    simp only [List.cons_append, Cm.Mem.write, ih, List.length_cons]
    rw [show i + 1 + l.length = i + (l.length + 1) by omega]
def WrLoop (W : World) (b a n : Nat) (m : Cm.Mem) (l : List Int) (iv : Value) (wr : World) : Prop :=
  ∃ j : Nat, j ≤ n ∧ iv = .int .i64 j ∧ Hid (MemAt wr b (m.write a (l.take j)) ∧ Over b W wr)
def ExecPost (x : Cm.Vb) (pc : Nat × Nat) (b : Nat) (m : Cm.Mem) (w : World) (e : Ending) (w' : World) : Prop :=
  (∃ v, e = .returned v ∧ WordsAt w' w.heap.size v (x.exec m pc).1 ∧ ((x.exec m pc).1 = [] → v = .slice none 0 0)) ∧ MemAt w' b (x.exec m pc).2 ∧ Over b w w'

set_option maxRecDepth 10000 in
set_option maxHeartbeats 1000000 in
theorem execute_ok (x : Cm.Vb) (p : Option Addr) (c lo a n bn o b : Nat) (m : Cm.Mem) (w : World) (h : x.kind = 1 ∨ x.kind = 2 ∨ x.kind = 3) (h3 : x.kind = 3 → n = 1) (hn1 : 1 ≤ n) (han : a + n ≤ 864)
    (h2 : x.kind = 2 → x.at_ ≤ a ∧ a + n ≤ x.at_ + x.words.length) (hw : WordsAt w lo (.slice p x.words.length c) x.words) (hb : b < lo) (hl : x.words.length ≤ 1000) (hat : x.at_ ≤ 864)
    (hbn : bn < w.heap.size) (hbne : bn ≠ b) (hc : w.cell? ⟨bn, o, none⟩ = some (.slice (some ⟨b, 0, none⟩) 864 864)) (hm : MemAt w b m) :
    Calls Tryz.prog 114 #[.pointer (some ⟨bn, o, none⟩), .agg (vbArr x (.slice p x.words.length c)), .agg #[.int .i64 a, .int .i64 n]] w (ExecPost x (a, n) b m w) := by
  obtain ⟨i0, hi, hz0, hz1, hz2⟩ := info_parts infoU64
  have HM := Lib.hid (And.intro hm hw)
  have lb := hm.lt
  have q1 : (0 : Int) ≤ a := by omega
  have q2 : (a : Int) + n ≤ 864 := by omega
  have q3 : (1 : Int) ≤ n := by omega
  have q4 : (a : Int) ≤ (a : Int) + n := by omega
  have q5 : (a : Int) < 864 := by omega
  have q6 : (n : Int) ≤ 864 := by omega
  have q7 : ¬ 864 = a := by omega
  have q8 : ((a : Int) + n).toNat = a + n := by omega
  have q9 : a + n - a = n := by omega
  have qa : a ≤ a + n := by omega
  have qw : IntKind.i64.wrap ((a : Int) + n) = (a : Int) + n := by rw [IntKind.wrap_i64]; omega
  have qb : (0 : Int) ≤ (a : Int) + n := by omega
  obtain ⟨kd, nd, at', n0, old, new, ws⟩ := x
  simp only [vbArr] at *
  clear hm hw
  go_enter Tryz.func114, Tryz.ntmps114
  go_wp2_with fail
  have BV : Blk ((w.alloc (.cells #[.int .i64 kd, .int .i64 nd, .int .i64 at', .int .i64 n0, .int .u64 old, .int .u64 new, .slice p ws.length c, .int .u64 1, .int .i64 1] 147)).alloc (.cells #[.int .i64 (a : Int), .int .i64 (n : Int)] 215)) w.heap.size 147 #[.int .i64 kd, .int .i64 nd, .int .i64 at', .int .i64 n0, .int .u64 old, .int .u64 new, .slice p ws.length c, .int .u64 1, .int .i64 1] := made12 w
  have BP : Blk ((w.alloc (.cells #[.int .i64 kd, .int .i64 nd, .int .i64 at', .int .i64 n0, .int .u64 old, .int .u64 new, .slice p ws.length c, .int .u64 1, .int .i64 1] 147)).alloc (.cells #[.int .i64 (a : Int), .int .i64 (n : Int)] 215)) (w.heap.size + 1) 215 #[.int .i64 (a : Int), .int .i64 (n : Int)] := Blk.made' (by simp)
  have hbW : Below w.heap.size w ((w.alloc (.cells #[.int .i64 kd, .int .i64 nd, .int .i64 at', .int .i64 n0, .int .u64 old, .int .u64 new, .slice p ws.length c, .int .u64 1, .int .i64 1] 147)).alloc (.cells #[.int .i64 (a : Int), .int .i64 (n : Int)] 215)) := by (repeat (first | with_reducible exact Below.refl _ _ | with_reducible assumption | with_reducible refine Below.setCell ?_ (by first | (simp; done) | (simp; omega)) _ | with_reducible refine below_alloc ?_ _ | with_reducible refine below_drewN ?_ _ | with_reducible refine Below.drew ?_ | with_reducible refine below_step ?_ (by assumption)))
  generalize hW : World.alloc (World.alloc _ _) _ = W at *
  have kc := (hbW.cell (p := ⟨bn, o, none⟩) hbn).trans hc
  have lc := Nat.lt_of_lt_of_le hbn hbW.size
  have kv := BV.cell
  have kp := BP.cell
  have lv := BV.lt
  have lp := BP.lt
  have HB := Lib.hid (And.intro BV (And.intro BP hbW))
  clear hW BV BP hbW hc
  refine wp_region_held_drew (S := SteadyAll _) (by kernel_rfl) (SteadyAll.of (Below.refl _ _).drew) ?_
  intro hSt
  refine wpAnyH_seq (is := [0, 1, 2, 3, 4, 5, 6, 7, 8, 9, 10, 11]) (by kernel_rfl) (by kernel_rfl) (fun _ _ d _ _ h => by cases d <;> exact h) (by assumption) ?_
  iterate 12 (first | (refine TakeSeq.step (v := undef) rfl (Or.inr ⟨by rfl, rfl⟩) ?_; simp only [Act.put, List.setIfInBounds_toArray, List.set_cons_zero, List.set_cons_succ, List.getElem_toArray, List.getElem_cons_zero, List.getElem_cons_succ]) | (refine TakeSeq.step (v := ?_) rfl (Or.inl ⟨by rfl, ?_⟩) ?_; rotate_left 1; (focus (intro wq hSq; have hrd := hSq.rule; go_simp; with_reducible rfl)); simp only [Act.put, List.setIfInBounds_toArray, List.set_cons_zero, List.set_cons_succ, List.getElem_toArray, List.getElem_cons_zero, List.getElem_cons_succ]))
  refine TakeSeq.done ?_
  refine wpAnyH_ready (rs := [12]) (by kernel_rfl) (by simp) ?_
  refine AllReadyH.cons rfl (fun K hK => ?_) (AllReadyH.nil)
  rw [if_pos (by rfl)]
  have hbW := HB.out.2.2
  have hMW := HM.out.1.below hbW
  refine wp_append_src (.const (.slice none 0 0)) (.tmp 20) 59 rfl w.heap.size 33 i0 _ 1 8 Tryz.underlying59 hi hz0 hz1 hz2 rfl (by decide) (.slice none 0 0) 0 [] rfl
    (World.ownsRow_nil _ _ _ _) (.slice (some ⟨b, a, none⟩) n (864 - a)) n (u64s ((List.range n).map fun i => m (a + i))) rfl (hMW.src a n _ han) (by simp [u64s]) (by unfold maxLen; omega) (by omega) hbW.size ?_
  intro v w3 hown3 hg3
  have hb3 : Below W.heap.size W w3 := below_grown (w := W) (w1 := W.drew) (by (repeat (first | with_reducible exact Below.refl _ _ | with_reducible assumption | with_reducible refine Below.setCell ?_ (by first | (simp; done) | (simp; omega)) _ | with_reducible refine below_alloc ?_ _ | with_reducible refine below_drewN ?_ _ | with_reducible refine Below.drew ?_ | with_reducible refine below_step ?_ (by assumption)))) hg3 (fun j hj => by simp [Value.ownBlock] at hj)
  have HV : Hid (w3.ownsRow w.heap.size 33 1 v n (u64s ((List.range n).map fun i => m (a + i)))) := Lib.hid (own_cast hown3 (by omega) (by simp))
  have HW3 := Lib.hid hb3
  clear hown3 hg3
  refine hK.out _ _ (SteadyAll.of hb3) (fun hHeld => ?_)
  clear hK K
  simp only [Act.put, List.setIfInBounds_toArray, List.set_cons_zero, List.set_cons_succ, List.getElem_toArray, List.getElem_cons_zero, List.getElem_cons_succ]
  refine wpAnyH_seq (is := [13]) (by kernel_rfl) (by kernel_rfl) (fun _ _ d _ _ h => by cases d <;> exact h) (by assumption) ?_
  iterate 1 (first | (refine TakeSeq.step (v := undef) rfl (Or.inr ⟨by rfl, rfl⟩) ?_; simp only [Act.put, List.setIfInBounds_toArray, List.set_cons_zero, List.set_cons_succ, List.getElem_toArray, List.getElem_cons_zero, List.getElem_cons_succ]) | (refine TakeSeq.step (v := ?_) rfl (Or.inl ⟨by rfl, ?_⟩) ?_; rotate_left 1; (focus (intro wq hSq; have hrd := hSq.rule; go_simp; with_reducible rfl)); simp only [Act.put, List.setIfInBounds_toArray, List.set_cons_zero, List.set_cons_succ, List.getElem_toArray, List.getElem_cons_zero, List.getElem_cons_succ]))
  refine TakeSeq.done ?_
  refine wpAnyH_done (by kernel_rfl) ?_ _
  have BV3 := HB.out.1.kept hb3
  have BP3 := HB.out.2.1.kept hb3
  have kc3 := (hb3.cell (p := ⟨bn, o, none⟩) lc).trans kc
  have lc3 := Nat.lt_of_lt_of_le lc hb3.size
  have kv3 := BV3.cell
  have lv3 := BV3.lt
  have kp3 := BP3.cell
  have lp3 := BP3.lt
  have hbw : Below w.heap.size w w3 := below_step hbW hb3
  have hm3 := HM.out.1.below hbw
  have HZ := Lib.hid (And.intro BV3 (And.intro BP3 (And.intro hbw hm3)))
  clear hMW kc lc kv lv kp lp hSt hHeld hbW hb3 BV3 BP3
  rcases h with rfl | rfl | rfl
  · go_wp2_with fail
    refine bodyPost_ret (results_tmp rfl _ _ _) rfl ⟨⟨v, rfl, ?_, fun h => by simp [Cm.Vb.exec] at h; omega⟩, ?_, Over.of_below hbw⟩
    · simp only [Cm.Vb.exec]
      exact RowAt.cast (RowAt.of_own HV.out) (by simp) rfl
    · simpa [Cm.Vb.exec] using hm3
  · obtain ⟨h2a, h2b⟩ := h2 rfl
    obtain ⟨pb, po, pc, hpv, hlo, hlp, hpc⟩ := HM.out.2.form (by omega)
    simp only [Value.slice.injEq, true_and] at hpv
    obtain ⟨rfl, rfl⟩ := hpv
    have hbd : bn < b ∨ b < bn := by omega
    have hb1 : b < w.heap.size + 1 := by omega
    have hb2 : b < pb := by omega
    obtain ⟨l, hl0⟩ : ∃ l, l = (ws.drop (a - at')).take n := ⟨_, rfl⟩
    have hll : l.length = n := by rw [hl0]; simp; omega
    have HPC : Hid (∀ i, i < n → ∃ y, l[i]? = some y ∧ w3.cell? ⟨pb, po + (a - at' + i), none⟩ = some (.int .u64 y)) := Lib.hid (fun i hi => by
      obtain ⟨y, hy⟩ : ∃ y, ws[a - at' + i]? = some y := ⟨_, List.getElem?_eq_getElem (by omega)⟩
      refine ⟨y, ?_, ?_⟩
      · rw [hl0, List.getElem?_take_of_lt hi, List.getElem?_drop, hy]
      · refine (hbw.cell (p := ⟨pb, po + (a - at' + i), none⟩) hlp).trans (hpc _ _ ?_)
        simp [u64s, hy])
    have lp3' := Nat.lt_of_lt_of_le hlp hbw.size
    have HL := Lib.hid hl0
    have hat0 : (at' : Int) ≤ 864 := by omega
    clear hpc hl0
    go_wp2_with fail
    go_loopw [8] (fun iv wr => WrLoop w3 b a n m l iv wr) (fun iv _ => ((n : Int) - intOf iv).toNat)
    case atStart => exact ⟨0, by omega, rfl, Lib.hid ⟨by simpa [Cm.Mem.write] using HZ.out.2.2.2, Over.refl _ _⟩⟩
    case round =>
      obtain ⟨j, hj, rfl, H⟩ := hrel
      have hr := over_rules H.out.2
      have hsz := H.out.2.size
      have BV4 := HZ.out.1.grown H.out.2 (fun e => by injection e with e; omega)
      have BP4 := HZ.out.2.1.grown H.out.2 (fun e => by injection e with e; omega)
      have kv4 := BV4.cell
      have lv4 := BV4.lt
      have kp4 := BP4.cell
      have lp4 := BP4.lt
      have kc4 := (hr.1 bn o lc3 (by omega)).trans kc3
      have lc4 := Nat.lt_of_lt_of_le lc3 hsz
      have fb := H.out.1.free
      have lb4 := H.out.1.lt
      clear BV4 BP4 kv3 kp3 kc3 lv3 lp3 lc3
      by_cases hj2 : j < n
      · have b1 : decide ((j : Int) < n) = true := by simp; omega
        obtain ⟨y, hy, hyc⟩ := HPC.out j hj2
        have yc := (hr.1 pb _ lp3' (by omega)).trans hyc
        have lp5 := Nat.lt_of_lt_of_le lp3' hsz
        obtain ⟨ii, hii⟩ : ∃ ii, ii = a + j := ⟨_, rfl⟩
        obtain ⟨jj, hjj⟩ : ∃ jj, jj = a - at' + j := ⟨_, rfl⟩
        rw [← hjj] at yc
        have e1 : IntKind.i64.wrap ((a : Int) + j) = ((ii : Nat) : Int) := by rw [IntKind.wrap_i64]; omega
        have e2 : IntKind.i64.wrap ((a : Int) - at') = (a : Int) - at' := by rw [IntKind.wrap_i64]; omega
        have e3 : IntKind.i64.wrap ((a : Int) - at' + j) = ((jj : Nat) : Int) := by rw [IntKind.wrap_i64]; omega
        have cb := H.out.1.cell ii (by omega)
        have i1 : (0 : Int) ≤ ii := by omega
        have i2 : (ii : Int) < 864 := by omega
        have i3 : (0 : Int) ≤ jj := by omega
        have i4 : (jj : Int) < ws.length := by omega
        have HI := Lib.hid (And.intro hii hy)
        clear hr hyc hjj hii hy
        go_wp2_with fail
        refine wp_region_held_drew (S := SteadyBut (b) _) (by kernel_rfl) (SteadyBut.of (Below.refl _ _).drew) ?_
        intro hSt
        refine wpAnyH_seq (is := [0, 1, 2, 3, 4, 5, 6, 7, 8, 9, 10, 11, 12, 13, 14, 15, 16, 17, 18, 19]) (by kernel_rfl) (by kernel_rfl) (fun _ _ d _ _ h => by cases d <;> exact h) (by assumption) ?_
        iterate 20 (first | (refine TakeSeq.step (v := undef) rfl (Or.inr ⟨by rfl, rfl⟩) ?_; simp only [Act.put, List.setIfInBounds_toArray, List.set_cons_zero, List.set_cons_succ, List.getElem_toArray, List.getElem_cons_zero, List.getElem_cons_succ]) | (refine TakeSeq.step (v := ?_) rfl (Or.inl ⟨by rfl, ?_⟩) ?_; rotate_left 1; (focus (intro wq hSq; have hrd := hSq.rule; go_simp; with_reducible rfl)); simp only [Act.put, List.setIfInBounds_toArray, List.set_cons_zero, List.set_cons_succ, List.getElem_toArray, List.getElem_cons_zero, List.getElem_cons_succ]))
        refine TakeSeq.done ?_
        refine wpAnyH_ready (rs := [20]) (by kernel_rfl) (by simp) ?_
        refine AllReadyH.cons rfl (fun K hK => ?_) (AllReadyH.nil)
        rw [if_pos (by rfl)]
        go_simp
        refine hK.out _ _ (SteadyBut.over (by (repeat (first | with_reducible exact Over.refl _ _ | with_reducible assumption | with_reducible refine Over.put ?_ _ _ | with_reducible refine Over.alloc ?_ _ | with_reducible refine Over.drew ?_ | with_reducible refine Over.own ?_ (by first | (simp; done) | (simp; omega)) _ | with_reducible refine Over.trans ?_ (by assumption) | with_reducible refine Over.then_below ?_ (by assumption))))) (fun hHeld => ?_)
        clear hK K
        refine wpAnyH_done (by kernel_rfl) ?_ _
        go_wp2_with fail
        have hii := HI.out.1
        have hnew : MemAt (wr.setCell ⟨b, ii, none⟩ (.int .u64 y)).drew b (m.write a (l.take (j + 1))) := by
          have h1 := H.out.1.put ii y
          have e : l.take (j + 1) = l.take j ++ [y] := by rw [List.take_add_one, HI.out.2]; rfl
          have hlj : (l.take j).length = j := by rw [List.length_take]; omega
          rw [e, write_snoc, hlj, ← hii]
          exact h1
        have hov : Over b w3 (wr.setCell ⟨b, ii, none⟩ (.int .u64 y)).drew := (H.out.2.put ii _).drew
        exact ⟨⟨j + 1, by omega, by simp, Lib.hid ⟨hnew, hov⟩⟩, by simp [intOf]; omega⟩
      · have b1 : decide ((j : Int) < n) = false := by simp; omega
        go_wp2_with fail
        obtain rfl : j = n := by omega
        refine bodyPost_ret (results_tmp rfl _ _ _) rfl ⟨⟨_, rfl, ?_, fun _ => rfl⟩, ?_, (Over.of_below hbw).trans H.out.2⟩
        · simp only [Cm.Vb.exec]
          exact RowAt.nil _ _ _ _
        · simp only [Cm.Vb.exec]
          rw [if_neg (by decide), if_pos (by decide), ← HL.out]
          have := H.out.1
          rw [List.take_of_length_le (by omega)] at this
          exact this
  · obtain rfl : n = 1 := h3 rfl
    obtain ⟨gv, cv, hvv⟩ := own_form HV.out (by omega)
    subst hvv
    have kw : w3.cell? ⟨gv, 0, none⟩ = some (.int .u64 (m a)) := own_cells HV.out 0 _ (by simp [u64s])
    have lw := (own_lt HV.out).2
    go_wp2_with fail
    refine wp_region_held_drew (S := SteadyAll _) (by kernel_rfl) (SteadyAll.of (Below.refl _ _).drew) ?_
    intro hSt
    refine wpAnyH_seq (is := [0, 1, 2, 3, 4, 5]) (by kernel_rfl) (by kernel_rfl) (fun _ _ d _ _ h => by cases d <;> exact h) (by assumption) ?_
    iterate 6 (first | (refine TakeSeq.step (v := undef) rfl (Or.inr ⟨by rfl, rfl⟩) ?_; simp only [Act.put, List.setIfInBounds_toArray, List.set_cons_zero, List.set_cons_succ, List.getElem_toArray, List.getElem_cons_zero, List.getElem_cons_succ]) | (refine TakeSeq.step (v := ?_) rfl (Or.inl ⟨by rfl, ?_⟩) ?_; rotate_left 1; (focus (intro wq hSq; have hrd := hSq.rule; go_simp; with_reducible rfl)); simp only [Act.put, List.setIfInBounds_toArray, List.set_cons_zero, List.set_cons_succ, List.getElem_toArray, List.getElem_cons_zero, List.getElem_cons_succ]))
    refine TakeSeq.done ?_
    refine wpAnyH_done (by kernel_rfl) ?_ _
    have fb := hm3.free a
    have cb := hm3.cell a (by omega)
    have lb3 := hm3.lt
    by_cases hmo : m a = old
    · have b1 : decide (m a = old) = true := by simpa using hmo
      go_wp2_with fail
      have hbd : bn < b ∨ b < bn := by omega
      have hb1 : b < w.heap.size + 1 := by omega
      refine wp_region_held_drew (S := SteadyBut b w3) (by kernel_rfl) (SteadyBut.of (by (repeat (first | with_reducible exact Below.refl _ _ | with_reducible assumption | with_reducible refine Below.setCell ?_ (by first | (simp; done) | (simp; omega)) _ | with_reducible refine below_alloc ?_ _ | with_reducible refine below_drewN ?_ _ | with_reducible refine Below.drew ?_ | with_reducible refine below_step ?_ (by assumption))))) ?_
      intro hSt
      refine wpAnyH_seq (is := [0, 1, 2, 3, 4, 5, 6, 7, 8]) (by kernel_rfl) (by kernel_rfl) (fun _ _ d _ _ h => by cases d <;> exact h) (by assumption) ?_
      iterate 9 (first | (refine TakeSeq.step (v := undef) rfl (Or.inr ⟨by rfl, rfl⟩) ?_; simp only [Act.put, List.setIfInBounds_toArray, List.set_cons_zero, List.set_cons_succ, List.getElem_toArray, List.getElem_cons_zero, List.getElem_cons_succ]) | (refine TakeSeq.step (v := ?_) rfl (Or.inl ⟨by rfl, ?_⟩) ?_; rotate_left 1; (focus (intro wq hSq; have hrd := hSq.rule; go_simp; with_reducible rfl)); simp only [Act.put, List.setIfInBounds_toArray, List.set_cons_zero, List.set_cons_succ, List.getElem_toArray, List.getElem_cons_zero, List.getElem_cons_succ]))
      refine TakeSeq.done ?_
      refine wpAnyH_ready (rs := [9]) (by kernel_rfl) (by simp) ?_
      refine AllReadyH.cons rfl (fun K hK => ?_) (AllReadyH.nil)
      rw [if_pos (by rfl)]
      go_simp
      refine hK.out _ _ (SteadyBut.over (by (repeat (first | with_reducible exact Over.refl _ _ | with_reducible assumption | with_reducible refine Over.put ?_ _ _ | with_reducible refine Over.alloc ?_ _ | with_reducible refine Over.drew ?_ | with_reducible refine Over.own ?_ (by first | (simp; done) | (simp; omega)) _ | with_reducible refine Over.trans ?_ (by assumption) | with_reducible refine Over.then_below ?_ (by assumption))))) (fun hHeld => ?_)
      clear hK K
      refine wpAnyH_done (by kernel_rfl) ?_ _
      go_wp2_with fail
      have hp := MemAt.put HZ.out.2.2.2 a new
      have hov : Over b w3 ((w3.setCell ⟨b, a, none⟩ (.int .u64 new)).drew).drew := (((Over.refl b w3).put a _).drew).drew
      refine bodyPost_ret (results_tmp rfl _ _ _) rfl ⟨⟨_, rfl, ?_, fun h => by simp [Cm.Vb.exec] at h⟩, ?_, ?_⟩
      · simp only [Cm.Vb.exec]
        have hg := (own_lt HV.out).1
        refine RowAt.cast (RowAt.of_own (own_held HV.out hov (fun c hc hh => ?_))) (by simp) (by simp)
        simp [Value.ownBlock] at hc
        injection hh with hh
        omega
      · simp only [Cm.Vb.exec]
        rw [if_neg (by decide), if_neg (by decide), if_pos hmo]
        exact hp
      · exact (Over.of_below hbw).trans hov
    · have b1 : decide (m a = old) = false := by simpa using hmo
      go_wp2_with fail
      refine bodyPost_ret (results_tmp rfl _ _ _) rfl ⟨⟨_, rfl, ?_, fun h => by simp [Cm.Vb.exec] at h⟩, ?_, ?_⟩
      · simp only [Cm.Vb.exec]
        exact RowAt.cast (RowAt.of_own HV.out) (by simp) (by simp)
      · simp only [Cm.Vb.exec]
        rw [if_neg (by decide), if_neg (by decide), if_neg hmo]
        exact HZ.out.2.2.2
      · exact (Over.of_below hbw).drew
end Go.Proofs.YtoidjgongafnkaaGreatDoor
