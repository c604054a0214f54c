/- Package view: a verb is addressed; words are cloned. -/
import Derived.Test.YtoidjgongafnkaaGreatDoorQe
import Derived.Lib.SliceRun
set_option linter.unusedVariables false
set_option linter.unusedSimpArgs false
set_option linter.unusedSectionVars false
set_option linter.constructorNameAsVariable false
namespace Go.Proofs.YtoidjgongafnkaaGreatDoor
open Go.RowKit

theorem wpList_append_src {P : Program} {w : World} {ops : Array Oper} {rest : List Oper} {o : Oper} {a : Act} {Q : Exit → Act → World → Prop} (hgd : o.guard = none) (s x : Operand) (t : TypeId)
    (ho : o.op = .call { callee := .builtin .append, args := #[s, x], argTypes := #[t, t] })
    (base : Nat) (e : TypeId) (i : TypeInfo) (z : Value) (size bytes : Nat) (ht : P.underlying t = some (.slice e)) (hi : P.info? e = some i) (hz : i.zero = some z)
    (hsize : i.size = size) (hby : i.bytes = bytes) (hzs : z.cells.size = size) (hsz : 0 < size)
    (v : Value) (n : Nat) (xs : List Value) (hs : a.eval s = v) (hown : w.ownsRow base e size v n xs)
    (vx : Value) (m : Nat) (news : List Value) (hx : a.eval x = vx) (hsrc : SrcAt w vx m news) (hl : news.length = m * size)
    (h63 : n + m ≤ maxLen) (hbytes : (n + m) * bytes ≤ 140737488355328) (hbase : base ≤ w.heap.size)
    (h : ∀ v' w', w'.ownsRow base e size v' (n + m) (xs ++ news) → w.grownBy w' v.ownBlock → wpList P ops Q rest (a.put o.dst v') w') : wpList P ops Q (o :: rest) a w :=
  wpList_plain hgd fun K hK => wp_append_src s x t ho base e i z size bytes ht hi hz hsize hby hzs hsz v n xs hs hown vx m news hx hsrc hl h63 hbytes hbase (fun v' w' h1 h2 => hK _ _ (h v' w' h1 h2))
theorem SrcAt.alloc {w : World} {v : Value} {m : Nat} {news : List Value} (h : SrcAt w v m news) (o : Obj) : SrcAt (w.alloc o) v m news := by
  rcases h with h | ⟨ad, c, hv, hc, h1⟩
  · exact .inl h
  · refine .inr ⟨ad, c, hv, fun j u hj => ?_, h1⟩
    have := hc j u hj
    have hlt : (ad.add j).block < w.heap.size := by
      by_cases hlt : (ad.add j).block < w.heap.size
      · exact hlt
      · exfalso
        unfold World.cell? at this
        rw [Array.getElem?_eq_none (by omega)] at this
        simp at this
    exact ((below_alloc (Below.refl w.heap.size w) o).cell hlt).trans this
theorem eqU64s (a : Option Addr) (n c : Nat) (w : World) : (binOp .eql 59 (.slice a n c) (.slice none 0 0)).run Tryz.prog w = .ok (.bool a.isNone) w :=
  Lib.run_eql_slice_nil w _ _ a n c 0 0 Tryz.underlying59
theorem eqMems (a : Option Addr) (n c : Nat) (w : World) : (binOp .eql 25 (.slice a n c) (.slice none 0 0)).run Tryz.prog w = .ok (.bool a.isNone) w :=
  Lib.run_eql_slice_nil w _ _ a n c 0 0 Tryz.underlying25

set_option maxRecDepth 10000 in
theorem cloneNil (w : World) : Calls Tryz.prog 191 #[.slice none 0 0] w fun e w' => e = .returned (.slice none 0 0) ∧ w = w' := by
  have eqs := eqU64s
  go_enter Tryz.func191, Tryz.ntmps191
  go_wp2_with fail
  refine bodyPost_ret (results_tmp rfl _ _ _) rfl ⟨rfl, rfl⟩
set_option maxRecDepth 10000 in
theorem cloneSome (lo b o n cap : Nat) (xs : List Int) (w : World) (h : WordsAt w lo (.slice (some ⟨b, o, none⟩) n cap) xs) (hn : 0 < n) (hx : n = xs.length) (hx2 : n ≤ 1000) :
    Calls Tryz.prog 191 #[.slice (some ⟨b, o, none⟩) n cap] w fun e w' => (∃ v, e = .returned v ∧ WordsAt w' w.heap.size v xs) ∧ Below w.heap.size w w' := by
  obtain ⟨i0, hi, hz0, hz1, hz2⟩ := info_parts infoU64
  have HS : Hid (SrcAt w (.slice (some ⟨b, o, none⟩) n cap) n (u64s xs)) := Lib.hid (by rw [hx] at h ⊢; exact RowAt.src h (u64s_one xs) (.inr (by omega)))
  have hlt : b < w.heap.size := by
    obtain ⟨b', o', cap', hv, _, hlt, _⟩ := RowAt.form h (by omega)
    simp only [Value.slice.injEq, Option.some.injEq, Addr.mk.injEq] at hv
    obtain ⟨⟨rfl, _⟩, _⟩ := hv
    exact hlt
  clear h
  have eqs := eqU64s
  go_enter Tryz.func191, Tryz.ntmps191
  go_wp2_with (at_builtin; refine halt ?_)
  refine unhalt ?_
  refine wpList_append_src rfl (.tmp 5) (.tmp 6) 59 rfl w.heap.size 33 i0 _ 1 8 Tryz.underlying59 hi hz0 hz1 hz2 rfl (by decide) (.slice (some ⟨w.heap.size, 0, none⟩) 0 0) 0 [] rfl
    (own_empty rfl (Nat.le_refl _)) (.slice (some ⟨b, o, none⟩) n cap) n (u64s xs) rfl (HS.out.alloc _) (by simp [u64s, hx]) (by unfold maxLen; omega) (by omega) (by simp) ?_
  intro v w3 hown hg
  have hb3 : Below w.heap.size w w3 := below_grown (w := w) (w1 := w.alloc _) (by (repeat (first | with_reducible exact Below.refl _ _ | with_reducible assumption | with_reducible refine Below.setCell ?_ (by first | (simp; done) | (simp; omega)) _ | with_reducible refine below_alloc ?_ _ | with_reducible refine below_drewN ?_ _ | with_reducible refine Below.drew ?_ | with_reducible refine below_step ?_ (by assumption)))) hg (fun j hj => by simp [Value.ownBlock] at hj; omega)
  have HO : Hid (WordsAt w3 w.heap.size v xs) := Lib.hid (RowAt.cast (RowAt.of_own hown) (by omega) (by simp))
  clear hown hg eqs
  go_wp2_with fail
  refine bodyPost_ret (results_tmp rfl _ _ _) rfl ⟨⟨v, rfl, HO.out⟩, hb3⟩

theorem vbArr_one (x : Cm.Vb) (p : Option Addr) (n c : Nat) : (vbArr x (.slice p n c)).all (·.oneCell') = true := by simp [vbArr, Value.oneCell']
/-- A verb that is not yet addressed. -/
def rawArr (x : Cm.Vb) (vw : Value) : Array Value := #[.int .i64 x.kind, .int .i64 0, .int .i64 x.at_, .int .i64 x.n, .int .u64 x.old, .int .u64 x.new, vw, .int .u64 0, .int .i64 0]
/-- An addressed verb is answered. -/
def AddrPost (x : Cm.Vb) (w : World) (e : Ending) (w' : World) : Prop := (∃ vw, e = .returned (.agg (vbArr x vw)) ∧ WordsAt w' w.heap.size vw x.words) ∧ Below w.heap.size w w'

set_option maxRecDepth 10000 in
set_option maxHeartbeats 1000000 in
theorem address_ok (x : Cm.Vb) (lo : Nat) (p : Option Addr) (n c : Nat) (q : Option Addr) (k d : Nat) (fl : Bool) (w : World) (h : WordsAt w lo (.slice q k d) x.words) (hq : q = none ∧ d = 0 ∨ 0 < x.words.length) (hx2 : x.words.length ≤ 1000) :
    Calls Tryz.prog 123 #[.agg #[.int .i64 0, .slice p n c], .agg #[.int .i64 x.node, .int .i64 1, .bool fl], .bool true, .agg (rawArr x (.slice q k d))] w (AddrPost x w) := by
  unfold rawArr
  have hk : k = x.words.length := by
    obtain ⟨p, c, hv⟩ := RowAt.shape h
    simp only [Value.slice.injEq] at hv
    exact hv.2.1
  subst hk
  go_enter Tryz.func123, Tryz.ntmps123
  go_wp2_with fail
  generalize hW : World.alloc _ _ = W
  have BV : Blk W w.heap.size 27 #[.int .i64 0, .slice p n c] := by rw [← hW]; exact (((Blk.made w _ _).alloc _).alloc _).alloc _
  have BM : Blk W (w.heap.size + 1) 75 #[.int .i64 x.node, .int .i64 1, .bool fl] := by rw [← hW]; refine Blk.alloc (Blk.alloc (Blk.made' ?_) _) _; simp
  have BX : Blk W (w.heap.size + 1 + 1) 147 #[.int .i64 x.kind, .int .i64 0, .int .i64 x.at_, .int .i64 x.n, .int .u64 x.old, .int .u64 x.new, .slice q x.words.length d, .int .u64 0, .int .i64 0] := by rw [← hW]; refine Blk.alloc (Blk.made' ?_) _; simp
  have BR : Blk W (w.heap.size + 1 + 1 + 1) 147 #[.int .i64 0, .int .i64 0, .int .i64 0, .int .i64 0, .int .u64 0, .int .u64 0, .slice none 0 0, .int .u64 0, .int .i64 0] := by rw [← hW]; exact Blk.made' (by simp)
  have hbW : Below w.heap.size w W := by rw [← hW]; (repeat (first | with_reducible exact Below.refl _ _ | with_reducible assumption | with_reducible refine Below.setCell ?_ (by first | (simp; done) | (simp; omega)) _ | with_reducible refine below_alloc ?_ _ | with_reducible refine below_drewN ?_ _ | with_reducible refine Below.drew ?_ | with_reducible refine below_step ?_ (by assumption)))
  have HBW := Lib.hid hbW
  have HBR := Lib.hid BR
  have HBX := Lib.hid BX
  have kv := BV.cell
  have km := BM.cell
  have kx := BX.cell
  have fx := BX.free
  have lv := BV.lt
  have lm := BM.lt
  have lx := BX.lt
  have l1 : w.heap.size + 1 < w.heap.size + 1 + 1 := by omega
  have l0 : w.heap.size < w.heap.size + 1 + 1 := by omega
  clear hW BV BM BX BR hbW
  refine wp_region_held_drew (S := SteadyBut (w.heap.size + 1 + 1) _) (by kernel_rfl) (SteadyBut.of (Below.refl _ _).drew) ?_
  intro hSt
  refine wpAnyH_seq (is := [0, 1, 2, 3, 4]) (by kernel_rfl) (by kernel_rfl) (fun _ _ d _ _ h => by cases d <;> exact h) (by assumption) ?_
  iterate 5 (first | (refine TakeSeq.step (v := undef) rfl (Or.inr ⟨by rfl, rfl⟩) ?_; simp only [Act.put, List.setIfInBounds_toArray, List.set_cons_zero, List.set_cons_succ, List.getElem_toArray, List.getElem_cons_zero, List.getElem_cons_succ]) | (refine TakeSeq.step (v := ?_) rfl (Or.inl ⟨by rfl, ?_⟩) ?_; rotate_left 1; (focus (intro wq hSq; have hrd := hSq.rule; go_simp; with_reducible rfl)); simp only [Act.put, List.setIfInBounds_toArray, List.set_cons_zero, List.set_cons_succ, List.getElem_toArray, List.getElem_cons_zero, List.getElem_cons_succ]))
  refine TakeSeq.done ?_
  refine wpAnyH_ready (rs := [5]) (by kernel_rfl) (by simp) ?_
  refine AllReadyH.cons rfl (fun K hK => ?_) (AllReadyH.nil)
  rw [if_pos (by rfl)]
  go_simp
  refine hK.out _ _ (SteadyBut.over (by (repeat (first | with_reducible exact Over.refl _ _ | with_reducible assumption | with_reducible refine Over.put ?_ _ _ | with_reducible refine Over.alloc ?_ _ | with_reducible refine Over.drew ?_ | with_reducible refine Over.own ?_ (by first | (simp; done) | (simp; omega)) _ | with_reducible refine Over.trans ?_ (by assumption) | with_reducible refine Over.then_below ?_ (by assumption))))) (fun hHeld => ?_)
  clear hK K
  refine wpAnyH_seq (is := [6]) (by kernel_rfl) (by kernel_rfl) (fun _ _ d _ _ h => by cases d <;> exact h) (by assumption) ?_
  iterate 1 (first | (refine TakeSeq.step (v := undef) rfl (Or.inr ⟨by rfl, rfl⟩) ?_; simp only [Act.put, List.setIfInBounds_toArray, List.set_cons_zero, List.set_cons_succ, List.getElem_toArray, List.getElem_cons_zero, List.getElem_cons_succ]) | (refine TakeSeq.step (v := ?_) rfl (Or.inl ⟨by rfl, ?_⟩) ?_; rotate_left 1; (focus (intro wq hSq; have hrd := hSq.rule; go_simp; with_reducible rfl)); simp only [Act.put, List.setIfInBounds_toArray, List.set_cons_zero, List.set_cons_succ, List.getElem_toArray, List.getElem_cons_zero, List.getElem_cons_succ]))
  refine TakeSeq.done ?_
  refine wpAnyH_ready (rs := [7]) (by kernel_rfl) (by simp) ?_
  refine AllReadyH.cons rfl (fun K hK => ?_) (AllReadyH.nil)
  rw [if_pos (by rfl)]
  go_simp
  refine hK.out _ _ (SteadyBut.over (by (repeat (first | with_reducible exact Over.refl _ _ | with_reducible assumption | with_reducible refine Over.put ?_ _ _ | with_reducible refine Over.alloc ?_ _ | with_reducible refine Over.drew ?_ | with_reducible refine Over.own ?_ (by first | (simp; done) | (simp; omega)) _ | with_reducible refine Over.trans ?_ (by assumption) | with_reducible refine Over.then_below ?_ (by assumption))))) (fun hHeld => ?_)
  clear hK K
  refine wpAnyH_done (by kernel_rfl) ?_ _
  go_wp2_with (go_at_call 190; refine (key0 _).mono ?_; rintro e w1 ⟨rfl, rfl⟩)
  have B3 := ((((HBX.out.put 1 (.int .i64 x.node)).put 8 (.int .i64 1)).put 7 (.int .u64 1)).drew).cast (cs' := #[.int .i64 x.kind, .int .i64 x.node, .int .i64 x.at_, .int .i64 x.n, .int .u64 x.old, .int .u64 x.new, .slice q x.words.length d, .int .u64 1, .int .i64 1]) rfl
  have hb3 : Below w.heap.size w (((W.setCell ⟨w.heap.size + 1 + 1, 1, none⟩ (.int .i64 x.node)).setCell ⟨w.heap.size + 1 + 1, 8, none⟩ (.int .i64 1)).setCell ⟨w.heap.size + 1 + 1, 7, none⟩ (.int .u64 1)).drew := by have := HBW.out; (repeat (first | with_reducible exact Below.refl _ _ | with_reducible assumption | with_reducible refine Below.setCell ?_ (by first | (simp; done) | (simp; omega)) _ | with_reducible refine below_alloc ?_ _ | with_reducible refine below_drewN ?_ _ | with_reducible refine Below.drew ?_ | with_reducible refine below_step ?_ (by assumption)))
  have B4 : Blk (((W.setCell ⟨w.heap.size + 1 + 1, 1, none⟩ (.int .i64 x.node)).setCell ⟨w.heap.size + 1 + 1, 8, none⟩ (.int .i64 1)).setCell ⟨w.heap.size + 1 + 1, 7, none⟩ (.int .u64 1)).drew (w.heap.size + 1 + 1 + 1) 147 _ := (((HBR.out.aside (by simp) _).aside (by simp) _).aside (by simp) _).drew
  generalize hX : (((W.setCell ⟨w.heap.size + 1 + 1, 1, none⟩ (.int .i64 x.node)).setCell ⟨w.heap.size + 1 + 1, 8, none⟩ (.int .i64 1)).setCell ⟨w.heap.size + 1 + 1, 7, none⟩ (.int .u64 1)).drew = WX at *
  have HC : Hid (Calls Tryz.prog 191 #[.slice q x.words.length d] WX fun e w' => (∃ v, e = .returned v ∧ WordsAt w' WX.heap.size v x.words) ∧ Below WX.heap.size WX w') := Lib.hid (by
    have hX2 := WordsAt.below h (Below.mono hb3 (Nat.le_refl _))
    by_cases h0 : x.words.length = 0
    · have hnil : x.words = [] := List.length_eq_zero_iff.1 h0
      rcases hq with ⟨rfl, rfl⟩ | hq
      · rw [h0]
        refine (cloneNil WX).mono ?_
        rintro e w' ⟨rfl, rfl⟩
        exact ⟨⟨_, rfl, by rw [hnil]; exact RowAt.nil _ _ _ _⟩, Below.refl _ _⟩
      · omega
    · obtain ⟨b, o, cap, hv, _⟩ := RowAt.form hX2 (by omega)
      simp only [Value.slice.injEq, true_and] at hv
      obtain ⟨rfl, rfl⟩ := hv
      exact cloneSome lo b o _ _ x.words WX hX2 (by omega) rfl hx2)
  have HB3 := Lib.hid (And.intro B3 (And.intro B4 hb3))
  have k3 := B3.cell
  have f3 := B3.free
  clear kv km kx fx lv lm lx l1 l0 hX B3 B4 hb3 HBR HBX hSt h hq HBW
  go_at_call 191
  refine HC.out.mono ?_
  rintro e w5 ⟨⟨v, rfl, hwv⟩, hb5⟩
  obtain ⟨pv, cv, rfl⟩ := RowAt.shape hwv
  have B5 := HB3.out.1.kept hb5
  have B6 := HB3.out.2.1.kept hb5
  have k5 := B5.cell
  have f5 := B5.free
  have f6 := B6.free
  have k6 := B6.cell
  have hb6 := HB3.out.2.2
  have HB5 := Lib.hid (And.intro B5 (And.intro B6 (below_step hb6 hb5)))
  have HWV := Lib.hid (RowAt.low hwv hb6.size)
  clear k3 f3 B5 B6 hb5 hb6 hwv HC
  go_upto_region 4 with (fail)
  have B7 := (HB5.out.1.put 6 (.slice pv x.words.length cv)).cast (cs' := vbArr x (.slice pv x.words.length cv)) rfl
  have B8 : Blk (w5.setCell ⟨w.heap.size + 1 + 1, 6, none⟩ (.slice pv x.words.length cv)) (w.heap.size + 1 + 1 + 1) 147 _ := HB5.out.2.1.aside (by simp) _
  have hb8 : Below w.heap.size w (w5.setCell ⟨w.heap.size + 1 + 1, 6, none⟩ (.slice pv x.words.length cv)) := by have := HB5.out.2.2; (repeat (first | with_reducible exact Below.refl _ _ | with_reducible assumption | with_reducible refine Below.setCell ?_ (by first | (simp; done) | (simp; omega)) _ | with_reducible refine below_alloc ?_ _ | with_reducible refine below_drewN ?_ _ | with_reducible refine Below.drew ?_ | with_reducible refine below_step ?_ (by assumption)))
  have hw8 : WordsAt (w5.setCell ⟨w.heap.size + 1 + 1, 6, none⟩ (.slice pv x.words.length cv)) w.heap.size (.slice pv x.words.length cv) x.words :=
    WordsAt.mod (S := fun b => b = w.heap.size + 1 + 1) HWV.out (Mod.put (S := fun b => b = w.heap.size + 1 + 1) (p := ⟨w.heap.size + 1 + 1, 6, none⟩) (Mod.refl _ _) (.inl rfl) _) (fun b hb => .inr ⟨_, _, hb ▸ HB5.out.1, by decide⟩)
  generalize hY : w5.setCell ⟨w.heap.size + 1 + 1, 6, none⟩ (.slice pv x.words.length cv) = wy at *
  go_step
  refine wpList_load_blk rfl 147 (.tmp 7) rfl (w.heap.size + 1 + 1) rfl _ _ _ B7 Tryz.underlying147 rfl (by kernel_rfl) ?_
  refine wpList_store_cut rfl 147 (.tmp 8) (.tmp 27) rfl (w.heap.size + 1 + 1 + 1) (vbArr x (.slice pv x.words.length cv)) rfl rfl _ _ B8 (by kernel_rfl) rfl (vbArr_one x _ _ _) (fun wz B_wz ho_wz hz_wz => ?_)
  simp only [Act.put, List.setIfInBounds_toArray, List.set_cons_zero, List.set_cons_succ, List.getElem_toArray, List.getElem_cons_zero, List.getElem_cons_succ]
  have hb9 : Below w.heap.size w wz := below_grown hb8 ho_wz (fun j hj => by injection hj with hj; omega)
  have hw9 : WordsAt wz w.heap.size (.slice pv x.words.length cv) x.words := WordsAt.mod (S := fun b => b = w.heap.size + 1 + 1 + 1) hw8 ((Mod.refl _ _).over ho_wz (.inl rfl)) (fun b hb => .inr ⟨_, _, hb ▸ B8, by decide⟩)
  clear k5 f5 k6 f6 HB5 hY B7 B8 hb8 hw8 ho_wz hz_wz
  have HZ := Lib.hid (And.intro hb9 hw9)
  have HBZ := Lib.hid B_wz
  clear hb9 hw9 B_wz
  go_wp2_with fail
  refine bodyPost_ret (results_b rfl _ _ (w.heap.size + 1 + 1 + 1) _ _ _ rfl HBZ.out Tryz.underlying147 rfl (by kernel_rfl)) rfl ⟨⟨_, rfl, HZ.out.2⟩, HZ.out.1⟩
end Go.Proofs.YtoidjgongafnkaaGreatDoor
