/- hashindex.Bucket.fill in the example. -/
import Derived.Test.YtcoiehgcfjfhaaaGreatDoorQ19
import Derived.Test.YtcoiehgcfjfhaaaGreatDoorQ02
set_option linter.all false
set_option maxRecDepth 20000
set_option maxHeartbeats 8000000
open Go.Lib (hid)
namespace Go.Proofs.YtcoiehgcfjfhaaaGreatDoor
open Go.RowKit
def bktTag : Bt.Page := ⟨106, 256, 258, 0, 0, 0, 0, 0, 0⟩
def bktPage : Bt.Page := ⟨106, 256, 1099511628034, 0, 21474836841, 0, 0, 0, 0⟩
theorem pack_105 (w : World) : Calls Tryz.prog 207 #[.agg #[.int .i64 105, .int .i64 1]] w fun e w' => e = .returned (.int .u32 361) ∧ Below w.heap.size w w' := Pack_any 105 1 w
theorem sbs9 {r : Nat} {w1 wx : World} (h : SteadyBut r w1 wx) {v0 v1 v2 v3 v4 v5 v6 : Value} : SteadyBut r w1 (((((((wx.setCell ⟨r, 2, none⟩ v0).setCell ⟨r, 3, none⟩ v1).setCell ⟨r, 4, none⟩ v2).setCell ⟨r, 5, none⟩ v3).setCell ⟨r, 6, none⟩ v4).setCell ⟨r, 7, none⟩ v5).setCell ⟨r, 8, none⟩ v6) := ((((((h.set 2 _).set 3 _).set 4 _).set 5 _).set 6 _).set 7 _).set 8 _
theorem hiBucketFill (e : Nat) (w : World) (hE : Blk w e 173 #[.int .u32 5, .int .i64 105, .int .i64 1]) :
    Calls Tryz.prog 262 #[.agg #[.int .i64 0, .int .u32 0, .int .i64 0, .int .i64 0, .slice (some ⟨e, 0, none⟩) 1 1], .agg bktTag.cells] w fun e w' => e = .returned (.agg bktPage.cells) ∧ Below w.heap.size w w' := by
  have HU : Hid (∀ W, Calls Tryz.prog 160 #[.int .u64 258] W fun e w' => e = .returned (.agg #[.int .i64 2, .int .i64 1, .int .u32 0]) ∧ Below W.heap.size W w') := hid (fun W => UnpackTag_any 258 (by omega) (by omega) W)
  have HT : Hid (∀ W, Calls Tryz.prog 208 #[.agg #[.int .i64 2, .int .i64 1, .int .u32 256]] W fun e w' => e = .returned (.int .u64 1099511628034) ∧ Below W.heap.size W w') := hid (fun W => PackTag_any 2 1 256 (by omega) (by omega) (by omega) W)
  have HP0 := hid (fun W => pack_nil W)
  have HP := hid (fun W => pack_105 W)
  have HE := hid hE
  have he := hE.lt
  clear hE
  unfold bktTag bktPage Bt.Page.cells
  simp only
  go_enter Tryz.func262, Tryz.ntmps262
  go_wp2_with fail
  go_at_call 160; refine (HU.out _).mono ?_; rintro e1 w1 ⟨rfl, hb1⟩; ((obtain ⟨hc1, hf1, hs1⟩ := qR hb1); (try have z1_w_0 := qN0 w w1); (try have z1_w_1 := qN1 w w1); (try have z1_w_2 := qN2 w w1))
  have o1 : bits BinOp.or IntKind.u32 0 256 = 256 := by kernel_rfl
  have o2 : bits BinOp.or IntKind.u32 256 0 = 256 := by kernel_rfl
  go_upto_region 3 with (fail)
  have B0 := (((Blk.made w 383 #[.int .i64 0, .int .u32 0, .int .i64 0, .int .i64 0, .slice (some ⟨e, 0, none⟩) 1 1]).alloc (.cells #[.int .i64 106, .int .u64 256, .int .u64 258, .int .u64 0, .int .u64 0, .int .u64 0, .int .u64 0, .int .u64 0, .int .u64 0] 75)).alloc (.cells #[.int .i64 0, .int .u64 0, .int .u64 0, .int .u64 0, .int .u64 0, .int .u64 0, .int .u64 0, .int .u64 0, .int .u64 0] 75)).kept hb1
  have P0 := ((Blk.made' (w := w.alloc (.cells #[.int .i64 0, .int .u32 0, .int .i64 0, .int .i64 0, .slice (some ⟨e, 0, none⟩) 1 1] 383)) (t := 75) (cs := #[.int .i64 106, .int .u64 256, .int .u64 258, .int .u64 0, .int .u64 0, .int .u64 0, .int .u64 0, .int .u64 0, .int .u64 0]) rfl).alloc (.cells #[.int .i64 0, .int .u64 0, .int .u64 0, .int .u64 0, .int .u64 0, .int .u64 0, .int .u64 0, .int .u64 0, .int .u64 0] 75)).kept hb1
  have Z0 := (Blk.made' (w := (w.alloc (.cells #[.int .i64 0, .int .u32 0, .int .i64 0, .int .i64 0, .slice (some ⟨e, 0, none⟩) 1 1] 383)).alloc (.cells #[.int .i64 106, .int .u64 256, .int .u64 258, .int .u64 0, .int .u64 0, .int .u64 0, .int .u64 0, .int .u64 0, .int .u64 0] 75)) (t := 75) (cs := #[.int .i64 0, .int .u64 0, .int .u64 0, .int .u64 0, .int .u64 0, .int .u64 0, .int .u64 0, .int .u64 0, .int .u64 0]) rfl).kept hb1
  have E0 := (((HE.out.alloc (.cells #[.int .i64 0, .int .u32 0, .int .i64 0, .int .i64 0, .slice (some ⟨e, 0, none⟩) 1 1] 383)).alloc (.cells #[.int .i64 106, .int .u64 256, .int .u64 258, .int .u64 0, .int .u64 0, .int .u64 0, .int .u64 0, .int .u64 0, .int .u64 0] 75)).alloc (.cells #[.int .i64 0, .int .u64 0, .int .u64 0, .int .u64 0, .int .u64 0, .int .u64 0, .int .u64 0, .int .u64 0, .int .u64 0] 75)).kept hb1
  simp only [size_alloc] at P0 Z0
  have hx : w.heap.size + 1 + 1 < w1.heap.size := by omega
  obtain ⟨x1, hx1⟩ : ∃ x, w1.heap.size = x := ⟨_, rfl⟩
  refine wp_name (fun W => Blk W w.heap.size 383 #[.int .i64 0, .int .u32 0, .int .i64 0, .int .i64 0, .slice (some ⟨e, 0, none⟩) 1 1] ∧ Blk W (w.heap.size + 1) 75 #[.int .i64 106, .int .u64 256, .int .u64 258, .int .u64 0, .int .u64 0, .int .u64 0, .int .u64 0, .int .u64 0, .int .u64 0] ∧ Blk W (w.heap.size + 1 + 1) 75 #[.int .i64 0, .int .u64 0, .int .u64 0, .int .u64 0, .int .u64 0, .int .u64 0, .int .u64 0, .int .u64 0, .int .u64 0] ∧ Blk W x1 278 #[.int .i64 2, .int .i64 1, .int .u32 256] ∧ Blk W e 173 #[.int .u32 5, .int .i64 105, .int .i64 1] ∧ Below w.heap.size w W) ⟨?_, ?_, ?_, ?_, ?_, ?_⟩ (fun w2 H2 => ?_)
  · (repeat (first | with_reducible exact B0 | with_reducible apply Blk.put | with_reducible apply Blk.alloc | (with_reducible apply Blk.aside; (case hp => first | (simp; done) | (simp; omega))) | with_reducible apply Blk.drew))
  · (repeat (first | with_reducible exact P0 | with_reducible apply Blk.put | with_reducible apply Blk.alloc | (with_reducible apply Blk.aside; (case hp => first | (simp; done) | (simp; omega))) | with_reducible apply Blk.drew))
  · (repeat (first | with_reducible exact Z0 | with_reducible apply Blk.put | with_reducible apply Blk.alloc | (with_reducible apply Blk.aside; (case hp => first | (simp; done) | (simp; omega))) | with_reducible apply Blk.drew))
  · rw [← hx1]
    exact Blk.made w1 278 #[.int .i64 2, .int .i64 1, .int .u32 256]
  · (repeat (first | with_reducible exact E0 | with_reducible apply Blk.put | with_reducible apply Blk.alloc | (with_reducible apply Blk.aside; (case hp => first | (simp; done) | (simp; omega))) | with_reducible apply Blk.drew))
  · exact qL
  rw [hx1] at hx ⊢
  have hx' : w.heap.size + 1 < x1 := by omega
  clear B0 P0 Z0 E0 HE hb1 hc1 hf1 hs1 hx1 z1_w_0 z1_w_1 z1_w_2 o1 o2
  have kb := H2.out.1.cell
  have lb := H2.out.1.lt
  have kp := H2.out.2.1.cell
  have fp := H2.out.2.1.free
  have lp := H2.out.2.1.lt
  have kz := H2.out.2.2.1.cell
  have fz := H2.out.2.2.1.free
  have lz := H2.out.2.2.1.lt
  have kt := H2.out.2.2.2.1.cell
  have lt := H2.out.2.2.2.1.lt
  have ke := H2.out.2.2.2.2.1.cell
  have le := H2.out.2.2.2.2.1.lt
  refine qB (w.heap.size + 1) fun hSt => ?_
  refine qS [0, 2, 3] ?_
  iterate 3 (refine qT ?_; simp only [Act.put, qY])
  refine TakeSeq.done ?_
  refine qH 1 fun K hK => ?_
  go_simp
  go_at_call 208; refine (HT.out _).mono ?_; rintro e3 w3 ⟨rfl, hb3⟩
  go_wp2_with fail
  refine hK.out _ _ (SteadyBut.of qL) (fun hHeld => ?_)
  clear hK K
  refine qH 4 fun K hK => ?_
  go_simp
  go_at_call 207; refine (HP0.out _).mono ?_; rintro e4 w4 ⟨rfl, hb4⟩; ((obtain ⟨hc3, hf3, hs3⟩ := qR hb3); (try have := qN0 w w3); (try have := qN1 w w3); (try have := qN2 w w3); (try have := qN0 w2 w3)); ((obtain ⟨hc4, hf4, hs4⟩ := qR hb4); (try have := qN0 w w4); (try have := qN1 w w4); (try have := qN2 w w4); (try have := qN0 w2 w4); (try have := qN0 w3 w4))
  go_wp2_with fail
  refine hK.out _ _ (SteadyBut.of qL) (fun hHeld => ?_)
  clear hK K
  refine qS [5, 6, 7] ?_
  iterate 3 (refine qT ?_; simp only [Act.put, qY])
  refine TakeSeq.done ?_
  refine qH 8 fun K hK => ?_
  go_simp
  refine hK.out _ _ (sbs9 (SteadyBut.of qL)) (fun hHeld => ?_)
  clear hK K
  refine qD ?_ _
  have hb24 : Below w2.heap.size w2 w4 := ((Below.refl _ _).drew.trans hb3).trans (hb4.mono (by have := hb3.size; simpa using this))
  go_wp2_with fail
  refine wp_name (fun W => Blk W w.heap.size 383 #[.int .i64 0, .int .u32 0, .int .i64 0, .int .i64 0, .slice (some ⟨e, 0, none⟩) 1 1] ∧ Blk W (w.heap.size + 1) 75 #[.int .i64 106, .int .u64 256, .int .u64 1099511628034, .int .u64 0, .int .u64 0, .int .u64 0, .int .u64 0, .int .u64 0, .int .u64 0] ∧ Blk W (w.heap.size + 1 + 1) 75 #[.int .i64 0, .int .u64 0, .int .u64 0, .int .u64 0, .int .u64 0, .int .u64 0, .int .u64 0, .int .u64 0, .int .u64 0] ∧ Blk W x1 278 #[.int .i64 2, .int .i64 1, .int .u32 256] ∧ Blk W e 173 #[.int .u32 5, .int .i64 105, .int .i64 1] ∧ Below w.heap.size w W) ⟨?_, ?_, ?_, ?_, ?_, ?_⟩ (fun w5 H5 => ?_)
  · have B := H2.out.1.kept hb24
    (repeat (first | with_reducible exact B | with_reducible apply Blk.put | with_reducible apply Blk.alloc | (with_reducible apply Blk.aside; (case hp => first | (simp; done) | (simp; omega))) | with_reducible apply Blk.drew))
  · have B := H2.out.2.1.kept hb24
    apply Blk.cast
    · (repeat (first | with_reducible exact B | with_reducible apply Blk.put | with_reducible apply Blk.alloc | (with_reducible apply Blk.aside; (case hp => first | (simp; done) | (simp; omega))) | with_reducible apply Blk.drew))
    · kernel_rfl
  · have B := H2.out.2.2.1.kept hb24
    (repeat (first | with_reducible exact B | with_reducible apply Blk.put | with_reducible apply Blk.alloc | (with_reducible apply Blk.aside; (case hp => first | (simp; done) | (simp; omega))) | with_reducible apply Blk.drew))
  · have B := H2.out.2.2.2.1.kept hb24
    (repeat (first | with_reducible exact B | with_reducible apply Blk.put | with_reducible apply Blk.alloc | (with_reducible apply Blk.aside; (case hp => first | (simp; done) | (simp; omega))) | with_reducible apply Blk.drew))
  · have B := H2.out.2.2.2.2.1.kept hb24
    (repeat (first | with_reducible exact B | with_reducible apply Blk.put | with_reducible apply Blk.alloc | (with_reducible apply Blk.aside; (case hp => first | (simp; done) | (simp; omega))) | with_reducible apply Blk.drew))
  · have h := H2.out.2.2.2.2.2
    have h2 : Below w.heap.size w w4 := qL
    exact qL
  clear H2 hb3 hc3 hf3 hs3 hb4 hc4 hf4 hs4 hb24 kb lb kp fp lp kz fz lz kt lt ke le
  have kb := H5.out.1.cell
  have lb := H5.out.1.lt
  have kp := H5.out.2.1.cell
  have fp := H5.out.2.1.free
  have lp := H5.out.2.1.lt
  have kz := H5.out.2.2.1.cell
  have fz := H5.out.2.2.1.free
  have lz := H5.out.2.2.1.lt
  have ke := H5.out.2.2.2.2.1.cell
  have le := H5.out.2.2.2.2.1.lt
  have u1 : IntKind.u64.wrap 5 = 5 := by rw [IntKind.wrap_u64]; omega
  have u2 : IntKind.u64.wrap 21474836480 = 21474836480 := by rw [IntKind.wrap_u64]; omega
  have u3 : IntKind.u64.wrap 361 = 361 := by rw [IntKind.wrap_u64]; omega
  have u4 : bits BinOp.or IntKind.u64 21474836480 361 = 21474836841 := by kernel_rfl
  have u6 : IntKind.i64.wrap 2 = 2 := by rw [IntKind.wrap_i64]; omega
  have u5 : (5 : Int) * 4294967296 = 21474836480 := by decide
  refine wp_loop_rounds 2 ?_
  rw [rounds_succ]
  go_upto_region 7 with (fail)
  refine qB (w.heap.size + 1) fun hSt => ?_
  refine qS [0, 1, 2, 3, 4, 5, 6, 7, 11] ?_
  iterate 9 (refine qT ?_; simp only [Act.put, qY])
  refine TakeSeq.done ?_
  refine qH 8 fun K hK => ?_
  go_simp
  go_at_call 207; refine (HP.out _).mono ?_; rintro e6 w6 ⟨rfl, hb6⟩; ((obtain ⟨hc6, hf6, hs6⟩ := qR hb6); (try have := qN0 w w6); (try have := qN1 w w6); (try have := qN2 w w6); (try have := qN0 w5 w6))
  go_wp2_with fail
  refine hK.out _ _ (SteadyBut.of qL) (fun hHeld => ?_)
  clear hK K
  refine qS [9, 10, 12] ?_
  iterate 3 (refine qT ?_; simp only [Act.put, qY])
  refine TakeSeq.done ?_
  refine qH 13 fun K hK => ?_
  go_simp
  refine hK.out _ _ (SteadyBut.set (SteadyBut.of qL) _ _) (fun hHeld => ?_)
  clear hK K
  refine qD ?_ _
  have hb56 : Below w5.heap.size w5 w6 := qL
  go_wp2_with fail
  rw [rounds_succ]
  go_wp2_with fail
  have B := (H5.out.2.2.1.kept hb56).aside (p := ⟨w.heap.size + 1, 4, none⟩) (by simp) (.int .u64 21474836841)
  have hbw5 := H5.out.2.2.2.2.2
  have hbw6 : Below w.heap.size w w6 := below_step hbw5 hb56
  have hb7 : Below w.heap.size w (w6.setCell ⟨w.heap.size + 1, 4, none⟩ (.int .u64 21474836841)) := hbw6.setCell (by show w.heap.size ≤ w.heap.size + 1; omega) _
  have hl : w.heap.size ≤ w.heap.size + 1 + 1 := by omega
  refine bodyPost_ret (results_b rfl _ _ (w.heap.size + 1 + 1) _ _ _ rfl (Blk.cast (((((((((B.put 0 _).put 1 _).put 2 _).put 3 _).put 4 _).put 5 _).put 6 _).put 7 _).put 8 _) (by kernel_rfl)) Tryz.underlying75 rfl (by kernel_rfl)) rfl ⟨rfl, (((((((((hb7.setCell hl _).setCell hl _).setCell hl _).setCell hl _).setCell hl _).setCell hl _).setCell hl _).setCell hl _).setCell hl _)⟩
section
variable {P : Program} {ops : Array Oper} {Q : Exit → Act → World → Prop} {md : Region.Mode} {S : World → Prop} {last : Nat}
def wpAnyL (P : Program) (md : Region.Mode) (ops : Array Oper) (Q : Exit → Act → World → Prop) (S : World → Prop) (last : Nat) : Nat → Array Bool → Act → World → Prop
  | 0, listed, a, w => Region.ready md ops listed = [] ∧ Q .normal a w
  | fuel + 1, listed, a, w =>
    (Region.ready md ops listed = [] → Q .normal a w) ∧
    ∀ i ∈ Region.ready md ops listed, (i = last → ∀ k, k < ops.size → k ≠ last → listed.getD k false = true) → wpOp P ops Q i (fun a' w' => (i ≠ last → S w') ∧ wpAnyL P md ops Q S last fuel (listed.setIfInBounds i true) a' w') a w
def ListedBack (md : Region.Mode) (ops : Array Oper) (listed : Array Bool) : Prop := ∀ k o, ops[k]? = some o → listed.getD k false = true → ∀ e ∈ o.after, Region.binds md e = true → listed.getD e.on false = true
def feeds (md : Region.Mode) (ops : Array Oper) (last : Nat) : Bool :=
  decide (last < ops.size) && (List.range ops.size).all fun k => k == last || (List.range ops.size).any fun m => decide (k < m) && ((ops[m]?).map fun o => o.after.any fun e => e.on == k && Region.binds md e).getD false
theorem feeds_spec (h : feeds md ops last = true) {k : Nat} (hk : k < ops.size) (hne : k ≠ last) : ∃ m o e, k < m ∧ m < ops.size ∧ ops[m]? = some o ∧ e ∈ o.after ∧ e.on = k ∧ Region.binds md e = true := by
  unfold feeds at h
  rw [Bool.and_eq_true] at h
  have h1 := List.all_eq_true.1 h.2 k (List.mem_range.2 hk)
  rw [Bool.or_eq_true, beq_iff_eq] at h1
  rcases h1 with h1 | h1
  · exact absurd h1 hne
  · obtain ⟨m, hm, h2⟩ := List.any_eq_true.1 h1
    have hlt := List.mem_range.1 hm
    rw [Bool.and_eq_true, decide_eq_true_eq] at h2
    have ho : ops[m]? = some ops[m] := Array.getElem?_eq_getElem hlt
    rw [ho] at h2
    simp only [Option.map_some, Option.getD_some, Array.any_eq_true', Bool.and_eq_true, beq_iff_eq] at h2
    obtain ⟨h3, e, h4, h5, h6⟩ := h2
    exact ⟨m, _, e, h3, hlt, ho, h4, h5, h6⟩
theorem feeds_all (h : feeds md ops last = true) {listed : Array Bool} (hb : ListedBack md ops listed) (hr : last ∈ Region.ready md ops listed) : ∀ k, k < ops.size → k ≠ last → listed.getD k false = true := by
  intro k hk
  obtain ⟨h0, ol, hol, hall⟩ := mem_ready.1 hr
  have main : ∀ d k, ops.size - k ≤ d → k < ops.size → k ≠ last → listed.getD k false = true := by
    intro d
    induction d with
    | zero => intro k hd hk _; omega
    | succ d ih =>
      intro k hd hk hne
      obtain ⟨m, o, e, h1, h2, h3, h4, h5, h6⟩ := feeds_spec h hk hne
      by_cases hml : m = last
      · subst hml
        rw [hol] at h3
        obtain rfl := Option.some.inj h3
        rw [← h5]; exact hall e h4 h6
      · have := hb m o h3 (ih m (by omega) h2 hml) e h4 h6
        rw [← h5]; exact this
  exact main _ k (Nat.le_refl _) hk
theorem ListedBack.set {listed : Array Bool} (hb : ListedBack md ops listed) {i : Nat} (hi : i ∈ Region.ready md ops listed) : ListedBack md ops (listed.setIfInBounds i true) := by
  intro k o ho hk e he hbd
  obtain ⟨h0, oi, hoi, hall⟩ := mem_ready.1 hi
  have keep : ∀ j, listed.getD j false = true → (listed.setIfInBounds i true).getD j false = true := fun j hj => by
    by_cases hij : i = j
    · subst hij
      by_cases hlt : i < listed.size
      · simp [Array.getD_eq_getD_getElem?, hlt]
      · rw [Array.getD_eq_getD_getElem?, Array.getElem?_eq_none (by omega)] at hj; simp at hj
    · rw [Array.getD_eq_getD_getElem?] at hj ⊢
      rw [Array.getElem?_setIfInBounds, if_neg hij]
      exact hj
  by_cases hki : i = k
  · subst hki
    rw [hoi] at ho
    obtain rfl := Option.some.inj ho
    exact keep _ (hall e he hbd)
  · refine keep _ (hb k o ho ?_ e he hbd)
    rw [Array.getD_eq_getD_getElem?] at hk ⊢
    rw [Array.getElem?_setIfInBounds, if_neg hki] at hk
    exact hk
theorem wpAny_of_late (hf : feeds md ops last = true) : ∀ (fuel : Nat) (listed : Array Bool) (a : Act) (w : World), ListedBack md ops listed → wpAnyL P md ops Q S last fuel listed a w → wpAny P md ops Q fuel listed a w
  | 0, _, _, _, _, h => h
  | fuel + 1, listed, a, w, hb, h => ⟨h.1, fun i hi => wpOp_mono (fun a' w' h' => wpAny_of_late hf fuel _ a' w' (hb.set hi) h'.2) (h.2 i hi (fun he => feeds_all hf hb (he ▸ hi)))⟩
theorem wp_region_late {id : Nat} {a : Act} {w : World} (hm : P.follows .mixedOrders = true) (hf : feeds .any ops last = true) (hS : S w.drew)
    (h : S w.drew → wpAnyL P .any ops Q S last ops.size (Array.replicate ops.size false) a w.drew) : (Code.region id ops true).wp P Q a w := by
  refine wp_region_any hm (wpAny_of_late (S := S) (last := last) hf _ _ _ _ (fun k o _ hk => ?_) (h hS))
  rw [Array.getD_eq_getD_getElem?, Array.getElem?_replicate] at hk
  split at hk <;> simp at hk
theorem wpAnyL_first {i : Nat} {oi : Oper} {v : Value} (hi : ops[i]? = some oi) (hil : i ≠ last) (hsel : ∀ (j : Nat) (o : Oper) cs b, ops[j]? = some o → o.op ≠ .select cs b)
    (hQ : ∀ c a w, Q (.panic c) (a.put oi.dst v) w → Q (.panic c) a w) :
    ∀ (fuel : Nat) (listed : Array Bool) (a : Act) (w : World),
      (∀ j oj, ops[j]? = some oj → j ≠ i → listed.getD j true = false → (∀ e ∈ oj.after, Region.binds md e = true → e.on ≠ i) → oi.apart ops oj = true) →
      i ∈ Region.ready md ops listed → YieldsIf P ops S oi v a → S w →
      wpAnyL P md ops Q S last fuel (listed.setIfInBounds i true) (a.put oi.dst v) w → wpAnyL P md ops Q S last (fuel + 1) listed a w := by
  have hlt : i < ops.size := (Array.getElem?_eq_some_iff.1 hi).1
  have hno : ∀ listed : Array Bool, i ∈ Region.ready md ops listed → ¬ (∀ k, k < ops.size → k ≠ last → listed.getD k false = true) := fun listed hr h => by
    have h1 := h i hlt hil
    have h0 := (mem_ready.1 hr).1
    rcases Nat.lt_or_ge i listed.size with h' | h'
    · simp [h'] at h0 h1; rw [h0] at h1; cases h1
    · simp [Array.getElem?_eq_none h'] at h1
  have hset : ∀ (listed : Array Bool) (j k : Nat), j ≠ last → (∀ k, k < ops.size → k ≠ last → listed.getD k false = true) → True := fun _ _ _ _ _ => trivial
  intro fuel
  induction fuel with
  | zero =>
    intro listed a w _ hr hy hS H
    refine ⟨fun h => (by rw [h] at hr; cases hr), fun j hj hjl => ?_⟩
    by_cases hji : j = i
    · subst hji; exact hy.wpOp hi hS ⟨fun _ => hS, H⟩
    · have := ready_mono hj hji
      rw [H.1] at this
      cases this
  | succ fuel ih =>
    intro listed a w hfree hr hy hS H
    refine ⟨fun h => (by rw [h] at hr; cases hr), fun j hj hjl => ?_⟩
    by_cases hji : j = i
    · subst hji; exact hy.wpOp hi hS ⟨fun _ => hS, H⟩
    · have hjlast : j ≠ last := fun he => hno listed hr (hjl he)
      have h1 := H.2 j (ready_mono hj hji) (fun he => absurd he hjlast)
      obtain ⟨hjun, oj, hoj, hall⟩ := mem_ready.1 hj
      have hnot : ∀ e ∈ oj.after, Region.binds md e = true → e.on ≠ i := fun e he hb heq => by
        have h1 := hall e he hb
        have h0 := (mem_ready.1 hr).1
        rw [heq] at h1
        rcases Nat.lt_or_ge i listed.size with h' | h'
        · simp [h'] at h0 h1; rw [h0] at h1; cases h1
        · simp [Array.getElem?_eq_none h'] at h1
      have h2 := wpOp_putIf hoj (hfree j oj hoj hji hjun hnot) (fun cs b => hsel i oi cs b hi) (fun cs b => hsel j oj cs b hoj) hQ hy h1
      have hfree' : ∀ k ok, ops[k]? = some ok → k ≠ i → (listed.setIfInBounds j true).getD k true = false →
          (∀ e ∈ ok.after, Region.binds md e = true → e.on ≠ i) → oi.apart ops ok = true := fun k ok hk hki hun hno => by
        refine hfree k ok hk hki ?_ hno
        by_cases hjk : j = k
        · subst hjk; exact hjun
        · rw [getD_set_ne true hjk] at hun; exact hun
      refine wpOp_mono (fun a' w' h3 => ⟨h3.2.1, ih (listed.setIfInBounds j true) a' w' hfree' (ready_mono hr (Ne.symm hji)) h3.1 (h3.2.1 hjlast) ?_⟩) h2
      rw [Array.setIfInBounds_comm _ _ hji]
      exact h3.2.2
theorem wpAnyL_take {i : Nat} {oi : Oper} {v : Value} {fuel : Nat} {listed : Array Bool} {a : Act} {w : World} (hi : ops[i]? = some oi) (hil : i ≠ last)
    (hs : Region.noSelect ops = true) (hf : Region.free md ops listed i = true) (hr : (Region.ready md ops listed).contains i = true)
    (hQ : ∀ c a w, Q (.panic c) (a.put oi.dst v) w → Q (.panic c) a w) (hy : YieldsIf P ops S oi v a) (hS : S w)
    (h : wpAnyL P md ops Q S last fuel (listed.setIfInBounds i true) (a.put oi.dst v) w) : wpAnyL P md ops Q S last (fuel + 1) listed a w :=
  wpAnyL_first hi hil (Region.noSelect_spec hs) hQ fuel listed a w (Region.free_spec hi hf) (by simpa using hr) hy hS h
theorem wpAnyL_done {listed : Array Bool} {a : Act} {w : World} (hr : Region.ready md ops listed = []) (h : Q .normal a w) :
    ∀ fuel, wpAnyL P md ops Q S last fuel listed a w
  | 0 => ⟨hr, h⟩
  | _ + 1 => ⟨fun _ => h, by rw [hr]; simp⟩
def TakeSeqL (P : Program) (md : Region.Mode) (ops : Array Oper) (Q : Exit → Act → World → Prop) (S : World → Prop) (last : Nat) (fuel : Nat) : List Nat → Array Bool → Act → World → Prop
  | [], l, a, w => wpAnyL P md ops Q S last fuel l a w
  | i :: is, l, a, w => ∃ o v, ops[i]? = some o ∧ YieldsIf P ops S o v a ∧ TakeSeqL P md ops Q S last fuel is (l.setIfInBounds i true) (a.put o.dst v) w
theorem TakeSeqL.step {fuel i : Nat} {is : List Nat} {l : Array Bool} {a : Act} {w : World} {o : Oper} {v : Value} (ho : ops[i]? = some o) (hy : YieldsIf P ops S o v a)
    (h : TakeSeqL P md ops Q S last fuel is (l.setIfInBounds i true) (a.put o.dst v) w) : TakeSeqL P md ops Q S last fuel (i :: is) l a w := ⟨o, v, ho, hy, h⟩
theorem TakeSeqL.done {fuel : Nat} {l : Array Bool} {a : Act} {w : World} (h : wpAnyL P md ops Q S last fuel l a w) : TakeSeqL P md ops Q S last fuel [] l a w := h
theorem wpAnyL_seq {is : List Nat} {fuel : Nat} {l : Array Bool} {a : Act} {w : World} (hs : Region.noSelect ops = true) (ht : (takeable md ops l is && !is.contains last) = true)
    (hQ : ∀ c a d v w, Q (.panic c) (a.put d v) w → Q (.panic c) a w) (hS : S w) (h : TakeSeqL P md ops Q S last fuel is l a w) : wpAnyL P md ops Q S last (fuel + is.length) l a w := by
  rw [Bool.and_eq_true] at ht
  induction is generalizing l a with
  | nil => exact h
  | cons i is ih =>
    obtain ⟨o, v, ho, hy, h2⟩ := h
    obtain ⟨ht1, ht2⟩ := ht
    simp only [takeable, Bool.and_eq_true] at ht1
    have hne : i ≠ last ∧ (!is.contains last) = true := by
      simp only [List.contains_cons, Bool.not_or, Bool.and_eq_true, Bool.not_eq_true', beq_eq_false_iff_ne] at ht2
      exact ⟨fun he => ht2.1 he.symm, by simpa using ht2.2⟩
    exact wpAnyL_take ho hne.1 hs ht1.1.1 ht1.1.2 (fun c a w => hQ c a o.dst v w) hy hS (ih ⟨ht1.2, hne.2⟩ h2)
def AllReadyL (P : Program) (md : Region.Mode) (ops : Array Oper) (Q : Exit → Act → World → Prop) (S : World → Prop) (last : Nat) (fuel : Nat) (listed : Array Bool) (a : Act) (w : World) (rs : List Nat) : Prop :=
  ∀ i ∈ rs, wpOp P ops Q i (fun a' w' => (i ≠ last → S w') ∧ wpAnyL P md ops Q S last fuel (listed.setIfInBounds i true) a' w') a w
theorem AllReadyL.nil {fuel : Nat} {listed : Array Bool} {a : Act} {w : World} : AllReadyL P md ops Q S last fuel listed a w [] := fun _ h => by cases h
theorem AllReadyL.cons {fuel : Nat} {listed : Array Bool} {a : Act} {w : World} {i : Nat} {o : Oper} {rs : List Nat} (ho : ops[i]? = some o) (hil : i ≠ last)
    (h : ∀ K' : Act → World → Prop, Shut (∀ a w, S w → (S w → wpAnyL P md ops Q S last fuel (listed.setIfInBounds i true) a w) → K' a w) → if Region.wanted o (yielded ops a.tmps) = true then Oper.wp P o a w K' Q else K' (a.put o.dst undef) w)
    (hs : AllReadyL P md ops Q S last fuel listed a w rs) : AllReadyL P md ops Q S last fuel listed a w (i :: rs) := fun j hj => by
  rcases List.mem_cons.1 hj with rfl | hj
  · exact wpOp_step ho (fun K' hK => h K' (fun a w hS hW => hK a w ⟨fun _ => hS, hW hS⟩))
  · exact hs j hj
theorem AllReadyL.final {fuel : Nat} {listed : Array Bool} {a : Act} {w : World} {o : Oper} (ho : ops[last]? = some o)
    (h : ∀ K' : Act → World → Prop, Shut (∀ a w, wpAnyL P md ops Q S last fuel (listed.setIfInBounds last true) a w → K' a w) → if Region.wanted o (yielded ops a.tmps) = true then Oper.wp P o a w K' Q else K' (a.put o.dst undef) w) :
    AllReadyL P md ops Q S last fuel listed a w [last] := fun j hj => by
  obtain rfl := List.mem_singleton.1 hj
  exact wpOp_step ho (fun K' hK => h K' (fun a w hW => hK a w ⟨fun h => absurd rfl h, hW⟩))
theorem wpAnyL_ready {rs : List Nat} {fuel : Nat} {listed : Array Bool} {a : Act} {w : World} (hr : Region.ready md ops listed = rs) (hne : rs ≠ [])
    (h : AllReadyL P md ops Q S last fuel listed a w rs) : wpAnyL P md ops Q S last (fuel + 1) listed a w := ⟨fun h0 => absurd (hr ▸ h0) hne, fun i hi _ => h i (hr ▸ hi)⟩
end
section
variable {P : Program} {ops : Array Oper} {Q : Exit → Act → World → Prop} {md : Region.Mode} {S : World → Prop} {last : Nat}
theorem qU {fuel i : Nat} {is : List Nat} {l : Array Bool} {a : Act} {w : World} {o : Oper} {v : Value} (h : TakeSeqL P md ops Q S last fuel is (l.setIfInBounds i true) (a.put o.dst v) w) (ho : ops[i]? = some o := by rfl) (hy : YieldsIf P ops S o v a := by first | exact Or.inr ⟨by rfl, rfl⟩ | (refine Or.inl ⟨by rfl, ?_⟩; intro wq hSq; have hrd := hSq.rule; go_simp; with_reducible rfl)) : TakeSeqL P md ops Q S last fuel (i :: is) l a w := .step ho hy h
theorem qHL (i : Nat) {fuel : Nat} {listed : Array Bool} {a : Act} {w : World} {o : Oper} (h : ∀ K' : Act → World → Prop, Shut (∀ a w, S w → (S w → wpAnyL P md ops Q S last fuel (listed.setIfInBounds i true) a w) → K' a w) → Oper.wp P o a w K' Q)
    (hr : Region.ready md ops listed = [i] := by kernel_rfl) (hil : i ≠ last := by decide) (ho : ops[i]? = some o := by rfl) (hw : Region.wanted o (yielded ops a.tmps) = true := by rfl) : wpAnyL P md ops Q S last (fuel + 1) listed a w :=
  wpAnyL_ready hr (by simp) (AllReadyL.cons ho hil (fun K hK => by rw [if_pos hw]; exact h K hK) AllReadyL.nil)
end
end Go.Proofs.YtcoiehgcfjfhaaaGreatDoor
