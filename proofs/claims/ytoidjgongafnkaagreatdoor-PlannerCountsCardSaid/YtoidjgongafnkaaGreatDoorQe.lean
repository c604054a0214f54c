/- Package verb: completions fit a batch, none of them bad; package talk: the word of a completion. Package talk: a conversation that is replayed. -/
import Derived.Test.YtoidjgongafnkaaGreatDoorQc
import Derived.Test.YtoidjgongafnkaaGreatDoorQa
set_option linter.unusedVariables false
set_option linter.unusedSimpArgs false
set_option linter.unusedSectionVars false
set_option linter.constructorNameAsVariable false
namespace Go.Proofs.YtoidjgongafnkaaGreatDoor
open Go.RowKit

theorem flat_at {α β : Type} (f : α → List β) (sz : Nat) (hf : ∀ x, (f x).length = sz) : ∀ (l : List α) (i : Nat) (x : α), l[i]? = some x → ∀ j, j < sz → (l.flatMap f)[i * sz + j]? = (f x)[j]? := by
  intro l
  induction l with
  | nil => intro i x h; simp at h
  | cons y l ih =>
    intro i x h j hj
    rw [List.flatMap_cons]
    cases i with
    | zero =>
      simp only [List.getElem?_cons_zero, Option.some.injEq] at h
      subst h
      rw [List.getElem?_append_left (by rw [hf]; omega)]
      simp
    | succ i =>
      simp only [List.getElem?_cons_succ] at h
      rw [List.getElem?_append_right (by rw [hf, Nat.succ_mul]; omega), hf]
      rw [show (i + 1) * sz + j - sz = i * sz + j by rw [Nat.succ_mul]; omega]
      exact ih i x h j hj
theorem flat_len {α β : Type} (f : α → List β) (sz : Nat) (hf : ∀ x, (f x).length = sz) (l : List α) : (l.flatMap f).length = l.length * sz := by
  induction l with
  | nil => simp
  | cons y l ih => rw [List.flatMap_cons, List.length_append, ih, hf, List.length_cons, Nat.succ_mul]; omega

/-- The cells of a verb. -/
def vbArr (x : Cm.Vb) (vw : Value) : Array Value := #[.int .i64 x.kind, .int .i64 x.node, .int .i64 x.at_, .int .i64 x.n, .int .u64 x.old, .int .u64 x.new, vw, .int .u64 1, .int .i64 1]
theorem vbArr_list (x : Cm.Vb) (vw : Value) : (vbArr x vw).toList = vbCells x vw := rfl
/-- A verb as a commit has them. -/
def Cm.Vb.Good (x : Cm.Vb) : Prop := (x.kind = 1 ∧ x.n = 1) ∨ x.kind = 2 ∨ x.kind = 3
theorem returns_ok (x : Cm.Vb) (hg : x.Good) (p : Option Addr) (n c : Nat) (w : World) :
    Calls Tryz.prog 250 #[.agg (vbArr x (.slice p n c))] w fun e w' => e = .returned (.int .i64 (Cm.reply x).length) ∧ Below w.heap.size w w' := by
  obtain ⟨kind, node, at_, nn, old, new, words⟩ := x
  unfold vbArr
  rcases hg with ⟨h, h2⟩ | h | h
  all_goals
    simp only at h
    try simp only at h2
    subst h
    try subst h2
    go_enter Tryz.func250, Tryz.ntmps250
    go_wp2_with fail
    refine bodyPost_ret (results_tmp rfl _ _ _) rfl ⟨rfl, by (repeat (first | with_reducible exact Below.refl _ _ | with_reducible assumption | with_reducible refine Below.setCell ?_ (by first | (simp; done) | (simp; omega)) _ | with_reducible refine below_alloc ?_ _ | with_reducible refine below_drewN ?_ _ | with_reducible refine Below.drew ?_ | with_reducible refine below_step ?_ (by assumption)))⟩
theorem fits_ok (x : Cm.Vb) (hg : x.Good) (p q : Option Addr) (n c d : Nat) (w : World) :
    Calls Tryz.prog 232 #[.agg (vbArr x (.slice p n c)), .agg #[.int .i64 0, .slice q (Cm.reply x).length d]] w fun e w' => e = .returned (.bool true) ∧ Below w.heap.size w w' := by
  have HX : Hid (∀ w, Calls Tryz.prog 250 #[.agg (vbArr x (.slice p n c))] w fun e w' => e = .returned (.int .i64 (Cm.reply x).length) ∧ Below w.heap.size w w') := Lib.hid (fun w => returns_ok x hg p n c w)
  obtain ⟨L, hL⟩ : ∃ L, L = (Cm.reply x).length := ⟨_, rfl⟩
  rw [← hL] at HX ⊢
  unfold vbArr at HX ⊢
  clear hL
  go_enter Tryz.func232, Tryz.ntmps232
  go_wp2_with fail
  refine wp_region_held_drew (S := SteadyAll _) (by kernel_rfl) (SteadyAll.of (Below.refl _ _).drew) ?_
  intro hSt
  refine wpAnyH_seq (is := [0, 1, 2, 3]) (by kernel_rfl) (by kernel_rfl) (fun _ _ d _ _ h => by cases d <;> exact h) (by assumption) ?_
  iterate 4 (first | (refine TakeSeq.step (v := undef) rfl (Or.inr ⟨by rfl, rfl⟩) ?_; simp only [Act.put, List.setIfInBounds_toArray, List.set_cons_zero, List.set_cons_succ, List.getElem_toArray, List.getElem_cons_zero, List.getElem_cons_succ]) | (refine TakeSeq.step (v := ?_) rfl (Or.inl ⟨by rfl, ?_⟩) ?_; rotate_left 1; (focus (intro wq hSq; have hrd := hSq.rule; go_simp; with_reducible rfl)); simp only [Act.put, List.setIfInBounds_toArray, List.set_cons_zero, List.set_cons_succ, List.getElem_toArray, List.getElem_cons_zero, List.getElem_cons_succ]))
  refine TakeSeq.done ?_
  refine wpAnyH_ready (rs := [4]) (by kernel_rfl) (by simp) ?_
  refine AllReadyH.cons rfl (fun K hK => ?_) (AllReadyH.nil)
  rw [if_pos (by rfl)]
  go_simp
  go_at_call 250; refine (HX.out _).mono ?_; rintro e w2 ⟨rfl, hb2⟩
  go_wp2_with fail
  refine hK.out _ _ (SteadyAll.of (by (repeat (first | with_reducible exact Below.refl _ _ | with_reducible assumption | with_reducible refine Below.setCell ?_ (by first | (simp; done) | (simp; omega)) _ | with_reducible refine below_alloc ?_ _ | with_reducible refine below_drewN ?_ _ | with_reducible refine Below.drew ?_ | with_reducible refine below_step ?_ (by assumption))))) (fun hHeld => ?_)
  clear hK K
  refine wpAnyH_seq (is := [5, 6]) (by kernel_rfl) (by kernel_rfl) (fun _ _ d _ _ h => by cases d <;> exact h) (by assumption) ?_
  iterate 2 (first | (refine TakeSeq.step (v := undef) rfl (Or.inr ⟨by rfl, rfl⟩) ?_; simp only [Act.put, List.setIfInBounds_toArray, List.set_cons_zero, List.set_cons_succ, List.getElem_toArray, List.getElem_cons_zero, List.getElem_cons_succ]) | (refine TakeSeq.step (v := ?_) rfl (Or.inl ⟨by rfl, ?_⟩) ?_; rotate_left 1; (focus (intro wq hSq; have hrd := hSq.rule; go_simp; with_reducible rfl)); simp only [Act.put, List.setIfInBounds_toArray, List.set_cons_zero, List.set_cons_succ, List.getElem_toArray, List.getElem_cons_zero, List.getElem_cons_succ]))
  refine TakeSeq.done ?_
  refine wpAnyH_done (by kernel_rfl) ?_ _
  go_wp2_with fail
  refine bodyPost_ret (results_tmp rfl _ _ _) rfl ⟨rfl, by (repeat (first | with_reducible exact Below.refl _ _ | with_reducible assumption | with_reducible refine Below.setCell ?_ (by first | (simp; done) | (simp; omega)) _ | with_reducible refine below_alloc ?_ _ | with_reducible refine below_drewN ?_ _ | with_reducible refine Below.drew ?_ | with_reducible refine below_step ?_ (by assumption)))⟩

theorem AsksAt.cells {w : World} {lo : Nat} {va : Value} {l : List Cm.Vb} (h : AsksAt w lo va l) (h0 : 0 < l.length) :
    ∃ b o cap, va = .slice (some ⟨b, o, none⟩) l.length cap ∧ lo ≤ b ∧ b < w.heap.size ∧ ∀ i x, l[i]? = some x → ∃ vw, WordsAt w lo vw x.words ∧ ∀ j, j < 9 → w.cell? ⟨b, o + i * 9 + j, none⟩ = (vbArr x vw)[j]? := by
  obtain ⟨al, rfl, hr, hw⟩ := h
  have hl : (al.map (·.1)).length = al.length := by simp
  rw [hl] at h0 ⊢
  obtain ⟨b, o, cap, hv, hlo, hlt, hc⟩ := hr.form h0
  refine ⟨b, o, cap, hv, hlo, hlt, fun i x hi => ?_⟩
  rw [List.getElem?_map, Option.map_eq_some_iff] at hi
  obtain ⟨t, ht, rfl⟩ := hi
  refine ⟨t.2, hw t (List.mem_of_getElem? ht), fun j hj => ?_⟩
  have h1 := flat_at (fun t : Cm.Vb × Value => vbCells t.1 t.2) 9 (fun _ => rfl) al i t ht j hj
  have h2 : (vbArr t.1 t.2)[j]? = some ((vbArr t.1 t.2)[j]'(by simpa [vbArr] using hj)) := Array.getElem?_eq_getElem _
  rw [h2, Nat.add_assoc]
  refine hc _ _ ?_
  unfold askCells
  rw [h1, ← h2]
  simp [← vbArr_list]
theorem DonesAt.cells {w : World} {lo : Nat} {va : Value} {l : List (List Int)} (h : DonesAt w lo va l) (h0 : 0 < l.length) :
    ∃ b o cap, va = .slice (some ⟨b, o, none⟩) l.length cap ∧ lo ≤ b ∧ b < w.heap.size ∧ ∀ i x, l[i]? = some x → ∃ vw, WordsAt w lo vw x ∧ w.cell? ⟨b, o + i * 2, none⟩ = some (.int .i64 0) ∧ w.cell? ⟨b, o + i * 2 + 1, none⟩ = some vw := by
  obtain ⟨al, rfl, hr, hw⟩ := h
  have hl : (al.map (·.1)).length = al.length := by simp
  rw [hl] at h0 ⊢
  obtain ⟨b, o, cap, hv, hlo, hlt, hc⟩ := hr.form h0
  refine ⟨b, o, cap, hv, hlo, hlt, fun i x hi => ?_⟩
  rw [List.getElem?_map, Option.map_eq_some_iff] at hi
  obtain ⟨t, ht, rfl⟩ := hi
  have h1 := flat_at (fun t : List Int × Value => [Value.int .i64 0, t.2]) 2 (fun _ => rfl) al i t ht
  refine ⟨t.2, hw t (List.mem_of_getElem? ht), ?_, ?_⟩
  · exact hc (i * 2) _ ((h1 0 (by omega)).trans rfl)
  · rw [Nat.add_assoc]
    exact hc _ _ ((h1 1 (by omega)).trans rfl)

set_option maxRecDepth 10000 in
set_option maxHeartbeats 1000000 in
theorem fit_ok (lo lo' : Nat) (va vd : Value) (l : List Cm.Vb) (h0 : 0 < l.length) (hl : l.length ≤ 1000) (hg : ∀ x ∈ l, x.Good) (w : World) (ha : AsksAt w lo va l) (hd : DonesAt w lo' vd (l.map Cm.reply)) :
    Calls Tryz.prog 192 #[va, vd] w fun e w' => e = .returned (.bool true) ∧ Below w.heap.size w w' := by
  obtain ⟨b, o, cap, rfl, _, hlt, hca⟩ := ha.cells h0
  obtain ⟨b2, o2, cap2, rfl, _, hlt2, hcd⟩ := hd.cells (by simpa using h0)
  obtain ⟨N, hN⟩ : ∃ N, N = l.length := ⟨_, rfl⟩
  have hmap : (l.map Cm.reply).length = N := by simp [hN]
  rw [hmap]
  have HC : Hid (∀ i, i < N → ∃ x vw ws vd, x.Good ∧ (∃ p n c, vw = .slice p n c) ∧ (∃ p c, vd = .slice p (Cm.reply x).length c) ∧ ws = Cm.reply x ∧ (∀ j, j < 9 → w.cell? ⟨b, o + i * 9 + j, none⟩ = (vbArr x vw)[j]?) ∧ w.cell? ⟨b2, o2 + i * 2, none⟩ = some (.int .i64 0) ∧ w.cell? ⟨b2, o2 + i * 2 + 1, none⟩ = some vd) :=
    Lib.hid (fun i hi => by
      have hx : l[i]? = some (l[i]'(by omega)) := List.getElem?_eq_getElem _
      obtain ⟨vw, hw1, hw2⟩ := hca i _ hx
      obtain ⟨vd, hd1, hd2, hd3⟩ := hcd i (Cm.reply (l[i]'(by omega))) (by rw [List.getElem?_map, hx]; rfl)
      obtain ⟨p, c, hp⟩ := RowAt.shape hw1
      obtain ⟨p2, c2, hp2⟩ := RowAt.shape hd1
      exact ⟨_, vw, _, vd, hg _ (List.getElem_mem _), ⟨p, _, c, hp⟩, ⟨p2, c2, hp2⟩, rfl, hw2, hd2, hd3⟩)
  have HG := Lib.hid hlt
  have HG2 := Lib.hid hlt2
  rw [← hN] at h0 hl ⊢
  clear hca hcd ha hd hN hmap
  have b0 : ((N : Int) == N) = true := by simp
  go_enter Tryz.func192, Tryz.ntmps192
  go_wp2_with fail
  go_loopw [14] (fun i wr => ∃ k : Nat, k ≤ N ∧ i = .int .i64 k ∧ Hid (Below w.heap.size w wr)) (fun i _ => ((N : Int) - intOf i).toNat)
  case atStart => exact ⟨0, by omega, rfl, Lib.hid (Below.refl _ _)⟩
  case round =>
    obtain ⟨k, hk, rfl, H⟩ := hrel
    have hb2 : Below w.heap.size w wr := H.out
    by_cases hk2 : k < N
    · have b1 : decide ((k : Int) < N) = true := by simp; omega
      have bk0 : (0 : Int) ≤ k := by omega
      have bk1 : (k : Int) < N := by omega
      obtain ⟨x, vw, ws, vd, hgx, ⟨p, n, c, rfl⟩, ⟨p2, cq, rfl⟩, _, hc9, hd0, hd1⟩ := HC.out k hk2
      have c0 : wr.cell? ⟨b, o + k * 9, none⟩ = some (.int .i64 x.kind) := (H.out.cell (p := ⟨b, o + k * 9, none⟩) HG.out).trans (hc9 0 (by omega))
      have c1 : wr.cell? ⟨b, o + k * 9 + 1, none⟩ = some (.int .i64 x.node) := (H.out.cell (p := ⟨b, o + k * 9 + 1, none⟩) HG.out).trans (hc9 1 (by omega))
      have c2 : wr.cell? ⟨b, o + k * 9 + 2, none⟩ = some (.int .i64 x.at_) := (H.out.cell (p := ⟨b, o + k * 9 + 2, none⟩) HG.out).trans (hc9 2 (by omega))
      have c3 : wr.cell? ⟨b, o + k * 9 + 3, none⟩ = some (.int .i64 x.n) := (H.out.cell (p := ⟨b, o + k * 9 + 3, none⟩) HG.out).trans (hc9 3 (by omega))
      have c4 : wr.cell? ⟨b, o + k * 9 + 4, none⟩ = some (.int .u64 x.old) := (H.out.cell (p := ⟨b, o + k * 9 + 4, none⟩) HG.out).trans (hc9 4 (by omega))
      have c5 : wr.cell? ⟨b, o + k * 9 + 5, none⟩ = some (.int .u64 x.new) := (H.out.cell (p := ⟨b, o + k * 9 + 5, none⟩) HG.out).trans (hc9 5 (by omega))
      have c6 : wr.cell? ⟨b, o + k * 9 + 6, none⟩ = some (.slice p n c) := (H.out.cell (p := ⟨b, o + k * 9 + 6, none⟩) HG.out).trans (hc9 6 (by omega))
      have c7 : wr.cell? ⟨b, o + k * 9 + 7, none⟩ = some (.int .u64 1) := (H.out.cell (p := ⟨b, o + k * 9 + 7, none⟩) HG.out).trans (hc9 7 (by omega))
      have c8 : wr.cell? ⟨b, o + k * 9 + 8, none⟩ = some (.int .i64 1) := (H.out.cell (p := ⟨b, o + k * 9 + 8, none⟩) HG.out).trans (hc9 8 (by omega))
      have d0 : wr.cell? ⟨b2, o2 + k * 2, none⟩ = some (.int .i64 0) := (H.out.cell (p := ⟨b2, o2 + k * 2, none⟩) HG2.out).trans hd0
      have d1 : wr.cell? ⟨b2, o2 + k * 2 + 1, none⟩ = some (.slice p2 (Cm.reply x).length cq) := (H.out.cell (p := ⟨b2, o2 + k * 2 + 1, none⟩) HG2.out).trans hd1
      have g2 : b2 < wr.heap.size := Nat.lt_of_lt_of_le HG2.out hb2.size
      have HF : Hid (∀ w, Calls Tryz.prog 232 #[.agg (vbArr x (.slice p n c)), .agg #[.int .i64 0, .slice p2 (Cm.reply x).length cq]] w fun e w' => e = .returned (.bool true) ∧ Below w.heap.size w w') := Lib.hid (fun w => fits_ok x hgx p p2 n c cq w)
      unfold vbArr at HF
      clear hc9 hd0 hd1 hgx
      go_wp2_with fail
      refine wp_region_held_drew (S := SteadyAll _) (by kernel_rfl) (SteadyAll.of (Below.refl _ _).drew) ?_
      intro hSt
      refine wpAnyH_seq (is := [0, 1, 2, 3, 4]) (by kernel_rfl) (by kernel_rfl) (fun _ _ d _ _ h => by cases d <;> exact h) (by assumption) ?_
      iterate 5 (first | (refine TakeSeq.step (v := undef) rfl (Or.inr ⟨by rfl, rfl⟩) ?_; simp only [Act.put, List.setIfInBounds_toArray, List.set_cons_zero, List.set_cons_succ, List.getElem_toArray, List.getElem_cons_zero, List.getElem_cons_succ]) | (refine TakeSeq.step (v := ?_) rfl (Or.inl ⟨by rfl, ?_⟩) ?_; rotate_left 1; (focus (intro wq hSq; have hrd := hSq.rule; go_simp; with_reducible rfl)); simp only [Act.put, List.setIfInBounds_toArray, List.set_cons_zero, List.set_cons_succ, List.getElem_toArray, List.getElem_cons_zero, List.getElem_cons_succ]))
      refine TakeSeq.done ?_
      refine wpAnyH_ready (rs := [5]) (by kernel_rfl) (by simp) ?_
      refine AllReadyH.cons rfl (fun K hK => ?_) (AllReadyH.nil)
      rw [if_pos (by rfl)]
      go_simp
      go_at_call 232; refine (HF.out _).mono ?_; rintro e w2 ⟨rfl, hb3⟩
      go_wp2_with fail
      refine hK.out _ _ (SteadyAll.of (by (repeat (first | with_reducible exact Below.refl _ _ | with_reducible assumption | with_reducible refine Below.setCell ?_ (by first | (simp; done) | (simp; omega)) _ | with_reducible refine below_alloc ?_ _ | with_reducible refine below_drewN ?_ _ | with_reducible refine Below.drew ?_ | with_reducible refine below_step ?_ (by assumption))))) (fun hHeld => ?_)
      clear hK K
      refine wpAnyH_seq (is := [6]) (by kernel_rfl) (by kernel_rfl) (fun _ _ d _ _ h => by cases d <;> exact h) (by assumption) ?_
      iterate 1 (first | (refine TakeSeq.step (v := undef) rfl (Or.inr ⟨by rfl, rfl⟩) ?_; simp only [Act.put, List.setIfInBounds_toArray, List.set_cons_zero, List.set_cons_succ, List.getElem_toArray, List.getElem_cons_zero, List.getElem_cons_succ]) | (refine TakeSeq.step (v := ?_) rfl (Or.inl ⟨by rfl, ?_⟩) ?_; rotate_left 1; (focus (intro wq hSq; have hrd := hSq.rule; go_simp; with_reducible rfl)); simp only [Act.put, List.setIfInBounds_toArray, List.set_cons_zero, List.set_cons_succ, List.getElem_toArray, List.getElem_cons_zero, List.getElem_cons_succ]))
      refine TakeSeq.done ?_
      refine wpAnyH_done (by kernel_rfl) ?_ _
      go_wp2_with fail
      have hb4 : Below wr.heap.size wr w2 := by (repeat (first | with_reducible exact Below.refl _ _ | with_reducible assumption | with_reducible refine Below.setCell ?_ (by first | (simp; done) | (simp; omega)) _ | with_reducible refine below_alloc ?_ _ | with_reducible refine below_drewN ?_ _ | with_reducible refine Below.drew ?_ | with_reducible refine below_step ?_ (by assumption)))
      exact ⟨⟨k + 1, by omega, by simp, Lib.hid (below_step hb2 hb4)⟩, by simp [intOf]; omega⟩
    · have b1 : decide ((k : Int) < N) = false := by simp; omega
      go_wp2_with fail
      refine bodyPost_ret (results_tmp rfl _ _ _) rfl ⟨rfl, H.out⟩

set_option maxRecDepth 10000 in
/-- No completion of a good batch is bad. -/
theorem first_ok (lo : Nat) (vd : Value) (l : List (List Int)) (hl : l.length ≤ 1000) (w : World) (hd : DonesAt w lo vd l) :
    Calls Tryz.prog 125 #[vd] w fun e w' => e = .returned (.int .i64 0) ∧ Below w.heap.size w w' := by
  obtain ⟨N, hN⟩ : ∃ N, N = l.length := ⟨_, rfl⟩
  have HS : ∃ p cap, vd = .slice p N cap := by
    obtain ⟨al, rfl, hr, hw⟩ := hd
    obtain ⟨p, c, hp⟩ := hr.shape
    exact ⟨p, c, by rw [hp, hN]; simp⟩
  obtain ⟨p, cap, rfl⟩ := HS
  have HC : Hid (∀ i, i < N → ∃ b o, p = some ⟨b, o, none⟩ ∧ b < w.heap.size ∧ ∃ q n c, w.cell? ⟨b, o + i * 2, none⟩ = some (.int .i64 0) ∧ w.cell? ⟨b, o + i * 2 + 1, none⟩ = some (.slice q n c)) := Lib.hid (fun i hi => by
    obtain ⟨b, o, cap2, hv, _, hlt, hcd⟩ := hd.cells (by omega)
    simp only [Value.slice.injEq] at hv
    obtain ⟨vw, h1, h2, h3⟩ := hcd i (l[i]'(by omega)) (List.getElem?_eq_getElem _)
    obtain ⟨q, c, hq⟩ := RowAt.shape h1
    exact ⟨b, o, hv.1, hlt, q, _, c, h2, by rw [h3, hq]⟩)
  rw [← hN] at hl
  clear hd hN
  go_enter Tryz.func125, Tryz.ntmps125
  go_wp2_with fail
  go_loopw [7] (fun i wr => ∃ k : Nat, k ≤ N ∧ i = .int .i64 k ∧ Hid (Below w.heap.size w wr)) (fun i _ => ((N : Int) - intOf i).toNat)
  case atStart => exact ⟨0, by omega, rfl, Lib.hid (Below.refl _ _)⟩
  case round =>
    obtain ⟨k, hk, rfl, H⟩ := hrel
    have hb2 : Below w.heap.size w wr := H.out
    by_cases hk2 : k < N
    · have b1 : decide ((k : Int) < N) = true := by simp; omega
      have bk0 : (0 : Int) ≤ k := by omega
      have bk1 : (k : Int) < N := by omega
      obtain ⟨b, o, rfl, hlt, q, n, c, h2, h3⟩ := HC.out k hk2
      have d0 : wr.cell? ⟨b, o + k * 2, none⟩ = some (.int .i64 0) := (H.out.cell (p := ⟨b, o + k * 2, none⟩) hlt).trans h2
      have d1 : wr.cell? ⟨b, o + k * 2 + 1, none⟩ = some (.slice q n c) := (H.out.cell (p := ⟨b, o + k * 2 + 1, none⟩) hlt).trans h3
      clear h2 h3
      go_wp2_with fail
      exact ⟨⟨k + 1, by omega, by simp, Lib.hid (by (repeat (first | with_reducible exact Below.refl _ _ | with_reducible assumption | with_reducible refine Below.setCell ?_ (by first | (simp; done) | (simp; omega)) _ | with_reducible refine below_alloc ?_ _ | with_reducible refine below_drewN ?_ _ | with_reducible refine Below.drew ?_ | with_reducible refine below_step ?_ (by assumption))))⟩, by simp [intOf]; omega⟩
    · have b1 : decide ((k : Int) < N) = false := by simp; omega
      go_wp2_with fail
      refine bodyPost_ret (results_tmp rfl _ _ _) rfl ⟨rfl, H.out⟩

/-- The word of a completion. -/
theorem word_ok (x : Int) (b o c : Nat) (w : World) (hlt : b < w.heap.size) (hc : w.cell? ⟨b, o, none⟩ = some (.int .u64 x)) :
    Calls Tryz.prog 73 #[.agg #[.int .i64 0, .slice (some ⟨b, o, none⟩) 1 c]] w fun e w' => e = .returned (.int .u64 x) ∧ Below w.heap.size w w' := by
  go_enter Tryz.func73, Tryz.ntmps73
  go_wp2_with fail
  refine bodyPost_ret (results_tmp rfl _ _ _) rfl ⟨rfl, by (repeat (first | with_reducible exact Below.refl _ _ | with_reducible assumption | with_reducible refine Below.setCell ?_ (by first | (simp; done) | (simp; omega)) _ | with_reducible refine below_alloc ?_ _ | with_reducible refine below_drewN ?_ _ | with_reducible refine Below.drew ?_ | with_reducible refine below_step ?_ (by assumption)))⟩
end Go.Proofs.YtoidjgongafnkaaGreatDoor
namespace Go.Proofs.YtoidjgongafnkaaGreatDoor
open Go.RowKit

/-- The completions so far, a list of lists. -/
def GotAt (w : World) (lo : Nat) (v : Value) (gs : List (List (List Int))) : Prop :=
  ∃ vs : List Value, vs.length = gs.length ∧ RowAt w lo v 50 1 gs.length vs ∧ ∀ (i : Nat) (g : List (List Int)), gs[i]? = some g → ∃ u, vs[i]? = some u ∧ DonesAt w lo u g
theorem GotAt.below {w w' : World} {lo : Nat} {v : Value} {gs : List (List (List Int))} (h : GotAt w lo v gs) (hb : Below w.heap.size w w') : GotAt w' lo v gs := by
  obtain ⟨vs, h1, h2, h3⟩ := h
  exact ⟨vs, h1, h2.below hb, fun i g hi => by obtain ⟨u, hu, hd⟩ := h3 i g hi; exact ⟨u, hu, hd.below hb⟩⟩
theorem DonesAt.shape {w : World} {lo : Nat} {v : Value} {l : List (List Int)} (h : DonesAt w lo v l) : ∃ p c, v = .slice p l.length c := by
  obtain ⟨al, rfl, hr, hw⟩ := h
  obtain ⟨p, c, hp⟩ := hr.shape
  exact ⟨p, c, by rw [hp]; simp⟩
theorem AsksAt.shape {w : World} {lo : Nat} {v : Value} {l : List Cm.Vb} (h : AsksAt w lo v l) : ∃ p c, v = .slice p l.length c := by
  obtain ⟨al, rfl, hr, hw⟩ := h
  obtain ⟨p, c, hp⟩ := hr.shape
  exact ⟨p, c, by rw [hp]; simp⟩
theorem GotAt.head {w : World} {lo : Nat} {v : Value} {g : List (List Int)} {gs : List (List (List Int))} (h : GotAt w lo v (g :: gs)) :
    ∃ b o cap u, v = .slice (some ⟨b, o, none⟩) (gs.length + 1) cap ∧ lo ≤ b ∧ b < w.heap.size ∧ gs.length + 1 ≤ cap ∧ w.cell? ⟨b, o, none⟩ = some u ∧ DonesAt w lo u g ∧
      ∀ a, (a = ⟨b, o + 1, none⟩ ∨ gs.length = 0) → GotAt w lo (.slice (some a) gs.length (cap - 1)) gs := by
  obtain ⟨vs, h1, h2, h3⟩ := h
  obtain ⟨b', o', cap', hv', hlo, hlt, hc⟩ := h2.form (by simp)
  obtain ⟨u, hu, hdu⟩ := h3 0 g rfl
  have hcap : gs.length + 1 ≤ cap' := by
    rcases h2.2 with ⟨h0, _⟩ | ⟨b, o, cap, cs, hv, _, hcap, _⟩
    · simp at h0
    · rw [hv'] at hv
      simp only [Value.slice.injEq] at hv
      have := hv.2.2
      simp at hcap
      omega
  refine ⟨b', o', cap', u, hv', hlo, hlt, hcap, by simpa using hc 0 u hu, hdu, fun a ha => ?_⟩
  refine ⟨vs.drop 1, by simp [h1], ?_, fun i g' hi => ?_⟩
  · by_cases h0 : gs.length = 0
    · rw [h0]
      refine ⟨by simp [h1, h0], .inl ⟨rfl, _, _, rfl⟩⟩
    · obtain rfl : a = ⟨b', o' + 1, none⟩ := by rcases ha with ha | ha; exact ha; exact absurd ha h0
      obtain ⟨b, o, cap, hv, hcap, hd⟩ := h2.drop 1 (by simp; omega)
      rw [hv'] at hv
      simp only [Value.slice.injEq, Option.some.injEq, Addr.mk.injEq, and_true, true_and, List.length_cons] at hv
      obtain ⟨⟨rfl, rfl⟩, rfl⟩ := hv
      simpa using hd
  · obtain ⟨u', hu', hd'⟩ := h3 (i + 1) g' (by simpa using hi)
    exact ⟨u', by rw [List.getElem?_drop, Nat.add_comm 1 i]; exact hu', hd'⟩
theorem GotAt.nil {w : World} {lo : Nat} {v : Value} (h : GotAt w lo v []) : ∃ p c, v = .slice p 0 c := by
  obtain ⟨vs, h1, h2, h3⟩ := h
  exact h2.shape
theorem GotAt.shape {w : World} {lo : Nat} {v : Value} {gs : List (List (List Int))} (h : GotAt w lo v gs) : ∃ p c, v = .slice p gs.length c := by
  obtain ⟨vs, h1, h2, h3⟩ := h
  exact h2.shape

/-- x[1:]. -/
theorem slice_tail (t e : TypeId) (i0 : TypeInfo) (sz b o M cap : Nat) (ht : Tryz.prog.underlying t = some (.slice e)) (hel : Tryz.prog.elem t = e) (hi : Tryz.prog.info? e = some i0) (hsz : i0.size = sz) (hcap : M + 1 ≤ cap) :
    ∃ a, (∀ wx, (Instr.slice t (.slice (some ⟨b, o, none⟩) (M + 1) cap) (some (.int .i64 1)) none none).run Tryz.prog wx = .ok (.slice (some a) M (cap - 1)) wx) ∧ (a = ⟨b, o + sz, none⟩ ∨ M = 0) := by
  have hu : Tryz.prog.underlying t = some (.slice (Tryz.prog.elem t)) := by rw [hel]; exact ht
  have hs : ∀ wx, (sizeOf (Tryz.prog.elem t)).run Tryz.prog wx = .ok sz wx := fun wx => by rw [hel]; simp [sizeOf, typeInfo, hi, hsz]
  refine ⟨if cap = 1 then ⟨b, o, none⟩ else ⟨b, o + sz, none⟩, fun wx => ?_, ?_⟩
  · have := run_slice_l wx t (some ⟨b, o, none⟩) (M + 1) cap hu .i64 1 (by omega) (by omega)
    rw [this, hs]
    simp [Result.andThen, sliced, Addr.add]
    by_cases h1 : cap = 1
    · simp [h1]
    · rw [if_neg h1, if_neg h1]
      by_cases h2 : sz = 0
      · simp [h2]
      · simp [h2]
  · by_cases h1 : cap = 1
    · right; omega
    · rw [if_neg h1]; exact .inl rfl
/-- A batch without verbs. -/
theorem batch_none (t : Nat) (p : Option Addr) (c : Nat) (w : World) :
    Calls Tryz.prog 124 #[.pointer (some ⟨t, 0, none⟩), .slice p 0 c] w fun e w' => e = .returned (.tuple #[.slice none 0 0, .bool true]) ∧ w = w' := by
  go_enter Tryz.func124, Tryz.ntmps124
  go_wp2_with fail
  refine bodyPost_ret (results_tmp2 rfl _ _ _) rfl ⟨rfl, rfl⟩
/-- No completions are left: this is what is asked for. -/
theorem batch_waits (t : Nat) (p q qa : Option Addr) (n c d na ca : Nat) (wr : Bool) (hn : 0 < n) (w : World) (ht : Blk w t 119 #[.slice q 0 d, .slice qa na ca, .bool wr]) :
    Calls Tryz.prog 124 #[.pointer (some ⟨t, 0, none⟩), .slice p n c] w fun e w' => e = .returned (.tuple #[.slice none 0 0, .bool false]) ∧ Blk w' t 119 #[.slice q 0 d, .slice p n c, .bool wr] ∧ Over t w w' := by
  have k0 := ht.cell
  have f0 := ht.free
  have HT := Lib.hid ht
  have b1 : ((n : Int) == 0) = false := by simp; omega
  clear ht
  go_enter Tryz.func124, Tryz.ntmps124
  go_wp2_with fail
  refine bodyPost_ret (results_tmp2 rfl _ _ _) rfl ⟨rfl, (HT.out.put 1 _).cast rfl, by (repeat (first | with_reducible exact Over.refl _ _ | with_reducible assumption | with_reducible refine Over.put ?_ _ _ | with_reducible refine Over.alloc ?_ _ | with_reducible refine Over.drew ?_ | with_reducible refine Over.own ?_ (by first | (simp; done) | (simp; omega)) _ | with_reducible refine Over.trans ?_ (by assumption) | with_reducible refine Over.then_below ?_ (by assumption)))⟩

/-- What a batch whose completions are there answers. -/
def BatchPost (lo' t : Nat) (l : List Cm.Vb) (gs : List (List (List Int))) (qa : Option Addr) (na ca : Nat) (wr : Bool) (w : World) (e : Ending) (w' : World) : Prop :=
  ∃ u vg', e = .returned (.tuple #[u, .bool true]) ∧ DonesAt w' lo' u (l.map Cm.reply) ∧ GotAt w' lo' vg' gs ∧ Blk w' t 119 #[vg', .slice qa na ca, .bool wr] ∧ Over t w w'
theorem DonesAt.over {w w' : World} {lo b : Nat} {t' : TypeId} {cs : Array Value} {v : Value} {l : List (List Int)} (h : DonesAt w lo v l) (ho : Over b w w') (hb : Blk w b t' cs) (h1 : t' ≠ 151) (h2 : t' ≠ 33) : DonesAt w' lo v l := by
  obtain ⟨dl, e1, e2, e3⟩ := h
  have hm : Mod (fun k => k = b) w w' := (Mod.refl _ w).over ho (.inl rfl)
  exact ⟨dl, e1, e2.mod hm (fun k hk => .inr ⟨t', cs, hk ▸ hb, h1⟩), fun t ht => (e3 t ht).mod hm (fun k hk => .inr ⟨t', cs, hk ▸ hb, h2⟩)⟩
theorem GotAt.over {w w' : World} {lo b : Nat} {t' : TypeId} {cs : Array Value} {v : Value} {gs : List (List (List Int))} (h : GotAt w lo v gs) (ho : Over b w w') (hb : Blk w b t' cs) (h1 : t' ≠ 151) (h2 : t' ≠ 33) (h3 : t' ≠ 50) : GotAt w' lo v gs := by
  obtain ⟨vs, e1, e2, e3⟩ := h
  have hm : Mod (fun k => k = b) w w' := (Mod.refl _ w).over ho (.inl rfl)
  exact ⟨vs, e1, e2.mod hm (fun k hk => .inr ⟨t', cs, hk ▸ hb, h3⟩), fun i g hi => by obtain ⟨u, hu, hd⟩ := e3 i g hi; exact ⟨u, hu, hd.over ho hb h1 h2⟩⟩

set_option maxRecDepth 10000 in
set_option maxHeartbeats 1000000 in
/-- The completions are there. -/
theorem batch_got (lo lo' t : Nat) (vg va : Value) (qa : Option Addr) (na ca : Nat) (wr : Bool) (l : List Cm.Vb) (gs : List (List (List Int))) (h0 : 0 < l.length) (hl : l.length ≤ 1000) (hg : ∀ x ∈ l, x.Good) (w : World)
    (ht : Blk w t 119 #[vg, .slice qa na ca, .bool wr]) (hgot : GotAt w lo' vg (l.map Cm.reply :: gs)) (hlo : True) (ha : AsksAt w lo va l) :
    Calls Tryz.prog 124 #[.pointer (some ⟨t, 0, none⟩), va] w (BatchPost lo' t l gs qa na ca wr w) := by
  obtain ⟨b, o, cap, u, rfl, hb1, hlt, hcap, hu, hdu, hrest⟩ := hgot.head
  obtain ⟨pa, c9, rfl⟩ := ha.shape
  obtain ⟨pu, cu, rfl⟩ := hdu.shape
  have hmap : (l.map Cm.reply).length = l.length := by simp
  rw [hmap] at hu hdu
  obtain ⟨N, hN⟩ : ∃ N, N = l.length := ⟨_, rfl⟩
  rw [← hN] at hu hdu ha ⊢
  obtain ⟨M, hM⟩ : ∃ M, M = gs.length := ⟨_, rfl⟩
  rw [← hM] at ht hcap hrest
  have HF : Hid (∀ wx, Below w.heap.size w wx → Calls Tryz.prog 192 #[.slice pa N c9, .slice pu N cu] wx fun e w' => e = .returned (.bool true) ∧ Below wx.heap.size wx w') := Lib.hid (fun wx hb => fit_ok lo lo' _ _ l h0 hl hg wx (ha.below hb) (hdu.below hb))
  have HT := Lib.hid ht
  have HR := Lib.hid (And.intro hdu hrest)
  have k0 := ht.cell
  have f0 := ht.free
  have b1 : ((N : Int) == 0) = false := by simp; omega
  have b0 : 0 < N := by omega
  have b2 : (((M + 1 : Nat) : Int) == 0) = false := by simp; omega
  have bk : (0 : Int) < ((M + 1 : Nat) : Int) := by omega
  have htl := ht.lt
  clear ht hdu hrest ha hg hgot hM hmap h0 hl hN
  go_enter Tryz.func124, Tryz.ntmps124
  go_wp2_with fail
  go_at_call 192
  refine (HF.out _ (Below.refl _ _)).mono ?_
  rintro e w1 ⟨rfl, hb⟩
  have BT := HT.out.kept hb
  have kt := BT.cell
  have ft := BT.free
  have hu1 : w1.cell? ⟨b, o, none⟩ = some (.slice pu N cu) := (hb.cell (p := ⟨b, o, none⟩) hlt).trans hu
  have hlt1 : b < w1.heap.size := Nat.lt_of_lt_of_le hlt hb.size
  have htl1 : t < w1.heap.size := BT.lt
  clear k0 f0 hu
  go_wp2_with fail
  have bq : (1 : Int) ≤ (M : Int) + 1 := by omega
  refine wp_region_late (S := SteadyAll _) (last := 15) (by kernel_rfl) (by kernel_rfl) (SteadyAll.of (Below.refl _ _).drew) ?_
  intro hSt
  refine wpAnyL_seq (is := [0, 1, 2, 3, 4, 5, 6, 7, 8, 9, 10, 11, 12, 13, 14]) (by kernel_rfl) (by kernel_rfl) (fun _ _ d _ _ h => by cases d <;> exact h) (by assumption) ?_
  iterate 15 (first | (refine TakeSeqL.step (v := undef) rfl (Or.inr ⟨by rfl, rfl⟩) ?_; simp only [Act.put, List.setIfInBounds_toArray, List.set_cons_zero, List.set_cons_succ, List.getElem_toArray, List.getElem_cons_zero, List.getElem_cons_succ]) | (refine TakeSeqL.step (v := ?_) rfl (Or.inl ⟨by rfl, ?_⟩) ?_; rotate_left 1; (focus (intro wq hSq; have hrd := hSq.rule; go_simp; with_reducible rfl)); simp only [Act.put, List.setIfInBounds_toArray, List.set_cons_zero, List.set_cons_succ, List.getElem_toArray, List.getElem_cons_zero, List.getElem_cons_succ]))
  refine TakeSeqL.done ?_
  refine wpAnyL_ready (rs := [15]) (by kernel_rfl) (by simp) ?_
  refine AllReadyL.final rfl (fun K hK => ?_)
  rw [if_pos (by rfl)]
  go_simp
  refine hK.out _ _ ?_
  clear hK K
  refine wpAnyL_done (by kernel_rfl) ?_ _
  have HB1 := Lib.hid hb
  have HBT := Lib.hid BT
  generalize hA : (if cap = 1 then some (⟨b, o, none⟩ : Addr) else some ⟨b, o + 1, none⟩) = A
  have hA' : ∃ a, A = some a ∧ (a = ⟨b, o + 1, none⟩ ∨ M = 0) := by
    by_cases h1 : cap = 1
    · rw [if_pos h1] at hA; exact ⟨_, hA.symm, .inr (by omega)⟩
    · rw [if_neg h1] at hA; exact ⟨_, hA.symm, .inl rfl⟩
  obtain ⟨a, rfl, ha⟩ := hA'
  have HA := Lib.hid ha
  clear hA ha hb BT hu1 kt bq
  go_wp2_with fail
  have ho : Over t w1 ((w1.setCell ⟨t, 0, none⟩ (.slice (some a) M (cap - 1))).drew) := by (repeat (first | with_reducible exact Over.refl _ _ | with_reducible assumption | with_reducible refine Over.put ?_ _ _ | with_reducible refine Over.alloc ?_ _ | with_reducible refine Over.drew ?_ | with_reducible refine Over.own ?_ (by first | (simp; done) | (simp; omega)) _ | with_reducible refine Over.trans ?_ (by assumption) | with_reducible refine Over.then_below ?_ (by assumption)))
  have hwb := HB1.out
  refine bodyPost_ret (results_tmp2 rfl _ _ _) rfl ⟨_, _, rfl, (HR.out.1.below hwb).over ho HBT.out (by decide) (by decide), ((HR.out.2 a HA.out).below hwb).over ho HBT.out (by decide) (by decide) (by decide), ((HBT.out.put 0 _).drew).cast rfl, (Over.of_below hwb).trans ho⟩
end Go.Proofs.YtoidjgongafnkaaGreatDoor
