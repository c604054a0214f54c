/- The reference's fabric is formatted. -/
import Derived.Test.YtoidjgongafnkaaGreatDoorWFi
import Derived.Test.YtoidjgongafnkaaGreatDoorWFk
set_option linter.unusedVariables false
set_option linter.unusedSimpArgs false
set_option linter.unusedSectionVars false
set_option linter.constructorNameAsVariable false
namespace Go.Proofs.YtoidjgongafnkaaGreatDoor
open Go.RowKit

/-- A new fabric: as Geo.At, but the nodes' words lie anywhere. -/
structure Geo.Pre (g : Geo) (w : World) (n : Nat) : Prop where
  fab : Blk w g.f 58 g.fcs
  len : g.mb.length = n
  nodes : ∃ cs, Blk w g.nd 61 cs ∧ ∀ i, i < n → ∃ p q c, cs[i * 2]? = some (.slice p q c) ∧ cs[i * 2 + 1]? = some (.bool true)
  live : ∃ cs, Blk w g.lv 56 cs ∧ cs[0]? = some (.slice (some ⟨g.pr, 0, none⟩) n g.cp)
  client : g.Client w false (.slice none 0 0) (.slice none 0 0)
  pairs : ∃ cs, Blk w g.pr 107 cs ∧ ∀ i, i < n → cs[i * 4]? = some (.int .i64 0) ∧ cs[i * 4 + 1]? = some (.int .i64 1) ∧ cs[i * 4 + 2]? = some (.int .i64 i) ∧ cs[i * 4 + 3]? = some (.slice none 0 0)
def FmtLoop (g : Geo) (n : Nat) (cons : Int) (W : World) (iv : Value) (wr : World) : Prop :=
  ∃ mb : List Nat, mb.length ≤ n ∧ iv = .int .i64 mb.length ∧ Hid (Mod (fun k => k = g.nd) W wr ∧ mb.Nodup ∧ (∀ b ∈ mb, W.heap.size ≤ b ∧ MemAt wr b (Cm.formatted cons)) ∧
    ∃ cs, Blk wr g.nd 61 cs ∧ (∀ i, i < n → ∃ p q c, cs[i * 2]? = some (.slice p q c) ∧ cs[i * 2 + 1]? = some (.bool true)) ∧ ∀ (i b : Nat), mb[i]? = some b → cs[i * 2]? = some (.slice (some ⟨b, 0, none⟩) 864 864))
def FmtPost (g : Geo) (n : Nat) (cons : Int) (w : World) (w' : World) : Prop :=
  ∃ mb : List Nat, mb.length = n ∧ ({ g with mb := mb } : Geo).Off w' w'.heap.size (Cm.start n cons) ∧ Mod (fun k => k = g.nd) w w' ∧ ∀ b ∈ mb, w.heap.size ≤ b

set_option maxRecDepth 10000 in
set_option maxHeartbeats 2000000 in
theorem format_ok (g : Geo) (n : Nat) (cons : Int) (w : World) (hn1 : 1 ≤ n) (hn4 : n ≤ 4) (hp : g.Pre w n) (hF : ∀ w, Calls Tryz.prog 14 #[.int .i64 n, .int .i64 108] w fun e w' => (∃ b, e = .returned (.slice (some ⟨b, 0, none⟩) 864 864) ∧ w.heap.size ≤ b ∧ MemAt w' b (Cm.formatted cons)) ∧ Below w.heap.size w w') :
    Calls Tryz.prog 6 #[.pointer (some ⟨g.f, 0, none⟩)] w fun e w' => e = .returned (.tuple #[]) ∧ FmtPost g n cons w w' := by
  have HP := Lib.hid hp
  have HFm := Lib.hid hF
  obtain ⟨csn, hnd, hnc⟩ := hp.nodes
  have hne : g.f ≠ g.nd := hp.fab.ne hnd (by decide)
  have hd : g.f < g.nd ∨ g.nd < g.f := by omega
  clear hF
  go_enter Tryz.func6, Tryz.ntmps6
  go_wp2_with fail
  go_loopw [2] (fun iv wr => FmtLoop g n cons w iv wr) (fun iv _ => ((n : Int) - intOf iv).toNat)
  case atStart => exact ⟨[], by simp, rfl, Lib.hid ⟨Mod.refl _ _, List.nodup_nil, by simp, csn, hnd, hnc, by simp⟩⟩
  case round =>
    obtain ⟨mb, hmb, rfl, H⟩ := hrel
    have hf := H.out.1.blk HP.out.fab hne
    unfold Geo.fcs at hf
    rw [HP.out.len] at hf
    have kf := hf.cell
    have lf := hf.lt
    obtain ⟨i, hi⟩ : ∃ i, i = mb.length := ⟨_, rfl⟩
    rw [← hi] at hmb ⊢
    have HI := Lib.hid hi
    clear hf hi hp hnd hnc
    by_cases hj : i < n
    · obtain ⟨cs, hb, hc, hcm⟩ := H.out.2.2.2
      obtain ⟨p, q, c, hc0, hc1⟩ := hc i hj
      have k0 : wr.cell? ⟨g.nd, i * 2, none⟩ = some (.slice p q c) := (hb.cell _).trans hc0
      have fnd := hb.free
      have lnd := hb.lt
      have iz0 : (0 : Int) ≤ i := by omega
      have iz1 : (i : Int) < n := by omega
      have HC := Lib.hid (And.intro hb (And.intro hc (And.intro hcm hc0)))
      clear hb hc hcm hc0 hc1
      go_wp2_with fail
      refine wp_region_held_drew (S := SteadyBut (g.nd) _) (by kernel_rfl) (SteadyBut.of (Below.refl _ _).drew) ?_
      intro hSt
      refine wpAnyH_seq (is := [0, 1, 2, 3, 4, 5, 6, 7, 8, 9, 10, 11, 12, 13]) (by kernel_rfl) (by kernel_rfl) (fun _ _ d _ _ h => by cases d <;> exact h) (by assumption) ?_
      iterate 14 (first | (refine TakeSeq.step (v := undef) rfl (Or.inr ⟨by rfl, rfl⟩) ?_; simp only [Act.put, List.setIfInBounds_toArray, List.set_cons_zero, List.set_cons_succ, List.getElem_toArray, List.getElem_cons_zero, List.getElem_cons_succ]) | (refine TakeSeq.step (v := ?_) rfl (Or.inl ⟨by rfl, ?_⟩) ?_; rotate_left 1; (focus (intro wq hSq; have hrd := hSq.rule; go_simp; with_reducible rfl)); simp only [Act.put, List.setIfInBounds_toArray, List.set_cons_zero, List.set_cons_succ, List.getElem_toArray, List.getElem_cons_zero, List.getElem_cons_succ]))
      refine TakeSeq.done ?_
      refine wpAnyH_ready (rs := [14]) (by kernel_rfl) (by simp) ?_
      refine AllReadyH.cons rfl (fun K hK => ?_) (AllReadyH.nil)
      rw [if_pos (by rfl)]
      go_simp
      go_at_call 14; refine (HFm.out _).mono ?_; rintro e w3 ⟨⟨b, rfl, hbs, hbm⟩, hb3⟩; have hb4 : Below wr.heap.size wr w3 := (by (repeat (first | with_reducible exact Below.refl _ _ | with_reducible assumption | with_reducible refine Below.setCell ?_ (by first | (simp; done) | (simp; omega)) _ | with_reducible refine below_alloc ?_ _ | with_reducible refine below_drewN ?_ _ | with_reducible refine Below.drew ?_ | with_reducible refine below_step ?_ (by assumption)))); have k3 := (hb4.cell (p := ⟨g.nd, i * 2, none⟩) lnd).trans k0; have f3 := (HC.out.1.kept hb4).free; have l3 := (HC.out.1.kept hb4).lt
      go_wp2_with fail
      refine hK.out _ _ (SteadyBut.of (by (repeat (first | with_reducible exact Below.refl _ _ | with_reducible assumption | with_reducible refine Below.setCell ?_ (by first | (simp; done) | (simp; omega)) _ | with_reducible refine below_alloc ?_ _ | with_reducible refine below_drewN ?_ _ | with_reducible refine Below.drew ?_ | with_reducible refine below_step ?_ (by assumption))))) (fun hHeld => ?_)
      clear hK K
      refine wpAnyH_seq (is := [15, 16]) (by kernel_rfl) (by kernel_rfl) (fun _ _ d _ _ h => by cases d <;> exact h) (by assumption) ?_
      iterate 2 (first | (refine TakeSeq.step (v := undef) rfl (Or.inr ⟨by rfl, rfl⟩) ?_; simp only [Act.put, List.setIfInBounds_toArray, List.set_cons_zero, List.set_cons_succ, List.getElem_toArray, List.getElem_cons_zero, List.getElem_cons_succ]) | (refine TakeSeq.step (v := ?_) rfl (Or.inl ⟨by rfl, ?_⟩) ?_; rotate_left 1; (focus (intro wq hSq; have hrd := hSq.rule; go_simp; with_reducible rfl)); simp only [Act.put, List.setIfInBounds_toArray, List.set_cons_zero, List.set_cons_succ, List.getElem_toArray, List.getElem_cons_zero, List.getElem_cons_succ]))
      refine TakeSeq.done ?_
      refine wpAnyH_ready (rs := [17]) (by kernel_rfl) (by simp) ?_
      refine AllReadyH.cons rfl (fun K hK => ?_) (AllReadyH.nil)
      rw [if_pos (by rfl)]
      go_simp
      refine hK.out _ _ (SteadyBut.over ((Over.of_below hb4).put (i * 2) _)) (fun hHeld => ?_)
      clear hK K
      refine wpAnyH_done (by kernel_rfl) ?_ _
      go_wp2_with fail
      have hbs' : wr.heap.size ≤ b := hbs
      have BN3 := HC.out.1.kept hb4
      have hS : Mod (fun k => k = g.nd) w3 (w3.setCell ⟨g.nd, i * 2, none⟩ (.slice (some ⟨b, 0, none⟩) 864 864)) := (Mod.refl (fun k => k = g.nd) w3).put (p := ⟨g.nd, i * 2, none⟩) (.inl rfl) _
      obtain ⟨hm, hnd, hmem, -⟩ := H.out
      refine ⟨⟨mb ++ [b], by rw [List.length_append, ← HI.out]; simp; omega, by rw [List.length_append, ← HI.out]; simp, Lib.hid ⟨(hm.then_below hb4).put (p := ⟨g.nd, i * 2, none⟩) (.inl rfl) _, ?_, ?_, cs.setIfInBounds (i * 2) (.slice (some ⟨b, 0, none⟩) 864 864), BN3.put (i * 2) _, ?_, ?_⟩⟩, by simp [intOf]; omega⟩
      · rw [List.nodup_append]
        refine ⟨hnd, by simp, fun a ha b' hb' => ?_⟩
        obtain rfl : b' = b := by simpa using hb'
        have := (hmem a ha).2.lt
        omega
      · intro b' hb'
        rcases List.mem_append.1 hb' with h | h
        · exact ⟨(hmem b' h).1, ((hmem b' h).2.below hb4).mod hS (fun e => ((hmem b' h).2.below hb4).ne BN3 (by decide) e.symm)⟩
        · obtain rfl : b' = b := by simpa using h
          exact ⟨Nat.le_trans hm.size hbs', hbm.mod hS (fun e => hbm.ne BN3 (by decide) e.symm)⟩
      · intro j hj2
        have s0 := (Array.getElem?_eq_some_iff.1 HC.out.2.2.2).1
        obtain ⟨p', q', c', h1, h2⟩ := HC.out.2.1 j hj2
        rw [Array.getElem?_setIfInBounds_ne (by omega : i * 2 ≠ j * 2 + 1)]
        by_cases hij : i = j
        · subst hij
          exact ⟨_, _, _, by rw [Array.getElem?_setIfInBounds, if_pos rfl, if_pos s0], h2⟩
        · rw [Array.getElem?_setIfInBounds_ne (by omega)]
          exact ⟨p', q', c', h1, h2⟩
      · intro j b' hj2
        have s0 := (Array.getElem?_eq_some_iff.1 HC.out.2.2.2).1
        have hl := HI.out
        by_cases hij : j < mb.length
        · rw [List.getElem?_append_left hij] at hj2
          rw [Array.getElem?_setIfInBounds_ne (by omega)]
          exact HC.out.2.2.1 j b' hj2
        · have hjl := (List.getElem?_eq_some_iff.1 hj2).1
          simp only [List.length_append, List.length_singleton] at hjl
          obtain rfl : j = i := by omega
          rw [List.getElem?_append_right (by omega), hl] at hj2
          obtain rfl : b = b' := by simpa using hj2
          rw [hl] at s0 ⊢
          rw [Array.getElem?_setIfInBounds, if_pos rfl, if_pos s0]
    · go_wp2_with fail
      refine bodyPost_end (results_none rfl _ _ _) rfl ⟨rfl, mb, ?_, ?_, H.out.1, fun b hb => (H.out.2.2.1 b hb).1⟩
      · have := HI.out; omega
      · have hln : mb.length = n := by have := HI.out; omega
        obtain ⟨hm, hdup, hmem, cs, hb, hc, hcm⟩ := H.out
        obtain ⟨fab, len, nodes, ⟨csl, hlv, hl0⟩, client, ⟨csp, hpp, hpc⟩⟩ := HP.out
        obtain ⟨csn, hnd, -⟩ := nodes
        have hfc : ({ g with mb := mb } : Geo).fcs = g.fcs := by unfold Geo.fcs; dsimp only; rw [hln, len]
        obtain ⟨csc, tr, po, hcb, hcc⟩ := id client
        have b1 := hm.blk fab (fab.ne hnd (by decide))
        have b2 := hm.blk hlv (hlv.ne hnd (by decide))
        have b3 := hm.blk hpp (hpp.ne hnd (by decide))
        have b4 := hm.blk hcb (hcb.ne hnd (by decide))
        refine ⟨⟨by rw [hfc]; exact b1, ⟨cs, hb, fun i b hi => ⟨hcm i b hi, ?_⟩⟩, ⟨csl, b2, by dsimp only; rw [hln]; exact hl0⟩, b1.lt, hb.lt, b4.lt, b2.lt, b3.lt, fun b hb => (hmem b hb).2.lt, Nat.le_refl _, hdup, by dsimp only; omega, by dsimp only; omega⟩, ⟨csc, tr, po, b4, hcc⟩, ⟨by simp [Cm.start, hln], csp, b3, fun i l hi => ?_⟩, ⟨by simp [Cm.start, hln], fun i b x hi hx => ?_⟩⟩
        · obtain ⟨_, _, _, _, h2⟩ := hc i (by have := (List.getElem?_eq_some_iff.1 hi).1; dsimp only at this; omega)
          exact h2
        · have hil : i < n := by have := (List.getElem?_eq_some_iff.1 hi).1; simpa [Cm.start] using this
          obtain rfl : [] = l := by
            have : (Cm.start n cons).q[i]? = some [] := by simp [Cm.start, hil]
            rw [this] at hi
            simpa using hi
          obtain ⟨a1, a2, a3, a4⟩ := hpc i hil
          exact ⟨a1, a2, a3, _, a4, [], rfl, fun _ => rfl, RowAt.nil _ _ _ _, by simp⟩
        · have hil : i < n := by have := (List.getElem?_eq_some_iff.1 hx).1; simpa [Cm.start] using this
          obtain rfl : Cm.formatted cons = x := by
            have : (Cm.start n cons).mem[i]? = some (Cm.formatted cons) := by simp [Cm.start, hil]
            rw [this] at hx
            simpa using hx
          exact (hmem b (List.mem_of_getElem? hi)).2
end Go.Proofs.YtoidjgongafnkaaGreatDoor
