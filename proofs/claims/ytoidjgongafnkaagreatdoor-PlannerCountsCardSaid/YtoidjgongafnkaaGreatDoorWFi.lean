/- The reference's fabric: the completions are taken. -/
import Derived.Test.YtoidjgongafnkaaGreatDoorWFe
set_option linter.unusedVariables false
set_option linter.unusedSimpArgs false
set_option linter.unusedSectionVars false
set_option linter.constructorNameAsVariable false
namespace Go.Proofs.YtoidjgongafnkaaGreatDoor
open Go.RowKit

/-- The fabric between two batches. -/
structure Geo.Off (g : Geo) (w : World) (B : Nat) (s : Cm.St) : Prop where
  at_ : g.At w B
  client : g.Client w false (.slice none 0 0) (.slice none 0 0)
  pairs : g.Pairs w B s.q
  mems : g.Mems w s.mem
theorem Geo.Off.below {g : Geo} {w w' : World} {B : Nat} {s : Cm.St} (h : g.Off w B s) (hb : Below w.heap.size w w') : g.Off w' B s :=
  ⟨h.at_.below hb, h.client.below hb, h.pairs.below hb, h.mems.below hb⟩
theorem DonesAt.mod {S : Nat → Prop} {w w' : World} {lo : Nat} {v : Value} {l : List (List Int)} (h : DonesAt w lo v l) (hm : Mod S w w') (hs : ∀ k, S k → k < lo ∨ ∃ t' cs', Blk w k t' cs' ∧ t' ≠ 151 ∧ t' ≠ 33) : DonesAt w' lo v l := by
  obtain ⟨al, h1, h2, h3⟩ := h
  refine ⟨al, h1, h2.mod hm (fun k hk => ?_), fun t ht => (h3 t ht).mod hm (fun k hk => ?_)⟩
  · rcases hs k hk with h | ⟨t', cs', a, b, c⟩
    · exact .inl h
    · exact .inr ⟨t', cs', a, b⟩
  · rcases hs k hk with h | ⟨t', cs', a, b, c⟩
    · exact .inl h
    · exact .inr ⟨t', cs', a, c⟩
def FTake (g : Geo) (B : Nat) (s : Cm.St) (rs : List (List Int)) (w : World) (e : Ending) (w' : World) : Prop :=
  (∃ v, e = .returned (.tuple #[v, .bool true]) ∧ DonesAt w' B v rs) ∧ g.Off w' B s ∧ Mod (fun k => k = g.cl) w w'
/-- All have completed. -/
theorem DnAt.dones {w : World} {B dn hv cd ch : Nat} {d : List (Option (List Int))} {rs : List (List Int)} (h : DnAt w B dn hv cd ch d) (hd : d = rs.map some) : DonesAt w B (.slice (some ⟨dn, 0, none⟩) d.length cd) rs := by
  obtain ⟨hB1, hB2, csd, csh, hbd, hbh, hl1, hl2, hcells⟩ := h
  subst hd
  have hv : ∀ i : Nat, ∃ v, ∀ ws, rs[i]? = some ws → csd[i * 2]? = some (.int .i64 0) ∧ csd[i * 2 + 1]? = some v ∧ WordsAt w B v ws := fun i => by
    rcases hr : rs[i]? with _ | ws
    · exact ⟨.slice none 0 0, fun ws h => by simp at h⟩
    · obtain ⟨a, b, v, c, d⟩ := hcells i (some ws) (by rw [List.getElem?_map, hr]; rfl)
      exact ⟨v, fun ws' h => by obtain rfl : ws = ws' := by simpa using h
                                exact ⟨b, c, d ws rfl⟩⟩
  obtain ⟨f, hf⟩ := Classical.axiomOfChoice hv
  refine ⟨rs.zipIdx.map (fun t => (t.1, f t.2)), by simp [List.map_map, Function.comp_def], ⟨?_, .inr ⟨dn, 0, cd, csd, by simp, hB1, by simpa using hl1, hbd, fun j u hj => ?_⟩⟩, fun t ht => ?_⟩
  · unfold doneCells
    rw [flat_len _ 2 (fun _ => rfl)]
  · have hj2 : j < rs.length * 2 := by
      have := (List.getElem?_eq_some_iff.1 hj).1
      unfold doneCells at this
      rw [flat_len _ 2 (fun _ => rfl)] at this
      simpa using this
    obtain ⟨q, r, hjq, hr⟩ : ∃ q r, j = q * 2 + r ∧ r < 2 := ⟨j / 2, j % 2, by omega, by omega⟩
    subst hjq
    obtain ⟨ws, hws⟩ : ∃ ws, rs[q]? = some ws := ⟨_, List.getElem?_eq_getElem (by omega)⟩
    obtain ⟨a, b, c⟩ := hf q ws hws
    have ht : (rs.zipIdx.map (fun t => (t.1, f t.2)))[q]? = some (ws, f q) := by
      rw [List.getElem?_map, List.getElem?_zipIdx, hws]
      simp
    have hfl := flat_at (fun t : List Int × Value => [Value.int .i64 0, t.2]) 2 (fun _ => rfl) _ q _ ht r hr
    unfold doneCells at hj
    rw [hfl] at hj
    rw [Nat.zero_add]
    rcases (by omega : r = 0 ∨ r = 1) with rfl | rfl
    · obtain rfl : Value.int .i64 0 = u := by simpa using hj
      exact a
    · obtain rfl : f q = u := by simpa using hj
      exact b
  · obtain ⟨⟨ws, i⟩, hi, rfl⟩ := List.mem_map.1 ht
    rw [List.mem_zipIdx_iff_getElem?] at hi
    exact (hf i ws (by simpa using hi)).2.2

set_option maxRecDepth 10000 in
set_option maxHeartbeats 4000000 in
theorem fabTake_ok (g : Geo) (B dn hv cd ch : Nat) (s : Cm.St) (rs : List (List Int)) (w : World) (hon : g.On w B dn hv cd ch s) (hl : s.done.length ≤ 1000) (hd : s.done = rs.map some) :
    Calls Tryz.prog 29 #[.pointer (some ⟨g.f, 0, none⟩), .int .i64 0] w (FTake g B s rs w) := by
  have HA : Hid (∀ W, Below w.heap.size w W → Calls Tryz.prog 52 #[.pointer (some ⟨g.f, 0, none⟩), .int .i64 0] W fun e w' => e = .returned (.bool true) ∧ W = w') := Lib.hid (fun W hb => alive_ok g B true _ _ W (hon.at_.below hb) (hon.client.below hb))
  have hz : (s.done.filter Option.isNone).length = 0 := by rw [hd]; simp
  have HWt : Hid (∀ W, Below w.heap.size w W → Calls Tryz.prog 26 #[.pointer (some ⟨g.f, 0, none⟩), .int .i64 0] W fun e w' => e = .returned (.int .i64 0) ∧ W = w') := Lib.hid (fun W hb => by
    have := waiting_ok g B dn hv cd ch _ s.done W (hon.at_.below hb) (hon.client.below hb) (hon.done.below hb) hl
    rw [hz] at this
    exact this)
  have HO := Lib.hid hon
  have HD := Lib.hid hd
  have hf := hon.at_.fab
  unfold Geo.fcs at hf
  obtain ⟨csc, tr, po, hcb, c0, c1, c2, c3, c4, c5, c6⟩ := hon.client
  have kf := hf.cell
  have lf := hf.lt
  have k2 : w.cell? ⟨g.cl, 2, none⟩ = some (.bool true) := (hcb.cell _).trans c2
  have k3 : w.cell? ⟨g.cl, 3, none⟩ = some (.slice (some ⟨dn, 0, none⟩) s.done.length cd) := (hcb.cell _).trans c3
  have k4 : w.cell? ⟨g.cl, 4, none⟩ = some (.slice (some ⟨hv, 0, none⟩) s.done.length ch) := (hcb.cell _).trans c4
  have ll := hcb.lt
  have fl := hcb.free
  have e1 : g.f < g.cl ∨ g.cl < g.f := by have := hf.ne hcb (by decide); omega
  clear hf hcb c0 c1 c2 c3 c4 c5 c6 hon hd hz
  go_enter Tryz.func29, Tryz.ntmps29
  go_wp2_with fail
  go_at_call 52
  refine (HA.out _ (Below.refl _ _)).mono ?_
  rintro e w1 ⟨rfl, rfl⟩
  go_wp2_with fail
  go_at_call 26
  refine (HWt.out _ (Below.refl _ _)).mono ?_
  rintro e w1 ⟨rfl, rfl⟩
  go_wp2_with fail
  refine wp_region_held_drew (S := SteadyBut (g.cl) _) (by kernel_rfl) (SteadyBut.of (Below.refl _ _).drew) ?_
  intro hSt
  refine wpAnyH_seq (is := [0, 1, 2, 3, 4, 5, 6, 7, 8, 9, 10, 11, 12, 13, 14, 15, 16]) (by kernel_rfl) (by kernel_rfl) (fun _ _ d _ _ h => by cases d <;> exact h) (by assumption) ?_
  iterate 17 (first | (refine TakeSeq.step (v := undef) rfl (Or.inr ⟨by rfl, rfl⟩) ?_; simp only [Act.put, List.setIfInBounds_toArray, List.set_cons_zero, List.set_cons_succ, List.getElem_toArray, List.getElem_cons_zero, List.getElem_cons_succ]) | (refine TakeSeq.step (v := ?_) rfl (Or.inl ⟨by rfl, ?_⟩) ?_; rotate_left 1; (focus (intro wq hSq; have hrd := hSq.rule; go_simp; with_reducible rfl)); simp only [Act.put, List.setIfInBounds_toArray, List.set_cons_zero, List.set_cons_succ, List.getElem_toArray, List.getElem_cons_zero, List.getElem_cons_succ]))
  refine TakeSeq.done ?_
  refine wpAnyH_ready (rs := [17]) (by kernel_rfl) (by simp) ?_
  refine AllReadyH.cons rfl (fun K hK => ?_) (AllReadyH.nil)
  rw [if_pos (by rfl)]
  go_simp
  refine hK.out _ _ (SteadyBut.over (by (repeat (first | with_reducible exact Over.refl _ _ | with_reducible assumption | with_reducible refine Over.put ?_ _ _ | with_reducible refine Over.alloc ?_ _ | with_reducible refine Over.drew ?_ | with_reducible refine Over.own ?_ (by first | (simp; done) | (simp; omega)) _ | with_reducible refine Over.trans ?_ (by assumption) | with_reducible refine Over.then_below ?_ (by assumption))))) (fun hHeld => ?_)
  clear hK K
  refine wpAnyH_seq (is := [18, 19]) (by kernel_rfl) (by kernel_rfl) (fun _ _ d _ _ h => by cases d <;> exact h) (by assumption) ?_
  iterate 2 (first | (refine TakeSeq.step (v := undef) rfl (Or.inr ⟨by rfl, rfl⟩) ?_; simp only [Act.put, List.setIfInBounds_toArray, List.set_cons_zero, List.set_cons_succ, List.getElem_toArray, List.getElem_cons_zero, List.getElem_cons_succ]) | (refine TakeSeq.step (v := ?_) rfl (Or.inl ⟨by rfl, ?_⟩) ?_; rotate_left 1; (focus (intro wq hSq; have hrd := hSq.rule; go_simp; with_reducible rfl)); simp only [Act.put, List.setIfInBounds_toArray, List.set_cons_zero, List.set_cons_succ, List.getElem_toArray, List.getElem_cons_zero, List.getElem_cons_succ]))
  refine TakeSeq.done ?_
  refine wpAnyH_ready (rs := [20]) (by kernel_rfl) (by simp) ?_
  refine AllReadyH.cons rfl (fun K hK => ?_) (AllReadyH.nil)
  rw [if_pos (by rfl)]
  go_simp
  refine hK.out _ _ (SteadyBut.over (by (repeat (first | with_reducible exact Over.refl _ _ | with_reducible assumption | with_reducible refine Over.put ?_ _ _ | with_reducible refine Over.alloc ?_ _ | with_reducible refine Over.drew ?_ | with_reducible refine Over.own ?_ (by first | (simp; done) | (simp; omega)) _ | with_reducible refine Over.trans ?_ (by assumption) | with_reducible refine Over.then_below ?_ (by assumption))))) (fun hHeld => ?_)
  clear hK K
  refine wpAnyH_seq (is := [21, 22]) (by kernel_rfl) (by kernel_rfl) (fun _ _ d _ _ h => by cases d <;> exact h) (by assumption) ?_
  iterate 2 (first | (refine TakeSeq.step (v := undef) rfl (Or.inr ⟨by rfl, rfl⟩) ?_; simp only [Act.put, List.setIfInBounds_toArray, List.set_cons_zero, List.set_cons_succ, List.getElem_toArray, List.getElem_cons_zero, List.getElem_cons_succ]) | (refine TakeSeq.step (v := ?_) rfl (Or.inl ⟨by rfl, ?_⟩) ?_; rotate_left 1; (focus (intro wq hSq; have hrd := hSq.rule; go_simp; with_reducible rfl)); simp only [Act.put, List.setIfInBounds_toArray, List.set_cons_zero, List.set_cons_succ, List.getElem_toArray, List.getElem_cons_zero, List.getElem_cons_succ]))
  refine TakeSeq.done ?_
  refine wpAnyH_ready (rs := [23]) (by kernel_rfl) (by simp) ?_
  refine AllReadyH.cons rfl (fun K hK => ?_) (AllReadyH.nil)
  rw [if_pos (by rfl)]
  go_simp
  refine hK.out _ _ (SteadyBut.over (by (repeat (first | with_reducible exact Over.refl _ _ | with_reducible assumption | with_reducible refine Over.put ?_ _ _ | with_reducible refine Over.alloc ?_ _ | with_reducible refine Over.drew ?_ | with_reducible refine Over.own ?_ (by first | (simp; done) | (simp; omega)) _ | with_reducible refine Over.trans ?_ (by assumption) | with_reducible refine Over.then_below ?_ (by assumption))))) (fun hHeld => ?_)
  clear hK K
  refine wpAnyH_done (by kernel_rfl) ?_ _
  go_wp2_with fail
  refine bodyPost_ret (results_tmp2 rfl _ _ _) rfl ?_
  obtain ⟨hat, hcl, hpr, hms, hdn⟩ := HO.out
  obtain ⟨csc, tr, po, hcb, c0, c1, c2, c3, c4, c5, c6⟩ := hcl
  have hs7 : 7 ≤ csc.size := by have := (Array.getElem?_eq_some_iff.1 c6).1; omega
  have hm := ((((Mod.refl (fun k => k = g.cl) w).put (p := ⟨g.cl, 2, none⟩) (.inl rfl) (.bool false)).put (p := ⟨g.cl, 3, none⟩) (.inl rfl) (.slice none 0 0)).put (p := ⟨g.cl, 4, none⟩) (.inl rfl) (.slice none 0 0)).drew
  have hb : Blk ((((w.setCell ⟨g.cl, 2, none⟩ (.bool false)).setCell ⟨g.cl, 3, none⟩ (.slice none 0 0)).setCell ⟨g.cl, 4, none⟩ (.slice none 0 0)).drew) g.cl 65 _ := ((hcb.put 2 (.bool false)).put 3 (.slice none 0 0)).put 4 (.slice none 0 0)
  have hcB := hat.lc
  obtain ⟨csn, hnd, -⟩ := hat.nodes
  obtain ⟨csl, hlv, -⟩ := hat.live
  obtain ⟨-, csp, hpp, -⟩ := id hpr
  refine ⟨⟨_, rfl, (hdn.dones HD.out).mod hm (fun k hk => .inl (by omega))⟩, ⟨hat.mod hm (fun e => hat.fab.ne hcb (by decide) e) (fun e => hnd.ne hcb (by decide) e) (fun e => hlv.ne hcb (by decide) e), ⟨_, tr, po, hb, ?_, ?_, ?_, ?_, ?_, ?_, ?_⟩, hpr.mod hm (fun e => hpp.ne hcb (by decide) e) (fun k hk => .inl (by omega)), hms.mod hm (fun b hb e => ?_)⟩, hm⟩
  · simp [Array.getElem?_setIfInBounds, c0]
  · simp [Array.getElem?_setIfInBounds, c1]
  · simp [Array.getElem?_setIfInBounds]; omega
  · simp [Array.getElem?_setIfInBounds]; omega
  · simp [Array.getElem?_setIfInBounds]; omega
  · simp [Array.getElem?_setIfInBounds, c5]
  · simp [Array.getElem?_setIfInBounds, c6]
  · obtain ⟨i, hi, hk2⟩ := List.mem_iff_getElem.1 hb
    have hk3 : g.mb[i]? = some b := by rw [List.getElem?_eq_getElem hi, hk2]
    obtain ⟨m2, hm2⟩ : ∃ m2, s.mem[i]? = some m2 := ⟨_, List.getElem?_eq_getElem (by rw [hms.1]; exact hi)⟩
    exact (hms.2 i _ m2 hk3 hm2).ne hcb (by decide) e.symm
end Go.Proofs.YtoidjgongafnkaaGreatDoor
