/- Package commit: the pages are locked, what was read is looked at. -/
import Derived.Test.YtoidjgongafnkaaGreatDoorQg
import Derived.Test.YtoidjgongafnkaaGreatDoorWCs
import Derived.Test.YtoidjgongafnkaaGreatDoorWCv
set_option linter.unusedVariables false
set_option linter.unusedSimpArgs false
set_option linter.unusedSectionVars false
set_option linter.constructorNameAsVariable false
namespace Go.Proofs.YtoidjgongafnkaaGreatDoor
open Go.RowKit

def casVb (j : Nat) : Cm.Vb := ⟨3, 0, (96 + j) * 8, 0, 256, 257, []⟩
def readVb (j : Nat) : Cm.Vb := ⟨1, 0, (101 + j) * 8, 1, 0, 0, []⟩
/-- The batch of the locks. -/
def lockAsk (k r : Nat) : List Cm.Vb := (List.range k).map casVb ++ (List.range r).map readVb
theorem lockAsk_good (k r : Nat) : ∀ x ∈ lockAsk k r, x.Good := by
  intro x hx
  rcases List.mem_append.1 hx with h | h
  · obtain ⟨q, _, rfl⟩ := List.mem_map.1 h
    exact .inr (.inr rfl)
  · obtain ⟨q, _, rfl⟩ := List.mem_map.1 h
    exact .inl ⟨rfl, rfl⟩
theorem lockAsk_len (k r : Nat) : (lockAsk k r).length = k + r := by simp [lockAsk]
theorem lockAsk_succ (k : Nat) : lockAsk (k + 1) 0 = lockAsk k 0 ++ [casVb k] := by simp [lockAsk, List.range_succ]
theorem lockAsk_succ' (k r : Nat) : lockAsk k (r + 1) = lockAsk k r ++ [readVb r] := by simp [lockAsk, List.range_succ]
theorem lockAsk_reply (k r : Nat) : ∀ x ∈ lockAsk k r, Cm.reply x = [256] := by
  intro x hx
  rcases List.mem_append.1 hx with h | h
  · obtain ⟨q, _, rfl⟩ := List.mem_map.1 h
    rfl
  · obtain ⟨q, _, rfl⟩ := List.mem_map.1 h
    rfl
theorem own_beside {w w' : World} {b1 b2 n1 n2 s1 s2 : Nat} {e1 e2 : TypeId} {v1 v2 : Value} {x1 x2 : List Value} (h : w.ownsRow b1 e1 s1 v1 n1 x1) (h2 : w.ownsRow b2 e2 s2 v2 n2 x2) (he : e1 ≠ e2) (hg : w.grownBy w' v2.ownBlock) : w'.ownsRow b1 e1 s1 v1 n1 x1 :=
  own_held h hg (fun c hc hh => by
    rcases h.2 with ⟨rfl, _⟩ | ⟨g, cap, cur, rfl, _, hcc, _⟩
    · simp [Value.ownBlock] at hc
    · simp [Value.ownBlock] at hc
      subst hc
      rcases h2.2 with ⟨rfl, _⟩ | ⟨g2, cap2, cur2, rfl, _, hcc2, _⟩
      · simp [Value.ownBlock] at hh
      · simp [Value.ownBlock] at hh
        subst hh
        rw [hcc] at hcc2
        simp only [Option.some.injEq, Obj.cells.injEq] at hcc2
        exact he hcc2.2.1)
theorem AskRow.beside {w w' : World} {base b2 n2 s2 : Nat} {e2 : TypeId} {v v2 : Value} {x2 : List Value} {l : List Cm.Vb} (h : AskRow w base v l) (hl : ∀ x ∈ l, x.words = []) (h2 : w.ownsRow b2 e2 s2 v2 n2 x2) (he : 147 ≠ e2) (hg : w.grownBy w' v2.ownBlock) : AskRow w' base v l := by
  obtain ⟨al, rfl, hown, hws⟩ := h
  refine ⟨al, rfl, own_beside hown h2 he hg, fun t ht => ?_⟩
  have h0 : t.1.words = [] := hl _ (List.mem_map_of_mem ht)
  have h3 := hws t ht
  obtain ⟨p, c, hp⟩ := RowAt.shape h3
  rw [h0] at h3 hp ⊢
  exact ⟨rfl, .inl ⟨rfl, p, c, hp⟩⟩
theorem lockAsk_nil (k r : Nat) : ∀ x ∈ lockAsk k r, x.words = [] := by
  intro x hx
  rcases List.mem_append.1 hx with h | h
  · obtain ⟨q, _, rfl⟩ := List.mem_map.1 h
    rfl
  · obtain ⟨q, _, rfl⟩ := List.mem_map.1 h
    rfl
theorem want_succ (n : Nat) : List.replicate (n + 1) (Value.int .u64 256) = List.replicate n (.int .u64 256) ++ [.int .u64 256] := by rw [List.replicate_succ']
/-- The words that are wanted. -/
def wantAt (w : World) (base n : Nat) (v : Value) : Prop := w.ownsRow base 33 1 v n (List.replicate n (.int .u64 256))
def LkLoop (n0 n : Nat) (W : World) (va vw iv : Value) (wr : World) (L : Nat → List Cm.Vb) : Prop :=
  ∃ j : Nat, j ≤ n ∧ iv = .int .i64 j ∧ Hid (AskRow wr W.heap.size va (L j) ∧ wantAt wr W.heap.size (n0 + j) vw ∧ Below W.heap.size W wr)

/-- The verbs that would undo the locks. -/
def LkUndo (N : Nat) (W : World) (vu vc iv : Value) (wr : World) : Prop :=
  ∃ j : Nat, j ≤ N ∧ iv = .int .i64 j ∧ vc = .bool false ∧ Hid ((∃ n xs, n ≤ j ∧ wr.ownsRow W.heap.size 147 9 vu n xs) ∧ Below W.heap.size W wr)

set_option maxRecDepth 10000 in
set_option maxHeartbeats 4000000 in
theorem cLock_ok (lo lo2 c t m r k : Nat) (vm vr vw : Value) (gs : List (List (List Int))) (w : World) (hc : CAt w lo2 c t m r k vm vr vw) (ht : TkAt w t lo gs none) (hlo : True) (hlw : lo ≤ w.heap.size) (hlw2 : lo2 ≤ w.heap.size)
    (hf : Fits (lockAsk k r) gs) :
    Calls Tryz.prog 40 #[.pointer (some ⟨c, 0, none⟩)] w (FnPost t lo (lockAsk k r) gs w) := by
  obtain ⟨i0, hi, hz0, hz1, hz2⟩ := info_parts infoVerb
  obtain ⟨j0, hj, hy0, hy1, hy2⟩ := info_parts infoU64
  obtain ⟨pm, cm, rfl⟩ := own_shape hc.job.mem
  obtain ⟨pr, cr, rfl⟩ := own_shape hc.job.reads
  obtain ⟨pw, cw, rfl⟩ := own_shape hc.job.writes
  have HC := Lib.hid hc
  have HT := Lib.hid (And.intro ht hf)
  have HK : Hid (∀ W, Below w.heap.size w W → Blk W c 77 #[Value.int .i64 0, .int .i64 1, .int .i64 108, .int .i64 0, .slice pm m cm, .slice pr r cr, .slice pw k cw, .pointer (some ⟨t, 0, none⟩), .int .i64 0, .int .i64 1, .bool true]) := Lib.hid (fun W hb => hc.blk.kept hb)
  have HA : Hid (∀ W (x : Cm.Vb), Below w.heap.size w W → x.node = 0 → x.words = [] → Calls Tryz.prog 70 #[.pointer (some ⟨c, 0, none⟩), .agg #[.int .i64 0, .int .i64 1, .bool true], .agg (rawArr x (.slice none 0 0))] W (AddrPost x W)) :=
    Lib.hid (fun W x hb h0 hw => by
      have := cAddress_ok x 0 c t pm m cm (.slice pr r cr) (.slice pw k cw) none 0 true W (hc.blk.kept hb) (by rw [hw]; exact RowAt.nil _ _ _ _) (.inl ⟨rfl, rfl⟩) (by rw [hw]; simp)
      rw [h0, hw] at this
      exact this)
  have lc := hc.blk.lt
  have k4 := hc.job.k4
  have r4 := hc.job.r4
  clear hc ht hf
  go_enter Tryz.func40, Tryz.ntmps40
  have kc := (HK.out w (Below.refl _ _)).cell
  go_wp2_with fail
  generalize hW : World.alloc _ _ = W
  have BR : Blk W w.heap.size 43 #[.int .i64 0, .int .i64 0] := by rw [← hW]; exact Blk.made w _ _
  have hbW : Below w.heap.size w W := by rw [← hW]; (repeat (first | with_reducible exact Below.refl _ _ | with_reducible assumption | with_reducible refine Below.setCell ?_ (by first | (simp; done) | (simp; omega)) _ | with_reducible refine below_alloc ?_ _ | with_reducible refine below_drewN ?_ _ | with_reducible refine Below.drew ?_ | with_reducible refine below_step ?_ (by assumption)))
  have HBR := Lib.hid (And.intro BR hbW)
  clear hW BR hbW kc
  go_loopw [4, 6, 24] (fun va vw iv wr => LkLoop 0 k W va vw iv wr (fun j => lockAsk j 0)) (fun _ _ iv _ => ((k : Int) - intOf iv).toNat)
  case atStart => exact ⟨0, by omega, rfl, Lib.hid ⟨AskRow.nil _ _, World.ownsRow_nil _ _ _ _, Below.refl _ _⟩⟩
  case round =>
    obtain ⟨j, hj3, rfl, H⟩ := hrel
    have hb2 : Below W.heap.size W wr := H.out.2.2
    have hb1 : Below w.heap.size w wr := below_step HBR.out.2 hb2
    by_cases hj2 : j < k
    · have b1 : decide ((j : Int) < k) = true := by simp; omega
      have bk0 : (0 : Int) ≤ j := by omega
      have bk1 : (j : Int) < k := by omega
      obtain ⟨g, cap, hv⟩ := own_form HC.out.job.writes (by omega)
      simp only [Value.slice.injEq, true_and] at hv
      obtain ⟨rfl, rfl⟩ := hv
      have HG := Lib.hid (own_lt HC.out.job.writes).2
      have HCP : Hid (∀ i, i < k → ∀ j, j < 9 → w.cell? ⟨g, i * 9 + j, none⟩ = (pgVals (96 + (i : Int)))[j]?) := Lib.hid (fun k hk j hj => pg_cell HC.out.job.writes k hk j hj)
      have HB1 := Lib.hid hb1
      have c0 : wr.cell? ⟨g, j * 9, none⟩ = some (.int .i64 (96 + (j : Int))) := (HB1.out.cell (p := ⟨g, j * 9, none⟩) HG.out).trans (HCP.out j (by assumption) 0 (by omega))
      have c1 : wr.cell? ⟨g, j * 9 + 1, none⟩ = some (.int .u64 256) := (HB1.out.cell (p := ⟨g, j * 9 + 1, none⟩) HG.out).trans (HCP.out j (by assumption) 1 (by omega))
      have c2 : wr.cell? ⟨g, j * 9 + 2, none⟩ = some (.int .u64 0) := (HB1.out.cell (p := ⟨g, j * 9 + 2, none⟩) HG.out).trans (HCP.out j (by assumption) 2 (by omega))
      have c3 : wr.cell? ⟨g, j * 9 + 3, none⟩ = some (.int .u64 0) := (HB1.out.cell (p := ⟨g, j * 9 + 3, none⟩) HG.out).trans (HCP.out j (by assumption) 3 (by omega))
      have c4 : wr.cell? ⟨g, j * 9 + 4, none⟩ = some (.int .u64 0) := (HB1.out.cell (p := ⟨g, j * 9 + 4, none⟩) HG.out).trans (HCP.out j (by assumption) 4 (by omega))
      have c5 : wr.cell? ⟨g, j * 9 + 5, none⟩ = some (.int .u64 0) := (HB1.out.cell (p := ⟨g, j * 9 + 5, none⟩) HG.out).trans (HCP.out j (by assumption) 5 (by omega))
      have c6 : wr.cell? ⟨g, j * 9 + 6, none⟩ = some (.int .u64 0) := (HB1.out.cell (p := ⟨g, j * 9 + 6, none⟩) HG.out).trans (HCP.out j (by assumption) 6 (by omega))
      have c7 : wr.cell? ⟨g, j * 9 + 7, none⟩ = some (.int .u64 0) := (HB1.out.cell (p := ⟨g, j * 9 + 7, none⟩) HG.out).trans (HCP.out j (by assumption) 7 (by omega))
      have c8 : wr.cell? ⟨g, j * 9 + 8, none⟩ = some (.int .u64 0) := (HB1.out.cell (p := ⟨g, j * 9 + 8, none⟩) HG.out).trans (HCP.out j (by assumption) 8 (by omega))
      go_wp2_with fail
      have BP : Blk (wr.alloc (.cells (pgVals (96 + (j : Int))) 36)) wr.heap.size 36 (pgVals (96 + (j : Int))) := Blk.made _ _ _
      have hbp : Below wr.heap.size wr (wr.alloc (.cells (pgVals (96 + (j : Int))) 36)) := by (repeat (first | with_reducible exact Below.refl _ _ | with_reducible assumption | with_reducible refine Below.setCell ?_ (by first | (simp; done) | (simp; omega)) _ | with_reducible refine below_alloc ?_ _ | with_reducible refine below_drewN ?_ _ | with_reducible refine Below.drew ?_ | with_reducible refine below_step ?_ (by assumption)))
      unfold pgVals at BP hbp
      generalize hgp : World.alloc wr _ = wp at *
      have HBP := Lib.hid (And.intro BP hbp)
      have HKp : Hid (∀ W', Below wp.heap.size wp W' → KeepTwo wr.heap.size 36 #[.int .i64 (96 + (j : Int)), .int .u64 256, .int .u64 0, .int .u64 0, .int .u64 0, .int .u64 0, .int .u64 0, .int .u64 0, .int .u64 0] c 77 #[Value.int .i64 0, .int .i64 1, .int .i64 108, .int .i64 0, .slice pm m cm, .slice pr r cr, .slice (some ⟨g, 0, none⟩) k cw, .pointer (some ⟨t, 0, none⟩), .int .i64 0, .int .i64 1, .bool true] W') :=
        Lib.hid (fun W' h => ⟨BP.kept h, HK.out W' (below_step hb1 (below_step hbp h))⟩)
      clear hgp BP hbp c0 c1 c2 c3 c4 c5 c6 c7 c8
      refine wp_region_held_drew (S := KeepTwo wr.heap.size 36 #[.int .i64 (96 + (j : Int)), .int .u64 256, .int .u64 0, .int .u64 0, .int .u64 0, .int .u64 0, .int .u64 0, .int .u64 0, .int .u64 0] c 77 #[Value.int .i64 0, .int .i64 1, .int .i64 108, .int .i64 0, .slice pm m cm, .slice pr r cr, .slice (some ⟨g, 0, none⟩) k cw, .pointer (some ⟨t, 0, none⟩), .int .i64 0, .int .i64 1, .bool true]) (by kernel_rfl) (HKp.out _ (by (repeat (first | with_reducible exact Below.refl _ _ | with_reducible assumption | with_reducible refine Below.setCell ?_ (by first | (simp; done) | (simp; omega)) _ | with_reducible refine below_alloc ?_ _ | with_reducible refine below_drewN ?_ _ | with_reducible refine Below.drew ?_ | with_reducible refine below_step ?_ (by assumption))))) ?_
      intro hSt
      refine wpAnyH_seq (is := [0, 1, 2, 3, 4, 5]) (by kernel_rfl) (by kernel_rfl) (fun _ _ d _ _ h => by cases d <;> exact h) (by assumption) ?_
      iterate 6 (first | (refine TakeSeq.step (v := undef) rfl (Or.inr ⟨by rfl, rfl⟩) ?_; simp only [Act.put, List.setIfInBounds_toArray, List.set_cons_zero, List.set_cons_succ, List.getElem_toArray, List.getElem_cons_zero, List.getElem_cons_succ]) | (refine TakeSeq.step (v := ?_) rfl (Or.inl ⟨by rfl, ?_⟩) ?_; rotate_left 1; (focus (intro wq hSq; have hrd := hSq.rule; go_simp; with_reducible rfl)); simp only [Act.put, List.setIfInBounds_toArray, List.set_cons_zero, List.set_cons_succ, List.getElem_toArray, List.getElem_cons_zero, List.getElem_cons_succ]))
      refine TakeSeq.done ?_
      refine wpAnyH_ready (rs := [6]) (by kernel_rfl) (by simp) ?_
      refine AllReadyH.cons rfl (fun K hK => ?_) (AllReadyH.nil)
      rw [if_pos (by rfl)]
      go_simp
      go_at_call 69; refine (locked_ok (96 + (j : Int)) _).mono ?_; rintro e w2 ⟨rfl, hb3⟩
      go_wp2_with fail
      refine hK.out _ _ (HKp.out _ (by (repeat (first | with_reducible exact Below.refl _ _ | with_reducible assumption | with_reducible refine Below.setCell ?_ (by first | (simp; done) | (simp; omega)) _ | with_reducible refine below_alloc ?_ _ | with_reducible refine below_drewN ?_ _ | with_reducible refine Below.drew ?_ | with_reducible refine below_step ?_ (by assumption))))) (fun hHeld => ?_)
      clear hK K
      refine wpAnyH_seq (is := [7, 8, 9, 10, 11]) (by kernel_rfl) (by kernel_rfl) (fun _ _ d _ _ h => by cases d <;> exact h) (by assumption) ?_
      iterate 5 (first | (refine TakeSeq.step (v := undef) rfl (Or.inr ⟨by rfl, rfl⟩) ?_; simp only [Act.put, List.setIfInBounds_toArray, List.set_cons_zero, List.set_cons_succ, List.getElem_toArray, List.getElem_cons_zero, List.getElem_cons_succ]) | (refine TakeSeq.step (v := ?_) rfl (Or.inl ⟨by rfl, ?_⟩) ?_; rotate_left 1; (focus (intro wq hSq; have hrd := hSq.rule; go_simp; with_reducible rfl)); simp only [Act.put, List.setIfInBounds_toArray, List.set_cons_zero, List.set_cons_succ, List.getElem_toArray, List.getElem_cons_zero, List.getElem_cons_succ]))
      refine TakeSeq.done ?_
      refine wpAnyH_done (by kernel_rfl) ?_ _
      have hb4 : Below wp.heap.size wp w2 := by (repeat (first | with_reducible exact Below.refl _ _ | with_reducible assumption | with_reducible refine Below.setCell ?_ (by first | (simp; done) | (simp; omega)) _ | with_reducible refine below_alloc ?_ _ | with_reducible refine below_drewN ?_ _ | with_reducible refine Below.drew ?_ | with_reducible refine below_step ?_ (by assumption)))
      have HB4 := Lib.hid hb4
      clear hb3 hb4 hSt hHeld
      have HCA : Hid (∀ W', Below w.heap.size w W' → Calls Tryz.prog 70 #[.pointer (some ⟨c, 0, none⟩), .agg #[.int .i64 0, .int .i64 1, .bool true], .agg #[.int .i64 3, .int .i64 0, .int .i64 (((96 + j) * 8 : Nat) : Int), .int .i64 0, .int .u64 256, .int .u64 257, .slice none 0 0, .int .u64 0, .int .i64 0]] W' (AddrPost (casVb j) W')) :=
        Lib.hid (fun W' hb => HA.out W' (casVb j) hb rfl rfl)
      have HE8 : Hid (((96 + (j : Int)) * 8) = (((96 + j) * 8 : Nat) : Int)) := Lib.hid (by omega)
      go_wp2_with fail
      refine wp_region_held_drew (S := KeepTwo wr.heap.size 36 #[.int .i64 (96 + (j : Int)), .int .u64 256, .int .u64 0, .int .u64 0, .int .u64 0, .int .u64 0, .int .u64 0, .int .u64 0, .int .u64 0] c 77 #[Value.int .i64 0, .int .i64 1, .int .i64 108, .int .i64 0, .slice pm m cm, .slice pr r cr, .slice (some ⟨g, 0, none⟩) k cw, .pointer (some ⟨t, 0, none⟩), .int .i64 0, .int .i64 1, .bool true]) (by kernel_rfl) (HKp.out _ (by have := HB4.out; (repeat (first | with_reducible exact Below.refl _ _ | with_reducible assumption | with_reducible refine Below.setCell ?_ (by first | (simp; done) | (simp; omega)) _ | with_reducible refine below_alloc ?_ _ | with_reducible refine below_drewN ?_ _ | with_reducible refine Below.drew ?_ | with_reducible refine below_step ?_ (by assumption))))) ?_
      intro hSt
      refine wpAnyH_seq (is := [0, 1, 2, 3, 4, 5, 6, 7, 9, 10, 11]) (by kernel_rfl) (by kernel_rfl) (fun _ _ d _ _ h => by cases d <;> exact h) (by assumption) ?_
      iterate 11 (first | (refine TakeSeq.step (v := undef) rfl (Or.inr ⟨by rfl, rfl⟩) ?_; simp only [Act.put, List.setIfInBounds_toArray, List.set_cons_zero, List.set_cons_succ, List.getElem_toArray, List.getElem_cons_zero, List.getElem_cons_succ]) | (refine TakeSeq.step (v := ?_) rfl (Or.inl ⟨by rfl, ?_⟩) ?_; rotate_left 1; (focus (intro wq hSq; have hrd := hSq.rule; go_simp; with_reducible rfl)); simp only [Act.put, List.setIfInBounds_toArray, List.set_cons_zero, List.set_cons_succ, List.getElem_toArray, List.getElem_cons_zero, List.getElem_cons_succ]))
      refine TakeSeq.done ?_
      refine wpAnyH_ready (rs := [8]) (by kernel_rfl) (by simp) ?_
      refine AllReadyH.cons rfl (fun K hK => ?_) (AllReadyH.nil)
      rw [if_pos (by rfl)]
      go_simp
      go_at_call 71; refine (page_ok (96 + (j : Int)) (by omega) (by omega) _).mono ?_; rintro e w3 ⟨rfl, rfl⟩
      go_wp2_with fail
      refine hK.out _ _ (HKp.out _ (by have := HB4.out; (repeat (first | with_reducible exact Below.refl _ _ | with_reducible assumption | with_reducible refine Below.setCell ?_ (by first | (simp; done) | (simp; omega)) _ | with_reducible refine below_alloc ?_ _ | with_reducible refine below_drewN ?_ _ | with_reducible refine Below.drew ?_ | with_reducible refine below_step ?_ (by assumption))))) (fun hHeld => ?_)
      clear hK K
      refine wpAnyH_seq (is := [12]) (by kernel_rfl) (by kernel_rfl) (fun _ _ d _ _ h => by cases d <;> exact h) (by assumption) ?_
      iterate 1 (first | (refine TakeSeq.step (v := undef) rfl (Or.inr ⟨by rfl, rfl⟩) ?_; simp only [Act.put, List.setIfInBounds_toArray, List.set_cons_zero, List.set_cons_succ, List.getElem_toArray, List.getElem_cons_zero, List.getElem_cons_succ]) | (refine TakeSeq.step (v := ?_) rfl (Or.inl ⟨by rfl, ?_⟩) ?_; rotate_left 1; (focus (intro wq hSq; have hrd := hSq.rule; go_simp; with_reducible rfl)); simp only [Act.put, List.setIfInBounds_toArray, List.set_cons_zero, List.set_cons_succ, List.getElem_toArray, List.getElem_cons_zero, List.getElem_cons_succ]))
      refine TakeSeq.done ?_
      refine wpAnyH_ready (rs := [13]) (by kernel_rfl) (by simp) ?_
      refine AllReadyH.cons rfl (fun K hK => ?_) (AllReadyH.nil)
      rw [if_pos (by rfl)]
      go_simp
      go_at_call 70; rw [HE8.out]; refine (HCA.out _ (by have h1 := HBP.out.2; have h2 := HB4.out; (repeat (first | with_reducible exact Below.refl _ _ | with_reducible assumption | with_reducible refine Below.setCell ?_ (by first | (simp; done) | (simp; omega)) _ | with_reducible refine below_alloc ?_ _ | with_reducible refine below_drewN ?_ _ | with_reducible refine Below.drew ?_ | with_reducible refine below_step ?_ (by assumption))))).mono ?_; rintro e w3 ⟨⟨v2, rfl, hw2⟩, hb3⟩
      go_wp2_with fail
      refine hK.out _ _ (HKp.out _ (by have := HB4.out; (repeat (first | with_reducible exact Below.refl _ _ | with_reducible assumption | with_reducible refine Below.setCell ?_ (by first | (simp; done) | (simp; omega)) _ | with_reducible refine below_alloc ?_ _ | with_reducible refine below_drewN ?_ _ | with_reducible refine Below.drew ?_ | with_reducible refine below_step ?_ (by assumption))))) (fun hHeld => ?_)
      clear hK K
      obtain ⟨pv2, cv2, rfl⟩ := RowAt.shape hw2
      have hb5 : Below wp.heap.size wp w3 := by have := HB4.out; (repeat (first | with_reducible exact Below.refl _ _ | with_reducible assumption | with_reducible refine Below.setCell ?_ (by first | (simp; done) | (simp; omega)) _ | with_reducible refine below_alloc ?_ _ | with_reducible refine below_drewN ?_ _ | with_reducible refine Below.drew ?_ | with_reducible refine below_step ?_ (by assumption)))
      have hbr : Below wr.heap.size wr w3 := below_step HBP.out.2 hb5
      have HB5 := Lib.hid (And.intro hb5 hbr)
      obtain ⟨al, hal, hown, hws⟩ := H.out.1.below hbr
      have hwant := own_below H.out.2.1 hbr
      have hall : al.length = j := by have := congrArg List.length hal; simpa [lockAsk] using this
      have hwW : W.heap.size ≤ wr.heap.size := hb2.size
      have hs3 : wr.heap.size ≤ w3.heap.size := hbr.size
      have HWA := Lib.hid (And.intro hwant hw2)
      clear hb3 hb5 hbr hwant hw2
      simp only [vbArr, casVb]
      refine wpAnyH_ready (rs := [14]) (by kernel_rfl) (by simp) ?_
      refine AllReadyH.cons rfl (fun K hK => ?_) (AllReadyH.nil)
      rw [if_pos (by rfl)]
      go_simp
      refine hK.out _ _ (HKp.out _ (by have := HB5.out.1; (repeat (first | with_reducible exact Below.refl _ _ | with_reducible assumption | with_reducible refine Below.setCell ?_ (by first | (simp; done) | (simp; omega)) _ | with_reducible refine below_alloc ?_ _ | with_reducible refine below_drewN ?_ _ | with_reducible refine Below.drew ?_ | with_reducible refine below_step ?_ (by assumption))))) (fun hHeld => ?_)
      clear hK K
      refine wpAnyH_ready (rs := [15]) (by kernel_rfl) (by simp) ?_
      refine AllReadyH.cons rfl (fun K hK => ?_) (AllReadyH.nil)
      rw [if_pos (by rfl)]
      have hown' := own_below hown (below_alloc (Below.refl w3.heap.size w3) (.cells (vbArr (casVb j) (.slice pv2 0 cv2)) 147))
      refine wp_append_mine (.tmp 38) (.tmp 52) 40 rfl W.heap.size 147 i0 _ 9 88 Tryz.underlying40 hi hz0 hz1 hz2 rfl (by decide) _ al.length (askCells al) rfl
        hown' ⟨w3.heap.size, 0, none⟩ 1 1 (vbCells (casVb j) (.slice pv2 0 cv2)) rfl rfl
        (lit_news (o := 0) (cs := vbArr (casVb j) (.slice pv2 0 cv2)) (Blk.made _ _ _)) (vbCells_one _ _ _ _) (by omega) (by unfold maxLen; omega) (by omega) (by simp; omega) ?_
      intro g4 cap4 w4 hown4 hg4
      have hb6 : Below W.heap.size W w4 := below_grown (w := W) (w1 := w3.alloc _) (by have := HB5.out.2; (repeat (first | with_reducible exact Below.refl _ _ | with_reducible assumption | with_reducible refine Below.setCell ?_ (by first | (simp; done) | (simp; omega)) _ | with_reducible refine below_alloc ?_ _ | with_reducible refine below_drewN ?_ _ | with_reducible refine Below.drew ?_ | with_reducible refine below_step ?_ (by assumption)))) hg4 (fun j hj => own_row_ge hown j hj)
      have hA4 := AskRow.push hown' (fun t ht => (hws t ht).below (below_alloc (Below.refl _ _) _)) [(casVb j, .slice pv2 0 cv2)]
        (fun t ht => by simp at ht; subst ht; exact RowAt.low (WordsAt.below HWA.out.2 (below_alloc (Below.refl _ _) _)) (by have := HB4.out.size; have h3 := HBP.out.2.size; simp; omega)) rfl (by simp [askCells]) hown4 hg4
      have hW4 := own_beside (own_below HWA.out.1 (below_alloc (Below.refl _ _) _)) hown' (by decide) hg4
      have hKK := HKp.out (w3.alloc (.cells (vbArr (casVb j) (.slice pv2 0 cv2)) 147)) (by have := HB5.out.1; (repeat (first | with_reducible exact Below.refl _ _ | with_reducible assumption | with_reducible refine Below.setCell ?_ (by first | (simp; done) | (simp; omega)) _ | with_reducible refine below_alloc ?_ _ | with_reducible refine below_drewN ?_ _ | with_reducible refine Below.drew ?_ | with_reducible refine below_step ?_ (by assumption))))
      have HP := Lib.hid (And.intro (Blk.beside hKK.one hown' hg4 (by decide)) (Blk.beside hKK.two hown' hg4 (by decide)))
      have H4 : Hid (AskRow w4 W.heap.size (.slice (some ⟨g4, 0, none⟩) (al.length + 1) cap4) (lockAsk (j + 1) 0) ∧ w4.ownsRow W.heap.size 33 1 _ _ _ ∧ Below W.heap.size W w4) := Lib.hid ⟨by rw [lockAsk_succ, ← hal]; exact hA4, hW4, hb6⟩
      rw [hall] at H4
      clear hown4 hg4 hA4 hb6 hown hws hwW hal hown' hW4 hKK
      refine hK.out _ _ ⟨HP.out.1, HP.out.2⟩ (fun hHeld => ?_)
      clear hK K
      simp only [Act.put, List.setIfInBounds_toArray, List.set_cons_zero, List.set_cons_succ, List.getElem_toArray, List.getElem_cons_zero, List.getElem_cons_succ]
      refine wpAnyH_seq (is := [16]) (by kernel_rfl) (by kernel_rfl) (fun _ _ d _ _ h => by cases d <;> exact h) (by assumption) ?_
      iterate 1 (first | (refine TakeSeq.step (v := undef) rfl (Or.inr ⟨by rfl, rfl⟩) ?_; simp only [Act.put, List.setIfInBounds_toArray, List.set_cons_zero, List.set_cons_succ, List.getElem_toArray, List.getElem_cons_zero, List.getElem_cons_succ]) | (refine TakeSeq.step (v := ?_) rfl (Or.inl ⟨by rfl, ?_⟩) ?_; rotate_left 1; (focus (intro wq hSq; have hrd := hSq.rule; go_simp; with_reducible rfl)); simp only [Act.put, List.setIfInBounds_toArray, List.set_cons_zero, List.set_cons_succ, List.getElem_toArray, List.getElem_cons_zero, List.getElem_cons_succ]))
      refine TakeSeq.done ?_
      refine wpAnyH_done (by kernel_rfl) ?_ _
      have kp := HP.out.1.cell
      have lp := HP.out.1.lt
      go_wp2_with (at_builtin; refine halt ?_)
      refine unhalt ?_
      have hwW4 : W.heap.size ≤ w4.heap.size := H4.out.2.2.size
      refine wpList_append_mine rfl (.tmp 54) (.tmp 57) 59 rfl W.heap.size 33 j0 _ 1 8 Tryz.underlying59 hj hy0 hy1 hy2 rfl (by decide) _ (0 + j) (List.replicate (0 + j) (.int .u64 256)) rfl
        (own_below H4.out.2.1 (below_alloc (Below.refl _ _) _)) ⟨w4.heap.size, 0, none⟩ 1 1 [.int .u64 256] rfl rfl (lit_news (o := 0) (cs := #[.int .u64 256]) (Blk.made _ _ _))
        (by intro u hu; simp at hu; subst hu; rfl) (by omega) (by unfold maxLen; omega) (by omega) (by simp; omega) ?_
      intro g5 cap5 w5 hown5 hg5
      have hb7 : Below W.heap.size W w5 := below_grown (w := W) (w1 := w4.alloc _) (by have := H4.out.2.2; (repeat (first | with_reducible exact Below.refl _ _ | with_reducible assumption | with_reducible refine Below.setCell ?_ (by first | (simp; done) | (simp; omega)) _ | with_reducible refine below_alloc ?_ _ | with_reducible refine below_drewN ?_ _ | with_reducible refine Below.drew ?_ | with_reducible refine below_step ?_ (by assumption)))) hg5 (fun j hj => own_row_ge H4.out.2.1 j hj)
      rw [show 0 + j + 1 = j + 1 by omega] at hown5
      have hwant5 : wantAt w5 W.heap.size (0 + (j + 1)) (.slice (some ⟨g5, 0, none⟩) (j + 1) cap5) := own_cast hown5 (by omega) (by rw [show 0 + (j + 1) = (0 + j) + 1 by omega, want_succ])
      have hask5 := AskRow.beside (H4.out.1.below (below_alloc (Below.refl _ _) (.cells #[.int .u64 256] 33))) (lockAsk_nil (j + 1) 0) (own_below H4.out.2.1 (below_alloc (Below.refl _ _) (.cells #[.int .u64 256] 33))) (by decide) hg5
      have H6 := Lib.hid (And.intro hask5 (And.intro hwant5 hb7))
      clear hown5 hg5 hb7 hwant5 hask5
      go_wp2_with fail
      exact ⟨⟨j + 1, by omega, by simp, H6⟩, by simp [intOf]; omega⟩
    · have b1 : decide ((j : Int) < k) = false := by simp; omega
      obtain rfl : k = j := by omega
      have kc := (HK.out wr hb1).cell
      go_wp2_with fail
      go_loopw [4, 6, 66] (fun va vw iv wr => LkLoop k r W va vw iv wr (fun j => lockAsk k j)) (fun _ _ iv _ => ((r : Int) - intOf iv).toNat)
      case atStart => exact ⟨0, by omega, rfl, Lib.hid ⟨H.out.1, own_cast H.out.2.1 (by omega) (by rw [show k + 0 = 0 + k by omega]), H.out.2.2⟩⟩
      case round =>
        clear kc hb1 hb2 H b1 hj3 hj2
        obtain ⟨j, hj3, rfl, H⟩ := hrel
        have hb2 : Below W.heap.size W wr := H.out.2.2
        have hb1 : Below w.heap.size w wr := below_step HBR.out.2 hb2
        by_cases hj2 : j < r
        · have b1 : decide ((j : Int) < r) = true := by simp; omega
          have bk0 : (0 : Int) ≤ j := by omega
          have bk1 : (j : Int) < r := by omega
          obtain ⟨g, cap, hv⟩ := own_form HC.out.job.reads (by omega)
          simp only [Value.slice.injEq, true_and] at hv
          obtain ⟨rfl, rfl⟩ := hv
          have HG := Lib.hid (own_lt HC.out.job.reads).2
          have lgr : g < wr.heap.size := Nat.lt_of_lt_of_le HG.out hb1.size
          obtain ⟨d0, d1⟩ := seen_cell HC.out.job.reads j hj2
          have c0 : wr.cell? ⟨g, j * 2, none⟩ = some (.int .i64 (101 + (j : Int))) := (hb1.cell HG.out).trans d0
          have c1 : wr.cell? ⟨g, j * 2 + 1, none⟩ = some (.int .u64 256) := (hb1.cell HG.out).trans d1
          clear d0 d1
          go_wp2_with fail
          have BP : Blk (wr.alloc (.cells #[.int .i64 (101 + (j : Int)), .int .u64 256] 38)) wr.heap.size 38 #[.int .i64 (101 + (j : Int)), .int .u64 256] := Blk.made _ _ _
          have hbp : Below wr.heap.size wr (wr.alloc (.cells #[.int .i64 (101 + (j : Int)), .int .u64 256] 38)) := by (repeat (first | with_reducible exact Below.refl _ _ | with_reducible assumption | with_reducible refine Below.setCell ?_ (by first | (simp; done) | (simp; omega)) _ | with_reducible refine below_alloc ?_ _ | with_reducible refine below_drewN ?_ _ | with_reducible refine Below.drew ?_ | with_reducible refine below_step ?_ (by assumption)))
          generalize hgp : World.alloc wr _ = wp at *
          have HBP := Lib.hid (And.intro BP hbp)
          have HKp : Hid (∀ W', Below wp.heap.size wp W' → KeepTwo wr.heap.size 38 #[.int .i64 (101 + (j : Int)), .int .u64 256] c 77 #[Value.int .i64 0, .int .i64 1, .int .i64 108, .int .i64 0, .slice pm m cm, .slice (some ⟨g, 0, none⟩) r cr, .slice pw k cw, .pointer (some ⟨t, 0, none⟩), .int .i64 0, .int .i64 1, .bool true] W') :=
            Lib.hid (fun W' h => ⟨BP.kept h, HK.out W' (below_step hb1 (below_step hbp h))⟩)
          clear hgp BP hbp c0 c1 lgr
          have HCA : Hid (∀ W', Below w.heap.size w W' → Calls Tryz.prog 70 #[.pointer (some ⟨c, 0, none⟩), .agg #[.int .i64 0, .int .i64 1, .bool true], .agg #[.int .i64 1, .int .i64 0, .int .i64 (((101 + j) * 8 : Nat) : Int), .int .i64 1, .int .u64 0, .int .u64 0, .slice none 0 0, .int .u64 0, .int .i64 0]] W' (AddrPost (readVb j) W')) :=
            Lib.hid (fun W' hb => HA.out W' (readVb j) hb rfl rfl)
          have HE8 : Hid (((101 + (j : Int)) * 8) = (((101 + j) * 8 : Nat) : Int)) := Lib.hid (by omega)
          refine wp_region_held_drew (S := KeepTwo wr.heap.size 38 #[.int .i64 (101 + (j : Int)), .int .u64 256] c 77 #[Value.int .i64 0, .int .i64 1, .int .i64 108, .int .i64 0, .slice pm m cm, .slice (some ⟨g, 0, none⟩) r cr, .slice pw k cw, .pointer (some ⟨t, 0, none⟩), .int .i64 0, .int .i64 1, .bool true]) (by kernel_rfl) (HKp.out _ (by (repeat (first | with_reducible exact Below.refl _ _ | with_reducible assumption | with_reducible refine Below.setCell ?_ (by first | (simp; done) | (simp; omega)) _ | with_reducible refine below_alloc ?_ _ | with_reducible refine below_drewN ?_ _ | with_reducible refine Below.drew ?_ | with_reducible refine below_step ?_ (by assumption))))) ?_
          intro hSt
          refine wpAnyH_seq (is := [0, 1, 2, 3, 4, 5, 6, 7]) (by kernel_rfl) (by kernel_rfl) (fun _ _ d _ _ h => by cases d <;> exact h) (by assumption) ?_
          iterate 8 (first | (refine TakeSeq.step (v := undef) rfl (Or.inr ⟨by rfl, rfl⟩) ?_; simp only [Act.put, List.setIfInBounds_toArray, List.set_cons_zero, List.set_cons_succ, List.getElem_toArray, List.getElem_cons_zero, List.getElem_cons_succ]) | (refine TakeSeq.step (v := ?_) rfl (Or.inl ⟨by rfl, ?_⟩) ?_; rotate_left 1; (focus (intro wq hSq; have hrd := hSq.rule; go_simp; with_reducible rfl)); simp only [Act.put, List.setIfInBounds_toArray, List.set_cons_zero, List.set_cons_succ, List.getElem_toArray, List.getElem_cons_zero, List.getElem_cons_succ]))
          refine TakeSeq.done ?_
          refine wpAnyH_ready (rs := [8]) (by kernel_rfl) (by simp) ?_
          refine AllReadyH.cons rfl (fun K hK => ?_) (AllReadyH.nil)
          rw [if_pos (by rfl)]
          go_simp
          go_at_call 71; refine (page_ok (101 + (j : Int)) (by omega) (by omega) _).mono ?_; rintro e w3 ⟨rfl, rfl⟩
          go_wp2_with fail
          refine hK.out _ _ (HKp.out _ (by (repeat (first | with_reducible exact Below.refl _ _ | with_reducible assumption | with_reducible refine Below.setCell ?_ (by first | (simp; done) | (simp; omega)) _ | with_reducible refine below_alloc ?_ _ | with_reducible refine below_drewN ?_ _ | with_reducible refine Below.drew ?_ | with_reducible refine below_step ?_ (by assumption))))) (fun hHeld => ?_)
          clear hK K
          refine wpAnyH_seq (is := [9]) (by kernel_rfl) (by kernel_rfl) (fun _ _ d _ _ h => by cases d <;> exact h) (by assumption) ?_
          iterate 1 (first | (refine TakeSeq.step (v := undef) rfl (Or.inr ⟨by rfl, rfl⟩) ?_; simp only [Act.put, List.setIfInBounds_toArray, List.set_cons_zero, List.set_cons_succ, List.getElem_toArray, List.getElem_cons_zero, List.getElem_cons_succ]) | (refine TakeSeq.step (v := ?_) rfl (Or.inl ⟨by rfl, ?_⟩) ?_; rotate_left 1; (focus (intro wq hSq; have hrd := hSq.rule; go_simp; with_reducible rfl)); simp only [Act.put, List.setIfInBounds_toArray, List.set_cons_zero, List.set_cons_succ, List.getElem_toArray, List.getElem_cons_zero, List.getElem_cons_succ]))
          refine TakeSeq.done ?_
          refine wpAnyH_ready (rs := [10]) (by kernel_rfl) (by simp) ?_
          refine AllReadyH.cons rfl (fun K hK => ?_) (AllReadyH.nil)
          rw [if_pos (by rfl)]
          go_simp
          go_at_call 70; rw [HE8.out]; refine (HCA.out _ (by have h1 := HBP.out.2; (repeat (first | with_reducible exact Below.refl _ _ | with_reducible assumption | with_reducible refine Below.setCell ?_ (by first | (simp; done) | (simp; omega)) _ | with_reducible refine below_alloc ?_ _ | with_reducible refine below_drewN ?_ _ | with_reducible refine Below.drew ?_ | with_reducible refine below_step ?_ (by assumption))))).mono ?_; rintro e w3 ⟨⟨v2, rfl, hw2⟩, hb3⟩
          go_wp2_with fail
          refine hK.out _ _ (HKp.out _ (by (repeat (first | with_reducible exact Below.refl _ _ | with_reducible assumption | with_reducible refine Below.setCell ?_ (by first | (simp; done) | (simp; omega)) _ | with_reducible refine below_alloc ?_ _ | with_reducible refine below_drewN ?_ _ | with_reducible refine Below.drew ?_ | with_reducible refine below_step ?_ (by assumption))))) (fun hHeld => ?_)
          clear hK K
          obtain ⟨pv2, cv2, rfl⟩ := RowAt.shape hw2
          have hb5 : Below wp.heap.size wp w3 := by (repeat (first | with_reducible exact Below.refl _ _ | with_reducible assumption | with_reducible refine Below.setCell ?_ (by first | (simp; done) | (simp; omega)) _ | with_reducible refine below_alloc ?_ _ | with_reducible refine below_drewN ?_ _ | with_reducible refine Below.drew ?_ | with_reducible refine below_step ?_ (by assumption)))
          have hbr : Below wr.heap.size wr w3 := below_step HBP.out.2 hb5
          have HB5 := Lib.hid (And.intro hb5 hbr)
          obtain ⟨al, hal, hown, hws⟩ := H.out.1.below hbr
          have hwant := own_below H.out.2.1 hbr
          have hall : al.length = k + j := by have := congrArg List.length hal; simpa [lockAsk] using this
          have hwW : W.heap.size ≤ wr.heap.size := hb2.size
          have hs3 : wr.heap.size ≤ w3.heap.size := hbr.size
          have HWA := Lib.hid (And.intro hwant hw2)
          clear hb3 hb5 hbr hwant hw2
          simp only [vbArr, readVb]
          refine wpAnyH_ready (rs := [11]) (by kernel_rfl) (by simp) ?_
          refine AllReadyH.cons rfl (fun K hK => ?_) (AllReadyH.nil)
          rw [if_pos (by rfl)]
          go_simp
          refine hK.out _ _ (HKp.out _ (by have := HB5.out.1; (repeat (first | with_reducible exact Below.refl _ _ | with_reducible assumption | with_reducible refine Below.setCell ?_ (by first | (simp; done) | (simp; omega)) _ | with_reducible refine below_alloc ?_ _ | with_reducible refine below_drewN ?_ _ | with_reducible refine Below.drew ?_ | with_reducible refine below_step ?_ (by assumption))))) (fun hHeld => ?_)
          clear hK K
          refine wpAnyH_ready (rs := [12]) (by kernel_rfl) (by simp) ?_
          refine AllReadyH.cons rfl (fun K hK => ?_) (AllReadyH.nil)
          rw [if_pos (by rfl)]
          have hown' := own_below hown (below_alloc (Below.refl w3.heap.size w3) (.cells (vbArr (readVb j) (.slice pv2 0 cv2)) 147))
          refine wp_append_mine (.tmp 70) (.tmp 81) 40 rfl W.heap.size 147 i0 _ 9 88 Tryz.underlying40 hi hz0 hz1 hz2 rfl (by decide) _ al.length (askCells al) rfl
            hown' ⟨w3.heap.size, 0, none⟩ 1 1 (vbCells (readVb j) (.slice pv2 0 cv2)) rfl rfl
            (lit_news (o := 0) (cs := vbArr (readVb j) (.slice pv2 0 cv2)) (Blk.made _ _ _)) (vbCells_one _ _ _ _) (by omega) (by unfold maxLen; omega) (by omega) (by simp; omega) ?_
          intro g4 cap4 w4 hown4 hg4
          have hb6 : Below W.heap.size W w4 := below_grown (w := W) (w1 := w3.alloc _) (by have := HB5.out.2; (repeat (first | with_reducible exact Below.refl _ _ | with_reducible assumption | with_reducible refine Below.setCell ?_ (by first | (simp; done) | (simp; omega)) _ | with_reducible refine below_alloc ?_ _ | with_reducible refine below_drewN ?_ _ | with_reducible refine Below.drew ?_ | with_reducible refine below_step ?_ (by assumption)))) hg4 (fun j hj => own_row_ge hown j hj)
          have hA4 := AskRow.push hown' (fun t ht => (hws t ht).below (below_alloc (Below.refl _ _) _)) [(readVb j, .slice pv2 0 cv2)]
            (fun t ht => by simp at ht; subst ht; exact RowAt.low (WordsAt.below HWA.out.2 (below_alloc (Below.refl _ _) _)) (by have h3 := HBP.out.2.size; have h4 := HB5.out.1.size; simp; omega)) rfl (by simp [askCells]) hown4 hg4
          have hW4 := own_beside (own_below HWA.out.1 (below_alloc (Below.refl _ _) _)) hown' (by decide) hg4
          have hKK := HKp.out (w3.alloc (.cells (vbArr (readVb j) (.slice pv2 0 cv2)) 147)) (by have := HB5.out.1; (repeat (first | with_reducible exact Below.refl _ _ | with_reducible assumption | with_reducible refine Below.setCell ?_ (by first | (simp; done) | (simp; omega)) _ | with_reducible refine below_alloc ?_ _ | with_reducible refine below_drewN ?_ _ | with_reducible refine Below.drew ?_ | with_reducible refine below_step ?_ (by assumption))))
          have HP := Lib.hid (And.intro (Blk.beside hKK.one hown' hg4 (by decide)) (Blk.beside hKK.two hown' hg4 (by decide)))
          have H4 : Hid (AskRow w4 W.heap.size (.slice (some ⟨g4, 0, none⟩) (al.length + 1) cap4) (lockAsk k (j + 1)) ∧ w4.ownsRow W.heap.size 33 1 _ _ _ ∧ Below W.heap.size W w4) := Lib.hid ⟨by rw [lockAsk_succ', ← hal]; exact hA4, hW4, hb6⟩
          rw [hall] at H4
          clear hown4 hg4 hA4 hb6 hown hws hwW hal hown' hW4 hKK
          refine hK.out _ _ ⟨HP.out.1, HP.out.2⟩ (fun hHeld => ?_)
          clear hK K
          simp only [Act.put, List.setIfInBounds_toArray, List.set_cons_zero, List.set_cons_succ, List.getElem_toArray, List.getElem_cons_zero, List.getElem_cons_succ]
          refine wpAnyH_seq (is := [13]) (by kernel_rfl) (by kernel_rfl) (fun _ _ d _ _ h => by cases d <;> exact h) (by assumption) ?_
          iterate 1 (first | (refine TakeSeq.step (v := undef) rfl (Or.inr ⟨by rfl, rfl⟩) ?_; simp only [Act.put, List.setIfInBounds_toArray, List.set_cons_zero, List.set_cons_succ, List.getElem_toArray, List.getElem_cons_zero, List.getElem_cons_succ]) | (refine TakeSeq.step (v := ?_) rfl (Or.inl ⟨by rfl, ?_⟩) ?_; rotate_left 1; (focus (intro wq hSq; have hrd := hSq.rule; go_simp; with_reducible rfl)); simp only [Act.put, List.setIfInBounds_toArray, List.set_cons_zero, List.set_cons_succ, List.getElem_toArray, List.getElem_cons_zero, List.getElem_cons_succ]))
          refine TakeSeq.done ?_
          refine wpAnyH_done (by kernel_rfl) ?_ _
          have kp := HP.out.1.cell
          have lp := HP.out.1.lt
          go_wp2_with (at_builtin; refine halt ?_)
          refine unhalt ?_
          have hwW4 : W.heap.size ≤ w4.heap.size := H4.out.2.2.size
          refine wpList_append_mine rfl (.tmp 83) (.tmp 86) 59 rfl W.heap.size 33 j0 _ 1 8 Tryz.underlying59 hj hy0 hy1 hy2 rfl (by decide) _ (k + j) (List.replicate (k + j) (.int .u64 256)) rfl
            (own_below H4.out.2.1 (below_alloc (Below.refl _ _) _)) ⟨w4.heap.size, 0, none⟩ 1 1 [.int .u64 256] rfl rfl (lit_news (o := 0) (cs := #[.int .u64 256]) (Blk.made _ _ _))
            (by intro u hu; simp at hu; subst hu; rfl) (by omega) (by unfold maxLen; omega) (by omega) (by simp; omega) ?_
          intro g5 cap5 w5 hown5 hg5
          have hb7 : Below W.heap.size W w5 := below_grown (w := W) (w1 := w4.alloc _) (by have := H4.out.2.2; (repeat (first | with_reducible exact Below.refl _ _ | with_reducible assumption | with_reducible refine Below.setCell ?_ (by first | (simp; done) | (simp; omega)) _ | with_reducible refine below_alloc ?_ _ | with_reducible refine below_drewN ?_ _ | with_reducible refine Below.drew ?_ | with_reducible refine below_step ?_ (by assumption)))) hg5 (fun j hj => own_row_ge H4.out.2.1 j hj)
          have hwant5 : wantAt w5 W.heap.size (k + (j + 1)) (.slice (some ⟨g5, 0, none⟩) (k + j + 1) cap5) := own_cast hown5 (by omega) (by rw [show k + (j + 1) = (k + j) + 1 by omega, want_succ])
          have hask5 := AskRow.beside (H4.out.1.below (below_alloc (Below.refl _ _) (.cells #[.int .u64 256] 33))) (lockAsk_nil k (j + 1)) (own_below H4.out.2.1 (below_alloc (Below.refl _ _) (.cells #[.int .u64 256] 33))) (by decide) hg5
          have H6 := Lib.hid (And.intro hask5 (And.intro hwant5 hb7))
          clear hown5 hg5 hb7 hwant5 hask5
          go_wp2_with fail
          exact ⟨⟨j + 1, by omega, by simp, H6⟩, by simp [intOf]; omega⟩
        · have b1 : decide ((j : Int) < r) = false := by simp; omega
          obtain rfl : r = j := by omega
          have hal : AsksAt wr lo _ (lockAsk k r) := H.out.1.asks.low (lo' := lo) (Nat.le_trans hlw HBR.out.2.size)
          have hlg : ∀ x ∈ lockAsk k r, x.Good := lockAsk_good k r
          have hlen : (lockAsk k r).length = k + r := lockAsk_len k r
          have BR := HBR.out.1.kept hb2
          have hbw1 := Lib.hid hb1
          obtain ⟨pv, cpv, hvv⟩ := hal.shape
          obtain ⟨pq, cq, hvq⟩ := own_shape H.out.2.1
          rw [hlen] at hvv
          have hltW := HBR.out.1.lt
          have HWV := Lib.hid H.out.2.1
          have HALB := Lib.hid (And.intro hal (And.intro BR hltW))
          have hrep : ∀ x ∈ lockAsk k r, Cm.reply x = [256] := lockAsk_reply k r
          have HLK : Hid (∀ j, j < k + r → ∃ x, (lockAsk k r)[j]? = some x ∧ x.words = [] ∧ Cm.reply x = [256] ∧ (x.kind = 3 ∧ j < k ∨ x.kind = 1)) := Lib.hid (fun j hj => by
            have hx : (lockAsk k r)[j]? = some ((lockAsk k r)[j]'(by omega)) := List.getElem?_eq_getElem _
            have hm : (lockAsk k r)[j]'(by omega) ∈ lockAsk k r := List.getElem_mem _
            refine ⟨_, hx, lockAsk_nil _ _ _ hm, hrep _ hm, ?_⟩
            by_cases hjk : j < k
            · refine .inl ⟨?_, hjk⟩
              simp [lockAsk, List.getElem_append, hjk, casVb]
            · refine .inr ?_
              simp [lockAsk, List.getElem_append, hjk, readVb])
          obtain ⟨l, hll⟩ : ∃ l, l = lockAsk k r := ⟨_, rfl⟩
          rw [← hll] at HT hlg hlen HLK HALB
          obtain ⟨ok, hok⟩ : ∃ ok, ok = goOn l gs := ⟨_, rfl⟩
          have HLL := Lib.hid (And.intro hll (And.intro hlg (And.intro hlen hok)))
          clear hal hlg hlen BR hb1 hb2 hll hrep H hltW hok b1 hj3 hj2
          subst hvv hvq
          go_wp2_with fail
          go_at_call 72
          refine (step_ok c t lo _ _ _ _ 1 l gs (by have := HLL.out.2.2.1; omega) HLL.out.2.1 _ (HC.out.blk.kept hbw1.out) (HT.out.1.below hbw1.out) hlo HALB.out.1 HT.out.2).mono ?_
          rintro e w2 ⟨⟨u, rfl, hd, pu, nu, cu, rfl⟩, htk, ho⟩
          have BR2 := HALB.out.2.1.grown ho (fun e => by injection e with e; have := HT.out.1.lt; omega)
          have ho2 : Over t w w2 := (Over.of_below hbw1.out).trans ho
          obtain ⟨ct, hct⟩ := (HT.out.1.below hbw1.out).blk
          have HWD := Lib.hid (And.intro (own_type HWV.out ho hct (by decide)) (HALB.out.1.over ho hct (by decide) (by decide)))
          have HX := Lib.hid (And.intro BR2 (And.intro htk (And.intro ho2 hd)))
          rw [← HLL.out.2.2.2]
          have k2 := BR2.cell
          have f2 := BR2.free
          have l2 := BR2.lt
          clear BR2 htk ho ho2 hct hd
          rcases ok with _ | _
          · go_wp2_with fail
            have hx := HX.out
            have ho2 : Over t w ((((w2.setCell ⟨w.heap.size, 0, none⟩ (.int .i64 0)).setCell ⟨w.heap.size, 1, none⟩ (.int .i64 0)).setCell ⟨w.heap.size, 0, none⟩ (.int .i64 0)).setCell ⟨w.heap.size, 1, none⟩ (.int .i64 0)) := (((hx.2.2.1.own (by simp) _).own (by simp) _).own (by simp) _).own (by simp) _
            have ho3 : Over w.heap.size w2 ((((w2.setCell ⟨w.heap.size, 0, none⟩ (.int .i64 0)).setCell ⟨w.heap.size, 1, none⟩ (.int .i64 0)).setCell ⟨w.heap.size, 0, none⟩ (.int .i64 0)).setCell ⟨w.heap.size, 1, none⟩ (.int .i64 0)) := by (repeat (first | with_reducible exact Over.refl _ _ | with_reducible assumption | with_reducible refine Over.put ?_ _ _ | with_reducible refine Over.alloc ?_ _ | with_reducible refine Over.drew ?_ | with_reducible refine Over.own ?_ (by first | (simp; done) | (simp; omega)) _ | with_reducible refine Over.trans ?_ (by assumption) | with_reducible refine Over.then_below ?_ (by assumption)))
            refine bodyPost_ret (results_bt rfl _ _ w.heap.size _ _ _ rfl (Blk.all2 (Blk.all2 hx.1 _ _) _ _) Tryz.underlying43 rfl (by kernel_rfl)) rfl
              ⟨by rw [← HLL.out.1, ← HLL.out.2.2.2]; rfl, by rw [← HLL.out.1]; exact hx.2.1.over ho3 hx.1 (by decide) (by decide) (by decide) (by decide) (by decide), ho2⟩
          · obtain ⟨pd, cd, hpd⟩ := (HX.out.2.2.2 HLL.out.2.2.2.symm).shape
            simp only [List.length_map, HLL.out.2.2.1, Value.slice.injEq] at hpd
            obtain ⟨rfl, rfl, rfl⟩ := hpd
            obtain ⟨N, hN⟩ : ∃ N, N = k + r := ⟨_, rfl⟩
            rw [← hN] at HX HWD HLK ⊢
            have HNN := Lib.hid hN
            have hN8 : N ≤ 8 := by omega
            clear hN
            go_wp2_with fail
            have hx := HX.out
            have hd3 := hx.2.2.2 HLL.out.2.2.2.symm
            have ho2 : Over t w ((w2.setCell ⟨w.heap.size, 0, none⟩ (.int .i64 0)).setCell ⟨w.heap.size, 1, none⟩ (.int .i64 0)) := (hx.2.2.1.own (by simp) _).own (by simp) _
            have ho3 : Over w.heap.size w2 ((w2.setCell ⟨w.heap.size, 0, none⟩ (.int .i64 0)).setCell ⟨w.heap.size, 1, none⟩ (.int .i64 0)) := by (repeat (first | with_reducible exact Over.refl _ _ | with_reducible assumption | with_reducible refine Over.put ?_ _ _ | with_reducible refine Over.alloc ?_ _ | with_reducible refine Over.drew ?_ | with_reducible refine Over.own ?_ (by first | (simp; done) | (simp; omega)) _ | with_reducible refine Over.trans ?_ (by assumption) | with_reducible refine Over.then_below ?_ (by assumption)))
            have B3 := Blk.all2 hx.1 (.int .i64 0) (.int .i64 0)
            have HF := Lib.hid (And.intro (hd3.over ho3 hx.1 (by decide) (by decide)) (And.intro (HWD.out.2.over ho3 hx.1 (by decide) (by decide)) (own_type HWD.out.1 ho3 hx.1 (by decide))))
            have HE := Lib.hid (And.intro B3 (And.intro (hx.2.1.over ho3 hx.1 (by decide) (by decide) (by decide) (by decide) (by decide)) ho2))
            generalize hw3 : (w2.setCell ⟨w.heap.size, 0, none⟩ (.int .i64 0)).setCell ⟨w.heap.size, 1, none⟩ (.int .i64 0) = w3 at *
            clear hw3 hx hd3 ho2 ho3 B3 k2 f2 l2 HX
            go_loopw [5, 14, 101] (fun vu vc iv wr => LkUndo N w3 vu vc iv wr) (fun _ _ iv _ => ((N : Int) - intOf iv).toNat)
            case atStart => exact ⟨0, by omega, rfl, rfl, Lib.hid ⟨⟨0, [], by omega, World.ownsRow_nil _ _ _ _⟩, Below.refl _ _⟩⟩
            case round =>
              obtain ⟨j, hj3, rfl, rfl, H⟩ := hrel
              have hb2 : Below w3.heap.size w3 wr := H.out.2
              by_cases hj2 : j < N
              · have b1 : decide ((j : Int) < N) = true := by simp; omega
                have bk0 : (0 : Int) ≤ j := by omega
                have bk1 : (j : Int) < N := by omega
                obtain ⟨x, hx, hxw, hxr, hxk⟩ := HLK.out j hj2
                obtain ⟨bd, od, cad, hvd, _, ltd, hdc⟩ := HF.out.1.cells (by rw [List.length_map, HLL.out.2.2.1, ← HNN.out]; omega)
                obtain ⟨ba, oa, caa, hva, _, lta, hac⟩ := HF.out.2.1.cells (by rw [HLL.out.2.2.1, ← HNN.out]; omega)
                obtain ⟨bw, ow, caw, hvw, _, ltw, hwc⟩ := (RowAt.of_own HF.out.2.2).form (by omega)
                simp only [Value.slice.injEq] at hvd hva hvw
                obtain ⟨rfl, -, rfl⟩ := hvd
                obtain ⟨rfl, -, rfl⟩ := hva
                obtain ⟨rfl, -, rfl⟩ := hvw
                obtain ⟨vwd, hwd, d0, d1⟩ := hdc j [256] (by rw [List.getElem?_map, hx]; simp [hxr])
                obtain ⟨vwa, hwa, hca⟩ := hac j x hx
                obtain ⟨bz, oz, caz, rfl, _, ltz, hz⟩ := hwd.form (by simp)
                obtain ⟨pa, cpa, hpa⟩ := hwa.shape
                simp only [hxw, List.length_nil] at hpa
                subst hpa
                have y0 := (hb2.cell (p := ⟨bd, od + j * 2, none⟩) ltd).trans d0
                have y1 := (hb2.cell (p := ⟨bd, od + j * 2 + 1, none⟩) ltd).trans d1
                have yw := (hb2.cell (p := ⟨bw, ow + j, none⟩) ltw).trans (hwc j (.int .u64 256) (by simp [hj2]))
                have yz := (hb2.cell (p := ⟨bz, oz, none⟩) ltz).trans (hz 0 (.int .u64 256) (by simp [u64s]))
                have ld2 := Nat.lt_of_lt_of_le ltd hb2.size
                have lw2 := Nat.lt_of_lt_of_le ltw hb2.size
                have lz2 := Nat.lt_of_lt_of_le ltz hb2.size
                have la2 := Nat.lt_of_lt_of_le lta hb2.size
                have HC9 : Hid (∀ i, i < 9 → w3.cell? ⟨ba, oa + j * 9 + i, none⟩ = (vbArr x (.slice pa 0 cpa))[i]?) := Lib.hid hca
                have HB2 := Lib.hid hb2
                have HLA := Lib.hid lta
                have HXK := Lib.hid hxk
                clear hdc hac hwc d0 d1 hwd hwa hz ltd ltw ltz hca hxk hx lta hxw hxr
                go_wp2_with fail
                have BP : Blk (wr.alloc (.cells #[.int .i64 0, .slice (some ⟨bz, oz, none⟩) 1 caz] 151)) wr.heap.size 151 #[.int .i64 0, .slice (some ⟨bz, oz, none⟩) 1 caz] := Blk.made _ _ _
                have hbp : Below wr.heap.size wr (wr.alloc (.cells #[.int .i64 0, .slice (some ⟨bz, oz, none⟩) 1 caz] 151)) := by (repeat (first | with_reducible exact Below.refl _ _ | with_reducible assumption | with_reducible refine Below.setCell ?_ (by first | (simp; done) | (simp; omega)) _ | with_reducible refine below_alloc ?_ _ | with_reducible refine below_drewN ?_ _ | with_reducible refine Below.drew ?_ | with_reducible refine below_step ?_ (by assumption)))
                generalize hgp : World.alloc wr _ = wp at *
                have kp := BP.cell
                have lp := BP.lt
                have zw := (hbp.cell (p := ⟨bw, ow + j, none⟩) lw2).trans yw
                have zz := (hbp.cell (p := ⟨bz, oz, none⟩) lz2).trans yz
                have lw3 := Nat.lt_of_lt_of_le lw2 hbp.size
                have lz3 := Nat.lt_of_lt_of_le lz2 hbp.size
                have HBP := Lib.hid hbp
                clear hgp BP y0 y1 yw yz ld2 lw2 lz2 hbp
                refine wp_region_held_drew (S := SteadyAll _) (by kernel_rfl) (SteadyAll.of (Below.refl _ _).drew) ?_
                intro hSt
                refine wpAnyH_seq (is := [0, 2, 3, 4, 5]) (by kernel_rfl) (by kernel_rfl) (fun _ _ d _ _ h => by cases d <;> exact h) (by assumption) ?_
                iterate 5 (first | (refine TakeSeq.step (v := undef) rfl (Or.inr ⟨by rfl, rfl⟩) ?_; simp only [Act.put, List.setIfInBounds_toArray, List.set_cons_zero, List.set_cons_succ, List.getElem_toArray, List.getElem_cons_zero, List.getElem_cons_succ]) | (refine TakeSeq.step (v := ?_) rfl (Or.inl ⟨by rfl, ?_⟩) ?_; rotate_left 1; (focus (intro wq hSq; have hrd := hSq.rule; go_simp; with_reducible rfl)); simp only [Act.put, List.setIfInBounds_toArray, List.set_cons_zero, List.set_cons_succ, List.getElem_toArray, List.getElem_cons_zero, List.getElem_cons_succ]))
                refine TakeSeq.done ?_
                refine wpAnyH_ready (rs := [1]) (by kernel_rfl) (by simp) ?_
                refine AllReadyH.cons rfl (fun K hK => ?_) (AllReadyH.nil)
                rw [if_pos (by rfl)]
                go_simp
                go_at_call 73; refine (word_ok 256 bz oz caz _ (by simp; omega) (by simpa using zz)).mono ?_; rintro e w4 ⟨rfl, hb4⟩
                go_wp2_with fail
                refine hK.out _ _ (SteadyAll.of (by (repeat (first | with_reducible exact Below.refl _ _ | with_reducible assumption | with_reducible refine Below.setCell ?_ (by first | (simp; done) | (simp; omega)) _ | with_reducible refine below_alloc ?_ _ | with_reducible refine below_drewN ?_ _ | with_reducible refine Below.drew ?_ | with_reducible refine below_step ?_ (by assumption))))) (fun hHeld => ?_)
                clear hK K
                refine wpAnyH_seq (is := [6, 7]) (by kernel_rfl) (by kernel_rfl) (fun _ _ d _ _ h => by cases d <;> exact h) (by assumption) ?_
                iterate 2 (first | (refine TakeSeq.step (v := undef) rfl (Or.inr ⟨by rfl, rfl⟩) ?_; simp only [Act.put, List.setIfInBounds_toArray, List.set_cons_zero, List.set_cons_succ, List.getElem_toArray, List.getElem_cons_zero, List.getElem_cons_succ]) | (refine TakeSeq.step (v := ?_) rfl (Or.inl ⟨by rfl, ?_⟩) ?_; rotate_left 1; (focus (intro wq hSq; have hrd := hSq.rule; go_simp; with_reducible rfl)); simp only [Act.put, List.setIfInBounds_toArray, List.set_cons_zero, List.set_cons_succ, List.getElem_toArray, List.getElem_cons_zero, List.getElem_cons_succ]))
                refine TakeSeq.done ?_
                refine wpAnyH_done (by kernel_rfl) ?_ _
                have hbr : Below wr.heap.size wr w4 := below_step HBP.out (by (repeat (first | with_reducible exact Below.refl _ _ | with_reducible assumption | with_reducible refine Below.setCell ?_ (by first | (simp; done) | (simp; omega)) _ | with_reducible refine below_alloc ?_ _ | with_reducible refine below_drewN ?_ _ | with_reducible refine Below.drew ?_ | with_reducible refine below_step ?_ (by assumption))))
                have HB4 := Lib.hid (below_step HB2.out hbr)
                have HB5 := Lib.hid hbr
                have la4 := Nat.lt_of_lt_of_le HLA.out HB4.out.size
                clear hb4 hbr zw zz kp lp lw3 lz3 hSt hHeld hb2
                have c0 : w4.cell? ⟨ba, oa + j * 9, none⟩ = some (.int .i64 x.kind) := (HB4.out.cell (p := ⟨ba, oa + j * 9, none⟩) HLA.out).trans (HC9.out 0 (by omega))
                have c1 : w4.cell? ⟨ba, oa + j * 9 + 1, none⟩ = some (.int .i64 x.node) := (HB4.out.cell (p := ⟨ba, oa + j * 9 + 1, none⟩) HLA.out).trans (HC9.out 1 (by omega))
                have c2 : w4.cell? ⟨ba, oa + j * 9 + 2, none⟩ = some (.int .i64 x.at_) := (HB4.out.cell (p := ⟨ba, oa + j * 9 + 2, none⟩) HLA.out).trans (HC9.out 2 (by omega))
                have c3 : w4.cell? ⟨ba, oa + j * 9 + 3, none⟩ = some (.int .i64 x.n) := (HB4.out.cell (p := ⟨ba, oa + j * 9 + 3, none⟩) HLA.out).trans (HC9.out 3 (by omega))
                have c4 : w4.cell? ⟨ba, oa + j * 9 + 4, none⟩ = some (.int .u64 x.old) := (HB4.out.cell (p := ⟨ba, oa + j * 9 + 4, none⟩) HLA.out).trans (HC9.out 4 (by omega))
                have c5 : w4.cell? ⟨ba, oa + j * 9 + 5, none⟩ = some (.int .u64 x.new) := (HB4.out.cell (p := ⟨ba, oa + j * 9 + 5, none⟩) HLA.out).trans (HC9.out 5 (by omega))
                have c6 : w4.cell? ⟨ba, oa + j * 9 + 6, none⟩ = some (.slice pa 0 cpa) := (HB4.out.cell (p := ⟨ba, oa + j * 9 + 6, none⟩) HLA.out).trans (HC9.out 6 (by omega))
                have c7 : w4.cell? ⟨ba, oa + j * 9 + 7, none⟩ = some (.int .u64 1) := (HB4.out.cell (p := ⟨ba, oa + j * 9 + 7, none⟩) HLA.out).trans (HC9.out 7 (by omega))
                have c8 : w4.cell? ⟨ba, oa + j * 9 + 8, none⟩ = some (.int .i64 1) := (HB4.out.cell (p := ⟨ba, oa + j * 9 + 8, none⟩) HLA.out).trans (HC9.out 8 (by omega))
                rcases HXK.out with ⟨hk3, hjk⟩ | hk1
                · go_wp2_with fail
                  have BP : Blk (w4.alloc (.cells #[.int .i64 3, .int .i64 x.node, .int .i64 x.at_, .int .i64 x.n, .int .u64 x.old, .int .u64 x.new, .slice pa 0 cpa, .int .u64 1, .int .i64 1] 147)) w4.heap.size 147 #[.int .i64 3, .int .i64 x.node, .int .i64 x.at_, .int .i64 x.n, .int .u64 x.old, .int .u64 x.new, .slice pa 0 cpa, .int .u64 1, .int .i64 1] := Blk.made _ _ _
                  have hbp : Below w4.heap.size w4 (w4.alloc (.cells #[.int .i64 3, .int .i64 x.node, .int .i64 x.at_, .int .i64 x.n, .int .u64 x.old, .int .u64 x.new, .slice pa 0 cpa, .int .u64 1, .int .i64 1] 147)) := by (repeat (first | with_reducible exact Below.refl _ _ | with_reducible assumption | with_reducible refine Below.setCell ?_ (by first | (simp; done) | (simp; omega)) _ | with_reducible refine below_alloc ?_ _ | with_reducible refine below_drewN ?_ _ | with_reducible refine Below.drew ?_ | with_reducible refine below_step ?_ (by assumption)))
                  generalize hgp : World.alloc w4 _ = wp at *
                  have kp := BP.cell
                  have lp := BP.lt
                  have fp := BP.free
                  have HBP := Lib.hid (And.intro BP (below_step HB4.out hbp))
                  have HBW := Lib.hid (below_step HB5.out hbp)
                  clear c0 c1 c2 c3 c4 c5 c6 c7 c8 hgp BP hbp
                  have HB6 := Lib.hid HBP.out.2
                  have c0 : wp.cell? ⟨ba, oa + j * 9, none⟩ = some (.int .i64 x.kind) := (HB6.out.cell (p := ⟨ba, oa + j * 9, none⟩) HLA.out).trans (HC9.out 0 (by omega))
                  have c1 : wp.cell? ⟨ba, oa + j * 9 + 1, none⟩ = some (.int .i64 x.node) := (HB6.out.cell (p := ⟨ba, oa + j * 9 + 1, none⟩) HLA.out).trans (HC9.out 1 (by omega))
                  have c2 : wp.cell? ⟨ba, oa + j * 9 + 2, none⟩ = some (.int .i64 x.at_) := (HB6.out.cell (p := ⟨ba, oa + j * 9 + 2, none⟩) HLA.out).trans (HC9.out 2 (by omega))
                  have c3 : wp.cell? ⟨ba, oa + j * 9 + 3, none⟩ = some (.int .i64 x.n) := (HB6.out.cell (p := ⟨ba, oa + j * 9 + 3, none⟩) HLA.out).trans (HC9.out 3 (by omega))
                  have c4 : wp.cell? ⟨ba, oa + j * 9 + 4, none⟩ = some (.int .u64 x.old) := (HB6.out.cell (p := ⟨ba, oa + j * 9 + 4, none⟩) HLA.out).trans (HC9.out 4 (by omega))
                  have c5 : wp.cell? ⟨ba, oa + j * 9 + 5, none⟩ = some (.int .u64 x.new) := (HB6.out.cell (p := ⟨ba, oa + j * 9 + 5, none⟩) HLA.out).trans (HC9.out 5 (by omega))
                  have c6 : wp.cell? ⟨ba, oa + j * 9 + 6, none⟩ = some (.slice pa 0 cpa) := (HB6.out.cell (p := ⟨ba, oa + j * 9 + 6, none⟩) HLA.out).trans (HC9.out 6 (by omega))
                  have c7 : wp.cell? ⟨ba, oa + j * 9 + 7, none⟩ = some (.int .u64 1) := (HB6.out.cell (p := ⟨ba, oa + j * 9 + 7, none⟩) HLA.out).trans (HC9.out 7 (by omega))
                  have c8 : wp.cell? ⟨ba, oa + j * 9 + 8, none⟩ = some (.int .i64 1) := (HB6.out.cell (p := ⟨ba, oa + j * 9 + 8, none⟩) HLA.out).trans (HC9.out 8 (by omega))
                  have la5 := Nat.lt_of_lt_of_le HLA.out HB6.out.size
                  refine wp_region_held_drew (S := SteadyBut (w4.heap.size) _) (by kernel_rfl) (SteadyBut.of (Below.refl _ _).drew) ?_
                  intro hSt
                  refine wpAnyH_seq (is := [0, 1, 2, 3, 4, 5, 6, 7, 8, 9, 10]) (by kernel_rfl) (by kernel_rfl) (fun _ _ d _ _ h => by cases d <;> exact h) (by assumption) ?_
                  iterate 11 (first | (refine TakeSeq.step (v := undef) rfl (Or.inr ⟨by rfl, rfl⟩) ?_; simp only [Act.put, List.setIfInBounds_toArray, List.set_cons_zero, List.set_cons_succ, List.getElem_toArray, List.getElem_cons_zero, List.getElem_cons_succ]) | (refine TakeSeq.step (v := ?_) rfl (Or.inl ⟨by rfl, ?_⟩) ?_; rotate_left 1; (focus (intro wq hSq; have hrd := hSq.rule; go_simp; with_reducible rfl)); simp only [Act.put, List.setIfInBounds_toArray, List.set_cons_zero, List.set_cons_succ, List.getElem_toArray, List.getElem_cons_zero, List.getElem_cons_succ]))
                  refine TakeSeq.done ?_
                  refine wpAnyH_ready (rs := [11]) (by kernel_rfl) (by simp) ?_
                  refine AllReadyH.cons rfl (fun K hK => ?_) (AllReadyH.nil)
                  rw [if_pos (by rfl)]
                  go_simp
                  refine hK.out _ _ (SteadyBut.over (by (repeat (first | with_reducible exact Over.refl _ _ | with_reducible assumption | with_reducible refine Over.put ?_ _ _ | with_reducible refine Over.alloc ?_ _ | with_reducible refine Over.drew ?_ | with_reducible refine Over.own ?_ (by first | (simp; done) | (simp; omega)) _ | with_reducible refine Over.trans ?_ (by assumption) | with_reducible refine Over.then_below ?_ (by assumption))))) (fun hHeld => ?_)
                  clear hK K
                  refine wpAnyH_seq (is := [12]) (by kernel_rfl) (by kernel_rfl) (fun _ _ d _ _ h => by cases d <;> exact h) (by assumption) ?_
                  iterate 1 (first | (refine TakeSeq.step (v := undef) rfl (Or.inr ⟨by rfl, rfl⟩) ?_; simp only [Act.put, List.setIfInBounds_toArray, List.set_cons_zero, List.set_cons_succ, List.getElem_toArray, List.getElem_cons_zero, List.getElem_cons_succ]) | (refine TakeSeq.step (v := ?_) rfl (Or.inl ⟨by rfl, ?_⟩) ?_; rotate_left 1; (focus (intro wq hSq; have hrd := hSq.rule; go_simp; with_reducible rfl)); simp only [Act.put, List.setIfInBounds_toArray, List.set_cons_zero, List.set_cons_succ, List.getElem_toArray, List.getElem_cons_zero, List.getElem_cons_succ]))
                  refine TakeSeq.done ?_
                  refine wpAnyH_ready (rs := [13]) (by kernel_rfl) (by simp) ?_
                  refine AllReadyH.cons rfl (fun K hK => ?_) (AllReadyH.nil)
                  rw [if_pos (by rfl)]
                  go_simp
                  refine hK.out _ _ (SteadyBut.over (by (repeat (first | with_reducible exact Over.refl _ _ | with_reducible assumption | with_reducible refine Over.put ?_ _ _ | with_reducible refine Over.alloc ?_ _ | with_reducible refine Over.drew ?_ | with_reducible refine Over.own ?_ (by first | (simp; done) | (simp; omega)) _ | with_reducible refine Over.trans ?_ (by assumption) | with_reducible refine Over.then_below ?_ (by assumption))))) (fun hHeld => ?_)
                  clear hK K
                  refine wpAnyH_done (by kernel_rfl) ?_ _
                  go_wp2_with (at_builtin; refine halt ?_)
                  refine unhalt ?_
                  obtain ⟨n, xs, hn, hown⟩ := H.out.1
                  have hbwp : Below wr.heap.size wr wp := HBW.out
                  have hov : Over w4.heap.size wp ((wp.setCell ⟨w4.heap.size, 4, none⟩ (.int .u64 x.new)).setCell ⟨w4.heap.size, 5, none⟩ (.int .u64 x.old)) := by (repeat (first | with_reducible exact Over.refl _ _ | with_reducible assumption | with_reducible refine Over.put ?_ _ _ | with_reducible refine Over.alloc ?_ _ | with_reducible refine Over.drew ?_ | with_reducible refine Over.own ?_ (by first | (simp; done) | (simp; omega)) _ | with_reducible refine Over.trans ?_ (by assumption) | with_reducible refine Over.then_below ?_ (by assumption)))
                  have hrs : wr.heap.size ≤ w4.heap.size := HB5.out.size
                  have hbx : Below wr.heap.size wr ((wp.setCell ⟨w4.heap.size, 4, none⟩ (.int .u64 x.new)).setCell ⟨w4.heap.size, 5, none⟩ (.int .u64 x.old)) := below_grown (w := wr) (w1 := wp) hbwp hov (fun j hj => by injection hj with hj; omega)
                  have hby : Below wr.heap.size wr (((wp.setCell ⟨w4.heap.size, 4, none⟩ (.int .u64 x.new)).setCell ⟨w4.heap.size, 5, none⟩ (.int .u64 x.old)).alloc (.cells #[.int .i64 3, .int .i64 x.node, .int .i64 x.at_, .int .i64 x.n, .int .u64 x.new, .int .u64 x.old, .slice pa 0 cpa, .int .u64 1, .int .i64 1] 147)).drew := by (repeat (first | with_reducible exact Below.refl _ _ | with_reducible assumption | with_reducible refine Below.setCell ?_ (by first | (simp; done) | (simp; omega)) _ | with_reducible refine below_alloc ?_ _ | with_reducible refine below_drewN ?_ _ | with_reducible refine Below.drew ?_ | with_reducible refine below_step ?_ (by assumption)))
                  have hown' := own_below hown hby
                  have h3r : w3.heap.size ≤ wr.heap.size := H.out.2.size
                  have hwps : wr.heap.size ≤ wp.heap.size := hbwp.size
                  refine wpList_append_mine rfl (.tmp 137) (.tmp 139) 40 rfl w3.heap.size 147 i0 _ 9 88 Tryz.underlying40 hi hz0 hz1 hz2 rfl (by decide) u5 n xs rfl
                    hown' ⟨wp.heap.size, 0, none⟩ 1 1 ((#[.int .i64 3, .int .i64 x.node, .int .i64 x.at_, .int .i64 x.n, .int .u64 x.new, .int .u64 x.old, .slice pa 0 cpa, .int .u64 1, .int .i64 1] : Array Value).toList) rfl rfl
                    (lit_news (o := 0) (cs := #[.int .i64 3, .int .i64 x.node, .int .i64 x.at_, .int .i64 x.n, .int .u64 x.new, .int .u64 x.old, .slice pa 0 cpa, .int .u64 1, .int .i64 1]) (Blk.drew (Blk.made' (by simp)))) (by intro u hu; simp at hu; rcases hu with rfl | rfl | rfl | rfl | rfl | rfl | rfl | rfl | rfl <;> rfl) (by omega) (by unfold maxLen; omega) (by omega) (by simp; omega) ?_
                  intro g4 cap4 w6 hown4 hg4
                  have HU : Hid ((∃ n xs, n ≤ j + 1 ∧ w6.ownsRow w3.heap.size 147 9 _ n xs) ∧ Below w3.heap.size w3 w6) := Lib.hid ⟨⟨n + 1, _, by omega, hown4⟩, below_grown (w := w3) (below_step H.out.2 hby) hg4 (fun j hj => own_row_ge hown j hj)⟩
                  clear hown hown' hown4 hg4 hbx hby hov hbwp
                  go_wp2_with fail
                  exact ⟨⟨j + 1, by omega, by simp, rfl, HU⟩, by simp [intOf]; omega⟩
                · have HU : Hid (∃ n xs, n ≤ j + 1 ∧ w4.ownsRow w3.heap.size 147 9 u5 n xs) := Lib.hid (by
                    obtain ⟨n, xs, hn, hown⟩ := H.out.1
                    exact ⟨n, xs, by omega, own_below hown HB5.out⟩)
                  go_wp2_with fail
                  exact ⟨⟨j + 1, by omega, by simp, rfl, Lib.hid ⟨HU.out, HB4.out⟩⟩, by simp [intOf]; omega⟩
              · have b1 : decide ((j : Int) < N) = false := by simp; omega
                have HB2 := Lib.hid hb2
                have BR := HE.out.1.kept hb2
                have kr := BR.cell
                have lr := BR.lt
                have fr := BR.free
                have HQ := Lib.hid (And.intro BR (And.intro (HE.out.2.1.below hb2) (HE.out.2.2.then_below hb2)))
                clear BR hb2
                go_wp2_with fail
                have hq := HQ.out
                have ho2 : Over t w ((wr.setCell ⟨w.heap.size, 0, none⟩ (.int .i64 0)).setCell ⟨w.heap.size, 1, none⟩ (.int .i64 0)) := (hq.2.2.own (by simp) _).own (by simp) _
                have ho3 : Over w.heap.size wr ((wr.setCell ⟨w.heap.size, 0, none⟩ (.int .i64 0)).setCell ⟨w.heap.size, 1, none⟩ (.int .i64 0)) := by (repeat (first | with_reducible exact Over.refl _ _ | with_reducible assumption | with_reducible refine Over.put ?_ _ _ | with_reducible refine Over.alloc ?_ _ | with_reducible refine Over.drew ?_ | with_reducible refine Over.own ?_ (by first | (simp; done) | (simp; omega)) _ | with_reducible refine Over.trans ?_ (by assumption) | with_reducible refine Over.then_below ?_ (by assumption)))
                refine bodyPost_ret (results_bt rfl _ _ w.heap.size _ _ _ rfl (Blk.all2 hq.1 _ _) Tryz.underlying43 rfl (by kernel_rfl)) rfl
                  ⟨by rw [← HLL.out.1, ← HLL.out.2.2.2]; rfl, by rw [← HLL.out.1]; exact hq.2.1.over ho3 hq.1 (by decide) (by decide) (by decide) (by decide) (by decide), ho2⟩
end Go.Proofs.YtoidjgongafnkaaGreatDoor
