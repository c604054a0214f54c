/- Package view: the backups. Package commit: the backups' batch. -/
import Derived.Test.YtoidjgongafnkaaGreatDoorWCv
set_option linter.unusedVariables false
set_option linter.unusedSimpArgs false
set_option linter.unusedSectionVars false
set_option linter.constructorNameAsVariable false
namespace Go.Proofs.YtoidjgongafnkaaGreatDoor
open Go.RowKit

def bkCells (n : Nat) : List Value := (List.range n).flatMap fun i : Nat => [.int .i64 ((i : Int) + 1), .int .i64 1, .bool true]
theorem memCells_drop (n : Nat) : (memCells (n + 1)).drop 3 = bkCells n := by
  unfold memCells bkCells
  rw [List.range_succ_eq_map, List.flatMap_cons]
  simp [List.flatMap_map]
theorem bkCells_len (n : Nat) : (bkCells n).length = n * 3 := by
  have := flat_len (fun i : Nat => [Value.int .i64 ((i : Int) + 1), Value.int .i64 1, Value.bool true]) 3 (fun _ => rfl) (List.range n)
  simpa [bkCells] using this
theorem infoMem : (Tryz.prog.info? 75).map (fun i => (i.zero, i.size, i.bytes)) = some (some (.agg #[.int .i64 0, .int .i64 0, .bool false]), 3, 24) := by kernel_rfl
theorem mem_one (n : Nat) : ∀ u ∈ bkCells n, u.oneCell' = true := by
  intro u hu
  obtain ⟨i, _, hi⟩ := List.mem_flatMap.1 hu
  simp at hi
  rcases hi with rfl | rfl | rfl <;> rfl
theorem bk_cell {w : World} {lo g n cap : Nat} (h : w.ownsRow lo 75 3 (.slice (some ⟨g, 0, none⟩) n cap) n (bkCells n)) (k : Nat) (hk : k < n) : w.cell? ⟨g, k * 3, none⟩ = some (.int .i64 ((k : Int) + 1)) ∧ w.cell? ⟨g, k * 3 + 1, none⟩ = some (.int .i64 1) ∧ w.cell? ⟨g, k * 3 + 2, none⟩ = some (.bool true) := by
  have h1 := flat_get (fun i : Nat => [Value.int .i64 ((i : Int) + 1), Value.int .i64 1, Value.bool true]) 3 (fun _ => rfl) n k
  exact ⟨own_cells h (k * 3) _ ((h1 0 hk (by omega)).trans rfl), own_cells h _ _ ((h1 1 hk (by omega)).trans rfl), own_cells h _ _ ((h1 2 hk (by omega)).trans rfl)⟩

def BkPost (n : Nat) (w : World) (e : Ending) (w' : World) : Prop := (∃ v, e = .returned v ∧ w'.ownsRow w.heap.size 75 3 v n (bkCells n)) ∧ Below w.heap.size w w'
set_option maxRecDepth 10000 in
theorem cloneMem (a : Addr) (n cap : Nat) (hn : n ≤ 10) (w : World) (h : ∀ j u, (bkCells n)[j]? = some u → w.cell? (a.add j) = some u) :
    Calls Tryz.prog 127 #[.slice (some a) n cap] w (BkPost n w) := by
  obtain ⟨i0, hi, hz0, hz1, hz2⟩ := info_parts infoMem
  have HS : Hid (SrcAt w (.slice (some a) n cap) n (bkCells n)) := Lib.hid (.inr ⟨a, cap, rfl, h, mem_one n⟩)
  have hl := bkCells_len n
  have eqs := eqMems
  clear h
  go_enter Tryz.func127, Tryz.ntmps127
  go_wp2_with (at_builtin; refine halt ?_)
  refine unhalt ?_
  refine wpList_append_src rfl (.tmp 5) (.tmp 6) 25 rfl w.heap.size 75 i0 _ 3 24 Tryz.underlying25 hi hz0 hz1 hz2 rfl (by decide) (.slice (some ⟨w.heap.size, 0, none⟩) 0 0) 0 [] rfl
    (own_empty rfl (Nat.le_refl _)) (.slice (some a) n cap) n (bkCells n) rfl (HS.out.alloc _) hl (by unfold maxLen; omega) (by omega) (by simp) ?_
  intro v w3 hown hg
  have hb3 : Below w.heap.size w w3 := below_grown (w := w) (w1 := w.alloc _) (by (repeat (first | with_reducible exact Below.refl _ _ | with_reducible assumption | with_reducible refine Below.setCell ?_ (by first | (simp; done) | (simp; omega)) _ | with_reducible refine below_alloc ?_ _ | with_reducible refine below_drewN ?_ _ | with_reducible refine Below.drew ?_ | with_reducible refine below_step ?_ (by assumption)))) hg (fun j hj => by simp [Value.ownBlock] at hj; omega)
  have HO : Hid (w3.ownsRow w.heap.size 75 3 v n (bkCells n)) := Lib.hid (own_cast hown (by omega) (by simp))
  clear hown hg eqs
  go_wp2_with fail
  refine bodyPost_ret (results_tmp rfl _ _ _) rfl ⟨⟨v, rfl, HO.out⟩, hb3⟩

set_option maxRecDepth 10000 in
theorem backups_view (lo g cm n : Nat) (hn : n ≤ 10) (w : World) (h : w.ownsRow lo 75 3 (.slice (some ⟨g, 0, none⟩) (n + 1) cm) (n + 1) (memCells (n + 1))) :
    Calls Tryz.prog 76 #[.agg #[.int .i64 0, .slice (some ⟨g, 0, none⟩) (n + 1) cm]] w (BkPost n w) := by
  obtain ⟨i0, hi, hz0, hz1, hz2⟩ := info_parts infoMem
  have hcap := (own_cap h).1
  have HCL : Hid (∀ W a c', Below w.heap.size w W → (a = ⟨g, 3, none⟩ ∨ n = 0) → Calls Tryz.prog 127 #[.slice (some a) n c'] W (BkPost n W)) := Lib.hid (fun W a c' hb ha => cloneMem a n c' hn W (fun j u hj => by
    rcases ha with rfl | h0
    · rw [← memCells_drop] at hj
      rw [List.getElem?_drop] at hj
      have e : (⟨g, 3, none⟩ : Addr).add j = ⟨g, 3 + j, none⟩ := by unfold Addr.add; split <;> simp_all
      rw [e]
      exact (hb.cell (p := ⟨g, 3 + j, none⟩) (own_lt h).2).trans (own_cells h _ u hj)
    · subst h0
      simp [bkCells] at hj))
  have b1 : (((n + 1 : Nat) : Int) == 0) = false := by simp; omega
  clear h
  go_enter Tryz.func76, Tryz.ntmps76
  go_wp2_with fail
  all_goals
    go_at_call 127
    refine (HCL.out _ _ _ (by (repeat (first | with_reducible exact Below.refl _ _ | with_reducible assumption | with_reducible refine Below.setCell ?_ (by first | (simp; done) | (simp; omega)) _ | with_reducible refine below_alloc ?_ _ | with_reducible refine below_drewN ?_ _ | with_reducible refine Below.drew ?_ | with_reducible refine below_step ?_ (by assumption)))) (by first | exact .inl rfl | (right; omega))).mono ?_
    rintro e w1 ⟨⟨v, rfl, hv⟩, hb⟩
    have HV := Lib.hid (And.intro (own_base hv (by simp : w.heap.size ≤ _)) (show Below w.heap.size w w1 by (repeat (first | with_reducible exact Below.refl _ _ | with_reducible assumption | with_reducible refine Below.setCell ?_ (by first | (simp; done) | (simp; omega)) _ | with_reducible refine below_alloc ?_ _ | with_reducible refine below_drewN ?_ _ | with_reducible refine Below.drew ?_ | with_reducible refine below_step ?_ (by assumption)))))
    clear hv hb
    go_wp2_with fail
    refine bodyPost_ret (results_tmp rfl _ _ _) rfl ⟨⟨v, rfl, HV.out.1⟩, HV.out.2⟩
end Go.Proofs.YtoidjgongafnkaaGreatDoor
namespace Go.Proofs.YtoidjgongafnkaaGreatDoor
open Go.RowKit

/-- What j backups are written. -/
def bkAsk (k j : Nat) : List Cm.Vb := if k = 0 then [] else (List.range j).flatMap fun i => pageVbs (i + 1) k ++ [clockVb (i + 1)]
theorem bkAsk_zero (j : Nat) : bkAsk 0 j = [] := rfl
theorem bkAsk_start (k : Nat) : bkAsk k 0 = [] := by unfold bkAsk; split <;> simp
theorem bkAsk_succ (k j : Nat) (hk : 0 < k) : bkAsk k (j + 1) = (bkAsk k j ++ pageVbs (j + 1) k) ++ [clockVb (j + 1)] := by
  unfold bkAsk
  rw [if_neg (by omega), if_neg (by omega), flat_succ]
  simp
theorem bkAsk_len (k j : Nat) (hk : k ≤ 4) (hj : j ≤ 4) : (bkAsk k j).length ≤ 20 := by
  unfold bkAsk
  split
  · simp
  · have : ((List.range j).flatMap fun i => pageVbs (i + 1) k ++ [clockVb (i + 1)]).length = j * (k + 1) := by
      rw [flat_len _ (k + 1) (fun i => by simp [pageVbs])]
      simp
    rw [this]
    calc j * (k + 1) ≤ 4 * 5 := Nat.mul_le_mul hj (by omega)
      _ = 20 := rfl
theorem bkAsk_good (k j : Nat) : ∀ x ∈ bkAsk k j, x.Good := by
  intro x hx
  unfold bkAsk at hx
  split at hx
  · simp at hx
  · obtain ⟨i, _, hi⟩ := List.mem_flatMap.1 hx
    rcases List.mem_append.1 hi with h | h
    · obtain ⟨q, _, rfl⟩ := List.mem_map.1 h
      exact .inr (.inl rfl)
    · simp at h; subst h; exact .inr (.inl rfl)
def BkLoop (k n : Nat) (W : World) (v iv : Value) (wr : World) : Prop := ∃ j : Nat, j ≤ n ∧ iv = .int .i64 j ∧ Hid (AskRow wr W.heap.size v (bkAsk k j) ∧ Below W.heap.size W wr)
theorem askCells_one (al : List (Cm.Vb × Value)) (w : World) (lo : Nat) (h : ∀ t ∈ al, WordsAt w lo t.2 t.1.words) : ∀ u ∈ askCells al, u.oneCell' = true := by
  intro u hu
  obtain ⟨t, ht, hu⟩ := List.mem_flatMap.1 hu
  obtain ⟨p, c, hp⟩ := RowAt.shape (h t ht)
  rw [hp] at hu
  exact vbCells_one _ _ _ _ u hu

theorem SrcAt.of_own {w : World} {base g n cap size : Nat} {e : TypeId} {xs : List Value} (h : w.ownsRow base e size (.slice (some ⟨g, 0, none⟩) n cap) n xs) (h1 : ∀ u ∈ xs, u.oneCell' = true) : SrcAt w (.slice (some ⟨g, 0, none⟩) n cap) n xs := by
  refine .inr ⟨⟨g, 0, none⟩, cap, rfl, fun q u hq => ?_, h1⟩
  have e : (⟨g, 0, none⟩ : Addr).add q = ⟨g, q, none⟩ := by unfold Addr.add; split <;> simp_all
  rw [e]
  exact own_cells h q u hq

set_option maxRecDepth 10000 in
set_option maxHeartbeats 2000000 in
theorem cBackups_ok (lo lo2 c t m r k : Nat) (vm vr vw : Value) (gs : List (List (List Int))) (w : World) (hc : CAt w lo2 c t (m + 1) r k vm vr vw) (ht : TkAt w t lo gs none) (hlo : True) (hlw : lo ≤ w.heap.size) (hlw2 : lo2 ≤ w.heap.size)
    (hf : Fits (bkAsk k m) gs) :
    Calls Tryz.prog 42 #[.pointer (some ⟨c, 0, none⟩)] w (FnPost t lo (bkAsk k m) gs w) := by
  obtain ⟨i0, hi, hz0, hz1, hz2⟩ := info_parts infoVerb
  obtain ⟨gm, cm, rfl⟩ := own_form hc.job.mem (by omega)
  obtain ⟨pw, cw, rfl⟩ := own_shape hc.job.writes
  have k3 : w.cell? ⟨c, 3, none⟩ = some (.int .i64 0) := hc.blk.cell 3
  have k4' : w.cell? ⟨c, 4, none⟩ = some (.slice (some ⟨gm, 0, none⟩) (m + 1) cm) := hc.blk.cell 4
  have lc := hc.blk.lt
  have HC := Lib.hid hc
  have HT := Lib.hid (And.intro ht hf)
  have k4 := hc.job.k4
  have m4 := hc.job.m4
  clear hc ht hf
  go_enter Tryz.func42, Tryz.ntmps42
  go_wp2_with fail
  go_at_call 76
  refine (backups_view lo2 gm cm m (by omega) _ (own_below HC.out.job.mem (below_alloc (Below.refl _ _) _))).mono ?_
  rintro e W ⟨⟨v, rfl, hv⟩, hb⟩
  obtain ⟨pb, cb, rfl⟩ := own_shape hv
  have hbW : Below w.heap.size w W := by (repeat (first | with_reducible exact Below.refl _ _ | with_reducible assumption | with_reducible refine Below.setCell ?_ (by first | (simp; done) | (simp; omega)) _ | with_reducible refine below_alloc ?_ _ | with_reducible refine below_drewN ?_ _ | with_reducible refine Below.drew ?_ | with_reducible refine below_step ?_ (by assumption)))
  have BR : Blk W w.heap.size 43 #[.int .i64 0, .int .i64 0] := Blk.kept (Blk.made w _ _) hb
  have HV := Lib.hid (And.intro hv (And.intro hbW BR))
  clear hv hb hbW BR k3 k4'
  go_wp2_with fail
  go_loopw [4, 17] (fun v iv wr => BkLoop k m W v iv wr) (fun _ iv _ => ((m : Int) - intOf iv).toNat)
  case atStart => exact ⟨0, by omega, rfl, Lib.hid ⟨by rw [bkAsk_start]; exact AskRow.nil _ _, Below.refl _ _⟩⟩
  case round =>
    obtain ⟨j, hj, rfl, H⟩ := hrel
    have hb2 : Below W.heap.size W wr := H.out.2
    have hb1 : Below w.heap.size w wr := below_step HV.out.2.1 hb2
    by_cases hj2 : j < m
    · have b1 : decide ((j : Int) < m) = true := by simp; omega
      have bk0 : (0 : Int) ≤ j := by omega
      have bk1 : (j : Int) < m := by omega
      obtain ⟨g, cap, hv⟩ := own_form HV.out.1 (by omega)
      simp only [Value.slice.injEq, true_and] at hv
      obtain ⟨rfl, rfl⟩ := hv
      obtain ⟨c0, c1, c2⟩ := bk_cell (own_below HV.out.1 hb2) j hj2
      have x6 : wr.cell? ⟨c, 6, none⟩ = some (.slice pw k cw) := (hb1.cell (p := ⟨c, 6, none⟩) lc).trans (HC.out.blk.cell 6)
      have lcw : c < wr.heap.size := Nat.lt_of_lt_of_le lc hb1.size
      rcases k with _ | k
      · go_wp2_with fail
        exact ⟨⟨j + 1, by omega, by simp, Lib.hid ⟨by
          obtain ⟨al, h1, h2, h3⟩ := H.out.1.below (below_alloc (Below.refl _ _) _)
          exact ⟨al, h1, h2, h3⟩, by (repeat (first | with_reducible exact Below.refl _ _ | with_reducible assumption | with_reducible refine Below.setCell ?_ (by first | (simp; done) | (simp; omega)) _ | with_reducible refine below_alloc ?_ _ | with_reducible refine below_drewN ?_ _ | with_reducible refine Below.drew ?_ | with_reducible refine below_step ?_ (by assumption)))⟩⟩, by simp [intOf]; omega⟩
      · have b3 : decide ((0 : Int) < ((k + 1 : Nat) : Int)) = true := decide_eq_true (by omega)
        have ec : ((j + 1 : Nat) : Int) = (j : Int) + 1 := by omega
        have HPG : Hid (∀ W', Below w.heap.size w W' → Calls Tryz.prog 77 #[.pointer (some ⟨c, 0, none⟩), .agg #[.int .i64 ((j : Int) + 1), .int .i64 1, .bool true]] W' (AsksPost (pageVbs (j + 1) (k + 1)) W')) :=
          Lib.hid (fun W' hb => by have := cPages_ok lo2 c t (m + 1) r (k + 1) (j + 1) _ _ _ true W' (HC.out.below hb); rwa [ec] at this)
        have HCK : Hid (∀ W', Below w.heap.size w W' → Calls Tryz.prog 78 #[.pointer (some ⟨c, 0, none⟩), .agg #[.int .i64 ((j : Int) + 1), .int .i64 1, .bool true]] W' (AddrPost (clockVb (j + 1)) W')) :=
          Lib.hid (fun W' hb => by have := cClock_ok lo2 c t (m + 1) r (k + 1) (j + 1) _ _ _ true W' (HC.out.below hb) (Nat.le_trans hlw2 hb.size); rwa [ec] at this)
        clear ec
        go_wp2_with fail
        go_at_call 77
        refine (HPG.out _ (by (repeat (first | with_reducible exact Below.refl _ _ | with_reducible assumption | with_reducible refine Below.setCell ?_ (by first | (simp; done) | (simp; omega)) _ | with_reducible refine below_alloc ?_ _ | with_reducible refine below_drewN ?_ _ | with_reducible refine Below.drew ?_ | with_reducible refine below_step ?_ (by assumption))))).mono ?_
        rintro e w2 ⟨⟨v2, rfl, hv2⟩, hb3⟩
        have hbr : Below wr.heap.size wr w2 := by (repeat (first | with_reducible exact Below.refl _ _ | with_reducible assumption | with_reducible refine Below.setCell ?_ (by first | (simp; done) | (simp; omega)) _ | with_reducible refine below_alloc ?_ _ | with_reducible refine below_drewN ?_ _ | with_reducible refine Below.drew ?_ | with_reducible refine below_step ?_ (by assumption)))
        have BM : Blk w2 wr.heap.size 75 #[.int .i64 ((j : Int) + 1), .int .i64 1, .bool true] := Blk.kept (Blk.made wr _ _) hb3
        have hwW : W.heap.size ≤ wr.heap.size := hb2.size
        obtain ⟨al, hal, hown, hws⟩ := H.out.1.below hbr
        obtain ⟨al2, hal2, hown2, hws2⟩ := hv2.low (base' := W.heap.size) (by simp; omega)
        have h1 : al.length ≤ 20 := by have h1 := bkAsk_len (k + 1) j k4 (by omega); have h2 := congrArg List.length hal; simp at h2; omega
        have h2 : al2.length = k + 1 := by have := congrArg List.length hal2; simpa [pageVbs] using this
        rw [h2] at hown2
        obtain ⟨g2, cap2, hvv⟩ := own_form hown2 (by omega)
        subst hvv
        have hs2 : wr.heap.size ≤ w2.heap.size := hbr.size
        have hla := askCells_len al2
        rw [h2] at hla
        go_wp2_with (at_builtin; refine halt ?_)
        refine unhalt ?_
        refine wpList_append_src rfl (.tmp 28) (.tmp 31) 40 rfl W.heap.size 147 i0 _ 9 88 Tryz.underlying40 hi hz0 hz1 hz2 rfl (by decide) _ al.length (askCells al) rfl
          hown (.slice (some ⟨g2, 0, none⟩) (k + 1) cap2) (k + 1) (askCells al2) rfl (SrcAt.of_own hown2 (askCells_one al2 w2 _ hws2)) hla (by unfold maxLen; omega) (by omega) (by omega) ?_
        intro v3 w3 hown3 hg3
        have hb5 : Below W.heap.size W w3 := below_grown (w := W) (w1 := w2) (below_step hb2 hbr) hg3 (fun q hq => own_row_ge hown q hq)
        have hA3 := AskRow.push hown hws al2 hws2 (by rw [h2]) rfl hown3 hg3
        rw [hal, hal2] at hA3
        have BM3 := Blk.beside BM hown hg3 (by decide)
        have km := BM3.cell
        have lm := BM3.lt
        have H3 := Lib.hid (And.intro hA3 (And.intro hb5 BM3))
        clear hown3 hg3 hA3 hb5 BM3 hown hws hown2 hws2 hal hal2 BM hbr hb3 hv2 hla h1 h2 al al2 c0 c1 c2 x6
        obtain ⟨p3, c3, hv3⟩ := H3.out.1.asks.shape
        obtain ⟨N3, hN3⟩ : ∃ N3, N3 = (bkAsk (k + 1) j ++ pageVbs (j + 1) (k + 1)).length := ⟨_, rfl⟩
        rw [← hN3] at hv3
        have HN3 := Lib.hid hN3
        clear hN3
        subst hv3
        go_wp2_with fail
        go_at_call 78
        refine (HCK.out _ (below_step HV.out.2.1 H3.out.2.1)).mono ?_
        rintro e w4 ⟨⟨v4, rfl, hw4⟩, hb4⟩
        obtain ⟨pv, cv, rfl⟩ := RowAt.shape hw4
        obtain ⟨al, hal, hown, hws⟩ := H3.out.1.below hb4
        have h1 : al.length ≤ 30 := by have h1 := bkAsk_len (k + 1) j k4 (by omega); have h2 := congrArg List.length hal; simp [pageVbs] at h2; omega
        have hlal : al.length = N3 := by rw [HN3.out, ← hal]; simp
        rw [hlal] at hown
        have hs4 : w3.heap.size ≤ w4.heap.size := hb4.size
        have hsW : W.heap.size ≤ w3.heap.size := H3.out.2.1.size
        simp only [vbArr, clockVb]
        go_wp2_with (at_builtin; refine halt ?_)
        refine unhalt ?_
        refine wpList_append_mine rfl (.tmp 33) (.tmp 37) 40 rfl W.heap.size 147 i0 _ 9 88 Tryz.underlying40 hi hz0 hz1 hz2 rfl (by decide) (.slice p3 N3 c3) N3 (askCells al) rfl
          (own_below hown (below_alloc (Below.refl _ _) _)) ⟨w4.heap.size, 0, none⟩ 1 1 (vbCells (clockVb (j + 1)) (.slice pv 1 cv)) rfl rfl
          (lit_news (o := 0) (cs := vbArr (clockVb (j + 1)) (.slice pv 1 cv)) (Blk.made _ _ _)) (vbCells_one _ _ _ _) (by omega) (by unfold maxLen; omega) (by omega) (by simp; omega) ?_
        intro g6 cap6 w6 hown6 hg6
        have hb6 : Below W.heap.size W w6 := below_grown (w := W) (w1 := w4.alloc _) (by have := H3.out.2.1; (repeat (first | with_reducible exact Below.refl _ _ | with_reducible assumption | with_reducible refine Below.setCell ?_ (by first | (simp; done) | (simp; omega)) _ | with_reducible refine below_alloc ?_ _ | with_reducible refine below_drewN ?_ _ | with_reducible refine Below.drew ?_ | with_reducible refine below_step ?_ (by assumption)))) hg6 (fun q hq => own_row_ge hown q hq)
        have hown' := own_below hown (below_alloc (Below.refl w4.heap.size w4) (.cells (vbArr (clockVb (j + 1)) (.slice pv 1 cv)) 147))
        rw [← hlal] at hown' hown6
        have hA6 := AskRow.push hown' (fun t ht => (hws t ht).below (below_alloc (Below.refl _ _) _)) [(clockVb (j + 1), .slice pv 1 cv)]
          (fun t ht => by simp at ht; subst ht; exact RowAt.low (WordsAt.below hw4 (below_alloc (Below.refl _ _) _)) hsW) rfl (by simp [askCells]) hown6 (by rw [hlal]; exact hg6)
        have H6 : Hid (AskRow w6 W.heap.size (.slice (some ⟨g6, 0, none⟩) (N3 + 1) cap6) (bkAsk (k + 1) (j + 1)) ∧ Below W.heap.size W w6) := Lib.hid ⟨by rw [bkAsk_succ _ _ (by omega), ← hal]; rw [hlal] at hA6; exact hA6, hb6⟩
        clear hown6 hg6 hA6 hb6 hown hws hown' hal hw4 hlal
        go_wp2_with fail
        exact ⟨⟨j + 1, by omega, by simp, H6⟩, by simp [intOf]; omega⟩
    · have b1 : decide ((j : Int) < m) = false := by simp; omega
      obtain rfl : j = m := by omega
      have hal := H.out.1.asks.low (lo' := lo) (Nat.le_trans hlw HV.out.2.1.size)
      obtain ⟨l, hll⟩ : ∃ l, l = bkAsk k j := ⟨_, rfl⟩
      have hlg : ∀ x ∈ l, x.Good := by rw [hll]; exact bkAsk_good _ _
      have hlen : l.length ≤ 1000 := by have := bkAsk_len k j k4 (by omega); rw [hll]; omega
      rw [← hll] at hal HT
      have HLL := Lib.hid hll
      obtain ⟨pv, cpv, hvv⟩ := hal.shape
      have BR := HV.out.2.2.kept hb2
      have hbw1 := Lib.hid hb1
      have HBR := Lib.hid (And.intro BR (And.intro hal (And.intro hlg hlen)))
      clear hal hlg hlen hll BR hb1 hb2
      subst hvv
      go_wp2_with fail
      go_at_call 72
      refine (step_ok c t lo _ vr _ _ 3 l gs HBR.out.2.2.2 HBR.out.2.2.1 _ (HC.out.blk.kept hbw1.out) (HT.out.1.below hbw1.out) hlo HBR.out.2.1 HT.out.2).mono ?_
      rintro e w2 ⟨⟨u, rfl, _, pu, nu, cu, rfl⟩, htk, ho⟩
      have BR2 := HBR.out.1.grown ho (fun e => by injection e with e; have := HT.out.1.lt; omega)
      have ho2 : Over t w w2 := (Over.of_below hbw1.out).trans ho
      have HX := Lib.hid (And.intro BR2 (And.intro htk ho2))
      have k2 := BR2.cell
      have f2 := BR2.free
      have l2 := BR2.lt
      clear BR2 htk ho ho2
      go_wp2_with fail
      have hx := HX.out
      have ho2 : Over t w (((w2.setCell ⟨w.heap.size, 0, none⟩ (.int .i64 0)).setCell ⟨w.heap.size, 1, none⟩ (.int .i64 0)).alloc (.cells #[.int .i64 0, .int .i64 0] 43)) := ((hx.2.2.own (by simp) _).own (by simp) _).alloc _
      have ho3 : Over w.heap.size w2 (((w2.setCell ⟨w.heap.size, 0, none⟩ (.int .i64 0)).setCell ⟨w.heap.size, 1, none⟩ (.int .i64 0)).alloc (.cells #[.int .i64 0, .int .i64 0] 43)) := by (repeat (first | with_reducible exact Over.refl _ _ | with_reducible assumption | with_reducible refine Over.put ?_ _ _ | with_reducible refine Over.alloc ?_ _ | with_reducible refine Over.drew ?_ | with_reducible refine Over.own ?_ (by first | (simp; done) | (simp; omega)) _ | with_reducible refine Over.trans ?_ (by assumption) | with_reducible refine Over.then_below ?_ (by assumption)))
      refine bodyPost_ret (results_bt rfl _ _ w.heap.size _ _ _ rfl ((Blk.all2 hx.1 _ _).alloc _) Tryz.underlying43 rfl (by kernel_rfl)) rfl
        ⟨by rw [← HLL.out]; rfl, by rw [← HLL.out]; exact hx.2.1.over ho3 hx.1 (by decide) (by decide) (by decide) (by decide) (by decide), ho2⟩
end Go.Proofs.YtoidjgongafnkaaGreatDoor
