/- bodegaref19.Merge, walked. -/
import Derived.Test.YtcoiehgcfjfhaaaGreatDoorQ13
import Derived.Deep.CutBlock
import Derived.Deep.DeepCutAuto
import Derived.Deep.CutRange
set_option linter.all false
set_option maxRecDepth 20000
set_option maxHeartbeats 8000000
open Go.Lib (hid)
namespace Go.Proofs.YtcoiehgcfjfhaaaGreatDoor
open Go.RowKit
theorem take_fold (l : List Bt.Page) (k : Nat) (x : Bt.Page) (hk : l[k]? = some x) : (l.take (k + 1)).foldl Rf.putPage [] = Rf.putPage ((l.take k).foldl Rf.putPage []) x := by
  have hlt : k < l.length := (List.getElem?_eq_some_iff.1 hk).1
  have hx : l[k] = x := (List.getElem?_eq_some_iff.1 hk).2
  rw [List.take_succ_eq_append_getElem hlt, List.foldl_append, hx]
  rfl
theorem fold_len (l : List Bt.Page) (k : Nat) : ((l.take k).foldl Rf.putPage []).length ≤ k := by
  have h := Rf.merge_len_aux (l.take k) []
  simp only [List.length_take, List.length_nil] at h
  omega
structure RefMg (w : World) (l : List Bt.Page) (ga B k : Nat) (cur : Array Value) (u : Value) (wr : World) : Prop where
  own : wr.ownsRow B 75 9 u ((l.take k).foldl Rf.putPage []).length (pageCells ((l.take k).foldl Rf.putPage []))
  all : Blk wr ga 75 cur
  below : Below w.heap.size w wr
  size : B ≤ wr.heap.size
structure MgMem (w : World) (ga B m : Nat) (cur : Array Value) (u : Value) (L : List Bt.Page) (wr : World) : Prop where
  own : wr.ownsRow B 75 9 u m (pageCells L)
  all : Blk wr ga 75 cur
  below : Below w.heap.size w wr
  size : B ≤ wr.heap.size
theorem MgMem.drew {w : World} {ga B m : Nat} {cur : Array Value} {u : Value} {L : List Bt.Page} {wr : World} (h : MgMem w ga B m cur u L wr) : MgMem w ga B m cur u L wr.drew := ⟨h.own, h.all.drew, h.below.drew, h.size⟩
theorem refMerge_any (K W : List Bt.Page) (vK vW : Value) (w : World) (hK : PgRow w vK K) (hW : PgRow w vW W) (hsm : K.length + W.length ≤ 1000) :
    Calls Tryz.prog 50 #[vK, vW] w fun e w' => ∃ v, e = .returned v ∧ w'.ownsRow w.heap.size 75 9 v (Rf.merge K W).length (pageCells (Rf.merge K W)) ∧ Below w.heap.size w w' := by
  obtain ⟨i0, hi, hz0, hz1, hz2⟩ := info_parts infoPage
  obtain ⟨pK, cK, rfl⟩ := hK.slice
  obtain ⟨pW, cW, rfl⟩ := hW.slice
  obtain ⟨l, hl⟩ : ∃ l, K ++ W = l := ⟨_, rfl⟩
  obtain ⟨kK, hkK⟩ : ∃ k, K.length = k := ⟨_, rfl⟩
  obtain ⟨kW, hkW⟩ : ∃ k, W.length = k := ⟨_, rfl⟩
  have HL : Hid (K ++ W = l ∧ K.length = kK ∧ W.length = kW ∧ l.length = kK + kW) := hid ⟨hl, hkK, hkW, by rw [← hl, List.length_append, hkK, hkW]⟩
  rw [hkK] at hK hsm ⊢
  rw [hkW] at hW hsm ⊢
  have HKW := hid (And.intro hK hW)
  clear hK hW hl hkK hkW
  have HSK : Hid (∀ W', Below w.heap.size w W' → SrcAt W' (.slice pK kK cK) kK (pageCells K)) := hid (fun W' hb => by have h := (HKW.out.1.below hb).src; rwa [HL.out.2.1] at h)
  have HSW : Hid (∀ W', Below w.heap.size w W' → SrcAt W' (.slice pW kW cW) kW (pageCells W)) := hid (fun W' hb => by have h := (HKW.out.2.below hb).src; rwa [HL.out.2.2.1] at h)
  go_enter Tryz.func50, Tryz.ntmps50
  go_wp2_with (at_builtin; refine halt ?_)
  refine unhalt ?_
  refine wpList_plain rfl fun K' hK' => ?_
  refine wp_append_src (.tmp 9) (.tmp 10) 42 rfl w.heap.size 75 i0 _ 9 72 Tryz.underlying42 hi hz0 hz1 hz2 rfl (by decide) (.slice (some ⟨w.heap.size, 0, none⟩) 0 0) 0 [] rfl ?ho0 (.slice pK kK cK) kK (pageCells K) rfl (HSK.out _ qL) (by rw [pgc_len, HL.out.2.1]) (by unfold maxLen; omega) (by omega) (by simp) ?_
  case ho0 => exact ⟨rfl, .inr ⟨w.heap.size, 0, #[], rfl, Nat.le_refl _, Blk.made _ _ _, Nat.le_refl _, by unfold maxLen; omega, rfl, rfl⟩⟩
  intro v1 w1 hown1 hg1
  refine hK' _ _ ?_
  clear hK' K'
  rw [Nat.zero_add, List.nil_append] at hown1
  have hb1 : Below w.heap.size w w1 := below_grown (show Below w.heap.size w _ from qL) hg1 (fun j hj => by simp [Value.ownBlock] at hj; omega)
  have HO1 := hid hown1
  have HB1 := hid hb1
  clear hown1 hg1 hb1
  go_wp2_with (at_builtin; refine halt ?_)
  refine unhalt ?_
  refine wpList_plain rfl fun K' hK' => ?_
  refine wp_append_src (.tmp 11) (.tmp 12) 42 rfl w.heap.size 75 i0 _ 9 72 Tryz.underlying42 hi hz0 hz1 hz2 rfl (by decide) v1 kK (pageCells K) rfl HO1.out (.slice pW kW cW) kW (pageCells W) rfl (HSW.out _ HB1.out) (by rw [pgc_len, HL.out.2.2.1]) (by unfold maxLen; omega) (by omega) HB1.out.size ?_
  intro v2 w2 hown2 hg2
  refine hK' _ _ ?_
  clear hK' K'
  have hb2 : Below w.heap.size w w2 := below_grown HB1.out hg2 (fun j hj => own_row_ge HO1.out j hj)
  have hpl : pageCells K ++ pageCells W = pageCells l := by rw [← HL.out.1]; exact List.flatMap_append.symm
  rw [hpl] at hown2
  obtain ⟨n, hn⟩ : ∃ n, kK + kW = n := ⟨_, rfl⟩
  rw [hn] at hown2 hsm
  have HNL : Hid (l.length = n ∧ kK + kW = n) := hid ⟨by rw [HL.out.2.2.2, hn], hn⟩
  have hsz2 : w1.heap.size ≤ w2.heap.size := hg2.size
  -- the row of all pages, in a block or nowhere
  obtain ⟨pa, ca, rfl⟩ := own_shape hown2
  have HO2 := hid hown2
  have HB2 := hid hb2
  clear hown2 hg2 hb2 hpl hn hsz2 HO1 HB1
  have HRES : Hid (∀ (W' : World) (u : Value), W'.ownsRow w2.heap.size 75 9 u (l.foldl Rf.putPage []).length (pageCells (l.foldl Rf.putPage [])) → W'.ownsRow w.heap.size 75 9 u (Rf.merge K W).length (pageCells (Rf.merge K W))) := hid (fun W' u h => by
    have e : l.foldl Rf.putPage [] = Rf.merge K W := by rw [← HL.out.1]; rfl
    rw [e] at h
    refine ⟨h.1, ?_⟩
    rcases h.2 with h2 | ⟨g, c, cc, hv, hb, h3⟩
    · exact .inl h2
    · exact .inr ⟨g, c, cc, hv, by have := HB2.out.size; omega, h3⟩)
  rcases HO2.out.2 with ⟨hv0, h0⟩ | ⟨ga, capa, cur, hva, hga, hcur, _⟩
  · obtain rfl : n = 0 := h0
    have hl0 : l = [] := List.length_eq_zero_iff.1 HNL.out.1
    have HR0 := HRES.out w2 (.slice none 0 0) (by rw [hl0]; exact World.ownsRow_nil _ _ _ _)
    have HR1 := hid HR0
    clear hl0 HR0
    go_wp2_with fail
    refine wp_loop_rounds 1 ?_
    rw [rounds_succ]
    go_wp2_with fail
    refine bodyPost_ret (results_tmp rfl _ _ _) rfl ⟨.slice none 0 0, rfl, HR1.out, HB2.out⟩
  · simp only [Value.slice.injEq, true_and] at hva
    obtain ⟨rfl, rfl⟩ := hva
    have hcell : ∀ k x, l[k]? = some x → ∀ j u, x.cells[j]? = some u → cur[k * 9 + j]? = some u := fun k x hx j u hu => by
      have hj : j < 9 := by have := (Array.getElem?_eq_some_iff.1 hu).1; simpa [Bt.Page.cells] using this
      have h1 := own_cells HO2.out (k * 9 + j) u (by rw [pgc_at l k j hj, hx]; simpa using hu)
      rw [(show Blk w2 ga 75 cur from hcur).cell] at h1
      exact h1
    have HCE := hid hcell
    have hgalt : ga < w2.heap.size := (show Blk w2 ga 75 cur from hcur).lt
    have HALL : Hid (Blk w2 ga 75 cur) := hid hcur
    clear hcell hcur hga
    go_wp2_with fail
    go_loopw [5, 7] (fun u i wr => ∃ (k : Nat), i = .int .i64 k ∧ k ≤ n ∧ Hid (RefMg w l ga w2.heap.size k cur u wr)) (fun _ i _ => ((n : Int) - intOf i).toNat)
    case atStart => exact ⟨0, rfl, by omega, hid ⟨World.ownsRow_nil _ _ _ _, HALL.out, HB2.out, Nat.le_refl _⟩⟩
    case round =>
      obtain ⟨k, rfl, hkn, HR⟩ := hrel
      obtain ⟨w3, hw3⟩ : ∃ w3, w3 = wr := ⟨_, rfl⟩
      subst hw3
      by_cases hk2 : k < n
      · have b1 : decide ((k : Int) < n) = true := by simp; omega
        have wk : IntKind.i64.wrap ((k : Int) + 1) = (k : Int) + 1 := by rw [IntKind.wrap_i64]; omega
        have hkl : k < l.length := by have := HNL.out.1; omega
        obtain ⟨x, hx⟩ : ∃ x, l[k]? = some x := ⟨_, List.getElem?_eq_getElem hkl⟩
        have c0 := HCE.out k x hx 0 _ rfl
        have c1 := HCE.out k x hx 1 _ rfl
        have c2 := HCE.out k x hx 2 _ rfl
        have c3 := HCE.out k x hx 3 _ rfl
        have c4 := HCE.out k x hx 4 _ rfl
        have c5 := HCE.out k x hx 5 _ rfl
        have c6 := HCE.out k x hx 6 _ rfl
        have c7 := HCE.out k x hx 7 _ rfl
        have c8 := HCE.out k x hx 8 _ rfl
        simp only [Nat.add_zero] at c0
        have HTF := hid (take_fold l k x hx)
        obtain ⟨L, hL⟩ : ∃ L, (l.take k).foldl Rf.putPage [] = L := ⟨_, rfl⟩
        have HFL : Hid (L.length ≤ k) := hid (hL ▸ fold_len l k)
        have HOW : Hid (w3.ownsRow w2.heap.size 75 9 u5 L.length (pageCells L)) := hid (hL ▸ HR.out.own)
        rw [hL] at HTF
        obtain ⟨pu, cu, hu5⟩ := own_shape HOW.out
        subst hu5
        obtain ⟨m, hm⟩ : ∃ m, L.length = m := ⟨_, rfl⟩
        rw [hm] at HOW HFL ⊢
        have HM := hid (And.intro hm hL)
        clear hx hm hL
        have j2 : decide ((k : Int) < 0) = false := by simp
        have j4 : (0 : Int) ≤ k := by omega
        have j5 : (k : Int) < n := by omega
        have HMM : Hid (MgMem w ga w2.heap.size m cur (.slice pu m cu) L w3) := hid ⟨HOW.out, HR.out.all, HR.out.below, HR.out.size⟩
        obtain ⟨P, hP⟩ : ∃ P, Rf.pos (fun q : Bt.Page => decide (q.line < x.line)) L = P := ⟨_, rfl⟩
        have HPO := hid hP
        clear hP
        go_upto_block 2 with (fail)
        go_cut [8] from 20 to 38 (fun z wx => z = .int .i64 P ∧ MgMem w ga w2.heap.size m cur (.slice pu m cu) L wx)
        case first =>
          -- DONE
          go_wp2_with fail
          go_loopw [8] (fun z wr => ∃ (a : Nat), z = .int .i64 a ∧ Hid (a ≤ P ∧ MgMem w ga w2.heap.size m cur (.slice pu m cu) L wr)) (fun z _ => ((m : Int) - intOf z).toNat)
          case atStart => exact ⟨0, rfl, hid ⟨by omega, HMM.out⟩⟩
          case round =>
            obtain ⟨a, rfl, HA⟩ := hrel
            obtain ⟨w4, hw4⟩ : ∃ w4, w4 = wr := ⟨_, rfl⟩
            subst hw4
            have e0 : w4.cell? ⟨ga, k * 9, none⟩ = some (.int .i64 x.line) := by rw [HA.out.2.all.cell]; exact c0
            have hga4 := HA.out.2.all.lt
            have ham : a ≤ m := by have h1 := HA.out.1; have h2 := HPO.out; have h3 := Rf.pos_le (fun q : Bt.Page => decide (q.line < x.line)) L; have h4 := HM.out.1; omega
            by_cases hlt : a < m
            · have b2 : decide ((a : Int) < m) = true := by simp; omega
              obtain ⟨gu, cu', hv, hgB, hgu, hrow⟩ := own_pg HA.out.2.own HM.out.1.symm hlt
              simp only [Value.slice.injEq, true_and] at hv
              obtain ⟨rfl, rfl⟩ := hv
              obtain ⟨y, hy⟩ : ∃ y, L[a]'(by have := HM.out.1; omega) = y := ⟨_, rfl⟩
              rw [hy] at hrow
              have d0 := (nine hrow).1
              have HY := hid hy
              have wa : IntKind.i64.wrap ((a : Int) + 1) = (a : Int) + 1 := by rw [IntKind.wrap_i64]; have := HFL.out; omega
              have a2 : decide ((a : Int) < 0) = false := by simp
              have a4 : (0 : Int) ≤ a := by omega
              have a5 : (a : Int) < m := by omega
              clear hrow hy c0 c1 c2 c3 c4 c5 c6 c7 c8
              by_cases hyx : y.line < x.line
              · have bc : decide (y.line < x.line) = true := by simpa using hyx
                go_wp2_with fail
                refine qA fun hSt => ?_
                refine qS [0, 1, 2, 3, 4, 5, 6, 7, 8, 9, 10, 11, 12, 13, 14, 15, 16] ?_
                iterate 17 (refine qT ?_; simp only [Act.put, qY])
                refine TakeSeq.done ?_
                refine qD ?_ _
                go_wp2_with fail
                exact ⟨⟨a + 1, by simp, hid ⟨by
                  have h1 := Rf.pos_next (f := fun q : Bt.Page => decide (q.line < x.line)) (l := L) (k := a) (by rw [HPO.out]; exact HA.out.1) (by have := HM.out.1; omega) (by rw [HY.out]; simpa using hyx)
                  rw [HPO.out] at h1
                  exact h1, HA.out.2.drew⟩⟩, by simp [intOf]; omega⟩
              · have bc : decide (y.line < x.line) = false := by simpa using hyx
                go_wp2_with fail
                refine qA fun hSt => ?_
                refine qS [0, 1, 2, 3, 4, 5, 6, 7, 8, 9, 10, 11, 12, 13, 14, 15, 16] ?_
                iterate 17 (refine qT ?_; simp only [Act.put, qY])
                refine TakeSeq.done ?_
                refine qD ?_ _
                go_wp2_with fail
                go_meet
                exact ⟨by
                  have h1 := Rf.pos_stop (f := fun q : Bt.Page => decide (q.line < x.line)) (l := L) (k := a) (by rw [HPO.out]; exact HA.out.1) (by have := HM.out.1; omega) (by rw [HY.out]; simpa using hyx)
                  rw [HPO.out] at h1
                  rw [h1], HA.out.2.drew⟩
            · have b2 : decide ((a : Int) < m) = false := by simp; omega
              clear c0 c1 c2 c3 c4 c5 c6 c7 c8
              go_wp2_with fail
              refine qA fun hSt => ?_
              refine qS [0, 1, 2, 3, 4, 5, 6, 7, 8, 9, 10, 11, 12, 13, 14, 15, 16] ?_
              iterate 17 (refine qT ?_; simp only [Act.put, qY])
              refine TakeSeq.done ?_
              refine qD ?_ _
              go_wp2_with fail
              go_meet
              exact ⟨by
                have h1 := Rf.pos_end (f := fun q : Bt.Page => decide (q.line < x.line)) (l := L) (k := a) (by rw [HPO.out]; exact HA.out.1) (by have := HM.out.1; omega)
                rw [HPO.out] at h1
                rw [h1], HA.out.2.drew⟩
          -- /DONE
        case rest =>
          obtain ⟨rfl, hmm⟩ := hcut
          have hPm : P ≤ m := by have h2 := HPO.out; have h3 := Rf.pos_le (fun q : Bt.Page => decide (q.line < x.line)) L; have h4 := HM.out.1; omega
          have HH := hid hmm
          clear hmm
          obtain ⟨w5, hw5⟩ : ∃ w5, w5 = wc := ⟨_, rfl⟩
          have HH5 : Hid (MgMem w ga w2.heap.size m cur (.slice pu m cu) L w5) := hid (hw5 ▸ HH.out)
          clear HH
          subst hw5
          obtain ⟨ce, hce⟩ : ∃ ce : Bool, decide ((L[P]?).map (·.line) = some x.line) = ce := ⟨_, rfl⟩
          have HCX := hid hce
          clear hce
          have e0 : w5.cell? ⟨ga, k * 9, none⟩ = some (.int .i64 x.line) := by rw [HH5.out.all.cell]; exact c0
          have e1 : w5.cell? ⟨ga, k * 9 + 1, none⟩ = some (.int .u64 x.head) := by rw [HH5.out.all.cell]; exact c1
          have e2 : w5.cell? ⟨ga, k * 9 + 2, none⟩ = some (.int .u64 x.d0) := by rw [HH5.out.all.cell]; exact c2
          have e3 : w5.cell? ⟨ga, k * 9 + 3, none⟩ = some (.int .u64 x.d1) := by rw [HH5.out.all.cell]; exact c3
          have e4 : w5.cell? ⟨ga, k * 9 + 4, none⟩ = some (.int .u64 x.d2) := by rw [HH5.out.all.cell]; exact c4
          have e5 : w5.cell? ⟨ga, k * 9 + 5, none⟩ = some (.int .u64 x.d3) := by rw [HH5.out.all.cell]; exact c5
          have e6 : w5.cell? ⟨ga, k * 9 + 6, none⟩ = some (.int .u64 x.d4) := by rw [HH5.out.all.cell]; exact c6
          have e7 : w5.cell? ⟨ga, k * 9 + 7, none⟩ = some (.int .u64 x.d5) := by rw [HH5.out.all.cell]; exact c7
          have e8 : w5.cell? ⟨ga, k * 9 + 8, none⟩ = some (.int .u64 x.d6) := by rw [HH5.out.all.cell]; exact c8
          have hga5 := HH5.out.all.lt
          go_upto_region 9 with (fail)
          go_cut [55] from 39 to 55 (fun c wx => c = .bool ce ∧ MgMem w ga w2.heap.size m cur (.slice pu m cu) L wx)
          case first =>
            -- DONE
            by_cases hlt : P < m
            · have b2 : decide ((P : Int) < m) = true := by simp; omega
              obtain ⟨gu, cu', hv, hgB, hgu, hrow⟩ := own_pg HH5.out.own HM.out.1.symm hlt
              simp only [Value.slice.injEq, true_and] at hv
              obtain ⟨rfl, rfl⟩ := hv
              have hPL : P < L.length := by have := HM.out.1; omega
              obtain ⟨y, hy⟩ : ∃ y, L[P] = y := ⟨_, rfl⟩
              rw [hy] at hrow
              have d0 := (nine hrow).1
              have HE : Hid ((y.line == x.line) = ce) := hid (by
                have h1 := HCX.out
                rw [List.getElem?_eq_getElem hPL, hy] at h1
                rw [← h1]
                by_cases h2 : y.line = x.line <;> simp [h2])
              have a2 : decide ((P : Int) < 0) = false := by simp
              have a4 : (0 : Int) ≤ P := by omega
              have a5 : (P : Int) < m := by omega
              have hcy := HE.out
              clear hrow hy c0 c1 c2 c3 c4 c5 c6 c7 c8 e1 e2 e3 e4 e5 e6 e7 e8
              go_wp2_with fail
              refine qA fun hSt => ?_
              refine qS [0, 1, 2, 3, 4, 5, 6, 7, 8, 9, 10, 11, 12, 13, 14, 15, 16] ?_
              iterate 17 (refine qT ?_; simp only [Act.put, qY])
              refine TakeSeq.done ?_
              refine qD ?_ _
              go_wp2_with fail
              go_meet
              exact ⟨rfl, HH5.out.drew⟩
            · have b2 : decide ((P : Int) < m) = false := by simp; omega
              have HE : Hid (ce = false) := hid (by
                rw [← HCX.out, List.getElem?_eq_none (by have := HM.out.1; omega)]
                simp)
              clear c0 c1 c2 c3 c4 c5 c6 c7 c8 e1 e2 e3 e4 e5 e6 e7 e8
              go_wp2_with fail
              refine qA fun hSt => ?_
              refine qS [0, 1, 2, 3, 4, 5, 6, 7, 8, 9, 10, 11, 12, 13, 14, 15, 16] ?_
              iterate 17 (refine qT ?_; simp only [Act.put, qY])
              refine TakeSeq.done ?_
              refine qD ?_ _
              go_wp2_with fail
              go_meet
              exact ⟨by rw [HE.out], HH5.out.drew⟩
            -- /DONE
          case rest =>
            obtain ⟨rfl, hmm⟩ := hcut
            obtain ⟨w6, hw6⟩ : ∃ w6, w6 = wc := ⟨_, rfl⟩
            have HH6 : Hid (MgMem w ga w2.heap.size m cur (.slice pu m cu) L w6) := hid (hw6 ▸ hmm)
            clear hmm HH5 e0 e1 e2 e3 e4 e5 e6 e7 e8 hga5
            subst hw6
            go_step
            cases ce with
            | true =>
              have hPL : P < L.length := by
                rcases Nat.lt_or_ge P L.length with h | h
                · exact h
                · have h1 := HCX.out
                  rw [List.getElem?_eq_none h] at h1
                  simp at h1
              have hlt : P < m := by have := HM.out.1; omega
              obtain ⟨gu, cu', hv, hgB, hgu, hrow⟩ := own_pg HH6.out.own HM.out.1.symm hlt
              simp only [Value.slice.injEq, true_and] at hv
              obtain ⟨rfl, rfl⟩ := hv
              obtain ⟨y, hy⟩ : ∃ y, L[P] = y := ⟨_, rfl⟩
              rw [hy] at hrow
              obtain ⟨d0, d1, d2, d3, d4, d5, d6, d7, d8⟩ := nine hrow
              have HPR : Hid (PRow w6 gu cu L) := hid (by
                have h1 := HH6.out.own
                rw [← HM.out.1] at h1
                exact PRow.of_own h1)
              have hfr := HPR.out.free
              have e0 : w6.cell? ⟨ga, k * 9, none⟩ = some (.int .i64 x.line) := by rw [HH6.out.all.cell]; exact c0
              have e1 : w6.cell? ⟨ga, k * 9 + 1, none⟩ = some (.int .u64 x.head) := by rw [HH6.out.all.cell]; exact c1
              have e2 : w6.cell? ⟨ga, k * 9 + 2, none⟩ = some (.int .u64 x.d0) := by rw [HH6.out.all.cell]; exact c2
              have e3 : w6.cell? ⟨ga, k * 9 + 3, none⟩ = some (.int .u64 x.d1) := by rw [HH6.out.all.cell]; exact c3
              have e4 : w6.cell? ⟨ga, k * 9 + 4, none⟩ = some (.int .u64 x.d2) := by rw [HH6.out.all.cell]; exact c4
              have e5 : w6.cell? ⟨ga, k * 9 + 5, none⟩ = some (.int .u64 x.d3) := by rw [HH6.out.all.cell]; exact c5
              have e6 : w6.cell? ⟨ga, k * 9 + 6, none⟩ = some (.int .u64 x.d4) := by rw [HH6.out.all.cell]; exact c6
              have e7 : w6.cell? ⟨ga, k * 9 + 7, none⟩ = some (.int .u64 x.d5) := by rw [HH6.out.all.cell]; exact c7
              have e8 : w6.cell? ⟨ga, k * 9 + 8, none⟩ = some (.int .u64 x.d6) := by rw [HH6.out.all.cell]; exact c8
              have hga6 := HH6.out.all.lt
              have a2 : decide ((P : Int) < 0) = false := by simp
              have a4 : (0 : Int) ≤ P := by omega
              have a5 : (P : Int) < m := by omega
              clear hrow hy c0 c1 c2 c3 c4 c5 c6 c7 c8
              go_wp2_with fail
              have P1 := HPR.out.put hPL x
              have ho : Over gu w6 (w6.setCells gu (P * 9) x.cells.toList) := over_setCells _ _ _ _ (Over.refl _ _)
              rw [set_world] at P1 ho
              have hput : (l.take (k + 1)).foldl Rf.putPage [] = L.set P x := by
                rw [HTF.out]
                have h1 := HCX.out
                simp only [Rf.putPage, HPO.out]
                rw [if_pos (of_decide_eq_true h1)]
              refine ⟨⟨k + 1, by simp, by omega, hid ⟨?_, ?_, ?_, ?_⟩⟩, by simp [intOf]; omega⟩
              · rw [hput, List.length_set]
                have h2 := P1.own_base hgB
                rw [List.length_set] at h2
                rw [HM.out.1] at h2 ⊢
                exact h2
              · exact (ho.block ga hga6 (by intro e; injection e with e; omega)).trans HH6.out.all
              · exact below_grown HH6.out.below ho (fun j hj => by cases hj; have := HB2.out.size; omega)
              · have h1 := HH6.out.size; have h2 := ho.size; omega
            | false =>
              obtain ⟨u1, u2, r1, r2, hob, hou⟩ := slice_own HH6.out.own i0 Tryz.underlying42 pageElem hi hz1 P hPm (pgc_one L)
              have HOU := hid hou
              have HOB := hid hob
              have a2 : decide ((P : Int) < 0) = false := by simp
              have a4 : (0 : Int) ≤ P := by omega
              have a5 : (P : Int) ≤ m := by omega
              have HS6 : Hid (Blk w6 ga 75 cur) := hid HH6.out.all
              clear hou hob
              go_wp2_with fail
              refine wp_region_held_drew (S := KeepAt ga 75 cur) (by kernel_rfl) ⟨HS6.out.drew⟩ ?_
              intro hSt
              refine qS [0, 1, 2, 3, 4, 5, 6, 8, 9, 10] ?_
              iterate 10 (refine qT ?_; simp only [Act.put, qY])
              refine TakeSeq.done ?_
              refine qH 7 fun K hK => ?_
              go_simp
              refine hK.out _ _ (⟨HS6.out.drew.alloc _⟩) (fun hHeld => ?_)
              clear hK K
              refine wpAnyH_ready (rs := [11]) (by kernel_rfl) (by simp) ?_
              refine AllReadyH.cons rfl (fun K2 hK2 => ?_) (AllReadyH.nil)
              rw [if_pos (by rfl)]
              have hkeep : ∀ W', Below w6.heap.size w6 W' → ∀ b, (Value.slice pu m cu).ownBlock = some b → W'.heap[b]? = w6.heap[b]? := fun W' hb b hob => hb.block b (own_lt' HH6.out.own b hob)
              have hb6 : Below w6.heap.size w6 (w6.drew.alloc (.cells x.cells 75)) := qL
              have hx1 : ∀ u ∈ x.cells.toList ++ pageCells (L.drop P), u.oneCell' = true := fun u hu => pgc_one (x :: L.drop P) u hu
              refine wp_append_src (.tmp 70) (.tmp 73) 42 rfl w6.heap.size 75 i0 _ 9 72 Tryz.underlying42 hi hz0 hz1 hz2 rfl (by decide) (.slice (some ⟨w6.heap.size, 0, none⟩) 1 1) 1 x.cells.toList rfl ?hoA u2 (m - P) (pageCells (L.drop P)) rfl ?hsA ?hlA (by have := HFL.out; unfold maxLen; omega) (by have := HFL.out; omega) (by simp) ?_
              case hoA => exact ⟨rfl, .inr ⟨w6.heap.size, 1, x.cells, rfl, Nat.le_refl _, Blk.made _ _ _, Nat.le_refl _, by unfold maxLen; omega, rfl, rfl⟩⟩
              case hsA => rw [← pgc_drop]; exact (HOU.out _ (hkeep _ hb6)).2
              case hlA => rw [pgc_len, List.length_drop, HM.out.1]
              intro v7 w7 hown7 hg7
              have hb7 : Below w6.heap.size w6 w7 := below_grown hb6 hg7 (fun j hj => by simp [Value.ownBlock] at hj; omega)
              refine hK2.out _ _ ⟨(hb7.block ga HS6.out.lt).trans HS6.out⟩ (fun hHeld => ?_)
              clear hK2 K2
              simp only [Act.put, qY]
              refine wpAnyH_ready (rs := [12]) (by kernel_rfl) (by simp) ?_
              refine AllReadyH.cons rfl (fun K2 hK2 => ?_) (AllReadyH.nil)
              rw [if_pos (by rfl)]
              have ho1 := (HOU.out _ (hkeep _ hb7)).1
              rw [pgc_take] at ho1
              have hsz7 := hb7.size
              refine wp_append_src (.tmp 65) (.tmp 74) 42 rfl w2.heap.size 75 i0 _ 9 72 Tryz.underlying42 hi hz0 hz1 hz2 rfl (by decide) u1 P (pageCells (L.take P)) rfl ho1 v7 (1 + (m - P)) (x.cells.toList ++ pageCells (L.drop P)) rfl (own_src hown7 hx1) hown7.1 (by have := HFL.out; unfold maxLen; omega) (by have := HFL.out; omega) (by have := HH6.out.size; omega) ?_
              intro v8 w8 hown8 hg8
              have hob8 : ∀ j, u1.ownBlock = some j → w2.heap.size ≤ j := fun j hj => own_row_ge ho1 j hj
              have hblk8 : Blk w8 ga 75 cur := (hg8.block ga (by have := HS6.out.lt; omega) (by intro e; have := hob8 ga e.symm; omega)).trans ((hb7.block ga HS6.out.lt).trans HS6.out)
              have hbw7 : Below w.heap.size w w7 := by have := HH6.out.below; exact qL
              have hbw8 : Below w.heap.size w w8 := below_grown hbw7 hg8 (fun j hj => by have := hob8 j hj; have := HB2.out.size; omega)
              have hs8 : w2.heap.size ≤ w8.heap.size := by have := hg8.size; have := HH6.out.size; omega
              refine hK2.out _ _ ⟨hblk8⟩ (fun hHeld => ?_)
              clear hK2 K2
              simp only [Act.put, qY]
              have hput : (l.take (k + 1)).foldl Rf.putPage [] = L.take P ++ x :: L.drop P := by
                rw [HTF.out]
                have h1 := HCX.out
                simp only [Rf.putPage, HPO.out]
                rw [if_neg (of_decide_eq_false h1)]
              have hcl : pageCells (L.take P) ++ (x.cells.toList ++ pageCells (L.drop P)) = pageCells (L.take P ++ x :: L.drop P) := by simp [pageCells]
              have H8 : Hid (RefMg w l ga w2.heap.size (k + 1) cur v8 w8) := hid ⟨by
                rw [hput, ← hcl]
                have e : P + (1 + (m - P)) = (L.take P ++ x :: L.drop P).length := by simp [HM.out.1]; omega
                rw [← e]
                exact hown8, hblk8, hbw8, hs8⟩
              clear hown7 hg7 hb7 ho1 hown8 hg8 hob8 hblk8 hbw7 hbw8 hs8 hput hcl hkeep hb6 hx1 hsz7
              refine qS [13] ?_
              refine qT ?_; simp only [Act.put, qY]
              refine TakeSeq.done ?_
              refine qD ?_ _
              go_wp2_with fail
              exact ⟨⟨k + 1, by simp, by omega, H8⟩, by simp [intOf]; omega⟩
      · have b1 : decide ((k : Int) < n) = false := by simp; omega
        go_wp2_with fail
        refine bodyPost_ret (results_tmp rfl _ _ _) rfl ⟨u5, rfl, HRES.out _ _ ?_, HR.out.below⟩
        have h1 := HR.out.own
        rw [List.take_of_length_le (by have := HNL.out.1; omega)] at h1
        exact h1
end Go.Proofs.YtcoiehgcfjfhaaaGreatDoor
