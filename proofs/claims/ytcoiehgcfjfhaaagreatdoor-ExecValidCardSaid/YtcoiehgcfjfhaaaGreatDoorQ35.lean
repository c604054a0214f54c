/- bodegaref26.EpochNext of kind 3 (advance) over nodes without a pin. -/
import Derived.Test.YtcoiehgcfjfhaaaGreatDoorQ34
import Derived.Test.YtcoiehgcfjfhaaaGreatDoorQ13
set_option linter.all false
set_option maxRecDepth 20000
set_option maxHeartbeats 8000000
open Go.Lib (hid)
namespace Go.Proofs.YtcoiehgcfjfhaaaGreatDoor
open Go.RowKit
structure EpReady (ps : List Bt.Page) (h0 ep : Int) (hd sg ic : Nat → Int) : Prop where
  top : Bt.latest ps 97 = some (epochPage h0 ep)
  free : h0 % 256 = 0
  okh : 0 ≤ h0 ∧ h0 < 18446744073709551616
  oke : 0 ≤ ep ∧ ep + 1 < 4294967295
  own : ∀ c : Nat, c < 6 → Bt.latest ps (98 + c) = some (ownPage (98 + c) (hd c) (sg c) (ic c))
  num : ∀ c : Nat, c < 6 → hd c % 256 = 0 ∧ (0 ≤ hd c ∧ hd c < 18446744073709551616) ∧ (0 ≤ sg c ∧ sg c ≤ 511) ∧ (0 ≤ ic c ∧ ic c ≤ 59)
def askLines (k : Nat) : List Int := 97 :: ownLines k
theorem askLines_succ (k : Nat) : intCells (askLines (k + 1)) = intCells (askLines k) ++ [.int .i64 (98 + k)] := by
  show Value.int .i64 97 :: intCells (ownLines (k + 1)) = _
  rw [ownLines_succ]; rfl
def ownPages (hd sg ic : Nat → Int) (k : Nat) : List Bt.Page := (List.range k).map (fun c : Nat => ownPage (98 + c) (hd c) (sg c) (ic c))
def ndCells (sg ic : Nat → Int) (k : Nat) : List Value := (List.range k).flatMap (fun c => (ownCells (sg c) (ic c)).toList)
theorem own_apart {w : World} {b1 b2 s1 s2 n1 n2 : Nat} {e1 e2 : TypeId} {v1 v2 : Value} {x1 x2 : List Value} (h1 : w.ownsRow b1 e1 s1 v1 n1 x1) (h2 : w.ownsRow b2 e2 s2 v2 n2 x2) (hne : e1 ≠ e2) : v1.ownBlock = none ∨ v1.ownBlock ≠ v2.ownBlock := by
  rcases h1.2 with ⟨rfl, _⟩ | ⟨g, cap, cur, rfl, _, hh, _⟩
  · exact .inl rfl
  · right
    rcases h2.2 with ⟨rfl, _⟩ | ⟨g2, cap2, cur2, rfl, _, hh2, _⟩
    · simp [Value.ownBlock]
    · intro e
      simp [Value.ownBlock] at e
      subst e
      rw [hh2] at hh
      injection hh with hh
      injection hh with _ hh
      exact hne hh.symm
theorem pgrow_aside {w : World} {b n c : Nat} {l : List Bt.Page} (h : PgRow w (.slice (some ⟨b, 0, none⟩) n c) l) {p : Addr} (hp : b ≠ p.block) (v : Value) : PgRow (w.setCell p v) (.slice (some ⟨b, 0, none⟩) n c) l := by
  refine ⟨h.ok, h.len, ?_⟩
  rcases h.form with ⟨h1, _⟩ | ⟨b', cap, hv, hlt, hcells⟩
  · cases h1
  · cases hv
    exact .inr ⟨b, _, rfl, by simpa [World.setCell] using hlt, fun i q hi j u hu => (World.cell?_of_block (a := ⟨b, i * 9 + j, none⟩) (heap_setCell_other w p b v hp)).trans (hcells i q hi j u hu)⟩
theorem infoNode : (Tryz.prog.info? 121).map (fun i => (i.zero, i.size, i.bytes)) = some (some (.agg (ownCells 0 0)), 16, 120) := by kernel_rfl
theorem ownPages_succ (hd sg ic : Nat → Int) (j : Nat) : pageCells (ownPages hd sg ic (j + 1)) = pageCells (ownPages hd sg ic j) ++ (ownPage (98 + j) (hd j) (sg j) (ic j)).cells.toList := by
  simp [ownPages, pageCells, List.range_succ]
theorem ndCells_succ (sg ic : Nat → Int) (j : Nat) : ndCells sg ic (j + 1) = ndCells sg ic j ++ (ownCells (sg j) (ic j)).toList := by
  simp [ndCells, List.range_succ]
theorem refEpochNext_3 (ps : List Bt.Page) (v : Value) (h0 ep : Int) (hd sg ic : Nat → Int) (w : World) (hk : PgRow w v ps) (hsm : ps.length ≤ 1000000) (hE : EpReady ps h0 ep hd sg ic) :
    Calls Tryz.prog 84 #[.agg #[.int .i64 3, .int .i64 0, .int .i64 0, .int .i64 0, .int .i64 0, .slice none 0 0], v] w (AdvPost h0 (ep + 1) w) := by
  obtain ⟨i0, hi, hz0, hz1, hz2⟩ := info_parts infoInt
  have HEA := hid (fun W => epochArgs3 W)
  have HM := hid (fun W (lines : List Int) vl (hb : Below w.heap.size w W) a b c => missing_none ps v lines vl W (hk.below hb) hsm a b c)
  obtain ⟨i1, hi1, hy0, hy1, hy2⟩ := info_parts infoPage
  obtain ⟨i2, hi2, hx0, hx1, hx2⟩ := info_parts infoNode
  have HLT : Hid (∀ W, Below w.heap.size w W → Calls Tryz.prog 46 #[v, .int .i64 97] W fun e w' => e = .returned (.tuple #[.agg (epochPage h0 ep).cells, .bool true]) ∧ Below W.heap.size W w') := hid (fun W hb => by
    have h := refLatest_any ps v 97 W (hk.below hb) hsm
    rw [show foundPage ps 97 = epochPage h0 ep by simp [foundPage, hE.top], hE.top] at h
    exact h)
  have HLK : Hid (∀ W, Calls Tryz.prog 47 #[.agg (epochPage h0 ep).cells] W fun e w' => e = .returned (.bool false) ∧ Below W.heap.size W w') := hid (fun W => by
    have h := refLocked_any (epochPage h0 ep) ⟨hE.okh, by simp [epochPage]; have := hE.oke; omega, by simp [epochPage], by simp [epochPage], by simp [epochPage], by simp [epochPage], by simp [epochPage], by simp [epochPage]⟩ W
    rw [show Bt.locked (epochPage h0 ep) = false by simp [Bt.locked, epochPage, hE.free]] at h
    exact h)
  have HRE := hid (fun W => refReadEpoch_ok h0 ep (by have := hE.oke; omega) W)
  have HLTj : Hid (∀ (j : Nat), j < 6 → ∀ W, Below w.heap.size w W → Calls Tryz.prog 46 #[v, .int .i64 (98 + j)] W fun e w' => e = .returned (.tuple #[.agg (ownPage (98 + j) (hd j) (sg j) (ic j)).cells, .bool true]) ∧ Below W.heap.size W w') := hid (fun j hj W hb => by
    have h := refLatest_any ps v (98 + j) W (hk.below hb) hsm
    rw [show foundPage ps (98 + j) = ownPage (98 + j) (hd j) (sg j) (ic j) by simp [foundPage, hE.own j hj], hE.own j hj] at h
    exact h)
  have HLKj : Hid (∀ (j : Nat), j < 6 → ∀ W, Calls Tryz.prog 47 #[.agg (ownPage (98 + j) (hd j) (sg j) (ic j)).cells] W fun e w' => e = .returned (.bool false) ∧ Below W.heap.size W w') := hid (fun j hj W => by
    obtain ⟨n1, n2, n3, n4⟩ := hE.num j hj
    have h := refLocked_any (ownPage (98 + j) (hd j) (sg j) (ic j)) ⟨n2, by simp [ownPage], by simp [ownPage]; omega, by simp [ownPage]; omega, by simp [ownPage], by simp [ownPage], by simp [ownPage], by simp [ownPage]⟩ W
    rw [show Bt.locked (ownPage (98 + j) (hd j) (sg j) (ic j)) = false by simp [Bt.locked, ownPage, n1]] at h
    exact h)
  have HRNj : Hid (∀ (j : Nat), j < 6 → ∀ W, Calls Tryz.prog 79 #[.agg (ownPage (98 + j) (hd j) (sg j) (ic j)).cells] W fun e w' => e = .returned (.tuple #[.agg (ownCells (sg j) (ic j)), .int .i64 0]) ∧ Below W.heap.size W w') := hid (fun j hj W => by
    obtain ⟨n1, n2, n3, n4⟩ := hE.num j hj
    exact refReadNode_own (98 + j) (hd j) (sg j) (ic j) (by omega) (by omega) n3 n4 W)
  unfold epochPage at HLT HLK HRE
  unfold ownPage at HLTj HLKj HRNj
  unfold Bt.Page.cells at HLT HLK HRE HLTj HLKj HRNj
  unfold ownCells at HRNj
  simp only at HLT HLK HRE HLTj HLKj HRNj
  have HEE := hid hE
  have HKK := hid hk
  obtain ⟨pv, cv, rfl⟩ := hk.shape
  obtain ⟨nv, hnv⟩ : ∃ n, ps.length = n := ⟨_, rfl⟩
  rw [hnv] at HM HKK HLT HLTj ⊢
  clear hk hE hnv
  go_enter Tryz.func84, Tryz.ntmps84
  go_wp2_with fail
  go_at_call 127; refine (HEA.out _).mono ?_; rintro e w1 ⟨rfl, hb1⟩; ((obtain ⟨hc1, hf1, hs1⟩ := qR hb1); (try have := qN0 w w1); (try have := qN1 w w1))
  go_wp2_with (at_builtin; refine halt ?_)
  refine unhalt ?_
  have KO : Blk w1 w.heap.size 138 #[.int .i64 3, .int .i64 0, .int .i64 0, .int .i64 0, .int .i64 0, .slice none 0 0] := (((Blk.made w _ _).alloc _).kept hb1)
  have KS : Blk w1 (w.heap.size + 1) 201 #[.slice none 0 0, .slice none 0 0, .int .i64 0, .int .u32 0, .int .i64 0, .slice none 0 0, .slice none 0 0, .bool false, .bool false] := (Blk.made' (by simp)).kept hb1
  have hbw : Below w.heap.size w w1 := qL
  have hlt : w.heap.size + 1 < w1.heap.size := KS.lt
  have HX := hid (And.intro KO (And.intro KS hbw))
  clear KO KS hbw hb1 hc1 hf1 hs1
  refine wpList_append_mine rfl (.tmp 36) (.tmp 37) 23 rfl w1.heap.size 3 i0 _ 1 8 Tryz.underlying23 hi hz0 hz1 hz2 rfl (by decide) (.slice none 0 0) 0 [] rfl (World.ownsRow_nil _ _ _ _) ⟨w1.heap.size, 0, none⟩ 1 1
    [.int .i64 97] rfl rfl (one_news (u := .int .i64 97) ((Blk.made w1 _ _).cell 0)) (by intro u hu; simp at hu; subst hu; rfl) (by omega) (by unfold maxLen; omega) (by omega) (by simp) ?_
  intro g3 cap3 w3 hown3 hg3
  have hL3 : Below w1.heap.size w1 w3 := below_grown (w := w1) qL hg3 (fun j hj => by cases hj)
  have hown3 : w3.ownsRow w1.heap.size 3 1 (.slice (some ⟨g3, 0, none⟩) 1 cap3) 1 (intCells (askLines 0)) := hown3
  have H3 := hid (And.intro hown3 hL3)
  have KO := HX.out.1.kept hL3
  have ko := KO.cell
  have hs3 : w1.heap.size ≤ w3.heap.size := hL3.size
  clear KO hown3 hL3 hg3
  go_wp2_with fail
  clear ko
  go_loopw [5, 6] (fun x y wr => ∃ (k : Nat), y = .int .i64 k ∧ k ≤ 6 ∧ Hid (wr.ownsRow w1.heap.size 3 1 x (k + 1) (intCells (askLines k)) ∧ Below w1.heap.size w1 wr)) (fun _ y _ => (6 - intOf y).toNat)
  case atStart => exact ⟨0, rfl, by omega, H3⟩
  case round =>
    obtain ⟨k, rfl, hk, HR⟩ := hrel
    have hsr : w1.heap.size ≤ wr.heap.size := HR.out.2.size
    by_cases hk2 : k < 6
    · have b1 : decide ((k : Int) < 6) = true := by simp; omega
      go_wp2_with (at_builtin; refine halt ?_)
      refine unhalt ?_
      refine wpList_append_mine rfl (.tmp 53) (.tmp 56) 23 rfl w1.heap.size 3 i0 _ 1 8 Tryz.underlying23 hi hz0 hz1 hz2 rfl (by decide) _ (k + 1) (intCells (askLines k)) rfl
        (own_below HR.out.1 (below_alloc (Below.refl _ _) _)) ⟨wr.heap.size, 0, none⟩ 1 1
        [.int .i64 (98 + k)] rfl rfl (one_news (u := .int .i64 (98 + k)) ((Blk.made wr _ _).cell 0)) (by intro u hu; simp at hu; subst hu; rfl) (by omega) (by unfold maxLen; omega) (by omega) (by simp; omega) ?_
      intro g3 cap3 w4 hown4 hg4
      have hL4 : Below w1.heap.size w1 w4 := below_grown (w := w1) (by have hbw := HR.out.2; exact qL) hg4 (fun j hj => by have := own_row_ge HR.out.1 j hj; omega)
      rw [← askLines_succ] at hown4
      have H4 := hid (And.intro hown4 hL4)
      clear hown4 hL4 hg4
      go_wp2_with fail
      refine ⟨⟨k + 1, by simp, by omega, H4⟩, by simp [intOf]; omega⟩
    · have b1 : decide ((k : Int) < 6) = false := by simp; omega
      obtain rfl : k = 6 := by omega
      have KO := HX.out.1.kept HR.out.2
      have ko := KO.cell
      clear KO
      go_wp2_with fail
      go_at_call 42; refine (HM.out _ (askLines 6) _ (by have h1 := HX.out.2.2; have h2 := HR.out.2; exact qL) (IRow.of_own HR.out.1 (by simp [askLines, ownLines])) (by simp [askLines, ownLines]) ?ha2).mono ?_
      case ha2 =>
        intro x hx
        simp only [askLines, List.mem_cons] at hx
        rcases hx with rfl | hx
        · rw [HEE.out.top]; rfl
        · obtain ⟨s, hs, rfl⟩ : ∃ s : Nat, s < 6 ∧ 98 + (s : Int) = x := by simpa [ownLines] using hx
          rw [HEE.out.own s hs]; rfl
      rintro e w5 ⟨rfl, hb5⟩
      have hask := own_below HR.out.1 hb5
      have hL5 : Below w1.heap.size w1 w5 := by have h1 := HR.out.2; exact qL
      have H5 := hid (And.intro hask hL5)
      have hs5 : w1.heap.size ≤ w5.heap.size := hL5.size
      obtain ⟨gA, cA, rfl⟩ : ∃ g c, u5 = .slice (some ⟨g, 0, none⟩) 7 c := by
        rcases hask.2 with ⟨_, h0⟩ | ⟨g, c, cur, h, _⟩
        · simp at h0
        · exact ⟨g, c, h⟩
      have hgA : gA < w5.heap.size := (own_lt hask).2
      have HCA : Hid (∀ (i : Nat) u, (intCells (askLines 6))[i]? = some u → w5.cell? ⟨gA, i, none⟩ = some u) := hid (own_cells hask)
      clear hask hL5 hb5 HR ko
      go_wp2_with fail
      go_loopw [8, 9, 10, 11] (fun x y z i wr => ∃ (k : Nat) (l : Int), i = .int .i64 k ∧ k ≤ 7 ∧ x = .int .u32 l ∧ Hid ((0 < k → l = ep) ∧ wr.ownsRow w5.heap.size 75 9 y (k - 1) (pageCells (ownPages hd sg ic (k - 1))) ∧ wr.ownsRow w5.heap.size 121 16 z (k - 1) (ndCells sg ic (k - 1)) ∧ Below w5.heap.size w5 wr)) (fun _ _ _ i _ => (7 - intOf i).toNat)
      case atStart => exact ⟨0, 0, rfl, by omega, rfl, hid ⟨by omega, World.ownsRow_nil _ _ _ _, World.ownsRow_nil _ _ _ _, Below.refl _ _⟩⟩
      case round =>
        obtain ⟨k, l, rfl, hk, rfl, HR⟩ := hrel
        have hsr : w5.heap.size ≤ wr.heap.size := HR.out.2.2.2.size
        have hgr : gA < wr.heap.size := by omega
        have hcell : ∀ (i : Nat) u, (intCells (askLines 6))[i]? = some u → wr.cell? ⟨gA, i, none⟩ = some u := fun i u hu => by rw [HR.out.2.2.2.cell (p := ⟨gA, i, none⟩) hgA]; exact HCA.out i u hu
        have hL1 : Below w1.heap.size w1 wr := by have h1 := H5.out.2; have h2 := HR.out.2.2.2; exact qL
        have KO := HX.out.1.kept hL1
        have ko := KO.cell
        have hbw : Below w.heap.size w wr := by have h1 := HX.out.2.2; exact qL
        have HB := hid (And.intro hbw hL1)
        have hlw : w.heap.size < wr.heap.size := by omega
        clear KO hL1 hbw
        by_cases hk2 : k < 7
        · have b1 : decide ((k : Int) < 7) = true := by simp; omega
          have j2 : decide ((k : Int) < 0) = false := by simp
          have j4 : (0 : Int) ≤ k := by omega
          have j5 : (k : Int) < 7 := by omega
          rcases Nat.eq_zero_or_pos k with rfl | hk0
          · have c0 : wr.cell? ⟨gA, 0, none⟩ = some (.int .i64 97) := hcell 0 _ rfl
            clear hcell
            go_wp2_with fail
            go_at_call 46; refine (HLT.out _ HB.out.1).mono ?_; rintro e w6 ⟨rfl, hb6⟩; ((obtain ⟨hc6, hf6, hs6⟩ := qR hb6); (try have := qN0 wr w6))
            have hgr6 : gA < w6.heap.size := by omega
            go_wp2_with fail
            go_at_call 47; refine (HLK.out _).mono ?_; rintro e w7 ⟨rfl, hb7⟩; ((obtain ⟨hc7, hf7, hs7⟩ := qR hb7); (try have := qN0 wr w7); (try have := qN0 w6 w7))
            have hgr7 : gA < w7.heap.size := by omega
            go_wp2_with fail
            go_at_call 129; refine (HRE.out _).mono ?_; rintro e w8 ⟨rfl, hb8⟩; ((obtain ⟨hc8, hf8, hs8⟩ := qR hb8); (try have := qN0 wr w8); (try have := qN0 w6 w8); (try have := qN0 w7 w8))
            go_wp2_with fail
            have hb : Below wr.heap.size wr w8 := qL
            exact ⟨⟨1, ep, rfl, by omega, rfl, hid ⟨fun _ => rfl, own_below HR.out.2.1 hb, own_below HR.out.2.2.1 hb, by have h1 := HR.out.2.2.2; exact qL⟩⟩, by simp [intOf]⟩
          · obtain ⟨j, rfl⟩ : ∃ j, k = j + 1 := ⟨k - 1, by omega⟩
            have c0 : wr.cell? ⟨gA, j + 1, none⟩ = some (.int .i64 (98 + j)) := hcell (j + 1) _ (by
              show (Value.int .i64 97 :: intCells (ownLines 6))[j + 1]? = _
              rw [List.getElem?_cons_succ]
              simp [intCells, ownLines, List.getElem?_map, List.getElem?_range (show j < 6 by omega)])
            clear hcell
            go_wp2_with fail
            obtain rfl := HR.out.1 (by omega)
            have hj : j < 6 := by omega
            go_at_call 46; refine (HLTj.out j hj _ HB.out.1).mono ?_; rintro e w6 ⟨rfl, hb6⟩; ((obtain ⟨hc6, hf6, hs6⟩ := qR hb6); (try have := qN0 wr w6))
            have hgr6 : gA < w6.heap.size := by omega
            have q97 : decide ((98 : Int) + j = 97) = false := by simp; omega
            go_wp2_with fail
            go_at_call 47; refine (HLKj.out j hj _).mono ?_; rintro e w7 ⟨rfl, hb7⟩; ((obtain ⟨hc7, hf7, hs7⟩ := qR hb7); (try have := qN0 wr w7); (try have := qN0 w6 w7))
            have hgr7 : gA < w7.heap.size := by omega
            go_wp2_with fail
            go_at_call 79; refine (HRNj.out j hj _).mono ?_; rintro e w8 ⟨rfl, hb8⟩; ((obtain ⟨hc8, hf8, hs8⟩ := qR hb8); (try have := qN0 wr w8); (try have := qN0 w6 w8); (try have := qN0 w7 w8))
            go_wp2_with (at_builtin; refine halt ?_)
            refine unhalt ?_
            have hb : Below wr.heap.size wr ((w8.alloc (.cells #[.bool false, .int .u32 0, .int .u32 (sg j), .int .i64 (ic j), .int .i64 0, .int .i64 0, .int .u32 0, .int .i64 0, .int .i64 0, .int .u32 0, .int .i64 0, .int .i64 0, .int .u32 0, .int .i64 0, .int .i64 0, .int .u32 0] 121)).alloc (.cells #[.int .i64 (98 + j), .int .u64 (hd j), .int .u64 0, .int .u64 (sg j), .int .u64 (ic j), .int .u64 0, .int .u64 0, .int .u64 0, .int .u64 0] 75)) := qL
            have hP := own_below HR.out.2.1 hb
            have hN := own_below HR.out.2.2.1 hb
            have hrow := own_lt' HR.out.2.1
            have BN := (Blk.made w8 121 #[.bool false, .int .u32 0, .int .u32 (sg j), .int .i64 (ic j), .int .i64 0, .int .i64 0, .int .u32 0, .int .i64 0, .int .i64 0, .int .u32 0, .int .i64 0, .int .i64 0, .int .u32 0, .int .i64 0, .int .i64 0, .int .u32 0]).alloc (.cells #[.int .i64 (98 + j), .int .u64 (hd j), .int .u64 0, .int .u64 (sg j), .int .u64 (ic j), .int .u64 0, .int .u64 0, .int .u64 0, .int .u64 0] 75)
            refine wpList_append_mine rfl (.tmp 133) (.tmp 135) 42 rfl w5.heap.size 75 i1 _ 9 72 Tryz.underlying42 hi1 hy0 hy1 hy2 rfl (by decide) u9 j (pageCells (ownPages hd sg ic j)) rfl
              hP ⟨w8.heap.size + 1, 0, none⟩ 1 1 (ownPage (98 + j) (hd j) (sg j) (ic j)).cells.toList rfl rfl (nine_news (cs := (ownPage (98 + j) (hd j) (sg j) (ic j)).cells) (Blk.made' (by simp)))
              (by intro u hu; simp [ownPage, Bt.Page.cells] at hu; rcases hu with rfl | rfl | rfl | rfl | rfl | rfl <;> rfl) (by omega) (by unfold maxLen; omega) (by omega) (by simp; omega) ?_
            intro g9 cap9 w9 hown9 hg9
            rw [← ownPages_succ] at hown9
            have hN9 := hN.kept hg9 (own_apart hN hP (by decide))
            have hb9 : Below w5.heap.size w5 w9 := below_grown (w := w5) (by have h1 := HR.out.2.2.2; exact qL) hg9 (fun q hq => own_row_ge HR.out.2.1 q hq)
            have BN9 := BN.grown hg9 (fun e => by have := hrow _ e.symm; omega)
            have hs9 : w8.heap.size < w9.heap.size := BN9.lt
            have kn9 := BN9.cell
            have H9 := hid (And.intro hown9 (And.intro hN9 hb9))
            clear hb hP hN hrow BN hown9 hN9 hb9 BN9 hg9
            go_wp2_with (at_builtin; refine halt ?_)
            refine unhalt ?_
            refine wpList_append_mine rfl (.tmp 137) (.tmp 139) 253 rfl w5.heap.size 121 i2 _ 16 120 Tryz.underlying253 hi2 hx0 hx1 hx2 rfl (by decide) u10 j (ndCells sg ic j) rfl
              (own_below H9.out.2.1 (below_alloc (Below.refl _ _) _)) ⟨w9.heap.size, 0, none⟩ 1 1 (ownCells (sg j) (ic j)).toList rfl rfl (nine_news (cs := ownCells (sg j) (ic j)) (Blk.made' rfl))
              (by intro u hu; simp only [ownCells, List.mem_cons, List.not_mem_nil, or_false] at hu; repeat (rcases hu with rfl | hu; · rfl)) (by omega) (by unfold maxLen; omega) (by omega) (by simp; have := H9.out.2.2.size; omega) ?_
            intro g10 cap10 w10 hown10 hg10
            rw [← ndCells_succ] at hown10
            have hP10 := (own_below H9.out.1 (below_alloc (Below.refl w9.heap.size w9) (.cells (ownCells (sg j) (ic j)) 121))).kept hg10 (own_apart H9.out.1 H9.out.2.1 (by decide))
            have hb10 : Below w5.heap.size w5 w10 := below_grown (w := w5) (below_alloc H9.out.2.2 _) hg10 (fun q hq => own_row_ge H9.out.2.1 q hq)
            have H10 := hid (And.intro hP10 (And.intro hown10 hb10))
            clear hown10 hP10 hb10 hg10
            go_wp2_with fail
            exact ⟨⟨j + 1 + 1, _, by simp, by omega, rfl, hid ⟨fun _ => rfl, H10.out.1, H10.out.2.1, H10.out.2.2⟩⟩, by simp [intOf]; omega⟩
        · have b1 : decide ((k : Int) < 7) = false := by simp; omega
          obtain rfl : k = 7 := by omega
          clear hcell
          go_wp2_with fail
          obtain rfl := HR.out.1 (by omega)
          obtain ⟨gN, cN, rfl⟩ : ∃ g c, u10 = .slice (some ⟨g, 0, none⟩) 6 c := by
            rcases HR.out.2.2.1.2 with ⟨_, h0⟩ | ⟨g, c, cur, h, _⟩
            · simp at h0
            · exact ⟨g, c, h⟩
          have hnc : ∀ c : Nat, c < 6 → wr.cell? ⟨gN, c * 16, none⟩ = some (.bool false) := fun c hc => own_cells HR.out.2.2.1 _ _ (by
            have h6 : c = 0 ∨ c = 1 ∨ c = 2 ∨ c = 3 ∨ c = 4 ∨ c = 5 := by omega
            rcases h6 with rfl | rfl | rfl | rfl | rfl | rfl <;> rfl)
          have hgN : gN < wr.heap.size := (own_lt HR.out.2.2.1).2
          have KS := HX.out.2.1.kept HB.out.2
          go_at_call 130
          refine (refAdvance_ok ps (.slice pv nv cv) l h0 gN cN _ (HKK.out.below (by have h1 := HB.out.1; exact qL)) hsm HEE.out.top HEE.out.oke HEE.out.okh (by simp; omega)
            (fun c hc => by rw [(below_alloc (Below.refl wr.heap.size wr) _).cell (p := ⟨gN, c * 16, none⟩) hgN]; exact hnc c hc)).mono ?_
          rintro e w6 ⟨vw, pc, nc, cc, rfl, hpg, ⟨b6, c6, rfl, hb6⟩, hbl6⟩
          have KS := (KS.alloc _).kept hbl6
          have hbw : Below w.heap.size w w6 := by have h1 := HB.out.1; exact qL
          have hbb : w.heap.size + 1 < b6 := by simp at hb6; omega
          have hls := KS.lt
          have ks := KS.cell
          have fs := KS.free
          have H6 := hid (And.intro hbw (And.intro KS (And.intro hpg hbb)))
          clear KS hbw hbb hpg hbl6 hb6
          go_wp2_with fail
          refine bodyPost_ret (results_b rfl _ _ (w.heap.size + 1) _ _ _ rfl (Blk.cast (((((((((H6.out.2.1.put 0 _).put 1 _).put 2 _).put 3 _).put 4 _).put 5 _).put 6 _).put 7 _).put 8 _) rfl) Tryz.underlying201 rfl (by kernel_rfl)) rfl ⟨_, _, _, _, rfl, ?_, ⟨_, _, rfl, ?_⟩, ?_⟩
          · have hn : b6 ≠ w.heap.size + 1 := by have := H6.out.2.2.2; omega
            exact pgrow_aside (pgrow_aside (pgrow_aside (pgrow_aside (pgrow_aside (pgrow_aside (pgrow_aside (pgrow_aside (pgrow_aside H6.out.2.2.1 hn _) hn _) hn _) hn _) hn _) hn _) hn _) hn _) hn _
          · have := H6.out.2.2.2; omega
          · have hl : w.heap.size ≤ w.heap.size + 1 := by omega
            exact ((((((((H6.out.1.setCell hl _).setCell hl _).setCell hl _).setCell hl _).setCell hl _).setCell hl _).setCell hl _).setCell hl _).setCell hl _
theorem infoStm : (Tryz.prog.info? 54).map (fun i => (i.zero, i.size, i.bytes)) = some (some (.agg (Sq.zero 0).arr), 12, 88) := by kernel_rfl
theorem infoRst : (Tryz.prog.info? 62).map (fun i => (i.zero, i.size, i.bytes)) = some (some (.agg (Sq.zero 0).arr), 12, 88) := by kernel_rfl
def stmCells (l : List Sq.St) : List Value := l.flatMap (fun s => s.arr.toList)
theorem stc_at : ∀ (l : List Sq.St) (i j : Nat), j < 12 → (stmCells l)[i * 12 + j]? = (l[i]?).bind (fun s => s.arr[j]?) := by
  intro l
  induction l with
  | nil => intro i j hj; simp [stmCells]
  | cons s l ih =>
    intro i j hj
    have hl : s.arr.toList.length = 12 := by simp [Sq.St.arr]
    have e : stmCells (s :: l) = s.arr.toList ++ stmCells l := rfl
    rw [e]
    rcases i with _ | i
    · rw [List.getElem?_append_left (by omega)]
      simp
    · rw [List.getElem?_append_right (by omega), hl, show (i + 1) * 12 + j - 12 = i * 12 + j by omega, ih i j hj]
      simp
theorem stc_one (l : List Sq.St) : ∀ u ∈ stmCells l, u.oneCell' = true := by
  intro u hu
  simp only [stmCells, List.mem_flatMap] at hu
  obtain ⟨s, _, hs⟩ := hu
  simp [Sq.St.arr] at hs
  rcases hs with rfl | rfl | rfl | rfl | rfl | rfl | rfl | rfl | rfl | rfl | rfl | rfl <;> rfl
theorem own_stm {w : World} {B n : Nat} {e : TypeId} {v : Value} {l : List Sq.St} (h : w.ownsRow B e 12 v n (stmCells l)) (hn : l.length = n) (ht : ∀ s ∈ l, s.Typed) : ∃ p c, v = .slice p n c ∧ StmRow w p l := by
  rcases h.2 with ⟨rfl, h0⟩ | ⟨g, c, cur, rfl, _, hg, _⟩
  · subst h0
    exact ⟨none, 0, rfl, ht, .inl (List.length_eq_zero_iff.1 hn)⟩
  · refine ⟨_, c, rfl, ht, .inr ⟨g, 0, rfl, (show Blk w g e cur from hg).lt, fun i s hi j u hu => ?_⟩⟩
    have hj : j < 12 := by have := (Array.getElem?_eq_some_iff.1 hu).1; simpa [Sq.St.arr] using this
    have h1 := own_cells h (i * 12 + j) u (by rw [stc_at l i j hj, hi]; exact hu)
    simpa using h1
def RefPost (l : List Sq.St) (n : Nat) (w : World) (e : Ending) (w' : World) : Prop := (∃ p c, e = .returned (.slice p n c) ∧ StmRow w' p l) ∧ Below w.heap.size w w'
theorem ref_ok (p : Option Addr) (c n : Nat) (l : List Sq.St) (hl : l.length = n) (hn : n ≤ 1000) (w : World) (hr : StmRow w p l) : Calls Tryz.prog 7 #[.slice p n c] w (RefPost l n w) := by
  obtain ⟨i0, hi, hz0, hz1, hz2⟩ := info_parts infoRst
  have HR0 := hid hr
  have HL := hid hl
  clear hr hl
  go_enter Tryz.func7, Tryz.ntmps7
  go_wp2_with fail
  go_loopw [3, 4] (fun o i wr => ∃ (k : Nat), i = .int .i64 k ∧ k ≤ n ∧ Hid (wr.ownsRow w.heap.size 62 12 o k (stmCells (l.take k)) ∧ Below w.heap.size w wr)) (fun _ i _ => ((n : Int) - intOf i).toNat)
  case atStart => exact ⟨0, rfl, by omega, hid ⟨World.ownsRow_nil _ _ _ _, Below.refl _ _⟩⟩
  case round =>
    obtain ⟨k, rfl, hkn, HR⟩ := hrel
    obtain ⟨w2, hw2⟩ : ∃ w2, w2 = wr := ⟨_, rfl⟩
    subst hw2
    by_cases hk : k < n
    · obtain ⟨b, o, hp, hlt, hc⟩ : ∃ b o, p = some ⟨b, o, none⟩ ∧ b < w.heap.size ∧ ∀ (i : Nat) s, l[i]? = some s → ∀ (j : Nat) u, s.arr[j]? = some u → w.cell? ⟨b, o + i * 12 + j, none⟩ = some u := by
        rcases HR0.out.row with h0 | h0
        · subst h0; have := HL.out; simp at this; omega
        · exact h0
      subst hp
      have b1 : decide ((k : Int) < n) = true := by simp; omega
      have wk : IntKind.i64.wrap ((k : Int) + 1) = (k : Int) + 1 := by rw [IntKind.wrap_i64]; omega
      have k4 : decide ((k : Int) < 0) = false := by simp
      have k5 : (0 : Int) ≤ k := by omega
      have k6 : (k : Int) < n := by omega
      obtain ⟨s, hs⟩ : ∃ s, l[k]? = some s := ⟨_, List.getElem?_eq_getElem (by have := HL.out; omega)⟩
      have hcs : ∀ (j : Nat) u, s.arr[j]? = some u → w2.cell? ⟨b, o + k * 12 + j, none⟩ = some u := fun j u hu => (HR.out.2.cell (p := ⟨b, o + k * 12 + j, none⟩) hlt).trans (hc k s hs j u hu)
      have d0 : w2.cell? ⟨b, o + k * 12, none⟩ = some (.int .i64 s.kind) := hcs 0 _ rfl
      have d1 : w2.cell? ⟨b, o + k * 12 + 1, none⟩ = some (.int .u32 s.key) := hcs 1 _ rfl
      have d2 : w2.cell? ⟨b, o + k * 12 + 2, none⟩ = some (.int .u32 s.last) := hcs 2 _ rfl
      have d3 : w2.cell? ⟨b, o + k * 12 + 3, none⟩ = some (.int .i64 s.c0) := hcs 3 _ rfl
      have d4 : w2.cell? ⟨b, o + k * 12 + 4, none⟩ = some (.int .i64 s.c1) := hcs 4 _ rfl
      have d5 : w2.cell? ⟨b, o + k * 12 + 5, none⟩ = some (.int .i64 s.c2) := hcs 5 _ rfl
      have d6 : w2.cell? ⟨b, o + k * 12 + 6, none⟩ = some (.int .i64 s.col) := hcs 6 _ rfl
      have d7 : w2.cell? ⟨b, o + k * 12 + 7, none⟩ = some (.int .i64 s.value) := hcs 7 _ rfl
      have d8 : w2.cell? ⟨b, o + k * 12 + 8, none⟩ = some (.int .i64 s.wcol) := hcs 8 _ rfl
      have d9 : w2.cell? ⟨b, o + k * 12 + 9, none⟩ = some (.int .i64 s.wop) := hcs 9 _ rfl
      have d10 : w2.cell? ⟨b, o + k * 12 + 10, none⟩ = some (.int .i64 s.wval) := hcs 10 _ rfl
      have d11 : w2.cell? ⟨b, o + k * 12 + 11, none⟩ = some (.int .i64 s.limit) := hcs 11 _ rfl
      have hob : b < w2.heap.size := Nat.lt_of_lt_of_le hlt HR.out.2.size
      have hsz : w.heap.size ≤ w2.heap.size := HR.out.2.size
      have HS := hid hs
      clear hcs hs hc
      obtain ⟨pu, cu, hu⟩ := own_shape HR.out.1
      subst hu
      go_wp2_with (at_builtin; refine halt ?_)
      refine unhalt ?_
      have hbx : Below w.heap.size w ((w2.alloc (.cells #[.int .i64 s.kind, .int .u32 s.key, .int .u32 s.last, .int .i64 s.c0, .int .i64 s.c1, .int .i64 s.c2, .int .i64 s.col, .int .i64 s.value, .int .i64 s.wcol, .int .i64 s.wop, .int .i64 s.wval, .int .i64 s.limit] 54)).alloc (.cells #[.int .i64 s.kind, .int .u32 s.key, .int .u32 s.last, .int .i64 s.c0, .int .i64 s.c1, .int .i64 s.c2, .int .i64 s.col, .int .i64 s.value, .int .i64 s.wcol, .int .i64 s.wop, .int .i64 s.wval, .int .i64 s.limit] 62)) := below_alloc (below_alloc HR.out.2 _) _
      have hnw := nine_news (cs := s.arr) (w := (w2.alloc (.cells #[.int .i64 s.kind, .int .u32 s.key, .int .u32 s.last, .int .i64 s.c0, .int .i64 s.c1, .int .i64 s.c2, .int .i64 s.col, .int .i64 s.value, .int .i64 s.wcol, .int .i64 s.wop, .int .i64 s.wval, .int .i64 s.limit] 54)).alloc (.cells #[.int .i64 s.kind, .int .u32 s.key, .int .u32 s.last, .int .i64 s.c0, .int .i64 s.c1, .int .i64 s.c2, .int .i64 s.col, .int .i64 s.value, .int .i64 s.wcol, .int .i64 s.wop, .int .i64 s.wval, .int .i64 s.limit] 62)) (b := w2.heap.size + 1) (t := 62) (Blk.made' (by simp))
      refine wpList_append_mine rfl (.tmp 16) (.tmp 42) 35 rfl w.heap.size 62 i0 _ 12 88 Tryz.underlying35 hi hz0 hz1 hz2 rfl (by decide) (.slice pu k cu) k (stmCells (l.take k)) rfl
        (own_below HR.out.1 (below_alloc (below_alloc (Below.refl _ _) _) _)) ⟨w2.heap.size + 1, 0, none⟩ 1 1 s.arr.toList rfl rfl hnw (by intro u hu; exact stc_one [s] u (by simpa [stmCells] using hu)) (by omega) (by unfold maxLen; omega) (by omega) (by simp; omega) ?_
      intro g3 cap3 w3 hown3 hg3
      have hb3 : Below w.heap.size w w3 := below_grown hbx hg3 (fun j hj => own_row_ge HR.out.1 j hj)
      have H3 : Hid (w3.ownsRow w.heap.size 62 12 (.slice (some ⟨g3, 0, none⟩) (k + 1) cap3) (k + 1) (stmCells (l.take (k + 1))) ∧ Below w.heap.size w w3) := hid ⟨by
        obtain ⟨hlt', he⟩ := List.getElem?_eq_some_iff.1 HS.out
        rw [List.take_succ_eq_append_getElem hlt', he, show stmCells (l.take k ++ [s]) = stmCells (l.take k) ++ s.arr.toList by simp [stmCells]]
        exact hown3, hb3⟩
      clear hown3 hg3 hb3 hbx hnw
      go_wp2_with fail
      exact ⟨⟨k + 1, by simp, by omega, H3⟩, by simp [intOf]; omega⟩
    · have b1 : decide ((k : Int) < n) = false := by simp; omega
      obtain rfl : k = n := by omega
      have hown := HR.out.1
      rw [List.take_of_length_le (by have := HL.out; omega)] at hown
      obtain ⟨p', c', rfl, hrow⟩ := own_stm hown HL.out HR0.out.typed
      have HF := hid hrow
      clear hown hrow
      go_wp2_with fail
      exact bodyPost_ret (results_tmp rfl _ _ _) rfl ⟨⟨p', c', rfl, HF.out⟩, HR.out.2⟩
structure LnRow (w : World) (p : Option Addr) (ls : List Ln) : Prop where
  typed : ∀ l ∈ ls, l.Typed
  row : ls = [] ∨ ∃ b o, p = some ⟨b, o, none⟩ ∧ b < w.heap.size ∧ ∀ (i : Nat) l, ls[i]? = some l → ∀ (j : Nat) u, l.arr[j]? = some u → w.cell? ⟨b, o + i * 9 + j, none⟩ = some u
theorem LnRow.below {w w' : World} {p : Option Addr} {l : List Ln} (h : LnRow w p l) (hb : Below w.heap.size w w') : LnRow w' p l := by
  refine ⟨h.typed, ?_⟩
  rcases h.row with h1 | ⟨b, o, hp, hlt, hc⟩
  · exact .inl h1
  · exact .inr ⟨b, o, hp, Nat.lt_of_lt_of_le hlt hb.size, fun i s hi j u hu => (hb.cell (p := ⟨b, o + i * 9 + j, none⟩) hlt).trans (hc i s hi j u hu)⟩
def accCells (as_ : List Int) : List Value := as_.map (Value.int .i64)
theorem own_acc {w : World} {B n : Nat} {e : TypeId} {v : Value} {l : List Int} (h : w.ownsRow B e 1 v n (accCells l)) (hn : l.length = n) (ht : ∀ a ∈ l, i64ok a) : ∃ p c, v = .slice p n c ∧ AskRow w p l := by
  rcases h.2 with ⟨rfl, h0⟩ | ⟨g, c, cur, rfl, _, hg, _⟩
  · subst h0
    exact ⟨none, 0, rfl, ht, .inl (List.length_eq_zero_iff.1 hn)⟩
  · refine ⟨_, c, rfl, ht, .inr ⟨g, 0, rfl, (show Blk w g e cur from hg).lt, fun i a hi => ?_⟩⟩
    have h1 := own_cells h i (.int .i64 a) (by simp [accCells, hi])
    simpa using h1
def ProgPost (n : Nat) (w : World) (e : Ending) (w' : World) : Prop :=
  (∃ p c pa ca, e = .returned (.tuple #[.slice p n c, .slice pa n ca]) ∧ ∃ (ss : List Sq.St) (as_ : List Int), ss.length = n ∧ as_.length = n ∧ StmRow w' p ss ∧ AskRow w' pa as_ ∧ (∀ b o, p = some ⟨b, o, none⟩ → w.heap.size ≤ b) ∧ ∀ b o, pa = some ⟨b, o, none⟩ → w.heap.size ≤ b) ∧ Below w.heap.size w w'
structure PgAt (n k : Nat) (w : World) (ss : List Sq.St) (as_ : List Int) (u v : Value) (wr : World) : Prop where
  prog : wr.ownsRow w.heap.size 54 12 u k (stmCells ss)
  acc : wr.ownsRow w.heap.size 3 1 v k (accCells as_)
  len : ss.length = k ∧ as_.length = k
  typed : (∀ s ∈ ss, s.Typed) ∧ ∀ a ∈ as_, i64ok a
  below : Below w.heap.size w wr
theorem program_ok (p : Option Addr) (c n : Nat) (ls : List Ln) (access : Int) (hac : i64ok access) (hl : ls.length = n) (hn : n ≤ 10) (w : World) (hr : LnRow w p ls) : Calls Tryz.prog 4 #[.slice p n c, .int .i64 access] w (ProgPost n w) := by
  obtain ⟨i0, hi, hz0, hz1, hz2⟩ := info_parts infoStm
  obtain ⟨i1, hi1, hy0, hy1, hy2⟩ := info_parts infoInt
  have HR0 := hid hr
  have HL := hid hl
  have HST := hid (fun l hl W => statement_ok l hl W)
  obtain ⟨pk, hpk⟩ : ∃ x, pick access 65536 = x := ⟨_, rfl⟩
  have HPK : Hid (∀ W, Calls Tryz.prog 5 #[.int .i64 access, .int .i64 65536] W fun e w' => e = .returned (.int .i64 pk) ∧ W = w') := hid (fun W => by have h := Pick_big access 65536 hac (by omega) W; rwa [hpk] at h)
  have HPR : Hid (0 ≤ pk ∧ pk < 65536) := hid (hpk ▸ pick_range access 65536 (by omega))
  clear hr hl hpk hac
  go_enter Tryz.func4, Tryz.ntmps4
  go_wp2_with fail
  go_loopw [6, 7, 8] (fun u v i wr => ∃ (k : Nat) (ss : List Sq.St) (as_ : List Int), i = .int .i64 k ∧ k ≤ n ∧ Hid (PgAt n k w ss as_ u v wr)) (fun _ _ i _ => ((n : Int) - intOf i).toNat)
  case atStart => exact ⟨0, [], [], rfl, by omega, hid ⟨World.ownsRow_nil _ _ _ _, World.ownsRow_nil _ _ _ _, ⟨rfl, rfl⟩, ⟨by simp, by simp⟩, Below.refl _ _⟩⟩
  case round =>
    obtain ⟨k, ss, as_, rfl, hkn, HR⟩ := hrel
    obtain ⟨w2, hw2⟩ : ∃ w2, w2 = wr := ⟨_, rfl⟩
    subst hw2
    by_cases hk : k < n
    · obtain ⟨b, o, hp, hlt, hc⟩ : ∃ b o, p = some ⟨b, o, none⟩ ∧ b < w.heap.size ∧ ∀ (i : Nat) l, ls[i]? = some l → ∀ (j : Nat) u, l.arr[j]? = some u → w.cell? ⟨b, o + i * 9 + j, none⟩ = some u := by
        rcases HR0.out.row with h0 | h0
        · subst h0; have := HL.out; simp at this; omega
        · exact h0
      subst hp
      have b1 : decide ((k : Int) < n) = true := by simp; omega
      have wk : IntKind.i64.wrap ((k : Int) + 1) = (k : Int) + 1 := by rw [IntKind.wrap_i64]; omega
      have k4 : decide ((k : Int) < 0) = false := by simp
      have k5 : (0 : Int) ≤ k := by omega
      have k6 : (k : Int) < n := by omega
      obtain ⟨l, hs⟩ : ∃ l, ls[k]? = some l := ⟨_, List.getElem?_eq_getElem (by have := HL.out; omega)⟩
      have hty : l.Typed := HR0.out.typed l (List.mem_of_getElem? hs)
      have hcs : ∀ (j : Nat) u, l.arr[j]? = some u → w2.cell? ⟨b, o + k * 9 + j, none⟩ = some u := fun j u hu => (HR.out.below.cell (p := ⟨b, o + k * 9 + j, none⟩) hlt).trans (hc k l hs j u hu)
      have d0 : w2.cell? ⟨b, o + k * 9, none⟩ = some (.int .i64 l.kind) := hcs 0 _ rfl
      have d1 : w2.cell? ⟨b, o + k * 9 + 1, none⟩ = some (.int .i64 l.key) := hcs 1 _ rfl
      have d2 : w2.cell? ⟨b, o + k * 9 + 2, none⟩ = some (.int .i64 l.last) := hcs 2 _ rfl
      have d3 : w2.cell? ⟨b, o + k * 9 + 3, none⟩ = some (.int .i64 l.col) := hcs 3 _ rfl
      have d4 : w2.cell? ⟨b, o + k * 9 + 4, none⟩ = some (.int .i64 l.op) := hcs 4 _ rfl
      have d5 : w2.cell? ⟨b, o + k * 9 + 5, none⟩ = some (.int .i64 l.limit) := hcs 5 _ rfl
      have d6 : w2.cell? ⟨b, o + k * 9 + 6, none⟩ = some (.int .i64 l.a) := hcs 6 _ rfl
      have d7 : w2.cell? ⟨b, o + k * 9 + 7, none⟩ = some (.int .i64 l.b) := hcs 7 _ rfl
      have d8 : w2.cell? ⟨b, o + k * 9 + 8, none⟩ = some (.int .i64 l.c) := hcs 8 _ rfl
      have hob : b < w2.heap.size := Nat.lt_of_lt_of_le hlt HR.out.below.size
      have hsz : w.heap.size ≤ w2.heap.size := HR.out.below.size
      have HSL : Hid (∀ W, Calls Tryz.prog 11 #[.agg #[.int .i64 l.kind, .int .i64 l.key, .int .i64 l.last, .int .i64 l.col, .int .i64 l.op, .int .i64 l.limit, .int .i64 l.a, .int .i64 l.b, .int .i64 l.c]] W (StmtPost W)) := hid (fun W => HST.out l hty W)
      obtain ⟨pu, cu, hu⟩ := own_shape HR.out.prog
      subst hu
      obtain ⟨pv, cv, hv⟩ := own_shape HR.out.acc
      subst hv
      clear hcs hc hty hs
      go_wp2_with fail
      go_at_call 11
      refine (HSL.out _).mono ?_
      rintro e w3 ⟨⟨s, rfl, hst⟩, hb3⟩
      have HB3 := hid (And.intro hst (below_step HR.out.below hb3))
      have HO3 := hid (And.intro (own_below HR.out.prog hb3) (own_below HR.out.acc hb3))
      have hsz3 : w.heap.size ≤ w3.heap.size := HB3.out.2.size
      clear hst hb3 d0 d1 d2 d3 d4 d5 d6 d7 d8
      unfold Sq.St.arr
      go_wp2_with (at_builtin; refine halt ?_)
      refine unhalt ?_
      have hbx : Below w.heap.size w ((w3.alloc (.cells #[.int .i64 s.kind, .int .u32 s.key, .int .u32 s.last, .int .i64 s.c0, .int .i64 s.c1, .int .i64 s.c2, .int .i64 s.col, .int .i64 s.value, .int .i64 s.wcol, .int .i64 s.wop, .int .i64 s.wval, .int .i64 s.limit] 54)).alloc (.cells #[.int .i64 s.kind, .int .u32 s.key, .int .u32 s.last, .int .i64 s.c0, .int .i64 s.c1, .int .i64 s.c2, .int .i64 s.col, .int .i64 s.value, .int .i64 s.wcol, .int .i64 s.wop, .int .i64 s.wval, .int .i64 s.limit] 54)) := below_alloc (below_alloc HB3.out.2 _) _
      have hnw := nine_news (cs := s.arr) (w := (w3.alloc (.cells #[.int .i64 s.kind, .int .u32 s.key, .int .u32 s.last, .int .i64 s.c0, .int .i64 s.c1, .int .i64 s.c2, .int .i64 s.col, .int .i64 s.value, .int .i64 s.wcol, .int .i64 s.wop, .int .i64 s.wval, .int .i64 s.limit] 54)).alloc (.cells #[.int .i64 s.kind, .int .u32 s.key, .int .u32 s.last, .int .i64 s.c0, .int .i64 s.c1, .int .i64 s.c2, .int .i64 s.col, .int .i64 s.value, .int .i64 s.wcol, .int .i64 s.wop, .int .i64 s.wval, .int .i64 s.limit] 54)) (b := w3.heap.size + 1) (t := 54) (Blk.made' (by simp))
      refine wpList_append_mine rfl (.tmp 21) (.tmp 23) 22 rfl w.heap.size 54 i0 _ 12 88 Tryz.underlying22 hi hz0 hz1 hz2 rfl (by decide) (.slice pu k cu) k (stmCells ss) rfl
        (own_below HO3.out.1 (below_alloc (below_alloc (Below.refl _ _) _) _)) ⟨w3.heap.size + 1, 0, none⟩ 1 1 s.arr.toList rfl rfl hnw (by intro u hu; exact stc_one [s] u (by simpa [stmCells] using hu)) (by omega) (by unfold maxLen; omega) (by omega) (by simp; omega) ?_
      intro g5 cap5 w5 hown5 hg5
      have hb5 : Below w.heap.size w w5 := below_grown hbx hg5 (fun j hj => own_row_ge HO3.out.1 j hj)
      have hac5 := (own_below HO3.out.2 (show Below w3.heap.size w3 ((w3.alloc (.cells #[.int .i64 s.kind, .int .u32 s.key, .int .u32 s.last, .int .i64 s.c0, .int .i64 s.c1, .int .i64 s.c2, .int .i64 s.col, .int .i64 s.value, .int .i64 s.wcol, .int .i64 s.wop, .int .i64 s.wval, .int .i64 s.limit] 54)).alloc (.cells #[.int .i64 s.kind, .int .u32 s.key, .int .u32 s.last, .int .i64 s.c0, .int .i64 s.c1, .int .i64 s.c2, .int .i64 s.col, .int .i64 s.value, .int .i64 s.wcol, .int .i64 s.wop, .int .i64 s.wval, .int .i64 s.limit] 54)) from below_alloc (below_alloc (Below.refl _ _) _) _)).kept hg5 (own_apart HO3.out.2 HO3.out.1 (by decide))
      have BS : Blk w5 w3.heap.size 54 #[.int .i64 s.kind, .int .u32 s.key, .int .u32 s.last, .int .i64 s.c0, .int .i64 s.c1, .int .i64 s.c2, .int .i64 s.col, .int .i64 s.value, .int .i64 s.wcol, .int .i64 s.wop, .int .i64 s.wval, .int .i64 s.limit] := ((Blk.made w3 _ _).alloc _).grown hg5 (fun e => by have h := own_lt' HO3.out.1 _ e.symm; omega)
      have H5 : Hid (w5.ownsRow w.heap.size 54 12 (.slice (some ⟨g5, 0, none⟩) (k + 1) cap5) (k + 1) (stmCells (ss ++ [s])) ∧ w5.ownsRow w.heap.size 3 1 (.slice pv k cv) k (accCells as_) ∧ Below w.heap.size w w5) := hid ⟨by
        rw [show stmCells (ss ++ [s]) = stmCells ss ++ s.arr.toList by simp [stmCells]]
        exact hown5, hac5, hb5⟩
      have ks := BS.cell
      have ls := BS.lt
      clear hown5 hg5 hb5 hbx hnw hac5 BS
      go_upto_region 9 with (fail)
      go_cut [28] from 29 to 41 (fun c wx => ∃ b, c = .bool b ∧ wx = w5)
      case first =>
        cases h6 : (s.kind == 6)
        · cases h7 : (s.kind == 7)
          · cases h8 : (s.kind == 8)
            · go_wp2_with fail
              go_meet
              exact ⟨_, rfl, rfl⟩
            · go_wp2_with fail
              go_meet
              exact ⟨_, rfl, rfl⟩
          · go_wp2_with fail
            go_meet
            exact ⟨_, rfl, rfl⟩
        · go_wp2_with fail
          go_meet
          exact ⟨_, rfl, rfl⟩
      case rest =>
        obtain ⟨sc, rfl, hw⟩ := hcut
        have hw2 := hw.symm
        clear hw
        subst hw2
        cases sc
        · go_upto_region 11 with (fail)
          go_cut [45] from 46 to 52 (fun c wx => ∃ b, c = .bool b ∧ wx = w5)
          case first =>
            go_wp2_with fail
            go_at_call 5; refine (HPK.out _).mono ?_; rintro e w6 ⟨rfl, rfl⟩
            go_wp2_with fail
            go_meet
            exact ⟨_, rfl, rfl⟩
          case rest =>
            obtain ⟨sd, rfl, hw⟩ := hcut
            have hw2 := hw.symm
            clear hw
            subst hw2
            cases sd
            · skip
              go_wp2_with (at_builtin; refine halt ?_)
              refine unhalt ?_
              refine wpList_append_mine rfl (.tmp 25) (.tmp 26) 23 rfl w.heap.size 3 i1 _ 1 8 Tryz.underlying23 hi1 hy0 hy1 hy2 rfl (by decide) (.slice pv k cv) k (accCells as_) rfl (own_below H5.out.2.1 (below_alloc (Below.refl _ _) _)) ⟨w5.heap.size, 0, none⟩ 1 1
                [.int .i64 2] rfl rfl (one_news (u := .int .i64 2) ((Blk.made w5 _ _).cell 0)) (by intro u hu; simp only [List.mem_cons, List.not_mem_nil, or_false] at hu; subst hu; rfl) (by omega) (by unfold maxLen; omega) (by omega) (by have := H5.out.2.2.size; simp; omega) ?_
              intro g7 cap7 w7 hown7 hg7
              have hb7 : Below w.heap.size w w7 := below_grown (below_alloc H5.out.2.2 _) hg7 (fun j hj => own_row_ge H5.out.2.1 j hj)
              have hp7 := (own_below H5.out.1 (below_alloc (Below.refl w5.heap.size w5) (.cells #[.int .i64 2] 3))).kept hg7 (own_apart H5.out.1 H5.out.2.1 (by decide))
              have H7 : Hid (PgAt n (k + 1) w (ss ++ [s]) (as_ ++ [2]) (.slice (some ⟨g5, 0, none⟩) (k + 1) cap5) (.slice (some ⟨g7, 0, none⟩) (k + 1) cap7) w7) := hid ⟨hp7, by rw [show accCells (as_ ++ [2]) = accCells as_ ++ [.int .i64 2] by simp [accCells]]; exact hown7, ⟨by simp [HR.out.len.1], by simp [HR.out.len.2]⟩,
                ⟨by intro y hy; rcases List.mem_append.1 hy with h | h <;> first | exact HR.out.typed.1 y h | (simp only [List.mem_cons, List.not_mem_nil, or_false] at h; subst h; exact HB3.out.1), by intro y hy; rcases List.mem_append.1 hy with h | h <;> first | exact HR.out.typed.2 y h | (simp only [List.mem_cons, List.not_mem_nil, or_false] at h; subst h; unfold i64ok; omega)⟩, hb7⟩
              clear hown7 hg7 hb7 hp7
              go_wp2_with fail
              exact ⟨⟨k + 1, ss ++ [s], as_ ++ [2], by simp, by omega, H7⟩, by simp [intOf]; omega⟩
            · skip
              go_wp2_with (at_builtin; refine halt ?_)
              refine unhalt ?_
              refine wpList_append_mine rfl (.tmp 53) (.tmp 54) 23 rfl w.heap.size 3 i1 _ 1 8 Tryz.underlying23 hi1 hy0 hy1 hy2 rfl (by decide) (.slice pv k cv) k (accCells as_) rfl (own_below H5.out.2.1 (below_alloc (Below.refl _ _) _)) ⟨w5.heap.size, 0, none⟩ 1 1
                [.int .i64 1] rfl rfl (one_news (u := .int .i64 1) ((Blk.made w5 _ _).cell 0)) (by intro u hu; simp only [List.mem_cons, List.not_mem_nil, or_false] at hu; subst hu; rfl) (by omega) (by unfold maxLen; omega) (by omega) (by have := H5.out.2.2.size; simp; omega) ?_
              intro g7 cap7 w7 hown7 hg7
              have hb7 : Below w.heap.size w w7 := below_grown (below_alloc H5.out.2.2 _) hg7 (fun j hj => own_row_ge H5.out.2.1 j hj)
              have hp7 := (own_below H5.out.1 (below_alloc (Below.refl w5.heap.size w5) (.cells #[.int .i64 1] 3))).kept hg7 (own_apart H5.out.1 H5.out.2.1 (by decide))
              have H7 : Hid (PgAt n (k + 1) w (ss ++ [s]) (as_ ++ [1]) (.slice (some ⟨g5, 0, none⟩) (k + 1) cap5) (.slice (some ⟨g7, 0, none⟩) (k + 1) cap7) w7) := hid ⟨hp7, by rw [show accCells (as_ ++ [1]) = accCells as_ ++ [.int .i64 1] by simp [accCells]]; exact hown7, ⟨by simp [HR.out.len.1], by simp [HR.out.len.2]⟩,
                ⟨by intro y hy; rcases List.mem_append.1 hy with h | h <;> first | exact HR.out.typed.1 y h | (simp only [List.mem_cons, List.not_mem_nil, or_false] at h; subst h; exact HB3.out.1), by intro y hy; rcases List.mem_append.1 hy with h | h <;> first | exact HR.out.typed.2 y h | (simp only [List.mem_cons, List.not_mem_nil, or_false] at h; subst h; unfold i64ok; omega)⟩, hb7⟩
              clear hown7 hg7 hb7 hp7
              go_wp2_with fail
              exact ⟨⟨k + 1, ss ++ [s], as_ ++ [1], by simp, by omega, H7⟩, by simp [intOf]; omega⟩
        · skip
          go_wp2_with (at_builtin; refine halt ?_)
          refine unhalt ?_
          refine wpList_append_mine rfl (.tmp 42) (.tmp 43) 23 rfl w.heap.size 3 i1 _ 1 8 Tryz.underlying23 hi1 hy0 hy1 hy2 rfl (by decide) (.slice pv k cv) k (accCells as_) rfl (own_below H5.out.2.1 (below_alloc (Below.refl _ _) _)) ⟨w5.heap.size, 0, none⟩ 1 1
            [.int .i64 3] rfl rfl (one_news (u := .int .i64 3) ((Blk.made w5 _ _).cell 0)) (by intro u hu; simp only [List.mem_cons, List.not_mem_nil, or_false] at hu; subst hu; rfl) (by omega) (by unfold maxLen; omega) (by omega) (by have := H5.out.2.2.size; simp; omega) ?_
          intro g7 cap7 w7 hown7 hg7
          have hb7 : Below w.heap.size w w7 := below_grown (below_alloc H5.out.2.2 _) hg7 (fun j hj => own_row_ge H5.out.2.1 j hj)
          have hp7 := (own_below H5.out.1 (below_alloc (Below.refl w5.heap.size w5) (.cells #[.int .i64 3] 3))).kept hg7 (own_apart H5.out.1 H5.out.2.1 (by decide))
          have H7 : Hid (PgAt n (k + 1) w (ss ++ [s]) (as_ ++ [3]) (.slice (some ⟨g5, 0, none⟩) (k + 1) cap5) (.slice (some ⟨g7, 0, none⟩) (k + 1) cap7) w7) := hid ⟨hp7, by rw [show accCells (as_ ++ [3]) = accCells as_ ++ [.int .i64 3] by simp [accCells]]; exact hown7, ⟨by simp [HR.out.len.1], by simp [HR.out.len.2]⟩,
            ⟨by intro y hy; rcases List.mem_append.1 hy with h | h <;> first | exact HR.out.typed.1 y h | (simp only [List.mem_cons, List.not_mem_nil, or_false] at h; subst h; exact HB3.out.1), by intro y hy; rcases List.mem_append.1 hy with h | h <;> first | exact HR.out.typed.2 y h | (simp only [List.mem_cons, List.not_mem_nil, or_false] at h; subst h; unfold i64ok; omega)⟩, hb7⟩
          clear hown7 hg7 hb7 hp7
          go_wp2_with fail
          exact ⟨⟨k + 1, ss ++ [s], as_ ++ [3], by simp, by omega, H7⟩, by simp [intOf]; omega⟩
    · have b1 : decide ((k : Int) < n) = false := by simp; omega
      obtain rfl : k = n := by omega
      obtain ⟨p', c', rfl, hrow⟩ := own_stm HR.out.prog HR.out.len.1 HR.out.typed.1
      obtain ⟨pa, ca, rfl, hra⟩ := own_acc HR.out.acc HR.out.len.2 HR.out.typed.2
      have HF := hid (And.intro hrow hra)
      have HFR : Hid ((∀ b o, p' = some ⟨b, o, none⟩ → w.heap.size ≤ b) ∧ ∀ b o, pa = some ⟨b, o, none⟩ → w.heap.size ≤ b) := hid ⟨fun b o h => own_row_ge HR.out.prog b (by rw [h]; rfl), fun b o h => own_row_ge HR.out.acc b (by rw [h]; rfl)⟩
      clear hrow hra
      go_wp2_with fail
      exact bodyPost_ret (results_t2 rfl _ _) rfl ⟨⟨p', c', pa, ca, rfl, ss, as_, HR.out.len.1, HR.out.len.2, HF.out.1, HF.out.2, HFR.out.1, HFR.out.2⟩, HR.out.below⟩
def opColl : Value := .agg #[.int .i64 5, .int .i64 0, .int .i64 0, .int .i64 256, .int .i64 0, .slice none 0 0]
theorem refCollect_none (sg ic ep : Int) (page : Bt.Page) (vk : Value) (hvk : ∃ p n c, vk = .slice p n c) (w : World) :
    Calls Tryz.prog 132 #[opColl, .agg (ownCells sg ic), .agg page.cells, .agg #[.int .i64 0, .int .u32 ep, .int .i64 (-1), .slice none 0 0, .slice none 0 0], vk] w fun e w' => ∃ code, e = .returned (.agg (badCells code (-1))) ∧ code ≠ 0 ∧ Below w.heap.size w w' := by
  obtain ⟨pv, nv, cv, rfl⟩ := hvk
  have HBE := hid (fun c b W => badEpoch_ok c b W)
  unfold opColl Bt.Page.cells ownCells
  unfold badCells at HBE ⊢
  go_enter Tryz.func132, Tryz.ntmps132
  go_wp2_with fail
  refine wp_loop_rounds 5 ?_
  rw [rounds_succ]
  go_wp2_with fail
  rw [rounds_succ]
  go_wp2_with fail
  rw [rounds_succ]
  go_wp2_with fail
  rw [rounds_succ]
  go_wp2_with fail
  rw [rounds_succ]
  go_wp2_with fail
  go_at_call 128; refine (HBE.out _ _ _).mono ?_; rintro e w1 ⟨rfl, hb1⟩; ((obtain ⟨hc1, hf1, hs1⟩ := qR hb1); (try have := qN0 w w1); (try have := qN1 w w1); (try have := qN2 w w1); (try have := qN3 w w1); (try have z1_w_4 : w.heap.size + 1 + 1 + 1 + 1 < w1.heap.size := by omega))
  have KS : Blk w1 (w.heap.size + 4) 201 #[.slice none 0 0, .slice none 0 0, .int .i64 0, .int .u32 0, .int .i64 0, .slice none 0 0, .slice none 0 0, .bool false, .bool false] := by
    refine Blk.kept ?_ hb1
    repeat (first | exact Blk.made' (by simp) | refine Blk.alloc ?_ _)
  have hbw : Below w.heap.size w w1 := qL
  have ks := KS.cell
  have fs := KS.free
  have H1 := hid (And.intro hbw KS)
  clear KS hbw hb1
  go_wp2_with fail
  refine bodyPost_ret (results_b rfl _ _ (w.heap.size + 4) _ _ _ rfl (Blk.cast (((((((((H1.out.2.put 0 _).put 1 _).put 2 _).put 3 _).put 4 _).put 5 _).put 6 _).put 7 _).put 8 _) rfl) Tryz.underlying201 rfl (by kernel_rfl)) rfl ⟨16, rfl, by omega, ?_⟩
  have hl : w.heap.size ≤ w.heap.size + 4 := by omega
  exact ((((((((H1.out.1.setCell hl _).setCell hl _).setCell hl _).setCell hl _).setCell hl _).setCell hl _).setCell hl _).setCell hl _).setCell hl _
end Go.Proofs.YtcoiehgcfjfhaaaGreatDoor
