/- bodegaref19.Acquire of the first segment. -/
import Derived.Test.YtcoiehgcfjfhaaaGreatDoorQ17
import Derived.Test.YtcoiehgcfjfhaaaGreatDoorQ14
import Derived.Test.YtcoiehgcfjfhaaaGreatDoorQ16
set_option linter.all false
set_option maxRecDepth 20000
set_option maxHeartbeats 8000000
open Go.Lib (hid)
namespace Go.Proofs.YtcoiehgcfjfhaaaGreatDoor
open Go.RowKit
structure Bare (ps : List Bt.Page) (h1 h2 : Int) : Prop where
  own : Bt.latest ps 98 = some (ownPage 98 h1 0 0)
  seg : Bt.latest ps 104 = some ⟨104, h2, 0, 0, 0, 0, 0, 0, 0⟩
  all : ∀ s, 0 ≤ s → s ≤ 8 → (Bt.latest ps (104 + 16 * s)).isSome = true
  free1 : h1 % 256 = 0
  free2 : h2 % 256 = 0
  ok1 : 0 ≤ h1 ∧ h1 < 18446744073709551616
  ok2 : 0 ≤ h2 ∧ h2 < 18446744073709551616
def segPage (h : Int) (owner : Int) : Bt.Page := ⟨104, h, owner, 0, 0, 0, 0, 0, 0⟩
def AcqPost (h1 h2 : Int) (w : World) (e : Ending) (w' : World) : Prop :=
  ∃ v, e = .returned (.agg #[.slice none 0 0, .slice none 0 0, v, .int .i64 0, .int .i64 0, .bool true]) ∧ PgRow w' v [ownPage 98 h1 1 1, segPage h2 1] ∧ (∀ b a c, v = .slice (some ⟨b, 0, none⟩) a c → w.heap.size ≤ b) ∧ Below w.heap.size w w'
theorem infoInt : (Tryz.prog.info? 3).map (fun i => (i.zero, i.size, i.bytes)) = some (some (.int .i64 0), 1, 8) := by kernel_rfl
def segLines (k : Nat) : List Int := (List.range k).map (fun s : Nat => 104 + 16 * (s : Int))
theorem segLines_succ (k : Nat) : intCells (segLines (k + 1)) = intCells (segLines k) ++ [.int .i64 (104 + 16 * k)] := by
  simp [segLines, intCells, List.range_succ]
theorem PgRow.of_blk {w : World} {b n cap : Nat} {t : TypeId} {l : List Bt.Page} (h : Blk w b t (pageCells l).toArray) (hn : n = l.length) (hok : ∀ p ∈ l, p.Ok) (hl : l.length ≤ maxLen) : PgRow w (.slice (some ⟨b, 0, none⟩) n cap) l := by
  subst hn
  exact ⟨hok, hl, .inr ⟨b, cap, rfl, h.lt, fun i p hi j u hu => by
    have hj : j < 9 := by have := (Array.getElem?_eq_some_iff.1 hu).1; simpa [Bt.Page.cells] using this
    rw [h.cell, List.getElem?_toArray, pgc_at l i j hj, hi]
    exact hu⟩⟩
theorem PgRow.none (w : World) : PgRow w (.slice none 0 0) [] := ⟨(fun p hp => by cases hp), by simp, .inl ⟨rfl, rfl⟩⟩
theorem PgRow.of_row {w : World} {base n : Nat} {v : Value} {l : List Bt.Page} (h : w.ownsRow base 75 9 v n (pageCells l)) (hn : n = l.length) (h0 : 0 < n) (hok : ∀ p ∈ l, p.Ok) (hl : l.length ≤ maxLen) : PgRow w v l := by
  subst hn
  obtain ⟨g, c, rfl, _⟩ := own_pg h rfl (k := 0) h0
  refine ⟨hok, hl, .inr ⟨g, c, rfl, (own_lt h).2, fun i p hi j u hu => own_cells h _ _ ?_⟩⟩
  have hj : j < 9 := by have := (Array.getElem?_eq_some_iff.1 hu).1; simpa [Bt.Page.cells] using this
  rw [pgc_at l i j hj, hi]
  exact hu
theorem acq_merge (h1 h2 : Int) : Rf.merge [] [ownPage 98 h1 1 1, segPage h2 1] = [ownPage 98 h1 1 1, segPage h2 1] := by
  simp [Rf.merge, Rf.putPage, Rf.pos, ownPage, segPage]
theorem acq_ok (h1 h2 : Int) (o1 : 0 ≤ h1 ∧ h1 < 18446744073709551616) (o2 : 0 ≤ h2 ∧ h2 < 18446744073709551616) : ∀ p ∈ [ownPage 98 h1 1 1, segPage h2 1], p.Ok := by
  intro p hp
  simp only [List.mem_cons, List.not_mem_nil, or_false] at hp
  rcases hp with rfl | rfl
  · exact ⟨o1, by simp [ownPage], by simp [ownPage], by simp [ownPage], by simp [ownPage], by simp [ownPage], by simp [ownPage], by simp [ownPage]⟩
  · exact ⟨o2, by simp [segPage], by simp [segPage], by simp [segPage], by simp [segPage], by simp [segPage], by simp [segPage], by simp [segPage]⟩
theorem acquire_ok (ps : List Bt.Page) (v : Value) (h1 h2 : Int) (w : World) (hk : PgRow w v ps) (hsm : ps.length ≤ 1000) (hB : Bare ps h1 h2) :
    Calls Tryz.prog 25 #[.int .i64 0, .int .i64 1, .int .i64 256, .int .i64 (-1), v] w (AcqPost h1 h2 w) := by
  obtain ⟨i0, hi, hz0, hz1, hz2⟩ := info_parts infoInt
  have HCL := hid (fun W => refClient_0 W)
  have HM := hid (fun W (lines : List Int) vl (hb : Below w.heap.size w W) a b c => missing_none ps v lines vl W (hk.below hb) (by omega) a b c)
  have okO : (ownPage 98 h1 0 0).Ok := ⟨hB.ok1, by simp [ownPage], by simp [ownPage], by simp [ownPage], by simp [ownPage], by simp [ownPage], by simp [ownPage], by simp [ownPage]⟩
  have okS : (segPage h2 0).Ok := ⟨hB.ok2, by simp [segPage], by simp [segPage], by simp [segPage], by simp [segPage], by simp [segPage], by simp [segPage], by simp [segPage]⟩
  have lkO : Bt.locked (ownPage 98 h1 0 0) = false := by simp [Bt.locked, ownPage, hB.free1]
  have lkS : Bt.locked (segPage h2 0) = false := by simp [Bt.locked, segPage, hB.free2]
  have HON := hid (fun W (hb : Below w.heap.size w W) => refOwnNode_ok ps v 0 98 h1 0 0 W (hk.below hb) (by omega) (by omega) (by omega) (by omega) (by omega) hB.own lkO okO)
  have HCN := hid (fun W => refCount_any 256 W)
  have HHL := hid (fun s W => refHeaderLine_any s W)
  have fS : foundPage ps 104 = segPage h2 0 := by simp [foundPage, hB.seg, segPage]
  have HLT : Hid (∀ W, Below w.heap.size w W → Calls Tryz.prog 46 #[v, .int .i64 104] W fun e w' => e = .returned (.tuple #[.agg (segPage h2 0).cells, .bool true]) ∧ Below W.heap.size W w') := hid (fun W hb => by
    have h := refLatest_any ps v 104 W (hk.below hb) (by omega)
    rw [fS, hB.seg] at h
    exact h)
  have HRH := hid (fun W => refReadHeader_104 h2 W)
  have HLK : Hid (∀ W, Calls Tryz.prog 47 #[.agg (segPage h2 0).cells] W fun e w' => e = .returned (.bool false) ∧ Below W.heap.size W w') := hid (fun W => by
    have h := refLocked_any _ okS W
    rw [lkS] at h
    exact h)
  have HWN := hid (fun W => refWriteNode_own 98 h1 0 0 0 0 0 0 0 1 1 (by omega) (by omega) (by omega) (by omega) W)
  have HBB := hid hB
  obtain ⟨pv, cv, rfl⟩ := hk.shape
  obtain ⟨nv, hnv⟩ : ∃ n, ps.length = n := ⟨_, rfl⟩
  rw [hnv] at HM HON HLT ⊢
  clear hk hB okO okS lkO lkS fS hnv
  unfold ownCells ownPage at HON
  unfold segPage at HLT HLK
  unfold ownCells ownPage at HWN
  unfold Bt.Page.cells at HON HLT HLK HRH HWN
  simp only at HON HLT HLK HRH HWN
  go_enter Tryz.func25, Tryz.ntmps25
  go_wp2_with fail
  go_at_call 40; refine (HCL.out _).mono ?_; rintro e w1 ⟨rfl, hw⟩; obtain rfl := hw
  go_wp2_with fail
  go_at_call 42; refine (HM.out _ [98] _ qL ?hr1 (by simp) ?ha1).mono ?_
  case hr1 => exact IRow.of_blk (Blk.made' (by simp)) rfl
  case ha1 =>
    intro x hx
    obtain rfl : x = 98 := by simpa using hx
    rw [HBB.out.own]; rfl
  rintro e w1 ⟨rfl, hb1⟩; ((obtain ⟨hc1, hf1, hs1⟩ := qR hb1); (try have := qN0 w w1); (try have := qN1 w w1))
  go_wp2_with fail
  go_at_call 43; refine (HON.out _ qL).mono ?_; rintro e w2 ⟨rfl, hb2⟩; ((obtain ⟨hc2, hf2, hs2⟩ := qR hb2); (try have := qN0 w w2); (try have := qN1 w w2); (try have := qN0 w1 w2); (try have := qN1 w1 w2))
  go_wp2_with fail
  go_at_call 44; refine (HCN.out _).mono ?_; rintro e w3 ⟨rfl, hw⟩; obtain rfl := hw
  have e9 : segCount 256 = 9 := rfl
  rw [e9]
  go_wp2_with fail
  obtain ⟨wx, hwx⟩ : ∃ wx, (w2.alloc (.cells #[.int .i64 98, .int .u64 h1, .int .u64 0, .int .u64 0, .int .u64 0, .int .u64 0, .int .u64 0, .int .u64 0, .int .u64 0] 75)).alloc (.cells #[.bool false, .int .u32 0, .int .u32 0, .int .i64 0, .int .i64 0, .int .i64 0, .int .u32 0, .int .i64 0, .int .i64 0, .int .u32 0, .int .i64 0, .int .i64 0, .int .u32 0, .int .i64 0, .int .i64 0, .int .u32 0] 121) = wx := ⟨_, rfl⟩
  have BS : Blk wx w.heap.size 90 #[.slice none 0 0, .slice none 0 0, .slice none 0 0, .int .i64 0, .int .i64 0, .bool false] := by rw [← hwx]; exact (((((Blk.made w _ _).alloc _).kept hb1).kept hb2).alloc _).alloc _
  have BM : Blk wx w2.heap.size 75 #[.int .i64 98, .int .u64 h1, .int .u64 0, .int .u64 0, .int .u64 0, .int .u64 0, .int .u64 0, .int .u64 0, .int .u64 0] := by rw [← hwx]; exact (Blk.made w2 _ _).alloc _
  have BN : Blk wx (w2.heap.size + 1) 121 #[.bool false, .int .u32 0, .int .u32 0, .int .i64 0, .int .i64 0, .int .i64 0, .int .u32 0, .int .i64 0, .int .i64 0, .int .u32 0, .int .i64 0, .int .i64 0, .int .u32 0, .int .i64 0, .int .i64 0, .int .u32 0] := by rw [← hwx]; exact Blk.made' (by simp)
  have hbx : Below w.heap.size w wx := by rw [← hwx]; exact qL
  have ex : wx.heap.size = w2.heap.size + 2 := by rw [← hwx]; simp
  rw [hwx]
  have hlw : w.heap.size + 1 < w2.heap.size := by omega
  have HX := hid (And.intro BS (And.intro BM (And.intro BN hbx)))
  generalize hms : w2.heap.size = ms at *
  clear hwx BS BM BN hbx hb1 hb2 hc1 hc2 hf1 hf2 hs1 hs2 hms
  go_loopw [27, 28] (fun x y wr => ∃ (k : Nat), y = .int .i64 k ∧ k ≤ 9 ∧ Hid (wr.ownsRow wx.heap.size 3 1 x k (intCells (segLines k)) ∧ Below wx.heap.size wx wr)) (fun _ y _ => (9 - intOf y).toNat)
  case atStart => exact ⟨0, rfl, by omega, hid ⟨World.ownsRow_nil _ _ _ _, Below.refl _ _⟩⟩
  case round =>
    obtain ⟨k, rfl, hk, HR⟩ := hrel
    have hsr : wx.heap.size ≤ wr.heap.size := HR.out.2.size
    by_cases hk2 : k < 9
    · have b1 : decide ((k : Int) < 9) = true := by simp; omega
      go_wp2_with fail
      go_at_call 45; refine (HHL.out k _).mono ?_; rintro e w3 ⟨rfl, hw⟩; obtain rfl := hw
      have e1 : segLine k = 104 + 16 * k := by unfold segLine; rw [if_neg (by omega)]
      rw [e1]
      go_wp2_with (at_builtin; refine halt ?_)
      refine unhalt ?_
      refine wpList_append_mine rfl (.tmp 177) (.tmp 180) 23 rfl wx.heap.size 3 i0 _ 1 8 Tryz.underlying23 hi hz0 hz1 hz2 rfl (by decide) _ k (intCells (segLines k)) rfl
        (own_below HR.out.1 (below_alloc (Below.refl _ _) _)) ⟨wr.heap.size, 0, none⟩ 1 1
        [.int .i64 (104 + 16 * k)] rfl rfl (one_news (u := .int .i64 (104 + 16 * k)) ((Blk.made wr _ _).cell 0)) (by intro u hu; simp at hu; subst hu; rfl) (by omega) (by unfold maxLen; omega) (by omega) (by simp; omega) ?_
      intro g3 cap3 w3 hown3 hg3
      have hL3 : Below wx.heap.size wx w3 := below_grown (w := wx) (by have hbw := HR.out.2; exact qL) hg3 (fun j hj => by have := own_row_ge HR.out.1 j hj; omega)
      rw [← segLines_succ] at hown3
      have H3 := hid (And.intro hown3 hL3)
      clear hown3 hL3 hg3
      go_wp2_with fail
      refine ⟨⟨k + 1, by simp, by omega, H3⟩, by simp [intOf]; omega⟩
    · have b1 : decide ((k : Int) < 9) = false := by simp; omega
      obtain rfl : k = 9 := by omega
      have KS := (HX.out.1.kept HR.out.2)
      have KM := (HX.out.2.1.kept HR.out.2)
      have KN := (HX.out.2.2.1.kept HR.out.2)
      have hbr : Below w.heap.size w wr := by have h1 := HX.out.2.2.2; have h2 := HR.out.2; exact qL
      go_wp2_with fail
      go_at_call 42; refine (HM.out _ (segLines 9) _ hbr (IRow.of_own HR.out.1 (by simp [segLines])) (by simp [segLines]) ?ha2).mono ?_
      case ha2 =>
        intro x hx
        obtain ⟨s, hs, rfl⟩ : ∃ s : Nat, s < 9 ∧ 104 + 16 * (s : Int) = x := by simpa [segLines] using hx
        exact HBB.out.all s (by omega) (by omega)
      rintro e w3 ⟨rfl, hb3⟩
      have KS := KS.kept hb3
      have KM := KM.kept hb3
      have KN := KN.kept hb3
      have hbr : Below w.heap.size w w3 := qL
      have hs3 : ms + 2 ≤ w3.heap.size := by have := hb3.size; omega
      have H3 := hid (And.intro hbr (And.intro KS (And.intro KM KN)))
      clear hb3 KS KM KN hbr HR
      go_wp2_with fail
      refine wp_loop_rounds 2 ?_
      rw [rounds_succ]
      go_wp2_with fail
      go_at_call 45; refine (HHL.out 0 _).mono ?_; rintro e w4 ⟨rfl, hw⟩; obtain rfl := hw
      have e1 : segLine 0 = 104 := rfl
      rw [e1]
      go_wp2_with fail
      go_at_call 46; refine (HLT.out _ H3.out.1).mono ?_; rintro e w4 ⟨rfl, hb4⟩; ((obtain ⟨hc4, hf4, hs4⟩ := qR hb4); (try have := qN0 w3 w4))
      go_wp2_with fail
      go_at_call 48; refine (HRH.out _).mono ?_; rintro e w5 ⟨rfl, hb5⟩; ((obtain ⟨hc5, hf5, hs5⟩ := qR hb5); (try have := qN0 w3 w5); (try have := qN0 w4 w5))
      go_wp2_with fail
      go_at_call 47; refine (HLK.out _).mono ?_; rintro e w6 ⟨rfl, hb6⟩; ((obtain ⟨hc6, hf6, hs6⟩ := qR hb6); (try have := qN0 w3 w6); (try have := qN0 w4 w6); (try have := qN0 w5 w6))
      have KS := ((((H3.out.2.1.kept hb4).alloc _).kept hb5).alloc _).kept hb6
      have KM := ((((H3.out.2.2.1.kept hb4).alloc _).kept hb5).alloc _).kept hb6
      have KN := ((((H3.out.2.2.2.kept hb4).alloc _).kept hb5).alloc _).kept hb6
      have hbr : Below w.heap.size w w6 := by have := H3.out.1; exact qL
      have ks := KS.cell
      have fs := KS.free
      have km := KM.cell
      have fm := KM.free
      have kn := KN.cell
      have fn := KN.free
      have H6 := hid (And.intro hbr (And.intro KS (And.intro KM KN)))
      have q1 : (ms = ms + 1) = False := eq_false (by omega)
      have q2 : (ms + 1 = ms) = False := eq_false (by omega)
      have q3 : (w.heap.size = ms + 1) = False := eq_false (by omega)
      have q4 : (w.heap.size = ms) = False := eq_false (by omega)
      clear KS KM KN hbr
      go_wp2_with fail
      rw [rounds_succ]
      go_wp2_with fail
      have eb : bits BinOp.or IntKind.u32 0 1 = 1 := by decide
      rw [eb]
      obtain ⟨wy, hwy⟩ : ∃ wy, (w6.setCell ⟨ms + 1, 2, none⟩ (.int .u32 1)).setCell ⟨ms + 1, 3, none⟩ (.int .i64 1) = wy := ⟨_, rfl⟩
      have KS : Blk wy w.heap.size 90 #[.slice none 0 0, .slice none 0 0, .slice none 0 0, .int .i64 0, .int .i64 0, .bool false] := by
        rw [← hwy]; exact (H6.out.2.1.aside (by show _ ≠ ms + 1; omega) _).aside (by show _ ≠ ms + 1; omega) _
      have hbr : Below w.heap.size w wy := by rw [← hwy]; exact (H6.out.1.setCell (by show w.heap.size ≤ ms + 1; omega) _).setCell (by show w.heap.size ≤ ms + 1; omega) _
      rw [hwy]
      have H7 := hid (And.intro hbr KS)
      have hly := KS.lt
      clear hwy KS hbr H6 ks fs km fm kn fn hb4 hb5 hb6 hc4 hf4 hs4 hc5 hf5 hs5 hc6 hf6 hs6
      go_at_call 49; refine (HWN.out _).mono ?_; rintro e w7 ⟨rfl, hb7⟩; ((obtain ⟨hc7, hf7, hs7⟩ := qR hb7); (try have := qN0 wy w7))
      go_wp2_with fail
      go_at_call 45; refine (HHL.out 0 _).mono ?_; rintro e w8 ⟨rfl, hw⟩; obtain rfl := hw
      rw [e1]
      go_wp2_with fail
      go_at_call 46; refine (HLT.out _ (by have := H7.out.1; exact qL)).mono ?_; rintro e w8 ⟨rfl, hb8⟩; ((obtain ⟨hc8, hf8, hs8⟩ := qR hb8); (try have := qN0 wy w8); (try have := qN0 w7 w8))
      go_wp2_with fail
      have hAO := acq_ok h1 h2 HBB.out.ok1 HBB.out.ok2
      go_at_call 50; refine (refMerge_any [] [ownPage 98 h1 1 1, segPage h2 1] _ _ _ (PgRow.none _) (PgRow.of_blk (Blk.made' (by simp)) rfl hAO (by simp [maxLen])) (by simp)).mono ?_
      rintro e w9 ⟨v9, rfl, hown, hb9⟩
      rw [acq_merge] at hown
      have hown2 : w9.ownsRow _ 75 9 v9 2 (pageCells [ownPage 98 h1 1 1, segPage h2 1]) := hown
      clear hown
      obtain ⟨g9, c9, rfl, hg9, _⟩ := own_pg hown2 rfl (k := 0) (by omega)
      have hgb : w.heap.size ≤ g9 := by simp at hg9; omega
      clear hg9
      have KS := (((((H7.out.2.kept hb7).alloc _).kept hb8).alloc _).alloc _).kept hb9
      have hbr : Below w.heap.size w w9 := by have := H7.out.1; exact qL
      have hbase : w.heap.size < w8.heap.size := by omega
      have H9 := hid (And.intro hbr (And.intro KS (And.intro hown2 (And.intro hgb hAO))))
      have ks := KS.cell
      have fs := KS.free
      clear KS hbr hown2 hgb hb9 hb8 hb7 H7 hAO hc7 hf7 hs7 hc8 hf8 hs8
      go_wp2_with fail
      refine bodyPost_ret (results_b rfl _ _ w.heap.size _ _ _ rfl (Blk.cast ((((((H9.out.2.1.put 0 _).put 1 _).put 2 _).put 3 _).put 4 _).put 5 _) rfl) Tryz.underlying90 rfl (by kernel_rfl)) rfl ⟨_, rfl, ?_, ?_, ?_⟩
      · have hlt : w.heap.size < ((w8.alloc (.cells #[.int .i64 104, .int .u64 h2, .int .u64 1, .int .u64 0, .int .u64 0, .int .u64 0, .int .u64 0, .int .u64 0, .int .u64 0] 75)).alloc (.cells (pageCells [ownPage 98 h1 1 1, segPage h2 1]).toArray 75)).heap.size := by simp; omega
        exact PgRow.of_row (own_aside (own_aside (own_aside (own_aside (own_aside (own_aside H9.out.2.2.1 hlt _) hlt _) hlt _) hlt _) hlt _) hlt _) rfl (by omega) H9.out.2.2.2.2 (by simp [maxLen])
      · intro b a c e
        have := H9.out.2.2.2.1
        injection e with e1 e2 e3
        injection e1 with e1
        injection e1 with e1
        omega
      · exact (((((H9.out.1.setCell (Nat.le_refl _) _).setCell (Nat.le_refl _) _).setCell (Nat.le_refl _) _).setCell (Nat.le_refl _) _).setCell (Nat.le_refl _) _).setCell (Nat.le_refl _) _
set_option maxRecDepth 100000 in
theorem onesCount (x : Int) (hx : x = 0 ∨ x = 2 ∨ x = 14) (w : World) : Calls Tryz.prog 272 #[.int .u32 x] w fun e w' => e = .returned (.int .i64 (if x = 0 then 0 else if x = 2 then 1 else 3)) ∧ Below w.heap.size w w' := by
  have a0 : bits BinOp.and IntKind.u32 0 255 = 0 := by kernel_rfl
  have a1 : bits BinOp.and IntKind.u32 2 255 = 2 := by kernel_rfl
  have a2 : bits BinOp.and IntKind.u32 14 255 = 14 := by kernel_rfl
  rcases hx with rfl | rfl | rfl
  all_goals
    go_enter Tryz.func272, Tryz.ntmps272
    go_wp2_with fail
    go_region
    go_wp2_with fail
    refine bodyPost_ret (results_tmp rfl _ _ _) rfl ⟨rfl, qL⟩
theorem segVacant (x : Int) (hx : x = 0 ∨ x = 2 ∨ x = 14) (w : World) : Calls Tryz.prog 217 #[.agg #[.int .i64 0, .int .u32 x]] w fun e w' => e = .returned (.int .i64 (15 - (if x = 0 then 0 else if x = 2 then 1 else 3))) ∧ Below w.heap.size w w' := by
  have HO := hid (fun W => onesCount x hx W)
  rcases hx with rfl | rfl | rfl
  all_goals
    go_enter Tryz.func217, Tryz.ntmps217
    go_wp2_with fail
    go_at_call 272; refine (HO.out _).mono ?_; rintro e w1 ⟨rfl, hb1⟩; ((obtain ⟨hc1, hf1, hs1⟩ := qR hb1); (try have := qN0 w w1))
    go_wp2_with fail
    refine bodyPost_ret (results_tmp rfl _ _ _) rfl ⟨rfl, qL⟩
theorem segOwned_1 (w : World) : Calls Tryz.prog 212 #[.int .u32 1, .int .i64 9] w fun e w' => ∃ v, e = .returned v ∧ w'.ownsRow w.heap.size 3 1 v 1 [.int .i64 0] ∧ Below w.heap.size w w' := by
  obtain ⟨i0, hi, hz0, hz1, hz2⟩ := info_parts infoInt
  have a0 : bits BinOp.and IntKind.u32 0 1 = 0 := by kernel_rfl
  have a1 : bits BinOp.and IntKind.u32 1 1 = 1 := by kernel_rfl
  go_enter Tryz.func212, Tryz.ntmps212
  go_wp2_with fail
  refine wp_loop_rounds 10 ?_
  rw [rounds_succ]
  go_wp2_with (at_builtin; refine halt ?_)
  refine unhalt ?_
  refine wpList_append_mine rfl (.tmp 18) (.tmp 20) 23 rfl w.heap.size 3 i0 _ 1 8 Tryz.underlying23 hi hz0 hz1 hz2 rfl (by decide) (.slice none 0 0) 0 [] rfl (World.ownsRow_nil _ _ _ _) ⟨w.heap.size, 0, none⟩ 1 1
    [.int .i64 0] rfl rfl (one_news (u := .int .i64 0) ((Blk.made w _ _).cell 0)) (by intro u hu; simp at hu; subst hu; rfl) (by omega) (by unfold maxLen; omega) (by omega) (by simp) ?_
  intro g3 cap3 w3 hown3 hg3
  have hL3 : Below w.heap.size w w3 := below_grown (w := w) qL hg3 (fun j hj => by cases hj)
  have hown3 : w3.ownsRow w.heap.size 3 1 (.slice (some ⟨g3, 0, none⟩) 1 cap3) 1 [.int .i64 0] := hown3
  have H3 := hid (And.intro hown3 hL3)
  clear hown3 hL3 hg3
  go_wp2_with fail
  iterate 8
    rw [rounds_succ]
    go_wp2_with fail
  rw [rounds_succ]
  go_wp2_with fail
  refine bodyPost_ret (results_tmp rfl _ _ _) rfl ⟨.slice (some ⟨g3, 0, none⟩) 1 cap3, rfl, H3.out.1, H3.out.2⟩
theorem segHeaderLines_1 (v : Value) (base : Nat) (w : World) (hv : w.ownsRow base 3 1 v 1 [.int .i64 0]) : Calls Tryz.prog 215 #[v] w fun e w' => ∃ v, e = .returned v ∧ w'.ownsRow w.heap.size 3 1 v 1 [.int .i64 104] ∧ Below w.heap.size w w' := by
  obtain ⟨i0, hi, hz0, hz1, hz2⟩ := info_parts infoInt
  have HHL := hid (fun W => segHeaderLine_0 W)
  rcases hv.2 with ⟨_, h0⟩ | ⟨g, cap, cur, rfl, _⟩
  · omega
  have c0 : w.cell? ⟨g, 0, none⟩ = some (.int .i64 0) := own_cells hv 0 _ rfl
  have hg : g < w.heap.size := (own_lt hv).2
  clear hv
  go_enter Tryz.func215, Tryz.ntmps215
  go_wp2_with fail
  refine wp_loop_rounds 2 ?_
  rw [rounds_succ]
  go_wp2_with fail
  go_at_call 218; refine (HHL.out _).mono ?_; rintro e w1 ⟨rfl, hw⟩; obtain rfl := hw
  go_wp2_with (at_builtin; refine halt ?_)
  refine unhalt ?_
  refine wpList_append_mine rfl (.tmp 12) (.tmp 15) 23 rfl w.heap.size 3 i0 _ 1 8 Tryz.underlying23 hi hz0 hz1 hz2 rfl (by decide) (.slice none 0 0) 0 [] rfl (World.ownsRow_nil _ _ _ _) ⟨w.heap.size, 0, none⟩ 1 1
    [.int .i64 104] rfl rfl (one_news (u := .int .i64 104) ((Blk.made w _ _).cell 0)) (by intro u hu; simp at hu; subst hu; rfl) (by omega) (by unfold maxLen; omega) (by omega) (by simp) ?_
  intro g3 cap3 w3 hown3 hg3
  have hL3 : Below w.heap.size w w3 := below_grown (w := w) qL hg3 (fun j hj => by cases hj)
  have hown3 : w3.ownsRow w.heap.size 3 1 (.slice (some ⟨g3, 0, none⟩) 1 cap3) 1 [.int .i64 104] := hown3
  have H3 := hid (And.intro hown3 hL3)
  clear hown3 hL3 hg3
  go_wp2_with fail
  rw [rounds_succ]
  go_wp2_with fail
  refine bodyPost_ret (results_tmp rfl _ _ _) rfl ⟨.slice (some ⟨g3, 0, none⟩) 1 cap3, rfl, H3.out.1, H3.out.2⟩
theorem segMissing_1 (ks : List Bt.Page) (hlat : (Bt.latest ks 104).isSome = true) (vk v : Value) (base : Nat) (w : World) (hp : PgRow w vk ks) (hv : w.ownsRow base 3 1 v 1 [.int .i64 104]) :
    Calls Tryz.prog 214 #[vk, v] w fun e w' => e = .returned (.slice none 0 0) ∧ Below w.heap.size w w' := by
  have HLA : Hid (Calls Tryz.prog 60 #[vk, .int .i64 104] w fun e w' => ∃ p : Bt.Page, e = .returned (.tuple #[.agg p.cells, .bool true]) ∧ Below w.heap.size w w') := hid (by
    refine (Latest_any ks vk 104 w hp).mono ?_
    rintro e w' ⟨rfl, hb⟩
    rw [hlat]
    exact ⟨_, rfl, hb⟩)
  rcases hv.2 with ⟨_, h0⟩ | ⟨g, cap, cur, rfl, _⟩
  · omega
  have c0 : w.cell? ⟨g, 0, none⟩ = some (.int .i64 104) := own_cells hv 0 _ rfl
  have hg : g < w.heap.size := (own_lt hv).2
  obtain ⟨pv, cv, rfl⟩ := hp.slice
  obtain ⟨nv, hnv⟩ : ∃ n, ks.length = n := ⟨_, rfl⟩
  rw [hnv] at HLA ⊢
  clear hv hp hnv hlat
  unfold Bt.Page.cells at HLA
  go_enter Tryz.func214, Tryz.ntmps214
  go_wp2_with fail
  refine wp_loop_rounds 2 ?_
  rw [rounds_succ]
  go_wp2_with fail
  go_at_call 60; refine HLA.out.mono ?_; rintro e w1 ⟨p, rfl, hb1⟩; ((obtain ⟨hc1, hf1, hs1⟩ := qR hb1); (try have := qN0 w w1))
  have hg1 : g < w1.heap.size := by omega
  go_wp2_with fail
  rw [rounds_succ]
  go_wp2_with fail
  go_at_call 37; refine (Tryz.slices_Sort_int_none none 0 _).mono ?_; rintro e w2 ⟨rfl, hw⟩; subst hw
  go_wp2_with fail
  go_at_call 99; refine (Tryz.slices_Compact_int_empty none 0 _).mono ?_; rintro e w3 ⟨rfl, hw⟩; subst hw
  go_wp2_with fail
  refine bodyPost_ret (results_tmp rfl _ _ _) rfl ⟨rfl, qL⟩
theorem results_t5 {P : Program} {fn : Func} {a b c d e : Tmp} (h : fn.results = #[.tmp a, .tmp b, .tmp c, .tmp d, .tmp e]) (tmps : Array Value) (w : World) :
    (results fn tmps).run P w = .ok (.tuple #[tmps.getD a undef, tmps.getD b undef, tmps.getD c undef, tmps.getD d undef, tmps.getD e undef]) w := by
  simp only [results, h]
  simp [Sem.run_bind, Result.andThen]
theorem steady_map {P : Program} {H : Type} {k : TypeId} {R : Value → Option (DataW H × List MemPlace)} {w w' : World} {m n n' : Nat} {D D' : DataW H} (h1 : w.ownsMap P k R m n D) (h2 : w'.ownsMap P k R m n' D') (hg : w.grownBy w' (some m)) : SteadyAll w w' := by
  refine ⟨fun b o hb => ?_⟩
  by_cases hm : b = m
  · subst hm
    obtain ⟨es, cl, e1, _⟩ := h1
    obtain ⟨es2, cl2, e2, _⟩ := h2
    simp only [World.cell?, e1, e2]
  · simp only [World.cell?, hg.block b hb (by simpa using hm)]
theorem own_drew' {w : World} {base n size : Nat} {e : TypeId} {v : Value} {xs : List Value} (h : w.ownsRow base e size v n xs) : w.drew.ownsRow base e size v n xs := h
theorem map_ne {P : Program} {H : Type} {k t : TypeId} {R : Value → Option (DataW H × List MemPlace)} {w : World} {m n b : Nat} {D : DataW H} {cs : Array Value} (h : w.ownsMap P k R m n D) (hB : Blk w b t cs) : b ≠ m := by
  rintro rfl
  obtain ⟨es, cl, e1, _⟩ := h
  have e2 : w.heap[b]? = some (.cells cs t (0, 0)) := hB
  rw [e1] at e2
  cases e2
theorem map_ne_row {P : Program} {H : Type} {k e : TypeId} {R : Value → Option (DataW H × List MemPlace)} {w : World} {m n base c size : Nat} {D : DataW H} {v : Value} {xs : List Value} (h : w.ownsMap P k R m n D) (hr : w.ownsRow base e size v c xs) : v.ownBlock ≠ some m := by
  rcases hr.2 with ⟨rfl, _⟩ | ⟨g, cap, cur, rfl, _, e2, _⟩
  · simp [Value.ownBlock]
  · obtain ⟨es, cl, e1, _⟩ := h
    intro e
    simp [Value.ownBlock] at e
    subst e
    rw [e1] at e2
    cases e2
theorem blk_ne_row {w : World} {b base n size : Nat} {t e : TypeId} {cs : Array Value} {v : Value} {xs : List Value} (hB : Blk w b t cs) (hr : w.ownsRow base e size v n xs) (hne : t ≠ e) : v.ownBlock ≠ some b := by
  rcases hr.2 with ⟨rfl, _⟩ | ⟨g, cap, cur, rfl, _, e2, _⟩
  · simp [Value.ownBlock]
  · have e1 : w.heap[b]? = some (.cells cs t (0, 0)) := hB
    intro e
    simp [Value.ownBlock] at e
    subst e
    rw [e1] at e2
    cases e2
    exact hne rfl
theorem blk_ne {w : World} {b c : Nat} {t e : TypeId} {cs ds : Array Value} (hB : Blk w b t cs) (hC : Blk w c e ds) (hne : t ≠ e) : b ≠ c := by
  rintro rfl
  have e1 : w.heap[b]? = some (.cells cs t (0, 0)) := hB
  have e2 : w.heap[b]? = some (.cells ds e (0, 0)) := hC
  rw [e1] at e2
  cases e2
  exact hne rfl
theorem look_one {t e : TypeId} {m n : Nat} {v z : Value} {w : World} {D : DataW Value} (hD : Maps.IsMap D) (h : w.ownsMap Tryz.prog 3 heldR m n (DataW.put D (.int .i64 0) (.held v))) (ht : Tryz.prog.underlying t = some (.map 3 e)) (hz : (zeroValue e).run Tryz.prog w = .ok z w) :
    (Instr.lookup t (.map (some m)) (.int .i64 0) false).run Tryz.prog w = .ok v w := by
  obtain ⟨v', ps, hrun, hv⟩ := h.lookup law_int ht hz (zd := .held z) (zp := []) rfl (Maps.keyOf_int_mk Tryz.underlying3 (by decide) : keyOf Tryz.prog 3 (.int .i64 0) = some (.int .i64 0))
  rw [Maps.atKey_put_same hD (show WideAt.IsKeyLit (.int .i64 0) from trivial)] at hv
  simp [heldR] at hv
  rw [hrun, hv.1]
theorem look_ok_one {t e : TypeId} {m n : Nat} {v z : Value} {w : World} {D : DataW Value} (hD : Maps.IsMap D) (h : w.ownsMap Tryz.prog 3 heldR m n (DataW.put D (.int .i64 0) (.held v))) (ht : Tryz.prog.underlying t = some (.map 3 e)) (hz : (zeroValue e).run Tryz.prog w = .ok z w) :
    (Instr.lookup t (.map (some m)) (.int .i64 0) true).run Tryz.prog w = .ok (.tuple #[v, .bool true]) w := by
  obtain ⟨v', ps, hrun, hv⟩ := h.look_ok law_int ht hz (zd := .held z) (zp := []) rfl (Maps.keyOf_int_mk Tryz.underlying3 (by decide) : keyOf Tryz.prog 3 (.int .i64 0) = some (.int .i64 0))
  rw [Maps.atKey_put_same hD (show WideAt.IsKeyLit (.int .i64 0) from trivial)] at hv
  rw [Maps.has_put_same hD (show WideAt.IsKeyLit (.int .i64 0) from trivial)] at hrun
  simp [heldR] at hv
  rw [hrun, hv.1]
def freeP (l : Int) : Bt.Page := ⟨l, 256, 0, 0, 0, 0, 0, 0, 0⟩
structure SegAt (ks : List Bt.Page) (u : Int) : Prop where
  own : Bt.latest ks 98 = some (ownPage 98 512 1 1)
  hdr : Bt.latest ks 104 = some (hdrPage 512 u)
def AllocPost (L : List Bt.Page) (u : Int) (w : World) (e : Ending) (w' : World) : Prop :=
  ∃ vf vw, e = .returned (.tuple #[.slice none 0 0, vf, vw, .int .i64 0, .bool true]) ∧ w'.ownsRow w.heap.size 75 9 vf L.length (pageCells L) ∧ w'.ownsRow w.heap.size 75 9 vw 1 (pageCells [hdrPage 512 u]) ∧ Below w.heap.size w w'
end Go.Proofs.YtcoiehgcfjfhaaaGreatDoor
