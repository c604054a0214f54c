/- segment.Merge. -/
import Derived.Test.YtcoiehgcfjfhaaaGreatDoorQ09
import Derived.Test.YtcoiehgcfjfhaaaGreatDoorQ05
import Derived.Test.YtcoiehgcfjfhaaaGreatDoorQ01
import Derived.Test.YtcoiehgcfjfhaaaGreatDoorQ02
import Derived.Test.YtcoiehgcfjfhaaaGreatDoorQ04
import Derived.Laws.BytesString
import Derived.Laws.BytesArg
set_option linter.all false
set_option maxRecDepth 20000
set_option maxHeartbeats 8000000
open Go.Lib (hid)
namespace Go.Proofs.YtcoiehgcfjfhaaaGreatDoor
open Go.RowKit
theorem own_lower {w : World} {base base' n size : Nat} {e : TypeId} {v : Value} {xs : List Value} (h : w.ownsRow base e size v n xs) (hb : base' ≤ base) : w.ownsRow base' e size v n xs := by
  refine ⟨h.1, ?_⟩
  rcases h.2 with h2 | ⟨g, cap, cur, hv, hg, h3⟩
  · exact .inl h2
  · exact .inr ⟨g, cap, cur, hv, Nat.le_trans hb hg, h3⟩
theorem law_int : Maps.Keyed Tryz.prog 3 := Maps.int_keyed Tryz.underlying3
theorem ownsMap_below {H : Type} {P : Program} {k : TypeId} {R : Value → Option (DataW H × List MemPlace)} {w w' : World} {b n : Nat} {D : DataW H} (h : w.ownsMap P k R b n D) (hb : Below w.heap.size w w') (hlt : b < w.heap.size) : w'.ownsMap P k R b n D := by
  obtain ⟨es, clock, h1, h2, h3, h4⟩ := h
  exact ⟨es, clock, (hb.block _ hlt).trans h1, h2, h3, h4⟩
theorem own_page {w : World} {base n : Nat} {v : Value} {l : List Bt.Page} (h : w.ownsRow base 75 9 v n (pageCells l)) (hn : n = l.length) {k : Nat} (hk : k < n) : ∃ g c, v = .slice (some ⟨g, 0, none⟩) n c ∧ base ≤ g ∧ g < w.heap.size ∧ w.rangeAt g (k * 9) (l[k]'(by omega)).cells.toList := by
  subst hn
  rcases h.2 with ⟨rfl, h0⟩ | ⟨g, c, cur, rfl, hb, hg, _⟩
  · omega
  · have P1 := PRow.of_own h
    exact ⟨g, c, rfl, hb, P1.lt, P1.cells k _ (List.getElem?_eq_getElem hk)⟩
theorem merge_ok (K W : List Bt.Page) (vK vW : Value) (w : World) (hK : PgRow w vK K) (hW : PgRow w vW W) (hsm : K.length + W.length ≤ 1000) (hln : ∀ p ∈ K ++ W, 0 ≤ p.line ∧ p.line < 1000) :
    Calls Tryz.prog 150 #[vK, vW] w fun e w' => ∃ v, e = .returned v ∧ PgRow w' v (Rf.merge K W) ∧ w'.ownsRow w.heap.size 75 9 v (Rf.merge K W).length (pageCells (Rf.merge K W)) ∧ Below w.heap.size w w' := by
  have hmm := @run_makeMap Tryz.prog
  have e1 : (w.alloc (.map #[] 0)).heap.size = w.heap.size + 1 := by simp
  have HM0 := hid (World.ownsMap_made w Tryz.prog 3 heldR)
  obtain ⟨l, hl⟩ : ∃ l, K ++ W = l := ⟨_, rfl⟩
  obtain ⟨n, hn⟩ : ∃ n, K.length + W.length = n := ⟨_, rfl⟩
  have hnl : n = l.length := by rw [← hn, ← hl]; simp
  have HOK : Hid (∀ p ∈ Rf.merge K W, p.Ok) := hid (Rf.merge_ok hK.ok hW.ok)
  have HLEN : Hid ((Rf.merge K W).length ≤ 1000) := hid (by have := Rf.merge_len K W; omega)
  have HCC := hid (fun g2 W' a b c d e => concat2 K W vK vW g2 W' a b c d e (by omega))
  have HKW := hid (And.intro hK hW)
  have HLN : Hid (∀ p ∈ l, 0 ≤ p.line ∧ p.line < 1000) := hid (hl ▸ hln)
  have HL := hid (And.intro hl hnl)
  rw [hn] at hsm
  have HNK := hid hn
  obtain ⟨pK, cK, eK⟩ := hK.slice
  obtain ⟨pW, cW, eW⟩ := hW.slice
  clear hK hW hln hl hnl hn
  obtain ⟨kK, hkK⟩ : ∃ k, K.length = k := ⟨_, rfl⟩
  obtain ⟨kW, hkW⟩ : ∃ k, W.length = k := ⟨_, rfl⟩
  rw [hkK] at eK
  rw [hkW] at eW
  clear hkK hkW
  subst eK
  subst eW
  obtain ⟨i0, hi, hz0, hz1, hz2⟩ := info_parts infoPage
  go_enter Tryz.func150, Tryz.ntmps150
  go_wp2_with fail
  go_at_call 196
  refine (HCC.out (w.heap.size + 1) _ (HKW.out.1.below qL) (HKW.out.2.below qL) (by simp) (by simp) (by simp)).mono ?_
  rintro e w1 ⟨v, rfl, hown, hb⟩
  rw [HNK.out, HL.out.1] at hown
  have hm1 : w1.ownsMap Tryz.prog 3 heldR w.heap.size 0 (.map []) := by
    have h1 := HM0.out
    refine ownsMap_below (ownsMap_below h1 (below_alloc (Below.refl _ _) _) (by simp)) hb (by simp; omega)
  have hb1 : Below w.heap.size w w1 := qL
  ((obtain ⟨hc1, hf1, hs1⟩ := qR hb); (try have := qN0 w w1); (try have := qN1 w w1))
  obtain ⟨pv, cv, rfl⟩ := own_shape hown
  have HB1 := hid hb1
  have HO1 : Hid (w1.ownsRow (w.heap.size + 2) 75 9 (.slice pv n cv) n (pageCells l)) := hid (by simpa using hown)
  have HM1 := hid hm1
  clear hb hb1 hown hm1 HM0 HCC HKW
  go_wp2_with fail
  go_loopw [17] (fun x wr => ∃ (k : Nat), x = .int .i64 k ∧ k ≤ n ∧ Hid (wr.ownsMap Tryz.prog 3 heldR w.heap.size k (mapD (l.take k)) ∧ wr.ownsRow (w.heap.size + 2) 75 9 (.slice pv n cv) n (pageCells l) ∧ Below w.heap.size w wr ∧ w.heap.size + 2 ≤ wr.heap.size)) (fun x _ => ((n : Int) - intOf x).toNat)
  case atStart => exact ⟨0, rfl, by omega, hid ⟨by simpa [mapD] using HM1.out, HO1.out, HB1.out, by omega⟩⟩
  case round =>
    obtain ⟨k, rfl, hk, HR⟩ := hrel
    by_cases hkn : k < n
    · have b1 : decide ((k : Int) < n) = true := by simp; omega
      have wk : IntKind.i64.wrap ((k : Int) + 1) = (k : Int) + 1 := by rw [IntKind.wrap_i64]; omega
      have hkl : k < l.length := by have := HL.out.2; omega
      obtain ⟨g, c, hv, hg1, hg2, hrow⟩ := own_page HR.out.2.1 HL.out.2 hkn
      simp only [Value.slice.injEq, true_and] at hv
      obtain ⟨rfl, rfl⟩ := hv
      obtain ⟨x, hx⟩ : ∃ x, l[k] = x := ⟨_, rfl⟩
      rw [hx] at hrow
      obtain ⟨c0, c1, c2, c3, c4, c5, c6, c7, c8⟩ := nine hrow
      have HX : Hid (l.take (k + 1) = l.take k ++ [x] ∧ 0 ≤ x.line ∧ x.line < 1000) := hid ⟨by rw [List.take_succ_eq_append_getElem hkl, hx], HLN.out x (by rw [← hx]; exact List.getElem_mem hkl)⟩
      have j2 : decide ((k : Int) < 0) = false := by simp
      have j4 : (0 : Int) ≤ k := by omega
      have j5 : (k : Int) < n := by omega
      clear hx hrow
      have HM2 : Hid ((wr.alloc (.cells x.cells 75)).ownsMap Tryz.prog 3 heldR w.heap.size k (mapD (l.take k))) := hid (ownsMap_below HR.out.1 (below_alloc (Below.refl _ _) _) (by have := HR.out.2.2.1.size; have := HB1.out.size; omega))
      have HWF : Hid ((Lit.int .i64 x.line).wf = true) := hid (WalkArith.wf_i64 (by have := HX.out; constructor <;> omega))
      go_wp2_with (at_mapUpdate; refine halt ?_)
      refine unhalt ?_
      refine wpList_mapUpdate_own _ rfl _ _ _ 327 rfl 3 75 law_int Tryz.underlying327 heldR w.heap.size k _ rfl HM2.out (by unfold maxLen; omega) _ _ _ rfl rfl (Maps.keyOf_int_mk Tryz.underlying3 HWF.out) _ [] rfl ?_
      intro w2 hown2 hg2
      have hb2 : Below w.heap.size w w2 := below_grown (show Below w.heap.size w (wr.alloc (.cells x.cells 75)) from by have := HR.out.2.2.1; exact qL) hg2 (fun j hj => by cases hj; exact Nat.le_refl _)
      have ho2 : w2.ownsRow (w.heap.size + 2) 75 9 (.slice (some ⟨g, 0, none⟩) n cv) n (pageCells l) := (own_below HR.out.2.1 (below_alloc (Below.refl _ _) _)).kept hg2 (.inr (by simp [Value.ownBlock]; omega))
      have H2 : Hid (w2.ownsMap Tryz.prog 3 heldR w.heap.size (k + 1) (mapD (l.take (k + 1))) ∧ w2.ownsRow (w.heap.size + 2) 75 9 (.slice (some ⟨g, 0, none⟩) n cv) n (pageCells l) ∧ Below w.heap.size w w2 ∧ w.heap.size + 2 ≤ w2.heap.size) := hid ⟨by rw [HX.out.1, mapD_snoc]; exact hown2, ho2, hb2, by have h1 := HR.out.2.2.2; have h2 := hg2.size; simp at h2; omega⟩
      clear hown2 hg2 hb2 ho2
      go_wp2_with fail
      exact ⟨⟨k + 1, by simp, hkn, H2⟩, by simp [intOf]; omega⟩
    · have b1 : decide ((k : Int) < n) = false := by simp; omega
      have hkn' : k = n := by omega
      have HMN : Hid (wr.ownsMap Tryz.prog 3 heldR w.heap.size n (mapD l)) := hid (by
        have h1 := HR.out.1
        rw [hkn', List.take_of_length_le (by have := HL.out.2; omega)] at h1
        exact h1)
      have HBR := hid HR.out.2.2.1
      have hsr : w.heap.size + 2 ≤ wr.heap.size := HR.out.2.2.2
      clear HR hkn'
      go_wp2_with (at_range; refine halt ?_)
      refine unhalt ?_
      refine wpList_range_own _ rfl _ 327 rfl 3 75 law_int Tryz.underlying327 _ w.heap.size n _ rfl HMN.out ?_
      intro w2 hrg2 hg2 hs2
      have hb2 : Below w.heap.size w w2 := below_grown HBR.out hg2 (fun j hj => by cases hj)
      obtain ⟨r, hr⟩ : ∃ r, wr.heap.size = r := ⟨_, rfl⟩
      rw [hr] at hrg2 hs2 hsr ⊢
      have H2 := hid (And.intro hrg2 hb2)
      clear hrg2 hg2 hb2 hr HMN HBR
      go_wp2_with fail
      go_frame
      go_loopw [8] (fun v wr => ∃ (left : Lit → Bool) (cnt : Nat) (L : List Bt.Page), Hid (wr.ranges Tryz.prog 3 heldR w.heap.size r n (mapD l) left cnt ∧ wr.ownsRow (r + 1) 75 9 v L.length (pageCells L) ∧ Gathered l left L ∧ Below w.heap.size w wr ∧ r + 1 ≤ wr.heap.size ∧ L.length + cnt ≤ n)) (fun _ wr => wr.rangeLeft w.heap.size r)
      case atStart => exact ⟨_, _, [], hid ⟨H2.out.1, World.ownsRow_nil _ _ _ _, gathered_start l, H2.out.2, by omega, by have := (mapD_size l).2; have := HL.out.2; simp; omega⟩⟩
      case round =>
        obtain ⟨left, cnt, L, HQ⟩ := hrel
        obtain ⟨w3, hw3⟩ : ∃ w3, w3 = wr := ⟨_, rfl⟩
        subst hw3
        go_wp2_with (at_next; refine halt ?_)
        refine unhalt ?_
        refine wpList_next_ranges _ rfl _ rfl 3 law_int heldR (Value.int .i64) id (fun key kl hkey => by obtain ⟨x, rfl, _⟩ := Maps.keyOf_int_inv Tryz.underlying3 hkey; exact ⟨x, rfl⟩) (fun v y hv => ⟨v, rfl⟩) w.heap.size r n _ _ _ rfl HQ.out.1 ?_ ?_
        · intro hc0 hl0
          have hown := HQ.out.2.1
          rcases hown.2 with ⟨rfl, h0⟩ | ⟨g, cap, cur, rfl, hgb, _⟩
          · obtain rfl : L = [] := List.length_eq_zero_iff.1 h0
            have HE : Hid (Rf.merge K W = []) := hid (by
              have := gathered_end (L' := []) HQ.out.2.2.1 hl0 (List.Perm.refl _) (fun i j h1 h2 h3 => by simp at h3)
              rw [← HL.out.1] at this
              exact this.symm)
            clear hown h0 hl0
            have HAN := hid (fun W' => ascNone none 0 W')
            go_wp2_with fail
            go_at_call 197; refine (HAN.out _).mono ?_; rintro e2 w4 ⟨rfl, hb4⟩
            have HB4 : Hid (Below w.heap.size w w4) := hid (by have := HQ.out.2.2.2.1; exact qL)
            clear hb4
            go_wp2_with fail
            refine bodyPost_ret (results_tmp rfl _ _ _) rfl ⟨_, rfl, ⟨HOK.out, by rw [HE.out]; simp, .inl ⟨rfl, HE.out⟩⟩, by rw [HE.out]; exact World.ownsRow_nil _ _ _ _, HB4.out⟩
          · have hp := PRow.of_own hown
            have HAS := hid (asc_ok g cap L L.length rfl (by have := HQ.out.2.2.2.2.2; omega) w3 hp)
            have HGL : Hid (∀ L', L'.Perm L → Srt.Asc 0 L.length L' → L' = Rf.merge K W) := hid (fun L' hp ha => by
              have := gathered_end HQ.out.2.2.1 hl0 hp (by rw [hp.length_eq]; exact ha)
              rw [this, ← HL.out.1]
              rfl)
            obtain ⟨m, hm⟩ : ∃ m, L.length = m := ⟨_, rfl⟩
            have HM := hid hm
            rw [hm] at HAS HGL ⊢
            clear hown hp hl0 hm
            go_wp2_with fail
            go_at_call 197; refine HAS.out.mono ?_; rintro e2 w4 ⟨rfl, ⟨L', hp', hperm, hasc⟩, ho4⟩
            have hE := HGL.out L' hperm hasc
            have H4 : Hid (PgRow w4 (.slice (some ⟨g, 0, none⟩) m cap) (Rf.merge K W) ∧ w4.ownsRow w.heap.size 75 9 (.slice (some ⟨g, 0, none⟩) m cap) (Rf.merge K W).length (pageCells (Rf.merge K W)) ∧ Below w.heap.size w w4) := hid (by
              subst hE
              have hlm : (Rf.merge K W).length = m := by rw [hperm.length_eq, HM.out]
              have hgw : w.heap.size ≤ g := by omega
              have hol := own_lower hp'.own hgw
              rw [hlm] at hol
              refine ⟨⟨HOK.out, by have := HLEN.out; unfold maxLen; omega, .inr ⟨g, cap, ?_, hp'.lt, fun i p hi j u hu => hp'.cells i p hi j u (by rw [Array.getElem?_toList]; exact hu)⟩⟩, by rw [hlm]; exact hol, below_grown HQ.out.2.2.2.1 ho4 (fun j hj => by cases hj; omega)⟩
              rw [hperm.length_eq, HM.out])
            clear hp' hperm hasc ho4 hE
            go_wp2_with fail
            refine bodyPost_ret (results_tmp rfl _ _ _) rfl ⟨.slice (some ⟨g, 0, none⟩) m cap, rfl, H4.out.1, H4.out.2.1, H4.out.2.2⟩
        · intro x c kl y w4 cnt4 hkey hlk hy hat hrg4 hlt4 hg4 hs4 hen
          obtain ⟨x', ex, rfl, hwx⟩ := Maps.keyOf_int_inv Tryz.underlying3 hkey
          cases ex
          obtain rfl : y = (.held c, []) := by simpa [heldR] using hy.symm
          have hhas := Maps.has_true_of_atKey hat
          rw [((mapD_facts l).2 x).1] at hhas
          obtain ⟨p, hp⟩ := Option.isSome_iff_exists.1 hhas
          have hcp : c = .agg p.cells := by
            have h1 := hat .nil
            rw [((mapD_facts l).2 x).2 p hp .nil] at h1
            simpa using h1.symm
          obtain ⟨hpx, hpl⟩ := latest_line hp
          subst hpx
          subst hcp
          have hgs := gathered_step HQ.out.2.2.1 hp hlk
          have hne : some r ≠ u8.ownBlock := own_ne HQ.out.2.1 (by omega)
          have hne2 : some w.heap.size ≠ u8.ownBlock := own_ne HQ.out.2.1 (by omega)
          have hown4 : w4.ownsRow (r + 1) 75 9 u8 L.length (pageCells L) := HQ.out.2.1.kept hg4 (.inr (fun e => hne e.symm))
          have hb4 : Below w.heap.size w w4 := below_grown HQ.out.2.2.2.1 hg4 (fun j hj => by cases hj; omega)
          have hov : u8.oneCell' = true := by obtain ⟨p, c, rfl⟩ := own_shape HQ.out.2.1; rfl
          have HG4 := hid (And.intro hgs (And.intro hne (And.intro hne2 (And.intro hown4 (And.intro hb4 (And.intro hrg4 (And.intro hlt4 hs4)))))))
          clear hkey hlk hy hat hhas hp hpl hgs hne hne2 hown4 hb4 hrg4 hlt4 hg4 hs4 hwx
          simp only [id, Bt.Page.cells] at hen ⊢
          go_wp2_with (at_builtin; refine halt ?_)
          refine unhalt ?_
          have hxc : p.cells = #[.int .i64 p.line, .int .u64 p.head, .int .u64 p.d0, .int .u64 p.d1, .int .u64 p.d2, .int .u64 p.d3, .int .u64 p.d4, .int .u64 p.d5, .int .u64 p.d6] := rfl
          refine wpList_append_mine rfl (.tmp 32) (.tmp 34) 42 rfl (r + 1) 75 i0 _ 9 72 Tryz.underlying42 hi hz0 hz1 hz2 rfl (by decide) u8 L.length (pageCells L) rfl
            (own_below (own_below HG4.out.2.2.2.1 (below_alloc (Below.refl _ _) _)) (below_alloc (Below.refl _ _) _)) ⟨w4.heap.size + 1, 0, none⟩ 1 1 p.cells.toList rfl rfl (nine_news (cs := p.cells) (Blk.made' (by simp)))
            (by intro u hu; simp [Bt.Page.cells] at hu; rcases hu with rfl | rfl | rfl | rfl | rfl | rfl | rfl | rfl | rfl <;> rfl) (by omega) (by have := HQ.out.2.2.2.2.2; unfold maxLen; omega) (by have := HQ.out.2.2.2.2.2; omega) (by have := HQ.out.2.2.2.2.1; have := HG4.out.2.2.2.2.2.2.2; simp; omega) ?_
          intro g5 cap5 w5 hown5 hg5
          have hrg5 := ((HG4.out.2.2.2.2.2.1.alloc (.cells p.cells 75)).alloc (.cells p.cells 75)).kept hg5 HG4.out.2.2.1 HG4.out.2.1
          have hb5 : Below w.heap.size w w5 := below_grown (show Below w.heap.size w ((w4.alloc (.cells p.cells 75)).alloc (.cells p.cells 75)) from by have := HG4.out.2.2.2.2.1; exact qL) hg5 (fun j hj => by have := own_row_ge HQ.out.2.1 j hj; omega)
          have hs5 : r + 1 ≤ w5.heap.size := by have := hg5.size; have := HQ.out.2.2.2.2.1; have := HG4.out.2.2.2.2.2.2.2; simp at *; omega
          have hpc : pageCells L ++ p.cells.toList = pageCells (L ++ [p]) := by simp [pageCells]
          have hown5 : w5.ownsRow (r + 1) 75 9 (.slice (some ⟨g5, 0, none⟩) (L.length + 1) cap5) (L ++ [p]).length (pageCells (L ++ [p])) := by rw [← hpc, List.length_append]; exact hown5
          have H5 := hid (And.intro hrg5 (And.intro hown5 (And.intro hb5 hs5)))
          clear hrg5 hown5 hb5 hs5 hg5 hpc hxc
          go_wp2_with fail
          refine ⟨⟨_, cnt4, L ++ [p], hid ⟨H5.out.1, H5.out.2.1, HG4.out.1, H5.out.2.2.1, H5.out.2.2.2, by have := HQ.out.2.2.2.2.2; have := HG4.out.2.2.2.2.2.2.1; simp; omega⟩⟩, ?_⟩
          rw [H5.out.1.left_eq, HQ.out.1.left_eq]
          exact HG4.out.2.2.2.2.2.2.1
def cmpHi : Value := .func (.func 206) #[] #[]
theorem hiIsort0 (p : Option Addr) (cap : Nat) (w : World) : Calls Tryz.prog 241 #[.slice p 0 cap, .int .i64 0, .int .i64 0, cmpHi] w fun e w' => e = .returned (.tuple #[]) ∧ Below w.heap.size w w' := by
  unfold cmpHi
  go_enter Tryz.func241, Tryz.ntmps241
  go_wp2_with fail
  refine wp_loop_rounds 1 ?_
  rw [rounds_succ]
  go_wp2_with fail
  refine bodyPost_end (results_none rfl _ _ _) rfl ⟨rfl, qL⟩
theorem hiPdq0 (p : Option Addr) (cap : Nat) (lim : Int) (w : World) : Calls Tryz.prog 195 #[.slice p 0 cap, .int .i64 0, .int .i64 0, .int .i64 lim, cmpHi] w fun e w' => e = .returned (.tuple #[]) ∧ Below w.heap.size w w' := by
  have HI := hid (fun W => hiIsort0 p cap W)
  unfold cmpHi at HI ⊢
  go_enter Tryz.func195, Tryz.ntmps195
  go_wp2_with fail
  refine wp_loop_rounds 1 ?_
  rw [rounds_succ]
  go_wp2_with fail
  go_at_call 241; refine (HI.out _).mono ?_; rintro e w1 ⟨rfl, hb1⟩; ((obtain ⟨hc1, hf1, hs1⟩ := qR hb1); (try have := qN0 w w1))
  go_wp2_with fail
  refine bodyPost_ret (results_none rfl _ _ _) rfl ⟨rfl, qL⟩
theorem hiSort0 (p : Option Addr) (cap : Nat) (w : World) : Calls Tryz.prog 147 #[.slice p 0 cap, cmpHi] w fun e w' => e = .returned (.tuple #[]) ∧ Below w.heap.size w w' := by
  have HH := hid (fun W => hiPdq0 p cap (Lib.bitLen 0) W)
  unfold cmpHi at HH ⊢
  go_enter Tryz.func147, Tryz.ntmps147
  go_wp2_with fail
  go_at_call 77; refine (Tryz.bits_Len 0 _ (by omega) (by omega)).mono ?_; rintro e w1 ⟨rfl, hw⟩; obtain rfl : w = w1 := hw.symm; clear hw
  go_wp2_with fail
  go_at_call 195; refine (HH.out _).mono ?_; rintro e w1 ⟨rfl, hb1⟩; ((obtain ⟨hc1, hf1, hs1⟩ := qR hb1); (try have := qN0 w w1))
  go_wp2_with fail
  refine bodyPost_end (results_none rfl _ _ _) rfl ⟨rfl, qL⟩
theorem hiFind (r : Nat) (kind key tl tg : Int) (vf vk : Value) (w : World) (B : Blk w r 337 (hrCells kind key tl tg vf vk (.slice none 0 0) 0 false (.slice none 0 0) 0 96 256)) (hn : HNone w) :
    Calls Tryz.prog 201 #[.pointer (some ⟨r, 0, none⟩)] w fun e w' => e = .returned (.tuple #[]) ∧ (∃ g, Blk w' r 337 (hrCells kind key tl tg vf vk (.slice none 0 0) 0 false (.slice (some ⟨g, 0, none⟩) 1 1) 0 96 256) ∧ w.heap.size ≤ g ∧ Blk w' g 3 #[.int .i64 96]) ∧ Over r w w' := by
  have HA := hid (hiAbsent r kind key tl tg vf vk (.slice none 0 0) 0 false (.slice none 0 0) 0 w.drew B.drew)
  obtain ⟨c0, c1, lt⟩ := hn
  have eq := eql_ptr
  have e1 : peq 0 0 0 0 = true := rfl
  have kc := B.cell
  have lc := B.lt
  clear B
  unfold hrCells at kc
  go_enter Tryz.func201, Tryz.ntmps201
  go_wp2_with fail
  go_region
  go_wp2_with fail
  go_at_call 255; refine HA.out.mono ?_; rintro e w1 ⟨rfl, ⟨g, B1, hg, K1⟩, ho⟩
  have hg' : w.heap.size ≤ g := hg
  have ho' : Over r w w1 := (Over.of_below (Below.refl _ _).drew).trans ho
  go_wp2_with fail
  refine bodyPost_ret (results_none rfl _ _ _) rfl ⟨rfl, ⟨g, B1, hg', K1⟩, ho'⟩
def hoCells (code : Int) (done : Bool) (vc : Value) (fresh : Int) : Array Value :=
  #[.int .i64 code, .bool false, .bool done, .bool false, .bool false, .bool false, .int .i64 0, .int .i64 0, vc, .int .i64 0, .int .i64 fresh]
theorem hiValidFind (w : World) : Calls Tryz.prog 199 #[.agg #[.int .i64 1, .int .u32 5, .int .i64 0, .int .i64 0, .slice none 0 0]] w fun e w' => e = .returned (.bool true) ∧ Below w.heap.size w w' := by
  go_enter Tryz.func199, Tryz.ntmps199
  go_wp2_with fail
  refine bodyPost_ret (results_tmp rfl _ _ _) rfl ⟨rfl, qL⟩
theorem hiNextFind (ks : List Bt.Page) (hlat : Bt.latest ks 96 = some zRootP) (vk : Value) (w : World) (hn : HNone w) (hp : PgRow w vk ks) :
    Calls Tryz.prog 156 #[.agg #[.int .i64 1, .int .u32 5, .int .i64 0, .int .i64 0, .slice none 0 0], vk] w fun e w' =>
      ∃ g, e = .returned (.tuple #[.slice none 0 0, .slice none 0 0, .agg (hoCells 0 false (.slice (some ⟨g, 0, none⟩) 1 1) 0), .bool true]) ∧ w.heap.size ≤ g ∧ Blk w' g 3 #[.int .i64 96] ∧ Below w.heap.size w w' := by
  have HV := hid (fun W => hiValidFind W)
  have HF := hid (fun r vf vk W h1 h2 => hiFind r 1 5 0 0 vf vk W h1 h2)
  have HR := hid (fun r vf vk W h1 h2 h3 h4 => hiReadRootRun ks hlat r 1 5 0 0 (.inl rfl) vf vk W h1 h2 h3 h4)
  have HS := hid (fun p c W => hiSort0 p c W)
  have HW := hid (And.intro hn hp)
  obtain ⟨pv, cv, rfl⟩ := hp.slice
  obtain ⟨nv, hnv⟩ : ∃ n, ks.length = n := ⟨_, rfl⟩
  rw [hnv] at HW ⊢
  have hgl := hn.lt
  clear hp hnv hn hlat
  unfold cmpHi at HS
  go_enter Tryz.func156, Tryz.ntmps156
  go_wp2_with fail
  go_at_call 199; refine (HV.out _).mono ?_; rintro e w1 ⟨rfl, hb1⟩; ((obtain ⟨hc1, hf1, hs1⟩ := qR hb1); (try have := qN0 w w1); (try have z1_w_1 := qN1 w w1))
  go_wp2_with fail
  have hbX : Below w.heap.size w (w1.alloc (.cells (hrCells 1 5 0 0 (.slice none 0 0) (.slice pv nv cv) (.slice none 0 0) 0 false (.slice none 0 0) 0 0 0) 337)) := qL
  have hne : 2 ≠ w1.heap.size := by omega
  go_at_call 200
  refine (HR.out w1.heap.size _ _ _ (HW.out.1.below hbX) (Blk.made w1 337 (hrCells 1 5 0 0 (.slice none 0 0) (.slice pv nv cv) (.slice none 0 0) 0 false (.slice none 0 0) 0 0 0)) (HW.out.2.below hbX) hne).mono ?_
  rintro e w2 ⟨rfl, B2, ho2⟩
  have hr : w.heap.size + 1 < w1.heap.size := z1_w_1
  have hb12 : Below w1.heap.size w1 w2 := below_grown (below_alloc (Below.refl w1.heap.size w1) _) ho2 (fun j hj => by cases hj; exact Nat.le_refl _)
  have hbw2 : Below w.heap.size w w2 := below_grown hbX ho2 (fun j hj => by cases hj; omega)
  have KO := (((Blk.made w 228 #[.int .i64 1, .int .u32 5, .int .i64 0, .int .i64 0, .slice none 0 0]).alloc (.cells (hoCells 0 false (.slice none 0 0) 0) 224)).kept hb1).kept hb12
  have KT := ((Blk.made' (w := w.alloc (.cells #[.int .i64 1, .int .u32 5, .int .i64 0, .int .i64 0, .slice none 0 0] 228)) (t := 224) (cs := hoCells 0 false (.slice none 0 0) 0) rfl).kept hb1).kept hb12
  rw [size_alloc] at KT
  have lr2 := B2.lt
  obtain ⟨r, hr'⟩ : ∃ r, w1.heap.size = r := ⟨_, rfl⟩
  rw [hr'] at B2 lr2 ho2 hr hne ⊢
  have H2 := hid (And.intro KO (And.intro KT (And.intro B2 hbw2)))
  have ko := KO.cell
  have lo := KO.lt
  clear KO KT B2 hbw2 hb12 ho2 hbX hc1 hf1 hs1 hb1 HR HV hr'
  go_wp2_with fail
  go_at_call 201
  refine (HF.out r _ _ _ H2.out.2.2.1 (HW.out.1.below H2.out.2.2.2)).mono ?_
  rintro e w3 ⟨rfl, ⟨g, B3, hg, G3⟩, ho3⟩
  have hbw3 : Below w.heap.size w w3 := below_grown H2.out.2.2.2 ho3 (fun j hj => by cases hj; omega)
  have KT3 := blk_over H2.out.2.1 ho3 (by omega)
  have H3 := hid (And.intro B3 (And.intro G3 (And.intro hbw3 KT3)))
  have k3 := B3.cell
  have l3 := B3.lt
  have hs3 : w2.heap.size ≤ w3.heap.size := ho3.size
  have hgw : w.heap.size ≤ g := by have := H2.out.2.2.2.size; omega
  unfold hrCells at k3
  clear B3 G3 hbw3 KT3 ho3 ko
  go_wp2_with fail
  go_at_call 147; refine (HS.out _ _ _).mono ?_; rintro e w4 ⟨rfl, hb4⟩; ((obtain ⟨hc4, hf4, hs4⟩ := qR hb4); (try have := qN0 w3 w4))
  have B4 := H3.out.1.kept hb4
  have G4 := H3.out.2.1.kept hb4
  have T4 := H3.out.2.2.2.kept hb4
  have hbw4 : Below w.heap.size w w4 := by have h := H3.out.2.2.1; exact qL
  have lr4 : r < w4.heap.size := B4.lt
  have lt4 : w.heap.size + 1 < w4.heap.size := T4.lt
  have lt3 := H3.out.2.2.2.lt
  have kt := H3.out.2.2.2.cell
  have ft := H3.out.2.2.2.free
  unfold hoCells at kt
  have hneR : w.heap.size + 1 ≠ r := by omega
  have H4 := hid (And.intro B4 (And.intro G4 (And.intro T4 hbw4)))
  clear B4 G4 T4 hbw4 hb4
  go_wp2_with fail
  refine qB (w.heap.size + 1) fun hSt => ?_
  refine qS [0, 1, 2, 3, 4, 5, 6, 7, 8, 9] ?_
  iterate 10 (refine qT ?_; simp only [Act.put, qY])
  refine TakeSeq.done ?_
  refine qH 10 fun K hK => ?_
  go_simp
  refine hK.out _ _ ((by repeat (first | with_reducible exact sb_self _ _ | with_reducible refine sb_drew ?_ | with_reducible refine SteadyBut.set ?_ _ _))) (fun hHeld => ?_)
  clear hK K
  refine qS [11] ?_
  refine qT ?_; simp only [Act.put, qY]
  refine TakeSeq.done ?_
  refine qD ?_ _
  go_wp2_with fail
  have hl : w.heap.size ≤ w.heap.size + 1 := by omega
  have G5 := H4.out.2.1
  have T5 := H4.out.2.2.1
  have hb5 := H4.out.2.2.2
  have hgt : w.heap.size + 1 < g := by omega
  refine bodyPost_ret (results_ttbt rfl _ _ (w.heap.size + 1) _ _ _ rfl (Blk.cast (((((((((((T5.put 0 _).put 1 _).put 2 _).put 3 _).put 4 _).put 5 _).put 6 _).put 7 _).put 8 _).put 9 _).put 10 _).drew rfl) Tryz.underlying224 rfl (by kernel_rfl)) rfl ⟨g, rfl, hgw, ?_, (((((((((((hb5.setCell hl _).setCell hl _).setCell hl _).setCell hl _).setCell hl _).setCell hl _).setCell hl _).setCell hl _).setCell hl _).setCell hl _).setCell hl _).drew⟩
  (repeat (first | with_reducible exact G5 | with_reducible apply Blk.put | with_reducible apply Blk.alloc | (with_reducible apply Blk.aside; (case hp => first | (simp; done) | (simp; omega))) | with_reducible apply Blk.drew))
end Go.Proofs.YtcoiehgcfjfhaaaGreatDoor
namespace Go.Proofs.YtcoiehgcfjfhaaaGreatDoor
namespace Sq
structure St where
  kind : Int
  key : Int
  last : Int
  c0 : Int
  c1 : Int
  c2 : Int
  col : Int
  value : Int
  wcol : Int
  wop : Int
  wval : Int
  limit : Int
def St.arr (s : St) : Array Value := #[.int .i64 s.kind, .int .u32 s.key, .int .u32 s.last, .int .i64 s.c0, .int .i64 s.c1, .int .i64 s.c2, .int .i64 s.col, .int .i64 s.value, .int .i64 s.wcol, .int .i64 s.wop, .int .i64 s.wval, .int .i64 s.limit]
def zero (kind : Int) : St := ⟨kind, 0, 0, 0, 0, 0, 0, 0, 0, 0, 0, 0⟩
def St.same (s t : St) : Bool := decide (s.kind = t.kind) && decide (s.key = t.key) && decide (s.last = t.last) && decide (s.c0 = t.c0) && decide (s.c1 = t.c1) && decide (s.c2 = t.c2) && decide (s.col = t.col) && decide (s.value = t.value) && decide (s.wcol = t.wcol) && decide (s.wop = t.wop) && decide (s.wval = t.wval) && decide (s.limit = t.limit)
theorem St.same_iff (s t : St) : s.same t = true ↔ s = t := by
  obtain ⟨a1, a2, a3, a4, a5, a6, a7, a8, a9, a10, a11, a12⟩ := s
  obtain ⟨b1, b2, b3, b4, b5, b6, b7, b8, b9, b10, b11, b12⟩ := t
  simp only [St.same, Bool.and_eq_true, decide_eq_true_eq, St.mk.injEq]
  constructor
  · rintro ⟨⟨⟨⟨⟨⟨⟨⟨⟨⟨⟨h1, h2⟩, h3⟩, h4⟩, h5⟩, h6⟩, h7⟩, h8⟩, h9⟩, h10⟩, h11⟩, h12⟩
    exact ⟨h1, h2, h3, h4, h5, h6, h7, h8, h9, h10, h11, h12⟩
  · rintro ⟨h1, h2, h3, h4, h5, h6, h7, h8, h9, h10, h11, h12⟩
    exact ⟨⟨⟨⟨⟨⟨⟨⟨⟨⟨⟨h1, h2⟩, h3⟩, h4⟩, h5⟩, h6⟩, h7⟩, h8⟩, h9⟩, h10⟩, h11⟩, h12⟩
def maxKey : Int := 4294967294
def St.keep (s d : St) (p : Nat) : St := match p with
  | 0 => { d with key := s.key }
  | 1 => { d with last := s.last }
  | 2 => { d with c0 := s.c0, c1 := s.c1, c2 := s.c2 }
  | 3 => { d with col := s.col }
  | 4 => { d with value := s.value }
  | 5 => { d with wcol := s.wcol, wop := s.wop, wval := s.wval }
  | 6 => { d with wcol := s.wcol, wop := s.wop, wval := s.wval }
  | 7 => { d with limit := s.limit }
  | _ => d
def St.test (s : St) : Bool := decide (1 ≤ s.wop) && decide (s.wop ≤ 6) && (decide (0 ≤ s.wcol) && decide (s.wcol < 3))
def St.bare (s : St) : Bool := decide (s.wcol = 0) && decide (s.wop = 0) && decide (s.wval = 0)
def St.okp (s : St) (p : Nat) : Bool := match p with
  | 0 => decide (1 ≤ s.key) && decide (s.key ≤ maxKey)
  | 1 => decide (s.key ≤ s.last) && decide (s.last ≤ maxKey)
  | 3 => decide (0 ≤ s.col) && decide (s.col < 3)
  | 5 => s.test
  | 6 => s.bare || s.test
  | 7 => decide (0 ≤ s.limit) && decide (s.limit ≤ 64)
  | _ => true
def parts : Nat → List Nat
  | 1 => [0, 2]
  | 2 => [0, 3, 4]
  | 3 => [0, 3, 4]
  | 4 => [0]
  | 5 => [0]
  | 6 => [0, 1, 6, 7]
  | 7 => [0, 1, 6]
  | 8 => [3, 0, 1, 6]
  | 9 => [0, 5]
  | _ => []
def St.valid (s : St) : Bool := decide (1 ≤ s.kind) && decide (s.kind ≤ 9) && (parts s.kind.toNat).all s.okp && ((parts s.kind.toNat).foldl s.keep (zero s.kind)).same s
def St.refValid (s : St) : Bool := decide (1 ≤ s.kind) && decide (s.kind ≤ 9) && decide (1 ≤ s.key) && decide (s.key ≤ maxKey) && ((parts s.kind.toNat).foldl s.keep (zero s.kind)).same s &&
  (!(decide (6 ≤ s.kind) && decide (s.kind ≤ 8)) || (decide (s.key ≤ s.last) && decide (s.last ≤ maxKey))) &&
  (decide (0 ≤ s.col) && decide (s.col ≤ 2) && (decide (0 ≤ s.wcol) && decide (s.wcol ≤ 2)) && (decide (0 ≤ s.wop) && decide (s.wop ≤ 6)) && (decide (0 ≤ s.limit) && decide (s.limit ≤ 64))) &&
  (!decide (s.wop = 0) || s.bare) && (!decide (s.kind = 9) || decide (0 < s.wop))
theorem valid_ref (s : St) : s.valid = s.refValid := by
  rw [Bool.eq_iff_iff]
  obtain ⟨k, key, last, c0, c1, c2, col, value, wcol, wop, wval, limit⟩ := s
  by_cases hk : 1 ≤ k ∧ k ≤ 9
  · rcases (by omega : k = 1 ∨ k = 2 ∨ k = 3 ∨ k = 4 ∨ k = 5 ∨ k = 6 ∨ k = 7 ∨ k = 8 ∨ k = 9) with rfl | rfl | rfl | rfl | rfl | rfl | rfl | rfl | rfl <;>
      (simp [St.valid, St.refValid, parts, St.okp, St.keep, zero, St.same, St.test, St.bare]; omega)
  · simp only [St.valid, St.refValid, Bool.and_eq_true, decide_eq_true_eq]
    constructor
    · rintro ⟨⟨⟨h1, h2⟩, _⟩, _⟩
      omega
    · rintro ⟨⟨⟨⟨⟨⟨⟨⟨h1, h2⟩, _⟩, _⟩, _⟩, _⟩, _⟩, _⟩, _⟩
      omega
end Sq
end Go.Proofs.YtcoiehgcfjfhaaaGreatDoor
namespace Go.Proofs.YtcoiehgcfjfhaaaGreatDoor
open Go.RowKit
theorem isColumn_ok (c : Int) (w : World) : Calls Tryz.prog 85 #[.int .i64 c] w fun e w' => e = .returned (.bool (decide (0 ≤ c) && decide (c < 3))) ∧ w = w' := by
  by_cases h1 : 0 ≤ c
  · by_cases h2 : c < 3
    · go_enter Tryz.func85, Tryz.ntmps85
      go_wp2
      refine bodyPost_ret (results_tmp rfl _ _ _) rfl ⟨?_, rfl⟩
      simp [h1, h2]
    · go_enter Tryz.func85, Tryz.ntmps85
      go_wp2
      refine bodyPost_ret (results_tmp rfl _ _ _) rfl ⟨?_, rfl⟩
      simp [h1, h2]
  · go_enter Tryz.func85, Tryz.ntmps85
    go_wp2
    refine bodyPost_ret (results_tmp rfl _ _ _) rfl ⟨?_, rfl⟩
    simp [h1]
    try (intro; omega)
theorem isTest_ok (c op v : Int) (w : World) : Calls Tryz.prog 86 #[.agg #[.int .i64 c, .int .i64 op, .int .i64 v]] w fun e w' => e = .returned (.bool (decide (1 ≤ op) && decide (op ≤ 6) && (decide (0 ≤ c) && decide (c < 3)))) ∧ Below w.heap.size w w' := by
  obtain ⟨cc, hcc⟩ : ∃ cc, cc = (decide (0 ≤ c) && decide (c < 3)) := ⟨_, rfl⟩
  have HC : Hid (∀ W, Calls Tryz.prog 85 #[.int .i64 c] W fun e w' => e = .returned (.bool cc) ∧ W = w') := hid (fun W => by rw [hcc]; exact isColumn_ok c W)
  rw [← hcc]
  clear hcc
  by_cases h1 : 1 ≤ op
  · by_cases h2 : op ≤ 6
    · go_enter Tryz.func86, Tryz.ntmps86
      go_wp2_with fail
      go_at_call 85
      refine (HC.out _).mono ?_
      rintro e w1 ⟨rfl, rfl⟩
      go_wp2
      refine bodyPost_ret (results_tmp rfl _ _ _) rfl ⟨?_, ?_⟩
      · simp [h1, h2]
      · exact qL
    · go_enter Tryz.func86, Tryz.ntmps86
      go_wp2_with fail
      refine bodyPost_ret (results_tmp rfl _ _ _) rfl ⟨?_, ?_⟩
      · simp [h1, h2]
        try (intro; omega)
      · exact qL
  · go_enter Tryz.func86, Tryz.ntmps86
    go_wp2_with fail
    refine bodyPost_ret (results_tmp rfl _ _ _) rfl ⟨?_, ?_⟩
    · simp [h1]
      try (intro; omega)
    · exact qL
def KeptPost (s d : Sq.St) (p : Nat) (w : World) (e : Ending) (w' : World) : Prop := e = .returned (.tuple #[.agg (s.keep d p).arr, .bool (s.okp p)]) ∧ Below w.heap.size w w'
set_option maxHeartbeats 2000000
set_option maxRecDepth 100000
theorem kept0 (s d : Sq.St) (w : World) : Calls Tryz.prog 52 #[.agg s.arr, .agg d.arr, .int .i64 0] w (KeptPost s d 0 w) := by
  unfold KeptPost
  cases h1 : decide (1 ≤ s.key)
  · have HX : Hid (s.okp 0 = false) := hid (by simp only [Sq.St.okp, Sq.maxKey, h1, Bool.false_and])
    unfold Sq.St.arr
    go_enter Tryz.func52, Tryz.ntmps52
    go_wp2_with fail
    go_region
    go_wp2
    simp [bodyPost, results, Tryz.results52, go_sem, Sq.St.keep, HX.out]
    exact qL
  · cases h2 : decide (s.key ≤ 4294967294)
    · have HX : Hid (s.okp 0 = false) := hid (by show (_ && _) = _; exact (congr (congrArg and h1) h2).trans rfl)
      unfold Sq.St.arr
      go_enter Tryz.func52, Tryz.ntmps52
      go_wp2_with fail
      go_region
      go_wp2
      simp [bodyPost, results, Tryz.results52, go_sem, Sq.St.keep, HX.out]
      exact qL
    · have HX : Hid (s.okp 0 = true) := hid (by show (_ && _) = _; exact (congr (congrArg and h1) h2).trans rfl)
      unfold Sq.St.arr
      go_enter Tryz.func52, Tryz.ntmps52
      go_wp2_with fail
      go_region
      go_wp2
      simp [bodyPost, results, Tryz.results52, go_sem, Sq.St.keep, HX.out]
      exact qL
theorem kept1 (s d : Sq.St) (w : World) : Calls Tryz.prog 52 #[.agg s.arr, .agg d.arr, .int .i64 1] w (KeptPost s d 1 w) := by
  unfold KeptPost
  cases h1 : decide (s.key ≤ s.last)
  · have HX : Hid (s.okp 1 = false) := hid (by simp only [Sq.St.okp, Sq.maxKey, h1, Bool.false_and])
    unfold Sq.St.arr
    go_enter Tryz.func52, Tryz.ntmps52
    go_wp2_with fail
    go_region
    go_wp2
    simp [bodyPost, results, Tryz.results52, go_sem, Sq.St.keep, HX.out]
    exact qL
  · cases h2 : decide (s.last ≤ 4294967294)
    · have HX : Hid (s.okp 1 = false) := hid (by show (_ && _) = _; exact (congr (congrArg and h1) h2).trans rfl)
      unfold Sq.St.arr
      go_enter Tryz.func52, Tryz.ntmps52
      go_wp2_with fail
      go_region
      go_wp2
      simp [bodyPost, results, Tryz.results52, go_sem, Sq.St.keep, HX.out]
      exact qL
    · have HX : Hid (s.okp 1 = true) := hid (by show (_ && _) = _; exact (congr (congrArg and h1) h2).trans rfl)
      unfold Sq.St.arr
      go_enter Tryz.func52, Tryz.ntmps52
      go_wp2_with fail
      go_region
      go_wp2
      simp [bodyPost, results, Tryz.results52, go_sem, Sq.St.keep, HX.out]
      exact qL
theorem kept2 (s d : Sq.St) (w : World) : Calls Tryz.prog 52 #[.agg s.arr, .agg d.arr, .int .i64 2] w (KeptPost s d 2 w) := by
  unfold Sq.St.arr KeptPost
  go_enter Tryz.func52, Tryz.ntmps52
  go_wp2
  simp [bodyPost, results, Tryz.results52, go_sem, Sq.St.keep, Sq.St.okp, Sq.St.arr]
  exact qL
theorem kept4 (s d : Sq.St) (w : World) : Calls Tryz.prog 52 #[.agg s.arr, .agg d.arr, .int .i64 4] w (KeptPost s d 4 w) := by
  unfold Sq.St.arr KeptPost
  go_enter Tryz.func52, Tryz.ntmps52
  go_wp2
  simp [bodyPost, results, Tryz.results52, go_sem, Sq.St.keep, Sq.St.okp, Sq.St.arr]
  exact qL
theorem kept7 (s d : Sq.St) (w : World) : Calls Tryz.prog 52 #[.agg s.arr, .agg d.arr, .int .i64 7] w (KeptPost s d 7 w) := by
  unfold KeptPost
  cases h1 : decide (0 ≤ s.limit)
  · have HX : Hid (s.okp 7 = false) := hid (by simp only [Sq.St.okp, Sq.maxKey, h1, Bool.false_and])
    unfold Sq.St.arr
    go_enter Tryz.func52, Tryz.ntmps52
    go_wp2_with fail
    go_region
    go_wp2
    simp [bodyPost, results, Tryz.results52, go_sem, Sq.St.keep, HX.out]
    exact qL
  · cases h2 : decide (s.limit ≤ 64)
    · have HX : Hid (s.okp 7 = false) := hid (by show (_ && _) = _; exact (congr (congrArg and h1) h2).trans rfl)
      unfold Sq.St.arr
      go_enter Tryz.func52, Tryz.ntmps52
      go_wp2_with fail
      go_region
      go_wp2
      simp [bodyPost, results, Tryz.results52, go_sem, Sq.St.keep, HX.out]
      exact qL
    · have HX : Hid (s.okp 7 = true) := hid (by show (_ && _) = _; exact (congr (congrArg and h1) h2).trans rfl)
      unfold Sq.St.arr
      go_enter Tryz.func52, Tryz.ntmps52
      go_wp2_with fail
      go_region
      go_wp2
      simp [bodyPost, results, Tryz.results52, go_sem, Sq.St.keep, HX.out]
      exact qL
theorem kept3 (s d : Sq.St) (w : World) : Calls Tryz.prog 52 #[.agg s.arr, .agg d.arr, .int .i64 3] w (KeptPost s d 3 w) := by
  have HC : Hid (∀ W, Calls Tryz.prog 85 #[.int .i64 s.col] W fun e w' => e = .returned (.bool (decide (0 ≤ s.col) && decide (s.col < 3))) ∧ W = w') := hid (fun W => isColumn_ok s.col W)
  unfold Sq.St.arr KeptPost
  go_enter Tryz.func52, Tryz.ntmps52
  go_wp2_with fail
  go_region_with (go_at_call 85; refine (HC.out _).mono ?_; rintro e w1 ⟨rfl, rfl⟩)
  all_goals
    go_wp2
    simp [bodyPost, results, Tryz.results52, go_sem, Sq.St.keep, Sq.St.okp, Sq.St.arr]
    exact qL
set_option maxHeartbeats 2000000
set_option maxRecDepth 100000
theorem kept5 (s d : Sq.St) (w : World) : Calls Tryz.prog 52 #[.agg s.arr, .agg d.arr, .int .i64 5] w (KeptPost s d 5 w) := by
  have HC : Hid (∀ W, Calls Tryz.prog 86 #[.agg #[.int .i64 s.wcol, .int .i64 s.wop, .int .i64 s.wval]] W fun e w' => e = .returned (.bool s.test) ∧ Below W.heap.size W w') := hid (fun W => isTest_ok s.wcol s.wop s.wval W)
  unfold Sq.St.arr KeptPost
  go_enter Tryz.func52, Tryz.ntmps52
  go_wp2_with fail
  go_region_with (go_at_call 86; refine (HC.out _).mono ?_; rintro e w1 ⟨rfl, hb⟩; ((obtain ⟨hc1, hf1, hs1⟩ := qR hb); (try have := qN0 w w1); (try have := qN1 w w1); (try have := qN2 w w1)))
  all_goals
    go_wp2
    have B := ((Blk.made' (n := w.heap.size + 1 + 1) (w := (w.alloc _).alloc _) (by simp)).drew).kept hb
    refine bodyPost_ret (results_bt rfl _ _ (w.heap.size + 1 + 1) 54 (s.keep d 5).arr _ rfl ?hB Tryz.underlying54 rfl (by kernel_rfl)) rfl ⟨rfl, ?_⟩
    case hB =>
      refine Blk.cast (by repeat (first | with_reducible exact B | with_reducible apply Blk.put | with_reducible apply Blk.drew)) ?_
      simp only [List.setIfInBounds_toArray, List.set_cons_zero, List.set_cons_succ]
      rfl
    exact qL
theorem eql_condition (a b c : Int) (w : World) : (binOp .eql 52 (.agg #[.int .i64 a, .int .i64 b, .int .i64 c]) (.agg #[.int .i64 0, .int .i64 0, .int .i64 0])).run Tryz.prog w = .ok (.bool (decide (a = 0) && decide (b = 0) && decide (c = 0))) w := by
  simp [go_sem]
  by_cases h1 : a = 0 <;> by_cases h2 : b = 0 <;> by_cases h3 : c = 0 <;> simp [h1, h2, h3]
theorem kept6 (s d : Sq.St) (w : World) : Calls Tryz.prog 52 #[.agg s.arr, .agg d.arr, .int .i64 6] w (KeptPost s d 6 w) := by
  have HC : Hid (∀ W, Calls Tryz.prog 86 #[.agg #[.int .i64 s.wcol, .int .i64 s.wop, .int .i64 s.wval]] W fun e w' => e = .returned (.bool s.test) ∧ Below W.heap.size W w') := hid (fun W => isTest_ok s.wcol s.wop s.wval W)
  cases h1 : s.bare
  · have HX : Hid (s.okp 6 = s.test) := hid (by simp only [Sq.St.okp, h1, Bool.false_or])
    have ne : ∀ w, (binOp .eql 52 (.agg #[.int .i64 s.wcol, .int .i64 s.wop, .int .i64 s.wval]) (.agg #[.int .i64 0, .int .i64 0, .int .i64 0])).run Tryz.prog w = .ok (.bool false) w := fun w => by rw [eql_condition]; rw [← h1]; rfl
    unfold Sq.St.arr KeptPost
    rw [HX.out]
    clear h1
    go_enter Tryz.func52, Tryz.ntmps52
    go_wp2_with fail
    go_region_with (go_at_call 86; refine (HC.out _).mono ?_; rintro e w1 ⟨rfl, hb⟩; ((obtain ⟨hc1, hf1, hs1⟩ := qR hb); (try have := qN0 w w1); (try have := qN1 w w1); (try have := qN2 w w1)))
    all_goals
      go_wp2
      have B := ((Blk.made' (n := w.heap.size + 1 + 1) (w := (w.alloc _).alloc _) (by simp)).drew).kept hb
      refine bodyPost_ret (results_bt rfl _ _ (w.heap.size + 1 + 1) 54 (s.keep d 6).arr _ rfl ?hB Tryz.underlying54 rfl (by kernel_rfl)) rfl ⟨rfl, ?_⟩
      case hB =>
        refine Blk.cast (by repeat (first | with_reducible exact B | with_reducible apply Blk.put | with_reducible apply Blk.drew)) ?_
        simp only [List.setIfInBounds_toArray, List.set_cons_zero, List.set_cons_succ]
        rfl
      exact qL
  · have HX : Hid (s.okp 6 = true) := hid (by simp only [Sq.St.okp, h1, Bool.true_or])
    have ne : ∀ w, (binOp .eql 52 (.agg #[.int .i64 s.wcol, .int .i64 s.wop, .int .i64 s.wval]) (.agg #[.int .i64 0, .int .i64 0, .int .i64 0])).run Tryz.prog w = .ok (.bool true) w := fun w => by rw [eql_condition]; rw [← h1]; rfl
    unfold Sq.St.arr KeptPost
    rw [HX.out]
    clear h1
    go_enter Tryz.func52, Tryz.ntmps52
    go_wp2_with fail
    go_region
    go_wp2
    simp [bodyPost, results, Tryz.results52, go_sem, Sq.St.keep, Sq.St.arr]
    exact qL
theorem kept_ok (s d : Sq.St) (p : Nat) (hp : p < 8) (w : World) : Calls Tryz.prog 52 #[.agg s.arr, .agg d.arr, .int .i64 p] w (KeptPost s d p w) := by
  rcases (by omega : p = 0 ∨ p = 1 ∨ p = 2 ∨ p = 3 ∨ p = 4 ∨ p = 5 ∨ p = 6 ∨ p = 7) with rfl | rfl | rfl | rfl | rfl | rfl | rfl | rfl
  · exact kept0 s d w
  · exact kept1 s d w
  · exact kept2 s d w
  · exact kept3 s d w
  · exact kept4 s d w
  · exact kept5 s d w
  · exact kept6 s d w
  · exact kept7 s d w
def Bytes (cur : Array Value) (n : Nat) : Prop := ∀ i, i < n → ∃ b : Int, cur[i]? = some (.int .u8 b)
theorem Bytes.set {cur : Array Value} {n : Nat} (h : Bytes cur n) (i : Nat) (b : Int) : Bytes (cur.setIfInBounds i (.int .u8 b)) n := by
  intro k hk
  by_cases he : i = k
  · subst he
    obtain ⟨b', hb'⟩ := h i hk
    have hs := (Array.getElem?_eq_some_iff.1 hb').1
    exact ⟨b, by simp [hs]⟩
  · obtain ⟨b', hb'⟩ := h k hk
    exact ⟨b', by simp [he, hb']⟩
def RevPost (g n : Nat) (w : World) (e : Ending) (w' : World) : Prop := e = .returned (.tuple #[]) ∧ (∃ cur, Blk w' g 5 cur ∧ Bytes cur n) ∧ Over g w w'
theorem reverse_bytes (g cap n : Nat) (cur : Array Value) (w : World) (hB : Blk w g 5 cur) (hb : Bytes cur n) (hn : n ≤ 30) :
    Calls Tryz.prog 87 #[.slice (some ⟨g, 0, none⟩) n cap] w (RevPost g n w) := by
  have HB := hid (And.intro hB hb)
  clear hB hb
  unfold RevPost
  have wn : IntKind.i64.wrap ((n : Int) - 1) = (n : Int) - 1 := by rw [IntKind.wrap_i64]; omega
  go_enter Tryz.func87, Tryz.ntmps87
  go_wp2_with fail
  go_loopw [2, 3] (fun i j wr => ∃ (a b : Int) (c : Array Value), i = .int .i64 a ∧ j = .int .i64 b ∧ Hid (0 ≤ a ∧ a ≤ n ∧ -1 ≤ b ∧ b < n) ∧ Hid (Blk wr g 5 c ∧ Bytes c n ∧ Over g w wr)) (fun i j _ => (intOf j + 1 - intOf i).toNat)
  case atStart => exact ⟨0, (n : Int) - 1, cur, rfl, rfl, hid ⟨by omega, by omega, by omega, by omega⟩, hid ⟨HB.out.1, HB.out.2, Over.refl _ _⟩⟩
  case round =>
    obtain ⟨a, b, c, rfl, rfl, HN, HR⟩ := hrel
    by_cases hab : a < b
    · have b1 : decide (a < b) = true := by simpa using hab
      obtain ⟨n1, n2, n3, n4⟩ := HN.out
      have wa : IntKind.i64.wrap (a + 1) = a + 1 := by rw [IntKind.wrap_i64]; omega
      have wb : IntKind.i64.wrap (b - 1) = b - 1 := by rw [IntKind.wrap_i64]; omega
      obtain ⟨x, hx⟩ := HR.out.2.1 a.toNat (by omega)
      obtain ⟨y, hy⟩ := HR.out.2.1 b.toNat (by omega)
      have j2 : decide (a < 0) = false := by simp; omega
      have j4 : 0 ≤ a := by omega
      have j5 : a < (n : Int) := by omega
      have k2 : decide (b < 0) = false := by simp; omega
      have k4 : 0 ≤ b := by omega
      have k5 : b < (n : Int) := by omega
      have hne : (a.toNat = b.toNat) = False := eq_false (by omega)
      have hne2 : (b.toNat = a.toNat) = False := eq_false (by omega)
      have HX := hid (And.intro hx hy)
      have kb := HR.out.1.cell
      have fb := HR.out.1.free
      have hlt := HR.out.1.lt
      have ca : wr.cell? ⟨g, a.toNat, none⟩ = some (.int .u8 x) := by rw [kb]; exact hx
      have cb : wr.cell? ⟨g, b.toNat, none⟩ = some (.int .u8 y) := by rw [kb]; exact hy
      clear kb hx hy n1 n2 n3 n4
      go_wp2_with fail
      go_region
      go_wp2_with fail
      have hn := HN.out
      exact ⟨⟨a + 1, b - 1, (c.setIfInBounds a.toNat (.int .u8 y)).setIfInBounds b.toNat (.int .u8 x), rfl, rfl, hid ⟨by omega, by omega, by omega, by omega⟩, hid ⟨((HR.out.1.put _ _).put _ _).drew, (HR.out.2.1.set _ _).set _ _, ((HR.out.2.2.put _ _).put _ _).drew⟩⟩, by simp [intOf]; omega⟩
    · have b1 : decide (a < b) = false := by simpa using hab
      go_wp2_with fail
      exact bodyPost_end (results_none rfl _ _ _) rfl ⟨rfl, ⟨c, HR.out.1, HR.out.2.1⟩, HR.out.2.2⟩
def OneText (m : Nat) (w : World) (e : Ending) (w' : World) : Prop := ∃ s, e = .returned (.string s) ∧ s.data.toList.length ≤ m ∧ Below w.heap.size w w'
def lenZ : Value → Nat
  | .slice _ 0 _ => 1
  | _ => 0
theorem infoByte : (Tryz.prog.info? 5).map (fun i => (i.zero, i.size, i.bytes)) = some (some (.int .u8 0), 1, 1) := by kernel_rfl
theorem Bytes.list {cur : Array Value} : ∀ {n : Nat}, Bytes cur n → ∃ ys : List Int, ys.length = n ∧ ∀ i, i < n → cur[i]? = some (.int .u8 (ys.getD i 0))
  | 0, _ => ⟨[], rfl, fun i h => by omega⟩
  | n + 1, h => by
    obtain ⟨ys, h1, h2⟩ := Bytes.list (n := n) (fun i hi => h i (by omega))
    obtain ⟨b, hb⟩ := h n (by omega)
    refine ⟨ys ++ [b], by simp [h1], fun i hi => ?_⟩
    by_cases e : i = n
    · subst e
      rw [hb]
      simp [List.getD, h1]
    · rw [h2 i (by omega)]
      simp only [List.getD]
      rw [List.getElem?_append_left (by omega)]
theorem over_below {b : Nat} {w w' : World} (h : Over b w w') (hb : w.heap.size ≤ b) : Below w.heap.size w w' :=
  ⟨h.os, h.tape, h.output, h.size, fun k hk => h.block k hk (by simp; omega)⟩
def u8s (l : List Int) : List Value := l.map (Value.int .u8)
theorem decimal_ok (v : Int) (h1 : -9223372036854775808 ≤ v) (h2 : v ≤ 9223372036854775807) (w : World) : Calls Tryz.prog 55 #[.int .i64 v] w (OneText 21 w) := by
  obtain ⟨i0, hi, hz0, hz1, hz2⟩ := info_parts infoByte
  have HV := hid (And.intro h1 h2)
  clear h1 h2
  unfold OneText
  go_enter Tryz.func55, Tryz.ntmps55
  obtain ⟨cv, hcv⟩ : ∃ c, decide (v < 0) = c := ⟨_, rfl⟩
  have HC := hid hcv
  obtain ⟨x1, hx1⟩ : ∃ x, IntKind.u64.wrap v = x := ⟨_, rfl⟩
  obtain ⟨x2, hx2⟩ : ∃ x, IntKind.u64.wrap (-x1) = x := ⟨_, rfl⟩
  have HX1 : Hid ((0 ≤ x1 ∧ x1 < 18446744073709551616) ∧ 0 ≤ x2 ∧ x2 < 18446744073709551616) := hid (by
    rw [IntKind.wrap_u64] at hx1 hx2
    omega)
  clear HC
  go_upto_region 2 with (fail)
  go_cut [9] from 8 to 9 (fun c wx => c = .bool cv ∧ wx = w)
  case first =>
    go_wp2_with fail
    go_meet
    exact ⟨rfl, rfl⟩
  case rest =>
  obtain ⟨rfl, hw⟩ := hcut
  have hw2 := hw.symm
  clear hw
  subst hw2
  go_step
  go_cut [3, 4] from 9 to 11 (fun a s wx => ∃ (x : Int) (st : ByteArray), a = .int .u64 x ∧ s = .string st ∧ Hid (0 ≤ x ∧ x < 18446744073709551616 ∧ st.data.toList.length ≤ 1) ∧ wx = w)
  case first =>
    cases cv
    · go_wp2_with fail
      go_meet
      exact ⟨x1, _, rfl, rfl, hid ⟨HX1.out.1.1, HX1.out.1.2, by decide⟩, rfl⟩
    · go_wp2_with fail
      go_meet
      exact ⟨x2, _, rfl, rfl, hid ⟨HX1.out.2.1, HX1.out.2.2, by decide⟩, rfl⟩
  case rest =>
  obtain ⟨x0, st, rfl, rfl, HX, hw⟩ := hcut
  have hw2 := hw.symm
  clear hw
  subst hw2
  clear hx1 hx2 hcv
  go_wp2_with fail
  go_loopw [3, 5] (fun a d wr => ∃ (x : Int) (k : Nat) (l : List Int), a = .int .u64 x ∧ Hid ((0 ≤ x ∧ x < 18446744073709551616) ∧ x < 10 ^ (20 - k) ∧ k ≤ 20 ∧ l.length = k ∧ wr.ownsRow w.heap.size 5 1 d k (u8s l) ∧ Below w.heap.size w wr)) (fun a d _ => (intOf a).toNat + lenZ d)
  case atStart => exact ⟨x0, 0, [], rfl, hid ⟨⟨HX.out.1, HX.out.2.1⟩, by have := HX.out.2.1; omega, by omega, rfl, World.ownsRow_nil _ _ _ _, Below.refl _ _⟩⟩
  case round =>
    obtain ⟨x, k, l, rfl, HR⟩ := hrel
    obtain ⟨p, c, hp⟩ := own_shape HR.out.2.2.2.2.1
    subst hp
    obtain ⟨cd, hcd⟩ : ∃ b : Bool, (decide (0 < x) || ((k : Int) == 0)) = b := ⟨_, rfl⟩
    have HD := hid hcd
    clear hcd
    go_upto_region 5 with (fail)
    go_cut [18] from 12 to 18 (fun c wx => c = .bool cd ∧ wx = wr)
    case first =>
      cases g1 : decide (0 < x)
      · have hz : ((k : Int) == 0) = cd := by rw [← HD.out, g1]; rfl
        go_wp2_with fail
        go_meet
        exact ⟨rfl, rfl⟩
      · have hz : true = cd := by rw [← HD.out, g1]; rfl
        go_wp2_with fail
        go_meet
        exact ⟨rfl, rfl⟩
    case rest =>
      obtain ⟨rfl, hw⟩ := hcut
      have hw2 := hw.symm
      clear hw
      subst hw2
      cases cd
      · have hx0 : x = 0 ∧ k ≠ 0 := by have := HR.out.1.1; have := HD.out; simp at this; omega
        rcases HR.out.2.2.2.2.1.2 with ⟨h0, hk0⟩ | ⟨g, cap, cur, hv, hge, hblk, _⟩
        · omega
        · simp only [Value.slice.injEq, true_and] at hv
          obtain ⟨rfl, rfl⟩ := hv
          have hblk : Blk wr g 5 cur := hblk
          have hby : Bytes cur k := fun i hi => by
            have h1 := own_cells HR.out.2.2.2.2.1 i (.int .u8 (l[i]'(by have := HR.out.2.2.2.1; omega))) (by simp [u8s])
            rw [hblk.cell] at h1
            exact ⟨_, h1⟩
          have HRV := hid (reverse_bytes g c k cur wr hblk hby (by have := HR.out.2.2.1; omega))
          have HG := hid hge
          clear hblk hby hge
          go_wp2_with fail
          go_at_call 87
          refine HRV.out.mono ?_
          rintro e w2 ⟨rfl, ⟨cur2, hB2, hb2⟩, ho2⟩
          obtain ⟨ys, hys, hyc⟩ := hb2.list
          have hcv : (convert 145 9 (.slice (some ⟨g, 0, none⟩) k c)).run Tryz.prog w2 = .ok (.string (strOfNums ys)) w2 :=
            run_convert_bytes_arg (P := Tryz.prog) w2 145 5 Tryz.underlying145 Tryz.underlying5 g 0 k c ys hys (fun i hi => by rw [Nat.zero_add, hB2.cell]; exact hyc i hi) 9 Tryz.underlying9
          obtain ⟨sx, hsx⟩ : ∃ s, strOfNums ys = s := ⟨_, rfl⟩
          have HS : Hid (sx.data.toList.length ≤ 20) := hid (by rw [← hsx, strOfNums_data]; simp [hys]; have := HR.out.2.2.1; omega)
          rw [hsx] at hcv
          have HFIN : Hid (Below w.heap.size w w2) := hid (by
            have h1 := HR.out.2.2.2.2.2
            exact over_below ((Over.of_below (b := g) h1).trans ho2) HG.out)
          have hsum : st.size + sx.size ≤ 9223372036854775807 := by have h1 := HX.out.2.2; have h2 := HS.out; simp only [Array.length_toList] at h1 h2; show st.data.size + sx.data.size ≤ _; omega
          clear hyc hsx hys hB2 hb2 ho2
          go_wp2_with fail
          exact bodyPost_ret (results_tmp rfl _ _ _) rfl ⟨_, rfl, by have h1 := HX.out.2.2; have h2 := HS.out; have e1 : st.data.size = st.size := rfl; have e2 : sx.data.size = sx.size := rfl; simp only [Array.length_toList, e1, e2] at h1 h2 ⊢; simp; omega, HFIN.out⟩
      · obtain ⟨z, hz⟩ : ∃ z, IntKind.u64.wrap (48 + x.tmod 10) % 256 = z := ⟨_, rfl⟩
        go_wp2_with (at_builtin; refine halt ?_)
        refine unhalt ?_
        refine wpList_append_mine rfl (.tmp 19) (.tmp 24) 145 rfl w.heap.size 5 i0 _ 1 1 Tryz.underlying145 hi hz0 hz1 hz2 rfl (by decide) (.slice p k c) k (u8s l) rfl (own_below HR.out.2.2.2.2.1 (below_alloc (Below.refl _ _) _)) ⟨wr.heap.size, 0, none⟩ 1 1
          [.int .u8 z] rfl rfl (one_news (u := .int .u8 z) ((Blk.made wr _ _).cell 0)) (by intro u hu; simp at hu; subst hu; rfl) (by omega) (by have := HR.out.2.2.1; unfold maxLen; omega) (by have := HR.out.2.2.1; omega) (by have := HR.out.2.2.2.2.2.size; simp; omega) ?_
        intro g3 cap3 w3 hown3 hg3
        have hb3 : Below w.heap.size w w3 := below_grown (w := w) (show Below w.heap.size w _ from below_alloc HR.out.2.2.2.2.2 _) hg3 (fun j hj => own_row_ge HR.out.2.2.2.2.1 j hj)
        have hk20 : k < 20 := by
          have h1 := HR.out
          have h2 := HD.out
          by_cases hk : k = 20
          · subst hk
            have h3 := h1.2.1
            have h4 := h1.1.1
            simp at h3 h2
            omega
          · omega
        have h10 : (10 : Int) ^ (20 - k) = 10 * 10 ^ (20 - (k + 1)) := by
          rw [show 20 - k = (20 - (k + 1)) + 1 by omega, Int.pow_succ]
          omega
        have hq : x.tdiv 10 = x / 10 := Int.tdiv_eq_ediv_of_nonneg HR.out.1.1
        have H3 : Hid ((0 ≤ x / 10 ∧ x / 10 < 18446744073709551616) ∧ x / 10 < 10 ^ (20 - (k + 1)) ∧ k + 1 ≤ 20 ∧ (l ++ [z]).length = k + 1 ∧ w3.ownsRow w.heap.size 5 1 (.slice (some ⟨g3, 0, none⟩) (k + 1) cap3) (k + 1) (u8s (l ++ [z])) ∧ Below w.heap.size w w3) := hid ⟨by have := HR.out.1; omega, by have h1 := HR.out.2.1; rw [h10] at h1; omega, by omega, by simp; exact HR.out.2.2.2.1, by rw [show u8s (l ++ [z]) = u8s l ++ [.int .u8 z] by simp [u8s]]; exact hown3, hb3⟩
        have HM : Hid (x / 10 < x ∨ k = 0 ∧ x / 10 ≤ x) := hid (by
          have h1 := HR.out.1.1
          have h2 := HD.out
          simp at h2
          omega)
        have wq : IntKind.u64.wrap (x / 10) = x / 10 := by rw [IntKind.wrap_u64]; have := HR.out.1; omega
        have HX0 := hid HR.out.1.1
        clear hown3 hg3 hb3 h10 hk20 hz
        go_wp2_with fail
        refine ⟨⟨x / 10, k + 1, l ++ [z], rfl, H3⟩, ?_⟩
        have h1 := HM.out
        have h2 := HX0.out
        rcases k with _ | k
        · show (x / 10).toNat + 0 < x.toNat + 1
          omega
        · show (x / 10).toNat + 0 < x.toNat + 0
          omega
end Go.Proofs.YtcoiehgcfjfhaaaGreatDoor
