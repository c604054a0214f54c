/- Package btree: the step function, for kill. -/
import Derived.Test.YtjmpekanlmepmaaGreatDoorBB23
import Derived.Test.YtjmpekanlmepmaaGreatDoorBB16
import Derived.Test.YtjmpekanlmepmaaGreatDoorBB19
set_option linter.all false
set_option maxRecDepth 20000
set_option maxHeartbeats 8000000
open Go.Lib (hid)
namespace Go.Proofs.YtjmpekanlmepmaaGreatDoor
open Go.RowKit
theorem Zat (op : Bt.Op) (known : List Bt.Page) (fa ka : Option Addr) (fn fc kn kc : Nat) (w : World) (hf : PgRow w (.slice fa fn fc) op.fresh) (hk : PgRow w (.slice ka kn kc) known) (hn : NoneAt w)
 (hkind : op.kind = 7) (hv : op.isValid = true) (p : Bt.Page) (q : Bt.Ptr) (lv : Int) (hl : Bt.latest known 96 = some p) (hlk : Bt.locked p = false) (hr : Bt.Z1p p = some (q, lv))
 (s2 : Bt.St) (hsn : s2.need = []) (hso : Z1u s2.writes) (o : Bt.Out) (hoF : s2.ended = false → o = { s2.out with hops := 0, height := 0, dead := false, unposted := false }) (hoT : s2.ended = true → o = s2.out)
 (HM : Hid (∀ b w', IsRun (fun _ => False) op known (.slice fa fn fc) (.slice ka kn kc) { ({} : Bt.St) with rootPage := p, root := q } b w' →
  Calls Tryz.prog 57 #[.pointer (some ⟨b, 0, none⟩)] w' (Z0y (fun _ => False) op known (.slice fa fn fc) (.slice ka kn kc) s2 b (.tuple #[]) w'))) :
 Calls Tryz.prog 27 #[.agg (Z0d op (.slice fa fn fc)), .slice ka kn kc] w (Z1S s2.writes o w) := by
 have Hf := hid hf
 have Hk := hid hk
 have Hn := hid hn
 have HV := hid (fun wx => Z5B op (.slice fa fn fc) wx hkind hv)
 have HRR := hid (fun b wx h1 h2 => Z2n (fun _ => False) op known (.slice fa fn fc) (.slice ka kn kc) {} b p q lv wx h1 h2 hl hlk hr)
 have b1 : (op.kind == 1) = false := by simp [hkind]
 have b2 : (op.kind == 2) = false := by simp [hkind]
 have b3 : (op.kind == 3) = false := by simp [hkind]
 have b4 : (op.kind == 4) = false := by simp [hkind]
 have b5 : (op.kind == 5) = false := by simp [hkind]
 have b6 : (op.kind == 6) = false := by simp [hkind]
 have b7 : (op.kind == 7) = true := by simp [hkind]
 clear hf hk hn hkind hv hl hlk hr
 unfold Z0d at HV ⊢
 have tg72 := trivial
 have tg73 := trivial
 exact wG10
theorem Zc6 (g cap base : Nat) (p q : Bt.Page) (hpq : q.line < p.line) (w : World) (h : w.ownsRow base 25 9 (.slice (some ⟨g, 0, none⟩) 2 cap) 2 (Z0q [p, q])) :
 Calls Tryz.prog 111 #[.slice (some ⟨g, 0, none⟩) 2 cap, .int .i64 0, .int .i64 2, Z1D] w fun e w' => e = .returned (.tuple #[]) ∧ w'.ownsRow base 25 9 (.slice (some ⟨g, 0, none⟩) 2 cap) 2 (Z0q [q, p]) ∧ Over g w w' := by
 have hlt := (Z0X h).2
 have hr0 : w.rangeAt g (0 * 9) p.cells.toList := fun j u hu => by
  have hj : j < 9 := by have := (List.getElem?_eq_some_iff.1 hu).1; simpa [Bt.Page.cells] using this
  refine Z0i h _ _ ?_
  rw [Nat.zero_mul, Nat.zero_add]
  simp only [Z0q, List.flatMap_cons]
  rw [List.getElem?_append_left (by simpa [Bt.Page.cells] using hj)]
  exact hu
 have hr1 : w.rangeAt g (1 * 9) q.cells.toList := fun j u hu => by
  have hj : j < 9 := by have := (List.getElem?_eq_some_iff.1 hu).1; simpa [Bt.Page.cells] using this
  refine Z0i h _ _ ?_
  simp only [Z0q, List.flatMap_cons]
  rw [List.getElem?_append_right (by simp [Bt.Page.cells])]
  have e1 : 1 * 9 + j - p.cells.toList.length = j := by simp [Bt.Page.cells]
  rw [e1, List.getElem?_append_left (by simpa [Bt.Page.cells] using hj)]
  exact hu
 obtain ⟨c0, c1, c2, c3, c4, c5, c6, c7, c8⟩ := nine hr0
 obtain ⟨d0, d1, d2, d3, d4, d5, d6, d7, d8⟩ := nine hr1
 have hcmp : decide (Lib.compareInt q.line p.line < 0) = true := by
  simp only [Lib.compareInt]
  simp [hpq]
 obtain ⟨cur, hB, hbg, hc2, hcm, hcs, hct⟩ : ∃ cur : Array Value, Blk w g 25 cur ∧ base ≤ g ∧ 2 ≤ cap ∧ cap ≤ maxLen ∧ cur.size = cap * 9 ∧ cur.toList.take 18 = Z0q [p, q] := by
  rcases h.2 with ⟨h', _⟩ | ⟨g', cap', cur, h', h0, h1, h2, h3, h4, h5⟩
  ·simp at h'
  ·simp only [Value.slice.injEq, Option.some.injEq, Addr.mk.injEq, and_true, true_and] at h'
   obtain ⟨rfl, rfl⟩ := h'
   exact ⟨cur, h1, h0, h2, h3, h4, h5⟩
 have hfz := hB.free
 have hcur : cur = ((p.cells.toList ++ q.cells.toList) ++ cur.toList.drop 18).toArray := by
  have e1 : p.cells.toList ++ q.cells.toList = cur.toList.take 18 := by rw [hct]; simp [Z0q]
  rw [e1, List.take_append_drop]
 have HB := hid hB
 have HCU := hid hcur
 clear hB hct hcur
 simp only [Nat.zero_mul, Nat.zero_add, Nat.one_mul] at c0 c1 c2 c3 c4 c5 c6 c7 c8 d0 d1 d2 d3 d4 d5 d6 d7 d8
 clear h hr0 hr1
 have wr0 : IntKind.i64.wrap 0 = 0 := by rfl
 unfold Z1D
 go_enter Tryz.func111, Tryz.ntmps111
 go_wp2_with fail
 refine wp_loop_rounds 2 ?_
 rw [rounds_succ]
 go_wp2_with fail
 refine wp_loop_rounds 2 ?_
 rw [rounds_succ]
 go_wp2_with fail
 refine qA fun hSt => ?_
 refine qS [0, 1, 2, 3, 4, 5, 6, 7, 8, 9, 10, 11, 12, 13] ?_
 iterate 14 (refine qT ?_; simp only [Act.put, qY])
 refine Z00.done ?_
 refine qH 14 fun K hK => ?_
 go_simp
 go_at_call 60; refine (Z6d q p _).mono ?_; rintro e w1 ⟨rfl, hb⟩; ((obtain ⟨hc1, hf1, hs1⟩ := qR hb); (try have := qN0 w w1))
 go_wp2_with fail
 refine hK.out _ _ (SteadyAll.of qL) (fun hHeld => ?_)
 clear hK K
 refine qS [15, 16] ?_
 iterate 2 (refine qT ?_; simp only [Act.put, qY])
 refine Z00.done ?_
 refine qD ?_ _
 go_wp2_with fail
 go_region
 all_goals go_wp2_with fail
 all_goals rw [rounds_succ]
 all_goals go_wp2_with fail
 refine qA fun hSt => ?_
 refine qS [0, 1, 2, 3, 4, 5, 6, 7, 8, 9, 10, 11, 12, 13, 14, 15, 16] ?_
 iterate 17 (refine qT ?_; simp only [Act.put, qY])
 refine Z00.done ?_
 refine qD ?_ _
 go_wp2_with fail
 rw [rounds_succ]
 go_wp2_with fail
 have B1 : Blk w1 g 25 ((p.cells.toList ++ q.cells.toList) ++ cur.toList.drop 18).toArray := by rw [← HCU.out]; exact HB.out.kept (show Below w.heap.size w w1 from qL)
 have O1 : Over g w w1 := Over.of_below (show Below w.heap.size w w1 from qL)
 refine bodyPost_end (results_none rfl _ _ _) rfl ⟨rfl, ⟨by simp [Z0q, Bt.Page.cells], .inr ⟨g, cap, ((q.cells.toList ++ p.cells.toList) ++ cur.toList.drop 18).toArray, rfl, hbg, ?_, hc2, hcm, ?_, ?_⟩⟩, ?_⟩
 ·refine Blk.cast (by have B := B1; exact qK) ?_
  simp only [Bt.Page.cells, List.cons_append, List.nil_append, List.setIfInBounds_toArray, List.set_cons_zero, List.set_cons_succ]
 ·have := congrArg Array.size HCU.out
  simp [Bt.Page.cells] at this ⊢
  omega
 ·simp [Z0q, Bt.Page.cells]
 ·exact qV
theorem pdq2s (g cap base : Nat) (p q : Bt.Page) (lim : Int) (w : World) (h : Hid (Calls Tryz.prog 111 #[.slice (some ⟨g, 0, none⟩) 2 cap, .int .i64 0, .int .i64 2, Z1D] w fun e w' => e = .returned (.tuple #[]) ∧ w'.ownsRow base 25 9 (.slice (some ⟨g, 0, none⟩) 2 cap) 2 (Z0q [q, p]) ∧ Over g w w')) :
 Calls Tryz.prog 95 #[.slice (some ⟨g, 0, none⟩) 2 cap, .int .i64 0, .int .i64 2, .int .i64 lim, Z1D] w fun e w' => e = .returned (.tuple #[]) ∧ w'.ownsRow base 25 9 (.slice (some ⟨g, 0, none⟩) 2 cap) 2 (Z0q [q, p]) ∧ Over g w w' := by
 unfold Z1D at h ⊢
 go_enter Tryz.func95, Tryz.ntmps95
 go_wp2_with fail
 refine wp_loop_rounds 1 ?_
 rw [rounds_succ]
 go_wp2_with fail
 go_at_call 111; refine h.out.mono ?_; rintro e w1 ⟨rfl, hb⟩
 have HB := hid hb
 clear hb
 go_wp2_with fail
 exact bodyPost_ret (results_none rfl _ _ _) rfl ⟨rfl, HB.out⟩
theorem Z4d (g cap base : Nat) (p q : Bt.Page) (hpq : q.line < p.line) (w : World) (hown : w.ownsRow base 25 9 (.slice (some ⟨g, 0, none⟩) 2 cap) 2 (Z0q [p, q])) :
 Calls Tryz.prog 59 #[.slice (some ⟨g, 0, none⟩) 2 cap, Z1D] w fun e w' => e = .returned (.tuple #[]) ∧ w'.ownsRow base 25 9 (.slice (some ⟨g, 0, none⟩) 2 cap) 2 (Z0q [q, p]) ∧ Over g w w' := by
 have HH := hid (pdq2s g cap base p q (Lib.bitLen 2) w (hid (Zc6 g cap base p q hpq w hown)))
 unfold Z1D at HH ⊢
 go_enter Tryz.func59, Tryz.ntmps59
 go_wp2_with fail
 go_at_call 96; refine (Tryz.bits_Len 2 _ (by omega) (by omega)).mono ?_; rintro e w1 ⟨rfl, hw⟩; obtain rfl : w = w1 := hw.symm; clear hw
 go_wp2_with fail
 go_at_call 95; refine HH.out.mono ?_; rintro e w1 ⟨rfl, hb⟩
 have HB := hid hb
 clear hb
 go_wp2_with fail
 exact bodyPost_end (results_none rfl _ _ _) rfl ⟨rfl, HB.out⟩
end Go.Proofs.YtjmpekanlmepmaaGreatDoor
