/- Package bodegalaw24: moves: insert; a leaf is unlinked. (Printed by wip/do_gen.py.) -/
import Derived.Test.YtjmpekanlmepmaaGreatDoorBB43
import Derived.Test.YtjmpekanlmepmaaGreatDoorBB44
import Derived.Deep.AppendLies
set_option linter.all false
set_option maxRecDepth 20000
set_option maxHeartbeats 8000000
open Go.Lib (hid)
namespace Go.Proofs.YtjmpekanlmepmaaGreatDoor
open Go.RowKit
def Z91 (w : World) (j : Nat) : Prop := ∃ cs f, w.heap[j]? = some (.cells cs 27 f)
structure FrameP (x P : Nat) (w w' : World) : Prop where
 os : w'.os = w.os
 tape : w'.tape = w.tape
 output : w'.output = w.output
 size : w.heap.size ≤ w'.heap.size
 low : ∀ j, j < w.heap.size → j < P → w'.heap[j]? = w.heap[j]?
 rest : ∀ j, j < w.heap.size → j ≠ x → j ≠ P → ¬ Z91 w j → w'.heap[j]? = w.heap[j]?
theorem FrameP.of_two {x P : Nat} {w w' : World} (h : OverTwo x P w w') (hP : P < x) : FrameP x P w w' :=
 ⟨h.os, h.tape, h.output, h.size, fun j hj hl => h.block j hj (by omega) (by omega), fun j hj h1 h2 _ => h.block j hj h1 h2⟩
theorem FrameP.of_below {x P : Nat} {w w' : World} (h : Below w.heap.size w w') : FrameP x P w w' :=
 ⟨h.os, h.tape, h.output, h.size, fun j hj _ => h.block j hj, fun j hj _ _ _ => h.block j hj⟩
theorem FrameP.trans {x P : Nat} {w w1 w2 : World} (h1 : FrameP x P w w1) (h2 : FrameP x P w1 w2) : FrameP x P w w2 :=
 ⟨h2.os.trans h1.os, h2.tape.trans h1.tape, h2.output.trans h1.output, Nat.le_trans h1.size h2.size, fun j hj hl => (h2.low j (Nat.lt_of_lt_of_le hj h1.size) hl).trans (h1.low j hj hl),
  fun j hj hx hP hn => by
   have e := h1.rest j hj hx hP hn
   refine (h2.rest j (Nat.lt_of_lt_of_le hj h1.size) hx hP ?_).trans e
   rintro ⟨cs, f, hc⟩
   exact hn ⟨cs, f, e.symm.trans hc⟩⟩
theorem FrameP.to_below {x P : Nat} {w0 w w' : World} (h0 : Below w0.heap.size w0 w) (h : FrameP x P w w') (hP : w0.heap.size ≤ P) : Below w0.heap.size w0 w' :=
 ⟨h.os.trans h0.os, h.tape.trans h0.tape, h.output.trans h0.output, Nat.le_trans h0.size h.size, fun j hj => (h.low j (Nat.lt_of_lt_of_le hj h0.size) (by omega)).trans (h0.block j hj)⟩
theorem FrameP.of_row {x P g : Nat} {w w1 w' : World} (h : OverTwo x P w w1) (hP : P < x) (hx : x < g) (ho : Over g w1 w') (hg : Z91 w1 g) : FrameP x P w w' :=
 ⟨ho.os.trans h.os, ho.tape.trans h.tape, ho.output.trans h.output, Nat.le_trans h.size ho.size, fun j hj hl => (ho.block j (Nat.lt_of_lt_of_le hj h.size) (by simp; omega)).trans (h.block j hj (by omega) (by omega)),
  fun j hj h1 h2 hn => by
   have e := h.block j hj h1 h2
   by_cases hjg : j = g
   ·subst hjg
    obtain ⟨cs, f, hc⟩ := hg
    exact absurd ⟨cs, f, e.symm.trans hc⟩ hn
   ·exact (ho.block j (Nat.lt_of_lt_of_le hj h.size) (by simpa using hjg)).trans e⟩
theorem Zc1 : 27 ≠ 52 := by decide
theorem Z7t {w : World} {b1 b2 s1 s2 n1 n2 : Nat} {e1 e2 : TypeId} {v1 v2 : Value} {xs ys : List Value} (h1 : w.ownsRow b1 e1 s1 v1 n1 xs) (h2 : w.ownsRow b2 e2 s2 v2 n2 ys) (he : e1 ≠ e2) : ∀ g, v1.ownBlock = some g → v2.ownBlock ≠ some g := by
 intro g hg
 rcases Z56 h1 with ⟨_, rfl⟩ | ⟨g1, c1, rfl⟩
 ·simp [Value.ownBlock] at hg
 ·simp [Value.ownBlock] at hg
  subst hg
  exact Z61 h1 h2 he
def Z5M (x P cap G : Nat) (pages : List Bt.Page) (next : Int) (keys : List Int) (tos : List Bt.Ptr) (w : World) (e : Ending) (w' : World) : Prop :=
 e = .returned (.bool true) ∧ IxG x P cap G pages next keys tos w' ∧ FrameP x P w w'
theorem Z1J.move {x P cap G : Nat} {pages : List Bt.Page} {next : Int} {keys : List Int} {tos : List Bt.Ptr} {w w' : World} {e : Ending} (h : Z1J x P cap G pages next keys tos true w e w') : Z5M x P cap (G + 1) pages next keys tos w e w' := by
 obtain ⟨h1, ⟨vk, vt, vg, h2, hg⟩, h3⟩ := h
 exact ⟨h1, ⟨vk, vt, vg, h2, hg.mono (by omega)⟩, .of_two h3 h2.hPx⟩
theorem SteadyBut.below_over {r : Nat} {w1 wx wy : World} (h : Below w1.heap.size w1 wx) (h2 : Over r wx wy) : SteadyBut r w1 wy :=
 ⟨fun b o hb hr => by rw [(Z29 h2).1 b o (Nat.lt_of_lt_of_le hb h.size) (by omega)]; exact h.cell (p := ⟨b, o, none⟩) hb⟩
theorem ZbV (x P cap G : Nat) (pages pages' : List Bt.Page) (next next' : Int) (keys keys' : List Int) (tos tos' : List Bt.Ptr) (mk mkey ml n : Int) (hmk : -9223372036854775808 ≤ mk ∧ mk ≤ 9223372036854775807) (hmy : -9223372036854775808 ≤ mkey ∧ mkey ≤ 9223372036854775807) (hn : 0 ≤ n ∧ n ≤ 1000000) (w : World) (h : IxG x P cap G pages next keys tos w) (hj : pick mk 14 = 0 ∨ pick mk 14 = 1 ∨ pick mk 14 = 2 ∨ pick mk 14 = 3 ∨ pick mk 14 = 4 ∨ pick mk 14 = 5)
 (HI : Hid (∀ w', IxG x P cap G pages next keys tos w' → Calls Tryz.prog 46 #[.pointer (some ⟨x, 0, none⟩), .int .u32 (keyOf mkey), .agg #[.int .i64 (104 + n % 100), .int .i64 (n + 1)]] w' (Z1J x P cap G pages' next' keys' tos' true w'))) :
 Calls Tryz.prog 23 #[.pointer (some ⟨x, 0, none⟩), .agg #[.int .i64 mk, .int .i64 mkey, .int .i64 ml], .int .i64 n] w (Z1J x P cap G pages' next' keys' tos' true w) := by
 obtain ⟨R, hR⟩ : ∃ R, n % 100 = R := ⟨_, rfl⟩
 have hR1 := Int.emod_lt_of_pos n (show (0 : Int) < 100 by decide)
 have hR2 := Int.emod_nonneg n (show (100 : Int) ≠ 0 by decide)
 have e1 : n.tmod 100 = R := by rw [Int.tmod_eq_emod_of_nonneg hn.1, hR]
 rw [hR] at HI hR1 hR2
 have a1 : IntKind.i64.wrap R = R := by rw [IntKind.wrap_i64]; omega
 have a1' : wrap64 R = R := by unfold wrap64; omega
 have a2 : IntKind.i64.wrap (104 + R) = 104 + R := by rw [IntKind.wrap_i64]; omega
 have a3 : IntKind.i64.wrap (n + 1) = n + 1 := by rw [IntKind.wrap_i64]; omega
 have HN := hid hn
 have HIX := hid h
 clear hR hn
 have HMK := hid hmk
 have HMY := hid hmy
 have HJ0 := hid hj
 clear hmk hmy hj
 obtain ⟨vk0, vt0, vg0, hx, hgo⟩ := HIX.out
 have HX := hid hx
 have HGO := hid hgo
 have hxlt := hx.blk.lt
 have hxlt1 : x < w.heap.size + 1 := by omega
 obtain ⟨key, hky⟩ : ∃ key, keyOf mkey = key := ⟨_, rfl⟩
 have HKY := hid hky
 (try rw [hky] at HI)
 clear hx hgo hky h
 rcases HJ0.out with hj | hj | hj | hj | hj | hj
 all_goals
  have HJ := hid hj
  clear hj
  go_enter Tryz.func23, Tryz.ntmps23
  go_wp2_with fail
  go_at_call 25; refine (Z2w mkey HMY.out _).mono ?_; rintro e0 w0 ⟨rfl, hw0⟩; obtain rfl := hw0.symm; clear hw0
  rw [HKY.out]
  go_wp2_with fail
  go_at_call 13; refine (Z1B mk 14 HMK.out ⟨by decide, by decide⟩ _).mono ?_; rintro e0 w0 ⟨rfl, hw0⟩; obtain rfl := hw0.symm; clear hw0
  rw [HJ.out]
  go_wp2_with fail
  go_at_call 46; refine (HI.out _ ?hix).mono ?_
  case hix => exact HIX.out.over qL
  rintro e1 w1 ⟨rfl, hix1, ho1⟩
  have HIX1 := hid hix1
  have HO1 := hid ho1
  clear hix1 ho1
  go_wp2_with fail
  refine bodyPost_ret (results_tmp rfl _ _ _) rfl ⟨rfl, HIX1.out.over qL, ?_⟩
  exact OverTwo.trans (OverTwo.trans (OverTwo.of_below qL) HO1.out) (OverTwo.of_below qL)
theorem Z8E (x P cap G : Nat) (pages pages' : List Bt.Page) (next next' : Int) (keys : List Int) (tos : List Bt.Ptr) (mk mkey ml n : Int) (hmk : -9223372036854775808 ≤ mk ∧ mk ≤ 9223372036854775807) (hmy : -9223372036854775808 ≤ mkey ∧ mkey ≤ 9223372036854775807) (o : Bt.Out) (w : World) (h : IxG x P cap G pages next keys tos w) (hj : pick mk 14 = 13) (hG : G ≤ 1000000) (hoc : o.code = 0) (hod : o.done = true) (hof : o.found = false)
 (HR : Hid (∀ w', IxG x P cap G pages next keys tos w' → Calls Tryz.prog 31 #[.pointer (some ⟨x, 0, none⟩), .agg (Z0d ⟨8, keyOf mkey, 0, Bt.nilP, 0, 0, []⟩ (.slice none 0 0))] w' (Z2x x P cap G pages' next' keys tos o w'))) :
 Calls Tryz.prog 23 #[.pointer (some ⟨x, 0, none⟩), .agg #[.int .i64 mk, .int .i64 mkey, .int .i64 ml], .int .i64 n] w (Z5M x P cap (G + 1) pages' next' keys tos w) := by
 have HMK := hid hmk
 have HMY := hid hmy
 have HJ0 := hid hj
 clear hmk hmy hj
 obtain ⟨vk0, vt0, vg0, hx, hgo⟩ := h
 have HX := hid hx
 have HGO := hid hgo
 have hxlt := hx.blk.lt
 have hxlt1 : x < w.heap.size + 1 := by omega
 obtain ⟨key, hky⟩ : ∃ key, keyOf mkey = key := ⟨_, rfl⟩
 have HKY := hid hky
 (try rw [hky] at HR)
 have HOD : Hid (o.done = true ∧ o.found = false) := hid ⟨hod, hof⟩
 have b0 : (o.code == 0) = true := by simp [hoc]
 have b16 : (o.code == 16) = false := by simp [hoc]
 obtain ⟨i2, hi2, hz20, hz21, hz22⟩ := info_parts Z5r
 clear hoc hod hof
 clear hx hgo hky
 unfold Z0d Bt.nilP at HR
 have hj := HJ0.out
 have HJ := hid hj
 clear hj
 go_enter Tryz.func23, Tryz.ntmps23
 go_wp2_with fail
 go_at_call 25; refine (Z2w mkey HMY.out _).mono ?_; rintro e0 w0 ⟨rfl, hw0⟩; obtain rfl := hw0.symm; clear hw0
 rw [HKY.out]
 go_wp2_with fail
 go_at_call 13; refine (Z1B mk 14 HMK.out ⟨by decide, by decide⟩ _).mono ?_; rintro e0 w0 ⟨rfl, hw0⟩; obtain rfl := hw0.symm; clear hw0
 rw [HJ.out]
 go_wp2_with fail
 go_at_call 31; refine (HR.out _ ?hix).mono ?_
 case hix => exact ⟨_, _, _, HX.out.over qL, HGO.out.below qL⟩
 rintro e2 w2 ⟨ve, vc, rfl, hix2, ho2, hoe, hoc2⟩
 have hse := qSt hoe
 have hsc := qSt hoc2
 obtain ⟨vk, vt, vg, hx2, ⟨gs, hg2, hgl⟩, hap⟩ := hix2
 have HX2 := hid hx2
 have HG2 := hid hg2
 have HO2 := hid ho2
 have HOV : Hid (OverTwo x P w w2) := hid (OverTwo.trans (OverTwo.of_below qL) ho2)
 clear hx2 hg2 ho2 hoe hoc2
 simp only [Z0n]
 rw [HOD.out.1, HOD.out.2]
 go_wp2_with fail
 have HXa := hid (HX2.out.over (Z06 (Below.refl _ _) (.cells #[.int .i64 o.code, .bool false, .bool true, .bool o.split, .bool o.unposted, .bool o.dead, .bool o.more, .int .i64 o.to.line, .int .i64 o.to.gen, ve, vc, .int .i64 o.hops, .int .i64 o.fresh, .int .i64 o.height] 63)))
 have HGa := hid (own_below HG2.out (Z06 (Below.refl _ _) (.cells #[.int .i64 o.code, .bool false, .bool true, .bool o.split, .bool o.unposted, .bool o.dead, .bool o.more, .int .i64 o.to.line, .int .i64 o.to.gen, ve, vc, .int .i64 o.hops, .int .i64 o.fresh, .int .i64 o.height] 63)))
 have HOa := hid (Blk.made w2 63 #[.int .i64 o.code, .bool false, .bool true, .bool o.split, .bool o.unposted, .bool o.dead, .bool o.more, .int .i64 o.to.line, .int .i64 o.to.gen, ve, vc, .int .i64 o.hops, .int .i64 o.fresh, .int .i64 o.height])
 have HVa := hid (OverTwo.trans HOV.out (OverTwo.of_below (Z06 (Below.refl _ _) (.cells #[.int .i64 o.code, .bool false, .bool true, .bool o.split, .bool o.unposted, .bool o.dead, .bool o.more, .int .i64 o.to.line, .int .i64 o.to.gen, ve, vc, .int .i64 o.hops, .int .i64 o.fresh, .int .i64 o.height] 63))))
 have hg2l : ∀ g, vg.ownBlock = some g → g < w2.heap.size := own_lt' HG2.out
 generalize hwa : World.alloc w2 _ = wa at *
 clear hwa hse hsc
 have hxa : x < wa.heap.size := HXa.out.blk.lt
 have hoa : w2.heap.size < wa.heap.size := HOa.out.lt
 have hx2l : x < w2.heap.size := HX2.out.blk.lt
 have HBX := hid HXa.out.blk
 have kxa := HXa.out.blk.cell
 unfold Z1P at kxa
 have kO := HOa.out.cell
 obtain ⟨gb, hgb⟩ : ∃ gb, gb = vg.ownBlock.getD wa.heap.size := ⟨_, rfl⟩
 have hgv : ∀ g, vg.ownBlock = some g → g = gb := fun g e => by rw [hgb, e]; rfl
 have hgx : x < gb := by
  cases hv : vg.ownBlock with
  | none => rw [hgb, hv]; exact hxa
  | some g => rw [hgb, hv]; exact Z0k HGa.out g hv
 have hgo : w2.heap.size < gb ∨ gb < w2.heap.size := by
  cases hv : vg.ownBlock with
  | none => left; rw [hgb, hv]; exact hoa
  | some g => right; rw [hgb, hv]; exact hg2l g hv
 have HGV := hid hgv
 have HGB := hid hgb
 clear hgb hgv
 have hXne : ∀ c, vk.ownBlock = some c → c ≠ gb := fun c hc e => by
  cases hv : vg.ownBlock with
  | none => rw [HGB.out, hv] at e; have := own_lt' HXa.out.keys c hc; simp only [Option.getD_none] at e; omega
  | some g => rw [HGB.out, hv] at e; exact Z7t HGa.out HXa.out.keys Zc1 g hv (by rw [hc, e]; rfl)
 have hTne : ∀ c, vt.ownBlock = some c → c ≠ gb := fun c hc e => by
  cases hv : vg.ownBlock with
  | none => rw [HGB.out, hv] at e; have := own_lt' HXa.out.tos c hc; simp only [Option.getD_none] at e; omega
  | some g => rw [HGB.out, hv] at e; exact hap c hc (by rw [hv, e]; rfl)
 have HNE := hid (And.intro hXne hTne)
 have HAP := hid hap
 clear hXne hTne hap
 go_cut [] (fun wx => ∃ g1 c1, (vg.ownBlock = some g1 ∨ wa.heap.size ≤ g1) ∧ Blk wx x 58 (Z1P P pages'.length cap next' vk vt (.slice (some ⟨g1, 0, none⟩) (gs.length + 1) c1)) ∧ wx.ownsRow (x + 1) 27 2 (.slice (some ⟨g1, 0, none⟩) (gs.length + 1) c1) (gs.length + 1) (Z0b (gs ++ [o.to])) ∧ ∃ w9, Over gb wa w9 ∧ Over x w9 wx)
 case first =>
  refine Z1z (S := SteadyBut gb wa) (last := 11) (by kernel_rfl) (by kernel_rfl) (SteadyBut.of qL) ?_
  intro hSt
  refine Z11 (is := [0, 1, 2, 3, 4, 5, 6]) (by kernel_rfl) (by kernel_rfl) (fun _ _ d _ _ h => by cases d <;> exact h) (by assumption) ?_
  iterate 7 (refine qU ?_; simp only [Act.put, qY])
  refine Z12.done ?_
  refine qHL 7 fun K hK => ?_
  go_simp
  refine hK.out _ _ (SteadyBut.of qL) (fun hHeld => ?_)
  clear hK K
  refine qHL 8 fun K hK => ?_
  refine wp_append_lies _ (.tmp 243) (.tmp 246) 56 rfl (x + 1) 27 i2 _ 2 16 Tryz.underlying56 hi2 hz20 hz21 hz22 rfl (by decide) vg gs.length (Z0b gs) rfl (own_below HGa.out qL) ⟨wa.heap.size, 0, none⟩ 1 1 [.int .i64 o.to.line, .int .i64 o.to.gen] rfl rfl (Z2a (Blk.made' (by simp))) (by intro u hu; simp at hu; rcases hu with rfl | rfl <;> rfl) (by omega) (by unfold maxLen; omega) (by omega) (by simp only [size_alloc, size_drew]; omega) _ rfl ?_
  intro g1 c1 w1 hown1 hg1 hat1 hlt1
  have HAT1 : Hid (vg.ownBlock = some g1 ∨ wa.heap.size ≤ g1) := hid (hat1.elim Or.inl (fun e => Or.inr (by rw [e]; simp)))
  have hgo1 : Over gb _ w1 := Z71 hg1 (fun g e => HGV.out g e)
  refine hK.out _ _ (SteadyBut.below_over qL hgo1) (fun hHeld => ?_)
  clear hK K
  simp only [Act.put, qY]
  have BX1 := (HBX.out.kept (show Below wa.heap.size wa _ from qL)).grown hgo1 (by simp; omega)
  have fx1 := BX1.free
  have kx1 : w1.cell? ⟨x, 4, none⟩ = some vg := BX1.cell 4
  have HB1 := hid BX1
  have HW1 := hid hown1
  have HV1 : Hid (Over gb wa w1) := hid (Over.trans (Over.of_below (show Below wa.heap.size wa _ from qL)) hgo1)
  clear BX1 hown1 hg1 hgo1
  refine Z11 (is := [9, 10]) (by kernel_rfl) (by kernel_rfl) (fun _ _ d _ _ h => by cases d <;> exact h) (by assumption) ?_
  iterate 2 (refine qU ?_; simp only [Act.put, qY])
  refine Z12.done ?_
  refine Z0V (rs := [11]) (by kernel_rfl) (by simp) ?_
  refine Z0F.final rfl (fun K hK => ?_)
  rw [if_pos (by rfl)]
  go_simp
  refine hK.out _ _ ?_
  clear hK K
  refine Z1x (by kernel_rfl) ?_ _
  go_wp2_with fail
  go_meet
  refine ⟨g1, c1, HAT1.out, (HB1.out.put 4 _).cast rfl, ?_, w1, HV1.out, (Over.refl x w1).put 4 _⟩
  exact Z01 (p := ⟨x, 4, none⟩) (Z26 HW1.out rfl (by simp [Z0b, Bt.Ptr.cells])) (by show x < x + 1; omega) _
 case rest =>
  rename World => wb
  obtain ⟨g1, c1, hat1, BX, how, w9, hv9, hvx⟩ := hcut
  have BO := (HOa.out.grown hv9 (by simp; omega)).grown hvx (by simp; omega)
  have kOb := BO.cell
  have hob : w2.heap.size < wb.heap.size := BO.lt
  have HBX2 := hid BX
  have HKR := hid how
  have HV9 := hid hv9
  have HVX := hid hvx
  clear BX how hv9 hvx BO kO kxa
  go_wp2_with fail
  have hPa : P < wa.heap.size := HXa.out.pg.lt
  have hPx := HXa.out.hPx
  have hgP := HXa.out.hgP
  have ha9 : wa.heap.size ≤ w9.heap.size := HV9.out.size
  have hkt : ∀ {base n size : Nat} {e : TypeId} {v : Value} {xs : List Value}, wa.ownsRow base e size v n xs → x < base → (∀ c, v.ownBlock = some c → c ≠ gb) → wb.ownsRow base e size v n xs := fun h1 h2 h3 => Z0H (Z13 h1 HV9.out (fun e => h3 _ e rfl)) HVX.out h2
  have hb9 : w9.heap.size ≤ wb.heap.size := HVX.out.size
  refine bodyPost_ret (results_tmp rfl _ _ _) rfl ⟨rfl, ⟨vk, vt, _, ⟨HBX2.out, ?_, hkt HXa.out.keys (by omega) HNE.out.1, hkt HXa.out.tos (by omega) HNE.out.2, ?_, hPx, hgP⟩, ⟨⟨gs ++ [o.to], Z26 HKR.out (by simp) rfl, by simp; omega⟩, ?_⟩⟩, ?_⟩
  ·exact (HXa.out.pg.two (x := x) (fun j hj => by subst hj; exact HV9.out.block _ hPa (by simp; omega)) ha9).two (x := x) (fun j hj => by subst hj; exact HVX.out.block _ (by omega) (by simp; omega)) hb9
  ·exact (HXa.out.none.over HV9.out (by omega)).over HVX.out (by omega)
  ·intro c hc e
   simp [Value.ownBlock] at e
   subst e
   rcases hat1 with h9 | h9
   ·exact HAP.out _ hc h9
   ·have := own_lt' HXa.out.tos _ hc
    omega
  ·have hf9 : FrameP x P w w9 := by
     cases hv : vg.ownBlock with
     | none =>
       have e : gb = wa.heap.size := by rw [HGB.out, hv]; rfl
       have hbel : Below wa.heap.size wa w9 := ⟨HV9.out.os, HV9.out.tape, HV9.out.output, HV9.out.size, fun k hk => HV9.out.block k hk (by simp; omega)⟩
       exact (FrameP.of_two HVa.out hPx).trans (.of_below hbel)
     | some g =>
       have e : gb = g := by rw [HGB.out, hv]; rfl
       refine FrameP.of_row HVa.out hPx hgx HV9.out ?_
       rcases HGa.out.2 with ⟨h9, _⟩ | ⟨g2, c2, cur, h9, _, h10, _⟩
       ·rw [h9] at hv; simp [Value.ownBlock] at hv
       ·rw [h9] at hv
        simp [Value.ownBlock] at hv
        rw [e, ← hv]
        exact ⟨_, _, h10⟩
   exact hf9.trans (FrameP.of_two (OverTwo.of_left HVX.out) hPx)
end Go.Proofs.YtjmpekanlmepmaaGreatDoor
