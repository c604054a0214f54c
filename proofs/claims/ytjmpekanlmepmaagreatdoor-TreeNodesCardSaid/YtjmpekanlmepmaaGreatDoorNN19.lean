/- The reference writes a node. -/
import Derived.Test.YtjmpekanlmepmaaGreatDoorNN18
import Derived.Test.YtjmpekanlmepmaaGreatDoorNN09
import Derived.Test.YtjmpekanlmepmaaGreatDoorNN14
import Derived.Test.YtjmpekanlmepmaaGreatDoorNN05
import Derived.Deep.Slices
import Derived.Test.YtjmpekanlmepmaaGreatDoorNN01
import Derived.Test.YtjmpekanlmepmaaGreatDoorNN16
set_option linter.all false
set_option maxRecDepth 20000
set_option maxHeartbeats 8000000
open Go.Lib (hid)
namespace Go.Proofs.YtjmpekanlmepmaaGreatDoor
open Go.RowKit
theorem word_sum (x : Int) (q : Bt.Ptr) (h0 : 0 ≤ x ∧ x < 4294967296) : IntKind.u64.wrap (IntKind.u64.wrap x + IntKind.u64.wrap (IntKind.u64.wrap (Bt.pack ⟨q.line, q.gen⟩) * 4294967296)) = x + Bt.pack q * 4294967296 := by
 have h1 := pack_bound q
 have a1 : IntKind.u64.wrap x = x := by rw [IntKind.wrap_u64]; omega
 have a2 : IntKind.u64.wrap (Bt.pack q) = Bt.pack q := by rw [IntKind.wrap_u64]; omega
 show IntKind.u64.wrap (IntKind.u64.wrap x + IntKind.u64.wrap (IntKind.u64.wrap (Bt.pack q) * 4294967296)) = _
 rw [a1, a2, IntKind.wrap_u64, IntKind.wrap_u64]; omega
theorem word_sum3 (x : Int) (q : Bt.Ptr) (h0 : 0 ≤ x ∧ x < 4294967296) : IntKind.u64.wrap (x * 4294967296 + IntKind.u64.wrap (Bt.pack ⟨q.line, q.gen⟩)) = x * 4294967296 + Bt.pack q := by
 have h1 := pack_bound q
 show IntKind.u64.wrap (x * 4294967296 + IntKind.u64.wrap (Bt.pack q)) = _
 rw [IntKind.wrap_u64, IntKind.wrap_u64]; omega
theorem rising_le_node {n : Bt.Node} (h : n.valid = true) : ∀ e ∈ n.entries, 0 < e.key ∧ e.key ≤ n.high := by
 intro e he
 have hv := Bt.Node.valid_parts h
 have h1 := (Bt.rising_valid hv.2.2.2.1 e he).1
 have h2 := Bt.rising_le_last hv.2.2.2.1 e he
 have h3 := hv.2.2.2.2.2.2.2.1
 omega
def SlotCut (u : Value) (W : World) (s : Value) (wx : World) : Prop := s = u ∧ wx = W
def RefWRel (n : Bt.Node) (v : Value) (p : Bt.Page) (w : World) (Q : Nat) (i : Value) (wr : World) : Prop :=
 ∃ k : Nat, k ≤ n.entries.length ∧ i = .int .i64 k ∧ Hid (Blk wr Q 25 (fillUpto n p k).cells) ∧ Hid (Blk wr (w.heap.size + 1) 91 (nodeCells n v)) ∧ Hid (Blk wr (w.heap.size + 1 + 1) 25 Bt.zeroPage.cells) ∧ Hid (Below w.heap.size w wr)
theorem refWrite_good (p : Bt.Page) (hp : p.Ok) (n : Bt.Node) (hh : 0 ≤ n.high ∧ n.high < 4294967296) (base : Nat) (v : Value) (w : World) (hv : w.ownsRow base 133 3 v n.entries.length (entCells n.entries)) (hk : Bt.tagKind p.d0 = 4) (hr : Bt.refValid n = true) :
 Calls Tryz.prog 37 #[.agg p.cells, .agg (nodeCells n v)] w (RefWritePost p n w) := by
 obtain ⟨lev, lm, dd, hi, ⟨rl, rg⟩, es⟩ := n
 unfold RefWritePost
 rw [if_pos ⟨hk, hr⟩, if_pos ⟨hk, hr⟩]
 dsimp only at hh hv
 have Hp := hid hp
 have HV := hid hv
 have hvv := hr
 rw [Bt.refValid_eq (⟨lev, lm, dd, hi, ⟨rl, rg⟩, es⟩ : Bt.Node) hh.1] at hvv
 have a1 := (Bt.Node.valid_parts hvv).1
 have a2 := (Bt.Node.valid_parts hvv).2.1
 have a3 := (Bt.Node.valid_parts hvv).2.2.1
 dsimp only at a1 a2 a3
 have HVAL := hid hvv
 obtain ⟨pv, cv, rfl⟩ := own_shape hv
 have HK := hid hk
 have HR := hid hr
 obtain ⟨L, hL⟩ : ∃ L, es.length = L := ⟨_, rfl⟩
 have HL := hid hL
 rw [hL] at a3
 have e1 : IntKind.u32.wrap lev = lev := by rw [IntKind.wrap_u32]; omega
 have e2 : IntKind.u32.wrap (L : Int) = L := by rw [IntKind.wrap_u32]; omega
 have e3 : IntKind.u32.wrap (256 * (L : Int)) = 256 * L := by rw [IntKind.wrap_u32]; omega
 have e4 : IntKind.u32.wrap (lev + 256 * (L : Int)) = lev + 256 * L := by rw [IntKind.wrap_u32]; omega
 clear hp hv hvv hk hr hL
 unfold Bt.Page.cells nodeCells
 dsimp only
 rw [HL.out]
 go_enter Tryz.func37, Tryz.ntmps37
 go_wp2_with fail
 go_at_call 69; refine (refKind_any p Hp.out _).mono ?_; rintro e1 w1 ⟨rfl, hb1⟩; rw [HK.out]; ((obtain ⟨hc1, hf1, hs1⟩ := qR hb1); (try have := qN0 w w1); (try have := qN1 w w1); (try have := qN2 w w1))
 go_wp2_with fail
 go_at_call 70; refine (refValid_any (⟨lev, lm, dd, hi, ⟨rl, rg⟩, es⟩ : Bt.Node) base (.slice pv L cv) _ ?hvo).mono ?_
 case hvo => exact own_below (by have := HV.out; rw [HL.out] at this; rw [HL.out]; exact this) qL
 rintro e2 w2 ⟨rfl, hb2⟩; rw [HR.out]; ((obtain ⟨hc2, hf2, hs2⟩ := qR hb2); (try have := qN0 w w2); (try have := qN1 w w2); (try have := qN2 w w2); (try have := qN0 w1 w2))
 have hax : (⟨lev, lm, dd, hi, ⟨rl, rg⟩, es⟩ : Bt.Node).aux = lev + 256 * (L : Int) + Bt.flag lm 65536 + Bt.flag dd 131072 := by unfold Bt.Node.aux; dsimp only; rw [HL.out]; omega
 have f1 : ∀ m, Bt.flag true m = m := fun m => rfl
 have f0 : ∀ m, Bt.flag false m = 0 := fun m => rfl
 have HAX := hid hax
 have HF1 := hid f1
 have HF0 := hid f0
 clear hax f1 f0
 have e5 : IntKind.u32.wrap (lev + 256 * (L : Int) + 65536) = lev + 256 * L + 65536 := by rw [IntKind.wrap_u32]; omega
 have e6 : IntKind.u32.wrap (lev + 256 * (L : Int) + 131072) = lev + 256 * L + 131072 := by rw [IntKind.wrap_u32]; omega
 have e7 : IntKind.u32.wrap (lev + 256 * (L : Int) + 65536 + 131072) = lev + 256 * L + 65536 + 131072 := by rw [IntKind.wrap_u32]; omega
 go_upto_if 28 with (fail)
 go_cut [6] (SlotCut (.int .u32 (lev + 256 * (L : Int) + Bt.flag lm 65536)) w2)
 case first =>
  cases lm with
  | false =>
    go_wp2_with fail
    go_meet
    exact ⟨by rw [HF0.out, Int.add_zero], rfl⟩
  | true =>
    go_wp2_with fail
    go_meet
    exact ⟨by rw [HF1.out], rfl⟩
 obtain ⟨rfl, hw2⟩ := hcut
 obtain rfl := hw2.symm
 clear hw2
 obtain ⟨Y, hY⟩ : ∃ Y, lev + 256 * (L : Int) + Bt.flag lm 65536 = Y := ⟨_, rfl⟩
 rw [hY]
 have HY := hid hY
 have hYr : 0 ≤ Y ∧ Y < 131072 := by
  have h1 := HF0.out 65536
  have h2 := HF1.out 65536
  cases h3 : lm with
  | false => rw [h3, h1] at hY; omega
  | true => rw [h3, h2] at hY; omega
 clear hY e1 e2 e3 e4 e5 e6 e7
 have e8 : IntKind.u32.wrap (Y + 131072) = Y + 131072 := by rw [IntKind.wrap_u32]; omega
 go_upto_if 32 with (fail)
 go_cut [6] (SlotCut (.int .u32 (⟨lev, lm, dd, hi, ⟨rl, rg⟩, es⟩ : Bt.Node).aux) w2)
 case first =>
  cases dd with
  | false =>
    go_wp2_with fail
    go_meet
    refine ⟨?_, rfl⟩
    have h1 := HAX.out
    have h2 := HY.out
    rw [HF0.out, Int.add_zero] at h1
    rw [h1, h2]
  | true =>
    go_wp2_with fail
    go_meet
    refine ⟨?_, rfl⟩
    have h1 := HAX.out
    have h2 := HY.out
    rw [HF1.out] at h1
    rw [h1, h2]
 obtain ⟨rfl, hw2⟩ := hcut
 obtain rfl := hw2.symm
 clear hw2
 have hab : 0 ≤ (⟨lev, lm, dd, hi, ⟨rl, rg⟩, es⟩ : Bt.Node).aux ∧ (⟨lev, lm, dd, hi, ⟨rl, rg⟩, es⟩ : Bt.Node).aux < 4294967296 := by
  have h1 := HAX.out
  have h2 := HY.out
  have h3 := HF0.out 131072
  have h4 := HF1.out 131072
  cases h5 : dd with
  | false => rw [h5, h3] at h1; omega
  | true => rw [h5, h4] at h1; omega
 obtain ⟨X, hX⟩ : ∃ X, (⟨lev, lm, dd, hi, ⟨rl, rg⟩, es⟩ : Bt.Node).aux = X := ⟨_, rfl⟩
 rw [hX] at hab ⊢
 have HXX := hid hX
 clear hX hYr HY HAX e8
 skip
 go_wp2_with fail
 go_at_call 72; refine (refGen_any p Hp.out _).mono ?_; rintro e3 w3 ⟨rfl, hb3⟩; ((obtain ⟨hc3, hf3, hs3⟩ := qR hb3); (try have := qN0 w w3); (try have := qN1 w w3); (try have := qN2 w w3); (try have := qN0 w1 w3); (try have := qN0 w2 w3))
 have hg : 0 ≤ Bt.tagGen p.d0 ∧ Bt.tagGen p.d0 < 16777216 := by unfold Bt.tagGen; omega
 obtain ⟨Ge, hGe⟩ : ∃ Ge, Bt.tagGen p.d0 = Ge := ⟨_, rfl⟩
 have HGE := hid hGe
 rw [hGe] at hg ⊢
 clear hGe
 go_wp2_with fail
 go_at_call 71; refine (refTag_any 4 Ge X (by omega) hg hab _).mono ?_; rintro e4 w4 ⟨rfl, hb4⟩; ((obtain ⟨hc4, hf4, hs4⟩ := qR hb4); (try have := qN0 w w4); (try have := qN1 w w4); (try have := qN2 w w4); (try have := qN0 w1 w4); (try have := qN0 w2 w4); (try have := qN0 w3 w4))
 go_wp2_with fail
 obtain ⟨TG, hTG⟩ : ∃ TG, Bt.packTag 4 Ge X = TG := ⟨_, rfl⟩
 have HTG := hid hTG
 rw [hTG]
 clear hTG
 have BQ := ((((Blk.made w2 25 #[.int .i64 p.line, .int .u64 p.head, .int .u64 0, .int .u64 0, .int .u64 0, .int .u64 0, .int .u64 0, .int .u64 0, .int .u64 0]).kept hb3).kept hb4).put 2 (.int .u64 TG)).cast (cs' := #[.int .i64 p.line, .int .u64 p.head, .int .u64 TG, .int .u64 0, .int .u64 0, .int .u64 0, .int .u64 0, .int .u64 0, .int .u64 0]) rfl
 have BX := ((((((Blk.made' (w := w.alloc (.cells p.cells 25)) (n := w.heap.size + 1) (t := 91) (cs := nodeCells (⟨lev, lm, dd, hi, ⟨rl, rg⟩, es⟩ : Bt.Node) (.slice pv L cv)) (by simp)).alloc (.cells Bt.zeroPage.cells 25)).kept hb1).kept hb2).alloc _).kept hb3).kept hb4
 have BX5 := BX.aside (p := ⟨w2.heap.size, 2, none⟩) (by show w.heap.size + 1 ≠ w2.heap.size; have h1 := hb1.size; have h2 := hb2.size; simp at h1 h2; omega) (.int .u64 TG)
 have BO := ((((Blk.made' (w := (w.alloc (.cells p.cells 25)).alloc (.cells (nodeCells (⟨lev, lm, dd, hi, ⟨rl, rg⟩, es⟩ : Bt.Node) (.slice pv L cv)) 91)) (n := w.heap.size + 1 + 1) (t := 25) (cs := Bt.zeroPage.cells) (by simp)).kept hb1).kept hb2).alloc (.cells #[.int .i64 p.line, .int .u64 p.head, .int .u64 0, .int .u64 0, .int .u64 0, .int .u64 0, .int .u64 0, .int .u64 0, .int .u64 0] 25)).kept hb3
 have BO5 := (BO.kept hb4).aside (p := ⟨w2.heap.size, 2, none⟩) (by show w.heap.size + 1 + 1 ≠ w2.heap.size; have h1 := hb1.size; have h2 := hb2.size; simp at h1 h2; omega) (.int .u64 TG)
 obtain ⟨w5, hw5⟩ : ∃ w5, w5 = w4.setCell ⟨w2.heap.size, 2, none⟩ (.int .u64 TG) := ⟨_, rfl⟩
 have hb05 : Below w.heap.size w w5 := by rw [hw5]; exact qL
 rw [← hw5] at BQ BX5 BO5 ⊢
 have hq5 : w.heap.size + 1 + 1 < w2.heap.size := by have h1 := hb1.size; have h2 := hb2.size; simp at h1 h2; omega
 have HBQ := hid BQ
 have HBX := hid BX5
 have HBO := hid BO5
 have HB05 := hid hb05
 have kx : ∀ i, w5.cell? ⟨w.heap.size + 1, i, none⟩ = (#[.int .i64 lev, .bool lm, .bool dd, .int .u32 hi, .int .i64 rl, .int .i64 rg, .slice pv L cv] : Array Value)[i]? := BX5.cell
 have lx := BX5.lt
 have lq := BQ.lt
 have kq := BQ.cell
 have fq := BQ.free
 clear hw5 BQ BX BX5 BO BO5 hb05 hb1 hb2 hb3 hb4 hc1 hc2 hc3 hc4 hf1 hf2 hf3 hf4 hs1 hs2 hs3 hs4
 have nb3 : w.heap.size + 1 < w2.heap.size := by omega
 have ep := pack_bound (⟨rl, rg⟩ : Bt.Ptr)
 refine qB (w2.heap.size) fun hSt => ?_
 refine qS [0, 1, 2, 3, 4, 9] ?_
 iterate 6 (refine qT ?_; simp only [Act.put, qY])
 refine TakeSeq.done ?_
 refine qH 5 fun K hK => ?_
 go_simp
 go_at_call 45; refine (refPack_any rl rg _).mono ?_; rintro e6 w6 ⟨rfl, hb6⟩; ((obtain ⟨hc6, hf6, hs6⟩ := qR hb6); (try have := qN0 w w6); (try have := qN1 w w6); (try have := qN2 w w6); (try have := qN0 w2 w6); (try have := qN0 w5 w6))
 go_wp2_with fail
 refine hK.out _ _ (SteadyBut.of qL) (fun hHeld => ?_)
 clear hK K
 refine qS [6, 7, 8, 10] ?_
 iterate 4 (refine qT ?_; simp only [Act.put, qY])
 refine TakeSeq.done ?_
 refine qH 11 fun K hK => ?_
 go_simp
 refine hK.out _ _ qE (fun hHeld => ?_)
 clear hK K
 refine qD ?_ _
 have BQ6 := ((HBQ.out.drew).kept hb6).put 3 (.int .u64 (IntKind.u64.wrap (IntKind.u64.wrap hi + IntKind.u64.wrap (IntKind.u64.wrap (Bt.pack ⟨rl, rg⟩) * 4294967296))))
 have BX6 := ((HBX.out.drew).kept hb6).aside (p := ⟨w2.heap.size, 3, none⟩) (by show w.heap.size + 1 ≠ w2.heap.size; omega) (.int .u64 (IntKind.u64.wrap (IntKind.u64.wrap hi + IntKind.u64.wrap (IntKind.u64.wrap (Bt.pack ⟨rl, rg⟩) * 4294967296))))
 have BO6 := ((HBO.out.drew).kept hb6).aside (p := ⟨w2.heap.size, 3, none⟩) (by show w.heap.size + 1 + 1 ≠ w2.heap.size; omega) (.int .u64 (IntKind.u64.wrap (IntKind.u64.wrap hi + IntKind.u64.wrap (IntKind.u64.wrap (Bt.pack ⟨rl, rg⟩) * 4294967296))))
 have hbl6 : Below w.heap.size w (w6.setCell ⟨w2.heap.size, 3, none⟩ (.int .u64 (IntKind.u64.wrap (IntKind.u64.wrap hi + IntKind.u64.wrap (IntKind.u64.wrap (Bt.pack ⟨rl, rg⟩) * 4294967296))))) := by have hb05 := HB05.out; exact qL
 have hc0 : (fillUpto (⟨lev, lm, dd, hi, ⟨rl, rg⟩, es⟩ : Bt.Node) p 0).cells = #[.int .i64 p.line, .int .u64 p.head, .int .u64 TG, .int .u64 (hi + Bt.pack ⟨rl, rg⟩ * 4294967296), .int .u64 0, .int .u64 0, .int .u64 0, .int .u64 0, .int .u64 0] := by
  unfold fillUpto
  rw [HK.out, HGE.out, HXX.out, HTG.out]
  rfl
 have HBQ6 := hid BQ6
 have HBX6 := hid BX6
 have HBO6 := hid BO6
 have HBL6 := hid hbl6
 have HC0 := hid hc0
 have HHH := hid hh
 clear BQ6 BX6 BO6 hbl6 hc0 hh kx lx lq kq fq hc6 hf6 hs6 hb6 hq5 nb3 ep hab hg
 go_wp2_with fail
 go_loopw [8] (fun i wr => RefWRel (⟨lev, lm, dd, hi, ⟨rl, rg⟩, es⟩ : Bt.Node) (.slice pv L cv) p w w2.heap.size i wr) (fun i _ => ((es.length : Int) - intOf i).toNat)
 case atStart =>
  refine ⟨0, Nat.zero_le _, rfl, hid ?_, hid HBX6.out, hid HBO6.out, hid HBL6.out⟩
  rw [HC0.out]
  exact HBQ6.out.cast (by rw [word_sum hi ⟨rl, rg⟩ HHH.out]; rfl)
 case round =>
  obtain ⟨k, hk, rfl, HQ, HX, HO, HBL⟩ := hrel
  clear HBQ6 HBX6 HBO6 HBL6 HC0 HBQ HBX HBO HB05
  have kx : ∀ i, wr.cell? ⟨w.heap.size + 1, i, none⟩ = (#[.int .i64 lev, .bool lm, .bool dd, .int .u32 hi, .int .i64 rl, .int .i64 rg, .slice pv L cv] : Array Value)[i]? := HX.out.cell
  have lx := HX.out.lt
  have lq := HQ.out.lt
  dsimp only at hk
  rw [HL.out] at hk
  by_cases hkl : k < L
  ·obtain ⟨g, cg, hgv⟩ := own_form HV.out (by rw [HL.out]; omega)
   simp only [Value.slice.injEq, and_true, true_and] at hgv
   obtain ⟨rfl, rfl⟩ := hgv
   have hglt := (own_lt HV.out).2
   obtain ⟨e0, he0⟩ : ∃ e0, es[k]? = some e0 := ⟨_, List.getElem?_eq_getElem (by rw [HL.out]; exact hkl)⟩
   have c0 : wr.cell? ⟨g, k * 3, none⟩ = some (.int .u32 e0.key) := (HBL.out.cell (p := ⟨g, k * 3, none⟩) hglt).trans (own_cells HV.out _ _ (entCells_get es k e0 he0 0 _ rfl))
   have c1 : wr.cell? ⟨g, k * 3 + 1, none⟩ = some (.int .i64 e0.to.line) := (HBL.out.cell (p := ⟨g, k * 3 + 1, none⟩) hglt).trans (own_cells HV.out _ _ (entCells_get es k e0 he0 1 _ rfl))
   have c2 : wr.cell? ⟨g, k * 3 + 2, none⟩ = some (.int .i64 e0.to.gen) := (HBL.out.cell (p := ⟨g, k * 3 + 2, none⟩) hglt).trans (own_cells HV.out _ _ (entCells_get es k e0 he0 2 _ rfl))
   have hgr : g < wr.heap.size := Nat.lt_of_lt_of_le hglt HBL.out.size
   have hkey : 0 ≤ e0.key ∧ e0.key < 4294967296 := by
    have h1 := rising_le_node HVAL.out e0 (List.mem_of_getElem? he0)
    dsimp only at h1
    have h2 := HHH.out
    omega
   have HE0 := hid he0
   have hgQ : g < w2.heap.size := by omega
   have hqx : w.heap.size + 1 < w2.heap.size := by omega
   have fq := HQ.out.free
   obtain ⟨y, hy⟩ : ∃ y, wr.cell? ⟨w2.heap.size, 2 + (2 + k), none⟩ = some y := by
    rw [HQ.out.cell]; exact ⟨_, Array.getElem?_eq_getElem (by show 2 + (2 + k) < 9; omega)⟩
   have bk : decide ((k : Int) < L) = true := decide_eq_true (by omega)
   have bk2 : decide (k < L) = true := decide_eq_true hkl
   have bk3 : (0 : Int) ≤ k := by omega
   have bk4 : (k : Int) < L := by omega
   have hw1 : IntKind.i64.wrap (2 + (k : Int)) = 2 + k := by rw [IntKind.wrap_i64]; omega
   have hw2 : (0 : Int) ≤ 2 + k := by omega
   have hw3 : 2 + (k : Int) < 7 := by omega
   have hw4 : (2 + (k : Int)).toNat = 2 + k := by omega
   have hwk : IntKind.i64.wrap ((k : Int) + 1) = (k : Int) + 1 := by rw [IntKind.wrap_i64]; omega
   clear he0 hglt
   go_wp2_with fail
   refine qB (w2.heap.size) fun hSt => ?_
   refine qS [0, 1, 2, 3, 4, 5, 6, 7, 8, 9, 10, 11, 12, 13, 14, 15, 19] ?_
   iterate 17 (refine qT ?_; simp only [Act.put, qY])
   refine TakeSeq.done ?_
   refine qH 16 fun K hK => ?_
   go_simp
   go_at_call 45; refine (refPack_any e0.to.line e0.to.gen _).mono ?_; rintro e7 w7 ⟨rfl, hb7⟩; ((obtain ⟨hc7, hf7, hs7⟩ := qR hb7); (try have := qN0 w w7); (try have := qN1 w w7); (try have := qN2 w w7); (try have := qN0 w2 w7); (try have := qN0 wr w7))
   go_wp2_with fail
   refine hK.out _ _ (SteadyBut.of qL) (fun hHeld => ?_)
   clear hK K
   refine qS [17, 18, 20] ?_
   iterate 3 (refine qT ?_; simp only [Act.put, qY])
   refine TakeSeq.done ?_
   refine qH 21 fun K hK => ?_
   go_simp
   refine hK.out _ _ qE (fun hHeld => ?_)
   clear hK K
   refine qD ?_ _
   have BQ7 := ((HQ.out.drew).kept hb7).put (2 + (2 + k)) (.int .u64 (IntKind.u64.wrap (e0.key * 4294967296 + IntKind.u64.wrap (Bt.pack ⟨e0.to.line, e0.to.gen⟩))))
   have BX7 := ((HX.out.drew).kept hb7).aside (p := ⟨w2.heap.size, 2 + (2 + k), none⟩) (by show w.heap.size + 1 ≠ w2.heap.size; omega) (.int .u64 (IntKind.u64.wrap (e0.key * 4294967296 + IntKind.u64.wrap (Bt.pack ⟨e0.to.line, e0.to.gen⟩))))
   have BO7 := ((HO.out.drew).kept hb7).aside (p := ⟨w2.heap.size, 2 + (2 + k), none⟩) (by show w.heap.size + 1 + 1 ≠ w2.heap.size; omega) (.int .u64 (IntKind.u64.wrap (e0.key * 4294967296 + IntKind.u64.wrap (Bt.pack ⟨e0.to.line, e0.to.gen⟩))))
   have HBQ7 := hid BQ7
   have HBX7 := hid BX7
   have HBO7 := hid BO7
   have hbl7 : Below w.heap.size w (w7.setCell ⟨w2.heap.size, 2 + (2 + k), none⟩ (.int .u64 (IntKind.u64.wrap (e0.key * 4294967296 + IntKind.u64.wrap (Bt.pack ⟨e0.to.line, e0.to.gen⟩))))) := by have hbl := HBL.out; exact qL
   have HBL7 := hid hbl7
   clear BQ7 BX7 BO7 hbl7
   go_wp2_with fail
   refine ⟨⟨k + 1, by dsimp only; rw [HL.out]; omega, by rw [show ((k : Int) + 1) = ((k + 1 : Nat) : Int) by omega], hid (HBQ7.out.cast ?_), hid HBX7.out, hid HBO7.out, hid HBL7.out⟩, by simp [intOf]; have h9 := HL.out; omega⟩
   have h5 : k < es.length := by rw [HL.out]; exact hkl
   have h6 : es[k] = e0 := by have h7 := HE0.out; rw [List.getElem?_eq_getElem h5] at h7; exact Option.some.inj h7
   rw [fillUpto_step (⟨lev, lm, dd, hi, ⟨rl, rg⟩, es⟩ : Bt.Node) p k h5 (by dsimp only; rw [HL.out]; exact a3)]
   dsimp only
   rw [h6, word_sum3 e0.key e0.to hkey]
  ·obtain rfl : k = L := by omega
   have bk : decide ((k : Int) < k) = false := decide_eq_false (by omega)
   have bk2 : decide (k < k) = false := decide_eq_false (by omega)
   have kq : ∀ i, wr.cell? ⟨w2.heap.size, i, none⟩ = ((fillUpto (⟨lev, lm, dd, hi, ⟨rl, rg⟩, es⟩ : Bt.Node) p k).cells : Array Value)[i]? := HQ.out.cell
   unfold fillUpto Bt.Page.cells at kq
   have fo := HO.out.free
   have lo := HO.out.lt
   have ko := HO.out.cell
   rw [zeroPage_cells] at ko
   go_wp2_with fail
   have BO8 := HO.out
   rw [zeroPage_cells] at BO8
   refine bodyPost_ret (results_bt rfl _ _ (w.heap.size + 1 + 1) _ _ _ rfl (by have B := BO8; exact qK) Tryz.underlying25 rfl (by kernel_rfl)) rfl ⟨?_, by have hbl := HBL.out; exact qL⟩
   rw [set9]
   have h6 := fillUpto_all (⟨lev, lm, dd, hi, ⟨rl, rg⟩, es⟩ : Bt.Node) p (by dsimp only; rw [HL.out]; exact a3)
   dsimp only at h6
   rw [HL.out] at h6
   rw [← h6]
   rfl
def readRes (p : Bt.Page) : Int × Bt.Node := match Bt.readNode p with | none => (14, Bt.zeroNode) | some n => (0, n)
def writeRes (p : Bt.Page) (n : Bt.Node) : Bt.Page × Int := if Bt.tagKind p.d0 = 4 ∧ n.valid = true then (n.fill p, 0) else (Bt.zeroPage, 1)
def ReadBoth (t : TypeId) (p : Bt.Page) (w : World) (e : Ending) (w' : World) : Prop :=
 ∃ a c, e = .returned (.tuple #[.agg (nodeCells (readRes p).2 (.slice a (readRes p).2.entries.length c)), .int .i64 (readRes p).1]) ∧ w'.ownsRow w.heap.size t 3 (.slice a (readRes p).2.entries.length c) (readRes p).2.entries.length (entCells (readRes p).2.entries) ∧ Below w.heap.size w w'
theorem readRes_some {p : Bt.Page} {n : Bt.Node} (h : Bt.readNode p = some n) : readRes p = (0, n) := by unfold readRes; rw [h]
theorem readRes_none {p : Bt.Page} (h : Bt.readNode p = none) : readRes p = (14, Bt.zeroNode) := by unfold readRes; rw [h]
theorem ReadNode_both (p : Bt.Page) (hp : p.Ok) (w : World) (hg : NoneAt w) : Calls Tryz.prog 28 #[.agg p.cells] w (ReadBoth 69 p w) := by
 refine (ReadNode_any p hp w hg).mono ?_
 rintro e w' (⟨h1, rfl, h3⟩ | ⟨v, h1, rfl, h3, h4⟩)
 ·unfold ReadBoth
  rw [readRes_none h1]
  exact ⟨none, 0, rfl, World.ownsRow_nil _ _ _ _, h3⟩
 ·unfold ReadBoth
  rw [readRes_some h1]
  obtain ⟨a, c, rfl⟩ := own_shape h3
  exact ⟨a, c, rfl, h3, h4⟩
theorem refReadNode_both (p : Bt.Page) (hp : p.Ok) (w : World) : Calls Tryz.prog 35 #[.agg p.cells] w (ReadBoth 133 p w) := by
 refine (refReadNode_any p hp w).mono ?_
 have e := Bt.refReadNode_eq hp
 rintro e w' (⟨h1, rfl, h3⟩ | ⟨v, h1, rfl, h3, h4⟩)
 ·unfold ReadBoth
  rw [readRes_none (by rw [← Bt.refReadNode_eq hp]; exact h1)]
  exact ⟨none, 0, rfl, World.ownsRow_nil _ _ _ _, h3⟩
 ·unfold ReadBoth
  rw [readRes_some (by rw [← Bt.refReadNode_eq hp]; exact h1)]
  obtain ⟨a, c, rfl⟩ := own_shape h3
  exact ⟨a, c, rfl, h3, h4⟩
def WroteBoth (p : Bt.Page) (n : Bt.Node) (w : World) (e : Ending) (w' : World) : Prop :=
 e = .returned (.tuple #[.agg (writeRes p n).1.cells, .int .i64 (writeRes p n).2]) ∧ Below w.heap.size w w'
theorem WriteNode_both (p : Bt.Page) (n : Bt.Node) (v : Value) (hp : p.Ok) (hh : 0 ≤ n.high ∧ n.high < 4294967296) (w : World) (he : EntRow w v n.entries) (hg : NoneAt w) : Calls Tryz.prog 36 #[.agg p.cells, .agg (nodeCells n v)] w (WroteBoth p n w) := by
 refine (WriteNode_any p n v hp hh w he hg).mono ?_
 rintro e w' ⟨rfl, h2⟩
 refine ⟨?_, h2⟩
 unfold writeRes Bt.writeNode
 by_cases h : Bt.tagKind p.d0 = 4 ∧ n.valid = true
 ·rw [if_pos h, if_neg (by rintro (h1 | h1); exact h1 h.1; rw [h.2] at h1; cases h1)]
  rfl
 ·have h' : Bt.tagKind p.d0 ≠ 4 ∨ n.valid = false := by
    by_cases h1 : Bt.tagKind p.d0 = 4
    ·right
     cases h2 : n.valid with
     | false => rfl
     | true => exact absurd ⟨h1, h2⟩ h
    ·exact .inl h1
  rw [if_neg h, if_pos h']
  rfl
theorem refWriteNode_both (p : Bt.Page) (hp : p.Ok) (n : Bt.Node) (hh : 0 ≤ n.high ∧ n.high < 4294967296) (base : Nat) (v : Value) (w : World) (hv : w.ownsRow base 133 3 v n.entries.length (entCells n.entries)) : Calls Tryz.prog 37 #[.agg p.cells, .agg (nodeCells n v)] w (WroteBoth p n w) := by
 have hr := Bt.refValid_eq n hh.1
 by_cases h : Bt.tagKind p.d0 = 4 ∧ Bt.refValid n = true
 ·refine (refWrite_good p hp n hh base v w hv h.1 h.2).mono ?_
  rintro e w' ⟨rfl, h2⟩
  refine ⟨?_, h2⟩
  unfold writeRes
  rw [hr] at h
  rw [hr, if_pos h, if_pos h, if_pos h]
 ·refine (refWrite_bad p hp n base v w hv h).mono ?_
  rintro e w' ⟨rfl, h2⟩
  refine ⟨?_, h2⟩
  unfold writeRes
  rw [hr] at h
  rw [hr, if_neg h, if_neg h, if_neg h]
theorem writeRes_zero {p : Bt.Page} {n : Bt.Node} (hp : p.Ok) (hh : 0 ≤ n.high ∧ n.high < 4294967296) (h : (writeRes p n).2 = 0) : readRes (writeRes p n).1 = (0, n) ∧ (writeRes p n).1.line = p.line ∧ (writeRes p n).1.head = p.head ∧ n.entries.length ≤ 5 := by
 unfold writeRes at h ⊢
 by_cases hc : Bt.tagKind p.d0 = 4 ∧ n.valid = true
 ·rw [if_pos hc]
  exact ⟨readRes_some (Bt.readNode_fill hc.2 hh.1 hh.2 hc.1), rfl, rfl, (Bt.Node.valid_parts hc.2).2.2.1⟩
 ·rw [if_neg hc] at h
  exact absurd h (by decide)
open Go.ChangeShapes Go.WideShapes Go.ChangeAt Go.RowKit
theorem cEnt : Tryz.prog.cellsOf 69 = 3 := by kernel_rfl
theorem cNode7 : Tryz.prog.cellsOf 73 = 7 := by kernel_rfl
section
variable {H : Type} {enc : TypeId × Value → H} {w : World} {base : Nat} {spare : Nat → Bool} {held : Bool} {P : Program}
theorem trod_struct6 {t : TypeId} {f0 f1 f2 f3 f4 f5 : Field} {fuel : Nat} {cs : List Value} {x : DataW H × List MemPlace} (ht : P.underlying t = some (.struct #[f0, f1, f2, f3, f4, f5])) (h : DataW.trod enc P w base spare held fuel t cs = some x) :
 ∃ y0 y1 y2 y3 y4 y5 n, DataW.trod enc P w base spare held n f0.type ((cs.drop f0.offset).take (P.cellsOf f0.type)) = some y0 ∧
  DataW.trod enc P w base spare held n f1.type ((cs.drop f1.offset).take (P.cellsOf f1.type)) = some y1 ∧ DataW.trod enc P w base spare held n f2.type ((cs.drop f2.offset).take (P.cellsOf f2.type)) = some y2 ∧
  DataW.trod enc P w base spare held n f3.type ((cs.drop f3.offset).take (P.cellsOf f3.type)) = some y3 ∧ DataW.trod enc P w base spare held n f4.type ((cs.drop f4.offset).take (P.cellsOf f4.type)) = some y4 ∧
  DataW.trod enc P w base spare held n f5.type ((cs.drop f5.offset).take (P.cellsOf f5.type)) = some y5 := by
 obtain ⟨xs, n, _, rfl, hl, hlen, hf⟩ := DataW.trod_struct ht h
 match xs, hlen with
 | [y0, y1, y2, y3, y4, y5], _ => exact ⟨y0, y1, y2, y3, y4, y5, n, by simpa using hf 0 f0 rfl, by simpa using hf 1 f1 rfl, by simpa using hf 2 f2 rfl, by simpa using hf 3 f3 rfl, by simpa using hf 4 f4 rfl, by simpa using hf 5 f5 rfl⟩
theorem arr7 {cs : Array Value} (h : cs.size = 7) : ∃ c0 c1 c2 c3 c4 c5 c6, cs = #[c0, c1, c2, c3, c4, c5, c6] := by
 obtain ⟨l⟩ := cs
 match l, h with
 | [c0, c1, c2, c3, c4, c5, c6], _ => exact ⟨c0, c1, c2, c3, c4, c5, c6, rfl⟩
end
def ToOk (e : Bt.Entry) : Prop := (-9223372036854775808 ≤ e.to.line ∧ e.to.line ≤ 9223372036854775807) ∧ (-9223372036854775808 ≤ e.to.gen ∧ e.to.gen ≤ 9223372036854775807)
section
variable {H : Type} {enc : TypeId × Value → H} {w : World}
set_option maxRecDepth 100000
theorem open_twoP {base : Nat} {spare : Nat → Bool} {held : Bool} {n : Nat} {v1 v2 : Value} {y : DataW H × List MemPlace} (h : DataW.trod enc Tryz.prog w base spare held n 27 [v1, v2] = some y) :
 ∃ q : Bt.Ptr, v1 = .int .i64 q.line ∧ v2 = .int .i64 q.gen ∧ (-9223372036854775808 ≤ q.line ∧ q.line ≤ 9223372036854775807) ∧ (-9223372036854775808 ≤ q.gen ∧ q.gen ≤ 9223372036854775807) := by
 obtain ⟨y0, y1, m, _, _, g0, g1⟩ := trod_struct2 Tryz.underlying27 h
 obtain ⟨z0, f0, _, w0⟩ := DataW.trod_int Tryz.underlying3 g0
 obtain ⟨z1, f1, _, w1⟩ := DataW.trod_int Tryz.underlying3 g1
 have f0' : [v1] = [Value.int .i64 z0] := f0
 have f1' : [v2] = [Value.int .i64 z1] := f1
 simp only [List.cons.injEq, and_true] at f0' f1'
 exact ⟨⟨z0, z1⟩, f0', f1', bounds_i64 w0, bounds_i64 w1⟩
theorem open_ents {fuel : Nat} {c : Value} {x : DataW H × List MemPlace} (hf : DataW.trod enc Tryz.prog w 0 (fun _ => true) true fuel 61 [c] = some x) :
 ∃ es : List Bt.Entry, ((∃ a k, c = .slice a es.length k) ∧ (es = [] ∨ EntRow w c es)) ∧ ∀ e ∈ es, ToOk e := by
 rcases Go.Deep.open_slice Tryz.underlying61 hf with ⟨h0, _⟩ | ⟨a', len', cap', m, n, D, Pl, h0, hb, hl, hm, hmm, hx, hel⟩
 ·have h1 : c = .slice none 0 0 := by simpa using h0
  subst h1
  exact ⟨[], ⟨⟨none, 0, rfl⟩, .inl rfl⟩, (fun e he => by cases he)⟩
 ·have h1 : c = .slice (some a') len' cap' := by simpa using h0
  subst h1
  have hlm : len' ≤ m := by rw [hmm]; simp; exact hl
  have each : ∀ i, i < len' → ∃ e : Bt.Entry, (e.Ok ∧ ToOk e) ∧ w.cell? (a'.add (i * 3)) = some (.int .u32 e.key) ∧ w.cell? (a'.add (i * 3 + 1)) = some (.int .i64 e.to.line) ∧ w.cell? (a'.add (i * 3 + 2)) = some (.int .i64 e.to.gen) := by
   intro i hi
   obtain ⟨cs', h1, h2⟩ := hel i (by omega)
   rw [cEnt] at h1
   obtain ⟨_, hlen, hcell⟩ := World.cells?_some h1
   obtain ⟨y0, y1, k, _, _, g0, g1⟩ := trod_struct2 Tryz.underlying69 h2
   match cs', hlen with
   | [v0, v1, v2], _ =>
     have e0 := hcell 0 (by omega)
     have e1 := hcell 1 (by omega)
     have e2 := hcell 2 (by omega)
     rw [Go.Deep.add_add] at e0 e1 e2
     obtain ⟨z0, f0, _, w0⟩ := DataW.trod_int Tryz.underlying52 g0
     have f0' : [v0] = [Value.int .u32 z0] := f0
     simp only [List.cons.injEq, and_true] at f0'
     obtain ⟨q, rfl, rfl, q1, q2⟩ := open_twoP (v1 := v1) (v2 := v2) g1
     subst f0'
     have hw := bounds_u32 w0
     exact ⟨⟨z0, q⟩, ⟨⟨hw.1, by show z0 < 4294967296; omega⟩, q1, q2⟩, by simpa using e0, by simpa using e1, by simpa using e2⟩
  obtain ⟨f, hfm⟩ := Go.Deep.choose_lt each
  refine ⟨(List.range len').map f, ⟨⟨some a', cap', by simp⟩, ?_⟩, fun e he => ?_⟩
  ·by_cases hz : len' = 0
   ·left; rw [hz]; rfl
   ·right
    refine ⟨fun e he => ?_, by simp; omega, ?_⟩
    ·obtain ⟨i, hi, rfl⟩ := List.mem_map.1 he
     exact (hfm i (List.mem_range.1 hi)).1.1
    right
    obtain ⟨b, o, spot⟩ := a'
    have hspot : spot = none := by simpa [Addr.add] using World.cell?_spot (hfm 0 (by omega)).2.1
    subst hspot
    refine ⟨b, o, cap', by simp, ?_, fun i e hi => ?_⟩
    ·have := (hfm 0 (by omega)).2.1
     rw [Addr.add_lit] at this
     exact World.block_lt_of_cell? _ _ this
    ·have hil : i < len' := by have := (List.getElem?_eq_some_iff.1 hi).1; simpa using this
     have he : f i = e := by simpa [hil] using hi
     obtain ⟨_, q0, q1, q2⟩ := hfm i hil
     rw [he, Addr.add_lit] at q0 q1 q2
     intro j u hu
     match j, hu with
     | 0, hu => cases hu; exact q0
     | 1, hu => cases hu; exact q1
     | 2, hu => cases hu; exact q2
  ·obtain ⟨i, hi, rfl⟩ := List.mem_map.1 he
   exact (hfm i (List.mem_range.1 hi)).1.2
theorem open_node {r : Reach} {b0 : Nat} {v : Value} {d : DataW H} {p : List MemPlace} (hv : Value.okWide Tryz.prog w r b0 73 v) (h : DataW.Trod enc Tryz.prog w 0 (fun _ => true) true 73 v d p) :
 ∃ (n : Bt.Node) (s : Value), v = .agg (nodeCells n s) ∧ ((∃ a k, s = .slice a n.entries.length k) ∧ (n.entries = [] ∨ EntRow w s n.entries)) ∧ (∀ e ∈ n.entries, ToOk e) ∧ (0 ≤ n.high ∧ n.high < 4294967296) ∧ (-9223372036854775808 ≤ n.level ∧ n.level ≤ 9223372036854775807) ∧ (-9223372036854775808 ≤ n.right.line ∧ n.right.line ≤ 9223372036854775807) ∧ (-9223372036854775808 ≤ n.right.gen ∧ n.right.gen ≤ 9223372036854775807) := by
 obtain ⟨cs, rfl, hsz⟩ := okWide_struct Tryz.underlying73 hv
 obtain ⟨fuel, hf⟩ := h
 obtain ⟨y0, y1, y2, y3, y4, y5, n, g0, g1, g2, g3, g4, g5⟩ := trod_struct6 Tryz.underlying73 hf
 obtain ⟨c0, c1, c2, c3, c4, c5, c6, rfl⟩ := arr7 (hsz.trans cNode7)
 obtain ⟨z0, f0, _, w0⟩ := DataW.trod_int Tryz.underlying3 g0
 obtain ⟨z1, f1, _⟩ := DataW.trod_bool Tryz.underlying4 g1
 obtain ⟨z2, f2, _⟩ := DataW.trod_bool Tryz.underlying4 g2
 obtain ⟨z3, f3, _, w3⟩ := DataW.trod_int Tryz.underlying52 g3
 have f0' : [c0] = [Value.int .i64 z0] := f0
 have f1' : [c1] = [Value.bool z1] := f1
 have f2' : [c2] = [Value.bool z2] := f2
 have f3' : [c3] = [Value.int .u32 z3] := f3
 simp only [List.cons.injEq, and_true] at f0' f1' f2' f3'
 obtain ⟨q, rfl, rfl, q1, q2⟩ := open_twoP (v1 := c4) (v2 := c5) g4
 obtain ⟨es, he, ht⟩ := open_ents (c := c6) g5
 subst f0' f1' f2' f3'
 have hw := bounds_u32 w3
 exact ⟨⟨z0, z1, z2, z3, q, es⟩, c6, rfl, he, ht, ⟨hw.1, by show z3 < 4294967296; omega⟩, bounds_i64 w0, q1, q2⟩
end
theorem reads_anew {H : Type} {enc : TypeId × Value → H} {t : TypeId} (hr : Tryz.prog.readableRec t = true) (hrow : t < Tryz.prog.types.size) {W W' : World} {v : Value} {d : DataW H} {ps : List MemPlace} (h : DataW.Trod enc Tryz.prog W 0 (fun _ => true) true t v d ps)
 (hb : Below W.heap.size W W') (hlt : ∀ p ∈ ps, p.block < W.heap.size) {sp : Nat → Bool} (hs : ∀ p ∈ ps, sp p.block = true) : DataW.Trod enc Tryz.prog W' 0 sp true t v d ps :=
 WideElems.Trod_stays laidOutA hr hrow h (fun x hx => hb.same (hlt x hx)) hs
section
variable {P : Program} {ops : Array Oper} {Q : Exit → Act → World → Prop} {md : Region.Mode} {S : World → Prop} {last : Nat}
def wpAnyL (P : Program) (md : Region.Mode) (ops : Array Oper) (Q : Exit → Act → World → Prop) (S : World → Prop) (last : Nat) : Nat → Array Bool → Act → World → Prop
 | 0, listed, a, w => Region.ready md ops listed = [] ∧ Q .normal a w
 | fuel + 1, listed, a, w =>
   (Region.ready md ops listed = [] → Q .normal a w) ∧
   ∀ i ∈ Region.ready md ops listed, (i = last → ∀ k, k < ops.size → k ≠ last → listed.getD k false = true) → wpOp P ops Q i (fun a' w' => (i ≠ last → S w') ∧ wpAnyL P md ops Q S last fuel (listed.setIfInBounds i true) a' w') a w
def ListedBack (md : Region.Mode) (ops : Array Oper) (listed : Array Bool) : Prop := ∀ k o, ops[k]? = some o → listed.getD k false = true → ∀ e ∈ o.after, Region.binds md e = true → listed.getD e.on false = true
def feeds (md : Region.Mode) (ops : Array Oper) (last : Nat) : Bool :=
 decide (last < ops.size) && (List.range ops.size).all fun k => k == last || (List.range ops.size).any fun m => decide (k < m) && ((ops[m]?).map fun o => o.after.any fun e => e.on == k && Region.binds md e).getD false
theorem feeds_spec (h : feeds md ops last = true) {k : Nat} (hk : k < ops.size) (hne : k ≠ last) : ∃ m o e, k < m ∧ m < ops.size ∧ ops[m]? = some o ∧ e ∈ o.after ∧ e.on = k ∧ Region.binds md e = true := by
 unfold feeds at h
 rw [Bool.and_eq_true] at h
 have h1 := List.all_eq_true.1 h.2 k (List.mem_range.2 hk)
 rw [Bool.or_eq_true, beq_iff_eq] at h1
 rcases h1 with h1 | h1
 ·exact absurd h1 hne
 ·obtain ⟨m, hm, h2⟩ := List.any_eq_true.1 h1
  have hlt := List.mem_range.1 hm
  rw [Bool.and_eq_true, decide_eq_true_eq] at h2
  have ho : ops[m]? = some ops[m] := Array.getElem?_eq_getElem hlt
  rw [ho] at h2
  simp only [Option.map_some, Option.getD_some, Array.any_eq_true', Bool.and_eq_true, beq_iff_eq] at h2
  obtain ⟨h3, e, h4, h5, h6⟩ := h2
  exact ⟨m, _, e, h3, hlt, ho, h4, h5, h6⟩
theorem feeds_all (h : feeds md ops last = true) {listed : Array Bool} (hb : ListedBack md ops listed) (hr : last ∈ Region.ready md ops listed) : ∀ k, k < ops.size → k ≠ last → listed.getD k false = true := by
 intro k hk
 obtain ⟨h0, ol, hol, hall⟩ := mem_ready.1 hr
 have main : ∀ d k, ops.size - k ≤ d → k < ops.size → k ≠ last → listed.getD k false = true := by
  intro d
  induction d with
  | zero => intro k hd hk _; omega
  | succ d ih =>
    intro k hd hk hne
    obtain ⟨m, o, e, h1, h2, h3, h4, h5, h6⟩ := feeds_spec h hk hne
    by_cases hml : m = last
    ·subst hml
     rw [hol] at h3
     obtain rfl := Option.some.inj h3
     rw [← h5]; exact hall e h4 h6
    ·have := hb m o h3 (ih m (by omega) h2 hml) e h4 h6
     rw [← h5]; exact this
 exact main _ k (Nat.le_refl _) hk
theorem ListedBack.set {listed : Array Bool} (hb : ListedBack md ops listed) {i : Nat} (hi : i ∈ Region.ready md ops listed) : ListedBack md ops (listed.setIfInBounds i true) := by
 intro k o ho hk e he hbd
 obtain ⟨h0, oi, hoi, hall⟩ := mem_ready.1 hi
 have keep : ∀ j, listed.getD j false = true → (listed.setIfInBounds i true).getD j false = true := fun j hj => by
  by_cases hij : i = j
  ·subst hij
   by_cases hlt : i < listed.size
   ·simp [Array.getD_eq_getD_getElem?, hlt]
   ·rw [Array.getD_eq_getD_getElem?, Array.getElem?_eq_none (by omega)] at hj; simp at hj
  ·rw [Array.getD_eq_getD_getElem?] at hj ⊢
   rw [Array.getElem?_setIfInBounds, if_neg hij]
   exact hj
 by_cases hki : i = k
 ·subst hki
  rw [hoi] at ho
  obtain rfl := Option.some.inj ho
  exact keep _ (hall e he hbd)
 ·refine keep _ (hb k o ho ?_ e he hbd)
  rw [Array.getD_eq_getD_getElem?] at hk ⊢
  rw [Array.getElem?_setIfInBounds, if_neg hki] at hk
  exact hk
theorem wpAny_of_late (hf : feeds md ops last = true) : ∀ (fuel : Nat) (listed : Array Bool) (a : Act) (w : World), ListedBack md ops listed → wpAnyL P md ops Q S last fuel listed a w → wpAny P md ops Q fuel listed a w
 | 0, _, _, _, _, h => h
 | fuel + 1, listed, a, w, hb, h => ⟨h.1, fun i hi => wpOp_mono (fun a' w' h' => wpAny_of_late hf fuel _ a' w' (hb.set hi) h'.2) (h.2 i hi (fun he => feeds_all hf hb (he ▸ hi)))⟩
theorem wp_region_late {id : Nat} {a : Act} {w : World} (hm : P.follows .mixedOrders = true) (hf : feeds .any ops last = true) (hS : S w.drew)
 (h : S w.drew → wpAnyL P .any ops Q S last ops.size (Array.replicate ops.size false) a w.drew) : (Code.region id ops true).wp P Q a w := by
 refine wp_region_any hm (wpAny_of_late (S := S) (last := last) hf _ _ _ _ (fun k o _ hk => ?_) (h hS))
 rw [Array.getD_eq_getD_getElem?, Array.getElem?_replicate] at hk
 split at hk <;> simp at hk
theorem wpAnyL_first {i : Nat} {oi : Oper} {v : Value} (hi : ops[i]? = some oi) (hil : i ≠ last) (hsel : ∀ (j : Nat) (o : Oper) cs b, ops[j]? = some o → o.op ≠ .select cs b)
 (hQ : ∀ c a w, Q (.panic c) (a.put oi.dst v) w → Q (.panic c) a w) :
 ∀ (fuel : Nat) (listed : Array Bool) (a : Act) (w : World),
  (∀ j oj, ops[j]? = some oj → j ≠ i → listed.getD j true = false → (∀ e ∈ oj.after, Region.binds md e = true → e.on ≠ i) → oi.apart ops oj = true) →
  i ∈ Region.ready md ops listed → YieldsIf P ops S oi v a → S w →
  wpAnyL P md ops Q S last fuel (listed.setIfInBounds i true) (a.put oi.dst v) w → wpAnyL P md ops Q S last (fuel + 1) listed a w := by
 have hlt : i < ops.size := (Array.getElem?_eq_some_iff.1 hi).1
 have hno : ∀ listed : Array Bool, i ∈ Region.ready md ops listed → ¬ (∀ k, k < ops.size → k ≠ last → listed.getD k false = true) := fun listed hr h => by
  have h1 := h i hlt hil
  have h0 := (mem_ready.1 hr).1
  rcases Nat.lt_or_ge i listed.size with h' | h'
  ·simp [h'] at h0 h1; rw [h0] at h1; cases h1
  ·simp [Array.getElem?_eq_none h'] at h1
 have hset : ∀ (listed : Array Bool) (j k : Nat), j ≠ last → (∀ k, k < ops.size → k ≠ last → listed.getD k false = true) → True := fun _ _ _ _ _ => trivial
 intro fuel
 induction fuel with
 | zero =>
   intro listed a w _ hr hy hS H
   refine ⟨fun h => (by rw [h] at hr; cases hr), fun j hj hjl => ?_⟩
   by_cases hji : j = i
   ·subst hji; exact hy.wpOp hi hS ⟨fun _ => hS, H⟩
   ·have := ready_mono hj hji
    rw [H.1] at this
    cases this
 | succ fuel ih =>
   intro listed a w hfree hr hy hS H
   refine ⟨fun h => (by rw [h] at hr; cases hr), fun j hj hjl => ?_⟩
   by_cases hji : j = i
   ·subst hji; exact hy.wpOp hi hS ⟨fun _ => hS, H⟩
   ·have hjlast : j ≠ last := fun he => hno listed hr (hjl he)
    have h1 := H.2 j (ready_mono hj hji) (fun he => absurd he hjlast)
    obtain ⟨hjun, oj, hoj, hall⟩ := mem_ready.1 hj
    have hnot : ∀ e ∈ oj.after, Region.binds md e = true → e.on ≠ i := fun e he hb heq => by
     have h1 := hall e he hb
     have h0 := (mem_ready.1 hr).1
     rw [heq] at h1
     rcases Nat.lt_or_ge i listed.size with h' | h'
     ·simp [h'] at h0 h1; rw [h0] at h1; cases h1
     ·simp [Array.getElem?_eq_none h'] at h1
    have h2 := wpOp_putIf hoj (hfree j oj hoj hji hjun hnot) (fun cs b => hsel i oi cs b hi) (fun cs b => hsel j oj cs b hoj) hQ hy h1
    have hfree' : ∀ k ok, ops[k]? = some ok → k ≠ i → (listed.setIfInBounds j true).getD k true = false →
     (∀ e ∈ ok.after, Region.binds md e = true → e.on ≠ i) → oi.apart ops ok = true := fun k ok hk hki hun hno => by
     refine hfree k ok hk hki ?_ hno
     by_cases hjk : j = k
     ·subst hjk; exact hjun
     ·rw [getD_set_ne true hjk] at hun; exact hun
    refine wpOp_mono (fun a' w' h3 => ⟨h3.2.1, ih (listed.setIfInBounds j true) a' w' hfree' (ready_mono hr (Ne.symm hji)) h3.1 (h3.2.1 hjlast) ?_⟩) h2
    rw [Array.setIfInBounds_comm _ _ hji]
    exact h3.2.2
theorem wpAnyL_take {i : Nat} {oi : Oper} {v : Value} {fuel : Nat} {listed : Array Bool} {a : Act} {w : World} (hi : ops[i]? = some oi) (hil : i ≠ last)
 (hs : Region.noSelect ops = true) (hf : Region.free md ops listed i = true) (hr : (Region.ready md ops listed).contains i = true)
 (hQ : ∀ c a w, Q (.panic c) (a.put oi.dst v) w → Q (.panic c) a w) (hy : YieldsIf P ops S oi v a) (hS : S w)
 (h : wpAnyL P md ops Q S last fuel (listed.setIfInBounds i true) (a.put oi.dst v) w) : wpAnyL P md ops Q S last (fuel + 1) listed a w :=
 wpAnyL_first hi hil (Region.noSelect_spec hs) hQ fuel listed a w (Region.free_spec hi hf) (by simpa using hr) hy hS h
theorem wpAnyL_done {listed : Array Bool} {a : Act} {w : World} (hr : Region.ready md ops listed = []) (h : Q .normal a w) :
 ∀ fuel, wpAnyL P md ops Q S last fuel listed a w
 | 0 => ⟨hr, h⟩
 | _ + 1 => ⟨fun _ => h, by rw [hr]; simp⟩
def TakeSeqL (P : Program) (md : Region.Mode) (ops : Array Oper) (Q : Exit → Act → World → Prop) (S : World → Prop) (last : Nat) (fuel : Nat) : List Nat → Array Bool → Act → World → Prop
 | [], l, a, w => wpAnyL P md ops Q S last fuel l a w
 | i :: is, l, a, w => ∃ o v, ops[i]? = some o ∧ YieldsIf P ops S o v a ∧ TakeSeqL P md ops Q S last fuel is (l.setIfInBounds i true) (a.put o.dst v) w
theorem TakeSeqL.step {fuel i : Nat} {is : List Nat} {l : Array Bool} {a : Act} {w : World} {o : Oper} {v : Value} (ho : ops[i]? = some o) (hy : YieldsIf P ops S o v a)
 (h : TakeSeqL P md ops Q S last fuel is (l.setIfInBounds i true) (a.put o.dst v) w) : TakeSeqL P md ops Q S last fuel (i :: is) l a w := ⟨o, v, ho, hy, h⟩
theorem TakeSeqL.done {fuel : Nat} {l : Array Bool} {a : Act} {w : World} (h : wpAnyL P md ops Q S last fuel l a w) : TakeSeqL P md ops Q S last fuel [] l a w := h
theorem wpAnyL_seq {is : List Nat} {fuel : Nat} {l : Array Bool} {a : Act} {w : World} (hs : Region.noSelect ops = true) (ht : (takeable md ops l is && !is.contains last) = true)
 (hQ : ∀ c a d v w, Q (.panic c) (a.put d v) w → Q (.panic c) a w) (hS : S w) (h : TakeSeqL P md ops Q S last fuel is l a w) : wpAnyL P md ops Q S last (fuel + is.length) l a w := by
 rw [Bool.and_eq_true] at ht
 induction is generalizing l a with
 | nil => exact h
 | cons i is ih =>
   obtain ⟨o, v, ho, hy, h2⟩ := h
   obtain ⟨ht1, ht2⟩ := ht
   simp only [takeable, Bool.and_eq_true] at ht1
   have hne : i ≠ last ∧ (!is.contains last) = true := by
    simp only [List.contains_cons, Bool.not_or, Bool.and_eq_true, Bool.not_eq_true', beq_eq_false_iff_ne] at ht2
    exact ⟨fun he => ht2.1 he.symm, by simpa using ht2.2⟩
   exact wpAnyL_take ho hne.1 hs ht1.1.1 ht1.1.2 (fun c a w => hQ c a o.dst v w) hy hS (ih ⟨ht1.2, hne.2⟩ h2)
def AllReadyL (P : Program) (md : Region.Mode) (ops : Array Oper) (Q : Exit → Act → World → Prop) (S : World → Prop) (last : Nat) (fuel : Nat) (listed : Array Bool) (a : Act) (w : World) (rs : List Nat) : Prop :=
 ∀ i ∈ rs, wpOp P ops Q i (fun a' w' => (i ≠ last → S w') ∧ wpAnyL P md ops Q S last fuel (listed.setIfInBounds i true) a' w') a w
theorem AllReadyL.nil {fuel : Nat} {listed : Array Bool} {a : Act} {w : World} : AllReadyL P md ops Q S last fuel listed a w [] := fun _ h => by cases h
theorem AllReadyL.cons {fuel : Nat} {listed : Array Bool} {a : Act} {w : World} {i : Nat} {o : Oper} {rs : List Nat} (ho : ops[i]? = some o) (hil : i ≠ last)
 (h : ∀ K' : Act → World → Prop, Shut (∀ a w, S w → (S w → wpAnyL P md ops Q S last fuel (listed.setIfInBounds i true) a w) → K' a w) → if Region.wanted o (yielded ops a.tmps) = true then Oper.wp P o a w K' Q else K' (a.put o.dst undef) w)
 (hs : AllReadyL P md ops Q S last fuel listed a w rs) : AllReadyL P md ops Q S last fuel listed a w (i :: rs) := fun j hj => by
 rcases List.mem_cons.1 hj with rfl | hj
 ·exact wpOp_step ho (fun K' hK => h K' (fun a w hS hW => hK a w ⟨fun _ => hS, hW hS⟩))
 ·exact hs j hj
theorem AllReadyL.final {fuel : Nat} {listed : Array Bool} {a : Act} {w : World} {o : Oper} (ho : ops[last]? = some o)
 (h : ∀ K' : Act → World → Prop, Shut (∀ a w, wpAnyL P md ops Q S last fuel (listed.setIfInBounds last true) a w → K' a w) → if Region.wanted o (yielded ops a.tmps) = true then Oper.wp P o a w K' Q else K' (a.put o.dst undef) w) :
 AllReadyL P md ops Q S last fuel listed a w [last] := fun j hj => by
 obtain rfl := List.mem_singleton.1 hj
 exact wpOp_step ho (fun K' hK => h K' (fun a w hW => hK a w ⟨fun h => absurd rfl h, hW⟩))
theorem wpAnyL_ready {rs : List Nat} {fuel : Nat} {listed : Array Bool} {a : Act} {w : World} (hr : Region.ready md ops listed = rs) (hne : rs ≠ [])
 (h : AllReadyL P md ops Q S last fuel listed a w rs) : wpAnyL P md ops Q S last (fuel + 1) listed a w := ⟨fun h0 => absurd (hr ▸ h0) hne, fun i hi _ => h i (hr ▸ hi)⟩
end
section
variable {P : Program} {ops : Array Oper} {Q : Exit → Act → World → Prop} {md : Region.Mode} {S : World → Prop} {last : Nat}
theorem qU {fuel i : Nat} {is : List Nat} {l : Array Bool} {a : Act} {w : World} {o : Oper} {v : Value} (h : TakeSeqL P md ops Q S last fuel is (l.setIfInBounds i true) (a.put o.dst v) w) (ho : ops[i]? = some o := by rfl) (hy : YieldsIf P ops S o v a := by first | exact Or.inr ⟨by rfl, rfl⟩ | (refine Or.inl ⟨by rfl, ?_⟩; intro wq hSq; have hrd := hSq.rule; go_simp; with_reducible rfl)) : TakeSeqL P md ops Q S last fuel (i :: is) l a w := .step ho hy h
theorem qHL (i : Nat) {fuel : Nat} {listed : Array Bool} {a : Act} {w : World} {o : Oper} (h : ∀ K' : Act → World → Prop, Shut (∀ a w, S w → (S w → wpAnyL P md ops Q S last fuel (listed.setIfInBounds i true) a w) → K' a w) → Oper.wp P o a w K' Q)
 (hr : Region.ready md ops listed = [i] := by kernel_rfl) (hil : i ≠ last := by decide) (ho : ops[i]? = some o := by rfl) (hw : Region.wanted o (yielded ops a.tmps) = true := by rfl) : wpAnyL P md ops Q S last (fuel + 1) listed a w :=
 wpAnyL_ready hr (by simp) (AllReadyL.cons ho hil (fun K hK => by rw [if_pos hw]; exact h K hK) AllReadyL.nil)
end
theorem IsRun.cells {A : Nat → Prop} {op : Bt.Op} {known : List Bt.Page} {vf vk : Value} {s : Bt.St} {b : Nat} {w : World} (h : IsRun A op known vf vk s b w) : ∃ vn vw ve vc, ∀ i, w.cell? ⟨b, i, none⟩ = (runCells op vf vk s vn vw ve vc)[i]? := by
 obtain ⟨vn, vw, ve, vc, hr, _⟩ := h
 exact ⟨vn, vw, ve, vc, hr.blk.cell⟩
theorem IsRun.free {A : Nat → Prop} {op : Bt.Op} {known : List Bt.Page} {vf vk : Value} {s : Bt.St} {b : Nat} {w : World} (h : IsRun A op known vf vk s b w) : ∀ i, w.frozen? ⟨b, i, none⟩ = false := by
 obtain ⟨vn, vw, ve, vc, hr, _⟩ := h
 exact hr.blk.free
theorem IsRun.freshRow {A : Nat → Prop} {op : Bt.Op} {known : List Bt.Page} {vf vk : Value} {s : Bt.St} {b : Nat} {w : World} (h : IsRun A op known vf vk s b w) : PgRow w vf op.fresh ∧ ∀ c n m, vf = .slice (some ⟨c, 0, none⟩) n m → c < b := by
 obtain ⟨vn, vw, ve, vc, hr, _⟩ := h
 exact ⟨hr.fresh, hr.apartf⟩
theorem IsRun.field {A : Nat → Prop} {op : Bt.Op} {known : List Bt.Page} {vf vk : Value} {s s' : Bt.St} {b : Nat} {w : World} (h : IsRun A op known vf vk s b w) (i : Nat) (u : Value)
 (hc : ∀ vn vw ve vc, (runCells op vf vk s vn vw ve vc).setIfInBounds i u = runCells op vf vk s' vn vw ve vc) (h1 : s'.need = s.need := by rfl) (h2 : s'.writes = s.writes := by rfl)
 (h3 : s'.out.entries = s.out.entries := by rfl) (h4 : s'.out.check = s.out.check := by rfl) : IsRun A op known vf vk s' b (w.setCell ⟨b, i, none⟩ u) := by
 obtain ⟨vn, vw, ve, vc, hr, hh⟩ := h
 exact ⟨vn, vw, ve, vc, hr.over ((Over.refl b w).put i u) ((hr.blk.put i u).cast (hc vn vw ve vc)) h1 h2 h3 h4, hh⟩
theorem IsRun.alloc {A : Nat → Prop} {op : Bt.Op} {known : List Bt.Page} {vf vk : Value} {s : Bt.St} {b : Nat} {w : World} (h : IsRun A op known vf vk s b w) (o : Obj) : IsRun A op known vf vk s b (w.alloc o) := h.below (below_alloc (Below.refl _ _) _)
theorem IsRun.drew {A : Nat → Prop} {op : Bt.Op} {known : List Bt.Page} {vf vk : Value} {s : Bt.St} {b : Nat} {w : World} (h : IsRun A op known vf vk s b w) : IsRun A op known vf vk s b w.drew := h.below (Below.refl _ _).drew
theorem IsRun.put9 {A : Nat → Prop} {op : Bt.Op} {known : List Bt.Page} {vf vk : Value} {s : Bt.St} {b g : Nat} {w : World} (h : IsRun A op known vf vk s b w) (hg : b < g) (hA : ¬ A g) (v0 v1 v2 v3 v4 v5 v6 v7 v8 : Value) :
 IsRun A op known vf vk s b (((((((((w.setCell ⟨g, 0, none⟩ v0).setCell ⟨g, 1, none⟩ v1).setCell ⟨g, 2, none⟩ v2).setCell ⟨g, 3, none⟩ v3).setCell ⟨g, 4, none⟩ v4).setCell ⟨g, 5, none⟩ v5).setCell ⟨g, 6, none⟩ v6).setCell ⟨g, 7, none⟩ v7).setCell ⟨g, 8, none⟩ v8) :=
 ((((((((h.cell hg hA 0 v0).cell hg hA 1 v1).cell hg hA 2 v2).cell hg hA 3 v3).cell hg hA 4 v4).cell hg hA 5 v5).cell hg hA 6 v6).cell hg hA 7 v7).cell hg hA 8 v8
def PageRes (A : Nat → Prop) (op : Bt.Op) (known : List Bt.Page) (vf vk : Value) (b : Nat) (res : Bt.St × Option Bt.Page) (w : World) (e : Ending) (w' : World) : Prop :=
 IsRun (match res.2 with | none => New A w | some _ => A) op known vf vk res.1 b w' ∧ Over b w w' ∧ e = .returned (.tuple #[.agg (res.2.getD Bt.zeroPage).cells, .bool res.2.isSome])
theorem fresh_empty (A : Nat → Prop) (op : Bt.Op) (known : List Bt.Page) (vf vk : Value) (s : Bt.St) (b : Nat) (vt : Value) (taken : List Int) (w : World) (h : IsRun A op known vf vk s b w) (hA : ∀ c, A c → c < w.heap.size) (hf : op.fresh = []) :
 Calls Tryz.prog 93 #[.pointer (some ⟨b, 0, none⟩), vt] w (PageRes A op known vf vk b (s.fresh op taken) w) := by
 have HX : Hid (s.fresh op taken = (({ s with out := { s.out with fresh := 1 } } : Bt.St).fail 18 [], none)) := hid (by simp only [Bt.St.fresh, hf])
 have HR := hid h
 have hlt := h.lt
 have hlt1 : b < w.heap.size + 1 := by omega
 obtain ⟨vn, vw, ve, vc, hc⟩ := h.cells
 have hfr := h.free
 have k7 : w.cell? ⟨b, 7, none⟩ = some vf := hc 7
 have k23 : w.cell? ⟨b, 23, none⟩ = some (.int .i64 s.out.fresh) := hc 23
 have hvf : ∃ p cap, vf = .slice p 0 cap := by
  rcases h.freshRow.1.form with ⟨rfl, _⟩ | ⟨c, cap, rfl, _⟩
  ·exact ⟨_, _, rfl⟩
  ·rw [hf]; exact ⟨_, _, rfl⟩
 obtain ⟨p, cap, rfl⟩ := hvf
 clear h hc hf
 go_enter Tryz.func93, Tryz.ntmps93
 go_wp2_with fail
 go_at_call 81; refine (fail_none A op known (.slice p 0 cap) vk { s with out := { s.out with fresh := 1 } } b 18 _ ?hrun).mono ?_
 case hrun => exact (HR.out.field (s' := { s with out := { s.out with fresh := 1 } }) 23 _ (fun _ _ _ _ => rfl)).below qL
 rintro e w1 ⟨rfl, hrun1, ho1⟩
 have HR1 := hid hrun1
 clear hrun1
 ((obtain ⟨hc1, hf1, hs1⟩ := qO ho1); (try have := qN0 w w1))
 go_wp2_with fail
 have BF := (Blk.made' (w := w.setCell ⟨b, 23, none⟩ (.int .i64 1)) (n := w.heap.size) (t := 25) (cs := #[.int .i64 0, .int .u64 0, .int .u64 0, .int .u64 0, .int .u64 0, .int .u64 0, .int .u64 0, .int .u64 0, .int .u64 0]) (by simp [World.setCell])).grown ho1 (by simp; omega)
 refine bodyPost_ret (results_bt rfl _ _ (w.heap.size) _ _ _ rfl (by have B := BF; exact qK) Tryz.underlying25 rfl (by kernel_rfl)) rfl ?_
 rw [HX.out]
 have hna : ¬ New A ((w.setCell ⟨b, 23, none⟩ (.int .i64 1)).alloc (.cells #[.int .i64 0, .int .u64 0, .int .u64 0, .int .u64 0, .int .u64 0, .int .u64 0, .int .u64 0, .int .u64 0, .int .u64 0] 25)) w.heap.size := by
  rintro (h1 | h1)
  ·have := hA _ h1; omega
  ·simp at h1; omega
 refine ⟨(HR1.out.put9 (by omega) hna _ _ _ _ _ _ _ _ _).imp (fun c hc => by
  rcases hc with h1 | h1
  ·exact .inl h1
  ·exact .inr (by simp at h1; omega)), qV, ?_⟩
 rw [set9]
 rfl
theorem fresh_one (A : Nat → Prop) (op : Bt.Op) (known : List Bt.Page) (vf vk : Value) (s : Bt.St) (b : Nat) (vt : Value) (taken : List Int) (w : World) (h : IsRun A op known vf vk s b w) (hA : ∀ c, A c → c < w.heap.size)
 (p q : Bt.Page) (rest : List Bt.Page) (hf : op.fresh = p :: rest) (ha : Bt.allocate p 4 0 = (q, 0)) (hq : q.line ∉ taken) (ht : w.ownsRow 0 3 1 vt taken.length (intCells taken)) :
 Calls Tryz.prog 93 #[.pointer (some ⟨b, 0, none⟩), vt] w (PageRes A op known vf vk b (s, some q) w) := by
 have HR := hid h
 have hlt := h.lt
 have hlt1 : b < w.heap.size + 1 := by omega
 obtain ⟨vn, vw, ve, vc, hc⟩ := h.cells
 have k7 : w.cell? ⟨b, 7, none⟩ = some vf := hc 7
 obtain ⟨hrow, hap⟩ := h.freshRow
 have HP : Hid p.Ok := hid (hrow.ok p (by rw [hf]; simp))
 have hvf : ∃ c n cap, vf = .slice (some ⟨c, 0, none⟩) (n + 1) cap ∧ c < w.heap.size ∧ w.rangeAt c (0 * 9) p.cells.toList := by
  rcases hrow.form with ⟨_, h0⟩ | ⟨c, cap, hv, hl, hcells⟩
  ·rw [hf] at h0; cases h0
  ·exact ⟨c, rest.length, cap, by rw [hv, hf]; rfl, hl, fun j u hu => hcells 0 p (by rw [hf]; rfl) j u (by simpa using hu)⟩
 obtain ⟨c, n, cap, rfl, hcl, hcells⟩ := hvf
 obtain ⟨c0, c1, c2, c3, c4, c5, c6, c7, c8⟩ := nine hcells
 have b1 : (((n + 1 : Nat) : Int) == 0) = false := by simp; omega
 have b2 : (0 : Int) < ((n + 1 : Nat) : Int) := by omega
 have HQ : Hid (q.cells = #[.int .i64 q.line, .int .u64 q.head, .int .u64 q.d0, .int .u64 q.d1, .int .u64 q.d2, .int .u64 q.d3, .int .u64 q.d4, .int .u64 q.d5, .int .u64 q.d6]) := hid rfl
 have HA := hid ha
 have HT : ∀ w', Below w.heap.size w w' → Calls Tryz.prog 110 #[vt, .int .i64 q.line] w' fun e w'' => e = .returned (.bool false) ∧ w'' = w' := by
  intro w' hb
  have ht' := own_below ht hb
  by_cases h0 : taken.length = 0
  ·rcases ht'.2 with ⟨rfl, _⟩ | ⟨g, cp, cur, rfl, _⟩
   ·exact Tryz.slices_Contains_int_empty _ _ _ _
   ·rw [h0]; exact Tryz.slices_Contains_int_empty _ _ _ _
  ·obtain ⟨g, cp, rfl⟩ := own_form ht' (by omega)
   refine (Tryz.slices_Contains_int g 0 taken.length cp taken q.line w' (Nat.le_refl _) (by have := own_cap ht'; unfold maxLen at this; omega) (fun j hj => ?_)).mono ?_
   ·rw [Nat.zero_add]
    refine own_cells ht' j _ ?_
    simp [intCells, List.getD_eq_getElem?_getD, hj]
   ·rintro e w'' ⟨rfl, rfl⟩
    refine ⟨?_, rfl⟩
    rw [List.take_length]
    simp [hq]
 have HTT := hid HT
 clear h hc hf hrow hcells ha hq ht HT
 simp only [Nat.zero_mul, Nat.zero_add] at c0 c1 c2 c3 c4 c5 c6 c7 c8
 go_enter Tryz.func93, Tryz.ntmps93
 go_wp2_with fail
 go_at_call 109; refine (Allocate_any p HP.out _).mono ?_
 rintro e w1 ⟨rfl, hb⟩
 rw [HA.out, HQ.out]
 ((obtain ⟨hc1, hf1, hs1⟩ := qR hb); (try have := qN0 w w1))
 go_wp2_with fail
 go_at_call 110; refine (HTT.out _ qL).mono ?_
 rintro e w2 ⟨rfl, hw⟩; subst hw
 go_wp2_with fail
 have BF := (Blk.made w 25 #[.int .i64 0, .int .u64 0, .int .u64 0, .int .u64 0, .int .u64 0, .int .u64 0, .int .u64 0, .int .u64 0, .int .u64 0]).kept hb
 refine bodyPost_ret (results_bt rfl _ _ (w.heap.size) _ _ _ rfl (by have B := BF; exact qK) Tryz.underlying25 rfl (by kernel_rfl)) rfl ?_
 refine ⟨(by (repeat (first | with_reducible exact HR.out | (with_reducible refine IsRun.cell ?_ (by omega) (fun h1 => by have := hA _ h1; omega) _ _) | with_reducible refine IsRun.alloc ?_ _ | with_reducible refine IsRun.drew ?_ | with_reducible refine IsRun.below ?_ (by assumption))) : IsRun A op known (.slice (some ⟨c, 0, none⟩) (n + 1) cap) vk s b _), qV, ?_⟩
 rw [set9]
 show _ = Ending.returned (.tuple #[.agg q.cells, .bool true])
 rw [HQ.out]
 rfl
end Go.Proofs.YtjmpekanlmepmaaGreatDoor
