/- Package btree: a node is written onto its page: the walk (printed by fill_gen.py). -/
import Derived.Test.YtjmpekanlmepmaaGreatDoorNN09
set_option linter.all false
set_option maxRecDepth 20000
set_option maxHeartbeats 8000000
open Go.Lib (hid)
namespace Go.Proofs.YtjmpekanlmepmaaGreatDoor
open Go.RowKit
theorem sG10 {P : Prop} (h : P := by
 go_loopw [50] (fun i wr => FillRel n p w i wr) (fun i _ => n.entries.length - (intOf i).toNat)
 case atStart => exact ⟨0, Nat.zero_le _, rfl, qL, by simpa using hfin, (B1.data7 _ _ _ _ _ _ _).cast (by rw [word_raw' n.high n.right hh hpk, ← HA.out]; rfl), by (have B := B2; exact qK)⟩
 case round =>
  obtain ⟨k, hkl, rfl, hbw, hsz, BP, BZ⟩ := hrel
  by_cases hlt2 : k < n.entries.length
  ·obtain ⟨c0, c1, c2⟩ := three Hc.out hlt2
   rw [← hbw.cell (p := ⟨b, off + k * 3, none⟩) hlt] at c0
   rw [← hbw.cell (p := ⟨b, off + k * 3 + 1, none⟩) hlt] at c1
   rw [← hbw.cell (p := ⟨b, off + k * 3 + 2, none⟩) hlt] at c2
   have fp := BP.free
   obtain ⟨y, hy⟩ : ∃ y, wr.cell? ⟨w.heap.size + 1, 2 + (2 + k), none⟩ = some y := by
    rw [BP.cell]; exact ⟨_, Array.getElem?_eq_getElem (by show 2 + (2 + k) < 9; omega)⟩
   have hw1 : IntKind.i64.wrap (2 + (k : Int)) = 2 + k := IntWalk.i64_in _ (by omega)
   have zr : w.heap.size + 1 < wr.heap.size := by omega
   have zr0 : w.heap.size < wr.heap.size := by omega
   have hw2 : (0 : Int) ≤ 2 + k := by omega
   have hw3 : 2 + (k : Int) < 7 := by omega
   have hw4 : (2 + (k : Int)).toNat = 2 + k := by omega
   go_wp2_with fail
   refine qB (w.heap.size + 1) fun hSt => ?_
   refine qS [0, 1, 2, 3, 4, 5, 6, 7, 11] ?_
   iterate 9 (refine qT ?_; simp only [Act.put, qY])
   refine TakeSeq.done ?_
   refine qH 8 fun K hK => ?_
   go_simp
   go_at_call 44; refine (Pack_any _ _ _).mono ?_; rintro e w4 ⟨rfl, hb4⟩; ((obtain ⟨hc4, hf4, hs4⟩ := qR hb4); (try have := qN0 w w4); (try have := qN1 w w4); (try have := qN2 w w4); (try have := qN0 wr w4); (try have := qN1 wr w4))
   go_wp2_with fail
   refine hK.out _ _ (SteadyBut.of qL) (fun hHeld => ?_)
   clear hK K
   refine qS [9, 10, 12] ?_
   iterate 3 (refine qT ?_; simp only [Act.put, qY])
   refine TakeSeq.done ?_
   refine qH 13 fun K hK => ?_
   go_simp
   refine hK.out _ _ qE (fun hHeld => ?_)
   clear hK K
   refine qD ?_ _
   go_wp2_with fail
   have BP4 := ((BP.alloc _).drew).kept hb4
   have BZ4 := ((BZ.alloc _).drew).kept hb4
   go_roundw
   case rel =>
    refine ⟨k + 1, by omega, by go_num, qL, by simp; omega, ?_, by (have B := BZ4; exact qK)⟩
    refine (BP4.put (2 + (2 + k)) _).cast ?_
    rw [fillUpto_step n p k hlt2 hn5, word_raw2 _ n.entries[k].to (He.out.ok _ (List.getElem_mem hlt2)) (pack_bound _)]
   case measure => simp [intOf]; omega
  ·have hke : k = n.entries.length := by omega
   have HE := hid hke
   clear hke
   have fp := BP.free
   have fz := BZ.free
   have kp := BP.cell
   have kz := BZ.cell
   have zr : w.heap.size + 1 < wr.heap.size := by omega
   have zr2 : w.heap.size + 1 + 1 < wr.heap.size := by omega
   simp only [Bt.Page.cells] at kp
   rw [zeroPage_cells] at kz
   go_wp2_with fail
   have BZ2 := BZ
   rw [zeroPage_cells] at BZ2
   (refine bodyPost_ret (results_b rfl _ _ (w.heap.size + 1 + 1) _ _ _ rfl (by have B := BZ2; exact qK) Tryz.underlying25 rfl (by kernel_rfl)) rfl ⟨?_, ?_⟩)
   ·rw [set9, ← fillUpto_all n p hn5, HE.out]
   ·exact qL) : P := h
theorem fill_ft (n : Bt.Node) (v : Value) (p : Bt.Page) (hp : p.Ok) (hn : NodeOk n) (hl : n.leftmost = false) (hd : n.dead = true) (w : World) (he : EntRow w v n.entries)
 (b off cap : Nat) (hv : v = .slice (some ⟨b, off, none⟩) n.entries.length cap) (hlt : b < w.heap.size) (hcells : ∀ (i : Nat) (p : Bt.Entry), n.entries[i]? = some p → ∀ (j : Nat) (u : Value), p.cells[j]? = some u → w.cell? ⟨b, off + i * 3 + j, none⟩ = some u) :
 Calls Tryz.prog 64 #[.agg (nodeCells n v), .agg p.cells] w fun e w' => e = .returned (.agg (n.fill p).cells) ∧ Below w.heap.size w w' := by
 have Hp := hid hp
 have hpd := hp.d0
 have He := hid he
 have hvl := hn.level
 have hh := hn.high
 have hlen := hn.len
 have hn5 : n.entries.length ≤ 5 := hn.len
 have hen := he.len
 unfold maxLen at hen
 have hpk := pack_bound n.right
 have e1 := aux_or n.level n.entries.length hvl (by omega)
 have e3 := aux_or2 (n.level + n.entries.length * 256) (by omega)
 have e4 := word_or n.high (Bt.pack n.right) hh hpk
 have HA : Hid (n.aux = n.level + n.entries.length * 256 + 131072) := hid (by simp [Bt.Node.aux, hl, hd, Bt.flag])
 have hgen : 0 ≤ Bt.tagGen p.d0 ∧ Bt.tagGen p.d0 < 16777216 := by unfold Bt.tagGen; omega
 have hkind : 0 ≤ Bt.tagKind p.d0 ∧ Bt.tagKind p.d0 < 256 := by unfold Bt.tagKind; omega
 unfold nodeCells Bt.Page.cells
 rw [hl, hd]
 clear hp hn hl hd
 subst hv
 have Hc := hid hcells
 clear hcells he
 go_enter Tryz.func64, Tryz.ntmps64
 go_wp2_with fail
 go_at_call 62; refine (UnpackTag_any p.d0 hpd.1 hpd.2 _).mono ?_; rintro e w1 ⟨rfl, hb⟩; ((obtain ⟨hc1, hf1, hs1⟩ := qR hb); (try have := qN0 w w1); (try have := qN1 w w1); (try have := qN2 w w1))
 go_wp2_with fail
 refine qB (w.heap.size + 1) fun hSt => ?_
 refine qS [0, 2, 3, 4, 5, 6] ?_
 iterate 6 (refine qT ?_; simp only [Act.put, qY])
 refine TakeSeq.done ?_
 refine qH 1 fun K hK => ?_
 go_simp
 go_at_call 99; refine (PackTag_any _ _ _ (by omega) (by omega) (by omega) _).mono ?_; rintro e w2 ⟨rfl, hb2⟩; ((obtain ⟨hc2, hf2, hs2⟩ := qR hb2); (try have := qN0 w w2); (try have := qN1 w w2); (try have := qN2 w w2); (try have := qN0 w1 w2); (try have := qN1 w1 w2))
 go_wp2_with fail
 refine hK.out _ _ (SteadyBut.of qL) (fun hHeld => ?_)
 clear hK K
 refine qH 7 fun K hK => ?_
 go_simp
 go_at_call 44; refine (Pack_any _ _ _).mono ?_; rintro e w3 ⟨rfl, hb3⟩; ((obtain ⟨hc3, hf3, hs3⟩ := qR hb3); (try have := qN0 w w3); (try have := qN1 w w3); (try have := qN2 w w3); (try have := qN0 w1 w3); (try have := qN1 w1 w3); (try have := qN0 w2 w3); (try have := qN1 w2 w3))
 go_wp2_with fail
 refine hK.out _ _ (SteadyBut.of qL) (fun hHeld => ?_)
 clear hK K
 refine qS [8, 9, 10, 11, 12] ?_
 iterate 5 (refine qT ?_; simp only [Act.put, qY])
 refine TakeSeq.done ?_
 refine qH 13 fun K hK => ?_
 go_simp
 refine hK.out _ _ qE (fun hHeld => ?_)
 clear hK K
 refine qD ?_ _
 go_wp2_with fail
 have B1 := (((((made23 w (t := 25) (cs := p.cells)).kept hb).alloc _).drew).kept hb2).kept hb3
 have B2 := (((((made33 w (t := 25) (cs := Bt.zeroPage.cells)).kept hb).alloc _).drew).kept hb2).kept hb3
 simp only [Bt.Page.cells] at B1
 have hfin : w.heap.size + 1 + 1 + 1 ≤ w3.heap.size := by omega
 clear hc1 hf1 hc2 hf2 hc3 hf3 e1 e4 e3
 exact sG10
theorem fill_ftn (n : Bt.Node) (p : Bt.Page) (hp : p.Ok) (hn : NodeOk n) (hl : n.leftmost = false) (hd : n.dead = true) (w : World) (hes : n.entries = []) (he : EntRow w (.slice none 0 0) n.entries) :
 Calls Tryz.prog 64 #[.agg (nodeCells n (.slice none 0 0)), .agg p.cells] w fun e w' => e = .returned (.agg (n.fill p).cells) ∧ Below w.heap.size w w' := by
 have Hp := hid hp
 have hpd := hp.d0
 have He := hid he
 have hvl := hn.level
 have hh := hn.high
 have hlen := hn.len
 have hn5 : n.entries.length ≤ 5 := hn.len
 have hen := he.len
 unfold maxLen at hen
 have hpk := pack_bound n.right
 have e1 : bits .or .u32 n.level 0 = n.level := by have := aux_or n.level 0 hvl (by omega); simpa using this
 have e3 := aux_or2 (n.level) (by omega)
 have e4 := word_or n.high (Bt.pack n.right) hh hpk
 have HA : Hid (n.aux = n.level + 131072) := hid (by simp [Bt.Node.aux, hl, hd, Bt.flag, hes])
 have hgen : 0 ≤ Bt.tagGen p.d0 ∧ Bt.tagGen p.d0 < 16777216 := by unfold Bt.tagGen; omega
 have hkind : 0 ≤ Bt.tagKind p.d0 ∧ Bt.tagKind p.d0 < 256 := by unfold Bt.tagKind; omega
 unfold nodeCells Bt.Page.cells
 rw [hl, hd]
 clear hp hn hl hd
 have hz : n.entries.length = 0 := by rw [hes]; rfl
 have HZ := hid hz
 clear hz hes he
 go_enter Tryz.func64, Tryz.ntmps64
 go_wp2_with fail
 go_at_call 62; refine (UnpackTag_any p.d0 hpd.1 hpd.2 _).mono ?_; rintro e w1 ⟨rfl, hb⟩; ((obtain ⟨hc1, hf1, hs1⟩ := qR hb); (try have := qN0 w w1); (try have := qN1 w w1); (try have := qN2 w w1))
 go_wp2_with fail
 refine qB (w.heap.size + 1) fun hSt => ?_
 refine qS [0, 2, 3, 4, 5, 6] ?_
 iterate 6 (refine qT ?_; simp only [Act.put, qY])
 refine TakeSeq.done ?_
 refine qH 1 fun K hK => ?_
 go_simp
 go_at_call 99; refine (PackTag_any _ _ _ (by omega) (by omega) (by omega) _).mono ?_; rintro e w2 ⟨rfl, hb2⟩; ((obtain ⟨hc2, hf2, hs2⟩ := qR hb2); (try have := qN0 w w2); (try have := qN1 w w2); (try have := qN2 w w2); (try have := qN0 w1 w2); (try have := qN1 w1 w2))
 go_wp2_with fail
 refine hK.out _ _ (SteadyBut.of qL) (fun hHeld => ?_)
 clear hK K
 refine qH 7 fun K hK => ?_
 go_simp
 go_at_call 44; refine (Pack_any _ _ _).mono ?_; rintro e w3 ⟨rfl, hb3⟩; ((obtain ⟨hc3, hf3, hs3⟩ := qR hb3); (try have := qN0 w w3); (try have := qN1 w w3); (try have := qN2 w w3); (try have := qN0 w1 w3); (try have := qN1 w1 w3); (try have := qN0 w2 w3); (try have := qN1 w2 w3))
 go_wp2_with fail
 refine hK.out _ _ (SteadyBut.of qL) (fun hHeld => ?_)
 clear hK K
 refine qS [8, 9, 10, 11, 12] ?_
 iterate 5 (refine qT ?_; simp only [Act.put, qY])
 refine TakeSeq.done ?_
 refine qH 13 fun K hK => ?_
 go_simp
 refine hK.out _ _ qE (fun hHeld => ?_)
 clear hK K
 refine qD ?_ _
 go_wp2_with fail
 refine wp_loop_rounds 1 ?_
 rw [rounds_succ]
 go_wp2_with fail
 have B1 := (((((made23 w (t := 25) (cs := p.cells)).kept hb).alloc _).drew).kept hb2).kept hb3
 have B2 := (((((made33 w (t := 25) (cs := Bt.zeroPage.cells)).kept hb).alloc _).drew).kept hb2).kept hb3
 simp only [Bt.Page.cells] at B1
 rw [zeroPage_cells] at B2
 have BP := (B1.data7 (.int .u64 (Bt.packTag (Bt.tagKind p.d0) (Bt.tagGen p.d0) (n.level + 131072))) (.int .u64 (bits .or .u64 n.high (IntKind.u64.wrap (IntKind.u64.wrap (Bt.pack ⟨n.right.line, n.right.gen⟩) * 4294967296)))) (.int .u64 0) (.int .u64 0) (.int .u64 0) (.int .u64 0) (.int .u64 0))
 (refine bodyPost_ret (results_b rfl _ _ (w.heap.size + 1 + 1) _ _ _ rfl (by have B := B2; exact qK) Tryz.underlying25 rfl (by kernel_rfl)) rfl ⟨?_, ?_⟩)
 ·rw [set9, ← fillUpto_all n p hn5, HZ.out, word_raw' n.high n.right hh hpk, ← HA.out]; rfl
 ·exact qL
theorem fill_ff (n : Bt.Node) (v : Value) (p : Bt.Page) (hp : p.Ok) (hn : NodeOk n) (hl : n.leftmost = false) (hd : n.dead = false) (w : World) (he : EntRow w v n.entries)
 (b off cap : Nat) (hv : v = .slice (some ⟨b, off, none⟩) n.entries.length cap) (hlt : b < w.heap.size) (hcells : ∀ (i : Nat) (p : Bt.Entry), n.entries[i]? = some p → ∀ (j : Nat) (u : Value), p.cells[j]? = some u → w.cell? ⟨b, off + i * 3 + j, none⟩ = some u) :
 Calls Tryz.prog 64 #[.agg (nodeCells n v), .agg p.cells] w fun e w' => e = .returned (.agg (n.fill p).cells) ∧ Below w.heap.size w w' := by
 have Hp := hid hp
 have hpd := hp.d0
 have He := hid he
 have hvl := hn.level
 have hh := hn.high
 have hlen := hn.len
 have hn5 : n.entries.length ≤ 5 := hn.len
 have hen := he.len
 unfold maxLen at hen
 have hpk := pack_bound n.right
 have e1 := aux_or n.level n.entries.length hvl (by omega)
 have e4 := word_or n.high (Bt.pack n.right) hh hpk
 have HA : Hid (n.aux = n.level + n.entries.length * 256) := hid (by simp [Bt.Node.aux, hl, hd, Bt.flag])
 have hgen : 0 ≤ Bt.tagGen p.d0 ∧ Bt.tagGen p.d0 < 16777216 := by unfold Bt.tagGen; omega
 have hkind : 0 ≤ Bt.tagKind p.d0 ∧ Bt.tagKind p.d0 < 256 := by unfold Bt.tagKind; omega
 unfold nodeCells Bt.Page.cells
 rw [hl, hd]
 clear hp hn hl hd
 subst hv
 have Hc := hid hcells
 clear hcells he
 go_enter Tryz.func64, Tryz.ntmps64
 go_wp2_with fail
 go_at_call 62; refine (UnpackTag_any p.d0 hpd.1 hpd.2 _).mono ?_; rintro e w1 ⟨rfl, hb⟩; ((obtain ⟨hc1, hf1, hs1⟩ := qR hb); (try have := qN0 w w1); (try have := qN1 w w1); (try have := qN2 w w1))
 go_wp2_with fail
 refine qB (w.heap.size + 1) fun hSt => ?_
 refine qS [0, 2, 3, 4, 5, 6] ?_
 iterate 6 (refine qT ?_; simp only [Act.put, qY])
 refine TakeSeq.done ?_
 refine qH 1 fun K hK => ?_
 go_simp
 go_at_call 99; refine (PackTag_any _ _ _ (by omega) (by omega) (by omega) _).mono ?_; rintro e w2 ⟨rfl, hb2⟩; ((obtain ⟨hc2, hf2, hs2⟩ := qR hb2); (try have := qN0 w w2); (try have := qN1 w w2); (try have := qN2 w w2); (try have := qN0 w1 w2); (try have := qN1 w1 w2))
 go_wp2_with fail
 refine hK.out _ _ (SteadyBut.of qL) (fun hHeld => ?_)
 clear hK K
 refine qH 7 fun K hK => ?_
 go_simp
 go_at_call 44; refine (Pack_any _ _ _).mono ?_; rintro e w3 ⟨rfl, hb3⟩; ((obtain ⟨hc3, hf3, hs3⟩ := qR hb3); (try have := qN0 w w3); (try have := qN1 w w3); (try have := qN2 w w3); (try have := qN0 w1 w3); (try have := qN1 w1 w3); (try have := qN0 w2 w3); (try have := qN1 w2 w3))
 go_wp2_with fail
 refine hK.out _ _ (SteadyBut.of qL) (fun hHeld => ?_)
 clear hK K
 refine qS [8, 9, 10, 11, 12] ?_
 iterate 5 (refine qT ?_; simp only [Act.put, qY])
 refine TakeSeq.done ?_
 refine qH 13 fun K hK => ?_
 go_simp
 refine hK.out _ _ qE (fun hHeld => ?_)
 clear hK K
 refine qD ?_ _
 go_wp2_with fail
 have B1 := (((((made23 w (t := 25) (cs := p.cells)).kept hb).alloc _).drew).kept hb2).kept hb3
 have B2 := (((((made33 w (t := 25) (cs := Bt.zeroPage.cells)).kept hb).alloc _).drew).kept hb2).kept hb3
 simp only [Bt.Page.cells] at B1
 have hfin : w.heap.size + 1 + 1 + 1 ≤ w3.heap.size := by omega
 clear hc1 hf1 hc2 hf2 hc3 hf3 e1 e4
 exact sG10
theorem fill_ffn (n : Bt.Node) (p : Bt.Page) (hp : p.Ok) (hn : NodeOk n) (hl : n.leftmost = false) (hd : n.dead = false) (w : World) (hes : n.entries = []) (he : EntRow w (.slice none 0 0) n.entries) :
 Calls Tryz.prog 64 #[.agg (nodeCells n (.slice none 0 0)), .agg p.cells] w fun e w' => e = .returned (.agg (n.fill p).cells) ∧ Below w.heap.size w w' := by
 have Hp := hid hp
 have hpd := hp.d0
 have He := hid he
 have hvl := hn.level
 have hh := hn.high
 have hlen := hn.len
 have hn5 : n.entries.length ≤ 5 := hn.len
 have hen := he.len
 unfold maxLen at hen
 have hpk := pack_bound n.right
 have e1 : bits .or .u32 n.level 0 = n.level := by have := aux_or n.level 0 hvl (by omega); simpa using this
 have e4 := word_or n.high (Bt.pack n.right) hh hpk
 have HA : Hid (n.aux = n.level) := hid (by simp [Bt.Node.aux, hl, hd, Bt.flag, hes])
 have hgen : 0 ≤ Bt.tagGen p.d0 ∧ Bt.tagGen p.d0 < 16777216 := by unfold Bt.tagGen; omega
 have hkind : 0 ≤ Bt.tagKind p.d0 ∧ Bt.tagKind p.d0 < 256 := by unfold Bt.tagKind; omega
 unfold nodeCells Bt.Page.cells
 rw [hl, hd]
 clear hp hn hl hd
 have hz : n.entries.length = 0 := by rw [hes]; rfl
 have HZ := hid hz
 clear hz hes he
 go_enter Tryz.func64, Tryz.ntmps64
 go_wp2_with fail
 go_at_call 62; refine (UnpackTag_any p.d0 hpd.1 hpd.2 _).mono ?_; rintro e w1 ⟨rfl, hb⟩; ((obtain ⟨hc1, hf1, hs1⟩ := qR hb); (try have := qN0 w w1); (try have := qN1 w w1); (try have := qN2 w w1))
 go_wp2_with fail
 refine qB (w.heap.size + 1) fun hSt => ?_
 refine qS [0, 2, 3, 4, 5, 6] ?_
 iterate 6 (refine qT ?_; simp only [Act.put, qY])
 refine TakeSeq.done ?_
 refine qH 1 fun K hK => ?_
 go_simp
 go_at_call 99; refine (PackTag_any _ _ _ (by omega) (by omega) (by omega) _).mono ?_; rintro e w2 ⟨rfl, hb2⟩; ((obtain ⟨hc2, hf2, hs2⟩ := qR hb2); (try have := qN0 w w2); (try have := qN1 w w2); (try have := qN2 w w2); (try have := qN0 w1 w2); (try have := qN1 w1 w2))
 go_wp2_with fail
 refine hK.out _ _ (SteadyBut.of qL) (fun hHeld => ?_)
 clear hK K
 refine qH 7 fun K hK => ?_
 go_simp
 go_at_call 44; refine (Pack_any _ _ _).mono ?_; rintro e w3 ⟨rfl, hb3⟩; ((obtain ⟨hc3, hf3, hs3⟩ := qR hb3); (try have := qN0 w w3); (try have := qN1 w w3); (try have := qN2 w w3); (try have := qN0 w1 w3); (try have := qN1 w1 w3); (try have := qN0 w2 w3); (try have := qN1 w2 w3))
 go_wp2_with fail
 refine hK.out _ _ (SteadyBut.of qL) (fun hHeld => ?_)
 clear hK K
 refine qS [8, 9, 10, 11, 12] ?_
 iterate 5 (refine qT ?_; simp only [Act.put, qY])
 refine TakeSeq.done ?_
 refine qH 13 fun K hK => ?_
 go_simp
 refine hK.out _ _ qE (fun hHeld => ?_)
 clear hK K
 refine qD ?_ _
 go_wp2_with fail
 refine wp_loop_rounds 1 ?_
 rw [rounds_succ]
 go_wp2_with fail
 have B1 := (((((made23 w (t := 25) (cs := p.cells)).kept hb).alloc _).drew).kept hb2).kept hb3
 have B2 := (((((made33 w (t := 25) (cs := Bt.zeroPage.cells)).kept hb).alloc _).drew).kept hb2).kept hb3
 simp only [Bt.Page.cells] at B1
 rw [zeroPage_cells] at B2
 have BP := (B1.data7 (.int .u64 (Bt.packTag (Bt.tagKind p.d0) (Bt.tagGen p.d0) (n.level))) (.int .u64 (bits .or .u64 n.high (IntKind.u64.wrap (IntKind.u64.wrap (Bt.pack ⟨n.right.line, n.right.gen⟩) * 4294967296)))) (.int .u64 0) (.int .u64 0) (.int .u64 0) (.int .u64 0) (.int .u64 0))
 (refine bodyPost_ret (results_b rfl _ _ (w.heap.size + 1 + 1) _ _ _ rfl (by have B := B2; exact qK) Tryz.underlying25 rfl (by kernel_rfl)) rfl ⟨?_, ?_⟩)
 ·rw [set9, ← fillUpto_all n p hn5, HZ.out, word_raw' n.high n.right hh hpk, ← HA.out]; rfl
 ·exact qL
end Go.Proofs.YtjmpekanlmepmaaGreatDoor
