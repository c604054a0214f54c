/- Package btree: a node is written onto its page: the walk (printed by fill_gen.py). -/
import Derived.Test.YtcoiehgcfjfhaaaGreatDoorQ02
import Derived.IntWalk
import Derived.ChangeKeysEq
import Derived.Deep.DeepCutAuto
import Derived.Deep.CutBlock
import Derived.Test.YtcoiehgcfjfhaaaGreatDoorQ01
import Derived.Lib.SlicesCompact
set_option linter.all false
set_option maxRecDepth 20000
set_option maxHeartbeats 8000000
open Go.Lib (hid)
namespace Go.Proofs.YtcoiehgcfjfhaaaGreatDoor
open Go.RowKit
theorem fill_tt (n : Bt.Node) (v : Value) (p : Bt.Page) (hp : p.Ok) (hn : NodeOk n) (hl : n.leftmost = true) (hd : n.dead = true) (w : World) (he : EntRow w v n.entries)
    (b off cap : Nat) (hv : v = .slice (some ⟨b, off, none⟩) n.entries.length cap) (hlt : b < w.heap.size) (hcells : ∀ (i : Nat) (p : Bt.Entry), n.entries[i]? = some p → ∀ (j : Nat) (u : Value), p.cells[j]? = some u → w.cell? ⟨b, off + i * 3 + j, none⟩ = some u) :
    Calls Tryz.prog 194 #[.agg (nodeCells n v), .agg p.cells] w fun e w' => e = .returned (.agg (n.fill p).cells) ∧ Below w.heap.size w w' := by
  have Hp := hid hp
  have hpd := hp.d0
  have He := hid he
  have hvl := hn.level
  have hh := hn.high
  have hlen := hn.len
  have hn5 : n.entries.length ≤ 5 := hn.len
  have hen := he.len
  unfold maxLen at hen
  have hpk := pack_bound n.right
  have e1 := aux_or n.level n.entries.length hvl (by omega)
  have e2 := aux_or1 (n.level + n.entries.length * 256) (by omega)
  have e3 := aux_or2 (n.level + n.entries.length * 256 + 65536) (by omega)
  have e4 := word_or n.high (Bt.pack n.right) hh hpk
  have HA : Hid (n.aux = n.level + n.entries.length * 256 + 65536 + 131072) := hid (by simp [Bt.Node.aux, hl, hd, Bt.flag])
  have hgen : 0 ≤ Bt.tagGen p.d0 ∧ Bt.tagGen p.d0 < 16777216 := by unfold Bt.tagGen; omega
  have hkind : 0 ≤ Bt.tagKind p.d0 ∧ Bt.tagKind p.d0 < 256 := by unfold Bt.tagKind; omega
  unfold nodeCells Bt.Page.cells
  rw [hl, hd]
  clear hp hn hl hd
  subst hv
  have Hc := hid hcells
  clear hcells he
  go_enter Tryz.func194, Tryz.ntmps194
  go_wp2_with fail
  go_at_call 160; refine (UnpackTag_any p.d0 hpd.1 hpd.2 _).mono ?_; rintro e w1 ⟨rfl, hb⟩; ((obtain ⟨hc1, hf1, hs1⟩ := qR hb); (try have := qN0 w w1); (try have := qN1 w w1); (try have := qN2 w w1))
  go_wp2_with fail
  refine qB (w.heap.size + 1) fun hSt => ?_
  refine qS [0, 2, 3, 4, 5, 6] ?_
  iterate 6 (refine qT ?_; simp only [Act.put, qY])
  refine TakeSeq.done ?_
  refine qH 1 fun K hK => ?_
  go_simp
  go_at_call 208; refine (PackTag_any _ _ _ (by omega) (by omega) (by omega) _).mono ?_; rintro e w2 ⟨rfl, hb2⟩; ((obtain ⟨hc2, hf2, hs2⟩ := qR hb2); (try have := qN0 w w2); (try have := qN1 w w2); (try have := qN2 w w2); (try have := qN0 w1 w2); (try have := qN1 w1 w2))
  go_wp2_with fail
  refine hK.out _ _ (SteadyBut.of qL) (fun hHeld => ?_)
  clear hK K
  refine qH 7 fun K hK => ?_
  go_simp
  go_at_call 207; refine (Pack_any _ _ _).mono ?_; rintro e w3 ⟨rfl, hb3⟩; ((obtain ⟨hc3, hf3, hs3⟩ := qR hb3); (try have := qN0 w w3); (try have := qN1 w w3); (try have := qN2 w w3); (try have := qN0 w1 w3); (try have := qN1 w1 w3); (try have := qN0 w2 w3); (try have := qN1 w2 w3))
  go_wp2_with fail
  refine hK.out _ _ (SteadyBut.of qL) (fun hHeld => ?_)
  clear hK K
  refine qS [8, 9, 10, 11, 12] ?_
  iterate 5 (refine qT ?_; simp only [Act.put, qY])
  refine TakeSeq.done ?_
  refine qH 13 fun K hK => ?_
  go_simp
  refine hK.out _ _ qE (fun hHeld => ?_)
  clear hK K
  refine qD ?_ _
  go_wp2_with fail
  have B1 := (((((made23 w (t := 75) (cs := p.cells)).kept hb).alloc _).drew).kept hb2).kept hb3
  have B2 := (((((made33 w (t := 75) (cs := Bt.zeroPage.cells)).kept hb).alloc _).drew).kept hb2).kept hb3
  simp only [Bt.Page.cells] at B1
  have hfin : w.heap.size + 1 + 1 + 1 ≤ w3.heap.size := by omega
  clear hc1 hf1 hc2 hf2 hc3 hf3 e1 e4 e2 e3
  go_loopw [50] (fun i wr => FillRel n p w i wr) (fun i _ => n.entries.length - (intOf i).toNat)
  case atStart => exact ⟨0, Nat.zero_le _, rfl, qL, by simpa using hfin, (B1.data7 _ _ _ _ _ _ _).cast (by rw [word_raw' n.high n.right hh hpk, ← HA.out]; rfl), by (have B := B2; exact qK)⟩
  case round =>
    obtain ⟨k, hkl, rfl, hbw, hsz, BP, BZ⟩ := hrel
    by_cases hlt2 : k < n.entries.length
    · obtain ⟨c0, c1, c2⟩ := three Hc.out hlt2
      rw [← hbw.cell (p := ⟨b, off + k * 3, none⟩) hlt] at c0
      rw [← hbw.cell (p := ⟨b, off + k * 3 + 1, none⟩) hlt] at c1
      rw [← hbw.cell (p := ⟨b, off + k * 3 + 2, none⟩) hlt] at c2
      have fp := BP.free
      obtain ⟨y, hy⟩ : ∃ y, wr.cell? ⟨w.heap.size + 1, 2 + (2 + k), none⟩ = some y := by
        rw [BP.cell]; exact ⟨_, Array.getElem?_eq_getElem (by show 2 + (2 + k) < 9; omega)⟩
      have hw1 : IntKind.i64.wrap (2 + (k : Int)) = 2 + k := IntWalk.i64_in _ (by omega)
      have zr : w.heap.size + 1 < wr.heap.size := by omega
      have zr0 : w.heap.size < wr.heap.size := by omega
      have hw2 : (0 : Int) ≤ 2 + k := by omega
      have hw3 : 2 + (k : Int) < 7 := by omega
      have hw4 : (2 + (k : Int)).toNat = 2 + k := by omega
      go_wp2_with fail
      refine qB (w.heap.size + 1) fun hSt => ?_
      refine qS [0, 1, 2, 3, 4, 5, 6, 7, 11] ?_
      iterate 9 (refine qT ?_; simp only [Act.put, qY])
      refine TakeSeq.done ?_
      refine qH 8 fun K hK => ?_
      go_simp
      go_at_call 207; refine (Pack_any _ _ _).mono ?_; rintro e w4 ⟨rfl, hb4⟩; ((obtain ⟨hc4, hf4, hs4⟩ := qR hb4); (try have := qN0 w w4); (try have := qN1 w w4); (try have := qN2 w w4); (try have := qN0 wr w4); (try have := qN1 wr w4))
      go_wp2_with fail
      refine hK.out _ _ (SteadyBut.of qL) (fun hHeld => ?_)
      clear hK K
      refine qS [9, 10, 12] ?_
      iterate 3 (refine qT ?_; simp only [Act.put, qY])
      refine TakeSeq.done ?_
      refine qH 13 fun K hK => ?_
      go_simp
      refine hK.out _ _ qE (fun hHeld => ?_)
      clear hK K
      refine qD ?_ _
      go_wp2_with fail
      have BP4 := ((BP.alloc _).drew).kept hb4
      have BZ4 := ((BZ.alloc _).drew).kept hb4
      go_roundw
      case rel =>
        refine ⟨k + 1, by omega, by go_num, qL, by simp; omega, ?_, by (have B := BZ4; exact qK)⟩
        refine (BP4.put (2 + (2 + k)) _).cast ?_
        rw [fillUpto_step n p k hlt2 hn5, word_raw2 _ n.entries[k].to (He.out.ok _ (List.getElem_mem hlt2)) (pack_bound _)]
      case measure => simp [intOf]; omega
    · have hke : k = n.entries.length := by omega
      have HE := hid hke
      clear hke
      have fp := BP.free
      have fz := BZ.free
      have kp := BP.cell
      have kz := BZ.cell
      have zr : w.heap.size + 1 < wr.heap.size := by omega
      have zr2 : w.heap.size + 1 + 1 < wr.heap.size := by omega
      simp only [Bt.Page.cells] at kp
      rw [zeroPage_cells] at kz
      go_wp2_with fail
      have BZ2 := BZ
      rw [zeroPage_cells] at BZ2
      (refine bodyPost_ret (results_b rfl _ _ (w.heap.size + 1 + 1) _ _ _ rfl (by have B := BZ2; exact qK) Tryz.underlying75 rfl (by kernel_rfl)) rfl ⟨?_, ?_⟩)
      · rw [set9, ← fillUpto_all n p hn5, HE.out]
      · exact qL
theorem fill_ttn (n : Bt.Node) (p : Bt.Page) (hp : p.Ok) (hn : NodeOk n) (hl : n.leftmost = true) (hd : n.dead = true) (w : World) (hes : n.entries = []) (he : EntRow w (.slice none 0 0) n.entries) :
    Calls Tryz.prog 194 #[.agg (nodeCells n (.slice none 0 0)), .agg p.cells] w fun e w' => e = .returned (.agg (n.fill p).cells) ∧ Below w.heap.size w w' := by
  have Hp := hid hp
  have hpd := hp.d0
  have He := hid he
  have hvl := hn.level
  have hh := hn.high
  have hlen := hn.len
  have hn5 : n.entries.length ≤ 5 := hn.len
  have hen := he.len
  unfold maxLen at hen
  have hpk := pack_bound n.right
  have e1 : bits .or .u32 n.level 0 = n.level := by have := aux_or n.level 0 hvl (by omega); simpa using this
  have e2 := aux_or1 (n.level) (by omega)
  have e3 := aux_or2 (n.level + 65536) (by omega)
  have e4 := word_or n.high (Bt.pack n.right) hh hpk
  have HA : Hid (n.aux = n.level + 65536 + 131072) := hid (by simp [Bt.Node.aux, hl, hd, Bt.flag, hes])
  have hgen : 0 ≤ Bt.tagGen p.d0 ∧ Bt.tagGen p.d0 < 16777216 := by unfold Bt.tagGen; omega
  have hkind : 0 ≤ Bt.tagKind p.d0 ∧ Bt.tagKind p.d0 < 256 := by unfold Bt.tagKind; omega
  unfold nodeCells Bt.Page.cells
  rw [hl, hd]
  clear hp hn hl hd
  have hz : n.entries.length = 0 := by rw [hes]; rfl
  have HZ := hid hz
  clear hz hes he
  go_enter Tryz.func194, Tryz.ntmps194
  go_wp2_with fail
  go_at_call 160; refine (UnpackTag_any p.d0 hpd.1 hpd.2 _).mono ?_; rintro e w1 ⟨rfl, hb⟩; ((obtain ⟨hc1, hf1, hs1⟩ := qR hb); (try have := qN0 w w1); (try have := qN1 w w1); (try have := qN2 w w1))
  go_wp2_with fail
  refine qB (w.heap.size + 1) fun hSt => ?_
  refine qS [0, 2, 3, 4, 5, 6] ?_
  iterate 6 (refine qT ?_; simp only [Act.put, qY])
  refine TakeSeq.done ?_
  refine qH 1 fun K hK => ?_
  go_simp
  go_at_call 208; refine (PackTag_any _ _ _ (by omega) (by omega) (by omega) _).mono ?_; rintro e w2 ⟨rfl, hb2⟩; ((obtain ⟨hc2, hf2, hs2⟩ := qR hb2); (try have := qN0 w w2); (try have := qN1 w w2); (try have := qN2 w w2); (try have := qN0 w1 w2); (try have := qN1 w1 w2))
  go_wp2_with fail
  refine hK.out _ _ (SteadyBut.of qL) (fun hHeld => ?_)
  clear hK K
  refine qH 7 fun K hK => ?_
  go_simp
  go_at_call 207; refine (Pack_any _ _ _).mono ?_; rintro e w3 ⟨rfl, hb3⟩; ((obtain ⟨hc3, hf3, hs3⟩ := qR hb3); (try have := qN0 w w3); (try have := qN1 w w3); (try have := qN2 w w3); (try have := qN0 w1 w3); (try have := qN1 w1 w3); (try have := qN0 w2 w3); (try have := qN1 w2 w3))
  go_wp2_with fail
  refine hK.out _ _ (SteadyBut.of qL) (fun hHeld => ?_)
  clear hK K
  refine qS [8, 9, 10, 11, 12] ?_
  iterate 5 (refine qT ?_; simp only [Act.put, qY])
  refine TakeSeq.done ?_
  refine qH 13 fun K hK => ?_
  go_simp
  refine hK.out _ _ qE (fun hHeld => ?_)
  clear hK K
  refine qD ?_ _
  go_wp2_with fail
  refine wp_loop_rounds 1 ?_
  rw [rounds_succ]
  go_wp2_with fail
  have B1 := (((((made23 w (t := 75) (cs := p.cells)).kept hb).alloc _).drew).kept hb2).kept hb3
  have B2 := (((((made33 w (t := 75) (cs := Bt.zeroPage.cells)).kept hb).alloc _).drew).kept hb2).kept hb3
  simp only [Bt.Page.cells] at B1
  rw [zeroPage_cells] at B2
  have BP := (B1.data7 (.int .u64 (Bt.packTag (Bt.tagKind p.d0) (Bt.tagGen p.d0) (n.level + 65536 + 131072))) (.int .u64 (bits .or .u64 n.high (IntKind.u64.wrap (IntKind.u64.wrap (Bt.pack ⟨n.right.line, n.right.gen⟩) * 4294967296)))) (.int .u64 0) (.int .u64 0) (.int .u64 0) (.int .u64 0) (.int .u64 0))
  (refine bodyPost_ret (results_b rfl _ _ (w.heap.size + 1 + 1) _ _ _ rfl (by have B := B2; exact qK) Tryz.underlying75 rfl (by kernel_rfl)) rfl ⟨?_, ?_⟩)
  · rw [set9, ← fillUpto_all n p hn5, HZ.out, word_raw' n.high n.right hh hpk, ← HA.out]; rfl
  · exact qL
theorem fill_tf (n : Bt.Node) (v : Value) (p : Bt.Page) (hp : p.Ok) (hn : NodeOk n) (hl : n.leftmost = true) (hd : n.dead = false) (w : World) (he : EntRow w v n.entries)
    (b off cap : Nat) (hv : v = .slice (some ⟨b, off, none⟩) n.entries.length cap) (hlt : b < w.heap.size) (hcells : ∀ (i : Nat) (p : Bt.Entry), n.entries[i]? = some p → ∀ (j : Nat) (u : Value), p.cells[j]? = some u → w.cell? ⟨b, off + i * 3 + j, none⟩ = some u) :
    Calls Tryz.prog 194 #[.agg (nodeCells n v), .agg p.cells] w fun e w' => e = .returned (.agg (n.fill p).cells) ∧ Below w.heap.size w w' := by
  have Hp := hid hp
  have hpd := hp.d0
  have He := hid he
  have hvl := hn.level
  have hh := hn.high
  have hlen := hn.len
  have hn5 : n.entries.length ≤ 5 := hn.len
  have hen := he.len
  unfold maxLen at hen
  have hpk := pack_bound n.right
  have e1 := aux_or n.level n.entries.length hvl (by omega)
  have e2 := aux_or1 (n.level + n.entries.length * 256) (by omega)
  have e4 := word_or n.high (Bt.pack n.right) hh hpk
  have HA : Hid (n.aux = n.level + n.entries.length * 256 + 65536) := hid (by simp [Bt.Node.aux, hl, hd, Bt.flag])
  have hgen : 0 ≤ Bt.tagGen p.d0 ∧ Bt.tagGen p.d0 < 16777216 := by unfold Bt.tagGen; omega
  have hkind : 0 ≤ Bt.tagKind p.d0 ∧ Bt.tagKind p.d0 < 256 := by unfold Bt.tagKind; omega
  unfold nodeCells Bt.Page.cells
  rw [hl, hd]
  clear hp hn hl hd
  subst hv
  have Hc := hid hcells
  clear hcells he
  go_enter Tryz.func194, Tryz.ntmps194
  go_wp2_with fail
  go_at_call 160; refine (UnpackTag_any p.d0 hpd.1 hpd.2 _).mono ?_; rintro e w1 ⟨rfl, hb⟩; ((obtain ⟨hc1, hf1, hs1⟩ := qR hb); (try have := qN0 w w1); (try have := qN1 w w1); (try have := qN2 w w1))
  go_wp2_with fail
  refine qB (w.heap.size + 1) fun hSt => ?_
  refine qS [0, 2, 3, 4, 5, 6] ?_
  iterate 6 (refine qT ?_; simp only [Act.put, qY])
  refine TakeSeq.done ?_
  refine qH 1 fun K hK => ?_
  go_simp
  go_at_call 208; refine (PackTag_any _ _ _ (by omega) (by omega) (by omega) _).mono ?_; rintro e w2 ⟨rfl, hb2⟩; ((obtain ⟨hc2, hf2, hs2⟩ := qR hb2); (try have := qN0 w w2); (try have := qN1 w w2); (try have := qN2 w w2); (try have := qN0 w1 w2); (try have := qN1 w1 w2))
  go_wp2_with fail
  refine hK.out _ _ (SteadyBut.of qL) (fun hHeld => ?_)
  clear hK K
  refine qH 7 fun K hK => ?_
  go_simp
  go_at_call 207; refine (Pack_any _ _ _).mono ?_; rintro e w3 ⟨rfl, hb3⟩; ((obtain ⟨hc3, hf3, hs3⟩ := qR hb3); (try have := qN0 w w3); (try have := qN1 w w3); (try have := qN2 w w3); (try have := qN0 w1 w3); (try have := qN1 w1 w3); (try have := qN0 w2 w3); (try have := qN1 w2 w3))
  go_wp2_with fail
  refine hK.out _ _ (SteadyBut.of qL) (fun hHeld => ?_)
  clear hK K
  refine qS [8, 9, 10, 11, 12] ?_
  iterate 5 (refine qT ?_; simp only [Act.put, qY])
  refine TakeSeq.done ?_
  refine qH 13 fun K hK => ?_
  go_simp
  refine hK.out _ _ qE (fun hHeld => ?_)
  clear hK K
  refine qD ?_ _
  go_wp2_with fail
  have B1 := (((((made23 w (t := 75) (cs := p.cells)).kept hb).alloc _).drew).kept hb2).kept hb3
  have B2 := (((((made33 w (t := 75) (cs := Bt.zeroPage.cells)).kept hb).alloc _).drew).kept hb2).kept hb3
  simp only [Bt.Page.cells] at B1
  have hfin : w.heap.size + 1 + 1 + 1 ≤ w3.heap.size := by omega
  clear hc1 hf1 hc2 hf2 hc3 hf3 e1 e4 e2
  go_loopw [50] (fun i wr => FillRel n p w i wr) (fun i _ => n.entries.length - (intOf i).toNat)
  case atStart => exact ⟨0, Nat.zero_le _, rfl, qL, by simpa using hfin, (B1.data7 _ _ _ _ _ _ _).cast (by rw [word_raw' n.high n.right hh hpk, ← HA.out]; rfl), by (have B := B2; exact qK)⟩
  case round =>
    obtain ⟨k, hkl, rfl, hbw, hsz, BP, BZ⟩ := hrel
    by_cases hlt2 : k < n.entries.length
    · obtain ⟨c0, c1, c2⟩ := three Hc.out hlt2
      rw [← hbw.cell (p := ⟨b, off + k * 3, none⟩) hlt] at c0
      rw [← hbw.cell (p := ⟨b, off + k * 3 + 1, none⟩) hlt] at c1
      rw [← hbw.cell (p := ⟨b, off + k * 3 + 2, none⟩) hlt] at c2
      have fp := BP.free
      obtain ⟨y, hy⟩ : ∃ y, wr.cell? ⟨w.heap.size + 1, 2 + (2 + k), none⟩ = some y := by
        rw [BP.cell]; exact ⟨_, Array.getElem?_eq_getElem (by show 2 + (2 + k) < 9; omega)⟩
      have hw1 : IntKind.i64.wrap (2 + (k : Int)) = 2 + k := IntWalk.i64_in _ (by omega)
      have zr : w.heap.size + 1 < wr.heap.size := by omega
      have zr0 : w.heap.size < wr.heap.size := by omega
      have hw2 : (0 : Int) ≤ 2 + k := by omega
      have hw3 : 2 + (k : Int) < 7 := by omega
      have hw4 : (2 + (k : Int)).toNat = 2 + k := by omega
      go_wp2_with fail
      refine qB (w.heap.size + 1) fun hSt => ?_
      refine qS [0, 1, 2, 3, 4, 5, 6, 7, 11] ?_
      iterate 9 (refine qT ?_; simp only [Act.put, qY])
      refine TakeSeq.done ?_
      refine qH 8 fun K hK => ?_
      go_simp
      go_at_call 207; refine (Pack_any _ _ _).mono ?_; rintro e w4 ⟨rfl, hb4⟩; ((obtain ⟨hc4, hf4, hs4⟩ := qR hb4); (try have := qN0 w w4); (try have := qN1 w w4); (try have := qN2 w w4); (try have := qN0 wr w4); (try have := qN1 wr w4))
      go_wp2_with fail
      refine hK.out _ _ (SteadyBut.of qL) (fun hHeld => ?_)
      clear hK K
      refine qS [9, 10, 12] ?_
      iterate 3 (refine qT ?_; simp only [Act.put, qY])
      refine TakeSeq.done ?_
      refine qH 13 fun K hK => ?_
      go_simp
      refine hK.out _ _ qE (fun hHeld => ?_)
      clear hK K
      refine qD ?_ _
      go_wp2_with fail
      have BP4 := ((BP.alloc _).drew).kept hb4
      have BZ4 := ((BZ.alloc _).drew).kept hb4
      go_roundw
      case rel =>
        refine ⟨k + 1, by omega, by go_num, qL, by simp; omega, ?_, by (have B := BZ4; exact qK)⟩
        refine (BP4.put (2 + (2 + k)) _).cast ?_
        rw [fillUpto_step n p k hlt2 hn5, word_raw2 _ n.entries[k].to (He.out.ok _ (List.getElem_mem hlt2)) (pack_bound _)]
      case measure => simp [intOf]; omega
    · have hke : k = n.entries.length := by omega
      have HE := hid hke
      clear hke
      have fp := BP.free
      have fz := BZ.free
      have kp := BP.cell
      have kz := BZ.cell
      have zr : w.heap.size + 1 < wr.heap.size := by omega
      have zr2 : w.heap.size + 1 + 1 < wr.heap.size := by omega
      simp only [Bt.Page.cells] at kp
      rw [zeroPage_cells] at kz
      go_wp2_with fail
      have BZ2 := BZ
      rw [zeroPage_cells] at BZ2
      (refine bodyPost_ret (results_b rfl _ _ (w.heap.size + 1 + 1) _ _ _ rfl (by have B := BZ2; exact qK) Tryz.underlying75 rfl (by kernel_rfl)) rfl ⟨?_, ?_⟩)
      · rw [set9, ← fillUpto_all n p hn5, HE.out]
      · exact qL
theorem fill_tfn (n : Bt.Node) (p : Bt.Page) (hp : p.Ok) (hn : NodeOk n) (hl : n.leftmost = true) (hd : n.dead = false) (w : World) (hes : n.entries = []) (he : EntRow w (.slice none 0 0) n.entries) :
    Calls Tryz.prog 194 #[.agg (nodeCells n (.slice none 0 0)), .agg p.cells] w fun e w' => e = .returned (.agg (n.fill p).cells) ∧ Below w.heap.size w w' := by
  have Hp := hid hp
  have hpd := hp.d0
  have He := hid he
  have hvl := hn.level
  have hh := hn.high
  have hlen := hn.len
  have hn5 : n.entries.length ≤ 5 := hn.len
  have hen := he.len
  unfold maxLen at hen
  have hpk := pack_bound n.right
  have e1 : bits .or .u32 n.level 0 = n.level := by have := aux_or n.level 0 hvl (by omega); simpa using this
  have e2 := aux_or1 (n.level) (by omega)
  have e4 := word_or n.high (Bt.pack n.right) hh hpk
  have HA : Hid (n.aux = n.level + 65536) := hid (by simp [Bt.Node.aux, hl, hd, Bt.flag, hes])
  have hgen : 0 ≤ Bt.tagGen p.d0 ∧ Bt.tagGen p.d0 < 16777216 := by unfold Bt.tagGen; omega
  have hkind : 0 ≤ Bt.tagKind p.d0 ∧ Bt.tagKind p.d0 < 256 := by unfold Bt.tagKind; omega
  unfold nodeCells Bt.Page.cells
  rw [hl, hd]
  clear hp hn hl hd
  have hz : n.entries.length = 0 := by rw [hes]; rfl
  have HZ := hid hz
  clear hz hes he
  go_enter Tryz.func194, Tryz.ntmps194
  go_wp2_with fail
  go_at_call 160; refine (UnpackTag_any p.d0 hpd.1 hpd.2 _).mono ?_; rintro e w1 ⟨rfl, hb⟩; ((obtain ⟨hc1, hf1, hs1⟩ := qR hb); (try have := qN0 w w1); (try have := qN1 w w1); (try have := qN2 w w1))
  go_wp2_with fail
  refine qB (w.heap.size + 1) fun hSt => ?_
  refine qS [0, 2, 3, 4, 5, 6] ?_
  iterate 6 (refine qT ?_; simp only [Act.put, qY])
  refine TakeSeq.done ?_
  refine qH 1 fun K hK => ?_
  go_simp
  go_at_call 208; refine (PackTag_any _ _ _ (by omega) (by omega) (by omega) _).mono ?_; rintro e w2 ⟨rfl, hb2⟩; ((obtain ⟨hc2, hf2, hs2⟩ := qR hb2); (try have := qN0 w w2); (try have := qN1 w w2); (try have := qN2 w w2); (try have := qN0 w1 w2); (try have := qN1 w1 w2))
  go_wp2_with fail
  refine hK.out _ _ (SteadyBut.of qL) (fun hHeld => ?_)
  clear hK K
  refine qH 7 fun K hK => ?_
  go_simp
  go_at_call 207; refine (Pack_any _ _ _).mono ?_; rintro e w3 ⟨rfl, hb3⟩; ((obtain ⟨hc3, hf3, hs3⟩ := qR hb3); (try have := qN0 w w3); (try have := qN1 w w3); (try have := qN2 w w3); (try have := qN0 w1 w3); (try have := qN1 w1 w3); (try have := qN0 w2 w3); (try have := qN1 w2 w3))
  go_wp2_with fail
  refine hK.out _ _ (SteadyBut.of qL) (fun hHeld => ?_)
  clear hK K
  refine qS [8, 9, 10, 11, 12] ?_
  iterate 5 (refine qT ?_; simp only [Act.put, qY])
  refine TakeSeq.done ?_
  refine qH 13 fun K hK => ?_
  go_simp
  refine hK.out _ _ qE (fun hHeld => ?_)
  clear hK K
  refine qD ?_ _
  go_wp2_with fail
  refine wp_loop_rounds 1 ?_
  rw [rounds_succ]
  go_wp2_with fail
  have B1 := (((((made23 w (t := 75) (cs := p.cells)).kept hb).alloc _).drew).kept hb2).kept hb3
  have B2 := (((((made33 w (t := 75) (cs := Bt.zeroPage.cells)).kept hb).alloc _).drew).kept hb2).kept hb3
  simp only [Bt.Page.cells] at B1
  rw [zeroPage_cells] at B2
  have BP := (B1.data7 (.int .u64 (Bt.packTag (Bt.tagKind p.d0) (Bt.tagGen p.d0) (n.level + 65536))) (.int .u64 (bits .or .u64 n.high (IntKind.u64.wrap (IntKind.u64.wrap (Bt.pack ⟨n.right.line, n.right.gen⟩) * 4294967296)))) (.int .u64 0) (.int .u64 0) (.int .u64 0) (.int .u64 0) (.int .u64 0))
  (refine bodyPost_ret (results_b rfl _ _ (w.heap.size + 1 + 1) _ _ _ rfl (by have B := B2; exact qK) Tryz.underlying75 rfl (by kernel_rfl)) rfl ⟨?_, ?_⟩)
  · rw [set9, ← fillUpto_all n p hn5, HZ.out, word_raw' n.high n.right hh hpk, ← HA.out]; rfl
  · exact qL
theorem fill_ft (n : Bt.Node) (v : Value) (p : Bt.Page) (hp : p.Ok) (hn : NodeOk n) (hl : n.leftmost = false) (hd : n.dead = true) (w : World) (he : EntRow w v n.entries)
    (b off cap : Nat) (hv : v = .slice (some ⟨b, off, none⟩) n.entries.length cap) (hlt : b < w.heap.size) (hcells : ∀ (i : Nat) (p : Bt.Entry), n.entries[i]? = some p → ∀ (j : Nat) (u : Value), p.cells[j]? = some u → w.cell? ⟨b, off + i * 3 + j, none⟩ = some u) :
    Calls Tryz.prog 194 #[.agg (nodeCells n v), .agg p.cells] w fun e w' => e = .returned (.agg (n.fill p).cells) ∧ Below w.heap.size w w' := by
  have Hp := hid hp
  have hpd := hp.d0
  have He := hid he
  have hvl := hn.level
  have hh := hn.high
  have hlen := hn.len
  have hn5 : n.entries.length ≤ 5 := hn.len
  have hen := he.len
  unfold maxLen at hen
  have hpk := pack_bound n.right
  have e1 := aux_or n.level n.entries.length hvl (by omega)
  have e3 := aux_or2 (n.level + n.entries.length * 256) (by omega)
  have e4 := word_or n.high (Bt.pack n.right) hh hpk
  have HA : Hid (n.aux = n.level + n.entries.length * 256 + 131072) := hid (by simp [Bt.Node.aux, hl, hd, Bt.flag])
  have hgen : 0 ≤ Bt.tagGen p.d0 ∧ Bt.tagGen p.d0 < 16777216 := by unfold Bt.tagGen; omega
  have hkind : 0 ≤ Bt.tagKind p.d0 ∧ Bt.tagKind p.d0 < 256 := by unfold Bt.tagKind; omega
  unfold nodeCells Bt.Page.cells
  rw [hl, hd]
  clear hp hn hl hd
  subst hv
  have Hc := hid hcells
  clear hcells he
  go_enter Tryz.func194, Tryz.ntmps194
  go_wp2_with fail
  go_at_call 160; refine (UnpackTag_any p.d0 hpd.1 hpd.2 _).mono ?_; rintro e w1 ⟨rfl, hb⟩; ((obtain ⟨hc1, hf1, hs1⟩ := qR hb); (try have := qN0 w w1); (try have := qN1 w w1); (try have := qN2 w w1))
  go_wp2_with fail
  refine qB (w.heap.size + 1) fun hSt => ?_
  refine qS [0, 2, 3, 4, 5, 6] ?_
  iterate 6 (refine qT ?_; simp only [Act.put, qY])
  refine TakeSeq.done ?_
  refine qH 1 fun K hK => ?_
  go_simp
  go_at_call 208; refine (PackTag_any _ _ _ (by omega) (by omega) (by omega) _).mono ?_; rintro e w2 ⟨rfl, hb2⟩; ((obtain ⟨hc2, hf2, hs2⟩ := qR hb2); (try have := qN0 w w2); (try have := qN1 w w2); (try have := qN2 w w2); (try have := qN0 w1 w2); (try have := qN1 w1 w2))
  go_wp2_with fail
  refine hK.out _ _ (SteadyBut.of qL) (fun hHeld => ?_)
  clear hK K
  refine qH 7 fun K hK => ?_
  go_simp
  go_at_call 207; refine (Pack_any _ _ _).mono ?_; rintro e w3 ⟨rfl, hb3⟩; ((obtain ⟨hc3, hf3, hs3⟩ := qR hb3); (try have := qN0 w w3); (try have := qN1 w w3); (try have := qN2 w w3); (try have := qN0 w1 w3); (try have := qN1 w1 w3); (try have := qN0 w2 w3); (try have := qN1 w2 w3))
  go_wp2_with fail
  refine hK.out _ _ (SteadyBut.of qL) (fun hHeld => ?_)
  clear hK K
  refine qS [8, 9, 10, 11, 12] ?_
  iterate 5 (refine qT ?_; simp only [Act.put, qY])
  refine TakeSeq.done ?_
  refine qH 13 fun K hK => ?_
  go_simp
  refine hK.out _ _ qE (fun hHeld => ?_)
  clear hK K
  refine qD ?_ _
  go_wp2_with fail
  have B1 := (((((made23 w (t := 75) (cs := p.cells)).kept hb).alloc _).drew).kept hb2).kept hb3
  have B2 := (((((made33 w (t := 75) (cs := Bt.zeroPage.cells)).kept hb).alloc _).drew).kept hb2).kept hb3
  simp only [Bt.Page.cells] at B1
  have hfin : w.heap.size + 1 + 1 + 1 ≤ w3.heap.size := by omega
  clear hc1 hf1 hc2 hf2 hc3 hf3 e1 e4 e3
  go_loopw [50] (fun i wr => FillRel n p w i wr) (fun i _ => n.entries.length - (intOf i).toNat)
  case atStart => exact ⟨0, Nat.zero_le _, rfl, qL, by simpa using hfin, (B1.data7 _ _ _ _ _ _ _).cast (by rw [word_raw' n.high n.right hh hpk, ← HA.out]; rfl), by (have B := B2; exact qK)⟩
  case round =>
    obtain ⟨k, hkl, rfl, hbw, hsz, BP, BZ⟩ := hrel
    by_cases hlt2 : k < n.entries.length
    · obtain ⟨c0, c1, c2⟩ := three Hc.out hlt2
      rw [← hbw.cell (p := ⟨b, off + k * 3, none⟩) hlt] at c0
      rw [← hbw.cell (p := ⟨b, off + k * 3 + 1, none⟩) hlt] at c1
      rw [← hbw.cell (p := ⟨b, off + k * 3 + 2, none⟩) hlt] at c2
      have fp := BP.free
      obtain ⟨y, hy⟩ : ∃ y, wr.cell? ⟨w.heap.size + 1, 2 + (2 + k), none⟩ = some y := by
        rw [BP.cell]; exact ⟨_, Array.getElem?_eq_getElem (by show 2 + (2 + k) < 9; omega)⟩
      have hw1 : IntKind.i64.wrap (2 + (k : Int)) = 2 + k := IntWalk.i64_in _ (by omega)
      have zr : w.heap.size + 1 < wr.heap.size := by omega
      have zr0 : w.heap.size < wr.heap.size := by omega
      have hw2 : (0 : Int) ≤ 2 + k := by omega
      have hw3 : 2 + (k : Int) < 7 := by omega
      have hw4 : (2 + (k : Int)).toNat = 2 + k := by omega
      go_wp2_with fail
      refine qB (w.heap.size + 1) fun hSt => ?_
      refine qS [0, 1, 2, 3, 4, 5, 6, 7, 11] ?_
      iterate 9 (refine qT ?_; simp only [Act.put, qY])
      refine TakeSeq.done ?_
      refine qH 8 fun K hK => ?_
      go_simp
      go_at_call 207; refine (Pack_any _ _ _).mono ?_; rintro e w4 ⟨rfl, hb4⟩; ((obtain ⟨hc4, hf4, hs4⟩ := qR hb4); (try have := qN0 w w4); (try have := qN1 w w4); (try have := qN2 w w4); (try have := qN0 wr w4); (try have := qN1 wr w4))
      go_wp2_with fail
      refine hK.out _ _ (SteadyBut.of qL) (fun hHeld => ?_)
      clear hK K
      refine qS [9, 10, 12] ?_
      iterate 3 (refine qT ?_; simp only [Act.put, qY])
      refine TakeSeq.done ?_
      refine qH 13 fun K hK => ?_
      go_simp
      refine hK.out _ _ qE (fun hHeld => ?_)
      clear hK K
      refine qD ?_ _
      go_wp2_with fail
      have BP4 := ((BP.alloc _).drew).kept hb4
      have BZ4 := ((BZ.alloc _).drew).kept hb4
      go_roundw
      case rel =>
        refine ⟨k + 1, by omega, by go_num, qL, by simp; omega, ?_, by (have B := BZ4; exact qK)⟩
        refine (BP4.put (2 + (2 + k)) _).cast ?_
        rw [fillUpto_step n p k hlt2 hn5, word_raw2 _ n.entries[k].to (He.out.ok _ (List.getElem_mem hlt2)) (pack_bound _)]
      case measure => simp [intOf]; omega
    · have hke : k = n.entries.length := by omega
      have HE := hid hke
      clear hke
      have fp := BP.free
      have fz := BZ.free
      have kp := BP.cell
      have kz := BZ.cell
      have zr : w.heap.size + 1 < wr.heap.size := by omega
      have zr2 : w.heap.size + 1 + 1 < wr.heap.size := by omega
      simp only [Bt.Page.cells] at kp
      rw [zeroPage_cells] at kz
      go_wp2_with fail
      have BZ2 := BZ
      rw [zeroPage_cells] at BZ2
      (refine bodyPost_ret (results_b rfl _ _ (w.heap.size + 1 + 1) _ _ _ rfl (by have B := BZ2; exact qK) Tryz.underlying75 rfl (by kernel_rfl)) rfl ⟨?_, ?_⟩)
      · rw [set9, ← fillUpto_all n p hn5, HE.out]
      · exact qL
theorem fill_ftn (n : Bt.Node) (p : Bt.Page) (hp : p.Ok) (hn : NodeOk n) (hl : n.leftmost = false) (hd : n.dead = true) (w : World) (hes : n.entries = []) (he : EntRow w (.slice none 0 0) n.entries) :
    Calls Tryz.prog 194 #[.agg (nodeCells n (.slice none 0 0)), .agg p.cells] w fun e w' => e = .returned (.agg (n.fill p).cells) ∧ Below w.heap.size w w' := by
  have Hp := hid hp
  have hpd := hp.d0
  have He := hid he
  have hvl := hn.level
  have hh := hn.high
  have hlen := hn.len
  have hn5 : n.entries.length ≤ 5 := hn.len
  have hen := he.len
  unfold maxLen at hen
  have hpk := pack_bound n.right
  have e1 : bits .or .u32 n.level 0 = n.level := by have := aux_or n.level 0 hvl (by omega); simpa using this
  have e3 := aux_or2 (n.level) (by omega)
  have e4 := word_or n.high (Bt.pack n.right) hh hpk
  have HA : Hid (n.aux = n.level + 131072) := hid (by simp [Bt.Node.aux, hl, hd, Bt.flag, hes])
  have hgen : 0 ≤ Bt.tagGen p.d0 ∧ Bt.tagGen p.d0 < 16777216 := by unfold Bt.tagGen; omega
  have hkind : 0 ≤ Bt.tagKind p.d0 ∧ Bt.tagKind p.d0 < 256 := by unfold Bt.tagKind; omega
  unfold nodeCells Bt.Page.cells
  rw [hl, hd]
  clear hp hn hl hd
  have hz : n.entries.length = 0 := by rw [hes]; rfl
  have HZ := hid hz
  clear hz hes he
  go_enter Tryz.func194, Tryz.ntmps194
  go_wp2_with fail
  go_at_call 160; refine (UnpackTag_any p.d0 hpd.1 hpd.2 _).mono ?_; rintro e w1 ⟨rfl, hb⟩; ((obtain ⟨hc1, hf1, hs1⟩ := qR hb); (try have := qN0 w w1); (try have := qN1 w w1); (try have := qN2 w w1))
  go_wp2_with fail
  refine qB (w.heap.size + 1) fun hSt => ?_
  refine qS [0, 2, 3, 4, 5, 6] ?_
  iterate 6 (refine qT ?_; simp only [Act.put, qY])
  refine TakeSeq.done ?_
  refine qH 1 fun K hK => ?_
  go_simp
  go_at_call 208; refine (PackTag_any _ _ _ (by omega) (by omega) (by omega) _).mono ?_; rintro e w2 ⟨rfl, hb2⟩; ((obtain ⟨hc2, hf2, hs2⟩ := qR hb2); (try have := qN0 w w2); (try have := qN1 w w2); (try have := qN2 w w2); (try have := qN0 w1 w2); (try have := qN1 w1 w2))
  go_wp2_with fail
  refine hK.out _ _ (SteadyBut.of qL) (fun hHeld => ?_)
  clear hK K
  refine qH 7 fun K hK => ?_
  go_simp
  go_at_call 207; refine (Pack_any _ _ _).mono ?_; rintro e w3 ⟨rfl, hb3⟩; ((obtain ⟨hc3, hf3, hs3⟩ := qR hb3); (try have := qN0 w w3); (try have := qN1 w w3); (try have := qN2 w w3); (try have := qN0 w1 w3); (try have := qN1 w1 w3); (try have := qN0 w2 w3); (try have := qN1 w2 w3))
  go_wp2_with fail
  refine hK.out _ _ (SteadyBut.of qL) (fun hHeld => ?_)
  clear hK K
  refine qS [8, 9, 10, 11, 12] ?_
  iterate 5 (refine qT ?_; simp only [Act.put, qY])
  refine TakeSeq.done ?_
  refine qH 13 fun K hK => ?_
  go_simp
  refine hK.out _ _ qE (fun hHeld => ?_)
  clear hK K
  refine qD ?_ _
  go_wp2_with fail
  refine wp_loop_rounds 1 ?_
  rw [rounds_succ]
  go_wp2_with fail
  have B1 := (((((made23 w (t := 75) (cs := p.cells)).kept hb).alloc _).drew).kept hb2).kept hb3
  have B2 := (((((made33 w (t := 75) (cs := Bt.zeroPage.cells)).kept hb).alloc _).drew).kept hb2).kept hb3
  simp only [Bt.Page.cells] at B1
  rw [zeroPage_cells] at B2
  have BP := (B1.data7 (.int .u64 (Bt.packTag (Bt.tagKind p.d0) (Bt.tagGen p.d0) (n.level + 131072))) (.int .u64 (bits .or .u64 n.high (IntKind.u64.wrap (IntKind.u64.wrap (Bt.pack ⟨n.right.line, n.right.gen⟩) * 4294967296)))) (.int .u64 0) (.int .u64 0) (.int .u64 0) (.int .u64 0) (.int .u64 0))
  (refine bodyPost_ret (results_b rfl _ _ (w.heap.size + 1 + 1) _ _ _ rfl (by have B := B2; exact qK) Tryz.underlying75 rfl (by kernel_rfl)) rfl ⟨?_, ?_⟩)
  · rw [set9, ← fillUpto_all n p hn5, HZ.out, word_raw' n.high n.right hh hpk, ← HA.out]; rfl
  · exact qL
theorem fill_ff (n : Bt.Node) (v : Value) (p : Bt.Page) (hp : p.Ok) (hn : NodeOk n) (hl : n.leftmost = false) (hd : n.dead = false) (w : World) (he : EntRow w v n.entries)
    (b off cap : Nat) (hv : v = .slice (some ⟨b, off, none⟩) n.entries.length cap) (hlt : b < w.heap.size) (hcells : ∀ (i : Nat) (p : Bt.Entry), n.entries[i]? = some p → ∀ (j : Nat) (u : Value), p.cells[j]? = some u → w.cell? ⟨b, off + i * 3 + j, none⟩ = some u) :
    Calls Tryz.prog 194 #[.agg (nodeCells n v), .agg p.cells] w fun e w' => e = .returned (.agg (n.fill p).cells) ∧ Below w.heap.size w w' := by
  have Hp := hid hp
  have hpd := hp.d0
  have He := hid he
  have hvl := hn.level
  have hh := hn.high
  have hlen := hn.len
  have hn5 : n.entries.length ≤ 5 := hn.len
  have hen := he.len
  unfold maxLen at hen
  have hpk := pack_bound n.right
  have e1 := aux_or n.level n.entries.length hvl (by omega)
  have e4 := word_or n.high (Bt.pack n.right) hh hpk
  have HA : Hid (n.aux = n.level + n.entries.length * 256) := hid (by simp [Bt.Node.aux, hl, hd, Bt.flag])
  have hgen : 0 ≤ Bt.tagGen p.d0 ∧ Bt.tagGen p.d0 < 16777216 := by unfold Bt.tagGen; omega
  have hkind : 0 ≤ Bt.tagKind p.d0 ∧ Bt.tagKind p.d0 < 256 := by unfold Bt.tagKind; omega
  unfold nodeCells Bt.Page.cells
  rw [hl, hd]
  clear hp hn hl hd
  subst hv
  have Hc := hid hcells
  clear hcells he
  go_enter Tryz.func194, Tryz.ntmps194
  go_wp2_with fail
  go_at_call 160; refine (UnpackTag_any p.d0 hpd.1 hpd.2 _).mono ?_; rintro e w1 ⟨rfl, hb⟩; ((obtain ⟨hc1, hf1, hs1⟩ := qR hb); (try have := qN0 w w1); (try have := qN1 w w1); (try have := qN2 w w1))
  go_wp2_with fail
  refine qB (w.heap.size + 1) fun hSt => ?_
  refine qS [0, 2, 3, 4, 5, 6] ?_
  iterate 6 (refine qT ?_; simp only [Act.put, qY])
  refine TakeSeq.done ?_
  refine qH 1 fun K hK => ?_
  go_simp
  go_at_call 208; refine (PackTag_any _ _ _ (by omega) (by omega) (by omega) _).mono ?_; rintro e w2 ⟨rfl, hb2⟩; ((obtain ⟨hc2, hf2, hs2⟩ := qR hb2); (try have := qN0 w w2); (try have := qN1 w w2); (try have := qN2 w w2); (try have := qN0 w1 w2); (try have := qN1 w1 w2))
  go_wp2_with fail
  refine hK.out _ _ (SteadyBut.of qL) (fun hHeld => ?_)
  clear hK K
  refine qH 7 fun K hK => ?_
  go_simp
  go_at_call 207; refine (Pack_any _ _ _).mono ?_; rintro e w3 ⟨rfl, hb3⟩; ((obtain ⟨hc3, hf3, hs3⟩ := qR hb3); (try have := qN0 w w3); (try have := qN1 w w3); (try have := qN2 w w3); (try have := qN0 w1 w3); (try have := qN1 w1 w3); (try have := qN0 w2 w3); (try have := qN1 w2 w3))
  go_wp2_with fail
  refine hK.out _ _ (SteadyBut.of qL) (fun hHeld => ?_)
  clear hK K
  refine qS [8, 9, 10, 11, 12] ?_
  iterate 5 (refine qT ?_; simp only [Act.put, qY])
  refine TakeSeq.done ?_
  refine qH 13 fun K hK => ?_
  go_simp
  refine hK.out _ _ qE (fun hHeld => ?_)
  clear hK K
  refine qD ?_ _
  go_wp2_with fail
  have B1 := (((((made23 w (t := 75) (cs := p.cells)).kept hb).alloc _).drew).kept hb2).kept hb3
  have B2 := (((((made33 w (t := 75) (cs := Bt.zeroPage.cells)).kept hb).alloc _).drew).kept hb2).kept hb3
  simp only [Bt.Page.cells] at B1
  have hfin : w.heap.size + 1 + 1 + 1 ≤ w3.heap.size := by omega
  clear hc1 hf1 hc2 hf2 hc3 hf3 e1 e4
  go_loopw [50] (fun i wr => FillRel n p w i wr) (fun i _ => n.entries.length - (intOf i).toNat)
  case atStart => exact ⟨0, Nat.zero_le _, rfl, qL, by simpa using hfin, (B1.data7 _ _ _ _ _ _ _).cast (by rw [word_raw' n.high n.right hh hpk, ← HA.out]; rfl), by (have B := B2; exact qK)⟩
  case round =>
    obtain ⟨k, hkl, rfl, hbw, hsz, BP, BZ⟩ := hrel
    by_cases hlt2 : k < n.entries.length
    · obtain ⟨c0, c1, c2⟩ := three Hc.out hlt2
      rw [← hbw.cell (p := ⟨b, off + k * 3, none⟩) hlt] at c0
      rw [← hbw.cell (p := ⟨b, off + k * 3 + 1, none⟩) hlt] at c1
      rw [← hbw.cell (p := ⟨b, off + k * 3 + 2, none⟩) hlt] at c2
      have fp := BP.free
      obtain ⟨y, hy⟩ : ∃ y, wr.cell? ⟨w.heap.size + 1, 2 + (2 + k), none⟩ = some y := by
        rw [BP.cell]; exact ⟨_, Array.getElem?_eq_getElem (by show 2 + (2 + k) < 9; omega)⟩
      have hw1 : IntKind.i64.wrap (2 + (k : Int)) = 2 + k := IntWalk.i64_in _ (by omega)
      have zr : w.heap.size + 1 < wr.heap.size := by omega
      have zr0 : w.heap.size < wr.heap.size := by omega
      have hw2 : (0 : Int) ≤ 2 + k := by omega
      have hw3 : 2 + (k : Int) < 7 := by omega
      have hw4 : (2 + (k : Int)).toNat = 2 + k := by omega
      go_wp2_with fail
      refine qB (w.heap.size + 1) fun hSt => ?_
      refine qS [0, 1, 2, 3, 4, 5, 6, 7, 11] ?_
      iterate 9 (refine qT ?_; simp only [Act.put, qY])
      refine TakeSeq.done ?_
      refine qH 8 fun K hK => ?_
      go_simp
      go_at_call 207; refine (Pack_any _ _ _).mono ?_; rintro e w4 ⟨rfl, hb4⟩; ((obtain ⟨hc4, hf4, hs4⟩ := qR hb4); (try have := qN0 w w4); (try have := qN1 w w4); (try have := qN2 w w4); (try have := qN0 wr w4); (try have := qN1 wr w4))
      go_wp2_with fail
      refine hK.out _ _ (SteadyBut.of qL) (fun hHeld => ?_)
      clear hK K
      refine qS [9, 10, 12] ?_
      iterate 3 (refine qT ?_; simp only [Act.put, qY])
      refine TakeSeq.done ?_
      refine qH 13 fun K hK => ?_
      go_simp
      refine hK.out _ _ qE (fun hHeld => ?_)
      clear hK K
      refine qD ?_ _
      go_wp2_with fail
      have BP4 := ((BP.alloc _).drew).kept hb4
      have BZ4 := ((BZ.alloc _).drew).kept hb4
      go_roundw
      case rel =>
        refine ⟨k + 1, by omega, by go_num, qL, by simp; omega, ?_, by (have B := BZ4; exact qK)⟩
        refine (BP4.put (2 + (2 + k)) _).cast ?_
        rw [fillUpto_step n p k hlt2 hn5, word_raw2 _ n.entries[k].to (He.out.ok _ (List.getElem_mem hlt2)) (pack_bound _)]
      case measure => simp [intOf]; omega
    · have hke : k = n.entries.length := by omega
      have HE := hid hke
      clear hke
      have fp := BP.free
      have fz := BZ.free
      have kp := BP.cell
      have kz := BZ.cell
      have zr : w.heap.size + 1 < wr.heap.size := by omega
      have zr2 : w.heap.size + 1 + 1 < wr.heap.size := by omega
      simp only [Bt.Page.cells] at kp
      rw [zeroPage_cells] at kz
      go_wp2_with fail
      have BZ2 := BZ
      rw [zeroPage_cells] at BZ2
      (refine bodyPost_ret (results_b rfl _ _ (w.heap.size + 1 + 1) _ _ _ rfl (by have B := BZ2; exact qK) Tryz.underlying75 rfl (by kernel_rfl)) rfl ⟨?_, ?_⟩)
      · rw [set9, ← fillUpto_all n p hn5, HE.out]
      · exact qL
theorem fill_ffn (n : Bt.Node) (p : Bt.Page) (hp : p.Ok) (hn : NodeOk n) (hl : n.leftmost = false) (hd : n.dead = false) (w : World) (hes : n.entries = []) (he : EntRow w (.slice none 0 0) n.entries) :
    Calls Tryz.prog 194 #[.agg (nodeCells n (.slice none 0 0)), .agg p.cells] w fun e w' => e = .returned (.agg (n.fill p).cells) ∧ Below w.heap.size w w' := by
  have Hp := hid hp
  have hpd := hp.d0
  have He := hid he
  have hvl := hn.level
  have hh := hn.high
  have hlen := hn.len
  have hn5 : n.entries.length ≤ 5 := hn.len
  have hen := he.len
  unfold maxLen at hen
  have hpk := pack_bound n.right
  have e1 : bits .or .u32 n.level 0 = n.level := by have := aux_or n.level 0 hvl (by omega); simpa using this
  have e4 := word_or n.high (Bt.pack n.right) hh hpk
  have HA : Hid (n.aux = n.level) := hid (by simp [Bt.Node.aux, hl, hd, Bt.flag, hes])
  have hgen : 0 ≤ Bt.tagGen p.d0 ∧ Bt.tagGen p.d0 < 16777216 := by unfold Bt.tagGen; omega
  have hkind : 0 ≤ Bt.tagKind p.d0 ∧ Bt.tagKind p.d0 < 256 := by unfold Bt.tagKind; omega
  unfold nodeCells Bt.Page.cells
  rw [hl, hd]
  clear hp hn hl hd
  have hz : n.entries.length = 0 := by rw [hes]; rfl
  have HZ := hid hz
  clear hz hes he
  go_enter Tryz.func194, Tryz.ntmps194
  go_wp2_with fail
  go_at_call 160; refine (UnpackTag_any p.d0 hpd.1 hpd.2 _).mono ?_; rintro e w1 ⟨rfl, hb⟩; ((obtain ⟨hc1, hf1, hs1⟩ := qR hb); (try have := qN0 w w1); (try have := qN1 w w1); (try have := qN2 w w1))
  go_wp2_with fail
  refine qB (w.heap.size + 1) fun hSt => ?_
  refine qS [0, 2, 3, 4, 5, 6] ?_
  iterate 6 (refine qT ?_; simp only [Act.put, qY])
  refine TakeSeq.done ?_
  refine qH 1 fun K hK => ?_
  go_simp
  go_at_call 208; refine (PackTag_any _ _ _ (by omega) (by omega) (by omega) _).mono ?_; rintro e w2 ⟨rfl, hb2⟩; ((obtain ⟨hc2, hf2, hs2⟩ := qR hb2); (try have := qN0 w w2); (try have := qN1 w w2); (try have := qN2 w w2); (try have := qN0 w1 w2); (try have := qN1 w1 w2))
  go_wp2_with fail
  refine hK.out _ _ (SteadyBut.of qL) (fun hHeld => ?_)
  clear hK K
  refine qH 7 fun K hK => ?_
  go_simp
  go_at_call 207; refine (Pack_any _ _ _).mono ?_; rintro e w3 ⟨rfl, hb3⟩; ((obtain ⟨hc3, hf3, hs3⟩ := qR hb3); (try have := qN0 w w3); (try have := qN1 w w3); (try have := qN2 w w3); (try have := qN0 w1 w3); (try have := qN1 w1 w3); (try have := qN0 w2 w3); (try have := qN1 w2 w3))
  go_wp2_with fail
  refine hK.out _ _ (SteadyBut.of qL) (fun hHeld => ?_)
  clear hK K
  refine qS [8, 9, 10, 11, 12] ?_
  iterate 5 (refine qT ?_; simp only [Act.put, qY])
  refine TakeSeq.done ?_
  refine qH 13 fun K hK => ?_
  go_simp
  refine hK.out _ _ qE (fun hHeld => ?_)
  clear hK K
  refine qD ?_ _
  go_wp2_with fail
  refine wp_loop_rounds 1 ?_
  rw [rounds_succ]
  go_wp2_with fail
  have B1 := (((((made23 w (t := 75) (cs := p.cells)).kept hb).alloc _).drew).kept hb2).kept hb3
  have B2 := (((((made33 w (t := 75) (cs := Bt.zeroPage.cells)).kept hb).alloc _).drew).kept hb2).kept hb3
  simp only [Bt.Page.cells] at B1
  rw [zeroPage_cells] at B2
  have BP := (B1.data7 (.int .u64 (Bt.packTag (Bt.tagKind p.d0) (Bt.tagGen p.d0) (n.level))) (.int .u64 (bits .or .u64 n.high (IntKind.u64.wrap (IntKind.u64.wrap (Bt.pack ⟨n.right.line, n.right.gen⟩) * 4294967296)))) (.int .u64 0) (.int .u64 0) (.int .u64 0) (.int .u64 0) (.int .u64 0))
  (refine bodyPost_ret (results_b rfl _ _ (w.heap.size + 1 + 1) _ _ _ rfl (by have B := B2; exact qK) Tryz.underlying75 rfl (by kernel_rfl)) rfl ⟨?_, ?_⟩)
  · rw [set9, ← fillUpto_all n p hn5, HZ.out, word_raw' n.high n.right hh hpk, ← HA.out]; rfl
  · exact qL
theorem fill_any (n : Bt.Node) (v : Value) (p : Bt.Page) (hp : p.Ok) (hn : NodeOk n) (w : World) (he : EntRow w v n.entries) :
    Calls Tryz.prog 194 #[.agg (nodeCells n v), .agg p.cells] w fun e w' => e = .returned (.agg (n.fill p).cells) ∧ Below w.heap.size w w' := by
  rcases he.form with ⟨hv, hes⟩ | ⟨b, off, cap, hv, hlt, hcells⟩
  · subst hv
    rcases hl : n.leftmost with _ | _ <;> rcases hd : n.dead with _ | _
    · exact fill_ffn n p hp hn hl hd w hes he
    · exact fill_ftn n p hp hn hl hd w hes he
    · exact fill_tfn n p hp hn hl hd w hes he
    · exact fill_ttn n p hp hn hl hd w hes he
  · rcases hl : n.leftmost with _ | _ <;> rcases hd : n.dead with _ | _
    · exact fill_ff n v p hp hn hl hd w he b off cap hv hlt hcells
    · exact fill_ft n v p hp hn hl hd w he b off cap hv hlt hcells
    · exact fill_tf n v p hp hn hl hd w he b off cap hv hlt hcells
    · exact fill_tt n v p hp hn hl hd w he b off cap hv hlt hcells
def entCells (es : List Bt.Entry) : List Value := es.flatMap (fun e => e.cells.toList)
section
variable {w w' : World} {base n size : Nat} {e : TypeId} {v : Value} {xs : List Value}
theorem own_below (h : w.ownsRow base e size v n xs) (hb : Below w.heap.size w w') : w'.ownsRow base e size v n xs := by
  refine ⟨h.1, ?_⟩
  rcases h.2 with h1 | ⟨g, cap, cur, hv, hbase, hc, h1, h2, h3, h4⟩
  · exact .inl h1
  · exact .inr ⟨g, cap, cur, hv, hbase, (hb.block g (Array.getElem?_eq_some_iff.1 hc).1).trans hc, h1, h2, h3, h4⟩
theorem own_aside (h : w.ownsRow base e size v n xs) {p : Addr} (hp : p.block < base) (u : Value) : (w.setCell p u).ownsRow base e size v n xs := by
  refine ⟨h.1, ?_⟩
  rcases h.2 with h1 | ⟨g, cap, cur, hv, hbase, hc, h1, h2, h3, h4⟩
  · exact .inl h1
  · exact .inr ⟨g, cap, cur, hv, hbase, (heap_setCell_other w p g u (by omega)).trans hc, h1, h2, h3, h4⟩
theorem own_ne {b : Nat} (h : w.ownsRow base e size v n xs) (hb : b < base) : some b ≠ v.ownBlock := by
  rcases h.2 with ⟨rfl, _⟩ | ⟨g, cap, cur, rfl, hbase, _⟩
  · simp [Value.ownBlock]
  · simp [Value.ownBlock]; omega
theorem own_row_ge (h : w.ownsRow base e size v n xs) : ∀ k, v.ownBlock = some k → base ≤ k := by
  rcases h.2 with ⟨rfl, _⟩ | ⟨g, cap, cur, rfl, hbase, _⟩
  · simp [Value.ownBlock]
  · intro k hk; simp [Value.ownBlock] at hk; omega
end
structure AnyWorld (wx : World) : Prop where
  rule : True
def bareNode (p : Bt.Page) : Bt.Node := { p.node with entries := [] }
def entriesUpto (p : Bt.Page) (k : Nat) : List Bt.Entry := (p.words.take k).map Bt.entryOf
structure ReadAt (p : Bt.Page) (w : World) (g k : Nat) (v : Value) (wr : World) : Prop where
  node : Blk wr g 308 (nodeCells (bareNode p) v)
  own : wr.ownsRow (g + 1) 173 3 v k (entCells (entriesUpto p k))
  below : Below w.heap.size w wr
  page : Blk wr w.heap.size 75 p.cells
  out : Blk wr (w.heap.size + 1) 308 (nodeCells Bt.zeroNode (.slice none 0 0))
  gl : w.heap.size + 1 < g
theorem own_one {w : World} {base n size : Nat} {e : TypeId} {v : Value} {xs : List Value} (h : w.ownsRow base e size v n xs) : v.oneCell' = true := by
  rcases h.2 with ⟨rfl, _⟩ | ⟨g, cap, cur, rfl, _⟩ <;> rfl
theorem qSt {w : World} {base n size : Nat} {e : TypeId} {v : Value} {xs : List Value} (h : w.ownsRow base e size v n xs) : ∀ (a : Addr) (m : Mode) (wx : World), (store a v m).run Tryz.prog wx = stored Tryz.prog wx a v m := fun a m wx => run_store Tryz.prog wx a v m (own_one h)
abbrev Over (b : Nat) (w w' : World) : Prop := w.grownBy w' (some b)
theorem over_rules {b : Nat} {w w1 : World} (h : Over b w w1) :
    (∀ c o, c < w.heap.size → (c < b ∨ b < c) → w1.cell? ⟨c, o, none⟩ = w.cell? ⟨c, o, none⟩) ∧ (∀ c o, c < w.heap.size → (c < b ∨ b < c) → w1.frozen? ⟨c, o, none⟩ = w.frozen? ⟨c, o, none⟩) := by
  have hb : ∀ c, c < w.heap.size → (c < b ∨ b < c) → w1.heap[c]? = w.heap[c]? := fun c hc hn => h.block c hc (by simp; omega)
  refine ⟨fun c o hc hn => ?_, fun c o hc hn => ?_⟩
  · simp only [World.cell?, hb c hc hn]
  · simp only [World.frozen?, hb c hc hn]
theorem Over.of_below {b : Nat} {w w' : World} (h : Below w.heap.size w w') : Over b w w' := ⟨h.os, h.tape, h.output, h.size, fun k hk _ => h.block k hk⟩
section
variable {b : Nat} {w w1 w2 : World}
theorem Over.refl (b : Nat) (w : World) : Over b w w := ⟨rfl, rfl, rfl, Nat.le_refl _, fun _ _ _ => rfl⟩
theorem Over.trans (h1 : Over b w w1) (h2 : Over b w1 w2) : Over b w w2 :=
  ⟨h2.os.trans h1.os, h2.tape.trans h1.tape, h2.output.trans h1.output, Nat.le_trans h1.size h2.size, fun k hk hn => (h2.block k (Nat.lt_of_lt_of_le hk h1.size) hn).trans (h1.block k hk hn)⟩
theorem Over.then_below (h1 : Over b w w1) (h2 : Below w1.heap.size w1 w2) : Over b w w2 := h1.trans (Over.of_below h2)
theorem Over.alloc (h : Over b w w1) (o : Obj) : Over b w (w1.alloc o) := h.then_below (below_alloc (Below.refl _ _) _)
theorem Over.drew (h : Over b w w1) : Over b w w1.drew := ⟨h.os, h.tape, h.output, h.size, h.block⟩
theorem Over.put (h : Over b w w1) (i : Nat) (v : Value) : Over b w (w1.setCell ⟨b, i, none⟩ v) :=
  h.trans ⟨rfl, rfl, rfl, by simp [World.setCell], fun k hk hn => heap_setCell_other w1 ⟨b, i, none⟩ k v (by intro e; exact hn (by rw [e]))⟩
theorem Over.own (h : Over b w w1) {p : Addr} (hp : w.heap.size ≤ p.block) (v : Value) : Over b w (w1.setCell p v) :=
  ⟨h.os, h.tape, h.output, by simpa [World.setCell] using h.size, fun k hk hn => (heap_setCell_other w1 p k v (by omega)).trans (h.block k hk hn)⟩
end
theorem qV {b : Nat} {w w' : World} (h : Over b w w' := by (repeat (first | with_reducible exact Over.refl _ _ | with_reducible assumption | with_reducible refine Over.put ?_ _ _ | with_reducible refine Over.alloc ?_ _ | with_reducible refine Over.drew ?_ | with_reducible refine Over.own ?_ (by first | (simp; done) | (simp; omega)) _ | with_reducible refine Over.trans ?_ (by assumption) | with_reducible refine Over.then_below ?_ (by assumption)))) : Over b w w' := h
theorem qO {b : Nat} {w w1 : World} {n : Nat} (hb : Over b w w1) (hn : w.heap.size = n := by (try simp only [size_alloc, size_setCell, size_drew, size_drewN]); rfl) : (∀ c o, c < n → (c < b ∨ b < c) → w1.cell? ⟨c, o, none⟩ = w.cell? ⟨c, o, none⟩) ∧ (∀ c o, c < n → (c < b ∨ b < c) → w1.frozen? ⟨c, o, none⟩ = w.frozen? ⟨c, o, none⟩) ∧ n ≤ w1.heap.size := by
  subst hn
  exact ⟨(over_rules hb).1, (over_rules hb).2, World.grownBy.size hb⟩
def intCells (l : List Int) : List Value := l.map (Value.int .i64)
def pageCells (l : List Bt.Page) : List Value := l.flatMap (fun p => p.cells.toList)
def runCells (op : Bt.Op) (vf vk : Value) (s : Bt.St) (vn vw ve vc : Value) : Array Value :=
  #[.int .i64 op.kind, .int .u32 op.key, .int .u32 op.last, .int .i64 op.to.line, .int .i64 op.to.gen, .int .i64 op.level, .int .i64 op.limit, vf, vk, vn, vw,
    .int .i64 s.out.code, .bool s.out.found, .bool s.out.done, .bool s.out.split, .bool s.out.unposted, .bool s.out.dead, .bool s.out.more, .int .i64 s.out.to.line, .int .i64 s.out.to.gen, ve, vc,
    .int .i64 s.out.hops, .int .i64 s.out.fresh, .int .i64 s.out.height,
    .int .i64 s.rootPage.line, .int .u64 s.rootPage.head, .int .u64 s.rootPage.d0, .int .u64 s.rootPage.d1, .int .u64 s.rootPage.d2, .int .u64 s.rootPage.d3, .int .u64 s.rootPage.d4, .int .u64 s.rootPage.d5, .int .u64 s.rootPage.d6,
    .int .i64 s.root.line, .int .i64 s.root.gen, .bool s.ended]
structure RunAt (op : Bt.Op) (known : List Bt.Page) (vf vk : Value) (s : Bt.St) (b : Nat) (vn vw ve vc : Value) (w : World) : Prop where
  blk : Blk w b 266 (runCells op vf vk s vn vw ve vc)
  known : PgRow w vk known
  apart : ∀ c n m, vk = .slice (some ⟨c, 0, none⟩) n m → c < b
  fresh : PgRow w vf op.fresh
  apartf : ∀ c n m, vf = .slice (some ⟨c, 0, none⟩) n m → c < b
  need : w.ownsRow (b + 1) 3 1 vn s.need.length (intCells s.need)
  writes : w.ownsRow (b + 1) 75 9 vw s.writes.length (pageCells s.writes)
  ents : w.ownsRow (b + 1) 173 3 ve s.out.entries.length (entCells s.out.entries)
  check : w.ownsRow (b + 1) 3 1 vc s.out.check.length (intCells s.out.check)
  none : NoneAt w
  pos : 1 < b
theorem PgRow.over {w w' : World} {v : Value} {l : List Bt.Page} {b : Nat} (h : PgRow w v l) (ho : Over b w w') (hb : ∀ c n m, v = .slice (some ⟨c, 0, none⟩) n m → c < b) : PgRow w' v l := by
  refine ⟨h.ok, h.len, ?_⟩
  rcases h.form with h1 | ⟨c, cap, hv, hlt, hcells⟩
  · exact .inl h1
  · exact .inr ⟨c, cap, hv, Nat.lt_of_lt_of_le hlt ho.size, fun i p hi j u hu => by rw [(over_rules ho).1 c _ hlt (Or.inl (hb c _ _ hv))]; exact hcells i p hi j u hu⟩
theorem NoneAt.over {w w' : World} {b : Nat} (h : NoneAt w) (ho : Over b w w') (hb : 1 < b) : NoneAt w' :=
  ⟨((over_rules ho).1 _ _ h.lt (Or.inl hb)).trans h.c0, ((over_rules ho).1 _ _ h.lt (Or.inl hb)).trans h.c1, Nat.lt_of_lt_of_le h.lt ho.size, Nat.lt_of_lt_of_le h.lt0 ho.size⟩
theorem own_over {w w' : World} {base n size b : Nat} {e : TypeId} {v : Value} {xs : List Value} (h : w.ownsRow base e size v n xs) (ho : Over b w w') (hb : b < base) : w'.ownsRow base e size v n xs := by
  refine h.kept ho ?_
  rcases hv : v.ownBlock with _ | c
  · exact .inl rfl
  · right
    have := own_row_ge h c hv
    simp; omega
theorem RunAt.over {op : Bt.Op} {known : List Bt.Page} {vf vk : Value} {s s' : Bt.St} {b : Nat} {vn vw ve vc : Value} {w w' : World} (h : RunAt op known vf vk s b vn vw ve vc w) (ho : Over b w w')
    (hb : Blk w' b 266 (runCells op vf vk s' vn vw ve vc)) (h1 : s'.need = s.need) (h2 : s'.writes = s.writes) (h3 : s'.out.entries = s.out.entries) (h4 : s'.out.check = s.out.check) : RunAt op known vf vk s' b vn vw ve vc w' :=
  ⟨hb, h.known.over ho h.apart, h.apart, h.fresh.over ho h.apartf, h.apartf, by rw [h1]; exact own_over h.need ho (by omega), by rw [h2]; exact own_over h.writes ho (by omega), by rw [h3]; exact own_over h.ents ho (by omega), by rw [h4]; exact own_over h.check ho (by omega), h.none.over ho h.pos, h.pos⟩
def IsRun (A : Nat → Prop) (op : Bt.Op) (known : List Bt.Page) (vf vk : Value) (s : Bt.St) (b : Nat) (w : World) : Prop :=
  ∃ vn vw ve vc, RunAt op known vf vk s b vn vw ve vc w ∧ (∀ c, vn.ownBlock = some c → A c) ∧ (∀ c, vw.ownBlock = some c → A c) ∧ (∀ c, ve.ownBlock = some c → A c) ∧ (∀ c, vc.ownBlock = some c → A c)
def New (A : Nat → Prop) (w : World) : Nat → Prop := fun c => A c ∨ w.heap.size ≤ c
theorem IsRun.imp {A A' : Nat → Prop} {op : Bt.Op} {known : List Bt.Page} {vf vk : Value} {s : Bt.St} {b : Nat} {w : World} (h : IsRun A op known vf vk s b w) (hA : ∀ c, A c → A' c) : IsRun A' op known vf vk s b w := by
  obtain ⟨vn, vw, ve, vc, hr, h1, h2, h3, h4⟩ := h
  exact ⟨vn, vw, ve, vc, hr, fun c hc => hA c (h1 c hc), fun c hc => hA c (h2 c hc), fun c hc => hA c (h3 c hc), fun c hc => hA c (h4 c hc)⟩
theorem own_lt' {w : World} {base n size : Nat} {e : TypeId} {v : Value} {xs : List Value} (h : w.ownsRow base e size v n xs) (c : Nat) (hc : v.ownBlock = some c) : c < w.heap.size := by
  rcases h.2 with ⟨rfl, _⟩ | ⟨g, cap, cur, rfl, _, hh, _⟩
  · simp [Value.ownBlock] at hc
  · simp [Value.ownBlock] at hc; subst hc; exact (Array.getElem?_eq_some_iff.1 hh).1
theorem IsRun.below {A : Nat → Prop} {op : Bt.Op} {known : List Bt.Page} {vf vk : Value} {s : Bt.St} {b : Nat} {w w' : World} (h : IsRun A op known vf vk s b w) (hb : Below w.heap.size w w') : IsRun A op known vf vk s b w' := by
  obtain ⟨vn, vw, ve, vc, hr, h1⟩ := h
  exact ⟨vn, vw, ve, vc, ⟨hr.blk.kept hb, hr.known.below hb, hr.apart, hr.fresh.below hb, hr.apartf, own_below hr.need hb, own_below hr.writes hb, own_below hr.ents hb, own_below hr.check hb, hr.none.below hb, hr.pos⟩, h1⟩
theorem own_set {w : World} {base n size : Nat} {e : TypeId} {v : Value} {xs : List Value} (h : w.ownsRow base e size v n xs) {p : Addr} (hp : v.ownBlock ≠ some p.block) (u : Value) : (w.setCell p u).ownsRow base e size v n xs := by
  refine ⟨h.1, ?_⟩
  rcases h.2 with h1 | ⟨c, cap, cur, hv, hbase, hc, h1, h2, h3, h4⟩
  · exact .inl h1
  · subst hv
    simp [Value.ownBlock] at hp
    exact .inr ⟨c, cap, cur, rfl, hbase, (heap_setCell_other w p c u hp).trans hc, h1, h2, h3, h4⟩
theorem IsRun.set {A : Nat → Prop} {op : Bt.Op} {known : List Bt.Page} {vf vk : Value} {s : Bt.St} {b : Nat} {w : World} (h : IsRun A op known vf vk s b w) {p : Addr} (hp : b < p.block) (hA : ¬ A p.block) (u : Value) : IsRun A op known vf vk s b (w.setCell p u) := by
  obtain ⟨vn, vw, ve, vc, hr, h1, h2, h3, h4⟩ := h
  have ho : Below p.block w (w.setCell p u) := (Below.refl _ _).setCell (Nat.le_refl _) u
  have hk : ∀ c o, c < p.block → (w.setCell p u).cell? ⟨c, o, none⟩ = w.cell? ⟨c, o, none⟩ := fun c o hc => ho.cell (p := ⟨c, o, none⟩) hc
  refine ⟨vn, vw, ve, vc, ⟨hr.blk.aside (by omega) u, hr.known.kept ho (fun c n m hv => by have := hr.apart c n m hv; omega), hr.apart, hr.fresh.kept ho (fun c n m hv => by have := hr.apartf c n m hv; omega), hr.apartf,
    own_set hr.need (fun e => hA (h1 _ e)) u, own_set hr.writes (fun e => hA (h2 _ e)) u, own_set hr.ents (fun e => hA (h3 _ e)) u, own_set hr.check (fun e => hA (h4 _ e)) u,
    ⟨(hk _ _ (by have := hr.pos; omega)).trans hr.none.c0, (hk _ _ (by have := hr.pos; omega)).trans hr.none.c1, by simpa [World.setCell] using hr.none.lt, by simpa [World.setCell] using hr.none.lt0⟩, hr.pos⟩, h1, h2, h3, h4⟩
theorem IsRun.lt {A : Nat → Prop} {op : Bt.Op} {known : List Bt.Page} {vf vk : Value} {s : Bt.St} {b : Nat} {w : World} (h : IsRun A op known vf vk s b w) : b < w.heap.size := by
  obtain ⟨vn, vw, ve, vc, hr, _⟩ := h
  exact hr.blk.lt
def RunPost (A : Nat → Prop) (op : Bt.Op) (known : List Bt.Page) (vf vk : Value) (s : Bt.St) (b : Nat) (r : Value) (w : World) (e : Ending) (w' : World) : Prop :=
  e = .returned r ∧ IsRun (New A w) op known vf vk s b w' ∧ Over b w w'
theorem wait_any (A : Nat → Prop) (op : Bt.Op) (known : List Bt.Page) (vf vk : Value) (s : Bt.St) (b : Nat) (l : Int) (w : World) (h : IsRun A op known vf vk s b w) :
    Calls Tryz.prog 177 #[.pointer (some ⟨b, 0, none⟩), .int .i64 l] w (RunPost A op known vf vk (s.wait l) b (.bool false) w) := by
  obtain ⟨vn, vw, ve, vc, hr, h1, h2, h3, h4⟩ := h
  have HR := hid hr
  have HA := hid (And.intro h2 (And.intro h3 h4))
  have hlt := hr.blk.lt
  have k9 : w.cell? ⟨b, 9, none⟩ = some vn := hr.blk.cell 9
  have f9 := hr.blk.free 9
  clear hr h1 h2 h3 h4
  go_enter Tryz.func177, Tryz.ntmps177
  go_wp2
  go_ret
  have hr := HR.out
  have ho : Over b w ((w.setCell ⟨b, 9, none⟩ (.slice (some ⟨w.heap.size, 0, none⟩) 1 1)).alloc (.cells #[.int .i64 l] 3)) := qV
  refine ⟨rfl, ⟨.slice (some ⟨w.heap.size, 0, none⟩) 1 1, vw, ve, vc, ?_, fun c hc => .inr (by simp [Value.ownBlock] at hc; omega), fun c hc => .inl (HA.out.1 c hc), fun c hc => .inl (HA.out.2.1 c hc), fun c hc => .inl (HA.out.2.2 c hc)⟩, ho⟩
  exact ⟨((hr.blk.put 9 _).alloc _).cast rfl, hr.known.over ho hr.apart, hr.apart, hr.fresh.over ho hr.apartf, hr.apartf,
    ⟨rfl, .inr ⟨w.heap.size, 1, #[.int .i64 l], rfl, by omega, Blk.made' (by simp [World.setCell]), Nat.le_refl _, by unfold maxLen; omega, rfl, rfl⟩⟩,
    own_over hr.writes ho (by omega), own_over hr.ents ho (by omega), own_over hr.check ho (by omega), hr.none.over ho hr.pos, hr.pos⟩
end Go.Proofs.YtcoiehgcfjfhaaaGreatDoor
namespace Go.Proofs.YtcoiehgcfjfhaaaGreatDoor
end Go.Proofs.YtcoiehgcfjfhaaaGreatDoor
