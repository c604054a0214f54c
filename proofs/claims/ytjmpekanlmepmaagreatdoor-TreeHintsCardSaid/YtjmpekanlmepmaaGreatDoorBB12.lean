/- Package btree: a node is written onto its page: the walk (printed by fill_gen.py). -/
import Derived.Test.YtjmpekanlmepmaaGreatDoorBB10
import Derived.Test.YtjmpekanlmepmaaGreatDoorBB11
import Derived.Test.YtjmpekanlmepmaaGreatDoorBB08
import Derived.IntWalk
import Derived.ChangeKeysEq
set_option linter.all false
set_option maxRecDepth 20000
set_option maxHeartbeats 8000000
open Go.Lib (hid)
namespace Go.Proofs.YtjmpekanlmepmaaGreatDoor
open Go.RowKit
theorem sG14 {P : Prop} (h : P := by
 go_loopw [50] (fun i wr => Z7d n p w i wr) (fun i _ => n.entries.length - (intOf i).toNat)
 case atStart => exact ⟨0, Nat.zero_le _, rfl, qL, by simpa using hfin, (B1.data7 _ _ _ _ _ _ _).cast (by rw [word_raw' n.high n.right hh hpk, ← HA.out]; rfl), by (have B := B2; exact qK)⟩
 case round =>
  obtain ⟨k, hkl, rfl, hbw, hsz, BP, BZ⟩ := hrel
  by_cases hlt2 : k < n.entries.length
  ·obtain ⟨c0, c1, c2⟩ := three Hc.out hlt2
   rw [← hbw.cell (p := ⟨b, off + k * 3, none⟩) hlt] at c0
   rw [← hbw.cell (p := ⟨b, off + k * 3 + 1, none⟩) hlt] at c1
   rw [← hbw.cell (p := ⟨b, off + k * 3 + 2, none⟩) hlt] at c2
   have fp := BP.free
   obtain ⟨y, hy⟩ : ∃ y, wr.cell? ⟨w.heap.size + 1, 2 + (2 + k), none⟩ = some y := by
    rw [BP.cell]; exact ⟨_, Array.getElem?_eq_getElem (by show 2 + (2 + k) < 9; omega)⟩
   have hw1 : IntKind.i64.wrap (2 + (k : Int)) = 2 + k := IntWalk.i64_in _ (by omega)
   have zr : w.heap.size + 1 < wr.heap.size := by omega
   have zr0 : w.heap.size < wr.heap.size := by omega
   have hw2 : (0 : Int) ≤ 2 + k := by omega
   have hw3 : 2 + (k : Int) < 7 := by omega
   have hw4 : (2 + (k : Int)).toNat = 2 + k := by omega
   go_wp2_with fail
   refine qB (w.heap.size + 1) fun hSt => ?_
   refine qS [0, 1, 2, 3, 4, 5, 6, 7, 11] ?_
   iterate 9 (refine qT ?_; simp only [Act.put, qY])
   refine Z00.done ?_
   refine qH 8 fun K hK => ?_
   go_simp
   go_at_call 44; refine (Z2C _ _ _).mono ?_; rintro e w4 ⟨rfl, hb4⟩; ((obtain ⟨hc4, hf4, hs4⟩ := qR hb4); (try have := qN0 w w4); (try have := qN1 w w4); (try have := qN2 w w4); (try have := qN0 wr w4); (try have := qN1 wr w4))
   go_wp2_with fail
   refine hK.out _ _ (SteadyBut.of qL) (fun hHeld => ?_)
   clear hK K
   refine qS [9, 10, 12] ?_
   iterate 3 (refine qT ?_; simp only [Act.put, qY])
   refine Z00.done ?_
   refine qH 13 fun K hK => ?_
   go_simp
   refine hK.out _ _ qE (fun hHeld => ?_)
   clear hK K
   refine qD ?_ _
   go_wp2_with fail
   have BP4 := ((BP.alloc _).drew).kept hb4
   have BZ4 := ((BZ.alloc _).drew).kept hb4
   go_roundw
   case rel =>
    refine ⟨k + 1, by omega, by go_num, qL, by simp; omega, ?_, by (have B := BZ4; exact qK)⟩
    refine (BP4.put (2 + (2 + k)) _).cast ?_
    rw [Z3b n p k hlt2 hn5, Z4Y _ n.entries[k].to (He.out.ok _ (List.getElem_mem hlt2)) (Z1G _)]
   case measure => simp [intOf]; omega
  ·have hke : k = n.entries.length := by omega
   have HE := hid hke
   clear hke
   have fp := BP.free
   have fz := BZ.free
   have kp := BP.cell
   have kz := BZ.cell
   have zr : w.heap.size + 1 < wr.heap.size := by omega
   have zr2 : w.heap.size + 1 + 1 < wr.heap.size := by omega
   simp only [Bt.Page.cells] at kp
   rw [Z0x] at kz
   go_wp2_with fail
   have BZ2 := BZ
   rw [Z0x] at BZ2
   (refine bodyPost_ret (Z2E rfl _ _ (w.heap.size + 1 + 1) _ _ _ rfl (by have B := BZ2; exact qK) Tryz.underlying25 rfl (by kernel_rfl)) rfl ⟨?_, ?_⟩)
   ·rw [set9, ← Z2d n p hn5, HE.out]
   ·exact qL) : P := h
theorem Zcb (n : Bt.Node) (v : Value) (p : Bt.Page) (hp : p.Ok) (hn : NodeOk n) (hl : n.leftmost = false) (hd : n.dead = true) (w : World) (he : EntRow w v n.entries)
 (b off cap : Nat) (hv : v = .slice (some ⟨b, off, none⟩) n.entries.length cap) (hlt : b < w.heap.size) (hcells : ∀ (i : Nat) (p : Bt.Entry), n.entries[i]? = some p → ∀ (j : Nat) (u : Value), p.cells[j]? = some u → w.cell? ⟨b, off + i * 3 + j, none⟩ = some u) :
 Calls Tryz.prog 64 #[.agg (Z02 n v), .agg p.cells] w fun e w' => e = .returned (.agg (n.fill p).cells) ∧ Below w.heap.size w w' := by
 have Hp := hid hp
 have hpd := hp.d0
 have He := hid he
 have hvl := hn.level
 have hh := hn.high
 have hlen := hn.len
 have hn5 : n.entries.length ≤ 5 := hn.len
 have hen := he.len
 unfold maxLen at hen
 have hpk := Z1G n.right
 have e1 := Z5E n.level n.entries.length hvl (by omega)
 have e3 := Z77 (n.level + n.entries.length * 256) (by omega)
 have e4 := Z3G n.high (Bt.pack n.right) hh hpk
 have HA : Hid (n.aux = n.level + n.entries.length * 256 + 131072) := hid (by simp [Bt.Node.aux, hl, hd, Bt.flag])
 have hgen : 0 ≤ Bt.Z0u p.d0 ∧ Bt.Z0u p.d0 < 16777216 := by unfold Bt.Z0u; omega
 have hkind : 0 ≤ Bt.Z0f p.d0 ∧ Bt.Z0f p.d0 < 256 := by unfold Bt.Z0f; omega
 unfold Z02 Bt.Page.cells
 rw [hl, hd]
 clear hp hn hl hd
 subst hv
 have Hc := hid hcells
 clear hcells he
 go_enter Tryz.func64, Tryz.ntmps64
 go_wp2_with fail
 go_at_call 62; refine (Z1k p.d0 hpd.1 hpd.2 _).mono ?_; rintro e w1 ⟨rfl, hb⟩; ((obtain ⟨hc1, hf1, hs1⟩ := qR hb); (try have := qN0 w w1); (try have := qN1 w w1); (try have := qN2 w w1))
 go_wp2_with fail
 refine qB (w.heap.size + 1) fun hSt => ?_
 refine qS [0, 2, 3, 4, 5, 6] ?_
 iterate 6 (refine qT ?_; simp only [Act.put, qY])
 refine Z00.done ?_
 refine qH 1 fun K hK => ?_
 go_simp
 go_at_call 99; refine (Z2h _ _ _ (by omega) (by omega) (by omega) _).mono ?_; rintro e w2 ⟨rfl, hb2⟩; ((obtain ⟨hc2, hf2, hs2⟩ := qR hb2); (try have := qN0 w w2); (try have := qN1 w w2); (try have := qN2 w w2); (try have := qN0 w1 w2); (try have := qN1 w1 w2))
 go_wp2_with fail
 refine hK.out _ _ (SteadyBut.of qL) (fun hHeld => ?_)
 clear hK K
 refine qH 7 fun K hK => ?_
 go_simp
 go_at_call 44; refine (Z2C _ _ _).mono ?_; rintro e w3 ⟨rfl, hb3⟩; ((obtain ⟨hc3, hf3, hs3⟩ := qR hb3); (try have := qN0 w w3); (try have := qN1 w w3); (try have := qN2 w w3); (try have := qN0 w1 w3); (try have := qN1 w1 w3); (try have := qN0 w2 w3); (try have := qN1 w2 w3))
 go_wp2_with fail
 refine hK.out _ _ (SteadyBut.of qL) (fun hHeld => ?_)
 clear hK K
 refine qS [8, 9, 10, 11, 12] ?_
 iterate 5 (refine qT ?_; simp only [Act.put, qY])
 refine Z00.done ?_
 refine qH 13 fun K hK => ?_
 go_simp
 refine hK.out _ _ qE (fun hHeld => ?_)
 clear hK K
 refine qD ?_ _
 go_wp2_with fail
 have B1 := (((((Z3M w (t := 25) (cs := p.cells)).kept hb).alloc _).drew).kept hb2).kept hb3
 have B2 := (((((Z2S w (t := 25) (cs := Bt.Z0l.cells)).kept hb).alloc _).drew).kept hb2).kept hb3
 simp only [Bt.Page.cells] at B1
 have hfin : w.heap.size + 1 + 1 + 1 ≤ w3.heap.size := by omega
 clear hc1 hf1 hc2 hf2 hc3 hf3 e1 e4 e3
 exact sG14
theorem ZbB (n : Bt.Node) (p : Bt.Page) (hp : p.Ok) (hn : NodeOk n) (hl : n.leftmost = false) (hd : n.dead = true) (w : World) (hes : n.entries = []) (he : EntRow w (.slice none 0 0) n.entries) :
 Calls Tryz.prog 64 #[.agg (Z02 n (.slice none 0 0)), .agg p.cells] w fun e w' => e = .returned (.agg (n.fill p).cells) ∧ Below w.heap.size w w' := by
 have Hp := hid hp
 have hpd := hp.d0
 have He := hid he
 have hvl := hn.level
 have hh := hn.high
 have hlen := hn.len
 have hn5 : n.entries.length ≤ 5 := hn.len
 have hen := he.len
 unfold maxLen at hen
 have hpk := Z1G n.right
 have e1 : bits .or .u32 n.level 0 = n.level := by have := Z5E n.level 0 hvl (by omega); simpa using this
 have e3 := Z77 (n.level) (by omega)
 have e4 := Z3G n.high (Bt.pack n.right) hh hpk
 have HA : Hid (n.aux = n.level + 131072) := hid (by simp [Bt.Node.aux, hl, hd, Bt.flag, hes])
 have hgen : 0 ≤ Bt.Z0u p.d0 ∧ Bt.Z0u p.d0 < 16777216 := by unfold Bt.Z0u; omega
 have hkind : 0 ≤ Bt.Z0f p.d0 ∧ Bt.Z0f p.d0 < 256 := by unfold Bt.Z0f; omega
 unfold Z02 Bt.Page.cells
 rw [hl, hd]
 clear hp hn hl hd
 have hz : n.entries.length = 0 := by rw [hes]; rfl
 have HZ := hid hz
 clear hz hes he
 go_enter Tryz.func64, Tryz.ntmps64
 go_wp2_with fail
 go_at_call 62; refine (Z1k p.d0 hpd.1 hpd.2 _).mono ?_; rintro e w1 ⟨rfl, hb⟩; ((obtain ⟨hc1, hf1, hs1⟩ := qR hb); (try have := qN0 w w1); (try have := qN1 w w1); (try have := qN2 w w1))
 go_wp2_with fail
 refine qB (w.heap.size + 1) fun hSt => ?_
 refine qS [0, 2, 3, 4, 5, 6] ?_
 iterate 6 (refine qT ?_; simp only [Act.put, qY])
 refine Z00.done ?_
 refine qH 1 fun K hK => ?_
 go_simp
 go_at_call 99; refine (Z2h _ _ _ (by omega) (by omega) (by omega) _).mono ?_; rintro e w2 ⟨rfl, hb2⟩; ((obtain ⟨hc2, hf2, hs2⟩ := qR hb2); (try have := qN0 w w2); (try have := qN1 w w2); (try have := qN2 w w2); (try have := qN0 w1 w2); (try have := qN1 w1 w2))
 go_wp2_with fail
 refine hK.out _ _ (SteadyBut.of qL) (fun hHeld => ?_)
 clear hK K
 refine qH 7 fun K hK => ?_
 go_simp
 go_at_call 44; refine (Z2C _ _ _).mono ?_; rintro e w3 ⟨rfl, hb3⟩; ((obtain ⟨hc3, hf3, hs3⟩ := qR hb3); (try have := qN0 w w3); (try have := qN1 w w3); (try have := qN2 w w3); (try have := qN0 w1 w3); (try have := qN1 w1 w3); (try have := qN0 w2 w3); (try have := qN1 w2 w3))
 go_wp2_with fail
 refine hK.out _ _ (SteadyBut.of qL) (fun hHeld => ?_)
 clear hK K
 refine qS [8, 9, 10, 11, 12] ?_
 iterate 5 (refine qT ?_; simp only [Act.put, qY])
 refine Z00.done ?_
 refine qH 13 fun K hK => ?_
 go_simp
 refine hK.out _ _ qE (fun hHeld => ?_)
 clear hK K
 refine qD ?_ _
 go_wp2_with fail
 refine wp_loop_rounds 1 ?_
 rw [rounds_succ]
 go_wp2_with fail
 have B1 := (((((Z3M w (t := 25) (cs := p.cells)).kept hb).alloc _).drew).kept hb2).kept hb3
 have B2 := (((((Z2S w (t := 25) (cs := Bt.Z0l.cells)).kept hb).alloc _).drew).kept hb2).kept hb3
 simp only [Bt.Page.cells] at B1
 rw [Z0x] at B2
 have BP := (B1.data7 (.int .u64 (Bt.Z1v (Bt.Z0f p.d0) (Bt.Z0u p.d0) (n.level + 131072))) (.int .u64 (bits .or .u64 n.high (IntKind.u64.wrap (IntKind.u64.wrap (Bt.pack ⟨n.right.line, n.right.gen⟩) * 4294967296)))) (.int .u64 0) (.int .u64 0) (.int .u64 0) (.int .u64 0) (.int .u64 0))
 (refine bodyPost_ret (Z2E rfl _ _ (w.heap.size + 1 + 1) _ _ _ rfl (by have B := B2; exact qK) Tryz.underlying25 rfl (by kernel_rfl)) rfl ⟨?_, ?_⟩)
 ·rw [set9, ← Z2d n p hn5, HZ.out, word_raw' n.high n.right hh hpk, ← HA.out]; rfl
 ·exact qL
theorem Zcc (n : Bt.Node) (v : Value) (p : Bt.Page) (hp : p.Ok) (hn : NodeOk n) (hl : n.leftmost = false) (hd : n.dead = false) (w : World) (he : EntRow w v n.entries)
 (b off cap : Nat) (hv : v = .slice (some ⟨b, off, none⟩) n.entries.length cap) (hlt : b < w.heap.size) (hcells : ∀ (i : Nat) (p : Bt.Entry), n.entries[i]? = some p → ∀ (j : Nat) (u : Value), p.cells[j]? = some u → w.cell? ⟨b, off + i * 3 + j, none⟩ = some u) :
 Calls Tryz.prog 64 #[.agg (Z02 n v), .agg p.cells] w fun e w' => e = .returned (.agg (n.fill p).cells) ∧ Below w.heap.size w w' := by
 have Hp := hid hp
 have hpd := hp.d0
 have He := hid he
 have hvl := hn.level
 have hh := hn.high
 have hlen := hn.len
 have hn5 : n.entries.length ≤ 5 := hn.len
 have hen := he.len
 unfold maxLen at hen
 have hpk := Z1G n.right
 have e1 := Z5E n.level n.entries.length hvl (by omega)
 have e4 := Z3G n.high (Bt.pack n.right) hh hpk
 have HA : Hid (n.aux = n.level + n.entries.length * 256) := hid (by simp [Bt.Node.aux, hl, hd, Bt.flag])
 have hgen : 0 ≤ Bt.Z0u p.d0 ∧ Bt.Z0u p.d0 < 16777216 := by unfold Bt.Z0u; omega
 have hkind : 0 ≤ Bt.Z0f p.d0 ∧ Bt.Z0f p.d0 < 256 := by unfold Bt.Z0f; omega
 unfold Z02 Bt.Page.cells
 rw [hl, hd]
 clear hp hn hl hd
 subst hv
 have Hc := hid hcells
 clear hcells he
 go_enter Tryz.func64, Tryz.ntmps64
 go_wp2_with fail
 go_at_call 62; refine (Z1k p.d0 hpd.1 hpd.2 _).mono ?_; rintro e w1 ⟨rfl, hb⟩; ((obtain ⟨hc1, hf1, hs1⟩ := qR hb); (try have := qN0 w w1); (try have := qN1 w w1); (try have := qN2 w w1))
 go_wp2_with fail
 refine qB (w.heap.size + 1) fun hSt => ?_
 refine qS [0, 2, 3, 4, 5, 6] ?_
 iterate 6 (refine qT ?_; simp only [Act.put, qY])
 refine Z00.done ?_
 refine qH 1 fun K hK => ?_
 go_simp
 go_at_call 99; refine (Z2h _ _ _ (by omega) (by omega) (by omega) _).mono ?_; rintro e w2 ⟨rfl, hb2⟩; ((obtain ⟨hc2, hf2, hs2⟩ := qR hb2); (try have := qN0 w w2); (try have := qN1 w w2); (try have := qN2 w w2); (try have := qN0 w1 w2); (try have := qN1 w1 w2))
 go_wp2_with fail
 refine hK.out _ _ (SteadyBut.of qL) (fun hHeld => ?_)
 clear hK K
 refine qH 7 fun K hK => ?_
 go_simp
 go_at_call 44; refine (Z2C _ _ _).mono ?_; rintro e w3 ⟨rfl, hb3⟩; ((obtain ⟨hc3, hf3, hs3⟩ := qR hb3); (try have := qN0 w w3); (try have := qN1 w w3); (try have := qN2 w w3); (try have := qN0 w1 w3); (try have := qN1 w1 w3); (try have := qN0 w2 w3); (try have := qN1 w2 w3))
 go_wp2_with fail
 refine hK.out _ _ (SteadyBut.of qL) (fun hHeld => ?_)
 clear hK K
 refine qS [8, 9, 10, 11, 12] ?_
 iterate 5 (refine qT ?_; simp only [Act.put, qY])
 refine Z00.done ?_
 refine qH 13 fun K hK => ?_
 go_simp
 refine hK.out _ _ qE (fun hHeld => ?_)
 clear hK K
 refine qD ?_ _
 go_wp2_with fail
 have B1 := (((((Z3M w (t := 25) (cs := p.cells)).kept hb).alloc _).drew).kept hb2).kept hb3
 have B2 := (((((Z2S w (t := 25) (cs := Bt.Z0l.cells)).kept hb).alloc _).drew).kept hb2).kept hb3
 simp only [Bt.Page.cells] at B1
 have hfin : w.heap.size + 1 + 1 + 1 ≤ w3.heap.size := by omega
 clear hc1 hf1 hc2 hf2 hc3 hf3 e1 e4
 exact sG14
theorem ZbC (n : Bt.Node) (p : Bt.Page) (hp : p.Ok) (hn : NodeOk n) (hl : n.leftmost = false) (hd : n.dead = false) (w : World) (hes : n.entries = []) (he : EntRow w (.slice none 0 0) n.entries) :
 Calls Tryz.prog 64 #[.agg (Z02 n (.slice none 0 0)), .agg p.cells] w fun e w' => e = .returned (.agg (n.fill p).cells) ∧ Below w.heap.size w w' := by
 have Hp := hid hp
 have hpd := hp.d0
 have He := hid he
 have hvl := hn.level
 have hh := hn.high
 have hlen := hn.len
 have hn5 : n.entries.length ≤ 5 := hn.len
 have hen := he.len
 unfold maxLen at hen
 have hpk := Z1G n.right
 have e1 : bits .or .u32 n.level 0 = n.level := by have := Z5E n.level 0 hvl (by omega); simpa using this
 have e4 := Z3G n.high (Bt.pack n.right) hh hpk
 have HA : Hid (n.aux = n.level) := hid (by simp [Bt.Node.aux, hl, hd, Bt.flag, hes])
 have hgen : 0 ≤ Bt.Z0u p.d0 ∧ Bt.Z0u p.d0 < 16777216 := by unfold Bt.Z0u; omega
 have hkind : 0 ≤ Bt.Z0f p.d0 ∧ Bt.Z0f p.d0 < 256 := by unfold Bt.Z0f; omega
 unfold Z02 Bt.Page.cells
 rw [hl, hd]
 clear hp hn hl hd
 have hz : n.entries.length = 0 := by rw [hes]; rfl
 have HZ := hid hz
 clear hz hes he
 go_enter Tryz.func64, Tryz.ntmps64
 go_wp2_with fail
 go_at_call 62; refine (Z1k p.d0 hpd.1 hpd.2 _).mono ?_; rintro e w1 ⟨rfl, hb⟩; ((obtain ⟨hc1, hf1, hs1⟩ := qR hb); (try have := qN0 w w1); (try have := qN1 w w1); (try have := qN2 w w1))
 go_wp2_with fail
 refine qB (w.heap.size + 1) fun hSt => ?_
 refine qS [0, 2, 3, 4, 5, 6] ?_
 iterate 6 (refine qT ?_; simp only [Act.put, qY])
 refine Z00.done ?_
 refine qH 1 fun K hK => ?_
 go_simp
 go_at_call 99; refine (Z2h _ _ _ (by omega) (by omega) (by omega) _).mono ?_; rintro e w2 ⟨rfl, hb2⟩; ((obtain ⟨hc2, hf2, hs2⟩ := qR hb2); (try have := qN0 w w2); (try have := qN1 w w2); (try have := qN2 w w2); (try have := qN0 w1 w2); (try have := qN1 w1 w2))
 go_wp2_with fail
 refine hK.out _ _ (SteadyBut.of qL) (fun hHeld => ?_)
 clear hK K
 refine qH 7 fun K hK => ?_
 go_simp
 go_at_call 44; refine (Z2C _ _ _).mono ?_; rintro e w3 ⟨rfl, hb3⟩; ((obtain ⟨hc3, hf3, hs3⟩ := qR hb3); (try have := qN0 w w3); (try have := qN1 w w3); (try have := qN2 w w3); (try have := qN0 w1 w3); (try have := qN1 w1 w3); (try have := qN0 w2 w3); (try have := qN1 w2 w3))
 go_wp2_with fail
 refine hK.out _ _ (SteadyBut.of qL) (fun hHeld => ?_)
 clear hK K
 refine qS [8, 9, 10, 11, 12] ?_
 iterate 5 (refine qT ?_; simp only [Act.put, qY])
 refine Z00.done ?_
 refine qH 13 fun K hK => ?_
 go_simp
 refine hK.out _ _ qE (fun hHeld => ?_)
 clear hK K
 refine qD ?_ _
 go_wp2_with fail
 refine wp_loop_rounds 1 ?_
 rw [rounds_succ]
 go_wp2_with fail
 have B1 := (((((Z3M w (t := 25) (cs := p.cells)).kept hb).alloc _).drew).kept hb2).kept hb3
 have B2 := (((((Z2S w (t := 25) (cs := Bt.Z0l.cells)).kept hb).alloc _).drew).kept hb2).kept hb3
 simp only [Bt.Page.cells] at B1
 rw [Z0x] at B2
 have BP := (B1.data7 (.int .u64 (Bt.Z1v (Bt.Z0f p.d0) (Bt.Z0u p.d0) (n.level))) (.int .u64 (bits .or .u64 n.high (IntKind.u64.wrap (IntKind.u64.wrap (Bt.pack ⟨n.right.line, n.right.gen⟩) * 4294967296)))) (.int .u64 0) (.int .u64 0) (.int .u64 0) (.int .u64 0) (.int .u64 0))
 (refine bodyPost_ret (Z2E rfl _ _ (w.heap.size + 1 + 1) _ _ _ rfl (by have B := B2; exact qK) Tryz.underlying25 rfl (by kernel_rfl)) rfl ⟨?_, ?_⟩)
 ·rw [set9, ← Z2d n p hn5, HZ.out, word_raw' n.high n.right hh hpk, ← HA.out]; rfl
 ·exact qL
theorem Z2g (n : Bt.Node) (v : Value) (p : Bt.Page) (hp : p.Ok) (hn : NodeOk n) (w : World) (he : EntRow w v n.entries) :
 Calls Tryz.prog 64 #[.agg (Z02 n v), .agg p.cells] w fun e w' => e = .returned (.agg (n.fill p).cells) ∧ Below w.heap.size w w' := by
 rcases he.form with ⟨hv, hes⟩ | ⟨b, off, cap, hv, hlt, hcells⟩
 ·subst hv
  rcases hl : n.leftmost with _ | _ <;> rcases hd : n.dead with _ | _
  ·exact ZbC n p hp hn hl hd w hes he
  ·exact ZbB n p hp hn hl hd w hes he
  ·exact ZbA n p hp hn hl hd w hes he
  ·exact Zbz n p hp hn hl hd w hes he
 ·rcases hl : n.leftmost with _ | _ <;> rcases hd : n.dead with _ | _
  ·exact Zcc n v p hp hn hl hd w he b off cap hv hlt hcells
  ·exact Zcb n v p hp hn hl hd w he b off cap hv hlt hcells
  ·exact Zca n v p hp hn hl hd w he b off cap hv hlt hcells
  ·exact Zc9 n v p hp hn hl hd w he b off cap hv hlt hcells
def Z04 (es : List Bt.Entry) : List Value := es.flatMap (fun e => e.cells.toList)
theorem Z17 (es : List Bt.Entry) : (Z04 es).length = es.length * 3 := by
 induction es with
 | nil => rfl
 | cons e es ih => simp only [Z04, List.flatMap_cons, List.length_append] at ih ⊢; rw [ih]; simp [Bt.Entry.cells]; omega
theorem Z1s (a b : List Bt.Entry) : Z04 (a ++ b) = Z04 a ++ Z04 b := by simp [Z04]
theorem Z0a (es : List Bt.Entry) (i : Nat) (e : Bt.Entry) (h : es[i]? = some e) (j : Nat) (u : Value) (hu : e.cells[j]? = some u) : (Z04 es)[i * 3 + j]? = some u := by
 induction es generalizing i with
 | nil => simp at h
 | cons x es ih =>
   have hj : j < 3 := by
    have := (Array.getElem?_eq_some_iff.1 hu).1
    simpa [Bt.Entry.cells] using this
   cases i with
   | zero =>
     simp at h
     subst h
     simp only [Z04, List.flatMap_cons, Nat.zero_mul, Nat.zero_add]
     rw [List.getElem?_append_left (by simp [Bt.Entry.cells]; omega)]
     simpa using hu
   | succ i =>
     simp only [List.getElem?_cons_succ] at h
     have := ih i h
     simp only [Z04, List.flatMap_cons]
     rw [List.getElem?_append_right (by simp [Bt.Entry.cells]; omega)]
     have e1 : (i + 1) * 3 + j - x.cells.toList.length = i * 3 + j := by simp [Bt.Entry.cells]; omega
     rw [e1]
     exact this
theorem EntRow.of_own {w : World} {base n : Nat} {v : Value} {es : List Bt.Entry} (h : w.ownsRow base 69 3 v n (Z04 es)) (hn : es.length = n) (hok : ∀ e ∈ es, e.Ok) : EntRow w v es := by
 subst hn
 rcases h.2 with ⟨rfl, h0⟩ | ⟨g, cap, cur, rfl, hb, hc, h1, h2, h3, h4⟩
 ·exact ⟨hok, by omega, .inl ⟨rfl, List.length_eq_zero_iff.1 h0⟩⟩
 ·refine ⟨hok, by omega, .inr ⟨g, 0, cap, rfl, ?_, fun i p hi j u hu => ?_⟩⟩
  ·exact (Array.getElem?_eq_some_iff.1 hc).1
  ·have hx := Z0a es i p hi j u hu
   rw [Nat.zero_add]
   exact Z0i (w := w) (g := g) ⟨h.1, .inr ⟨g, cap, cur, rfl, hb, hc, h1, h2, h3, h4⟩⟩ _ _ hx
theorem Z4e : (Tryz.prog.info? 69).map (fun i => (i.zero, i.size, i.bytes)) = some (some (.agg #[.int .u32 0, .int .i64 0, .int .i64 0]), 3, 24) := by kernel_rfl
theorem Z2U {w : World} {b : Nat} {x y z : Value} (hx : w.cell? ⟨b, 0, none⟩ = some x) (hy : w.cell? ⟨b, 1, none⟩ = some y) (hz : w.cell? ⟨b, 2, none⟩ = some z) : ∀ j v, [x, y, z][j]? = some v → w.cell? ((⟨b, 0, none⟩ : Addr).add j) = some v := by
 intro j v hv
 match j with
 | 0 => simp at hv; subst hv; exact hx
 | 1 => simp at hv; subst hv; exact hy
 | 2 => simp at hv; subst hv; exact hz
 | j + 3 => simp at hv
section
variable {w w' : World} {base n size : Nat} {e : TypeId} {v : Value} {xs : List Value}
theorem own_below (h : w.ownsRow base e size v n xs) (hb : Below w.heap.size w w') : w'.ownsRow base e size v n xs := by
 refine ⟨h.1, ?_⟩
 rcases h.2 with h1 | ⟨g, cap, cur, hv, hbase, hc, h1, h2, h3, h4⟩
 ·exact .inl h1
 ·exact .inr ⟨g, cap, cur, hv, hbase, (hb.block g (Array.getElem?_eq_some_iff.1 hc).1).trans hc, h1, h2, h3, h4⟩
theorem Z01 (h : w.ownsRow base e size v n xs) {p : Addr} (hp : p.block < base) (u : Value) : (w.setCell p u).ownsRow base e size v n xs := by
 refine ⟨h.1, ?_⟩
 rcases h.2 with h1 | ⟨g, cap, cur, hv, hbase, hc, h1, h2, h3, h4⟩
 ·exact .inl h1
 ·exact .inr ⟨g, cap, cur, hv, hbase, (heap_setCell_other w p g u (by omega)).trans hc, h1, h2, h3, h4⟩
theorem own_ne {b : Nat} (h : w.ownsRow base e size v n xs) (hb : b < base) : some b ≠ v.ownBlock := by
 rcases h.2 with ⟨rfl, _⟩ | ⟨g, cap, cur, rfl, hbase, _⟩
 ·simp [Value.ownBlock]
 ·simp [Value.ownBlock]; omega
theorem Z0k (h : w.ownsRow base e size v n xs) : ∀ k, v.ownBlock = some k → base ≤ k := by
 rcases h.2 with ⟨rfl, _⟩ | ⟨g, cap, cur, rfl, hbase, _⟩
 ·simp [Value.ownBlock]
 ·intro k hk; simp [Value.ownBlock] at hk; omega
end
def weq (a0 a1 a2 a3 a4 a5 a6 b0 b1 b2 b3 b4 b5 b6 : Int) : Bool := decide (a0 = b0 ∧ a1 = b1 ∧ a2 = b2 ∧ a3 = b3 ∧ a4 = b4 ∧ a5 = b5 ∧ a6 = b6)
theorem Zbx : (Tryz.prog.info? 22).map (fun i => (i.zero, i.size, i.bytes)) = some (some (.int .u64 0), 1, 8) := by kernel_rfl
theorem Zav (a0 a1 a2 a3 a4 a5 a6 b0 b1 b2 b3 b4 b5 b6 : Int) (w : World) :
 (binOp .neq 23 (.agg #[.int .u64 a0, .int .u64 a1, .int .u64 a2, .int .u64 a3, .int .u64 a4, .int .u64 a5, .int .u64 a6]) (.agg #[.int .u64 b0, .int .u64 b1, .int .u64 b2, .int .u64 b3, .int .u64 b4, .int .u64 b5, .int .u64 b6])).run Tryz.prog w =
  .ok (.bool (!weq a0 a1 a2 a3 a4 a5 a6 b0 b1 b2 b3 b4 b5 b6)) w := by
 obtain ⟨i, hi, _, hsz, _⟩ := info_parts Zbx
 have hc : Tryz.prog.cellsOf 22 = 1 := by kernel_rfl
 have hu : Tryz.prog.underlying 22 = some (.int .u64) := by kernel_rfl
 rw [run_neq_struct, run_equalIn_array (d := 9999) (hu := Tryz.underlying23) (hi := hi), hc]
 simp [Op.eqItems, List.range, List.range.loop, go_sem, hu, weq]
 repeat' split
 all_goals simp [*]
theorem Z9u (x0 x1 x2 x3 x4 x5 x6 x7 x8 : Value) (w : World) : (Instr.field 25 (.agg #[x0, x1, x2, x3, x4, x5, x6, x7, x8]) 2).run Tryz.prog w = .ok (.agg #[x2, x3, x4, x5, x6, x7, x8]) w := by kernel_rfl
theorem Z7J (n : Bt.Node) (p : Bt.Page) : weq (n.fill p).d0 (n.fill p).d1 (n.fill p).d2 (n.fill p).d3 (n.fill p).d4 (n.fill p).d5 (n.fill p).d6 p.d0 p.d1 p.d2 p.d3 p.d4 p.d5 p.d6 = decide (n.fill p = p) := by
 obtain ⟨l, h, d0, d1, d2, d3, d4, d5, d6⟩ := p
 simp only [weq, Bt.Node.fill, Bt.Page.mk.injEq, true_and]
 congr
end Go.Proofs.YtjmpekanlmepmaaGreatDoor
