/- Package btree: a node is read off its page. -/
import Derived.Test.YtjmpekanlmepmaaGreatDoorNN09
import Derived.Test.YtjmpekanlmepmaaGreatDoorNN12
import Derived.Test.YtjmpekanlmepmaaGreatDoorNN05
import Derived.Deep.DeepCutAuto
import Derived.Deep.CutBlock
set_option linter.all false
set_option maxRecDepth 20000
set_option maxHeartbeats 8000000
open Go.Lib (hid)
namespace Go.Proofs.YtjmpekanlmepmaaGreatDoor
open Go.RowKit
structure AnyWorld (wx : World) : Prop where
 rule : True
theorem and_u32_bit (k : Nat) (x : Int) (h0 : 0 ≤ x) (h1 : x < 4294967296) (hk : k ≤ 31) : (bits .and .u32 x ((2 ^ k : Nat) : Int) != 0) = decide (x / ((2 ^ k : Nat) : Int) % 2 = 1) := by
 obtain ⟨n, rfl⟩ := Int.eq_ofNat_of_zero_le h0
 have hle : 2 ^ k ≤ 2 ^ 31 := Nat.pow_le_pow_right (by omega) hk
 rw [u32_and_nat n (2 ^ k) (by omega) (by omega)]
 have hbit : n &&& 2 ^ k = n / 2 ^ k % 2 * 2 ^ k := nat_bit k n
 have hpos : 0 < 2 ^ k := Nat.pow_pos (by omega)
 have hcast : ((n : Int) / ((2 ^ k : Nat) : Int)) % 2 = ((n / 2 ^ k % 2 : Nat) : Int) := by rw [← Int.natCast_ediv]; omega
 rw [hbit, hcast]
 rcases Nat.mod_two_eq_zero_or_one (n / 2 ^ k) with h | h
 ·simp [h]
 ·rw [h, Nat.one_mul]
  have h2 : ((2 ^ k : Nat) : Int) ≠ 0 := by omega
  simp only [bne_iff_ne, ne_eq, h2, not_false_eq_true, decide_true, Int.natCast_one, bne, Bool.not_eq_true', beq_eq_false_iff_ne]
theorem Page.node_bounds (p : Bt.Page) (hp : p.Ok) : 0 ≤ Bt.tagAux p.d0 ∧ Bt.tagAux p.d0 < 4294967296 := by
 have := hp.d0
 unfold Bt.tagAux
 omega
def bareNode (p : Bt.Page) : Bt.Node := { p.node with entries := [] }
theorem Blk.all7 {w : World} {b : Nat} {t : TypeId} {x0 x1 x2 x3 x4 x5 x6 : Value} (h : Blk w b t #[x0, x1, x2, x3, x4, x5, x6]) (v0 v1 v2 v3 v4 v5 v6 : Value) : Blk (((((((w.setCell ⟨b, 0, none⟩ v0).setCell ⟨b, 1, none⟩ v1).setCell ⟨b, 2, none⟩ v2).setCell ⟨b, 3, none⟩ v3).setCell ⟨b, 4, none⟩ v4).setCell ⟨b, 5, none⟩ v5).setCell ⟨b, 6, none⟩ v6) b t #[v0, v1, v2, v3, v4, v5, v6] := Blk.cast (((((((h.put 0 v0).put 1 v1).put 2 v2).put 3 v3).put 4 v4).put 5 v5).put 6 v6) (by kernel_rfl)
theorem bare_cells (p : Bt.Page) (hp : p.Ok) :
 (#[.int .i64 (IntKind.i64.wrap (Bt.tagAux p.d0 % 256)), .bool (bits .and .u32 (Bt.tagAux p.d0) 65536 != 0), .bool (bits .and .u32 (Bt.tagAux p.d0) 131072 != 0), .int .u32 (p.d1 % 4294967296),
  .int .i64 (p.d1 / 4294967296 % 256), .int .i64 (p.d1 / 4294967296 / 256), .slice none 0 0] : Array Value) = nodeCells (bareNode p) (.slice none 0 0) := by
 have ha := Page.node_bounds p hp
 have e3 : (bits .and .u32 (Bt.tagAux p.d0) 65536 != 0) = decide (Bt.tagAux p.d0 / 65536 % 2 = 1) := and_u32_bit 16 (Bt.tagAux p.d0) ha.1 ha.2 (by omega)
 have e4 : (bits .and .u32 (Bt.tagAux p.d0) 131072 != 0) = decide (Bt.tagAux p.d0 / 131072 % 2 = 1) := and_u32_bit 17 (Bt.tagAux p.d0) ha.1 ha.2 (by omega)
 have e1 : IntKind.i64.wrap (Bt.tagAux p.d0 % 256) = Bt.tagAux p.d0 % 256 := IntWalk.i64_in _ (by omega)
 rw [e1, e3, e4]
 rfl
theorem slice_words (b c : Nat) (hc : c ≤ 5) (w : World) : (Instr.sliceAt 23 (.pointer (some ⟨b, 2, none⟩)) (some (.int .i64 2)) (some (.int .i64 (2 + c))) none).run Tryz.prog w = .ok (.slice (some ⟨b, 4, none⟩) c 5) w := by
 have h : c = 0 ∨ c = 1 ∨ c = 2 ∨ c = 3 ∨ c = 4 ∨ c = 5 := by omega
 rcases h with rfl | rfl | rfl | rfl | rfl | rfl
 all_goals (show _ = _; kernel_rfl)
def wordAt' (p : Bt.Page) (k : Nat) : Int := p.words.getD k 0
theorem page_word (p : Bt.Page) (k : Nat) (h : k < 5) : p.cells[4 + k]? = some (.int .u64 (wordAt' p k)) := by
 have hk : k = 0 ∨ k = 1 ∨ k = 2 ∨ k = 3 ∨ k = 4 := by omega
 rcases hk with rfl | rfl | rfl | rfl | rfl <;> rfl
theorem word_bound (p : Bt.Page) (hp : p.Ok) (k : Nat) : 0 ≤ wordAt' p k ∧ wordAt' p k < 18446744073709551616 := by
 have h2 := hp.d2; have h3 := hp.d3; have h4 := hp.d4; have h5 := hp.d5; have h6 := hp.d6
 have hk : k = 0 ∨ k = 1 ∨ k = 2 ∨ k = 3 ∨ k = 4 ∨ 5 ≤ k := by omega
 rcases hk with rfl | rfl | rfl | rfl | rfl | hk
 ·exact h2
 ·exact h3
 ·exact h4
 ·exact h5
 ·exact h6
 ·have : wordAt' p k = 0 := by unfold wordAt'; rw [List.getD_eq_getElem?_getD, List.getElem?_eq_none (by simp [Bt.Page.words]; omega)]; rfl
  omega
def entriesUpto (p : Bt.Page) (k : Nat) : List Bt.Entry := (p.words.take k).map Bt.entryOf
theorem entriesUpto_succ (p : Bt.Page) (k : Nat) (h : k < 5) : entriesUpto p (k + 1) = entriesUpto p k ++ [Bt.entryOf (wordAt' p k)] := by
 have hk : k = 0 ∨ k = 1 ∨ k = 2 ∨ k = 3 ∨ k = 4 := by omega
 rcases hk with rfl | rfl | rfl | rfl | rfl <;> rfl
theorem entriesUpto_length (p : Bt.Page) (k : Nat) (h : k ≤ 5) : (entriesUpto p k).length = k := by simp [entriesUpto, Bt.Page.words]; omega
theorem entry_cells (p : Bt.Page) (k : Nat) : ([.int .u32 (wordAt' p k / 4294967296), .int .i64 (wordAt' p k % 256), .int .i64 (wordAt' p k % 4294967296 / 256)] : List Value) = entCells [Bt.entryOf (wordAt' p k)] := by
 have e : wordAt' p k % 256 = wordAt' p k % 4294967296 % 256 := by omega
 rw [e]
 rfl
structure ReadAt (p : Bt.Page) (w : World) (g k : Nat) (v : Value) (wr : World) : Prop where
 node : Blk wr g 73 (nodeCells (bareNode p) v)
 own : wr.ownsRow (g + 1) 69 3 v k (entCells (entriesUpto p k))
 below : Below w.heap.size w wr
 page : Blk wr w.heap.size 25 p.cells
 out : Blk wr (w.heap.size + 1) 73 (nodeCells Bt.zeroNode (.slice none 0 0))
 gl : w.heap.size + 1 < g
def ReadRel (p : Bt.Page) (w : World) (g c : Nat) (i : Value) (wr : World) : Prop := ∃ k v, k ≤ c ∧ i = .int .i64 (k : Int) ∧ ReadAt p w g k v wr
def ReadNext (p : Bt.Page) (w : World) (g k : Nat) (wr : World) : Prop := ∃ v, ReadAt p w g k v wr
def BareAt (p : Bt.Page) (w1 : World) (s6 : Value) (wx : World) : Prop :=
 ∃ g : Nat, s6 = .pointer (some ⟨g, 0, none⟩) ∧ w1.heap.size < g ∧ Blk wx g 73 (nodeCells (bareNode p) (.slice none 0 0)) ∧ Below w1.heap.size w1 wx
theorem own_one {w : World} {base n size : Nat} {e : TypeId} {v : Value} {xs : List Value} (h : w.ownsRow base e size v n xs) : v.oneCell' = true := by
 rcases h.2 with ⟨rfl, _⟩ | ⟨g, cap, cur, rfl, _⟩ <;> rfl
theorem qSt {w : World} {base n size : Nat} {e : TypeId} {v : Value} {xs : List Value} (h : w.ownsRow base e size v n xs) : ∀ (a : Addr) (m : Mode) (wx : World), (store a v m).run Tryz.prog wx = stored Tryz.prog wx a v m := fun a m wx => run_store Tryz.prog wx a v m (own_one h)
theorem own_put {w : World} {base n size b i : Nat} {e : TypeId} {v : Value} {xs : List Value} (h : w.ownsRow base e size v n xs) (hb : some b ≠ v.ownBlock) (u : Value) : (w.setCell ⟨b, i, none⟩ u).ownsRow base e size v n xs := by
 refine ⟨h.1, ?_⟩
 rcases h.2 with h1 | ⟨g, cap, cur, hv, hbase, hc, h1, h2, h3, h4⟩
 ·exact .inl h1
 ·subst hv
  simp [Value.ownBlock] at hb
  exact .inr ⟨g, cap, cur, rfl, hbase, (heap_setCell_other w ⟨b, i, none⟩ g u (fun e => hb e.symm)).trans hc, h1, h2, h3, h4⟩
theorem own_put7 {w : World} {base n size b : Nat} {e : TypeId} {v : Value} {xs : List Value} (h : w.ownsRow base e size v n xs) (hb : some b ≠ v.ownBlock) (u0 u1 u2 u3 u4 u5 u6 : Value) :
 (((((((w.setCell ⟨b, 0, none⟩ u0).setCell ⟨b, 1, none⟩ u1).setCell ⟨b, 2, none⟩ u2).setCell ⟨b, 3, none⟩ u3).setCell ⟨b, 4, none⟩ u4).setCell ⟨b, 5, none⟩ u5).setCell ⟨b, 6, none⟩ u6).ownsRow base e size v n xs :=
 own_put (own_put (own_put (own_put (own_put (own_put (own_put h hb u0) hb u1) hb u2) hb u3) hb u4) hb u5) hb u6
def ReadPost (p : Bt.Page) (w : World) (e : Ending) (w' : World) : Prop :=
 (Bt.readNode p = none ∧ e = .returned (.tuple #[.agg (nodeCells Bt.zeroNode (.slice none 0 0)), .int .i64 14]) ∧ Below w.heap.size w w') ∨
 ∃ v, Bt.readNode p = some p.node ∧ e = .returned (.tuple #[.agg (nodeCells p.node v), .int .i64 0]) ∧ w'.ownsRow w.heap.size 69 3 v p.node.entries.length (entCells p.node.entries) ∧ Below w.heap.size w w'
theorem entry_ok (p : Bt.Page) (hp : p.Ok) : ∀ e ∈ p.node.entries, e.Ok := by
 intro e he
 simp only [Bt.Page.node, List.mem_map] at he
 obtain ⟨x, hx, rfl⟩ := he
 have hx2 := List.mem_of_mem_take hx
 have h2 := hp.d2; have h3 := hp.d3; have h4 := hp.d4; have h5 := hp.d5; have h6 := hp.d6
 simp only [Bt.Page.words, List.mem_cons, List.not_mem_nil, or_false] at hx2
 have hb : 0 ≤ x ∧ x < 18446744073709551616 := by rcases hx2 with rfl | rfl | rfl | rfl | rfl <;> assumption
 unfold Bt.Entry.Ok Bt.entryOf
 simp only
 omega
theorem node_ok (p : Bt.Page) (hp : p.Ok) (c : Nat) (hc : p.count = (c : Int)) (h5 : c ≤ 5) : NodeOk p.node := by
 have hb := Page.node_bounds p hp
 have h1 := hp.d1
 refine ⟨?_, ?_, ?_⟩
 ·simp only [Bt.Page.node]; omega
 ·simp only [Bt.Page.node]; omega
 ·simp only [Bt.Page.node, List.length_map, List.length_take]; rw [hc]; omega
theorem node_entries (p : Bt.Page) (c : Nat) (hc : p.count = (c : Int)) : p.node.entries = entriesUpto p c := by
 simp only [Bt.Page.node, entriesUpto]; rw [hc]; rfl
theorem ReadNode_walk (p : Bt.Page) (hp : p.Ok) (w : World) (hg : NoneAt w) (hk : Bt.tagKind p.d0 = 4) (hc : p.count ≤ 5) :
 Calls Tryz.prog 28 #[.agg p.cells] w (ReadPost p w) := by
 have Hp := hid hp
 have Hg := hid hg
 have hpd := hp.d0
 have hpd1 := hp.d1
 have ha := Page.node_bounds p hp
 have hc0 : 0 ≤ Bt.tagAux p.d0 / 256 % 256 := by omega
 have b1 : (Bt.tagKind p.d0 != 4) = false := by simp [hk]
 have b2 : decide (5 < Bt.tagAux p.d0 / 256 % 256) = false := by simpa [Bt.Page.count] using hc
 have e1 := and_u32_8 (Bt.tagAux p.d0) ha.1 ha.2
 have e2 := and_u32_8 (Bt.tagAux p.d0 / 256) (by omega) (by omega)
 have e3 := and_u32_bit 16 (Bt.tagAux p.d0) ha.1 ha.2 (by omega)
 have e4 := and_u32_bit 17 (Bt.tagAux p.d0) ha.1 ha.2 (by omega)
 have e5 : IntKind.u32.wrap p.d1 = p.d1 % 4294967296 := by rw [IntKind.wrap_u32]
 have e6 : IntKind.u32.wrap (p.d1 / 4294967296) = p.d1 / 4294967296 := by rw [IntKind.wrap_u32]; omega
 obtain ⟨c, hcn⟩ : ∃ c : Nat, Bt.tagAux p.d0 / 256 % 256 = (c : Int) := ⟨_, (Int.toNat_of_nonneg hc0).symm⟩
 have hc5 : c ≤ 5 := by simp only [Bt.Page.count] at hc; omega
 have hcc : p.count = (c : Int) := hcn
 have HC := hid hcc
 rw [hcn] at e2 b2
 have hs1 : IntKind.i64.wrap (2 + (c : Int)) = 2 + c := IntWalk.i64_in _ (by omega)
 have hs2 : (0 : Int) ≤ 2 + c := by omega
 have hs3 : 2 + (c : Int) ≤ 7 := by omega
 have hs4 : (2 + (c : Int)).toNat = 2 + c := by omega
 have HK4 := hid hk
 clear hk hc hp hg hcn hcc hc0
 obtain ⟨i0, hi, hz0, hz1, hz2⟩ := info_parts infoEntry
 unfold Bt.Page.cells
 go_enter Tryz.func28, Tryz.ntmps28
 go_wp2_with fail
 go_at_call 62; refine (UnpackTag_any p.d0 hpd.1 hpd.2 _).mono ?_; rintro e w1 ⟨rfl, hb⟩; ((obtain ⟨hc1, hf1, hs1⟩ := qR hb); (try have := qN0 w w1); (try have := qN1 w w1))
 go_wp2_with fail
 go_cut [6] (BareAt p w1)
 case first =>
  refine qA fun hSt => ?_
  refine qS [0, 1, 2, 3, 4, 5, 6, 7, 8, 9, 10, 11, 12, 13, 14, 15, 16, 17, 18, 19, 20] ?_
  iterate 21 (refine qT ?_; simp only [Act.put, qY])
  refine TakeSeq.done ?_
  refine wpAnyH_ready (rs := [21, 23]) (by kernel_rfl) (by simp) ?_
  refine AllReadyH.cons rfl (fun K hK => ?_) (AllReadyH.cons rfl (fun K hK => ?_) (AllReadyH.nil))
  ·skip
   rw [if_pos (by rfl)]
   go_simp
   go_at_call 40; refine (Unpack_any _ (by omega) (by omega) _).mono ?_; rintro e w2 ⟨rfl, hb2⟩; ((obtain ⟨hc2, hf2, hs2⟩ := qR hb2); (try have := qN0 w w2); (try have := qN1 w w2); (try have := qN0 w1 w2))
   go_wp2_with fail
   refine hK.out _ _ (SteadyAll.of qL) (fun hHeld => ?_)
   clear hK K
   refine qS [22] ?_
   refine qT ?_; simp only [Act.put, qY]
   refine TakeSeq.done ?_
   refine qH 23 fun K hK => ?_
   go_simp
   refine hK.out _ _ (SteadyAll.of qL) (fun hHeld => ?_)
   clear hK K
   refine qH 24 fun K hK => ?_
   go_simp
   refine hK.out _ _ (SteadyAll.of qL) (fun hHeld => ?_)
   clear hK K
   refine qD ?_ _
   go_wp2_with fail
   go_meet
   exact ⟨_, rfl, by omega, (Blk.made _ _ _).cast (bare_cells p Hp.out), qL⟩
  ·skip
   rw [if_pos (by rfl)]
   go_simp
   refine hK.out _ _ (SteadyAll.of qL) (fun hHeld => ?_)
   clear hK K
   refine qH 21 fun K hK => ?_
   go_simp
   go_at_call 40; refine (Unpack_any _ (by omega) (by omega) _).mono ?_; rintro e w2 ⟨rfl, hb2⟩; ((obtain ⟨hc2, hf2, hs2⟩ := qR hb2); (try have := qN0 w w2); (try have := qN1 w w2); (try have := qN0 w1 w2))
   go_wp2_with fail
   refine hK.out _ _ (SteadyAll.of qL) (fun hHeld => ?_)
   clear hK K
   refine qS [22] ?_
   refine qT ?_; simp only [Act.put, qY]
   refine TakeSeq.done ?_
   refine qH 24 fun K hK => ?_
   go_simp
   refine hK.out _ _ (SteadyAll.of qL) (fun hHeld => ?_)
   clear hK K
   refine qD ?_ _
   go_wp2_with fail
   have BN := (Blk.made' (w := (w1.alloc (.cells #[.int .i64 (Bt.tagKind p.d0), .int .i64 (Bt.tagGen p.d0), .int .u32 (Bt.tagAux p.d0)] 122)).drew) (n := w1.heap.size + 1) (t := 73) (cs := #[.int .i64 0, .bool false, .bool false, .int .u32 0, .int .i64 0, .int .i64 0, .slice none 0 0]) (by simp)).kept hb2
   go_meet
   exact ⟨_, rfl, by omega, (BN.all7 _ _ _ _ _ _ _).cast (bare_cells p Hp.out), qL⟩
 case rest =>
  obtain ⟨g, rfl, hgl, BN, hbc⟩ := hcut
  have hR : ReadAt p w g 0 (.slice none 0 0) wc := by
   refine ⟨BN, World.ownsRow_nil _ _ _ _, qL, ?_, ?_, by omega⟩
   ·exact (((made12 w).kept hb).below hbc (by omega))
   ·exact (((made22 w).kept hb).below hbc (by omega))
  have HR0 := hid hR
  clear hR BN
  have hsl := slice_words w.heap.size c hc5
  go_wp2_with fail
  go_loopw [54] (fun i wr => ReadRel p w g c i wr) (fun i _ => c - (intOf i).toNat)
  case atStart => exact ⟨0, _, Nat.zero_le _, rfl, HR0.out⟩
  case round =>
   obtain ⟨k, v, hkc, rfl, HA0⟩ := hrel
   have HA := hid HA0
   clear HA0
   by_cases hlt : k < c
   ·have hglt : g < wr.heap.size := HA.out.node.lt
    have hpw := HA.out.page.cell (4 + k)
    rw [page_word p k (by omega)] at hpw
    have hwb := word_bound p Hp.out k
    have e7 : IntKind.u32.wrap (wordAt' p k) = wordAt' p k % 4294967296 := by rw [IntKind.wrap_u32]
    have e8 : IntKind.u32.wrap (wordAt' p k / 4294967296) = wordAt' p k / 4294967296 := by rw [IntKind.wrap_u32]; omega
    have hn6 := HA.out.node.cell 6
    have hn6' : wr.cell? ⟨g, 6, none⟩ = some v := hn6
    clear hn6
    go_upto_block 1 with (fail)
    go_cut [] (ReadNext p w g (k + 1))
    case first =>
     go_wp2_with fail
     refine wp_region_held_drew (S := AnyWorld) (by kernel_rfl) ⟨trivial⟩ ?_
     intro hSt
     refine qS [0, 2, 3, 4, 5, 6] ?_
     iterate 6 (refine qT ?_; simp only [Act.put, qY])
     refine TakeSeq.done ?_
     refine wpAnyH_ready (rs := [1, 7]) (by kernel_rfl) (by simp) ?_
     refine AllReadyH.cons rfl (fun K hK => ?_) (AllReadyH.cons rfl (fun K hK => ?_) (AllReadyH.nil))
     ·skip
      rw [if_pos (by rfl)]
      go_simp
      refine hK.out _ _ (⟨trivial⟩) (fun hHeld => ?_)
      clear hK K
      refine qH 7 fun K hK => ?_
      go_simp
      go_at_call 40; refine (Unpack_any _ (by omega) (by omega) _).mono ?_; rintro e w2 ⟨rfl, hb2⟩; ((obtain ⟨hc2, hf2, hs2⟩ := qR hb2); (try have := qN0 w w2); (try have := qN1 w w2); (try have := qN0 wr w2)); have hglt2 : g < w2.heap.size := by have := HA.out.node.lt; omega
      go_wp2_with fail
      refine hK.out _ _ (⟨trivial⟩) (fun hHeld => ?_)
      clear hK K
      refine qS [8] ?_
      refine qT ?_; simp only [Act.put, qY]
      refine TakeSeq.done ?_
      refine qH 9 fun K hK => ?_
      go_simp
      refine hK.out _ _ (⟨trivial⟩) (fun hHeld => ?_)
      clear hK K
      refine qH 10 fun K hK => ?_
      have hownW := own_below HA.out.own (w' := w2.alloc (.cells #[.int .u32 (wordAt' p k / 4294967296), .int .i64 (wordAt' p k % 256), .int .i64 (wordAt' p k % 4294967296 / 256)] 69)) qL
      refine wp_append_mine (.tmp 59) (.tmp 67) 61 rfl (g + 1) 69 i0 _ 3 24 Tryz.underlying61 hi hz0 hz1 hz2 rfl (by decide) v k (entCells (entriesUpto p k)) rfl hownW ⟨w2.heap.size, 0, none⟩ 1 1
       [.int .u32 (wordAt' p k / 4294967296), .int .i64 (wordAt' p k % 256), .int .i64 (wordAt' p k % 4294967296 / 256)] rfl rfl (three_news (by simp) (by simp) (by simp)) (by intro u hu; simp at hu; rcases hu with rfl | rfl | rfl <;> rfl) (by omega) (by unfold maxLen; omega) (by omega) (by have h1 := HA.out.node.lt; simp; omega) ?_
      intro g3 cap3 w3 hown3 hg3
      have HB3 := hid (((HA.out.node.drew.kept hb2).alloc _).grown hg3 (own_ne HA.out.own (by omega)))
      have HP3 := hid (((HA.out.page.drew.kept hb2).alloc _).grown hg3 (own_ne HA.out.own (by have := HA.out.gl; omega)))
      have HO3 := hid (((HA.out.out.drew.kept hb2).alloc _).grown hg3 (own_ne HA.out.own (by have := HA.out.gl; omega)))
      have HL3 := hid (below_grown (w := w) (by have hbw := HA.out.below; exact qL) hg3 (fun k hk => by have := own_row_ge HA.out.own k hk; have := HA.out.gl; omega))
      have HW3 := hid hown3
      have k6 := HB3.out.cell 6
      have k6' : w3.cell? ⟨g, 6, none⟩ = some v := k6
      have f6 := HB3.out.free 6
      clear hg3 hown3 k6
      refine hK.out _ _ ⟨trivial⟩ (fun hHeld => ?_)
      clear hK K
      simp only [Act.put, qY]
      refine qS [11] ?_
      refine qT ?_; simp only [Act.put, qY]
      refine TakeSeq.done ?_
      refine qH 12 fun K hK => ?_
      go_simp
      refine hK.out _ _ (⟨trivial⟩) (fun hHeld => ?_)
      clear hK K
      refine qD ?_ _
      go_wp2_with fail
      go_meet
      exact ⟨_, (HB3.out.put 6 _).cast rfl, by rw [entriesUpto_succ p k (by omega), entCells_append]; exact own_aside (by rw [← entry_cells p k]; exact HW3.out) (by show g < g + 1; omega) _, by have h1 := HL3.out; have h2 := HA.out.gl; exact h1.setCell (by show w.heap.size ≤ g; omega) _, HP3.out.aside (by show w.heap.size ≠ g; have h2 := HA.out.gl; omega) _, HO3.out.aside (by show w.heap.size + 1 ≠ g; have h2 := HA.out.gl; omega) _, HA.out.gl⟩
     ·skip
      rw [if_pos (by rfl)]
      go_simp
      go_at_call 40; refine (Unpack_any _ (by omega) (by omega) _).mono ?_; rintro e w2 ⟨rfl, hb2⟩; ((obtain ⟨hc2, hf2, hs2⟩ := qR hb2); (try have := qN0 w w2); (try have := qN1 w w2); (try have := qN0 wr w2)); have hglt2 : g < w2.heap.size := by have := HA.out.node.lt; omega
      go_wp2_with fail
      refine hK.out _ _ (⟨trivial⟩) (fun hHeld => ?_)
      clear hK K
      refine qS [8] ?_
      refine qT ?_; simp only [Act.put, qY]
      refine TakeSeq.done ?_
      refine wpAnyH_ready (rs := [1, 9]) (by kernel_rfl) (by simp) ?_
      refine AllReadyH.cons rfl (fun K hK => ?_) (AllReadyH.cons rfl (fun K hK => ?_) (AllReadyH.nil))
      ·skip
       rw [if_pos (by rfl)]
       go_simp
       refine hK.out _ _ (⟨trivial⟩) (fun hHeld => ?_)
       clear hK K
       refine qH 9 fun K hK => ?_
       go_simp
       refine hK.out _ _ (⟨trivial⟩) (fun hHeld => ?_)
       clear hK K
       refine qH 10 fun K hK => ?_
       have hownW := own_below HA.out.own (w' := w2.alloc (.cells #[.int .u32 (wordAt' p k / 4294967296), .int .i64 (wordAt' p k % 256), .int .i64 (wordAt' p k % 4294967296 / 256)] 69)) qL
       refine wp_append_mine (.tmp 59) (.tmp 67) 61 rfl (g + 1) 69 i0 _ 3 24 Tryz.underlying61 hi hz0 hz1 hz2 rfl (by decide) v k (entCells (entriesUpto p k)) rfl hownW ⟨w2.heap.size, 0, none⟩ 1 1
        [.int .u32 (wordAt' p k / 4294967296), .int .i64 (wordAt' p k % 256), .int .i64 (wordAt' p k % 4294967296 / 256)] rfl rfl (three_news (by simp) (by simp) (by simp)) (by intro u hu; simp at hu; rcases hu with rfl | rfl | rfl <;> rfl) (by omega) (by unfold maxLen; omega) (by omega) (by have h1 := HA.out.node.lt; simp; omega) ?_
       intro g3 cap3 w3 hown3 hg3
       have HB3 := hid (((HA.out.node.drew.kept hb2).alloc _).grown hg3 (own_ne HA.out.own (by omega)))
       have HP3 := hid (((HA.out.page.drew.kept hb2).alloc _).grown hg3 (own_ne HA.out.own (by have := HA.out.gl; omega)))
       have HO3 := hid (((HA.out.out.drew.kept hb2).alloc _).grown hg3 (own_ne HA.out.own (by have := HA.out.gl; omega)))
       have HL3 := hid (below_grown (w := w) (by have hbw := HA.out.below; exact qL) hg3 (fun k hk => by have := own_row_ge HA.out.own k hk; have := HA.out.gl; omega))
       have HW3 := hid hown3
       have k6 := HB3.out.cell 6
       have k6' : w3.cell? ⟨g, 6, none⟩ = some v := k6
       have f6 := HB3.out.free 6
       clear hg3 hown3 k6
       refine hK.out _ _ ⟨trivial⟩ (fun hHeld => ?_)
       clear hK K
       simp only [Act.put, qY]
       refine qS [11] ?_
       refine qT ?_; simp only [Act.put, qY]
       refine TakeSeq.done ?_
       refine qH 12 fun K hK => ?_
       go_simp
       refine hK.out _ _ (⟨trivial⟩) (fun hHeld => ?_)
       clear hK K
       refine qD ?_ _
       go_wp2_with fail
       go_meet
       exact ⟨_, (HB3.out.put 6 _).cast rfl, by rw [entriesUpto_succ p k (by omega), entCells_append]; exact own_aside (by rw [← entry_cells p k]; exact HW3.out) (by show g < g + 1; omega) _, by have h1 := HL3.out; have h2 := HA.out.gl; exact h1.setCell (by show w.heap.size ≤ g; omega) _, HP3.out.aside (by show w.heap.size ≠ g; have h2 := HA.out.gl; omega) _, HO3.out.aside (by show w.heap.size + 1 ≠ g; have h2 := HA.out.gl; omega) _, HA.out.gl⟩
      ·skip
       rw [if_pos (by rfl)]
       go_simp
       refine hK.out _ _ (⟨trivial⟩) (fun hHeld => ?_)
       clear hK K
       refine qH 1 fun K hK => ?_
       go_simp
       refine hK.out _ _ (⟨trivial⟩) (fun hHeld => ?_)
       clear hK K
       refine qH 10 fun K hK => ?_
       have hownW := own_below HA.out.own (w' := w2.alloc (.cells #[.int .u32 (wordAt' p k / 4294967296), .int .i64 (wordAt' p k % 256), .int .i64 (wordAt' p k % 4294967296 / 256)] 69)) qL
       refine wp_append_mine (.tmp 59) (.tmp 67) 61 rfl (g + 1) 69 i0 _ 3 24 Tryz.underlying61 hi hz0 hz1 hz2 rfl (by decide) v k (entCells (entriesUpto p k)) rfl hownW ⟨w2.heap.size, 0, none⟩ 1 1
        [.int .u32 (wordAt' p k / 4294967296), .int .i64 (wordAt' p k % 256), .int .i64 (wordAt' p k % 4294967296 / 256)] rfl rfl (three_news (by simp) (by simp) (by simp)) (by intro u hu; simp at hu; rcases hu with rfl | rfl | rfl <;> rfl) (by omega) (by unfold maxLen; omega) (by omega) (by have h1 := HA.out.node.lt; simp; omega) ?_
       intro g3 cap3 w3 hown3 hg3
       have HB3 := hid (((HA.out.node.drew.kept hb2).alloc _).grown hg3 (own_ne HA.out.own (by omega)))
       have HP3 := hid (((HA.out.page.drew.kept hb2).alloc _).grown hg3 (own_ne HA.out.own (by have := HA.out.gl; omega)))
       have HO3 := hid (((HA.out.out.drew.kept hb2).alloc _).grown hg3 (own_ne HA.out.own (by have := HA.out.gl; omega)))
       have HL3 := hid (below_grown (w := w) (by have hbw := HA.out.below; exact qL) hg3 (fun k hk => by have := own_row_ge HA.out.own k hk; have := HA.out.gl; omega))
       have HW3 := hid hown3
       have k6 := HB3.out.cell 6
       have k6' : w3.cell? ⟨g, 6, none⟩ = some v := k6
       have f6 := HB3.out.free 6
       clear hg3 hown3 k6
       refine hK.out _ _ ⟨trivial⟩ (fun hHeld => ?_)
       clear hK K
       simp only [Act.put, qY]
       refine qS [11] ?_
       refine qT ?_; simp only [Act.put, qY]
       refine TakeSeq.done ?_
       refine qH 12 fun K hK => ?_
       go_simp
       refine hK.out _ _ (⟨trivial⟩) (fun hHeld => ?_)
       clear hK K
       refine qD ?_ _
       go_wp2_with fail
       go_meet
       exact ⟨_, (HB3.out.put 6 _).cast rfl, by rw [entriesUpto_succ p k (by omega), entCells_append]; exact own_aside (by rw [← entry_cells p k]; exact HW3.out) (by show g < g + 1; omega) _, by have h1 := HL3.out; have h2 := HA.out.gl; exact h1.setCell (by show w.heap.size ≤ g; omega) _, HP3.out.aside (by show w.heap.size ≠ g; have h2 := HA.out.gl; omega) _, HO3.out.aside (by show w.heap.size + 1 ≠ g; have h2 := HA.out.gl; omega) _, HA.out.gl⟩
    case rest =>
     obtain ⟨v', HA'⟩ := hcut
     have HA2 := hid HA'
     clear HA'
     go_wp2_with fail
     go_roundw
     case rel => exact ⟨k + 1, v', by omega, by go_num, HA2.out⟩
     case measure => simp [intOf]; omega
   ·have hkc2 : k = c := by omega
    subst hkc2
    have hne := node_entries p k HC.out
    have HN := hid hne
    have hown0 := HA.out.own
    rw [← hne] at hown0
    have hlen0 : p.node.entries.length = k := by rw [hne]; exact entriesUpto_length p k hc5
    have HLN := hid hlen0
    have HE := hid (EntRow.of_own hown0 hlen0 (entry_ok p Hp.out))
    have HNO := hid (node_ok p Hp.out k HC.out hc5)
    have HG1 := hid (Hg.out.below HA.out.below)
    have HOWN : Hid (wr.ownsRow w.heap.size 69 3 v k (entCells p.node.entries)) := hid ⟨hown0.1, by
     rcases hown0.2 with h1 | ⟨g', cap, cur, hv, hbase, hr⟩
     ·exact .inl h1
     ·exact .inr ⟨g', cap, cur, hv, by have := HA.out.gl; omega, hr⟩⟩
    clear hne hown0 hlen0
    have hglt : g < wr.heap.size := HA.out.node.lt
    have hgl := HA.out.gl
    have kn : ∀ i, wr.cell? ⟨g, i, none⟩ = (nodeCells p.node v)[i]? := HA.out.node.cell
    have kp := HA.out.page.cell
    have ko := HA.out.out.cell
    have fo := HA.out.out.free
    simp only [Bt.Page.cells] at kp
    unfold nodeCells at kn ko
    have zr0 : w.heap.size < wr.heap.size := by omega
    have zr1 : w.heap.size + 1 < wr.heap.size := by omega
    have hsv := qSt HA.out.own
    have nw := neq_words
    have fd := field_data
    rcases hv : p.node.valid with _ | _
    ·have HV := hid hv
     have HRN : Hid (Bt.readNode p = none) := hid (by simp only [Bt.readNode]; rw [hv]; simp)
     clear hv
     go_wp2_with fail
     refine qA fun hSt => ?_
     refine qS [0] ?_
     refine qT ?_; simp only [Act.put, qY]
     refine TakeSeq.done ?_
     refine qH 1 fun K hK => ?_
     go_simp
     go_at_call 63; refine (valid_any p.node v _ ?hpg ?hng).mono ?_; (case hpg => exact HE.out.below qL); (case hng => exact (HG1.out.below qL)); rintro e w2 ⟨rfl, hb2⟩; rw [HV.out]; ((obtain ⟨hc2, hf2, hs2⟩ := qR hb2); (try have := qN0 w w2); (try have := qN1 w w2); (try have := qN0 wr w2)); have hglt2 : g < w2.heap.size := by omega
     go_wp2_with fail
     refine hK.out _ _ (SteadyAll.of qL) (fun hHeld => ?_)
     clear hK K
     refine qS [2, 3, 4, 5, 6, 7, 8, 9, 10, 11] ?_
     iterate 10 (refine qT ?_; simp only [Act.put, qY])
     refine TakeSeq.done ?_
     refine qD ?_ _
     go_wp2_with fail
     have BO2 := HA.out.out.drew.kept hb2
     simp only [nodeCells, Bt.zeroNode, Bt.nilP] at BO2
     refine bodyPost_ret (results_bt rfl _ _ (w.heap.size + 1) _ _ _ rfl (by have B := BO2; exact qK) Tryz.underlying73 rfl (by kernel_rfl)) rfl ?_
     exact .inl ⟨HRN.out, by rw [set7]; rfl, by have hbw := HA.out.below; exact qL⟩
    ·have HV := hid hv
     by_cases hf : p.node.fill p = p
     ·have HRN : Hid (Bt.readNode p = some p.node) := hid (by simp only [Bt.readNode]; rw [if_neg (by simp; exact ⟨HK4.out, by rw [HC.out]; omega⟩), if_pos ⟨hv, hf⟩])
      have hw : weq (p.node.fill p).d0 (p.node.fill p).d1 (p.node.fill p).d2 (p.node.fill p).d3 (p.node.fill p).d4 (p.node.fill p).d5 (p.node.fill p).d6 p.d0 p.d1 p.d2 p.d3 p.d4 p.d5 p.d6 = true := by rw [fill_same]; simp [hf]
      have HFC : Hid ((p.node.fill p).cells = #[.int .i64 (p.node.fill p).line, .int .u64 (p.node.fill p).head, .int .u64 (p.node.fill p).d0, .int .u64 (p.node.fill p).d1, .int .u64 (p.node.fill p).d2, .int .u64 (p.node.fill p).d3, .int .u64 (p.node.fill p).d4, .int .u64 (p.node.fill p).d5, .int .u64 (p.node.fill p).d6]) := hid rfl
      clear hv hf
      go_wp2_with fail
      refine qA fun hSt => ?_
      refine qS [0] ?_
      refine qT ?_; simp only [Act.put, qY]
      refine TakeSeq.done ?_
      refine qH 1 fun K hK => ?_
      go_simp
      go_at_call 63; refine (valid_any p.node v _ ?hpg ?hng).mono ?_; (case hpg => exact HE.out.below qL); (case hng => exact (HG1.out.below qL)); rintro e w2 ⟨rfl, hb2⟩; rw [HV.out]; ((obtain ⟨hc2, hf2, hs2⟩ := qR hb2); (try have := qN0 w w2); (try have := qN1 w w2); (try have := qN0 wr w2)); have hglt2 : g < w2.heap.size := by omega
      go_wp2_with fail
      refine hK.out _ _ (SteadyAll.of qL) (fun hHeld => ?_)
      clear hK K
      refine qS [2, 3, 4, 5, 8, 9] ?_
      iterate 6 (refine qT ?_; simp only [Act.put, qY])
      refine TakeSeq.done ?_
      refine qH 6 fun K hK => ?_
      go_simp
      go_at_call 64; refine (fill_any p.node v p Hp.out HNO.out _ ?hpf).mono ?_; (case hpf => exact (HE.out.below qL)); rintro e w3 ⟨rfl, hb3⟩; rw [HFC.out]; ((obtain ⟨hc3, hf3, hs3⟩ := qR hb3); (try have := qN0 w w3); (try have := qN1 w w3); (try have := qN0 wr w3); (try have := qN0 w2 w3)); have hglt3 : g < w3.heap.size := by omega
      go_wp2_with fail
      refine hK.out _ _ (SteadyAll.of qL) (fun hHeld => ?_)
      clear hK K
      refine qS [7, 10, 11] ?_
      iterate 3 (refine qT ?_; simp only [Act.put, qY])
      refine TakeSeq.done ?_
      refine qD ?_ _
      go_wp2_with fail
      have BO2 := (HA.out.out.drew.kept hb2).kept hb3
      simp only [nodeCells, Bt.zeroNode, Bt.nilP] at BO2
      refine bodyPost_ret (results_bt rfl _ _ (w.heap.size + 1) _ _ _ rfl (by have B := BO2; exact qK) Tryz.underlying73 rfl (by kernel_rfl)) rfl ?_
      refine .inr ⟨v, HRN.out, by rw [set7]; rfl, ?_, by have hbw := HA.out.below; exact qL⟩
      rw [HLN.out]
      exact own_put7 (own_below HOWN.out qL) (own_ne HA.out.own (by omega)) _ _ _ _ _ _ _
     ·have HRN : Hid (Bt.readNode p = none) := hid (by simp only [Bt.readNode]; rw [if_neg (by simp; exact ⟨HK4.out, by rw [HC.out]; omega⟩), if_neg (fun h => hf h.2)])
      have hw : weq (p.node.fill p).d0 (p.node.fill p).d1 (p.node.fill p).d2 (p.node.fill p).d3 (p.node.fill p).d4 (p.node.fill p).d5 (p.node.fill p).d6 p.d0 p.d1 p.d2 p.d3 p.d4 p.d5 p.d6 = false := by rw [fill_same]; simp [hf]
      have HFC : Hid ((p.node.fill p).cells = #[.int .i64 (p.node.fill p).line, .int .u64 (p.node.fill p).head, .int .u64 (p.node.fill p).d0, .int .u64 (p.node.fill p).d1, .int .u64 (p.node.fill p).d2, .int .u64 (p.node.fill p).d3, .int .u64 (p.node.fill p).d4, .int .u64 (p.node.fill p).d5, .int .u64 (p.node.fill p).d6]) := hid rfl
      clear hv hf
      go_wp2_with fail
      refine qA fun hSt => ?_
      refine qS [0] ?_
      refine qT ?_; simp only [Act.put, qY]
      refine TakeSeq.done ?_
      refine qH 1 fun K hK => ?_
      go_simp
      go_at_call 63; refine (valid_any p.node v _ ?hpg ?hng).mono ?_; (case hpg => exact HE.out.below qL); (case hng => exact (HG1.out.below qL)); rintro e w2 ⟨rfl, hb2⟩; rw [HV.out]; ((obtain ⟨hc2, hf2, hs2⟩ := qR hb2); (try have := qN0 w w2); (try have := qN1 w w2); (try have := qN0 wr w2)); have hglt2 : g < w2.heap.size := by omega
      go_wp2_with fail
      refine hK.out _ _ (SteadyAll.of qL) (fun hHeld => ?_)
      clear hK K
      refine qS [2, 3, 4, 5, 8, 9] ?_
      iterate 6 (refine qT ?_; simp only [Act.put, qY])
      refine TakeSeq.done ?_
      refine qH 6 fun K hK => ?_
      go_simp
      go_at_call 64; refine (fill_any p.node v p Hp.out HNO.out _ ?hpf).mono ?_; (case hpf => exact (HE.out.below qL)); rintro e w3 ⟨rfl, hb3⟩; rw [HFC.out]; ((obtain ⟨hc3, hf3, hs3⟩ := qR hb3); (try have := qN0 w w3); (try have := qN1 w w3); (try have := qN0 wr w3); (try have := qN0 w2 w3)); have hglt3 : g < w3.heap.size := by omega
      go_wp2_with fail
      refine hK.out _ _ (SteadyAll.of qL) (fun hHeld => ?_)
      clear hK K
      refine qS [7, 10, 11] ?_
      iterate 3 (refine qT ?_; simp only [Act.put, qY])
      refine TakeSeq.done ?_
      refine qD ?_ _
      go_wp2_with fail
      have BO2 := (HA.out.out.drew.kept hb2).kept hb3
      simp only [nodeCells, Bt.zeroNode, Bt.nilP] at BO2
      refine bodyPost_ret (results_bt rfl _ _ (w.heap.size + 1) _ _ _ rfl (by have B := BO2; exact qK) Tryz.underlying73 rfl (by kernel_rfl)) rfl ?_
      exact .inl ⟨HRN.out, by rw [set7]; rfl, by have hbw := HA.out.below; exact qL⟩
theorem ReadNode_bad (p : Bt.Page) (hp : p.Ok) (w : World) (h : Bt.tagKind p.d0 ≠ 4 ∨ 5 < p.count) :
 Calls Tryz.prog 28 #[.agg p.cells] w (ReadPost p w) := by
 have HRN : Hid (Bt.readNode p = none) := hid (by simp only [Bt.readNode]; rw [if_pos h])
 have hpd := hp.d0
 have ha := Page.node_bounds p hp
 have e2 := and_u32_8 (Bt.tagAux p.d0 / 256) (by omega) (by omega)
 have hc0 : 0 ≤ Bt.tagAux p.d0 / 256 % 256 := by omega
 by_cases hk : Bt.tagKind p.d0 = 4
 ·have b1 : (Bt.tagKind p.d0 != 4) = false := by simp [hk]
  have b2 : decide (5 < Bt.tagAux p.d0 / 256 % 256) = true := by
   rcases h with h | h
   ·exact absurd hk h
   ·simpa [Bt.Page.count] using h
  clear hk h hp
  unfold Bt.Page.cells
  go_enter Tryz.func28, Tryz.ntmps28
  go_wp2_with fail
  go_at_call 62; refine (UnpackTag_any p.d0 hpd.1 hpd.2 _).mono ?_; rintro e w1 ⟨rfl, hb⟩; ((obtain ⟨hc1, hf1, hs1⟩ := qR hb); (try have := qN0 w w1); (try have := qN1 w w1))
  go_wp2_with fail
  have B := (made22 w (t := 73) (cs := nodeCells Bt.zeroNode (.slice none 0 0))).kept hb
  simp only [nodeCells, Bt.zeroNode, Bt.nilP] at B
  refine bodyPost_ret (results_bt rfl _ _ (w.heap.size + 1) _ _ _ rfl (by exact qK) Tryz.underlying73 rfl (by kernel_rfl)) rfl ?_
  exact .inl ⟨HRN.out, by rw [set7]; rfl, qL⟩
 ·have b1 : (Bt.tagKind p.d0 != 4) = true := by simp [hk]
  clear hk h hp
  unfold Bt.Page.cells
  go_enter Tryz.func28, Tryz.ntmps28
  go_wp2_with fail
  go_at_call 62; refine (UnpackTag_any p.d0 hpd.1 hpd.2 _).mono ?_; rintro e w1 ⟨rfl, hb⟩; ((obtain ⟨hc1, hf1, hs1⟩ := qR hb); (try have := qN0 w w1); (try have := qN1 w w1))
  go_wp2_with fail
  have B := (made22 w (t := 73) (cs := nodeCells Bt.zeroNode (.slice none 0 0))).kept hb
  simp only [nodeCells, Bt.zeroNode, Bt.nilP] at B
  refine bodyPost_ret (results_bt rfl _ _ (w.heap.size + 1) _ _ _ rfl (by exact qK) Tryz.underlying73 rfl (by kernel_rfl)) rfl ?_
  exact .inl ⟨HRN.out, by rw [set7]; rfl, qL⟩
theorem ReadNode_any (p : Bt.Page) (hp : p.Ok) (w : World) (hg : NoneAt w) : Calls Tryz.prog 28 #[.agg p.cells] w (ReadPost p w) := by
 by_cases h : Bt.tagKind p.d0 ≠ 4 ∨ 5 < p.count
 ·exact ReadNode_bad p hp w h
 ·have h1 : Bt.tagKind p.d0 = 4 := by
    by_cases hk : Bt.tagKind p.d0 = 4
    ·exact hk
    ·exact absurd (Or.inl hk) h
  exact ReadNode_walk p hp w hg h1 (by
   by_cases hk : p.count ≤ 5
   ·exact hk
   ·exact absurd (Or.inr (by omega)) h)
end Go.Proofs.YtjmpekanlmepmaaGreatDoor
