/- bodegalaw24.TreeNodes: the walk, first part: the page and the node that the law makes of its arguments. -/
import Derived.Test.YtjmpekanlmepmaaGreatDoorNN19
import Derived.Test.YtjmpekanlmepmaaGreatDoorNN36
import Derived.Deep.DeepCutAuto
set_option linter.all false
set_option maxRecDepth 20000
set_option maxHeartbeats 8000000
open Go.Lib (hid)
namespace Go.Proofs.YtjmpekanlmepmaaGreatDoor
open Go.RowKit
theorem tdiv_range (k n : Int) (hn : 0 < n) (hk : -9223372036854775808 ≤ k ∧ k ≤ 9223372036854775807) : -9223372036854775808 ≤ k.tdiv n ∧ k.tdiv n ≤ 9223372036854775807 := by
 rcases Int.lt_or_le k 0 with h | h
 ·obtain ⟨a, rfl⟩ : ∃ a : Int, k = -a := ⟨-k, by omega⟩
  rw [Int.neg_tdiv, Int.tdiv_eq_ediv_of_nonneg (by omega)]
  have h1 := Int.ediv_nonneg (show 0 ≤ a by omega) (Int.le_of_lt hn)
  have h2 := Int.ediv_le_self n (show 0 ≤ a by omega)
  omega
 ·rw [Int.tdiv_eq_ediv_of_nonneg h]
  have h1 := Int.ediv_nonneg h (Int.le_of_lt hn)
  have h2 := Int.ediv_le_self n h
  omega
def I64 (x : Int) : Prop := -9223372036854775808 ≤ x ∧ x ≤ 9223372036854775807
theorem aim_any (p : Bt.Ptr) (w : World) (hl : I64 p.line) (hg : I64 p.gen) : Calls Tryz.prog 14 #[.agg p.cells] w fun e w' => ∃ q : Bt.Ptr, e = .returned (.agg q.cells) ∧ Below w.heap.size w w' := by
 by_cases h : p.gen.tmod 7 = 0
 ·exact (aim_nil p w h).mono fun e w' ⟨h1, h2⟩ => ⟨_, h1, h2⟩
 ·exact (aim_some p w h hl hg).mono fun e w' ⟨h1, h2⟩ => ⟨_, h1, h2⟩
theorem u64_range' (x : Int) : 0 ≤ IntKind.u64.wrap x ∧ IntKind.u64.wrap x < 18446744073709551616 := by rw [IntKind.wrap_u64]; omega
structure NodeRng (m : Bt.Node) : Prop where
 high : 0 ≤ m.high ∧ m.high < 4294967296
 ents : ∀ e ∈ m.entries, e.Ok
structure MidAt (w : World) (nd : Bt.Node) (vn : Value) (N : Nat) (p : Bt.Page) (m : Bt.Node) (v : Value) (wx : World) : Prop where
 ok : p.Ok
 rng : NodeRng m
 len : m.entries.length = N
 page : Blk wx w.heap.size 25 p.cells
 arg : Blk wx (w.heap.size + 1) 73 (nodeCells nd vn)
 node : Blk wx (w.heap.size + 1 + 1) 73 (nodeCells m v)
 row : wx.ownsRow (w.heap.size + 1 + 1 + 1) 69 3 v m.entries.length (entCells m.entries)
 below : Below w.heap.size w wx
def MidCut (w : World) (nd : Bt.Node) (vn : Value) (N : Nat) (wx : World) : Prop := Hid (∃ p m v, MidAt w nd vn N p m v wx)
def MidLoop (w : World) (nd : Bt.Node) (vn : Value) (i : Value) (wx : World) : Prop := ∃ k : Nat, k ≤ nd.entries.length ∧ i = .int .i64 k ∧ Hid (∃ p m v, MidAt w nd vn k p m v wx)
theorem entCells_key (es : List Bt.Entry) (i : Nat) (h : i < es.length) : (entCells es).set (i * 3) (.int .u32 4294967295) = entCells (es.set i ⟨4294967295, es[i].to⟩) := by
 induction es generalizing i with
 | nil => simp at h
 | cons e es ih =>
   have e1 : entCells (e :: es) = .int .u32 e.key :: .int .i64 e.to.line :: .int .i64 e.to.gen :: entCells es := rfl
   cases i with
   | zero => rfl
   | succ i =>
     have h2 : i < es.length := by simpa using h
     have e2 : entCells ((e :: es).set (i + 1) ⟨4294967295, (e :: es)[i + 1].to⟩) = .int .u32 e.key :: .int .i64 e.to.line :: .int .i64 e.to.gen :: entCells (es.set i ⟨4294967295, es[i].to⟩) := rfl
     rw [e1, e2, ← ih i h2, show (i + 1) * 3 = i * 3 + 1 + 1 + 1 by omega]
     rfl
def EntCut (z wx : World) : Prop := Hid (∃ e : Bt.Entry, e.Ok ∧ Blk wx z.heap.size 69 e.cells ∧ Below z.heap.size z wx)
theorem readRes_node {p : Bt.Page} (hp : p.Ok) : (readRes p).2.entries.length ≤ 5 ∧ ∀ e ∈ (readRes p).2.entries, e.Ok := by
 cases h : Bt.readNode p with
 | none =>
   rw [readRes_none h]
   exact ⟨by show 0 ≤ 5; omega, fun e he => by cases he⟩
 | some n =>
   rw [readRes_some h]
   have hv := Bt.readNode_isValid h
   exact ⟨(Bt.Node.valid_parts hv.1).2.2.1, by dsimp only; rw [hv.2.1]; exact entry_ok p hp⟩
theorem writeRes_ok {p : Bt.Page} {n : Bt.Node} (hp : p.Ok) (hh : 0 ≤ n.high ∧ n.high < 4294967296) (h : (writeRes p n).2 = 0) : (writeRes p n).1.Ok := by
 unfold writeRes at h ⊢
 by_cases hc : Bt.tagKind p.d0 = 4 ∧ n.valid = true
 ·rw [if_pos hc]
  exact Bt.Good.fill_ok ⟨hc.2, by unfold Bt.maxHigh; omega⟩ hp
 ·rw [if_neg hc] at h
  exact absurd h (by decide)
theorem xor_range (a b : Int) : 0 ≤ bits BinOp.xor IntKind.u64 a b ∧ bits BinOp.xor IntKind.u64 a b < 18446744073709551616 := by
 unfold bits
 dsimp only
 exact u64_range' _
def FlipCut (W : World) (Q : Nat) (wx : World) : Prop := ∃ (i : Nat) (x : Int), i < 7 ∧ 0 ≤ x ∧ x < 18446744073709551616 ∧ wx = (W.setCell ⟨Q, 2 + i, none⟩ (.int .u64 x)).drew
theorem page_put7 (p : Bt.Page) (hp : p.Ok) (i : Nat) (x : Int) (hi : i < 7) (h0 : 0 ≤ x) (h1 : x < 18446744073709551616) : ∃ q : Bt.Page, q.Ok ∧ p.cells.setIfInBounds (2 + i) (.int .u64 x) = q.cells := by
 obtain ⟨o1, o2, o3, o4, o5, o6, o7, o8⟩ := hp
 have hx : 0 ≤ x ∧ x < 18446744073709551616 := ⟨h0, h1⟩
 match i, hi with
 | 0, _ => exact ⟨⟨p.line, p.head, x, p.d1, p.d2, p.d3, p.d4, p.d5, p.d6⟩, ⟨o1, hx, o3, o4, o5, o6, o7, o8⟩, rfl⟩
 | 1, _ => exact ⟨⟨p.line, p.head, p.d0, x, p.d2, p.d3, p.d4, p.d5, p.d6⟩, ⟨o1, o2, hx, o4, o5, o6, o7, o8⟩, rfl⟩
 | 2, _ => exact ⟨⟨p.line, p.head, p.d0, p.d1, x, p.d3, p.d4, p.d5, p.d6⟩, ⟨o1, o2, o3, hx, o5, o6, o7, o8⟩, rfl⟩
 | 3, _ => exact ⟨⟨p.line, p.head, p.d0, p.d1, p.d2, x, p.d4, p.d5, p.d6⟩, ⟨o1, o2, o3, o4, hx, o6, o7, o8⟩, rfl⟩
 | 4, _ => exact ⟨⟨p.line, p.head, p.d0, p.d1, p.d2, p.d3, x, p.d5, p.d6⟩, ⟨o1, o2, o3, o4, o5, hx, o7, o8⟩, rfl⟩
 | 5, _ => exact ⟨⟨p.line, p.head, p.d0, p.d1, p.d2, p.d3, p.d4, x, p.d6⟩, ⟨o1, o2, o3, o4, o5, o6, hx, o8⟩, rfl⟩
 | 6, _ => exact ⟨⟨p.line, p.head, p.d0, p.d1, p.d2, p.d3, p.d4, p.d5, x⟩, ⟨o1, o2, o3, o4, o5, o6, o7, hx⟩, rfl⟩
theorem page_word7 (p : Bt.Page) (i : Nat) (hi : i < 7) : ∃ v : Int, p.cells[2 + i]? = some (.int .u64 v) := by
 match i, hi with
 | 0, _ => exact ⟨_, rfl⟩
 | 1, _ => exact ⟨_, rfl⟩
 | 2, _ => exact ⟨_, rfl⟩
 | 3, _ => exact ⟨_, rfl⟩
 | 4, _ => exact ⟨_, rfl⟩
 | 5, _ => exact ⟨_, rfl⟩
 | 6, _ => exact ⟨_, rfl⟩
def NWrote (z : Bt.Page) (c : Int) (W : World) (s17 s18 : Value) (wx : World) : Prop :=
 ∃ O, s17 = .pointer (some ⟨O, 0, none⟩) ∧ s18 = .int .i64 c ∧ W.heap.size ≤ O ∧ Blk wx O 25 z.cells ∧ Below W.heap.size W wx
theorem nodes_walk (p : Bt.Page) (hp : p.Ok) (nd : Bt.Node) (vn : Value) (k : Int) (hlev : I64 nd.level) (hrl : I64 nd.right.line) (hrg : I64 nd.right.gen) (hhigh : 0 ≤ nd.high ∧ nd.high < 4294967296) (hk : I64 k) (w : World) (hn : NoneAt w) (he : (∃ a c, vn = .slice a nd.entries.length c) ∧ (nd.entries = [] ∨ EntRow w vn nd.entries))
 (hto : ∀ e ∈ nd.entries, I64 e.to.line ∧ I64 e.to.gen) (hlong : nd.entries.length ≤ 9223372036854775807) :
 Calls Tryz.prog 12 #[.agg p.cells, .agg (nodeCells nd vn), .int .i64 k] w fun e w' => e = .returned (.bool true) ∧ Below w.heap.size w w' := by
 obtain ⟨lev, lm, dd, high, ⟨rl, rg⟩, es⟩ := nd
 dsimp only at hlev hrl hrg hhigh he hto hlong
 have HN := hid hn
 have HP := hid hp
 have HE := hid he.2
 have HTO := hid hto
 obtain ⟨NL, hNL⟩ : ∃ NL, es.length = NL := ⟨_, rfl⟩
 have HNL := hid hNL
 rw [hNL] at hlong
 have hform : ∃ a c, vn = .slice a NL c := by
  obtain ⟨a, c, h1⟩ := he.1
  exact ⟨a, c, by rw [h1, hNL]⟩
 obtain ⟨va, vc, rfl⟩ := hform
 clear hn hp he hto hNL
 unfold Bt.Page.cells nodeCells
 dsimp only
 have hsvn : ∀ (a : Addr) (m : Mode) (wx : World), (store a (.slice va NL vc) m).run Tryz.prog wx = stored Tryz.prog wx a (.slice va NL vc) m := fun a m wx => run_store Tryz.prog wx a (.slice va NL vc) m rfl
 by_cases h9 : 9 < NL
 ·have b1 : decide ((9 : Int) < (NL : Int)) = true := by simp; omega
  have b2 : decide (9 < NL) = true := by simp; omega
  go_enter Tryz.func12, Tryz.ntmps12
  go_wp2_with fail
  exact bodyPost_ret (results_tmp rfl _ _ _) rfl ⟨rfl, qL⟩
 have b1 : decide ((9 : Int) < (NL : Int)) = false := by simp; omega
 have b2 : decide (9 < NL) = false := by simp; omega
 have hN9 : NL ≤ 9 := by omega
 clear h9 hlong
 obtain ⟨nr, hnr⟩ : ∃ nr, pick k 5 = nr := ⟨_, rfl⟩
 have hnr1 := Int.emod_nonneg k (show (5 : Int) ≠ 0 by decide)
 have hnr2 := Int.emod_lt_of_pos k (show (0 : Int) < 5 by decide)
 have hnr3 : 0 ≤ nr ∧ nr < 5 := by rw [← hnr]; exact ⟨hnr1, hnr2⟩
 have HNR := hid hnr
 clear hnr hnr1 hnr2
 go_enter Tryz.func12, Tryz.ntmps12
 go_wp2_with fail
 go_at_call 13; refine (Pick_any k 5 hk (by omega) _).mono ?_; rintro e0 w0 ⟨rfl, hw0⟩; obtain rfl := hw0
 rw [HNR.out]
 go_upto_if 39 with (fail)
 obtain ⟨W0, hW0⟩ : ∃ W0, W0 = (((w.alloc (.cells #[.int .i64 p.line, .int .u64 p.head, .int .u64 p.d0, .int .u64 p.d1, .int .u64 p.d2, .int .u64 p.d3, .int .u64 p.d4, .int .u64 p.d5, .int .u64 p.d6] 25)).alloc (.cells #[.int .i64 lev, .bool lm, .bool dd, .int .u32 high, .int .i64 rl, .int .i64 rg, .slice va NL vc] 73)).alloc (.cells #[.int .i64 lev, .bool lm, .bool dd, .int .u32 high, .int .i64 rl, .int .i64 rg, .slice none 0 0] 73)) := ⟨_, rfl⟩
 have BP : Blk W0 w.heap.size 25 #[.int .i64 p.line, .int .u64 p.head, .int .u64 p.d0, .int .u64 p.d1, .int .u64 p.d2, .int .u64 p.d3, .int .u64 p.d4, .int .u64 p.d5, .int .u64 p.d6] := by rw [hW0]; exact ((Blk.made _ _ _).alloc _).alloc _
 have BA : Blk W0 (w.heap.size + 1) 73 #[.int .i64 lev, .bool lm, .bool dd, .int .u32 high, .int .i64 rl, .int .i64 rg, .slice va NL vc] := by rw [hW0]; exact (Blk.made' (by simp)).alloc _
 have BM : Blk W0 (w.heap.size + 1 + 1) 73 #[.int .i64 lev, .bool lm, .bool dd, .int .u32 high, .int .i64 rl, .int .i64 rg, .slice none 0 0] := by rw [hW0]; exact Blk.made' (by simp)
 have hbl : Below w.heap.size w W0 := by rw [hW0]; exact qL
 rw [← hW0]
 clear hW0
 have kp := BP.cell
 have ka := BA.cell
 have km := BM.cell
 have fp := BP.free
 have fm := BM.free
 have lp := BP.lt
 have la := BA.lt
 have lmm := BM.lt
 have HBP := hid BP
 have HBA := hid BA
 have HBM := hid BM
 have HBL := hid hbl
 clear BP BA BM hbl
 have h12 := Int.emod_lt_of_pos lev (show (0 : Int) < 12 by omega)
 have h13 := Int.emod_nonneg lev (show (12 : Int) ≠ 0 by omega)
 have e12 : IntKind.i64.wrap (pick lev 12 - 1) = pick lev 12 - 1 := by unfold pick; rw [IntKind.wrap_i64]; omega
 have e12' : wrap64 (pick lev 12 - 1) = pick lev 12 - 1 := by unfold pick wrap64; omega
 have eq := eql_ptr
 have ne := neq_ptr
 have pp : peq 0 0 0 0 = true := rfl
 have pq : peq (103 + pick rl 154) (pick rg 8) 0 0 = false := by
  have h1 := Int.emod_nonneg rl (show (154 : Int) ≠ 0 by decide)
  unfold peq pick
  exact decide_eq_false (by omega)
 have hk5 : I64 (k.tdiv 5) := tdiv_range k 5 (by omega) hk
 have ek5 : IntKind.i64.wrap (k.tdiv 5) = k.tdiv 5 := by have := hk5.1; have := hk5.2; rw [IntKind.wrap_i64]; omega
 go_cut [] from 38 to 77 (MidCut w ⟨lev, lm, dd, high, ⟨rl, rg⟩, es⟩ (.slice va NL vc) 0)
 case first =>
  -- DONE
  by_cases h0 : 0 < nr
  ·have c0 : decide (0 < nr) = true := decide_eq_true h0
   go_wp2_with fail
   go_at_call 13; refine (Pick_any lev 12 hlev (by omega) _).mono ?_; rintro e1 w1 ⟨rfl, hw1⟩; obtain rfl := hw1
   go_upto_if 46 with (fail)
   go_cut [] from 45 to 50 (MidCut w ⟨lev, lm, dd, high, ⟨rl, rg⟩, es⟩ (.slice va NL vc) 0)
   case first =>
    by_cases h2 : 2 < nr
    ·have c2 : decide (2 < nr) = true := decide_eq_true h2
     go_wp2_with fail
     go_meet
     have hb1 := HBP.out
     have hb2 := HBA.out
     have hb3 := HBM.out
     have hbl := HBL.out
     exact hid ⟨p, ⟨_, lm, dd, high, ⟨rl, rg⟩, []⟩, .slice none 0 0, ⟨HP.out, ⟨hhigh, fun e he => by cases he⟩, rfl, Blk.cast (by have B := hb1; exact qK) (by rfl), Blk.cast (by have B := hb2; exact qK) (by rfl), Blk.cast (by have B := hb3; exact qK) (by rfl), World.ownsRow_nil _ _ _ _, qL⟩⟩
    ·have c2 : decide (2 < nr) = false := decide_eq_false h2
     go_wp2_with fail
     go_meet
     have hb1 := HBP.out
     have hb2 := HBA.out
     have hb3 := HBM.out
     have hbl := HBL.out
     exact hid ⟨p, ⟨_, lm, dd, high, ⟨rl, rg⟩, []⟩, .slice none 0 0, ⟨HP.out, ⟨hhigh, fun e he => by cases he⟩, rfl, Blk.cast (by have B := hb1; exact qK) (by rfl), Blk.cast (by have B := hb2; exact qK) (by rfl), Blk.cast (by have B := hb3; exact qK) (by rfl), World.ownsRow_nil _ _ _ _, qL⟩⟩
   case rest =>
    rename World => w2
    obtain ⟨p2, m2, v2, hm2⟩ := (show Hid _ from hcut).out
    clear hcut kp ka km fp fm lp la lmm
    have HM2 := hid hm2
    have kp := hm2.page.cell
    have ka := hm2.arg.cell
    have km := hm2.node.cell
    have fp := hm2.page.free
    have fm := hm2.node.free
    have lp := hm2.page.lt
    have la := hm2.arg.lt
    have lmm := hm2.node.lt
    unfold Bt.Page.cells at kp
    unfold nodeCells at ka km
    dsimp only at ka km
    go_wp2_with fail
    go_at_call 14; refine (aim_any ⟨rl, rg⟩ _ hrl hrg).mono ?_; rintro e3 w3 ⟨q, rfl, hb3⟩; simp only [Bt.Ptr.cells]; ((obtain ⟨hc3, hf3, hs3⟩ := qR hb3); (try have := qN0 w2 w3))
    obtain ⟨lev2, lm2, dd2, high2, ⟨rl2, rg2⟩, es2⟩ := m2
    obtain ⟨pv2, cv2, rfl⟩ := own_shape hm2.row
    have hl2 : es2 = [] := List.length_eq_zero_iff.1 hm2.len
    subst hl2
    have hmid : MidAt w ⟨lev, lm, dd, high, ⟨rl, rg⟩, es⟩ (.slice va NL vc) 0 p2 ⟨lev2, lm2, dd2, high2, ⟨q.line, q.gen⟩, []⟩ (.slice pv2 0 cv2) ((w3.setCell ⟨w.heap.size + 1 + 1, 4, none⟩ (.int .i64 q.line)).setCell ⟨w.heap.size + 1 + 1, 5, none⟩ (.int .i64 q.gen)) := by
     have hb1 := hm2.page.kept hb3
     have hb2 := hm2.arg.kept hb3
     have hb4 := hm2.node.kept hb3
     have hbl := hm2.below
     exact ⟨hm2.ok, ⟨hm2.rng.high, fun e he => by cases he⟩, rfl, by (have B := hb1; exact qK), by (have B := hb2; exact qK), Blk.cast (by have B := hb4; exact qK) (by rfl), own_aside (own_aside (own_below hm2.row hb3) (p := ⟨w.heap.size + 1 + 1, 4, none⟩) (by show w.heap.size + 1 + 1 < w.heap.size + 1 + 1 + 1; omega) _) (p := ⟨w.heap.size + 1 + 1, 5, none⟩) (by show w.heap.size + 1 + 1 < w.heap.size + 1 + 1 + 1; omega) _, qL⟩
    have HMID := hid hmid
    clear hmid
    cases hbq : peq q.line q.gen 0 0 with
    | false =>
      go_upto_region 12 with (fail)
      obtain ⟨w4, hw4⟩ : ∃ w4, w4 = ((w3.setCell ⟨w.heap.size + 1 + 1, 4, none⟩ (.int .i64 q.line)).setCell ⟨w.heap.size + 1 + 1, 5, none⟩ (.int .i64 q.gen)) := ⟨_, rfl⟩
      have HM4 : Hid (∃ p m v, MidAt w ⟨lev, lm, dd, high, ⟨rl, rg⟩, es⟩ (.slice va NL vc) 0 p m v w4) := hid ⟨_, _, _, by rw [hw4]; exact HMID.out⟩
      rw [← hw4]
      clear hw4 HMID hm2 HM2 kp ka km fp fm lp la lmm hc3 hf3 hs3 hb3 hbq
      obtain ⟨p4, ⟨lev4, lm4, dd4, high4, ⟨rl4, rg4⟩, es4⟩, v4, hm4⟩ := HM4.out
      have kp := hm4.page.cell
      have fp := hm4.page.free
      have lp := hm4.page.lt
      unfold Bt.Page.cells at kp
      have HM5 := hid hm4
      clear hm4 HM4
      go_wp2_with fail
      refine wp_region_late (S := SteadyAll _) (last := 14) (by kernel_rfl) (by kernel_rfl) (SteadyAll.of (Below.refl _ _).drew) ?_
      intro hSt
      refine wpAnyL_seq (is := [0, 1, 2, 3, 4, 5, 6, 7, 12]) (by kernel_rfl) (by kernel_rfl) (fun _ _ d _ _ h => by cases d <;> exact h) (by assumption) ?_
      iterate 9 (refine qU ?_; simp only [Act.put, qY])
      refine TakeSeqL.done ?_
      refine qHL 8 fun K hK => ?_
      go_simp
      go_at_call 13; refine (Pick_any (k.tdiv 5) 9 hk5 (by omega) _).mono ?_; rintro e5 w5 ⟨rfl, hw5⟩; obtain rfl := hw5
      go_wp2_with fail
      refine hK.out _ _ (SteadyAll.of qL) (fun hHeld => ?_)
      clear hK K
      refine wpAnyL_seq (is := [9, 10, 11, 13]) (by kernel_rfl) (by kernel_rfl) (fun _ _ d _ _ h => by cases d <;> exact h) (by assumption) ?_
      iterate 4 (refine qU ?_; simp only [Act.put, qY])
      refine TakeSeqL.done ?_
      refine wpAnyL_ready (rs := [14]) (by kernel_rfl) (by simp) ?_
      refine AllReadyL.final rfl (fun K hK => ?_)
      rw [if_pos (by rfl)]
      go_simp
      refine hK.out _ _ ?_
      clear hK K
      refine wpAnyL_done (by kernel_rfl) ?_ _
      go_wp2_with fail
      go_meet
      generalize hE : IntKind.u64.wrap (IntKind.u64.wrap (4 + IntKind.u64.wrap ((p4.d0.tmod 7).tdiv 6)) + IntKind.u64.wrap (IntKind.u64.wrap (pick (k.tdiv 5) 9) * 256)) = E
      have hEr : 0 ≤ E ∧ E < 18446744073709551616 := by rw [← hE]; exact u64_range' _
      have hm5 := HM5.out
      have hb1 := hm5.page
      have hb2 := hm5.arg
      have hb3 := hm5.node
      have hbl := hm5.below
      have ho := hm5.ok
      exact hid ⟨⟨p4.line, p4.head, E, p4.d1, p4.d2, p4.d3, p4.d4, p4.d5, p4.d6⟩, ⟨lev4, lm4, dd4, high4, ⟨rl4, rg4⟩, es4⟩, v4, ⟨⟨ho.head, hEr, ho.d1, ho.d2, ho.d3, ho.d4, ho.d5, ho.d6⟩, hm5.rng, hm5.len, Blk.cast (by have B := hb1; exact qK) (by rfl), by (have B := hb2; exact qK), by (have B := hb3; exact qK), own_below (own_aside hm5.row (p := ⟨w.heap.size, 2, none⟩) (by show w.heap.size < w.heap.size + 1 + 1 + 1; omega) _) qL, qL⟩⟩
    | true =>
      go_upto_if 62 with (fail)
      go_cut [] from 58 to 63 (MidCut w ⟨lev, lm, dd, high, ⟨rl, rg⟩, es⟩ (.slice va NL vc) 0)
      case first =>
       by_cases h1 : 1 < nr
       ·have c1 : decide (1 < nr) = true := decide_eq_true h1
        go_wp2_with fail
        go_meet
        have hm := HMID.out
        have hb1 := hm.page
        have hb2 := hm.arg
        have hb4 := hm.node
        have hbl := hm.below
        exact hid ⟨p2, ⟨lev2, lm2, dd2, 4294967295, ⟨q.line, q.gen⟩, []⟩, .slice pv2 0 cv2, ⟨hm.ok, ⟨⟨by show (0 : Int) ≤ 4294967295; decide, by show (4294967295 : Int) < 4294967296; decide⟩, fun e he => by cases he⟩, rfl, by (have B := hb1; exact qK), by (have B := hb2; exact qK), Blk.cast (by have B := hb4; exact qK) (by rfl), own_aside hm.row (p := ⟨w.heap.size + 1 + 1, 3, none⟩) (by show w.heap.size + 1 + 1 < w.heap.size + 1 + 1 + 1; omega) _, qL⟩⟩
       ·have c1 : decide (1 < nr) = false := decide_eq_false h1
        go_wp2_with fail
        go_meet
        exact hid ⟨_, _, _, HMID.out⟩
      case rest =>
       rename World => w4
       have HM4 : Hid (∃ p m v, MidAt w ⟨lev, lm, dd, high, ⟨rl, rg⟩, es⟩ (.slice va NL vc) 0 p m v w4) := hcut
       clear hcut HMID hm2 HM2 kp ka km fp fm lp la lmm hc3 hf3 hs3 hb3 hbq
       obtain ⟨p4, ⟨lev4, lm4, dd4, high4, ⟨rl4, rg4⟩, es4⟩, v4, hm4⟩ := HM4.out
       have kp := hm4.page.cell
       have fp := hm4.page.free
       have lp := hm4.page.lt
       unfold Bt.Page.cells at kp
       have HM5 := hid hm4
       clear hm4 HM4
       go_wp2_with fail
       refine wp_region_late (S := SteadyAll _) (last := 14) (by kernel_rfl) (by kernel_rfl) (SteadyAll.of (Below.refl _ _).drew) ?_
       intro hSt
       refine wpAnyL_seq (is := [0, 1, 2, 3, 4, 5, 6, 7, 12]) (by kernel_rfl) (by kernel_rfl) (fun _ _ d _ _ h => by cases d <;> exact h) (by assumption) ?_
       iterate 9 (refine qU ?_; simp only [Act.put, qY])
       refine TakeSeqL.done ?_
       refine qHL 8 fun K hK => ?_
       go_simp
       go_at_call 13; refine (Pick_any (k.tdiv 5) 9 hk5 (by omega) _).mono ?_; rintro e5 w5 ⟨rfl, hw5⟩; obtain rfl := hw5
       go_wp2_with fail
       refine hK.out _ _ (SteadyAll.of qL) (fun hHeld => ?_)
       clear hK K
       refine wpAnyL_seq (is := [9, 10, 11, 13]) (by kernel_rfl) (by kernel_rfl) (fun _ _ d _ _ h => by cases d <;> exact h) (by assumption) ?_
       iterate 4 (refine qU ?_; simp only [Act.put, qY])
       refine TakeSeqL.done ?_
       refine wpAnyL_ready (rs := [14]) (by kernel_rfl) (by simp) ?_
       refine AllReadyL.final rfl (fun K hK => ?_)
       rw [if_pos (by rfl)]
       go_simp
       refine hK.out _ _ ?_
       clear hK K
       refine wpAnyL_done (by kernel_rfl) ?_ _
       go_wp2_with fail
       go_meet
       generalize hE : IntKind.u64.wrap (IntKind.u64.wrap (4 + IntKind.u64.wrap ((p4.d0.tmod 7).tdiv 6)) + IntKind.u64.wrap (IntKind.u64.wrap (pick (k.tdiv 5) 9) * 256)) = E
       have hEr : 0 ≤ E ∧ E < 18446744073709551616 := by rw [← hE]; exact u64_range' _
       have hm5 := HM5.out
       have hb1 := hm5.page
       have hb2 := hm5.arg
       have hb3 := hm5.node
       have hbl := hm5.below
       have ho := hm5.ok
       exact hid ⟨⟨p4.line, p4.head, E, p4.d1, p4.d2, p4.d3, p4.d4, p4.d5, p4.d6⟩, ⟨lev4, lm4, dd4, high4, ⟨rl4, rg4⟩, es4⟩, v4, ⟨⟨ho.head, hEr, ho.d1, ho.d2, ho.d3, ho.d4, ho.d5, ho.d6⟩, hm5.rng, hm5.len, Blk.cast (by have B := hb1; exact qK) (by rfl), by (have B := hb2; exact qK), by (have B := hb3; exact qK), own_below (own_aside hm5.row (p := ⟨w.heap.size, 2, none⟩) (by show w.heap.size < w.heap.size + 1 + 1 + 1; omega) _) qL, qL⟩⟩
  ·have c0 : decide (0 < nr) = false := decide_eq_false h0
   go_wp2_with fail
   go_meet
   exact hid ⟨p, ⟨lev, lm, dd, high, ⟨rl, rg⟩, []⟩, .slice none 0 0, ⟨HP.out, ⟨hhigh, fun e he => by cases he⟩, rfl, HBP.out, HBA.out, HBM.out, World.ownsRow_nil _ _ _ _, HBL.out⟩⟩
  -- /DONE
 case rest =>
  rename World => w6
  have HM6 : Hid (∃ p m v, MidAt w ⟨lev, lm, dd, high, ⟨rl, rg⟩, es⟩ (.slice va NL vc) 0 p m v w6) := hcut
  clear hcut kp ka km fp fm lp la lmm HBP HBA HBM HBL e12 e12' h12 h13
  obtain ⟨iE, hiE, hzE0, hzE1, hzE2⟩ := info_parts infoEntry
  go_wp2_with fail
  go_loopw [9] (fun i wx => MidLoop w ⟨lev, lm, dd, high, ⟨rl, rg⟩, es⟩ (.slice va NL vc) i wx) (fun i _ => ((NL : Int) - intOf i).toNat)
  case atStart => exact ⟨0, Nat.zero_le _, rfl, HM6⟩
  case round =>
   obtain ⟨j, hj, rfl, HMJ⟩ := hrel
   rename World => wj
   clear HM6
   dsimp only at hj
   rw [HNL.out] at hj
   obtain ⟨p3, ⟨lev3, lm3, dd3, high3, ⟨rl3, rg3⟩, es3⟩, v3, hm3⟩ := HMJ.out
   obtain ⟨pv3, cv3, rfl⟩ := own_shape hm3.row
   have hl3 : es3.length = j := hm3.len
   rw [show (⟨lev3, lm3, dd3, high3, ⟨rl3, rg3⟩, es3⟩ : Bt.Node).entries.length = j from hl3] at hm3
   have kp := hm3.page.cell
   have ka := hm3.arg.cell
   have km := hm3.node.cell
   have fp := hm3.page.free
   have fm := hm3.node.free
   have lp := hm3.page.lt
   have la := hm3.arg.lt
   have lmm := hm3.node.lt
   unfold Bt.Page.cells at kp
   unfold nodeCells at ka km
   dsimp only at ka km
   have HM3 := hid hm3
   have HL3 := hid hl3
   clear hm3 hl3
   by_cases hj2 : j < NL
   ·skip
    -- DONE
    have bj : decide ((j : Int) < NL) = true := decide_eq_true (by omega)
    have bj2 : decide (j < NL) = true := decide_eq_true hj2
    have bj0 : (0 : Int) ≤ j := by omega
    have bj1 : (j : Int) < NL := by omega
    have wj1 : IntKind.i64.wrap ((j : Int) + 1) = (j : Int) + 1 := by rw [IntKind.wrap_i64]; omega
    obtain ⟨e0, he0⟩ : ∃ e0, es[j]? = some e0 := ⟨_, List.getElem?_eq_getElem (by rw [HNL.out]; exact hj2)⟩
    have HEr : EntRow w (.slice va NL vc) es := HE.out.resolve_left (fun h0 => by have h1 := HNL.out; rw [h0] at h1; have h2 : 0 = NL := h1; omega)
    have hform : ∃ b o, va = some ⟨b, o, none⟩ ∧ b < w.heap.size ∧ ∀ (i : Nat) (p : Bt.Entry), es[i]? = some p → ∀ (j : Nat) (u : Value), p.cells[j]? = some u → w.cell? ⟨b, o + i * 3 + j, none⟩ = some u := by
     rcases HEr.form with ⟨_, h2⟩ | ⟨b, o, c, h1, h2, h3⟩
     ·have := HNL.out; rw [h2] at this; simp at this; omega
     ·simp only [Value.slice.injEq] at h1
      exact ⟨b, o, h1.1, h2, h3⟩
    obtain ⟨b, o, rfl, hblt, hcells⟩ := hform
    have hbw := HM3.out.below
    have c0 : wj.cell? ⟨b, o + j * 3, none⟩ = some (.int .u32 e0.key) := (hbw.cell (p := ⟨b, o + j * 3, none⟩) hblt).trans (hcells j e0 he0 0 _ rfl)
    have c1 : wj.cell? ⟨b, o + j * 3 + 1, none⟩ = some (.int .i64 e0.to.line) := (hbw.cell (p := ⟨b, o + j * 3 + 1, none⟩) hblt).trans (hcells j e0 he0 1 _ rfl)
    have c2 : wj.cell? ⟨b, o + j * 3 + 2, none⟩ = some (.int .i64 e0.to.gen) := (hbw.cell (p := ⟨b, o + j * 3 + 2, none⟩) hblt).trans (hcells j e0 he0 2 _ rfl)
    have hto := HTO.out e0 (List.mem_of_getElem? he0)
    have hok0 : e0.Ok := HEr.ok e0 (List.mem_of_getElem? he0)
    have HOK0 := hid hok0
    have hbj : b < wj.heap.size := by have := hbw.size; omega
    clear he0 hcells hbw hok0 HEr
    go_upto_if 91 with (fail)
    obtain ⟨wE, hwE⟩ : ∃ wE, wE = wj.alloc (.cells #[.int .u32 e0.key, .int .i64 e0.to.line, .int .i64 e0.to.gen] 69) := ⟨_, rfl⟩
    have BE : Blk wE wj.heap.size 69 #[.int .u32 e0.key, .int .i64 e0.to.line, .int .i64 e0.to.gen] := by rw [hwE]; exact Blk.made _ _ _
    have hbE : Below wj.heap.size wj wE := by rw [hwE]; exact qL
    rw [← hwE]
    have kE := BE.cell
    have fE := BE.free
    have lE := BE.lt
    have HBE := hid BE
    have HBelE := hid hbE
    clear hwE BE hbE
    go_cut [] from 90 to 112 (EntCut wj)
    case first =>
     by_cases h0 : 0 < nr
     ·have c9 : decide (0 < nr) = true := decide_eq_true h0
      go_wp2_with fail
      refine wp_region_late (S := SteadyAll _) (last := 12) (by kernel_rfl) (by kernel_rfl) (SteadyAll.of (Below.refl _ _).drew) ?_
      intro hSt
      refine wpAnyL_seq (is := [0, 1, 2, 5, 6, 7]) (by kernel_rfl) (by kernel_rfl) (fun _ _ d _ _ h => by cases d <;> exact h) (by assumption) ?_
      iterate 6 (refine qU ?_; simp only [Act.put, qY])
      refine TakeSeqL.done ?_
      refine qHL 3 fun K hK => ?_
      go_simp
      go_at_call 13; refine (Pick_any e0.to.line 152 hto.1 (by omega) _).mono ?_; rintro e5 w5 ⟨rfl, hw5⟩; obtain rfl := hw5
      go_wp2_with fail
      refine hK.out _ _ (SteadyAll.of qL) (fun hHeld => ?_)
      clear hK K
      refine wpAnyL_seq (is := [4]) (by kernel_rfl) (by kernel_rfl) (fun _ _ d _ _ h => by cases d <;> exact h) (by assumption) ?_
      refine qU ?_; simp only [Act.put, qY]
      refine TakeSeqL.done ?_
      refine qHL 8 fun K hK => ?_
      go_simp
      go_at_call 13; refine (Pick_any e0.to.gen 9 hto.2 (by omega) _).mono ?_; rintro e7 w7 ⟨rfl, hw7⟩; obtain rfl := hw7
      go_wp2_with fail
      refine hK.out _ _ (SteadyAll.of qL) (fun hHeld => ?_)
      clear hK K
      refine wpAnyL_seq (is := [9, 10, 11]) (by kernel_rfl) (by kernel_rfl) (fun _ _ d _ _ h => by cases d <;> exact h) (by assumption) ?_
      iterate 3 (refine qU ?_; simp only [Act.put, qY])
      refine TakeSeqL.done ?_
      refine wpAnyL_ready (rs := [12]) (by kernel_rfl) (by simp) ?_
      refine AllReadyL.final rfl (fun K hK => ?_)
      rw [if_pos (by rfl)]
      go_simp
      refine hK.out _ _ ?_
      clear hK K
      refine wpAnyL_done (by kernel_rfl) ?_ _
      go_wp2_with fail
      go_meet
      have hb1 := HBE.out
      have hb2 := HBelE.out
      exact hid ⟨⟨(e0.key.tmod 3 + (j : Int) * 3 + 1) % 4294967296, ⟨_, _⟩⟩, ⟨Int.emod_nonneg _ (by decide), Int.emod_lt_of_pos _ (by decide)⟩, Blk.cast (by have B := hb1; exact qK) (by rfl), qL⟩
     ·have c9 : decide (0 < nr) = false := decide_eq_false h0
      go_wp2_with fail
      go_meet
      exact hid ⟨e0, HOK0.out, HBE.out, HBelE.out⟩
    case rest =>
     rename World => w7
     obtain ⟨e, heok, hbe, hbl7⟩ := (show Hid _ from hcut).out
     clear hcut HBE HBelE kE fE
     have hm7p := HM3.out.page.kept hbl7
     have hm7a := HM3.out.arg.kept hbl7
     have hm7m := HM3.out.node.kept hbl7
     have k7 := hm7m.cell
     have f7 := hm7m.free
     have l7 := hm7m.lt
     have ke := hbe.cell
     have le7 := hbe.lt
     unfold nodeCells at k7
     dsimp only at k7
     unfold Bt.Entry.cells at ke
     have hrow7 := own_below HM3.out.row hbl7
     rw [show (⟨lev3, lm3, dd3, high3, ⟨rl3, rg3⟩, es3⟩ : Bt.Node).entries.length = j from HL3.out] at hrow7
     have HROW7 := hid hrow7
     have HBE7 := hid hbe
     have HBL7 := hid hbl7
     have HOKE := hid heok
     clear hm7p hm7a hm7m hrow7 hbe hbl7 heok kp ka km fp fm lp la lmm
     go_wp2_with (at_builtin; refine halt ?_)
     refine unhalt ?_
     refine wpList_append_mine rfl (.tmp 114) (.tmp 116) 61 rfl (w.heap.size + 1 + 1 + 1) 69 iE _ 3 24 Tryz.underlying61 hiE hzE0 hzE1 hzE2 rfl (by decide) (.slice pv3 j cv3) j (entCells es3) rfl (own_below HROW7.out qL) ⟨w7.heap.size, 0, none⟩ 1 1 [.int .u32 e.key, .int .i64 e.to.line, .int .i64 e.to.gen] rfl rfl (three_news (by simp) (by simp) (by simp)) (by intro u hu; simp at hu; rcases hu with rfl | rfl | rfl <;> rfl) (by omega) (by unfold maxLen; omega) (by omega) (by simp; omega) ?_
     intro g8 c8 w8 hown8 hg8
     have hn8 : ∀ b, b < w.heap.size + 1 + 1 + 1 → some b ≠ (Value.slice pv3 j cv3).ownBlock := fun b hb => own_ne HROW7.out hb
     have HP8 := hid (((HM3.out.page.kept HBL7.out).alloc (.cells #[.int .u32 e.key, .int .i64 e.to.line, .int .i64 e.to.gen] 69)).grown hg8 (hn8 _ (by omega)))
     have HA8 := hid (((HM3.out.arg.kept HBL7.out).alloc (.cells #[.int .u32 e.key, .int .i64 e.to.line, .int .i64 e.to.gen] 69)).grown hg8 (hn8 _ (by omega)))
     have hm8 := ((HM3.out.node.kept HBL7.out).alloc (.cells #[.int .u32 e.key, .int .i64 e.to.line, .int .i64 e.to.gen] 69)).grown hg8 (hn8 _ (by omega))
     have k8 := hm8.cell
     have f8 := hm8.free
     have l8 := hm8.lt
     unfold nodeCells at k8
     dsimp only at k8
     have HN8 := hid hm8
     have HBL8 : Hid (Below w.heap.size w w8) := hid (below_grown (by have hbl7 := HBL7.out; have hb3 := HM3.out.below; exact qL) hg8 (fun i hi => by have := own_row_ge HROW7.out i hi; omega))
     have HO8 := hid hown8
     clear hm8 hown8 hg8 hn8 k7 f7 l7 ke le7
     go_wp2_with fail
     have hp8 := HP8.out
     have ha8 := HA8.out
     have hn8 := HN8.out
     have hbl8 := HBL8.out
     have hr3 := HM3.out.rng
     refine ⟨⟨j + 1, by dsimp only; rw [HNL.out]; omega, by rw [show ((j : Int) + 1) = ((j + 1 : Nat) : Int) by omega], hid ⟨p3, ⟨lev3, lm3, dd3, high3, ⟨rl3, rg3⟩, es3 ++ [e]⟩, .slice (some ⟨g8, 0, none⟩) (j + 1) c8, ⟨HM3.out.ok, ⟨hr3.high, fun x hx => ?_⟩, by dsimp only; rw [List.length_append, HL3.out]; rfl, by (have B := hp8; exact qK), by (have B := ha8; exact qK), Blk.cast (by have B := hn8; exact qK) ?_, ?_, qL⟩⟩⟩, by simp [intOf]; omega⟩
     ·rcases List.mem_append.1 hx with h1 | h1
      ·exact hr3.ents x h1
      ·obtain rfl := List.mem_singleton.1 h1
       exact HOKE.out
     ·rfl
     ·refine own_aside (own_cast HO8.out (by dsimp only; rw [List.length_append, HL3.out]; rfl) ?_) (p := ⟨w.heap.size + 1 + 1, 6, none⟩) (by show w.heap.size + 1 + 1 < w.heap.size + 1 + 1 + 1; omega) _
      dsimp only
      rw [entCells_append]
      rfl
    -- /DONE
   ·have bj : decide ((j : Int) < NL) = false := decide_eq_false (by omega)
    have bj2 : decide (j < NL) = false := decide_eq_false hj2
    obtain rfl : j = NL := by omega
    clear hj hj2
    obtain ⟨B1, hB1⟩ : ∃ B1 : Bool, B1 = (decide (1 < nr) && (decide (0 < j) && !peq rl3 rg3 0 0)) := ⟨_, rfl⟩
    have HBB := hid hB1
    clear hB1
    go_upto_region 21 with (fail)
    go_cut [132] from 119 to 132 (SlotCut (.bool B1) wj)
    case first =>
     by_cases h1 : 1 < nr
     ·have d1 : decide (1 < nr) = true := decide_eq_true h1
      by_cases h2 : 0 < j
      ·have d2 : decide ((0 : Int) < (j : Int)) = true := decide_eq_true (by omega)
       have d3 : decide (0 < j) = true := decide_eq_true h2
       go_wp2_with fail
       go_meet
       exact ⟨by rw [HBB.out, d1, d3]; simp, rfl⟩
      ·have d2 : decide ((0 : Int) < (j : Int)) = false := decide_eq_false (by omega)
       have d3 : decide (0 < j) = false := decide_eq_false h2
       go_wp2_with fail
       go_meet
       exact ⟨by rw [HBB.out, d1, d3]; simp, rfl⟩
     ·have d1 : decide (1 < nr) = false := decide_eq_false h1
      go_wp2_with fail
      go_meet
      exact ⟨by rw [HBB.out, d1]; simp, rfl⟩
    case rest =>
     obtain ⟨rfl, hw9⟩ := hcut
     obtain rfl := hw9.symm
     clear hw9
     go_upto_if 132 with (fail)
     go_cut [] from 132 to 147 (MidCut w ⟨lev, lm, dd, high, ⟨rl, rg⟩, es⟩ (.slice va j vc) j)
     case first =>
      cases B1 with
      | false =>
        go_wp2_with fail
        go_meet
        exact HMJ
      | true =>
        have hj0 : 0 < j := by
         have := HBB.out.symm
         simp only [Bool.and_eq_true, decide_eq_true_eq] at this
         exact this.2.1
        obtain ⟨g9, c9, hg9⟩ := own_form HM3.out.row (by show 0 < es3.length; rw [HL3.out]; exact hj0)
        simp only [Value.slice.injEq] at hg9
        obtain ⟨rfl, hjl9, rfl⟩ := hg9
        clear hjl9
        obtain ⟨j1, hj1⟩ : ∃ j1, j1 + 1 = j := ⟨j - 1, by omega⟩
        have hrow9 : wj.ownsRow (w.heap.size + 1 + 1 + 1) 69 3 (.slice (some ⟨g9, 0, none⟩) j cv3) j (entCells es3) := own_cast HM3.out.row HL3.out rfl
        obtain ⟨el, hel⟩ : ∃ el, es3[j1]? = some el := ⟨_, List.getElem?_eq_getElem (by rw [HL3.out]; omega)⟩
        have q0 : wj.cell? ⟨g9, j1 * 3, none⟩ = some (.int .u32 el.key) := own_cells hrow9 _ _ (entCells_get es3 j1 el hel 0 _ rfl)
        have wq : IntKind.i64.wrap ((j : Int) - 1) = (j1 : Int) := by rw [IntKind.wrap_i64]; omega
        have bq0 : (0 : Int) ≤ j1 := by omega
        have bq1 : (j1 : Int) < j := by omega
        have fq := fun i => hrow9.frozenAt i
        have lq := (own_lt hrow9).2
        have HROW9 := hid hrow9
        have HEL := hid hel
        have HJ1 := hid hj1
        clear hrow9 hel hj1 hj0
        go_wp2_with fail
        go_meet
        have hm := HM3.out
        have hb1 := hm.page
        have hb2 := hm.arg
        have hb4 := hm.node
        have hbl := hm.below
        exact hid ⟨p3, ⟨lev3, lm3, dd3, _, ⟨rl3, rg3⟩, es3⟩, .slice (some ⟨g9, 0, none⟩) j cv3, ⟨hm.ok, ⟨⟨Int.emod_nonneg _ (by decide), Int.emod_lt_of_pos _ (by decide)⟩, hm.rng.ents⟩, hm.len, by (have B := hb1; exact qK), by (have B := hb2; exact qK), Blk.cast (by have B := hb4; exact qK) (by rfl), own_aside hm.row (p := ⟨w.heap.size + 1 + 1, 3, none⟩) (by show w.heap.size + 1 + 1 < w.heap.size + 1 + 1 + 1; omega) _, qL⟩⟩
     case rest =>
      rename World => wc3
      have HM9 : Hid (∃ p m v, MidAt w ⟨lev, lm, dd, high, ⟨rl, rg⟩, es⟩ (.slice va j vc) j p m v wc3) := hcut
      clear hcut HM3 HL3 HMJ HBB kp ka km fp fm lp la lmm
      obtain ⟨p4, ⟨lev4, lm4, dd4, high4, ⟨rl4, rg4⟩, es4⟩, v4, hm4⟩ := HM9.out
      obtain ⟨pv4, cv4, rfl⟩ := own_shape hm4.row
      have hl4 : es4.length = j := hm4.len
      rw [show (⟨lev4, lm4, dd4, high4, ⟨rl4, rg4⟩, es4⟩ : Bt.Node).entries.length = j from hl4] at hm4
      have km := hm4.node.cell
      have fm := hm4.node.free
      have lmm := hm4.node.lt
      unfold nodeCells at km
      dsimp only at km
      have HM4 := hid hm4
      have HL4 := hid hl4
      clear hm4 hl4
      obtain ⟨B2, hB2⟩ : ∃ B2 : Bool, B2 = (decide (1 < nr) && (decide (0 < j) && (decide (0 < lev4) && peq rl4 rg4 0 0))) := ⟨_, rfl⟩
      have HBB := hid hB2
      clear hB2
      go_upto_region 23 with (fail)
      go_cut [166] from 148 to 166 (SlotCut (.bool B2) wc3)
      case first =>
       by_cases h1 : 1 < nr
       ·have d1 : decide (1 < nr) = true := decide_eq_true h1
        by_cases h2 : 0 < j
        ·have d2 : decide ((0 : Int) < (j : Int)) = true := decide_eq_true (by omega)
         have d3 : decide (0 < j) = true := decide_eq_true h2
         by_cases h3 : 0 < lev4
         ·have d4 : decide (0 < lev4) = true := decide_eq_true h3
          go_wp2_with fail
          go_meet
          exact ⟨by rw [HBB.out, d1, d3, d4]; simp, rfl⟩
         ·have d4 : decide (0 < lev4) = false := decide_eq_false h3
          go_wp2_with fail
          go_meet
          exact ⟨by rw [HBB.out, d1, d3, d4]; simp, rfl⟩
        ·have d2 : decide ((0 : Int) < (j : Int)) = false := decide_eq_false (by omega)
         have d3 : decide (0 < j) = false := decide_eq_false h2
         go_wp2_with fail
         go_meet
         exact ⟨by rw [HBB.out, d1, d3]; simp, rfl⟩
       ·have d1 : decide (1 < nr) = false := decide_eq_false h1
        go_wp2_with fail
        go_meet
        exact ⟨by rw [HBB.out, d1]; simp, rfl⟩
      case rest =>
       obtain ⟨rfl, hw9⟩ := hcut
       obtain rfl := hw9.symm
       clear hw9
       go_upto_if 166 with (fail)
       go_cut [] from 166 to 174 (MidCut w ⟨lev, lm, dd, high, ⟨rl, rg⟩, es⟩ (.slice va j vc) j)
       case first =>
        cases B2 with
        | false =>
          go_wp2_with fail
          go_meet
          exact HM9
        | true =>
          have hj0 : 0 < j := by
           have := HBB.out.symm
           simp only [Bool.and_eq_true, decide_eq_true_eq] at this
           exact this.2.1
          obtain ⟨g9, c9, hg9⟩ := own_form HM4.out.row (by show 0 < es4.length; rw [HL4.out]; exact hj0)
          simp only [Value.slice.injEq] at hg9
          obtain ⟨rfl, hjl9, rfl⟩ := hg9
          clear hjl9
          obtain ⟨j1, hj1⟩ : ∃ j1, j1 + 1 = j := ⟨j - 1, by omega⟩
          have hrow9 : wc3.ownsRow (w.heap.size + 1 + 1 + 1) 69 3 (.slice (some ⟨g9, 0, none⟩) j cv4) j (entCells es4) := own_cast HM4.out.row HL4.out rfl
          obtain ⟨el, hel⟩ : ∃ el, es4[j1]? = some el := ⟨_, List.getElem?_eq_getElem (by rw [HL4.out]; omega)⟩
          have q0 : wc3.cell? ⟨g9, j1 * 3, none⟩ = some (.int .u32 el.key) := own_cells hrow9 _ _ (entCells_get es4 j1 el hel 0 _ rfl)
          have wq : IntKind.i64.wrap ((j : Int) - 1) = (j1 : Int) := by rw [IntKind.wrap_i64]; omega
          have bq0 : (0 : Int) ≤ j1 := by omega
          have bq1 : (j1 : Int) < j := by omega
          have fq := fun i => hrow9.frozenAt i
          have lq := (own_lt hrow9).2
          have HROW9 := hid hrow9
          have HEL := hid hel
          have HJ1 := hid hj1
          clear hrow9 hel hj1 hj0
          go_wp2_with fail
          go_meet
          have hm := HM4.out
          have hb1 := hm.page
          have hb2 := hm.arg
          have hb4 := hm.node
          have hbl := hm.below
          have hge := (own_lt HROW9.out).1
          have hjl : j1 < es4.length := by rw [HL4.out]; have := HJ1.out; omega
          have hst := (HROW9.out.stored (j1 * 3) (.int .u32 4294967295)).1
          rw [entCells_key es4 j1 hjl] at hst
          refine hid ⟨p4, ⟨lev4, lm4, dd4, high4, ⟨rl4, rg4⟩, es4.set j1 ⟨4294967295, es4[j1].to⟩⟩, .slice (some ⟨g9, 0, none⟩) j cv4, ⟨hm.ok, ⟨hm.rng.high, fun x hx => ?_⟩, by dsimp only; rw [List.length_set]; exact HL4.out, by (have B := hb1; exact qK), by (have B := hb2; exact qK), Blk.cast (by have B := hb4; exact qK) (by rfl), own_cast hst (by dsimp only; rw [List.length_set]; exact HL4.out.symm) rfl, qL⟩⟩
          rcases List.mem_or_eq_of_mem_set hx with h1 | rfl
          ·exact hm.rng.ents x h1
          ·exact ⟨by show (0 : Int) ≤ 4294967295; decide, by show (4294967295 : Int) < 4294967296; decide⟩
       case rest =>
        rename World => wB
        have HMB : Hid (∃ p m v, MidAt w ⟨lev, lm, dd, high, ⟨rl, rg⟩, es⟩ (.slice va j vc) j p m v wB) := hcut
        clear hcut HM4 HL4 HM9 HBB km fm lmm
        obtain ⟨p5, ⟨lev5, lm5, dd5, high5, ⟨rl5, rg5⟩, es5⟩, v5, hm5⟩ := HMB.out
        obtain ⟨pv5, cv5, rfl⟩ := own_shape hm5.row
        have hl5 : es5.length = j := hm5.len
        rw [show (⟨lev5, lm5, dd5, high5, ⟨rl5, rg5⟩, es5⟩ : Bt.Node).entries.length = j from hl5] at hm5
        have kp := hm5.page.cell
        have km := hm5.node.cell
        have lp := hm5.page.lt
        have lmm := hm5.node.lt
        unfold Bt.Page.cells at kp
        unfold nodeCells at km
        dsimp only at km
        have HM5 := hid hm5
        have HL5 := hid hl5
        have HROW5 : Hid (wB.ownsRow (w.heap.size + 1 + 1 + 1) 69 3 (.slice pv5 j cv5) j (entCells es5)) := hid (own_cast hm5.row hl5 rfl)
        have HNB : Hid (NoneAt wB) := hid (HN.out.below hm5.below)
        clear hm5 hl5
        obtain ⟨⟨rc, ⟨lev6, lm6, dd6, high6, ⟨rl6, rg6⟩, es6⟩⟩, hR⟩ : ∃ r, readRes p5 = r := ⟨_, rfl⟩
        obtain ⟨⟨wq, wc⟩, hW⟩ : ∃ r, writeRes p5 ⟨lev5, lm5, dd5, high5, ⟨rl5, rg5⟩, es5⟩ = r := ⟨_, rfl⟩
        obtain ⟨n6, hn6⟩ : ∃ n6, es6.length = n6 := ⟨_, rfl⟩
        have hn65 : n6 ≤ 5 := by have h := (readRes_node HM5.out.ok).1; rw [hR] at h; rw [← hn6]; exact h
        have HE6 : Hid (n6 ≤ 5 ∧ ∀ e ∈ es6, e.Ok) := hid ⟨hn65, by have h := (readRes_node HM5.out.ok).2; rw [hR] at h; exact h⟩
        have HR := hid hR
        have HW := hid hW
        have HN6 := hid hn6
        clear hR hW hn6
        go_wp2_with fail
        go_at_call 28; refine (ReadNode_both p5 HM5.out.ok _ ?hng1).mono ?_
        case hng1 => exact HNB.out.below qL
        rintro e1 w1 ⟨a1, c1, he1, hr1, hb1⟩
        rw [HR.out] at he1 hr1
        dsimp only [nodeCells] at he1 hr1
        rw [HN6.out] at he1 hr1
        obtain rfl := he1
        have hs1 : ∀ (a : Addr) (md : Mode) (wx : World), (store a (.slice a1 n6 c1) md).run Tryz.prog wx = stored Tryz.prog wx a (.slice a1 n6 c1) md := fun a md wx => run_store Tryz.prog wx a (.slice a1 n6 c1) md rfl
        ((obtain ⟨hc1, hf1, hs1⟩ := qR hb1); (try have := qN0 w w1); (try have := qN1 w w1); (try have := qN2 w w1); (try have := qN0 wB w1))
        have HRW1 := hid hr1
        have HB1 := hid hb1
        clear hr1 hb1
        go_wp2_with fail
        go_at_call 35; refine (refReadNode_both p5 HM5.out.ok _).mono ?_
        rintro e2 w2 ⟨a2, c2, he2, hr2, hb2⟩
        rw [HR.out] at he2 hr2
        dsimp only [nodeCells] at he2 hr2
        rw [HN6.out] at he2 hr2
        obtain rfl := he2
        have hs2 : ∀ (a : Addr) (md : Mode) (wx : World), (store a (.slice a2 n6 c2) md).run Tryz.prog wx = stored Tryz.prog wx a (.slice a2 n6 c2) md := fun a md wx => run_store Tryz.prog wx a (.slice a2 n6 c2) md rfl
        ((obtain ⟨hc2, hf2, hs2⟩ := qR hb2); (try have := qN0 w w2); (try have := qN1 w w2); (try have := qN2 w w2); (try have := qN0 wB w2); (try have := qN0 w1 w2))
        have HRW2 := hid hr2
        have HB2 := hid hb2
        clear hr2 hb2
        go_wp2_with fail
        go_at_call 36; refine (WriteNode_both p5 ⟨lev5, lm5, dd5, high5, ⟨rl5, rg5⟩, es5⟩ (.slice pv5 j cv5) HM5.out.ok HM5.out.rng.high _ ?her ?hng3).mono ?_
        case her => exact EntRow.below (EntRow.of_own HROW5.out HL5.out HM5.out.rng.ents) (by have hb1 := HB1.out; have hb2 := HB2.out; exact qL)
        case hng3 => exact HNB.out.below (by have hb1 := HB1.out; have hb2 := HB2.out; exact qL)
        rintro e3 w3 ⟨he3, hb3⟩
        rw [HW.out] at he3
        obtain rfl := he3
        simp only [Bt.Page.cells]
        ((obtain ⟨hc3, hf3, hs3⟩ := qR hb3); (try have := qN0 w w3); (try have := qN1 w w3); (try have := qN2 w w3); (try have := qN0 wB w3); (try have := qN0 w1 w3); (try have := qN0 w2 w3))
        have HB3 := hid hb3
        clear hb3
        go_upto_region 28 with (fail)
        obtain ⟨wC, hwC⟩ : ∃ wC, wC = w3.alloc (.cells #[.int .i64 wq.line, .int .u64 wq.head, .int .u64 wq.d0, .int .u64 wq.d1, .int .u64 wq.d2, .int .u64 wq.d3, .int .u64 wq.d4, .int .u64 wq.d5, .int .u64 wq.d6] 25) := ⟨_, rfl⟩
        have BP : Blk wC w.heap.size 25 p5.cells := by rw [hwC]; exact (((((HM5.out.page.kept HB1.out).alloc _).kept HB2.out).alloc _).kept HB3.out).alloc _
        have BM : Blk wC (w.heap.size + 1 + 1) 73 (nodeCells ⟨lev5, lm5, dd5, high5, ⟨rl5, rg5⟩, es5⟩ (.slice pv5 j cv5)) := by rw [hwC]; exact (((((HM5.out.node.kept HB1.out).alloc _).kept HB2.out).alloc _).kept HB3.out).alloc _
        have BX : Blk wC w1.heap.size 73 (nodeCells ⟨lev6, lm6, dd6, high6, ⟨rl6, rg6⟩, es6⟩ (.slice a1 n6 c1)) := by rw [hwC]; exact ((((Blk.made _ _ _).kept HB2.out).alloc _).kept HB3.out).alloc _
        have BY : Blk wC w2.heap.size 91 (nodeCells ⟨lev6, lm6, dd6, high6, ⟨rl6, rg6⟩, es6⟩ (.slice a2 n6 c2)) := by rw [hwC]; exact ((Blk.made _ _ _).kept HB3.out).alloc _
        have BQ : Blk wC w3.heap.size 25 wq.cells := by rw [hwC]; exact Blk.made _ _ _
        have hbC : Below wB.heap.size wB wC := by rw [hwC]; have hb1 := HB1.out; have hb2 := HB2.out; have hb3 := HB3.out; exact qL
        have HRM : Hid (wC.ownsRow (w.heap.size + 1 + 1 + 1) 69 3 (.slice pv5 j cv5) j (entCells es5)) := hid (own_below HROW5.out hbC)
        have HRX : Hid (wC.ownsRow wB.heap.size 69 3 (.slice a1 n6 c1) n6 (entCells es6)) := hid (own_below HRW1.out (by rw [hwC]; have hb2 := HB2.out; have hb3 := HB3.out; exact qL))
        obtain ⟨bY, HRY⟩ : ∃ bY, Hid (wC.ownsRow bY 133 3 (.slice a2 n6 c2) n6 (entCells es6)) := ⟨_, hid (own_below HRW2.out (by rw [hwC]; have hb3 := HB3.out; exact qL))⟩
        have HBC : Hid (Below w.heap.size w wC) := hid (by have hb := HM5.out.below; have hc := hbC; exact qL)
        have HNC : Hid (NoneAt wC) := hid (HN.out.below HBC.out)
        rw [← hwC]
        clear hwC hbC HB1 HB2 HB3 HRW1 HRW2 HROW5 hc1 hc2 hc3 hf1 hf2 hf3 hs1 hs2 hs3 kp km lp lmm HNB
        have kp := BP.cell
        have km := BM.cell
        have kx := BX.cell
        have ky := BY.cell
        have kq := BQ.cell
        have lp := BP.lt
        have lmm := BM.lt
        have lx := BX.lt
        have ly := BY.lt
        have lq := BQ.lt
        unfold Bt.Page.cells at kp kq
        unfold nodeCells at km kx ky
        dsimp only at km kx ky
        have HBP := hid BP
        have HBM := hid BM
        have HBX := hid BX
        have HBY := hid BY
        have HBQ := hid BQ
        clear BP BM BX BY BQ
        go_cut [17, 18] from 191 to 197 (NWrote wq wc wC)
        case first =>
         -- DONE
         refine qA fun hSt => ?_
         refine qS [0, 1] ?_
         iterate 2 (refine qT ?_; simp only [Act.put, qY])
         refine TakeSeq.done ?_
         refine wpAnyH_ready (rs := [2, 7]) (by kernel_rfl) (by simp) ?_
         refine AllReadyH.cons rfl (fun K hK => ?_) (AllReadyH.cons rfl (fun K hK => ?_) (AllReadyH.nil))
         ·skip
          rw [if_pos (by rfl)]
          go_simp
          go_at_call 38; refine (node_any ⟨lev5, lm5, dd5, high5, ⟨rl5, rg5⟩, es5⟩ (.slice pv5 j cv5) _ ?her4x1 (by dsimp only; rw [HL5.out]; omega)).mono ?_; (case her4x1 => exact EntRow.below (EntRow.of_own HRM.out HL5.out HM5.out.rng.ents) qL); rintro e4 w4 ⟨v4, rfl, hown4, hb4⟩; obtain ⟨a4, c4, rfl⟩ := own_shape hown4; dsimp only at hown4; dsimp only [nodeCells]; rw [HL5.out] at hown4; rw [HL5.out]; obtain ⟨b4, HO4⟩ : ∃ b4, Hid (w4.ownsRow b4 133 3 (.slice a4 j c4) j (entCells es5)) := ⟨_, hid hown4⟩; clear hown4; ((obtain ⟨hc4, hf4, hs4⟩ := qR hb4); (try have := qN0 w w4); (try have := qN1 w w4); (try have := qN2 w w4); (try have := qN0 w1 w4); (try have := qN0 w2 w4); (try have := qN0 w3 w4); (try have := qN0 wC w4))
          go_wp2_with fail
          refine hK.out _ _ (SteadyAll.of qL) (fun hHeld => ?_)
          clear hK K
          refine wpAnyH_ready (rs := [3, 7]) (by kernel_rfl) (by simp) ?_
          refine AllReadyH.cons rfl (fun K hK => ?_) (AllReadyH.cons rfl (fun K hK => ?_) (AllReadyH.nil))
          ·skip
           rw [if_pos (by rfl)]
           go_simp
           go_at_call 37; refine (refWriteNode_both p5 HM5.out.ok ⟨lev5, lm5, dd5, high5, ⟨rl5, rg5⟩, es5⟩ HM5.out.rng.high b4 (.slice a4 j c4) _ ?how5x2).mono ?_; (case how5x2 => dsimp only; rw [HL5.out]; exact HO4.out); rintro e5 w5 ⟨he5, hb5⟩; rw [HW.out] at he5; obtain rfl := he5; simp only [Bt.Page.cells]; ((obtain ⟨hc5, hf5, hs5⟩ := qR hb5); (try have := qN0 w w5); (try have := qN1 w w5); (try have := qN2 w w5); (try have := qN0 w1 w5); (try have := qN0 w2 w5); (try have := qN0 w3 w5); (try have := qN0 wC w5); (try have := qN1 wC w5); (try have := qN0 w4 w5))
           go_wp2_with fail
           refine hK.out _ _ (SteadyAll.of qL) (fun hHeld => ?_)
           clear hK K
           refine qS [4, 5, 6] ?_
           iterate 3 (refine qT ?_; simp only [Act.put, qY])
           refine TakeSeq.done ?_
           refine qH 7 fun K hK => ?_
           go_simp
           refine hK.out _ _ (SteadyAll.of qL) (fun hHeld => ?_)
           clear hK K
           refine qH 8 fun K hK => ?_
           go_simp
           refine hK.out _ _ (SteadyAll.of qL) (fun hHeld => ?_)
           clear hK K
           refine qS [9] ?_
           refine qT ?_; simp only [Act.put, qY]
           refine TakeSeq.done ?_
           refine qD ?_ _
           go_wp2_with fail
           go_meet
           exact ⟨_, rfl, rfl, by first | omega | (simp; omega), by repeat (first | with_reducible refine Blk.drew ?_ | exact Blk.made _ _ _), qL⟩
          ·skip
           rw [if_pos (by rfl)]
           go_simp
           refine hK.out _ _ (SteadyAll.of qL) (fun hHeld => ?_)
           clear hK K
           refine qH 3 fun K hK => ?_
           go_simp
           go_at_call 37; refine (refWriteNode_both p5 HM5.out.ok ⟨lev5, lm5, dd5, high5, ⟨rl5, rg5⟩, es5⟩ HM5.out.rng.high b4 (.slice a4 j c4) _ ?how5x3).mono ?_; (case how5x3 => dsimp only; rw [HL5.out]; exact own_below HO4.out qL); rintro e5 w5 ⟨he5, hb5⟩; rw [HW.out] at he5; obtain rfl := he5; simp only [Bt.Page.cells]; ((obtain ⟨hc5, hf5, hs5⟩ := qR hb5); (try have := qN0 w w5); (try have := qN1 w w5); (try have := qN2 w w5); (try have := qN0 w1 w5); (try have := qN0 w2 w5); (try have := qN0 w3 w5); (try have := qN0 wC w5); (try have := qN1 wC w5); (try have := qN0 w4 w5); (try have := qN1 w4 w5))
           go_wp2_with fail
           refine hK.out _ _ (SteadyAll.of qL) (fun hHeld => ?_)
           clear hK K
           refine qS [4, 5, 6] ?_
           iterate 3 (refine qT ?_; simp only [Act.put, qY])
           refine TakeSeq.done ?_
           refine qH 8 fun K hK => ?_
           go_simp
           refine hK.out _ _ (SteadyAll.of qL) (fun hHeld => ?_)
           clear hK K
           refine qS [9] ?_
           refine qT ?_; simp only [Act.put, qY]
           refine TakeSeq.done ?_
           refine qD ?_ _
           go_wp2_with fail
           go_meet
           exact ⟨_, rfl, rfl, by first | omega | (simp; omega), Blk.cast (by have BB := Blk.kept (b := w4.heap.size) (made1 w4) hb5; (repeat (first | with_reducible exact BB | with_reducible apply Blk.put | with_reducible apply Blk.alloc | (with_reducible apply Blk.aside; (case hp => first | (simp; done) | (simp; omega))) | with_reducible apply Blk.drew))) (by rw [set9]; rfl), qL⟩
         ·skip
          rw [if_pos (by rfl)]
          go_simp
          refine hK.out _ _ (SteadyAll.of qL) (fun hHeld => ?_)
          clear hK K
          refine qH 2 fun K hK => ?_
          go_simp
          go_at_call 38; refine (node_any ⟨lev5, lm5, dd5, high5, ⟨rl5, rg5⟩, es5⟩ (.slice pv5 j cv5) _ ?her4x4 (by dsimp only; rw [HL5.out]; omega)).mono ?_; (case her4x4 => exact EntRow.below (EntRow.of_own HRM.out HL5.out HM5.out.rng.ents) qL); rintro e4 w4 ⟨v4, rfl, hown4, hb4⟩; obtain ⟨a4, c4, rfl⟩ := own_shape hown4; dsimp only at hown4; dsimp only [nodeCells]; rw [HL5.out] at hown4; rw [HL5.out]; obtain ⟨b4, HO4⟩ : ∃ b4, Hid (w4.ownsRow b4 133 3 (.slice a4 j c4) j (entCells es5)) := ⟨_, hid hown4⟩; clear hown4; ((obtain ⟨hc4, hf4, hs4⟩ := qR hb4); (try have := qN0 w w4); (try have := qN1 w w4); (try have := qN2 w w4); (try have := qN0 w1 w4); (try have := qN0 w2 w4); (try have := qN0 w3 w4); (try have := qN0 wC w4); (try have := qN1 wC w4))
          go_wp2_with fail
          refine hK.out _ _ (SteadyAll.of qL) (fun hHeld => ?_)
          clear hK K
          refine qH 3 fun K hK => ?_
          go_simp
          go_at_call 37; refine (refWriteNode_both p5 HM5.out.ok ⟨lev5, lm5, dd5, high5, ⟨rl5, rg5⟩, es5⟩ HM5.out.rng.high b4 (.slice a4 j c4) _ ?how5x5).mono ?_; (case how5x5 => dsimp only; rw [HL5.out]; exact HO4.out); rintro e5 w5 ⟨he5, hb5⟩; rw [HW.out] at he5; obtain rfl := he5; simp only [Bt.Page.cells]; ((obtain ⟨hc5, hf5, hs5⟩ := qR hb5); (try have := qN0 w w5); (try have := qN1 w w5); (try have := qN2 w w5); (try have := qN0 w1 w5); (try have := qN0 w2 w5); (try have := qN0 w3 w5); (try have := qN0 wC w5); (try have := qN1 wC w5); (try have := qN0 w4 w5))
          go_wp2_with fail
          refine hK.out _ _ (SteadyAll.of qL) (fun hHeld => ?_)
          clear hK K
          refine qS [4, 5, 6] ?_
          iterate 3 (refine qT ?_; simp only [Act.put, qY])
          refine TakeSeq.done ?_
          refine qH 8 fun K hK => ?_
          go_simp
          refine hK.out _ _ (SteadyAll.of qL) (fun hHeld => ?_)
          clear hK K
          refine qS [9] ?_
          refine qT ?_; simp only [Act.put, qY]
          refine TakeSeq.done ?_
          refine qD ?_ _
          go_wp2_with fail
          go_meet
          exact ⟨_, rfl, rfl, by simp, Blk.cast (by have BB := Blk.kept (Blk.kept (b := wC.heap.size) (Blk.drew (Blk.made' (by simp))) hb4) hb5; (repeat (first | with_reducible exact BB | with_reducible apply Blk.put | with_reducible apply Blk.alloc | (with_reducible apply Blk.aside; (case hp => first | (simp; done) | (simp; omega))) | with_reducible apply Blk.drew))) (by rw [set9]; rfl), qL⟩
         -- /DONE
        case rest =>
         rename World => wd
         obtain ⟨O, rfl, rfl, hO, BO, hbd⟩ := hcut
         ((obtain ⟨hc6, hf6, hs6⟩ := qR hbd); (try have := qN0 w wd); (try have := qN1 w wd); (try have := qN2 w wd); (try have := qN0 w1 wd); (try have := qN0 w2 wd); (try have := qN0 w3 wd))
         have HRMd := hid (own_below HRM.out hbd)
         have HRXd := hid (own_below HRX.out hbd)
         have HRYd := hid (own_below HRY.out hbd)
         have HBPd := hid (HBP.out.kept hbd)
         have HBMd := hid (HBM.out.kept hbd)
         have HBXd := hid (HBX.out.kept hbd)
         have HBYd := hid (HBY.out.kept hbd)
         have HBQd := hid (HBQ.out.kept hbd)
         have HND := hid (HNC.out.below hbd)
         have HBD := hid (below_step HBC.out hbd)
         clear HRM HRX HRY HBP HBM HBX HBY HBQ HNC HBC
         have gO := BO.cell
         have hOl := BO.lt
         unfold Bt.Page.cells at gO
         have HBO := hid BO
         clear BO hbd
         go_upto_region 29 with (fail)
         refine qA fun hSt => ?_
         refine qS [0, 1, 3] ?_
         iterate 3 (refine qT ?_; simp only [Act.put, qY])
         refine TakeSeq.done ?_
         refine qH 2 fun K hK => ?_
         go_simp
         go_at_call 38; refine (node_any ⟨lev6, lm6, dd6, high6, ⟨rl6, rg6⟩, es6⟩ (.slice a1 n6 c1) _ ?her7 (by dsimp only; rw [HN6.out]; omega)).mono ?_; (case her7 => exact EntRow.below (EntRow.of_own HRXd.out HN6.out HE6.out.2) qL); rintro e7 w7 ⟨v7, rfl, hown7, hb7⟩; obtain ⟨a7, c7, rfl⟩ := own_shape hown7; dsimp only at hown7; dsimp only [nodeCells]; rw [HN6.out] at hown7; rw [HN6.out]; obtain ⟨b7, HO7⟩ : ∃ b7, Hid (w7.ownsRow b7 133 3 (.slice a7 n6 c7) n6 (entCells es6)) := ⟨_, hid hown7⟩; clear hown7; ((obtain ⟨hc7, hf7, hs7⟩ := qR hb7); (try have := qN0 w w7); (try have := qN1 w w7); (try have := qN2 w w7); (try have := qN0 w1 w7); (try have := qN0 w2 w7); (try have := qN0 w3 w7))
         go_wp2_with fail
         refine hK.out _ _ (SteadyAll.of qL) (fun hHeld => ?_)
         clear hK K
         refine qH 4 fun K hK => ?_
         go_simp
         go_at_call 39; refine (sameNode_self ⟨lev6, lm6, dd6, high6, ⟨rl6, rg6⟩, es6⟩ b7 bY (.slice a7 n6 c7) (.slice a2 n6 c2) _ ?ha8 ?hb8 (by dsimp only; rw [HN6.out]; omega)).mono ?_; (case ha8 => dsimp only; rw [HN6.out]; exact own_below HO7.out qL); (case hb8 => dsimp only; rw [HN6.out]; exact own_below HRYd.out qL); rintro e8 w8 ⟨rfl, hb8⟩; ((obtain ⟨hc8, hf8, hs8⟩ := qR hb8); (try have := qN0 w w8); (try have := qN1 w w8); (try have := qN2 w w8); (try have := qN0 w1 w8); (try have := qN0 w2 w8); (try have := qN0 w3 w8))
         go_wp2_with fail
         refine hK.out _ _ (SteadyAll.of qL) (fun hHeld => ?_)
         clear hK K
         refine qS [5, 6, 7, 8, 9, 10, 11, 12, 13, 14] ?_
         iterate 10 (refine qT ?_; simp only [Act.put, qY])
         refine TakeSeq.done ?_
         refine qH 15 fun K hK => ?_
         go_simp
         go_at_call 20; refine (same_self wq _).mono ?_; rintro e9 w9 ⟨rfl, hb9⟩; ((obtain ⟨hc9, hf9, hs9⟩ := qR hb9); (try have := qN0 w w9); (try have := qN1 w w9); (try have := qN2 w w9); (try have := qN0 w1 w9); (try have := qN0 w2 w9); (try have := qN0 w3 w9))
         go_wp2_with fail
         refine hK.out _ _ (SteadyAll.of qL) (fun hHeld => ?_)
         clear hK K
         refine qS [16, 17, 18, 19, 20, 21, 22] ?_
         iterate 7 (refine qT ?_; simp only [Act.put, qY])
         refine TakeSeq.done ?_
         refine qD ?_ _
         have hb79 : Below wd.heap.size wd w9 := qL
         have HRM := hid (own_below HRMd.out hb79)
         have HBPe := hid (HBPd.out.kept hb79)
         have HRX := hid (own_below HRXd.out hb79)
         have HRY := hid (own_below HRYd.out hb79)
         have BM := HBMd.out.kept hb79
         have BX := HBXd.out.kept hb79
         have BY := HBYd.out.kept hb79
         have BQ := HBQd.out.kept hb79
         have HNE := hid (HND.out.below hb79)
         have HBE := hid (below_step HBD.out hb79)
         clear kp km kx ky kq gO hc6 hc7 hc8 hc9 hf6 hf7 hf8 hf9 HRMd HRXd HRYd HBPd HBMd HBXd HBYd HBQd HND HBD HBO hb7 hb8 hb9 hb79 HO7 hSt
         have km := BM.cell
         have kx := BX.cell
         have ky := BY.cell
         have kq := BQ.cell
         have fx := BX.free
         have fy := BY.free
         have fq := BQ.free
         unfold Bt.Page.cells at kq
         unfold nodeCells at km kx ky
         dsimp only at km kx ky
         have HBM := hid BM
         have HBX := hid BX
         have HBY := hid BY
         have HBQ := hid BQ
         clear BM BX BY BQ
         go_upto_if 222 with (fail)
         by_cases hz : wc = 0
         ·have hz0 : (wc != 0) = false := by rw [hz]; rfl
          obtain ⟨hz1, hz2, hz3, hz4⟩ := writeRes_zero HM5.out.ok HM5.out.rng.high (by rw [HW.out]; exact hz)
          have hwqo := writeRes_ok HM5.out.ok HM5.out.rng.high (by rw [HW.out]; exact hz)
          rw [HW.out] at hz1 hz2 hz3 hwqo
          dsimp only at hz1 hz2 hz3 hz4 hwqo
          have HZ1 := hid hz1
          have HZ2 := hid hz2
          have HZ3 := hid hz3
          have HZ4 := hid hz4
          have HWQ := hid hwqo
          clear hz1 hz2 hz3 hz4 hwqo
          go_wp2_with fail
          go_at_call 28; refine (ReadNode_both wq HWQ.out _ ?hng10).mono ?_
          case hng10 => exact HNE.out.below qL
          rintro e10 w10 ⟨a10, c10, he10, hr10, hb10⟩
          rw [HZ1.out] at he10 hr10
          dsimp only [nodeCells] at he10 hr10
          rw [HL5.out] at he10 hr10
          obtain rfl := he10
          have hs10 : ∀ (a : Addr) (md : Mode) (wx : World), (store a (.slice a10 j c10) md).run Tryz.prog wx = stored Tryz.prog wx a (.slice a10 j c10) md := fun a md wx => run_store Tryz.prog wx a (.slice a10 j c10) md rfl
          ((obtain ⟨hc10, hf10, hs10⟩ := qR hb10); (try have := qN0 w w10); (try have := qN1 w w10); (try have := qN2 w w10); (try have := qN0 w1 w10); (try have := qN0 w2 w10); (try have := qN0 w3 w10); (try have := qN0 w9 w10))
          have HRW10 := hid hr10
          clear hr10
          go_upto_region 34 with (fail)
          obtain ⟨wE, hwE⟩ : ∃ wE, wE = w10.alloc (.cells #[.int .i64 lev5, .bool lm5, .bool dd5, .int .u32 high5, .int .i64 rl5, .int .i64 rg5, .slice a10 j c10] 73) := ⟨_, rfl⟩
          have BP : Blk wE w.heap.size 25 p5.cells := by rw [hwE]; exact (HBPe.out.kept hb10).alloc _
          have BM : Blk wE (w.heap.size + 1 + 1) 73 (nodeCells ⟨lev5, lm5, dd5, high5, ⟨rl5, rg5⟩, es5⟩ (.slice pv5 j cv5)) := by rw [hwE]; exact (HBM.out.kept hb10).alloc _
          have BX := (HBX.out.kept hb10).alloc (.cells #[.int .i64 lev5, .bool lm5, .bool dd5, .int .u32 high5, .int .i64 rl5, .int .i64 rg5, .slice a10 j c10] 73)
          have BY := (HBY.out.kept hb10).alloc (.cells #[.int .i64 lev5, .bool lm5, .bool dd5, .int .u32 high5, .int .i64 rl5, .int .i64 rg5, .slice a10 j c10] 73)
          rw [← hwE] at BX BY
          have BQ : Blk wE w3.heap.size 25 wq.cells := by rw [hwE]; exact (HBQ.out.kept hb10).alloc _
          have BZ : Blk wE w10.heap.size 73 (nodeCells ⟨lev5, lm5, dd5, high5, ⟨rl5, rg5⟩, es5⟩ (.slice a10 j c10)) := by rw [hwE]; exact Blk.made _ _ _
          have hbE : Below w9.heap.size w9 wE := by rw [hwE]; exact qL
          have HRMe := hid (own_below HRM.out hbE)
          have HRZ : Hid (wE.ownsRow w9.heap.size 69 3 (.slice a10 j c10) j (entCells es5)) := hid (own_below HRW10.out (by rw [hwE]; exact qL))
          have HNF := hid (HNE.out.below hbE)
          have HBF := hid (below_step HBE.out hbE)
          rw [← hwE]
          clear hwE hbE hb10 HRM HRX HRY HRW10 HBPe HBM HBX HBY HBQ HNE HBE km kx ky kq fx fy fq hc10 hf10
          have kp := BP.cell
          have km := BM.cell
          have kq := BQ.cell
          have kz := BZ.cell
          have lp := BP.lt
          have lmm := BM.lt
          have lx := BX.lt
          have ly := BY.lt
          have lq := BQ.lt
          have lz := BZ.lt
          unfold Bt.Page.cells at kp kq
          unfold nodeCells at km kz
          dsimp only at km kz
          have HBX := hid BX
          have HBY := hid BY
          have HBQ := hid BQ
          clear BP BM BX BY BQ BZ
          have hne1 : (wq.line != p5.line) = false := by rw [HZ2.out]; simp
          have hne2 : (wq.head != p5.head) = false := by rw [HZ3.out]; simp
          refine qA fun hSt => ?_
          refine qS [0, 1, 2, 3, 5] ?_
          iterate 5 (refine qT ?_; simp only [Act.put, qY])
          refine TakeSeq.done ?_
          refine qH 4 fun K hK => ?_
          go_simp
          go_at_call 38; refine (node_any ⟨lev5, lm5, dd5, high5, ⟨rl5, rg5⟩, es5⟩ (.slice a10 j c10) _ ?her11 (by dsimp only; rw [HL5.out]; omega)).mono ?_; (case her11 => exact EntRow.below (EntRow.of_own HRZ.out HL5.out HM5.out.rng.ents) qL); rintro e11 w11 ⟨v11, rfl, hown11, hb11⟩; obtain ⟨a11, c11, rfl⟩ := own_shape hown11; dsimp only at hown11; dsimp only [nodeCells]; rw [HL5.out] at hown11; rw [HL5.out]; obtain ⟨b11, HO11⟩ : ∃ b11, Hid (w11.ownsRow b11 133 3 (.slice a11 j c11) j (entCells es5)) := ⟨_, hid hown11⟩; clear hown11; ((obtain ⟨hc11, hf11, hs11⟩ := qR hb11); (try have := qN0 w w11); (try have := qN1 w w11); (try have := qN2 w w11); (try have := qN0 w1 w11); (try have := qN0 w2 w11); (try have := qN0 w3 w11); (try have := qN0 w10 w11))
          go_wp2_with fail
          refine hK.out _ _ (SteadyAll.of qL) (fun hHeld => ?_)
          clear hK K
          refine qH 6 fun K hK => ?_
          go_simp
          go_at_call 38; refine (node_any ⟨lev5, lm5, dd5, high5, ⟨rl5, rg5⟩, es5⟩ (.slice pv5 j cv5) _ ?her12 (by dsimp only; rw [HL5.out]; omega)).mono ?_; (case her12 => exact EntRow.below (EntRow.of_own HRMe.out HL5.out HM5.out.rng.ents) qL); rintro e12 w12 ⟨v12, rfl, hown12, hb12⟩; obtain ⟨a12, c12, rfl⟩ := own_shape hown12; dsimp only at hown12; dsimp only [nodeCells]; rw [HL5.out] at hown12; rw [HL5.out]; obtain ⟨b12, HO12⟩ : ∃ b12, Hid (w12.ownsRow b12 133 3 (.slice a12 j c12) j (entCells es5)) := ⟨_, hid hown12⟩; clear hown12; ((obtain ⟨hc12, hf12, hs12⟩ := qR hb12); (try have := qN0 w w12); (try have := qN1 w w12); (try have := qN2 w w12); (try have := qN0 w1 w12); (try have := qN0 w2 w12); (try have := qN0 w3 w12); (try have := qN0 w10 w12))
          go_wp2_with fail
          refine hK.out _ _ (SteadyAll.of qL) (fun hHeld => ?_)
          clear hK K
          refine qH 7 fun K hK => ?_
          go_simp
          go_at_call 39; refine (sameNode_self ⟨lev5, lm5, dd5, high5, ⟨rl5, rg5⟩, es5⟩ b11 b12 (.slice a11 j c11) (.slice a12 j c12) _ ?ha13 ?hb13 (by dsimp only; rw [HL5.out]; omega)).mono ?_; (case ha13 => dsimp only; rw [HL5.out]; exact own_below HO11.out qL); (case hb13 => dsimp only; rw [HL5.out]; exact own_below HO12.out qL); rintro e13 w13 ⟨rfl, hb13⟩; ((obtain ⟨hc13, hf13, hs13⟩ := qR hb13); (try have := qN0 w w13); (try have := qN1 w w13); (try have := qN2 w w13); (try have := qN0 w1 w13); (try have := qN0 w2 w13); (try have := qN0 w3 w13); (try have := qN0 w10 w13))
          go_wp2_with fail
          refine hK.out _ _ (SteadyAll.of qL) (fun hHeld => ?_)
          clear hK K
          refine qS [8, 9, 10, 11, 12, 13, 14, 15, 16, 17, 18, 19, 20, 21, 22, 23] ?_
          iterate 16 (refine qT ?_; simp only [Act.put, qY])
          refine TakeSeq.done ?_
          refine qD ?_ _
          have hb13E : Below wE.heap.size wE w13 := qL
          have BX := HBX.out.kept hb13E
          have BY := HBY.out.kept hb13E
          have BQ := HBQ.out.kept hb13E
          have HNG := hid (HNF.out.below hb13E)
          have HBG := hid (below_step HBF.out hb13E)
          clear kp km kq kz hc11 hc12 hc13 hf11 hf12 hf13 hb11 hb12 hb13 hb13E HRMe HRZ HBX HBY HBQ HNF HBF HO11 HO12
          have kx := BX.cell
          have ky := BY.cell
          have kq := BQ.cell
          have fx := BX.free
          have fy := BY.free
          have fq := BQ.free
          unfold Bt.Page.cells at kq
          unfold nodeCells at kx ky
          dsimp only at kx ky
          have HBX := hid BX
          have HBY := hid BY
          have HBQ := hid BQ
          clear BX BY BQ kq
          go_upto_region 36 with (fail)
          have hk45 : I64 (k.tdiv 45) := tdiv_range k 45 (by omega) hk
          have ek45 : IntKind.i64.wrap (k.tdiv 45) = k.tdiv 45 := by have := hk45.1; have := hk45.2; rw [IntKind.wrap_i64]; omega
          have hk315 : I64 (k.tdiv 315) := tdiv_range k 315 (by omega) hk
          have ek315 : IntKind.i64.wrap (k.tdiv 315) = k.tdiv 315 := by have := hk315.1; have := hk315.2; rw [IntKind.wrap_i64]; omega
          have hp1 := Int.emod_nonneg (k.tdiv 45) (show (7 : Int) ≠ 0 by decide)
          have hp2 := Int.emod_lt_of_pos (k.tdiv 45) (show (0 : Int) < 7 by decide)
          have hp3 := Int.emod_nonneg (k.tdiv 315) (show (64 : Int) ≠ 0 by decide)
          have hp4 := Int.emod_lt_of_pos (k.tdiv 315) (show (0 : Int) < 64 by decide)
          obtain ⟨ix, hix⟩ : ∃ ix : Nat, pick (k.tdiv 45) 7 = (ix : Int) := ⟨((k.tdiv 45) % 7).toNat, (Int.toNat_of_nonneg hp1).symm⟩
          obtain ⟨sh, hsh⟩ : ∃ sh : Nat, pick (k.tdiv 315) 64 = (sh : Int) := ⟨((k.tdiv 315) % 64).toNat, (Int.toNat_of_nonneg hp3).symm⟩
          have hix7 : ix < 7 := by have h : pick (k.tdiv 45) 7 < 7 := hp2; omega
          have hsh64 : sh < 64 := by have h : pick (k.tdiv 315) 64 < 64 := hp4; omega
          clear hp1 hp2 hp3 hp4
          obtain ⟨wv, hwv⟩ := page_word7 wq ix hix7
          have q0 : w13.cell? ⟨w3.heap.size, 2 + ix, none⟩ = some (.int .u64 wv) := by rw [HBQ.out.cell]; exact hwv
          clear hwv
          have bi0 : (0 : Int) ≤ ix := by omega
          have bi1 : (ix : Int) < 7 := by omega
          have lq3 := HBQ.out.lt
          go_cut [] from 253 to 266 (FlipCut w13 w3.heap.size)
          case first =>
           refine wp_region_late (S := SteadyAll _) (last := 14) (by kernel_rfl) (by kernel_rfl) (SteadyAll.of (Below.refl _ _).drew) ?_
           intro hSt
           refine wpAnyL_seq (is := [0, 1, 3, 6, 7, 12]) (by kernel_rfl) (by kernel_rfl) (fun _ _ d _ _ h => by cases d <;> exact h) (by assumption) ?_
           iterate 6 (refine qU ?_; simp only [Act.put, qY])
           refine TakeSeqL.done ?_
           refine qHL 2 fun K hK => ?_
           go_simp
           go_at_call 13; refine (Pick_any (k.tdiv 45) 7 hk45 (by omega) _).mono ?_; rintro e14 w14 ⟨rfl, hw14⟩; obtain rfl := hw14; rw [hix]
           go_wp2_with fail
           refine hK.out _ _ (SteadyAll.of qL) (fun hHeld => ?_)
           clear hK K
           refine wpAnyL_seq (is := [4, 5]) (by kernel_rfl) (by kernel_rfl) (fun _ _ d _ _ h => by cases d <;> exact h) (by assumption) ?_
           iterate 2 (refine qU ?_; simp only [Act.put, qY])
           refine TakeSeqL.done ?_
           refine qHL 8 fun K hK => ?_
           go_simp
           go_at_call 13; refine (Pick_any (k.tdiv 315) 64 hk315 (by omega) _).mono ?_; rintro e15 w15 ⟨rfl, hw15⟩; obtain rfl := hw15; rw [hsh]
           go_wp2_with fail
           refine hK.out _ _ (SteadyAll.of qL) (fun hHeld => ?_)
           clear hK K
           refine wpAnyL_seq (is := [9, 10, 11, 13]) (by kernel_rfl) (by kernel_rfl) (fun _ _ d _ _ h => by cases d <;> exact h) (by assumption) ?_
           iterate 4 (refine qU ?_; simp only [Act.put, qY])
           refine TakeSeqL.done ?_
           refine wpAnyL_ready (rs := [14]) (by kernel_rfl) (by simp) ?_
           refine AllReadyL.final rfl (fun K hK => ?_)
           rw [if_pos (by rfl)]
           go_simp
           refine hK.out _ _ ?_
           clear hK K
           refine wpAnyL_done (by kernel_rfl) ?_ _
           go_wp2_with fail
           go_meet
           exact ⟨ix, _, hix7, (xor_range _ _).1, (xor_range _ _).2, rfl⟩
          case rest =>
           rename World => wf0
           obtain ⟨i7, x7, hi7, hx7, hx8, hwf⟩ := hcut
           clear hix hsh hix7 hsh64 q0 bi0 bi1 hk45 ek45 hk315 ek315
           obtain ⟨wq2, hok2, hcs2⟩ := page_put7 wq HWQ.out i7 x7 hi7 hx7 hx8
           have BQ : Blk wf0 w3.heap.size 25 wq2.cells := by rw [hwf]; exact Blk.drew (Blk.cast (HBQ.out.put (2 + i7) _) hcs2)
           have BX := (HBX.out.aside (p := ⟨w3.heap.size, 2 + i7, none⟩) (by show w1.heap.size ≠ w3.heap.size; omega) (.int .u64 x7)).drew
           have BY := (HBY.out.aside (p := ⟨w3.heap.size, 2 + i7, none⟩) (by show w2.heap.size ≠ w3.heap.size; omega) (.int .u64 x7)).drew
           have hbf : Below w.heap.size w wf0 := by rw [hwf]; have hbg := HBG.out; exact qL
           rw [← hwf] at BX BY
           clear hwf hcs2 HBQ HBX HBY HBG HNG kx ky fx fy fq
           have HOK2 := hid hok2
           have HNI := hid (HN.out.below hbf)
           have HBI := hid hbf
           have kx := BX.cell
           have ky := BY.cell
           have kq := BQ.cell
           have fx := BX.free
           have fy := BY.free
           have lx := BX.lt
           have ly := BY.lt
           have lq := BQ.lt
           unfold Bt.Page.cells at kq
           unfold nodeCells at kx ky
           dsimp only at kx ky
           have HBX := hid BX
           have HBY := hid BY
           have HBQ := hid BQ
           clear BX BY BQ hbf hok2
           obtain ⟨⟨rc7, ⟨lev7, lm7, dd7, high7, ⟨rl7, rg7⟩, es7⟩⟩, hR7⟩ : ∃ r, readRes wq2 = r := ⟨_, rfl⟩
           obtain ⟨n7, hn7⟩ : ∃ n7, es7.length = n7 := ⟨_, rfl⟩
           have hn75 : n7 ≤ 5 := by have h := (readRes_node HOK2.out).1; rw [hR7] at h; rw [← hn7]; exact h
           have HE7 : Hid (n7 ≤ 5 ∧ ∀ e ∈ es7, e.Ok) := hid ⟨hn75, by have h := (readRes_node HOK2.out).2; rw [hR7] at h; exact h⟩
           have HR7 := hid hR7
           have HN7 := hid hn7
           clear hR7 hn7
           go_wp2_with fail
           go_at_call 28; refine (ReadNode_both wq2 HOK2.out _ ?hng16).mono ?_
           case hng16 => exact HNI.out.below qL
           rintro e16 w16 ⟨a16, c16, he16, hr16, hb16⟩
           rw [HR7.out] at he16 hr16
           dsimp only [nodeCells] at he16 hr16
           rw [HN7.out] at he16 hr16
           obtain rfl := he16
           have hs16 : ∀ (a : Addr) (md : Mode) (wx : World), (store a (.slice a16 n7 c16) md).run Tryz.prog wx = stored Tryz.prog wx a (.slice a16 n7 c16) md := fun a md wx => run_store Tryz.prog wx a (.slice a16 n7 c16) md rfl
           ((obtain ⟨hc16, hf16, hs16⟩ := qR hb16); (try have := qN0 w w16); (try have := qN1 w w16); (try have := qN2 w w16); (try have := qN0 w1 w16); (try have := qN0 w2 w16); (try have := qN0 w3 w16); (try have := qN0 wf0 w16))
           have HRW16 := hid hr16
           have HB16 := hid hb16
           clear hr16 hb16
           go_wp2_with fail
           obtain ⟨wK, hwK⟩ : ∃ wK, wK = (((((((w16.setCell ⟨w1.heap.size, 0, none⟩ (.int .i64 lev7)).setCell ⟨w1.heap.size, 1, none⟩ (.bool lm7)).setCell ⟨w1.heap.size, 2, none⟩ (.bool dd7)).setCell ⟨w1.heap.size, 3, none⟩ (.int .u32 high7)).setCell ⟨w1.heap.size, 4, none⟩ (.int .i64 rl7)).setCell ⟨w1.heap.size, 5, none⟩ (.int .i64 rg7)).setCell ⟨w1.heap.size, 6, none⟩ (.slice a16 n7 c16)) := ⟨_, rfl⟩
           have BX : Blk wK w1.heap.size 73 (nodeCells ⟨lev7, lm7, dd7, high7, ⟨rl7, rg7⟩, es7⟩ (.slice a16 n7 c16)) := by rw [hwK]; exact Blk.all7 (HBX.out.kept HB16.out) _ _ _ _ _ _ _
           have hrx : wK.ownsRow wf0.heap.size 69 3 (.slice a16 n7 c16) n7 (entCells es7) := by rw [hwK]; (iterate 7 (refine own_aside ?_ (by show w1.heap.size < wf0.heap.size; omega) _)); exact HRW16.out
           have BY : Blk wK w2.heap.size 91 (nodeCells ⟨lev6, lm6, dd6, high6, ⟨rl6, rg6⟩, es6⟩ (.slice a2 n6 c2)) := by rw [hwK]; (iterate 7 (refine Blk.aside ?_ (by show w2.heap.size ≠ w1.heap.size; omega) _)); exact HBY.out.kept HB16.out
           have hbk : Below w.heap.size w wK := by rw [hwK]; have hbi := HBI.out; have hb16 := HB16.out; exact qL
           rw [← hwK]
           clear hwK hc16 hf16 HB16 HRW16 HBX HBY HBQ HBI HNI kx ky kq fx fy
           have HNK := hid (HN.out.below hbk)
           have HBK := hid hbk
           have HRX := hid hrx
           have kx := BX.cell
           have ky := BY.cell
           have fy := BY.free
           have lxk := BX.lt
           have lyk := BY.lt
           unfold nodeCells at kx ky
           dsimp only at kx ky
           have HBX := hid BX
           have HBY := hid BY
           clear BX BY hbk hrx
           go_at_call 35; refine (refReadNode_both wq2 HOK2.out _).mono ?_
           rintro e18 w18 ⟨a18, c18, he18, hr18, hb18⟩
           rw [HR7.out] at he18 hr18
           dsimp only [nodeCells] at he18 hr18
           rw [HN7.out] at he18 hr18
           obtain rfl := he18
           have hs18 : ∀ (a : Addr) (md : Mode) (wx : World), (store a (.slice a18 n7 c18) md).run Tryz.prog wx = stored Tryz.prog wx a (.slice a18 n7 c18) md := fun a md wx => run_store Tryz.prog wx a (.slice a18 n7 c18) md rfl
           ((obtain ⟨hc18, hf18, hs18⟩ := qR hb18); (try have := qN0 w w18); (try have := qN1 w w18); (try have := qN2 w w18); (try have := qN0 w1 w18); (try have := qN0 w2 w18); (try have := qN0 w3 w18); (try have := qN0 wK w18))
           have HRW18 := hid hr18
           have HB18 := hid hb18
           clear hr18 hb18
           go_upto_region 39 with (fail)
           obtain ⟨wG, hwG⟩ : ∃ wG, wG = (((((((w18.setCell ⟨w2.heap.size, 0, none⟩ (.int .i64 lev7)).setCell ⟨w2.heap.size, 1, none⟩ (.bool lm7)).setCell ⟨w2.heap.size, 2, none⟩ (.bool dd7)).setCell ⟨w2.heap.size, 3, none⟩ (.int .u32 high7)).setCell ⟨w2.heap.size, 4, none⟩ (.int .i64 rl7)).setCell ⟨w2.heap.size, 5, none⟩ (.int .i64 rg7)).setCell ⟨w2.heap.size, 6, none⟩ (.slice a18 n7 c18)) := ⟨_, rfl⟩
           have BX : Blk wG w1.heap.size 73 (nodeCells ⟨lev7, lm7, dd7, high7, ⟨rl7, rg7⟩, es7⟩ (.slice a16 n7 c16)) := by rw [hwG]; (iterate 7 (refine Blk.aside ?_ (by show w1.heap.size ≠ w2.heap.size; omega) _)); exact HBX.out.kept HB18.out
           have BY : Blk wG w2.heap.size 91 (nodeCells ⟨lev7, lm7, dd7, high7, ⟨rl7, rg7⟩, es7⟩ (.slice a18 n7 c18)) := by rw [hwG]; exact Blk.all7 (HBY.out.kept HB18.out) _ _ _ _ _ _ _
           have hrx : wG.ownsRow wf0.heap.size 69 3 (.slice a16 n7 c16) n7 (entCells es7) := by rw [hwG]; (iterate 7 (refine own_aside ?_ (by show w2.heap.size < wf0.heap.size; omega) _)); exact own_below HRX.out HB18.out
           obtain ⟨bG, hry⟩ : ∃ bG, wG.ownsRow bG 133 3 (.slice a18 n7 c18) n7 (entCells es7) := ⟨wK.heap.size, by rw [hwG]; (iterate 7 (refine own_aside ?_ (by show w2.heap.size < wK.heap.size; omega) _)); exact HRW18.out⟩
           have hbg : Below w.heap.size w wG := by rw [hwG]; have hbk := HBK.out; have hb18 := HB18.out; exact qL
           rw [← hwG]
           clear hwG hc18 hf18 HB18 HRW18 HRX HBX HBY HBK HNK kx ky fy
           have HNM := hid (HN.out.below hbg)
           have HBM := hid hbg
           have HRXg := hid hrx
           have HRYg := hid hry
           have kx := BX.cell
           have ky := BY.cell
           have lxg := BX.lt
           have lyg := BY.lt
           unfold nodeCells at kx ky
           dsimp only at kx ky
           clear BX BY hbg hrx hry
           refine qA fun hSt => ?_
           refine qH 0 fun K hK => ?_
           go_simp
           go_at_call 21; refine (awake_any _ ?hna20b).mono ?_; (case hna20b => exact HNM.out.below qL); rintro e20 w20 ⟨rfl, hb20⟩; ((obtain ⟨hc20, hf20, hs20⟩ := qR hb20); (try have := qN0 w w20); (try have := qN1 w w20); (try have := qN2 w w20); (try have := qN0 w1 w20); (try have := qN0 w2 w20); (try have := qN0 w3 w20))
           go_wp2_with fail
           refine hK.out _ _ (SteadyAll.of qL) (fun hHeld => ?_)
           clear hK K
           refine qS [1, 2, 4] ?_
           iterate 3 (refine qT ?_; simp only [Act.put, qY])
           refine TakeSeq.done ?_
           refine qH 3 fun K hK => ?_
           go_simp
           go_at_call 38; refine (node_any ⟨lev7, lm7, dd7, high7, ⟨rl7, rg7⟩, es7⟩ (.slice a16 n7 c16) _ ?her21 (by dsimp only; rw [HN7.out]; omega)).mono ?_; (case her21 => exact EntRow.below (EntRow.of_own HRXg.out HN7.out HE7.out.2) qL); rintro e21 w21 ⟨v21, rfl, hown21, hb21⟩; obtain ⟨a21, c21, rfl⟩ := own_shape hown21; dsimp only at hown21; dsimp only [nodeCells]; rw [HN7.out] at hown21; rw [HN7.out]; obtain ⟨b21, HO21⟩ : ∃ b21, Hid (w21.ownsRow b21 133 3 (.slice a21 n7 c21) n7 (entCells es7)) := ⟨_, hid hown21⟩; clear hown21; ((obtain ⟨hc21, hf21, hs21⟩ := qR hb21); (try have := qN0 w w21); (try have := qN1 w w21); (try have := qN2 w w21); (try have := qN0 w1 w21); (try have := qN0 w2 w21); (try have := qN0 w3 w21))
           go_wp2_with fail
           refine hK.out _ _ (SteadyAll.of qL) (fun hHeld => ?_)
           clear hK K
           refine qH 5 fun K hK => ?_
           go_simp
           go_at_call 39; refine (sameNode_self ⟨lev7, lm7, dd7, high7, ⟨rl7, rg7⟩, es7⟩ b21 bG (.slice a21 n7 c21) (.slice a18 n7 c18) _ ?ha22 ?hb22 (by dsimp only; rw [HN7.out]; omega)).mono ?_; (case ha22 => dsimp only; rw [HN7.out]; exact own_below HO21.out qL); (case hb22 => dsimp only; rw [HN7.out]; exact own_below HRYg.out qL); rintro e22 w22 ⟨rfl, hb22⟩; ((obtain ⟨hc22, hf22, hs22⟩ := qR hb22); (try have := qN0 w w22); (try have := qN1 w w22); (try have := qN2 w w22); (try have := qN0 w1 w22); (try have := qN0 w2 w22); (try have := qN0 w3 w22))
           go_wp2_with fail
           refine hK.out _ _ (SteadyAll.of qL) (fun hHeld => ?_)
           clear hK K
           refine qS [6, 7, 8, 9, 10, 11, 12] ?_
           iterate 7 (refine qT ?_; simp only [Act.put, qY])
           refine TakeSeq.done ?_
           refine qD ?_ _
           go_wp2_with fail
           go_ret
           have hbM := HBM.out
           exact ⟨rfl, qL⟩
         ·have hz0 : (wc != 0) = true := by simp [hz]
          go_wp2_with fail
          go_at_call 21; refine (awake_any _ ?hna20).mono ?_
          case hna20 => exact HNE.out.below qL
          rintro e20 w20 ⟨rfl, hb20⟩
          go_wp2_with fail
          go_ret
          have hbE := HBE.out
          exact ⟨rfl, qL⟩
end Go.Proofs.YtjmpekanlmepmaaGreatDoor
