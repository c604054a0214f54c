/- The reference reads a node: where the first tests fail. -/
import Derived.Test.YtjmpekanlmepmaaGreatDoorNN17
import Derived.Test.YtjmpekanlmepmaaGreatDoorNN13
import Derived.Test.YtjmpekanlmepmaaGreatDoorNN05
import Derived.Deep.CutBlock
import Derived.Test.YtjmpekanlmepmaaGreatDoorNN01
set_option linter.all false
set_option maxRecDepth 20000
set_option maxHeartbeats 8000000
open Go.Lib (hid)
namespace Go.Proofs.YtjmpekanlmepmaaGreatDoor
open Go.RowKit
def RefReadPost (p : Bt.Page) (w : World) (e : Ending) (w' : World) : Prop :=
 (Bt.refReadNode p = none ∧ e = .returned (.tuple #[.agg (nodeCells Bt.zeroNode (.slice none 0 0)), .int .i64 14]) ∧ Below w.heap.size w w') ∨
 ∃ v, Bt.refReadNode p = some p.node ∧ e = .returned (.tuple #[.agg (nodeCells p.node v), .int .i64 0]) ∧ w'.ownsRow w.heap.size 133 3 v p.node.entries.length (entCells p.node.entries) ∧ Below w.heap.size w w'
def refHeadBad (p : Bt.Page) : Prop := Bt.tagKind p.d0 ≠ 4 ∨ Bt.tagAux p.d0 / 262144 ≠ 0 ∨ 5 < p.count
theorem refReadNode_headBad {p : Bt.Page} (h : refHeadBad p) : Bt.refReadNode p = none := by unfold refHeadBad at h; unfold Bt.refReadNode; rw [if_pos h]
theorem refRead_head (p : Bt.Page) (hp : p.Ok) (w : World) (h : refHeadBad p) : Calls Tryz.prog 35 #[.agg p.cells] w (RefReadPost p w) := by
 have HX := hid (refReadNode_headBad h)
 have Hp := hid hp
 have HH := hid h
 have ha := Page.node_bounds p hp
 have hpd := hp.d0
 have hpd1 := hp.d1
 have HCELL : Hid (p.cells = #[.int .i64 p.line, .int .u64 p.head, .int .u64 p.d0, .int .u64 p.d1, .int .u64 p.d2, .int .u64 p.d3, .int .u64 p.d4, .int .u64 p.d5, .int .u64 p.d6]) := hid rfl
 obtain ⟨A, hA⟩ : ∃ A, Bt.tagAux p.d0 = A := ⟨_, rfl⟩
 have HA := hid hA
 rw [hA] at ha
 clear h hp hA
 have hcases : (Bt.tagKind p.d0 != 4) = true ∨ ((Bt.tagKind p.d0 != 4) = false ∧ (A / 262144 != 0) = true) ∨ ((Bt.tagKind p.d0 != 4) = false ∧ (A / 262144 != 0) = false ∧ decide (5 < A / 256 % 256) = true) := by
  have h := HH.out
  unfold refHeadBad Bt.Page.count at h
  rw [HA.out] at h
  by_cases h1 : Bt.tagKind p.d0 = 4
  ·by_cases h2 : A / 262144 = 0
   ·exact .inr (.inr ⟨by simp [h1], by simp [h2], by rcases h with h | h | h; exact absurd h1 h; exact absurd h2 h; simpa using h⟩)
   ·exact .inr (.inl ⟨by simp [h1], by simp [h2]⟩)
  ·exact .inl (by simp [h1])
 obtain ⟨K, hK⟩ : ∃ K, Bt.tagKind p.d0 = K := ⟨_, rfl⟩
 have HK := hid hK
 rw [hK] at hcases
 clear hK
 unfold Bt.Page.cells
 rcases hcases with b1 | ⟨b1, b2⟩ | ⟨b1, b2, b3⟩
 all_goals
  go_enter Tryz.func35, Tryz.ntmps35
  go_wp2_with fail
  go_at_call 68; refine (refAux_any p Hp.out _).mono ?_; rintro e1 w1 ⟨rfl, hb1⟩; rw [HA.out]; ((obtain ⟨hc1, hf1, hs1⟩ := qR hb1); (try have := qN0 w w1); (try have := qN1 w w1))
  go_wp2_with fail
  go_at_call 69; refine (refKind_any p Hp.out _).mono ?_; rintro e2 w2 ⟨rfl, hb2⟩; rw [HK.out]; ((obtain ⟨hc2, hf2, hs2⟩ := qR hb2); (try have := qN0 w w2); (try have := qN1 w w2); (try have := qN0 w1 w2))
  go_wp2_with fail
  have B := ((((made22 w (t := 91) (cs := nodeCells Bt.zeroNode (.slice none 0 0))).kept hb1).alloc _).kept hb2)
  simp only [nodeCells, Bt.zeroNode, Bt.nilP] at B
  refine bodyPost_ret (results_bt rfl _ _ (w.heap.size + 1) _ _ _ rfl (by exact qK) Tryz.underlying91 rfl (by kernel_rfl)) rfl ?_
  exact .inl ⟨HX.out, by rw [set7]; rfl, qL⟩
theorem refValid_any (n : Bt.Node) (base : Nat) (v : Value) (w : World) (hv : w.ownsRow base 133 3 v n.entries.length (entCells n.entries)) : Calls Tryz.prog 70 #[.agg (nodeCells n v)] w (ValidPost n w) := by
 by_cases h : headBad n
 ·obtain ⟨a, c, rfl⟩ := own_slice hv
  exact refValid_head n a c w h
 ·exact refValid_rest n base v w h hv
structure RefReadAt (p : Bt.Page) (w : World) (g k : Nat) (v : Value) (wr : World) : Prop where
 node : Blk wr g 91 (nodeCells (bareNode p) v)
 own : wr.ownsRow (g + 1) 133 3 v k (entCells (entriesUpto p k))
 below : Below w.heap.size w wr
 page : Blk wr w.heap.size 25 p.cells
 out : Blk wr (w.heap.size + 1) 91 (nodeCells Bt.zeroNode (.slice none 0 0))
 gl : w.heap.size + 1 < g
def RefReadRel (p : Bt.Page) (w : World) (g c : Nat) (i : Value) (wr : World) : Prop := ∃ k v, k ≤ 5 ∧ i = .int .i64 ((k : Nat) : Int) ∧ Hid (RefReadAt p w g (min k c) v wr ∧ ∀ j, c ≤ j → j < k → wordAt' p j = 0)
theorem ref_bare (p : Bt.Page) (hp : p.Ok) : (#[.int .i64 (Bt.tagAux p.d0 % 256), .bool (bits .and .u32 (Bt.tagAux p.d0 / 65536) 1 == 1), .bool (bits .and .u32 (Bt.tagAux p.d0 / 131072) 1 == 1), .int .u32 (p.d1 % 4294967296), .int .i64 (p.d1 / 4294967296 % 256), .int .i64 (p.d1 / 4294967296 / 256), .slice none 0 0] : Array Value) = nodeCells (bareNode p) (.slice none 0 0) := by
 have ha := Page.node_bounds p hp
 have e3 : bits .and .u32 (Bt.tagAux p.d0 / 65536) 1 = Bt.tagAux p.d0 / 65536 % 2 := and_u32_mask 1 1 _ rfl (by omega) (by omega) (by omega)
 have e4 : bits .and .u32 (Bt.tagAux p.d0 / 131072) 1 = Bt.tagAux p.d0 / 131072 % 2 := and_u32_mask 1 1 _ rfl (by omega) (by omega) (by omega)
 rw [e3, e4]
 have f : ∀ x : Int, (x == 1) = decide (x = 1) := fun x => by by_cases h : x = 1 <;> simp [h]
 rw [f, f]
 rfl
theorem refRead_walk (p : Bt.Page) (hp : p.Ok) (w : World) (hk : Bt.tagKind p.d0 = 4) (ha4 : Bt.tagAux p.d0 / 262144 = 0) (hc : p.count ≤ 5) : Calls Tryz.prog 35 #[.agg p.cells] w (RefReadPost p w) := by
 have Hp := hid hp
 have ha := Page.node_bounds p hp
 have hpd1 := hp.d1
 obtain ⟨c, hcn⟩ : ∃ c : Nat, Bt.tagAux p.d0 / 256 % 256 = (c : Int) := ⟨(Bt.tagAux p.d0 / 256 % 256).toNat, by omega⟩
 have hcc : p.count = (c : Int) := hcn
 have hc5 : c ≤ 5 := by omega
 have HC := hid hcc
 have HB := hid (ref_bare p hp)
 obtain ⟨R, hR⟩ : ∃ R, p.d1 / 4294967296 = R := ⟨_, rfl⟩
 have HR := hid hR
 have hR0 : 0 ≤ R ∧ R < 4294967296 := by omega
 obtain ⟨A, hA⟩ : ∃ A, Bt.tagAux p.d0 = A := ⟨_, rfl⟩
 have HA := hid hA
 have HK := hid hk
 have HA4 := hid ha4
 rw [hA] at ha hcn ha4
 have b2 : (A / 262144 != 0) = false := by simp [ha4]
 have b3 : decide ((5 : Int) < c) = false := decide_eq_false (by omega)
 have b3' : decide (5 < c) = false := decide_eq_false (by omega)
 have hcases : ((R != 0) = true ∧ Bt.validP (Bt.unpack R) = false) ∨ ((R != 0) = false ∧ R = 0) ∨ ((R != 0) = true ∧ Bt.validP (Bt.unpack R) = true) := by
  by_cases h : R = 0
  ·exact .inr (.inl ⟨by simp [h], h⟩)
  ·cases hv : Bt.validP (Bt.unpack R) with
   | false => exact .inl ⟨by simp [h], rfl⟩
   | true => exact .inr (.inr ⟨by simp [h], rfl⟩)
 have HCN := hid hcn
 clear hp hcc hR hA hk ha4 hc
 unfold Bt.Page.cells
 go_enter Tryz.func35, Tryz.ntmps35
 go_wp2_with fail
 go_at_call 68; refine (refAux_any p Hp.out _).mono ?_; rintro e1 w1 ⟨rfl, hb1⟩; rw [HA.out]; ((obtain ⟨hc1, hf1, hs1⟩ := qR hb1); (try have := qN0 w w1); (try have := qN1 w w1))
 go_wp2_with fail
 rw [HCN.out, HR.out]
 clear hcn
 go_at_call 69; refine (refKind_any p Hp.out _).mono ?_; rintro e2 w2 ⟨rfl, hb2⟩; rw [HK.out]; ((obtain ⟨hc2, hf2, hs2⟩ := qR hb2); (try have := qN0 w w2); (try have := qN1 w w2); (try have := qN0 w1 w2))
 have B0 := (((made22 w (t := 91) (cs := nodeCells Bt.zeroNode (.slice none 0 0))).kept hb1).alloc (.cells #[.int .i64 (A % 256), .bool (bits .and .u32 (A / 65536) 1 == 1), .bool (bits .and .u32 (A / 131072) 1 == 1), .int .u32 (p.d1 % 4294967296), .int .i64 0, .int .i64 0, .slice none 0 0] 91)).kept hb2
 have BP := (((made12 w (t := 25) (cs := p.cells)).kept hb1).alloc (.cells #[.int .i64 (A % 256), .bool (bits .and .u32 (A / 65536) 1 == 1), .bool (bits .and .u32 (A / 131072) 1 == 1), .int .u32 (p.d1 % 4294967296), .int .i64 0, .int .i64 0, .slice none 0 0] 91)).kept hb2
 have BG := (Blk.made w1 91 #[.int .i64 (A % 256), .bool (bits .and .u32 (A / 65536) 1 == 1), .bool (bits .and .u32 (A / 131072) 1 == 1), .int .u32 (p.d1 % 4294967296), .int .i64 0, .int .i64 0, .slice none 0 0]).kept hb2
 have HB0 := hid B0
 have HBP := hid BP
 have HBG := hid BG
 have HB1 := hid hb1
 have HB2 := hid hb2
 clear B0 BP BG
 have hw12 : w.heap.size + 1 < w1.heap.size := by have := hb1.size; simp at this; omega
 rcases hcases with ⟨b4, hvp⟩ | hcases
 ·have HVP : Hid (Bt.validP ⟨(Bt.unpack R).line, (Bt.unpack R).gen⟩ = false) := hid hvp
  have HX : Hid (Bt.refReadNode p = none) := hid (by
   unfold Bt.refReadNode
   by_cases h1 : Bt.tagKind p.d0 ≠ 4 ∨ Bt.tagAux p.d0 / 262144 ≠ 0 ∨ 5 < p.count
   ·rw [if_pos h1]
   ·rw [if_neg h1, if_pos ⟨by rw [HR.out]; simpa using b4, by rw [HR.out]; exact hvp⟩])
  clear hvp
  go_wp2_with fail
  go_at_call 42; refine (refUnpack_any R hR0.1 hR0.2 _).mono ?_; rintro e3 w3 ⟨rfl, hb3⟩; ((obtain ⟨hc3, hf3, hs3⟩ := qR hb3); (try have := qN0 w w3); (try have := qN1 w w3); (try have := qN0 w1 w3); (try have := qN0 w2 w3))
  simp only [Bt.Ptr.cells]
  go_wp2_with fail
  go_at_call 43; refine (ValidPointer_any _ _ _).mono ?_; rintro e4 w4 ⟨rfl, hb4⟩; rw [HVP.out]; ((obtain ⟨hc4, hf4, hs4⟩ := qR hb4); (try have := qN0 w w4); (try have := qN1 w w4); (try have := qN0 w1 w4); (try have := qN0 w2 w4))
  have B := (((HB0.out.kept hb3).aside (p := ⟨w1.heap.size, 4, none⟩) (by show w.heap.size + 1 ≠ w1.heap.size; omega) (.int .i64 (Bt.unpack R).line)).aside (p := ⟨w1.heap.size, 5, none⟩) (by show w.heap.size + 1 ≠ w1.heap.size; omega) (.int .i64 (Bt.unpack R).gen)).kept hb4
  go_wp2_with fail
  simp only [nodeCells, Bt.zeroNode, Bt.nilP] at B
  refine bodyPost_ret (results_bt rfl _ _ (w.heap.size + 1) _ _ _ rfl (by exact qK) Tryz.underlying91 rfl (by kernel_rfl)) rfl ?_
  exact .inl ⟨HX.out, by rw [set7]; rfl, qL⟩
 have hs2 : w1.heap.size < w2.heap.size := by have := hb2.size; simp at this; omega
 have HT1 : Hid (¬ (p.d1 / 4294967296 ≠ 0 ∧ Bt.validP (Bt.unpack (p.d1 / 4294967296)) = false) → Bt.refReadNode p = if Bt.restZero p = true ∧ Bt.refValid p.node = true then some p.node else none) := hid (fun h => by
  unfold Bt.refReadNode
  rw [if_neg (by rintro (h1 | h1 | h1); exact h1 HK.out; exact h1 HA4.out; rw [HC.out] at h1; omega), if_neg h])
 rcases hcases with ⟨b4, hR00⟩ | ⟨b4, hvp⟩
 have HAT0 : Hid (RefReadAt p w w1.heap.size 0 (.slice none 0 0) w2) := hid ⟨by
  have h := HBG.out
  rw [← HA.out] at h
  have hb := HB.out
  rw [HR.out, hR00] at hb
  exact hb ▸ h, World.ownsRow_nil _ _ _ _, qL, HBP.out, HB0.out, hw12⟩
 have HT := hid (HT1.out (show ¬ (p.d1 / 4294967296 ≠ 0 ∧ Bt.validP (Bt.unpack (p.d1 / 4294967296)) = false) from fun h => h.1 (by rw [HR.out]; exact hR00)))
 go_wp2_with fail
 rotate_left
 have HT := hid (HT1.out (show ¬ (p.d1 / 4294967296 ≠ 0 ∧ Bt.validP (Bt.unpack (p.d1 / 4294967296)) = false) from fun h => by have := h.2; rw [HR.out, hvp] at this; cases this))
 have HVP : Hid (Bt.validP ⟨(Bt.unpack R).line, (Bt.unpack R).gen⟩ = true) := hid hvp
 clear hvp
 go_wp2_with fail
 go_at_call 42; refine (refUnpack_any R hR0.1 hR0.2 _).mono ?_; rintro e3 w3 ⟨rfl, hb3⟩; ((obtain ⟨hc3, hf3, hs3⟩ := qR hb3); (try have := qN0 w w3); (try have := qN1 w w3); (try have := qN0 w1 w3); (try have := qN0 w2 w3))
 simp only [Bt.Ptr.cells]
 go_wp2_with fail
 go_at_call 43; refine (ValidPointer_any _ _ _).mono ?_; rintro e4 w4 ⟨rfl, hb4⟩; rw [HVP.out]; ((obtain ⟨hc4, hf4, hs4⟩ := qR hb4); (try have := qN0 w w4); (try have := qN1 w w4); (try have := qN0 w1 w4); (try have := qN0 w2 w4))
 have HAT0 : Hid (RefReadAt p w w1.heap.size 0 (.slice none 0 0) w4) := hid ⟨by
  have h := (((HBG.out.kept hb3).put 4 (.int .i64 (Bt.unpack R).line)).put 5 (.int .i64 (Bt.unpack R).gen)).kept hb4
  rw [← HA.out] at h
  have hb := HB.out
  rw [HR.out] at hb
  exact hb ▸ h, World.ownsRow_nil _ _ _ _, by have hb1 := HB1.out; have hb2 := HB2.out; exact qL,
  (((HBP.out.kept hb3).aside (p := ⟨w1.heap.size, 4, none⟩) (by show w.heap.size ≠ w1.heap.size; omega) (.int .i64 (Bt.unpack R).line)).aside (p := ⟨w1.heap.size, 5, none⟩) (by show w.heap.size ≠ w1.heap.size; omega) (.int .i64 (Bt.unpack R).gen)).kept hb4,
  (((HB0.out.kept hb3).aside (p := ⟨w1.heap.size, 4, none⟩) (by show w.heap.size + 1 ≠ w1.heap.size; omega) (.int .i64 (Bt.unpack R).line)).aside (p := ⟨w1.heap.size, 5, none⟩) (by show w.heap.size + 1 ≠ w1.heap.size; omega) (.int .i64 (Bt.unpack R).gen)).kept hb4, hw12⟩
 go_wp2_with fail
 all_goals
  go_loopw [8] (fun i wr => RefReadRel p w w1.heap.size c i wr) (fun i _ => (5 - intOf i).toNat)
  case atStart => exact ⟨0, _, by omega, rfl, hid ⟨by rw [Nat.zero_min]; exact HAT0.out, fun j _ h => by omega⟩⟩
  case round =>
   obtain ⟨k, v, hk5, rfl, HQ⟩ := hrel
   rename World => wr
   have hglt : w1.heap.size < wr.heap.size := HQ.out.1.node.lt
   have hplt : w.heap.size < wr.heap.size := HQ.out.1.page.lt
   have holt : w.heap.size + 1 < wr.heap.size := HQ.out.1.out.lt
   have ko : ∀ i, wr.cell? ⟨w.heap.size + 1, i, none⟩ = (#[.int .i64 0, .bool false, .bool false, .int .u32 0, .int .i64 0, .int .i64 0, .slice none 0 0] : Array Value)[i]? := HQ.out.1.out.cell
   have fo := HQ.out.1.out.free
   have kn : ∀ i, wr.cell? ⟨w1.heap.size, i, none⟩ = (#[.int .i64 (bareNode p).level, .bool (bareNode p).leftmost, .bool (bareNode p).dead, .int .u32 (bareNode p).high, .int .i64 (bareNode p).right.line, .int .i64 (bareNode p).right.gen, v] : Array Value)[i]? := HQ.out.1.node.cell
   by_cases hkl : k < 5
   ·have bk : decide ((k : Int) < 5) = true := decide_eq_true (by omega)
    have bk2 : decide (k < 5) = true := decide_eq_true hkl
    obtain ⟨x, hx⟩ : ∃ x, wordAt' p k = x := ⟨_, rfl⟩
    have hpw := HQ.out.1.page.cell (4 + k)
    rw [page_word p k (by omega), hx] at hpw
    have hpw2 : wr.cell? ⟨w.heap.size, 2 + (2 + k), none⟩ = some (.int .u64 x) := by rw [show 2 + (2 + k) = 4 + k by omega]; exact hpw
    have hs1 : IntKind.i64.wrap (2 + (k : Int)) = 2 + k := IntWalk.i64_in _ (by omega)
    have hs2 : (0 : Int) ≤ 2 + k := by omega
    have hs3 : 2 + (k : Int) < 7 := by omega
    have hs4 : (2 + (k : Int)).toNat = 2 + k := by omega
    have wk1 : IntKind.i64.wrap ((k : Int) + 1) = (k : Int) + 1 := by rw [IntKind.wrap_i64]; omega
    have HX := hid hx
    clear hpw hx
    by_cases hck : c ≤ k
    ·have bc1 : decide ((c : Int) ≤ k) = true := decide_eq_true (by omega)
     have bc2 : decide (c ≤ k) = true := decide_eq_true hck
     have bc3 : decide ((k : Int) < c) = false := decide_eq_false (by omega)
     have bc4 : decide (k < c) = false := decide_eq_false (by omega)
     by_cases hz : x = 0
     ·have bz : (x != 0) = false := by simp [hz]
      have HZX := hid hz
      clear hz
      go_wp2_with fail
      refine ⟨⟨k + 1, v, by omega, by rw [show ((k : Int) + 1) = ((k + 1 : Nat) : Int) by omega], hid ⟨by rw [show min (k + 1) c = min k c by omega]; exact HQ.out.1, fun j h1 h2 => ?_⟩⟩, by simp [intOf]; omega⟩
      by_cases hj : j = k
      ·rw [hj, HX.out]; exact HZX.out
      ·exact HQ.out.2 j h1 (by omega)
     ·have bz : (x != 0) = true := by simp [hz]
      have HN : Hid (Bt.refReadNode p = none) := hid (by
       rw [HT.out, if_neg]
       rintro ⟨h1, _⟩
       have h2 := (Bt.restZero_iff p).1 h1 k (by rw [HC.out]; omega) x (by rw [← HX.out]; unfold wordAt'; rw [List.getD_eq_getElem?_getD, List.getElem?_eq_getElem (by simp [Bt.Page.words]; omega)]; rfl)
       exact hz h2)
      clear hz
      go_wp2_with fail
      have B := HQ.out.1.out
      simp only [nodeCells, Bt.zeroNode, Bt.nilP] at B
      refine bodyPost_ret (results_bt rfl _ _ (w.heap.size + 1) _ _ _ rfl (by exact qK) Tryz.underlying91 rfl (by kernel_rfl)) rfl ?_
      exact .inl ⟨HN.out, by rw [set7]; rfl, by have hbw := HQ.out.1.below; exact qL⟩
    ·have bc1 : decide ((c : Int) ≤ k) = false := decide_eq_false (by omega)
     have bc2 : decide (c ≤ k) = false := decide_eq_false hck
     have bc3 : decide ((k : Int) < c) = true := decide_eq_true (by omega)
     have bc4 : decide (k < c) = true := decide_eq_true (by omega)
     have hmin : min k c = k := by omega
     have hq := HQ.out.1
     rw [hmin] at hq
     have HOWN := hid hq.own
     have HND := hid hq.node
     have HPG := hid hq.page
     have HOU := hid hq.out
     have HBL := hid hq.below
     have hx := HX.out
     subst hx
     have hwb := word_bound p Hp.out k
     have e7 : IntKind.u32.wrap (wordAt' p k) = wordAt' p k % 4294967296 := by rw [IntKind.wrap_u32]
     have e8 : IntKind.u32.wrap (wordAt' p k / 4294967296) = wordAt' p k / 4294967296 := by rw [IntKind.wrap_u32]; omega
     obtain ⟨i0, hi, hz0, hz1, hz2⟩ := info_parts infoRE
     have hn6' : wr.cell? ⟨w1.heap.size, 6, none⟩ = some v := HND.out.cell 6
     clear hq ko fo
     go_upto_block 1 with (fail)
     go_cut [9] from 64 to 91 (fun _ wx => ∃ v, RefReadAt p w w1.heap.size (k + 1) v wx)
     case first =>
      go_wp2_with fail
      refine wp_region_held_drew (S := AnyWorld) (by kernel_rfl) ⟨trivial⟩ ?_
      intro hSt
      refine qS [0, 2, 3, 4, 5, 6] ?_
      iterate 6 (refine qT ?_; simp only [Act.put, qY])
      refine TakeSeq.done ?_
      refine wpAnyH_ready (rs := [1, 7]) (by kernel_rfl) (by simp) ?_
      refine AllReadyH.cons rfl (fun K hK => ?_) (AllReadyH.cons rfl (fun K hK => ?_) (AllReadyH.nil))
      ·skip
       rw [if_pos (by rfl)]
       go_simp
       refine hK.out _ _ (⟨trivial⟩) (fun hHeld => ?_)
       clear hK K
       refine qH 7 fun K hK => ?_
       go_simp
       go_at_call 42; refine (refUnpack_any _ (by omega) (by omega) _).mono ?_; rintro e w5 ⟨rfl, hb5⟩; simp only [Bt.unpack, Bt.Ptr.cells]; ((obtain ⟨hc5, hf5, hs5⟩ := qR hb5); (try have := qN0 w w5); (try have := qN1 w w5); (try have := qN0 wr w5); (try have := qN0 w1 w5)); have hglt5 : w1.heap.size < w5.heap.size := by have := HND.out.lt; omega
       go_wp2_with fail
       refine hK.out _ _ (⟨trivial⟩) (fun hHeld => ?_)
       clear hK K
       refine qS [8] ?_
       refine qT ?_; simp only [Act.put, qY]
       refine TakeSeq.done ?_
       refine qH 9 fun K hK => ?_
       go_simp
       refine hK.out _ _ (⟨trivial⟩) (fun hHeld => ?_)
       clear hK K
       refine qH 10 fun K hK => ?_
       have hownW := own_below HOWN.out (w' := w5.alloc (.cells #[.int .u32 (wordAt' p k / 4294967296), .int .i64 (wordAt' p k % 256), .int .i64 (wordAt' p k % 4294967296 / 256)] 133)) qL
       refine wp_append_mine (.tmp 81) (.tmp 89) 89 rfl (w1.heap.size + 1) 133 i0 _ 3 24 Tryz.underlying89 hi hz0 hz1 hz2 rfl (by decide) v k (entCells (entriesUpto p k)) rfl hownW ⟨w5.heap.size, 0, none⟩ 1 1
        [.int .u32 (wordAt' p k / 4294967296), .int .i64 (wordAt' p k % 256), .int .i64 (wordAt' p k % 4294967296 / 256)] rfl rfl (three_news (by simp) (by simp) (by simp)) (by intro u hu; simp at hu; rcases hu with rfl | rfl | rfl <;> rfl) (by omega) (by unfold maxLen; omega) (by omega) (by have h1 := HND.out.lt; simp; omega) ?_
       intro g3 cap3 w3 hown3 hg3
       have HB3 := hid (((HND.out.drew.kept hb5).alloc _).grown hg3 (own_ne HOWN.out (by omega)))
       have HP3 := hid (((HPG.out.drew.kept hb5).alloc _).grown hg3 (own_ne HOWN.out (by have := hw12; omega)))
       have HO3 := hid (((HOU.out.drew.kept hb5).alloc _).grown hg3 (own_ne HOWN.out (by have := hw12; omega)))
       have HL3 := hid (below_grown (w := w) (by have hbw := HBL.out; exact qL) hg3 (fun k hk => by have := own_row_ge HOWN.out k hk; have := hw12; omega))
       have HW3 := hid hown3
       have k6 := HB3.out.cell 6
       have k6' : w3.cell? ⟨w1.heap.size, 6, none⟩ = some v := k6
       have f6 := HB3.out.free 6
       clear hg3 hown3 k6
       refine hK.out _ _ ⟨trivial⟩ (fun hHeld => ?_)
       clear hK K
       simp only [Act.put, qY]
       refine qS [11] ?_
       refine qT ?_; simp only [Act.put, qY]
       refine TakeSeq.done ?_
       refine qH 12 fun K hK => ?_
       go_simp
       refine hK.out _ _ (⟨trivial⟩) (fun hHeld => ?_)
       clear hK K
       refine qD ?_ _
       go_wp2_with fail
       go_meet
       exact ⟨_, (HB3.out.put 6 _).cast rfl, by rw [entriesUpto_succ p k (by omega), entCells_append]; exact own_aside (by rw [← entry_cells p k]; exact HW3.out) (by show w1.heap.size < w1.heap.size + 1; omega) _, by have h1 := HL3.out; have h2 := hw12; exact h1.setCell (by show w.heap.size ≤ w1.heap.size; omega) _, HP3.out.aside (by show w.heap.size ≠ w1.heap.size; have h2 := hw12; omega) _, HO3.out.aside (by show w.heap.size + 1 ≠ w1.heap.size; have h2 := hw12; omega) _, hw12⟩
      ·skip
       rw [if_pos (by rfl)]
       go_simp
       go_at_call 42; refine (refUnpack_any _ (by omega) (by omega) _).mono ?_; rintro e w5 ⟨rfl, hb5⟩; simp only [Bt.unpack, Bt.Ptr.cells]; ((obtain ⟨hc5, hf5, hs5⟩ := qR hb5); (try have := qN0 w w5); (try have := qN1 w w5); (try have := qN0 wr w5); (try have := qN0 w1 w5)); have hglt5 : w1.heap.size < w5.heap.size := by have := HND.out.lt; omega
       go_wp2_with fail
       refine hK.out _ _ (⟨trivial⟩) (fun hHeld => ?_)
       clear hK K
       refine qS [8] ?_
       refine qT ?_; simp only [Act.put, qY]
       refine TakeSeq.done ?_
       refine wpAnyH_ready (rs := [1, 9]) (by kernel_rfl) (by simp) ?_
       refine AllReadyH.cons rfl (fun K hK => ?_) (AllReadyH.cons rfl (fun K hK => ?_) (AllReadyH.nil))
       ·skip
        rw [if_pos (by rfl)]
        go_simp
        refine hK.out _ _ (⟨trivial⟩) (fun hHeld => ?_)
        clear hK K
        refine qH 9 fun K hK => ?_
        go_simp
        refine hK.out _ _ (⟨trivial⟩) (fun hHeld => ?_)
        clear hK K
        refine qH 10 fun K hK => ?_
        have hownW := own_below HOWN.out (w' := w5.alloc (.cells #[.int .u32 (wordAt' p k / 4294967296), .int .i64 (wordAt' p k % 256), .int .i64 (wordAt' p k % 4294967296 / 256)] 133)) qL
        refine wp_append_mine (.tmp 81) (.tmp 89) 89 rfl (w1.heap.size + 1) 133 i0 _ 3 24 Tryz.underlying89 hi hz0 hz1 hz2 rfl (by decide) v k (entCells (entriesUpto p k)) rfl hownW ⟨w5.heap.size, 0, none⟩ 1 1
         [.int .u32 (wordAt' p k / 4294967296), .int .i64 (wordAt' p k % 256), .int .i64 (wordAt' p k % 4294967296 / 256)] rfl rfl (three_news (by simp) (by simp) (by simp)) (by intro u hu; simp at hu; rcases hu with rfl | rfl | rfl <;> rfl) (by omega) (by unfold maxLen; omega) (by omega) (by have h1 := HND.out.lt; simp; omega) ?_
        intro g3 cap3 w3 hown3 hg3
        have HB3 := hid (((HND.out.drew.kept hb5).alloc _).grown hg3 (own_ne HOWN.out (by omega)))
        have HP3 := hid (((HPG.out.drew.kept hb5).alloc _).grown hg3 (own_ne HOWN.out (by have := hw12; omega)))
        have HO3 := hid (((HOU.out.drew.kept hb5).alloc _).grown hg3 (own_ne HOWN.out (by have := hw12; omega)))
        have HL3 := hid (below_grown (w := w) (by have hbw := HBL.out; exact qL) hg3 (fun k hk => by have := own_row_ge HOWN.out k hk; have := hw12; omega))
        have HW3 := hid hown3
        have k6 := HB3.out.cell 6
        have k6' : w3.cell? ⟨w1.heap.size, 6, none⟩ = some v := k6
        have f6 := HB3.out.free 6
        clear hg3 hown3 k6
        refine hK.out _ _ ⟨trivial⟩ (fun hHeld => ?_)
        clear hK K
        simp only [Act.put, qY]
        refine qS [11] ?_
        refine qT ?_; simp only [Act.put, qY]
        refine TakeSeq.done ?_
        refine qH 12 fun K hK => ?_
        go_simp
        refine hK.out _ _ (⟨trivial⟩) (fun hHeld => ?_)
        clear hK K
        refine qD ?_ _
        go_wp2_with fail
        go_meet
        exact ⟨_, (HB3.out.put 6 _).cast rfl, by rw [entriesUpto_succ p k (by omega), entCells_append]; exact own_aside (by rw [← entry_cells p k]; exact HW3.out) (by show w1.heap.size < w1.heap.size + 1; omega) _, by have h1 := HL3.out; have h2 := hw12; exact h1.setCell (by show w.heap.size ≤ w1.heap.size; omega) _, HP3.out.aside (by show w.heap.size ≠ w1.heap.size; have h2 := hw12; omega) _, HO3.out.aside (by show w.heap.size + 1 ≠ w1.heap.size; have h2 := hw12; omega) _, hw12⟩
       ·skip
        rw [if_pos (by rfl)]
        go_simp
        refine hK.out _ _ (⟨trivial⟩) (fun hHeld => ?_)
        clear hK K
        refine qH 1 fun K hK => ?_
        go_simp
        refine hK.out _ _ (⟨trivial⟩) (fun hHeld => ?_)
        clear hK K
        refine qH 10 fun K hK => ?_
        have hownW := own_below HOWN.out (w' := w5.alloc (.cells #[.int .u32 (wordAt' p k / 4294967296), .int .i64 (wordAt' p k % 256), .int .i64 (wordAt' p k % 4294967296 / 256)] 133)) qL
        refine wp_append_mine (.tmp 81) (.tmp 89) 89 rfl (w1.heap.size + 1) 133 i0 _ 3 24 Tryz.underlying89 hi hz0 hz1 hz2 rfl (by decide) v k (entCells (entriesUpto p k)) rfl hownW ⟨w5.heap.size, 0, none⟩ 1 1
         [.int .u32 (wordAt' p k / 4294967296), .int .i64 (wordAt' p k % 256), .int .i64 (wordAt' p k % 4294967296 / 256)] rfl rfl (three_news (by simp) (by simp) (by simp)) (by intro u hu; simp at hu; rcases hu with rfl | rfl | rfl <;> rfl) (by omega) (by unfold maxLen; omega) (by omega) (by have h1 := HND.out.lt; simp; omega) ?_
        intro g3 cap3 w3 hown3 hg3
        have HB3 := hid (((HND.out.drew.kept hb5).alloc _).grown hg3 (own_ne HOWN.out (by omega)))
        have HP3 := hid (((HPG.out.drew.kept hb5).alloc _).grown hg3 (own_ne HOWN.out (by have := hw12; omega)))
        have HO3 := hid (((HOU.out.drew.kept hb5).alloc _).grown hg3 (own_ne HOWN.out (by have := hw12; omega)))
        have HL3 := hid (below_grown (w := w) (by have hbw := HBL.out; exact qL) hg3 (fun k hk => by have := own_row_ge HOWN.out k hk; have := hw12; omega))
        have HW3 := hid hown3
        have k6 := HB3.out.cell 6
        have k6' : w3.cell? ⟨w1.heap.size, 6, none⟩ = some v := k6
        have f6 := HB3.out.free 6
        clear hg3 hown3 k6
        refine hK.out _ _ ⟨trivial⟩ (fun hHeld => ?_)
        clear hK K
        simp only [Act.put, qY]
        refine qS [11] ?_
        refine qT ?_; simp only [Act.put, qY]
        refine TakeSeq.done ?_
        refine qH 12 fun K hK => ?_
        go_simp
        refine hK.out _ _ (⟨trivial⟩) (fun hHeld => ?_)
        clear hK K
        refine qD ?_ _
        go_wp2_with fail
        go_meet
        exact ⟨_, (HB3.out.put 6 _).cast rfl, by rw [entriesUpto_succ p k (by omega), entCells_append]; exact own_aside (by rw [← entry_cells p k]; exact HW3.out) (by show w1.heap.size < w1.heap.size + 1; omega) _, by have h1 := HL3.out; have h2 := hw12; exact h1.setCell (by show w.heap.size ≤ w1.heap.size; omega) _, HP3.out.aside (by show w.heap.size ≠ w1.heap.size; have h2 := hw12; omega) _, HO3.out.aside (by show w.heap.size + 1 ≠ w1.heap.size; have h2 := hw12; omega) _, hw12⟩
     case rest =>
      obtain ⟨v', HA'⟩ := hcut
      have HA2 := hid HA'
      clear HA'
      go_wp2_with fail
      refine ⟨⟨k + 1, v', by omega, by rw [show ((k : Int) + 1) = ((k + 1 : Nat) : Int) by omega], hid ⟨by rw [show min (k + 1) c = k + 1 by omega]; exact HA2.out, fun j h1 h2 => by omega⟩⟩, by simp [intOf]; omega⟩
   ·have hk6 : k = 5 := by omega
    have bk : decide ((k : Int) < 5) = false := decide_eq_false (by omega)
    have bk2 : decide (k < 5) = false := decide_eq_false hkl
    have hmin : min k c = c := by omega
    have hq := HQ.out.1
    rw [hmin] at hq
    have hne := node_entries p c HC.out
    have hlen0 : p.node.entries.length = c := by rw [hne]; exact entriesUpto_length p c hc5
    have hown0 := hq.own
    rw [← hne, ← hlen0] at hown0
    have HOWN := hid hown0
    have HRZ : Hid (Bt.restZero p = true) := hid ((Bt.restZero_iff p).2 (fun i h1 y h2 => by
     have h3 := HQ.out.2 i (by rw [HC.out] at h1; omega) (by have := (List.getElem?_eq_some_iff.1 h2).1; simp [Bt.Page.words] at this; omega)
     unfold wordAt' at h3
     rw [List.getD_eq_getElem?_getD, h2] at h3
     exact h3))
    have HBQ := hid hq
    have hsv := qSt HOWN.out
    clear hq hne hlen0 hown0 hk6
    go_wp2_with fail
    go_at_call 70; refine (refValid_any p.node (w1.heap.size + 1) v _ ?hvo).mono ?_
    case hvo => exact own_below HOWN.out qL
    rintro e5 w5 ⟨rfl, hb5⟩; ((obtain ⟨hc5, hf5, hs5⟩ := qR hb5); (try have := qN0 w w5); (try have := qN1 w w5); (try have := qN0 w1 w5); (try have := qN0 wr w5))
    have B := HBQ.out.out.kept hb5
    simp only [nodeCells, Bt.zeroNode, Bt.nilP] at B
    rcases hv : Bt.refValid p.node with _ | _
    ·have HN : Hid (Bt.refReadNode p = none) := hid (by rw [HT.out, if_neg (by rw [hv]; simp)])
     clear hv
     go_wp2_with fail
     refine bodyPost_ret (results_bt rfl _ _ (w.heap.size + 1) _ _ _ rfl (by exact qK) Tryz.underlying91 rfl (by kernel_rfl)) rfl ?_
     exact .inl ⟨HN.out, by rw [set7]; rfl, by have hbw := HQ.out.1.below; exact qL⟩
    ·have HN : Hid (Bt.refReadNode p = some p.node) := hid (by rw [HT.out, if_pos ⟨HRZ.out, hv⟩])
     clear hv
     go_wp2_with fail
     refine bodyPost_ret (results_bt rfl _ _ (w.heap.size + 1) _ _ _ rfl (by exact qK) Tryz.underlying91 rfl (by kernel_rfl)) rfl ?_
     refine .inr ⟨v, HN.out, by rw [set7]; rfl, ?_, by have hbw := HQ.out.1.below; exact qL⟩
     exact own_put7 (own_below (own_base HOWN.out (by omega)) qL) (own_ne HOWN.out (by omega)) _ _ _ _ _ _ _
theorem refReadNode_any (p : Bt.Page) (hp : p.Ok) (w : World) : Calls Tryz.prog 35 #[.agg p.cells] w (RefReadPost p w) := by
 by_cases h : refHeadBad p
 ·exact refRead_head p hp w h
 ·refine refRead_walk p hp w ?_ ?_ ?_
  ·by_cases h1 : Bt.tagKind p.d0 = 4
   ·exact h1
   ·exact absurd (.inl h1) h
  ·by_cases h1 : Bt.tagAux p.d0 / 262144 = 0
   ·exact h1
   ·exact absurd (.inr (.inl h1)) h
  ·by_cases h1 : p.count ≤ 5
   ·exact h1
   ·exact absurd (.inr (.inr (by omega))) h
def RefWritePost (p : Bt.Page) (n : Bt.Node) (w : World) (e : Ending) (w' : World) : Prop :=
 e = .returned (.tuple #[.agg (if Bt.tagKind p.d0 = 4 ∧ Bt.refValid n = true then n.fill p else Bt.zeroPage).cells, .int .i64 (if Bt.tagKind p.d0 = 4 ∧ Bt.refValid n = true then 0 else 1)]) ∧ Below w.heap.size w w'
theorem refWrite_bad (p : Bt.Page) (hp : p.Ok) (n : Bt.Node) (base : Nat) (v : Value) (w : World) (hv : w.ownsRow base 133 3 v n.entries.length (entCells n.entries)) (h : ¬ (Bt.tagKind p.d0 = 4 ∧ Bt.refValid n = true)) :
 Calls Tryz.prog 37 #[.agg p.cells, .agg (nodeCells n v)] w (RefWritePost p n w) := by
 unfold RefWritePost
 rw [if_neg h, if_neg h]
 have Hp := hid hp
 have HV := hid hv
 have hsv := qSt hv
 obtain ⟨K, hK⟩ : ∃ K, Bt.tagKind p.d0 = K := ⟨_, rfl⟩
 have HK := hid hK
 obtain ⟨b, hb⟩ : ∃ b, Bt.refValid n = b := ⟨_, rfl⟩
 have HB := hid hb
 have hcases : (K != 4) = true ∨ ((K != 4) = false ∧ b = false) := by
  rw [hK, hb] at h
  by_cases h1 : K = 4
  ·right
   refine ⟨by simp [h1], ?_⟩
   cases b with
   | false => rfl
   | true => exact absurd ⟨h1, rfl⟩ h
  ·exact .inl (by simp [h1])
 clear hp hK hb h hv
 unfold Bt.Page.cells nodeCells
 rcases hcases with b1 | ⟨b1, rfl⟩
 ·go_enter Tryz.func37, Tryz.ntmps37
  go_wp2_with fail
  go_at_call 69; refine (refKind_any p Hp.out _).mono ?_; rintro e1 w1 ⟨rfl, hb1⟩; rw [HK.out]; ((obtain ⟨hc1, hf1, hs1⟩ := qR hb1); (try have := qN0 w w1); (try have := qN1 w w1); (try have := qN2 w w1))
  go_wp2_with fail
  have B := (Blk.made' (w := (w.alloc (.cells p.cells 25)).alloc (.cells (nodeCells n v) 91)) (n := w.heap.size + 1 + 1) (t := 25) (cs := Bt.zeroPage.cells) (by simp)).kept hb1
  simp only [Bt.Page.cells, Bt.zeroPage] at B
  refine bodyPost_ret (results_bt rfl _ _ (w.heap.size + 1 + 1) _ _ _ rfl (by exact qK) Tryz.underlying25 rfl (by kernel_rfl)) rfl ?_
  exact ⟨by rfl, qL⟩
 ·go_enter Tryz.func37, Tryz.ntmps37
  go_wp2_with fail
  go_at_call 69; refine (refKind_any p Hp.out _).mono ?_; rintro e1 w1 ⟨rfl, hb1⟩; rw [HK.out]; ((obtain ⟨hc1, hf1, hs1⟩ := qR hb1); (try have := qN0 w w1); (try have := qN1 w w1); (try have := qN2 w w1))
  go_wp2_with fail
  go_at_call 70; refine (refValid_any n base v _ ?hvo).mono ?_
  case hvo => exact own_below HV.out qL
  rintro e2 w2 ⟨rfl, hb2⟩; rw [HB.out]; ((obtain ⟨hc2, hf2, hs2⟩ := qR hb2); (try have := qN0 w w2); (try have := qN1 w w2); (try have := qN2 w w2); (try have := qN0 w1 w2))
  go_wp2_with fail
  have B := ((Blk.made' (w := (w.alloc (.cells p.cells 25)).alloc (.cells (nodeCells n v) 91)) (n := w.heap.size + 1 + 1) (t := 25) (cs := Bt.zeroPage.cells) (by simp)).kept hb1).kept hb2
  simp only [Bt.Page.cells, Bt.zeroPage] at B
  refine bodyPost_ret (results_bt rfl _ _ (w.heap.size + 1 + 1) _ _ _ rfl (by exact qK) Tryz.underlying25 rfl (by kernel_rfl)) rfl ?_
  exact ⟨by rfl, qL⟩
end Go.Proofs.YtjmpekanlmepmaaGreatDoor
namespace Go.Proofs.YtjmpekanlmepmaaGreatDoor.Bt
abbrev Cell := Int × Node
def pg (known : List Page) (l : Int) : Page := (latest known l).getD zeroPage
def ptr (l : Int) : Ptr := ⟨l, 1⟩
structure Sees (known : List Page) (l : Int) (n : Node) : Prop where
 here : latest known l = some (pg known l)
 lo : 104 ≤ l
 hi : l < 256
 kind : tagKind (pg known l).d0 = 4
 gen : tagGen (pg known l).d0 = 1
 node : readNode (pg known l) = some n
 free : locked (pg known l) = false
theorem readNode_isValid {p : Page} {n : Node} (h : readNode p = some n) : n.valid = true ∧ n = p.node ∧ tagKind p.d0 = 4 ∧ p.count ≤ 5 := by
 unfold readNode at h
 split at h
 ·cases h
 ·split at h
  ·rename_i h1 h2
   obtain rfl := Option.some.inj h
   refine ⟨h2.1, rfl, ?_, ?_⟩
   ·by_cases hk : tagKind p.d0 = 4
    ·exact hk
    ·exact absurd (.inl hk) h1
   ·by_cases hk : p.count ≤ 5
    ·exact hk
    ·exact absurd (.inr (by omega)) h1
  ·cases h
def headPtr : List Cell → Ptr → Ptr
 | [], e => e
 | c :: _, _ => ptr c.1
def Chain : List Cell → Ptr → Prop
 | [], _ => True
 | c :: r, e => c.2.right = headPtr r e ∧ Chain r e
def Lefts : Bool → List Cell → Prop
 | _, [] => True
 | b, c :: r => c.2.leftmost = b ∧ Lefts false r
abbrev Node.passes (n : Node) (k : Int) : Prop := n.dead = true ∨ n.high < k
inductive Walks (lev k : Int) : Cell → List Node → List Cell → Cell → Prop
 | here {c : Cell} : ¬ c.2.passes k → c.2.level = lev → Walks lev k c [] [] c
 | right {c d e : Cell} {hs : List Node} {l : List Cell} : c.2.passes k → c.2.right = ptr d.1 → d.2.level = c.2.level → Walks lev k d hs l e → Walks lev k c (c.2 :: hs) (d :: l) e
 | down {c d e : Cell} {x : Entry} {hs : List Node} {l : List Cell} : ¬ c.2.passes k → c.2.level ≠ lev → c.2.entries[child c.2.entries k]? = some x → x.to = ptr d.1 → d.2.level = c.2.level - 1 → Walks lev k d hs l e → Walks lev k c hs (d :: l) e
def lowAfter : Int → List Cell → Int
 | low, [] => low
 | low, c :: r => if c.2.dead then lowAfter low r else lowAfter c.2.high r
def Rise : Int → List Cell → Prop
 | _, [] => True
 | low, c :: r => if c.2.dead then Rise low r else low < c.2.high ∧ (∀ e ∈ c.2.entries, low < e.key) ∧ Rise c.2.high r
structure Level (l : Int) (c : List Cell) : Prop where
 ne : c ≠ []
 chain : Chain c nilP
 level : ∀ x ∈ c, x.2.level = l
 rise : Rise 0 c
 valid : ∀ x ∈ c, x.2.valid = true
 lefts : Lefts true c
def ents (c : List Cell) : List Entry := c.flatMap (fun x => x.2.entries)
def lastOr : Int → List Entry → Int
 | p, [] => p
 | _, e :: es => lastOr e.key es
theorem lastOr_last (p : Int) (es : List Entry) (h : es ≠ []) : lastOr p es = lastKey es := by
 induction es generalizing p with
 | nil => exact absurd rfl h
 | cons e es ih =>
   cases es with
   | nil => rfl
   | cons e' es => exact ih e.key (by simp)
def Named (lo : List Cell) (prev : Int) (e : Entry) : Prop := ∃ a t b, lo = a ++ t :: b ∧ e.to = ptr t.1 ∧ t.2.dead = false ∧ lowAfter 0 a = prev
def Names (lo : List Cell) : Int → List Entry → Prop
 | _, [] => True
 | prev, e :: es => Named lo prev e ∧ Names lo e.key es
def Levels : List (List Cell) → Prop
 | [] => True
 | c :: t => Level ((t.length : Nat) : Int) c ∧ Levels t
def Links : List (List Cell) → Prop
 | up :: lo :: t => Names lo 0 (ents up) ∧ Links (lo :: t)
 | _ => True
def flat (t : List (List Cell)) : List Cell := t.flatten
theorem lastOr_ge {p : Int} {a : List Entry} (h : risingFrom p a = true) : p ≤ lastOr p a ∧ ∀ e ∈ a, e.key ≤ lastOr p a := by
 induction a generalizing p with
 | nil => exact ⟨Int.le_refl _, fun e he => by cases he⟩
 | cons e a ih =>
   simp only [risingFrom, Bool.and_eq_true, decide_eq_true_eq] at h
   obtain ⟨h1, h2⟩ := ih h.2
   simp only [lastOr]
   refine ⟨by omega, fun x hx => ?_⟩
   rcases List.mem_cons.1 hx with rfl | hx
   ·exact h1
   ·exact h2 x hx
def Dead (ks : List Entry) : Int → List Cell → Prop
 | _, [] => True
 | low, c :: r => if c.2.dead then (∃ e ∈ ks, e.key = low) ∧ Dead ks low r else Dead ks c.2.high r
theorem Dead.mono {ks ks' : List Entry} {low : Int} {a : List Cell} (h : Dead ks low a) (hk : ∀ e ∈ ks, ∃ e' ∈ ks', e'.key = e.key) : Dead ks' low a := by
 induction a generalizing low with
 | nil => trivial
 | cons c a ih =>
   simp only [Dead] at h ⊢
   split
   ·rename_i hd
    rw [if_pos hd] at h
    obtain ⟨⟨e, he, rfl⟩, h2⟩ := h
    exact ⟨hk e he, ih h2⟩
   ·rename_i hd
    rw [if_neg hd] at h
    exact ih h
def Deads (ks : List Entry) : List (List Cell) → Prop
 | [] => True
 | [c] => Dead ks 0 c
 | c :: d :: t => Deads (ents c) (d :: t)
def lines (T : List (List Cell)) : List Int := (flat T).map (·.1)
structure Tree (T : List (List Cell)) : Prop where
 levels : Levels T
 links : Links T
 deads : Deads [] T
 nodup : (lines T).Nodup
structure Fits (n : Node) (low : Int) (es : List Entry) : Prop where
 rise : risingFrom low es = true
 le : lastKey es ≤ n.high
 inner : 0 < n.level → lastKey es = n.high
 leaf : n.level = 0 → lastKey es ≤ maxKey
def lowerHalf (n : Node) (new : Int) (e1 : List Entry) (h : Int) : Node := { n with high := h, right := ptr new, entries := e1 }
def upperHalf (n : Node) (e2 : List Entry) : Node := ⟨n.level, false, false, n.high, n.right, e2⟩
structure Ix (ps : List Page) : Prop where
 len : ps.length = 160
 line : ∀ i (h : i < ps.length), ps[i].line = 96 + (i : Int)
 ok : ∀ p ∈ ps, p.Ok
 free : ∀ p ∈ ps, p.head % 256 = 0
def after (hs : List Node) (height : Int) (s : St) : St := { s with ended := true, out := { s.out with hops := s.out.hops + hs.length, dead := s.out.dead || hs.any (·.dead), unposted := s.out.unposted || hs.any (fun n => !n.dead), height := height } }
def rootPtr : List (List Cell) → Ptr
 | (c :: _) :: _ => ptr c.1
 | _ => nilP
def leafEnts (T : List (List Cell)) : List Entry := ents (T.getLastD [])
structure Inv (ps : List Page) (nx : Int) (es : List Entry) (T : List (List Cell)) : Prop where
 ix : Ix ps
 tree : Tree T
 sees : ∀ c ∈ flat T, Sees ps c.1 c.2
 range : ∀ c ∈ flat T, 105 ≤ c.1 ∧ c.1 < nx
 bound : 105 ≤ nx ∧ nx ≤ 256
 fresh : ∀ l, nx ≤ l → l < 256 → tagKind (pg ps l).d0 = 0 ∧ tagGen (pg ps l).d0 = 0
 root : readRoot (pg ps 96) = some (rootPtr T, ((T.length - 1 : Nat) : Int))
 holds : leafEnts T = es
structure Good (n : Node) : Prop where
 valid : n.valid = true
 high : n.high ≤ maxHigh
theorem rising_le_last {p : Int} {es : List Entry} (h : risingFrom p es = true) : ∀ e ∈ es, e.key ≤ lastKey es := by
 intro e he
 have h1 := (lastOr_ge h).2 e he
 rwa [lastOr_last _ _ (fun h0 => by rw [h0] at he; cases he)] at h1
theorem Good.range {n : Node} (h : Good n) : 0 ≤ n.high ∧ n.high < 4294967296 ∧ ∀ e ∈ n.entries, 1 ≤ e.key ∧ e.key < 4294967296 := by
 obtain ⟨a1, a2, a3, a4, a5, a6, a7, a8, a9, a10, a11⟩ := Node.valid_parts h.valid
 have hh := h.high
 unfold maxHigh at hh
 have hk : ∀ e ∈ n.entries, 1 ≤ e.key ∧ e.key < 4294967296 := fun e he => by
  have h1 := (rising_valid a4 e he).1
  have h2 := rising_le_last a4 e he
  omega
 refine ⟨?_, by omega, hk⟩
 cases hes : n.entries with
 | nil => rw [hes] at a8; exact a8
 | cons e es => have := hk e (by rw [hes]; simp); have := rising_le_last a4 e (by rw [hes]; simp); omega
theorem wordAt_range {es : List Entry} (h : ∀ e ∈ es, 1 ≤ e.key ∧ e.key < 4294967296) (i : Nat) : 0 ≤ wordAt es i ∧ wordAt es i < 18446744073709551616 := by
 unfold wordAt
 split
 ·rename_i e he
  have h1 := h e (List.mem_of_getElem? he)
  have h2 := pack_lt e.to
  unfold entryWord
  omega
 ·omega
theorem Good.fill_ok {n : Node} (h : Good n) {p : Page} (hp : p.Ok) : (n.fill p).Ok := by
 obtain ⟨a1, a2, a3, _⟩ := Node.valid_parts h.valid
 obtain ⟨h1, h2, h3⟩ := h.range
 have ha := aux_range a1 a2 a3
 have hr := pack_lt n.right
 refine ⟨hp.head, ?_, ?_, wordAt_range h3 0, wordAt_range h3 1, wordAt_range h3 2, wordAt_range h3 3, wordAt_range h3 4⟩
 ·show 0 ≤ packTag (tagKind p.d0) (tagGen p.d0) n.aux ∧ packTag (tagKind p.d0) (tagGen p.d0) n.aux < 18446744073709551616
  unfold packTag
  omega
 ·show 0 ≤ n.high + pack n.right * 4294967296 ∧ n.high + pack n.right * 4294967296 < 18446744073709551616
  omega
structure Blank (p : Page) (l : Int) : Prop where
 line : p.line = l
 lo : 104 ≤ l
 hi : l < 256
 kind : tagKind p.d0 = 4
 gen : tagGen p.d0 = 1
 ok : p.Ok
 free : p.head % 256 = 0
end Go.Proofs.YtjmpekanlmepmaaGreatDoor.Bt
namespace Go.Proofs.YtjmpekanlmepmaaGreatDoor
open Go.RowKit
theorem own_shape {w : World} {base n size : Nat} {e : TypeId} {v : Value} {xs : List Value} (h : w.ownsRow base e size v n xs) : ∃ p cap, v = .slice p n cap := by
 rcases h.2 with ⟨rfl, h0⟩ | ⟨g, cap, _, hv, _⟩
 ·exact ⟨none, 0, by rw [h0]⟩
 ·exact ⟨_, cap, hv⟩
end Go.Proofs.YtjmpekanlmepmaaGreatDoor
