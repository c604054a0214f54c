/- An index: what a walk over its levels finds (plain Lean). -/
import Derived.Test.YtjmpekanlmepmaaGreatDoorBB04
import Derived.Test.YtjmpekanlmepmaaGreatDoorBB05
import Derived.Test.YtjmpekanlmepmaaGreatDoorBB46
import Derived.Test.YtjmpekanlmepmaaGreatDoorBB19
set_option linter.all false
set_option maxRecDepth 20000
set_option maxHeartbeats 8000000
open Go.Lib (hid)
namespace Go.Proofs.YtjmpekanlmepmaaGreatDoor.Bt
structure NodeFits (l : Int) (A : List Cell) (n : Node) : Prop where
 level : n.level = l
 left : n.leftmost = A.isEmpty
 dead : n.dead = true → l = 0 ∧ A.isEmpty = false ∧ n.entries = []
 keys : n.dead = false → ∀ e ∈ n.entries, Z05 0 A < e.key ∧ e.key ≤ n.high
 high : n.dead = false → Z05 0 A < n.high
theorem Levels.first {up lo : List Cell} {t : List (List Cell)} (h : Levels (up :: lo :: t)) (hn : Links (up :: lo :: t)) : ∃ x r e es y r2, up = x :: r ∧ x.2.entries = e :: es ∧ lo = y :: r2 ∧ e.to = ptr y.1 := by
 obtain ⟨x, r, rfl⟩ : ∃ x r, up = x :: r := by
  cases up with
  | nil => exact absurd rfl h.1.ne
  | cons x r => exact ⟨x, r, rfl⟩
 have hlev := h.1.level x (by simp)
 have hv := Node.valid_parts (h.1.valid x (by simp))
 obtain ⟨e, es, he⟩ : ∃ e es, x.2.entries = e :: es := by
  cases hx : x.2.entries with
  | nil =>
    have h1 := hv.2.2.2.2.2.2.2.2.2.1 (by rw [hlev]; simp only [List.length_cons]; omega)
    rw [hx] at h1
    exact absurd h1.symm hv.2.2.2.2.1
  | cons e es => exact ⟨e, es, rfl⟩
 have hnm := hn.1
 rw [Z0N, he] at hnm
 obtain ⟨a, tt, b, h1, h2, h3, h4⟩ := hnm.1
 refine ⟨x, r, e, es, tt, b, rfl, he, ?_, h2⟩
 cases a with
 | nil => exact h1
 | cons y a =>
   exfalso
   have h5 := h.2.1
   rw [h1] at h5
   have h6 := (Level.first (x := y) (r := a ++ tt :: b) h5).1
   have h7 := (Rise.append.1 h5.rise).1
   have h8 := h7
   unfold Rise at h8
   rw [if_neg (by rw [h6]; simp)] at h8
   have h9 := (Rise.low h8.2.2).1
   have : Z05 0 (y :: a) = Z05 y.2.high a := by simp [Z05, h6]
   omega
theorem Sees.found {known : List Page} {l : Int} {n : Node} (h : Sees known l n) (b : Bool) : lookup known (ptr l) 4 b = .found (pg known l) := by
 unfold lookup
 rw [if_pos h.valid]
 have e1 : latest known (ptr l).line = some (pg known l) := h.here
 rw [e1]
 have h1 := h.kind
 have h2 := h.gen
 have h3 := h.free
 simp [h1, h2, h3, ptr]
end Go.Proofs.YtjmpekanlmepmaaGreatDoor.Bt
namespace Go.Proofs.YtjmpekanlmepmaaGreatDoor
open Go.RowKit
theorem Z4v {w w' : World} {base n size : Nat} {e : TypeId} {v : Value} {o : Option Nat} {xs : List Value} (h : w.ownsRow base e size v n xs) (hg : w.grownBy w' o) (hn : ∀ c, v.ownBlock = some c → o ≠ some c) : w'.ownsRow base e size v n xs :=
 h.kept hg (by
  rcases hv : v.ownBlock with _ | c
  ·exact .inl rfl
  ·exact .inr (fun e => hn c hv e.symm))
theorem Z2q {w : World} {base n size : Nat} {e : TypeId} {v : Value} {xs : List Value} (h : w.ownsRow base e size v n xs) : ∃ p cap, v = .slice p n cap := by
 rcases h.2 with ⟨rfl, h0⟩ | ⟨g, cap, _, hv, _⟩
 ·exact ⟨none, 0, by rw [h0]⟩
 ·exact ⟨_, cap, hv⟩
theorem Zby : (Tryz.prog.info? 73).map (fun i => (i.zero, i.size, i.bytes)) = some (some (.agg #[.int .i64 0, .bool false, .bool false, .int .u32 0, .int .i64 0, .int .i64 0, .slice none 0 0]), 7, 56) := by kernel_rfl
def Z2K : List Bt.Cell → List Value → List Value
 | c :: cs, u :: us => (Z02 c.2 u).toList ++ Z2K cs us
 | _, _ => []
theorem Z6S (a : List Bt.Cell) (us : List Value) (c : Bt.Cell) (u : Value) (h : us.length = a.length) : Z2K (a ++ [c]) (us ++ [u]) = Z2K a us ++ (Z02 c.2 u).toList := by
 induction a generalizing us with
 | nil =>
   cases us with
   | nil => simp [Z2K]
   | cons x us => simp at h
 | cons x a ih =>
   cases us with
   | nil => simp at h
   | cons y us => simp only [List.cons_append, Z2K]; rw [ih us (by simpa using h), List.append_assoc]
theorem Z7x (a : List Bt.Cell) (us : List Value) (h : us.length = a.length) (i : Nat) (c : Bt.Cell) (u : Value) (hc : a[i]? = some c) (hu : us[i]? = some u) (j : Nat) (x : Value) (hx : (Z02 c.2 u)[j]? = some x) : (Z2K a us)[i * 7 + j]? = some x := by
 induction a generalizing us i with
 | nil => simp at hc
 | cons y a ih =>
   cases us with
   | nil => simp at h
   | cons z us =>
     simp only [Z2K]
     have h7 : ∀ (m : Bt.Node) (v : Value), (Z02 m v).toList.length = 7 := fun _ _ => rfl
     cases i with
     | zero =>
       obtain rfl : y = c := by simpa using hc
       obtain rfl : z = u := by simpa using hu
       have hj : j < 7 := (Array.getElem?_eq_some_iff.1 hx).1
       rw [Nat.zero_mul, Nat.zero_add, List.getElem?_append_left (by rw [h7]; exact hj), Array.getElem?_toList]
       exact hx
     | succ i =>
       rw [List.getElem?_append_right (by rw [h7]; omega), h7, show (i + 1) * 7 + j - 7 = i * 7 + j by omega]
       exact ih us (by simpa using h) i (by simpa using hc) (by simpa using hu)
theorem Z55 {w : World} {b1 b2 s1 s2 n1 n2 : Nat} {e1 e2 : TypeId} {v1 v2 : Value} {x1 x2 : List Value} (h1 : w.ownsRow b1 e1 s1 v1 n1 x1) (h2 : w.ownsRow b2 e2 s2 v2 n2 x2) (he : e1 ≠ e2) : ∀ c, v1.ownBlock = some c → v2.ownBlock ≠ some c := by
 intro c hc hc2
 rcases h1.2 with ⟨rfl, _⟩ | ⟨g, cap, cur, rfl, _, hg, _⟩
 ·simp [Value.ownBlock] at hc
 ·rcases h2.2 with ⟨rfl, _⟩ | ⟨g2, cap2, cur2, rfl, _, hg2, _⟩
  ·simp [Value.ownBlock] at hc2
  ·simp only [Value.ownBlock, Option.some.injEq] at hc hc2
   subst hc
   rw [← hc2, hg2] at hg
   simp only [Option.some.injEq, Obj.cells.injEq] at hg
   exact he hg.2.1.symm
structure NodesAt (base : Nat) (vn : Value) (cells : List Bt.Cell) (us : List Value) (w : World) : Prop where
 len : us.length = cells.length
 own : w.ownsRow base 73 7 vn cells.length (Z2K cells us)
 rows : ∀ (i : Nat) (c : Bt.Cell) (u : Value), cells[i]? = some c → us[i]? = some u → w.ownsRow base 69 3 u c.2.entries.length (Z04 c.2.entries)
theorem Z4k : (69 : TypeId) ≠ 73 ∧ (69 : TypeId) ≠ 27 ∧ (27 : TypeId) ≠ 73 := by decide
theorem NodesAt.nil (base : Nat) (w : World) : NodesAt base (.slice none 0 0) [] [] w := ⟨rfl, World.ownsRow_nil _ _ _ _, fun i c u hc => by simp at hc⟩
theorem NodesAt.below {base : Nat} {vn : Value} {cells : List Bt.Cell} {us : List Value} {w w' : World} (h : NodesAt base vn cells us w) (hb : Below w.heap.size w w') : NodesAt base vn cells us w' :=
 ⟨h.len, own_below h.own hb, fun i c u hc hu => own_below (h.rows i c u hc hu) hb⟩
theorem NodesAt.other {base b2 n2 : Nat} {vn vp : Value} {cells : List Bt.Cell} {us xs : List Value} {w w' : World} (h : NodesAt base vn cells us w) (hp : w.ownsRow b2 27 2 vp n2 xs) (hg : w.grownBy w' vp.ownBlock) : NodesAt base vn cells us w' :=
 ⟨h.len, Z4v h.own hg (fun c hc e => Z55 hp h.own Z4k.2.2 c e hc), fun i c u hc hu => Z4v (h.rows i c u hc hu) hg (fun d hd e => Z55 (h.rows i c u hc hu) hp Z4k.2.1 d hd e)⟩
theorem NodesAt.snoc {base : Nat} {vn vn' : Value} {cells : List Bt.Cell} {us : List Value} {c : Bt.Cell} {u : Value} {w w' : World} (h : NodesAt base vn cells us w) (hu : w.ownsRow base 69 3 u c.2.entries.length (Z04 c.2.entries)) (hg : w.grownBy w' vn.ownBlock)
 (ho : w'.ownsRow base 73 7 vn' (cells.length + 1) (Z2K cells us ++ (Z02 c.2 u).toList)) : NodesAt base vn' (cells ++ [c]) (us ++ [u]) w' := by
 have hk : ∀ {m : Nat} {z : Value} {ys : List Value}, w.ownsRow base 69 3 z m ys → w'.ownsRow base 69 3 z m ys := fun hz => Z4v hz hg (fun d hd e => Z55 hz h.own Z4k.1 d hd e)
 refine ⟨by simp [h.len], ?_, fun i d z hd hz => ?_⟩
 ·rw [Z6S _ _ _ _ h.len]
  simpa using ho
 ·by_cases hi : i < cells.length
  ·rw [List.getElem?_append_left hi] at hd
   rw [List.getElem?_append_left (by rw [h.len]; exact hi)] at hz
   exact hk (h.rows i d z hd hz)
  ·have hi2 : i = cells.length := by
     have := (List.getElem?_eq_some_iff.1 hd).1
     simp at this; omega
   subst hi2
   rw [List.getElem?_append_right (Nat.le_refl _), Nat.sub_self] at hd
   rw [← h.len, List.getElem?_append_right (Nat.le_refl _), Nat.sub_self] at hz
   obtain rfl : c = d := by simpa using hd
   obtain rfl : u = z := by simpa using hz
   exact hk hu
theorem NodesAt.seven {base g cap : Nat} {cells : List Bt.Cell} {us : List Value} {w : World} (h : NodesAt base (.slice (some ⟨g, 0, none⟩) cells.length cap) cells us w) {i : Nat} {c : Bt.Cell} (hc : cells[i]? = some c) :
 ∃ u, w.ownsRow base 69 3 u c.2.entries.length (Z04 c.2.entries) ∧ w.cell? ⟨g, i * 7, none⟩ = some (.int .i64 c.2.level) ∧ w.cell? ⟨g, i * 7 + 1, none⟩ = some (.bool c.2.leftmost) ∧ w.cell? ⟨g, i * 7 + 2, none⟩ = some (.bool c.2.dead) ∧ w.cell? ⟨g, i * 7 + 3, none⟩ = some (.int .u32 c.2.high) ∧
  w.cell? ⟨g, i * 7 + 4, none⟩ = some (.int .i64 c.2.right.line) ∧ w.cell? ⟨g, i * 7 + 5, none⟩ = some (.int .i64 c.2.right.gen) ∧ w.cell? ⟨g, i * 7 + 6, none⟩ = some u := by
 have hi := (List.getElem?_eq_some_iff.1 hc).1
 obtain ⟨u, hu⟩ : ∃ u, us[i]? = some u := ⟨_, List.getElem?_eq_getElem (by rw [h.len]; exact hi)⟩
 have hx : ∀ j z, (Z02 c.2 u)[j]? = some z → w.cell? ⟨g, i * 7 + j, none⟩ = some z := fun j z hz => Z0i h.own _ _ (Z7x cells us h.len i c u hc hu j z hz)
 exact ⟨u, h.rows i c u hc hu, hx 0 _ rfl, hx 1 _ rfl, hx 2 _ rfl, hx 3 _ rfl, hx 4 _ rfl, hx 5 _ rfl, hx 6 _ rfl⟩
theorem NodesAt.base {base base' : Nat} {vn : Value} {cells : List Bt.Cell} {us : List Value} {w : World} (h : NodesAt base vn cells us w) (hb : base' ≤ base) : NodesAt base' vn cells us w :=
 ⟨h.len, own_base h.own hb, fun i c u hc hu => own_base (h.rows i c u hc hu) hb⟩
def Z2R (lv : List Bt.Cell) : List Bt.Ptr := lv.map (fun c => Bt.ptr c.1)
def lenOf : Value → Nat
 | .slice _ n _ => n
 | _ => 0
structure LevAt (lv : List Bt.Cell) (k : Nat) (vn vp : Value) (w wr : World) : Prop where
 ptr : Blk wr w.heap.size 27 (Bt.Z14 (lv.drop k) Bt.nilP).cells
 nodes : ∃ us, NodesAt (w.heap.size + 1) vn (lv.take k) us wr
 at_ : wr.ownsRow (w.heap.size + 1) 27 2 vp k (Z0b (Z2R (lv.take k)))
 below : Below w.heap.size w wr
 len : lenOf vn = k
def ZcK (lv : List Bt.Cell) (w : World) (vn vp : Value) (wr : World) : Prop := ∃ k : Nat, k ≤ lv.length ∧ Hid (LevAt lv k vn vp w wr)
def Z7Y (lv : List Bt.Cell) (w : World) (e : Ending) (w' : World) : Prop :=
 ∃ vn vp us, e = .returned (.tuple #[vn, vp, .bool true]) ∧ NodesAt w.heap.size vn lv us w' ∧ w'.ownsRow w.heap.size 27 2 vp lv.length (Z0b (Z2R lv)) ∧ Below w.heap.size w w'
theorem Zbt {w : World} {base k : Nat} {vp : Value} {lv : List Bt.Cell} (h : w.ownsRow base 27 2 vp k (Z0b (Z2R (lv.take k)))) (hk : k ≤ lv.length) : w.ownsRow base 27 2 vp (Z2R (lv.take k)).length (Z0b (Z2R (lv.take k))) := by
 have e : (Z2R (lv.take k)).length = k := by unfold Z2R; rw [List.length_map, List.length_take]; omega
 rw [e]; exact h
structure LevMid (b c k : Nat) (l : Int) (n : Bt.Node) (u vn vp : Value) (cells : List Bt.Cell) (ptrs : List Bt.Ptr) (us : List Value) (w wx : World) : Prop where
 nodes : NodesAt (w.heap.size + 1) vn cells us wx
 at_ : wx.ownsRow (w.heap.size + 1) 27 2 vp ptrs.length (Z0b ptrs)
 row : wx.ownsRow (w.heap.size + 1) 69 3 u n.entries.length (Z04 n.entries)
 bb : Blk wx b 27 #[.int .i64 l, .int .i64 1]
 bc : Blk wx c 73 (Z02 n u)
 below : Below w.heap.size w wx
 hb : b = w.heap.size
 hc : vn.ownBlock ≠ some c
structure SteadyLev (b c : Nat) (cb cc : Array Value) (wx : World) : Prop where
 rule : (∀ i, wx.cell? ⟨b, i, none⟩ = cb[i]?) ∧ (∀ i, wx.cell? ⟨c, i, none⟩ = cc[i]?)
section
variable {b c k : Nat} {l : Int} {n : Bt.Node} {u vn vp : Value} {cells : List Bt.Cell} {ptrs : List Bt.Ptr} {us : List Value} {w wx wy : World}
theorem LevMid.steady (h : LevMid b c k l n u vn vp cells ptrs us w wx) : SteadyLev b c #[.int .i64 l, .int .i64 1] #[.int .i64 n.level, .bool n.leftmost, .bool n.dead, .int .u32 n.high, .int .i64 n.right.line, .int .i64 n.right.gen, u] wx := ⟨h.bb.cell, h.bc.cell⟩
theorem LevMid.mono (h : LevMid b c k l n u vn vp cells ptrs us w wx) (hb : Below wx.heap.size wx wy) : LevMid b c k l n u vn vp cells ptrs us w wy :=
 ⟨h.nodes.below hb, own_below h.at_ hb, own_below h.row hb, h.bb.kept hb, h.bc.kept hb, Z0O h.below hb, h.hb, h.hc⟩
structure LevMid2 (b c : Nat) (l : Int) (n : Bt.Node) (u vn vp : Value) (cells : List Bt.Cell) (ptrs : List Bt.Ptr) (w wx : World) : Prop where
 nodes : ∃ us, NodesAt (w.heap.size + 1) vn cells us wx
 at_ : wx.ownsRow (w.heap.size + 1) 27 2 vp ptrs.length (Z0b ptrs)
 bb : Blk wx b 27 #[.int .i64 l, .int .i64 1]
 bc : Blk wx c 73 (Z02 n u)
 below : Below w.heap.size w wx
 hb : b = w.heap.size
theorem LevMid2.steady (h : LevMid2 b c l n u vn vp cells ptrs w wx) : SteadyLev b c #[.int .i64 l, .int .i64 1] #[.int .i64 n.level, .bool n.leftmost, .bool n.dead, .int .u32 n.high, .int .i64 n.right.line, .int .i64 n.right.gen, u] wx := ⟨h.bb.cell, h.bc.cell⟩
theorem LevMid2.mono (h : LevMid2 b c l n u vn vp cells ptrs w wx) (hb : Below wx.heap.size wx wy) : LevMid2 b c l n u vn vp cells ptrs w wy := by
 obtain ⟨us, hN⟩ := h.nodes
 exact ⟨⟨us, hN.below hb⟩, own_below h.at_ hb, h.bb.kept hb, h.bc.kept hb, Z0O h.below hb, h.hb⟩
theorem LevMid.node (h : LevMid b c k l n u vn vp cells ptrs us w wx) {vn' : Value} (ho : wy.ownsRow (w.heap.size + 1) 73 7 vn' (cells.length + 1) (Z2K cells us ++ (Z02 n u).toList)) (hg : wx.grownBy wy vn.ownBlock) : LevMid2 b c l n u vn' vp (cells ++ [(l, n)]) ptrs w wy :=
 ⟨⟨us ++ [u], NodesAt.snoc (c := (l, n)) h.nodes h.row hg ho⟩, Z4v h.at_ hg (fun d hd e => Z55 h.at_ h.nodes.own Z4k.2.2 d hd e), h.bb.grown hg (fun e => by have := Z0k h.nodes.own _ e.symm; have := h.hb; omega), h.bc.grown hg (fun e => h.hc e.symm), below_grown h.below hg (fun j hj => by have := Z0k h.nodes.own j hj; omega), h.hb⟩
theorem LevMid2.pointer (h : LevMid2 b c l n u vn vp cells ptrs w wx) {vp' : Value} {ptrs' : List Bt.Ptr} (ho : wy.ownsRow (w.heap.size + 1) 27 2 vp' ptrs'.length (Z0b ptrs')) (hg : wx.grownBy wy vp.ownBlock) : LevMid2 b c l n u vn vp' cells ptrs' w wy := by
 obtain ⟨us, hN⟩ := h.nodes
 refine ⟨⟨us, hN.other h.at_ hg⟩, ho, h.bb.grown hg (fun e => by have := Z0k h.at_ _ e.symm; have := h.hb; omega), h.bc.grown hg (fun e => ?_), below_grown h.below hg (fun j hj => by have := Z0k h.at_ j hj; omega), h.hb⟩
 rcases h.at_.2 with ⟨h1, _⟩ | ⟨g, cap, cur, h1, _, hg2, _⟩
 ·rw [h1] at e; cases e
 ·rw [h1] at e
  simp only [Value.ownBlock, Option.some.injEq] at e
  subst e
  have h2 := h.bc
  unfold Blk at h2
  rw [hg2] at h2
  simp only [Option.some.injEq, Obj.cells.injEq] at h2
  exact Z4k.2.2 h2.2.1
theorem LevMid2.done (h : LevMid2 b c l n u vn vp cells ptrs w wx) {lv : List Bt.Cell} {k : Nat} (hk : k ≤ lv.length) (hc : cells = lv.take k) (hp : ptrs = Z2R (lv.take k)) (hr : n.right = Bt.Z14 (lv.drop k) Bt.nilP) :
 LevAt lv k vn vp w ((wx.setCell ⟨b, 0, none⟩ (.int .i64 n.right.line)).setCell ⟨b, 1, none⟩ (.int .i64 n.right.gen)) := by
 obtain ⟨us, hN⟩ := h.nodes
 have hb := h.hb
 have hlen : cells.length = k := by rw [hc, List.length_take]; omega
 have hpl : ptrs.length = k := by rw [hp]; unfold Z2R; rw [List.length_map, List.length_take]; omega
 have h2 : ∀ {e : TypeId} {m size : Nat} {z : Value} {ys : List Value}, wx.ownsRow (w.heap.size + 1) e size z m ys → ((wx.setCell ⟨b, 0, none⟩ (.int .i64 n.right.line)).setCell ⟨b, 1, none⟩ (.int .i64 n.right.gen)).ownsRow (w.heap.size + 1) e size z m ys := fun hz => by
  have hnb := Z2F hz (show w.heap.size < w.heap.size + 1 by omega)
  rw [← hb] at hnb
  exact Z0G (Z0G hz hnb _) hnb _
 have hbl : Below w.heap.size w ((wx.setCell ⟨b, 0, none⟩ (.int .i64 n.right.line)).setCell ⟨b, 1, none⟩ (.int .i64 n.right.gen)) := by
  have := h.below
  exact qL
 refine ⟨?_, ⟨us, hc ▸ ⟨hN.len, h2 hN.own, fun i c u hc hu => h2 (hN.rows i c u hc hu)⟩⟩, ?_, hbl, ?_⟩
 ·rw [← hr, ← hb]
  exact h.bb.all2 _ _
 ·have := h2 h.at_
  rw [hpl, hp] at this
  exact this
 ·obtain ⟨p, cap, rfl⟩ := Z2q hN.own
  exact hlen
end
theorem Zc4 {P : Prop} (h : P := by
 refine qS [8, 9] ?_
 iterate 2 (refine qT ?_; simp only [Act.put, qY])
 refine Z00.done ?_
 refine qD ?_ _
 have hb4 := HM4.out.bb
 have hc4 := HM4.out.bc
 have kb4 := hb4.cell
 have fb4 := hb4.free
 have kc4 : ∀ i, w4.cell? ⟨w2.heap.size, i, none⟩ = (#[.int .i64 n.level, .bool n.leftmost, .bool n.dead, .int .u32 n.high, .int .i64 n.right.line, .int .i64 n.right.gen, v] : Array Value)[i]? := hc4.cell
 have lb4 := hb4.lt
 have lc4 := hc4.lt
 clear hb4 hc4
 go_wp2_with fail
 rw [hpl] at HM4
 refine ⟨⟨k + 1, hkl, hid (HM4.out.done hkl HTK.out.symm (by rw [HTK.out]; simp [Z2R]) HD.out)⟩, ?_⟩
 show lv.length - (k + 1) < lv.length - (lv.take k).length
 omega) : P := h
theorem lev_b {P : Prop} (h : P := by
 refine qH 7 fun K hK => ?_
 refine Z1M (.tmp 51) (.tmp 53) 56 rfl (w.heap.size + 1) 27 i1 _ 2 16 Tryz.underlying56 hi1 hz10 hz11 hz12 rfl (by decide) u8 (Z2R (lv.take k)).length (Z0b (Z2R (lv.take k))) rfl HMB.out.at_ _ 1 1
  [.int .i64 l, .int .i64 1] rfl rfl (Z2a (cs := #[.int .i64 l, .int .i64 1]) BQB) (by intro u hu; simp at hu; rcases hu with rfl | rfl <;> rfl) (by omega) (by unfold maxLen; omega) (by omega) (by have := HMB.out.below.size; have := HMB.out.bb.lt; have := HMB.out.hb; omega) ?_
 intro g4 cap4 w4 hown4 hg4
 have HM4 := hid (HMB.out.pointer (ptrs' := Z2R (lv.take k) ++ [Bt.ptr l]) (by rw [List.length_append, Z2u]; exact hown4) hg4)
 refine hK.out _ _ HM4.out.steady (fun hHeld => ?_)
 clear hK K
 simp only [Act.put, qY]
 clear hown4 hg4
 exact Zc4) : P := h
theorem lev_a {P : Prop} (h : P := by
 refine qH 3 fun K hK => ?_
 refine Z1M (.tmp 47) (.tmp 49) 77 rfl (w.heap.size + 1) 73 i0 _ 7 56 Tryz.underlying77 hi hz0 hz1 hz2 rfl (by decide) (.slice pn k cn) k (Z2K (lv.take k) us) rfl (Z26 HMA.out.nodes.own htl rfl) _ 1 1
  [.int .i64 n.level, .bool n.leftmost, .bool n.dead, .int .u32 n.high, .int .i64 n.right.line, .int .i64 n.right.gen, v] rfl rfl (Z2a (cs := #[.int .i64 n.level, .bool n.leftmost, .bool n.dead, .int .u32 n.high, .int .i64 n.right.line, .int .i64 n.right.gen, v]) BQA) (by intro u hu; simp at hu; rcases hu with rfl | rfl | rfl | rfl | rfl | rfl | rfl <;> first | rfl | exact Z0Q HMA.out.row) (by omega) (by unfold maxLen; omega) (by omega) (by have := HMA.out.below.size; have := HMA.out.bb.lt; have := HMA.out.hb; omega) ?_
 intro g3 cap3 w3 hown3 hg3
 have HM3 := hid (HMA.out.node (by rw [htl]; exact hown3) hg3)
 refine hK.out _ _ HM3.out.steady (fun hHeld => ?_)
 clear hK K
 simp only [Act.put, qY]
 have BQB := BP1.grown hg3 (fun e => by have := own_lt' HNO.out.own _ e.symm; have := hwrz.size; omega)
 have HMB := HM3
 clear hown3 hg3
 exact lev_b) : P := h
theorem ZaI (x P cap : Nat) (ps : List Bt.Page) (lv : List Bt.Cell) (w : World) (hk0 : w.cell? ⟨x, 0, none⟩ = some (.slice (some ⟨P, 0, none⟩) ps.length cap)) (hxw : x < w.heap.size) (hpg : PgRow w (.slice (some ⟨P, 0, none⟩) ps.length cap) ps) (hn : NoneAt w)
 (hch : Bt.Chain lv Bt.nilP) (hse : ∀ c ∈ lv, Bt.Sees ps c.1 c.2) (hsm : lv.length ≤ 151) :
 Calls Tryz.prog 29 #[.pointer (some ⟨x, 0, none⟩), .agg (Bt.Z14 lv Bt.nilP).cells] w (Z7Y lv w) := by
 obtain ⟨i0, hi, hz0, hz1, hz2⟩ := info_parts Zby
 obtain ⟨i1, hi1, hz10, hz11, hz12⟩ := info_parts Z5r
 have HPG := hid hpg
 have HN := hid hn
 have HCH := hid hch
 have HSE := hid hse
 have ne := Z0U
 clear hpg hn hch hse
 unfold Bt.Ptr.cells
 go_enter Tryz.func29, Tryz.ntmps29
 go_wp2_with fail
 go_loopw [7, 8] (fun vn vp wr => ZcK lv w vn vp wr) (fun vn _ _ => lv.length - lenOf vn)
 case atStart => exact ⟨0, Nat.zero_le _, hid ⟨Blk.made _ _ _, ⟨[], NodesAt.nil _ _⟩, World.ownsRow_nil _ _ _ _, qL, rfl⟩⟩
 case round =>
  obtain ⟨k, hk, HA⟩ := hrel
  by_cases hkl : k < lv.length
  ·obtain ⟨l, n, hcn⟩ : ∃ l n, lv[k] = (l, n) := ⟨_, _, rfl⟩
   have hd : lv.drop k = (l, n) :: lv.drop (k + 1) := by rw [List.drop_eq_getElem_cons hkl, hcn]
   have hs := HSE.out (l, n) (by rw [← hcn]; exact List.getElem_mem hkl)
   have hright : n.right = Bt.Z14 (lv.drop (k + 1)) Bt.nilP := by
    have h1 := HCH.out
    rw [← List.take_append_drop k lv, hd] at h1
    exact (Bt.Chain.append.1 h1).2.1
   have htake : lv.take (k + 1) = lv.take k ++ [(l, n)] := by rw [List.take_succ_eq_append_getElem hkl, hcn]
   obtain ⟨us, hN⟩ := HA.out.nodes
   have HNO := hid hN
   have HAT := hid HA.out.at_
   have HB := hid HA.out.below
   have kp : ∀ i, wr.cell? ⟨w.heap.size, i, none⟩ = (#[.int .i64 l, .int .i64 1] : Array Value)[i]? := by
    have := HA.out.ptr.cell
    rw [hd] at this
    exact this
   have hplt := HA.out.ptr.lt
   have BPT : Hid (Blk wr w.heap.size 27 #[.int .i64 l, .int .i64 1]) := hid (by have := HA.out.ptr; rw [hd] at this; exact this)
   have hp : peq l 1 0 0 = false := by
    have h1 := hs.lo
    unfold peq
    exact decide_eq_false (by omega)
   have hx0 : wr.cell? ⟨x, 0, none⟩ = some (.slice (some ⟨P, 0, none⟩) ps.length cap) := (HB.out.cell (p := ⟨x, 0, none⟩) hxw).trans hk0
   have HNR := hid hs.node
   have HL : Hid (Bt.lookup ps (Bt.ptr l) 4 true = .found (Bt.pg ps l)) := hid (hs.found true)
   have HPL : Hid ((Bt.pg ps l).node = n) := hid (Bt.Z3y hs.node).2.1.symm
   have HOK : Hid ((Bt.pg ps l).Ok) := hid (HPG.out.ok _ (Z2G (hs.found true)))
   have HVN : Hid (lenOf u7 = k) := hid HA.out.len
   have HD := hid hright
   have HTK := hid htake
   have hxr : x < wr.heap.size := Nat.lt_of_lt_of_le hxw HB.out.size
   have HPG2 : Hid (PgRow wr (.slice (some ⟨P, 0, none⟩) ps.length cap) ps) := hid (HPG.out.below HB.out)
   have HN2 : Hid (NoneAt wr) := hid (HN.out.below HB.out)
   clear hd hs hright htake hN HA hcn
   go_wp2_with fail
   go_cut [9, 10, 11] from 14 to 56 (Z7X (.found (Bt.pg ps l)) wr)
   case first =>
    refine qA fun hSt => ?_
    refine qS [0, 1, 2, 3, 4] ?_
    iterate 5 (refine qT ?_; simp only [Act.put, qY])
    refine Z00.done ?_
    refine wpAnyH_ready (rs := [5, 10]) (by kernel_rfl) (by simp) ?_
    refine AllReadyH.cons rfl (fun K hK => ?_) (AllReadyH.cons rfl (fun K hK => ?_) (AllReadyH.nil))
    ·skip
     rw [if_pos (by rfl)]
     go_simp
     go_at_call 32; refine (Z5k ps _ (Bt.ptr l) _ _ ?hpg).mono ?_; (case hpg => exact HPG2.out.below qL); rintro e w1 ⟨rfl, hb⟩; rw [HL.out]; simp only [Bt.Look.page, Bt.Look.have_, Bt.Look.code, Bt.Page.cells]; ((obtain ⟨hc1, hf1, hs1⟩ := qR hb); (try have := qN0 wr w1); (try have := qN1 wr w1))
     go_wp2_with fail
     refine hK.out _ _ (SteadyAll.of qL) (fun hHeld => ?_)
     clear hK K
     refine qS [6, 7, 8, 9] ?_
     iterate 4 (refine qT ?_; simp only [Act.put, qY])
     refine Z00.done ?_
     refine qH 10 fun K hK => ?_
     go_simp
     refine hK.out _ _ (SteadyAll.of qL) (fun hHeld => ?_)
     clear hK K
     refine qH 11 fun K hK => ?_
     go_simp
     refine hK.out _ _ (SteadyAll.of qL) (fun hHeld => ?_)
     clear hK K
     refine qS [12, 13] ?_
     iterate 2 (refine qT ?_; simp only [Act.put, qY])
     refine Z00.done ?_
     refine qD ?_ _
     go_wp2_with fail
     go_meet
     exact ⟨_, rfl, by first | omega | (simp; omega), Blk.made _ _ _, rfl, rfl, qL⟩
    ·skip
     rw [if_pos (by rfl)]
     go_simp
     refine hK.out _ _ (SteadyAll.of qL) (fun hHeld => ?_)
     clear hK K
     refine qH 5 fun K hK => ?_
     go_simp
     go_at_call 32; refine (Z5k ps _ (Bt.ptr l) _ _ ?hpg2).mono ?_; (case hpg2 => exact HPG2.out.below qL); rintro e w1 ⟨rfl, hb⟩; rw [HL.out]; simp only [Bt.Look.page, Bt.Look.have_, Bt.Look.code, Bt.Page.cells]; ((obtain ⟨hc1, hf1, hs1⟩ := qR hb); (try have := qN0 wr w1); (try have := qN1 wr w1))
     go_wp2_with fail
     refine hK.out _ _ (SteadyAll.of qL) (fun hHeld => ?_)
     clear hK K
     refine qS [6, 7, 8, 9] ?_
     iterate 4 (refine qT ?_; simp only [Act.put, qY])
     refine Z00.done ?_
     refine qH 11 fun K hK => ?_
     go_simp
     refine hK.out _ _ (SteadyAll.of qL) (fun hHeld => ?_)
     clear hK K
     refine qS [12, 13] ?_
     iterate 2 (refine qT ?_; simp only [Act.put, qY])
     refine Z00.done ?_
     refine qD ?_ _
     go_wp2_with fail
     have BN := (show Blk (wr.drew.alloc (.cells #[.int .i64 0, .int .u64 0, .int .u64 0, .int .u64 0, .int .u64 0, .int .u64 0, .int .u64 0, .int .u64 0, .int .u64 0] 25)) wr.drew.heap.size 25 #[.int .i64 0, .int .u64 0, .int .u64 0, .int .u64 0, .int .u64 0, .int .u64 0, .int .u64 0, .int .u64 0, .int .u64 0] from Blk.made _ _ _).kept hb
     go_meet
     exact ⟨_, rfl, by first | omega | (simp; omega), BN.all9 _ _ _ _ _ _ _ _ _, rfl, rfl, qL⟩
   case rest =>
    obtain ⟨g, rfl, hg, BG, rfl, rfl, hbc⟩ := hcut
    have e1 : (Bt.Look.found (Bt.pg ps l)).code = 0 := rfl
    have e2 : (Bt.Look.found (Bt.pg ps l)).have_ = true := rfl
    obtain ⟨page, hpage⟩ : ∃ page, page = Bt.pg ps l := ⟨_, rfl⟩
    have kg : ∀ i, wc.cell? ⟨g, i, none⟩ = (#[.int .i64 page.line, .int .u64 page.head, .int .u64 page.d0, .int .u64 page.d1, .int .u64 page.d2, .int .u64 page.d3, .int .u64 page.d4, .int .u64 page.d5, .int .u64 page.d6] : Array Value)[i]? := by
     have := BG.cell
     rw [hpage]
     exact this
    have hgw : g < wc.heap.size := BG.lt
    rw [e1, e2]
    rw [← hpage] at HNR HOK HPL
    have HNC : Hid (NoneAt wc) := hid (HN2.out.below hbc)
    have HBC : Hid (Below wr.heap.size wr wc) := hid hbc
    have kp2 : ∀ i, wc.cell? ⟨w.heap.size, i, none⟩ = (#[.int .i64 l, .int .i64 1] : Array Value)[i]? := fun i => (hbc.cell (p := ⟨w.heap.size, i, none⟩) hplt).trans (kp i)
    have hplc : w.heap.size < wc.heap.size := Nat.lt_of_lt_of_le hplt hbc.size
    clear e1 e2 BG hpage
    have b200 : decide ((200 : Int) < ((lv.take k).length : Int)) = false := by simp; omega
    have b201 : decide (200 < (lv.take k).length) = false := by simp; omega
    have htl : (lv.take k).length = k := by rw [List.length_take]; omega
    obtain ⟨pn, cn, rfl⟩ := Z2q HNO.out.own
    rw [htl] at HNO HVN ⊢
    go_wp2_with fail
    go_at_call 28; refine (Z36 page HOK.out _ ?hng).mono ?_
    case hng => exact HNC.out.below qL
    rintro e2 w2 (⟨hrn, _⟩ | ⟨v, hrn, rfl, hown, hb2⟩)
    ·exact absurd (hrn.symm.trans HNR.out) (by simp)
    rw [HPL.out] at hown
    rw [HPL.out]
    ((obtain ⟨hc2, hf2, hs2⟩ := qR hb2); (try have := qN0 wc w2))
    have HOW := hid hown
    have HB2 : Hid (Below wr.heap.size wr w2) := hid qL
    have hsv := qSt HOW.out
    simp only [Z02]
    clear hown
    go_wp2_with fail
    have hpl : (Z2R (lv.take k)).length = k := by unfold Z2R; rw [List.length_map, htl]
    generalize hwz : w2.alloc (.cells #[.int .i64 n.level, .bool n.leftmost, .bool n.dead, .int .u32 n.high, .int .i64 n.right.line, .int .i64 n.right.gen, v] 73) = wz
    have hbz : Below w2.heap.size w2 wz := by rw [← hwz]; exact qL
    have BZ : Blk wz w2.heap.size 73 #[.int .i64 n.level, .bool n.leftmost, .bool n.dead, .int .u32 n.high, .int .i64 n.right.line, .int .i64 n.right.gen, v] := by rw [← hwz]; exact Blk.made _ _ _
    have hwrz : Below wr.heap.size wr wz := Z0O HB2.out hbz
    have HM0 : Hid (LevMid w.heap.size w2.heap.size k l n v (.slice pn k cn) u8 (lv.take k) (Z2R (lv.take k)) us w wz) := hid ⟨HNO.out.below hwrz, own_below (Zbt HAT.out hk) hwrz, own_base (own_below HOW.out hbz) (by have := HBC.out.size; omega), BPT.out.kept hwrz, BZ, Z0O HB.out hwrz, rfl, fun e => by have := own_lt' HNO.out.own _ e; have := HB2.out.size; omega⟩
    have kbz := HM0.out.bb.cell
    have kcz : ∀ i, wz.cell? ⟨w2.heap.size, i, none⟩ = (#[.int .i64 n.level, .bool n.leftmost, .bool n.dead, .int .u32 n.high, .int .i64 n.right.line, .int .i64 n.right.gen, v] : Array Value)[i]? := BZ.cell
    have lbz := HM0.out.bb.lt
    have lcz := BZ.lt
    clear hwz BZ hbz
    refine wp_region_held_drew (S := SteadyLev w.heap.size w2.heap.size #[.int .i64 l, .int .i64 1] #[.int .i64 n.level, .bool n.leftmost, .bool n.dead, .int .u32 n.high, .int .i64 n.right.line, .int .i64 n.right.gen, v]) (by kernel_rfl) (HM0.out.mono (Below.refl _ _).drew).steady ?_
    intro hSt
    refine qS [0, 1, 4, 5] ?_
    iterate 4 (refine qT ?_; simp only [Act.put, qY])
    refine Z00.done ?_
    refine wpAnyH_ready (rs := [2, 6]) (by kernel_rfl) (by simp) ?_
    refine AllReadyH.cons rfl (fun K hK => ?_) (AllReadyH.cons rfl (fun K hK => ?_) (AllReadyH.nil))
    ·skip
     rw [if_pos (by rfl)]
     go_simp
     refine hK.out _ _ ((HM0.out.mono qL).steady) (fun hHeld => ?_)
     clear hK K
     refine wpAnyH_ready (rs := [3, 6]) (by kernel_rfl) (by simp) ?_
     refine AllReadyH.cons rfl (fun K hK => ?_) (AllReadyH.cons rfl (fun K hK => ?_) (AllReadyH.nil))
     ·skip
      rw [if_pos (by rfl)]
      have HMA := hid (HM0.out.mono (wy := (wz.alloc (.cells #[.int .i64 n.level, .bool n.leftmost, .bool n.dead, .int .u32 n.high, .int .i64 n.right.line, .int .i64 n.right.gen, v] 73)).drew) qL)
      have BQA := (Blk.made wz 73 #[.int .i64 n.level, .bool n.leftmost, .bool n.dead, .int .u32 n.high, .int .i64 n.right.line, .int .i64 n.right.gen, v]).drew
      refine Z1M (.tmp 47) (.tmp 49) 77 rfl (w.heap.size + 1) 73 i0 _ 7 56 Tryz.underlying77 hi hz0 hz1 hz2 rfl (by decide) (.slice pn k cn) k (Z2K (lv.take k) us) rfl (Z26 HMA.out.nodes.own htl rfl) _ 1 1
       [.int .i64 n.level, .bool n.leftmost, .bool n.dead, .int .u32 n.high, .int .i64 n.right.line, .int .i64 n.right.gen, v] rfl rfl (Z2a (cs := #[.int .i64 n.level, .bool n.leftmost, .bool n.dead, .int .u32 n.high, .int .i64 n.right.line, .int .i64 n.right.gen, v]) BQA) (by intro u hu; simp at hu; rcases hu with rfl | rfl | rfl | rfl | rfl | rfl | rfl <;> first | rfl | exact Z0Q HMA.out.row) (by omega) (by unfold maxLen; omega) (by omega) (by have := HMA.out.below.size; have := HMA.out.bb.lt; have := HMA.out.hb; omega) ?_
      intro g3 cap3 w3 hown3 hg3
      have HM3 := hid (HMA.out.node (by rw [htl]; exact hown3) hg3)
      refine hK.out _ _ HM3.out.steady (fun hHeld => ?_)
      clear hK K
      simp only [Act.put, qY]
      clear hown3 hg3
      refine qH 6 fun K hK => ?_
      go_simp
      refine hK.out _ _ ((HM3.out.mono qL).steady) (fun hHeld => ?_)
      clear hK K
      have HMB := hid (HM3.out.mono (wy := w3.alloc (.cells #[.int .i64 l, .int .i64 1] 27)) qL)
      have BQB := Blk.made w3 27 #[.int .i64 l, .int .i64 1]
      exact lev_b
     ·skip
      rw [if_pos (by rfl)]
      go_simp
      refine hK.out _ _ ((HM0.out.mono qL).steady) (fun hHeld => ?_)
      clear hK K
      have HMA := hid (HM0.out.mono (wy := ((wz.alloc (.cells #[.int .i64 n.level, .bool n.leftmost, .bool n.dead, .int .u32 n.high, .int .i64 n.right.line, .int .i64 n.right.gen, v] 73)).alloc (.cells #[.int .i64 l, .int .i64 1] 27)).drew) qL)
      have BQA := ((Blk.made wz 73 #[.int .i64 n.level, .bool n.leftmost, .bool n.dead, .int .u32 n.high, .int .i64 n.right.line, .int .i64 n.right.gen, v]).alloc (.cells #[.int .i64 l, .int .i64 1] 27)).drew
      have BP1 : Blk ((wz.alloc (.cells #[.int .i64 n.level, .bool n.leftmost, .bool n.dead, .int .u32 n.high, .int .i64 n.right.line, .int .i64 n.right.gen, v] 73)).alloc (.cells #[.int .i64 l, .int .i64 1] 27)).drew (wz.heap.size + 1) 27 #[.int .i64 l, .int .i64 1] := (Blk.made' (by simp)).drew
      exact lev_a
    ·skip
     rw [if_pos (by rfl)]
     go_simp
     refine hK.out _ _ ((HM0.out.mono qL).steady) (fun hHeld => ?_)
     clear hK K
     refine qH 2 fun K hK => ?_
     go_simp
     refine hK.out _ _ ((HM0.out.mono qL).steady) (fun hHeld => ?_)
     clear hK K
     have HMA := hid (HM0.out.mono (wy := ((wz.alloc (.cells #[.int .i64 l, .int .i64 1] 27)).alloc (.cells #[.int .i64 n.level, .bool n.leftmost, .bool n.dead, .int .u32 n.high, .int .i64 n.right.line, .int .i64 n.right.gen, v] 73)).drew) qL)
     have BQA : Blk ((wz.alloc (.cells #[.int .i64 l, .int .i64 1] 27)).alloc (.cells #[.int .i64 n.level, .bool n.leftmost, .bool n.dead, .int .u32 n.high, .int .i64 n.right.line, .int .i64 n.right.gen, v] 73)).drew (wz.heap.size + 1) 73 #[.int .i64 n.level, .bool n.leftmost, .bool n.dead, .int .u32 n.high, .int .i64 n.right.line, .int .i64 n.right.gen, v] := (Blk.made' (by simp)).drew
     have BP1 := ((Blk.made wz 27 #[.int .i64 l, .int .i64 1]).alloc (.cells #[.int .i64 n.level, .bool n.leftmost, .bool n.dead, .int .u32 n.high, .int .i64 n.right.line, .int .i64 n.right.gen, v] 73)).drew
     exact lev_a
  ·obtain rfl : k = lv.length := by omega
   have hp : peq 0 0 0 0 = true := rfl
   have kp : ∀ i, wr.cell? ⟨w.heap.size, i, none⟩ = (#[.int .i64 0, .int .i64 0] : Array Value)[i]? := by
    have := HA.out.ptr.cell
    rw [List.drop_length] at this
    exact this
   have hplt := HA.out.ptr.lt
   go_wp2_with fail
   obtain ⟨us, hN⟩ := HA.out.nodes
   have hA := HA.out.at_
   rw [List.take_length] at hN hA
   exact bodyPost_ret (results_tmp3 rfl _ _ _) rfl ⟨u7, u8, us, rfl, hN.base (by omega), own_base hA (by omega), HA.out.below⟩
section
variable {x P cap k : Nat} {w0 wr : World} {ps : List Bt.Page} {nx : Int} {es : List Bt.Entry} {T : List (List Bt.Cell)}
structure RootAt (P : Nat) (T : List (List Bt.Cell)) (R : Bt.Page) (w : World) : Prop where
 ok : R.Ok
 line : R.line = 96
 reads : Bt.Z1p R = some (Bt.Z1i T, ((T.length - 1 : Nat) : Int))
 cells : ∀ j u, R.cells[j]? = some u → w.cell? ⟨P, j, none⟩ = some u
theorem ZbZ (hi : Bt.Inv ps nx es T) (hx : IxG x P cap k ps nx (keysOf es) (tosOf es) wr) : RootAt P T (Bt.pg ps 96) wr := by
 obtain ⟨h1, h2, h3, h4, _⟩ := hi.rootHere
 obtain ⟨vk, vt, vg, hxo, _⟩ := hx
 have hlen := hi.ix.len
 obtain ⟨_, _, _, h5⟩ := hi.ix.at (l := 96) (by omega) (by omega)
 have h0 : 0 < ps.length := by omega
 have h6 : ps[0] = Bt.pg ps 96 := by
  have e : ((96 : Int) - 96).toNat = 0 := rfl
  rw [e, List.getElem?_eq_getElem h0] at h5
  exact Option.some.inj h5
 refine ⟨h4, h3, hi.root, fun j u hu => ?_⟩
 have h7 := hxo.pg.row_at h0 j u (by rw [h6, Array.getElem?_toList]; exact hu)
 simpa using h7
theorem RootAt.nine {R : Bt.Page} {w : World} (h : RootAt P T R w) : w.cell? ⟨P, 0, none⟩ = some (.int .i64 R.line) ∧ w.cell? ⟨P, 1, none⟩ = some (.int .u64 R.head) ∧ w.cell? ⟨P, 2, none⟩ = some (.int .u64 R.d0) ∧ w.cell? ⟨P, 3, none⟩ = some (.int .u64 R.d1) ∧
 w.cell? ⟨P, 4, none⟩ = some (.int .u64 R.d2) ∧ w.cell? ⟨P, 5, none⟩ = some (.int .u64 R.d3) ∧ w.cell? ⟨P, 6, none⟩ = some (.int .u64 R.d4) ∧ w.cell? ⟨P, 7, none⟩ = some (.int .u64 R.d5) ∧ w.cell? ⟨P, 8, none⟩ = some (.int .u64 R.d6) := by
 exact ⟨h.cells 0 _ rfl, h.cells 1 _ rfl, h.cells 2 _ rfl, h.cells 3 _ rfl, h.cells 4 _ rfl, h.cells 5 _ rfl, h.cells 6 _ rfl, h.cells 7 _ rfl, h.cells 8 _ rfl⟩
theorem Z8S (hi : Bt.Inv ps nx es T) {wx : World} (hx : IxG x P cap k ps nx (keysOf es) (tosOf es) wx) {pre post : List (List Bt.Cell)} {lv : List Bt.Cell} (hT : T = pre ++ lv :: post) :
 Calls Tryz.prog 29 #[.pointer (some ⟨x, 0, none⟩), .agg (Bt.Z14 lv Bt.nilP).cells] wx (Z7Y lv wx) := by
 obtain ⟨vk, vt, vg, hxo, _⟩ := hx
 have hlv : Bt.Level ((post.length : Nat) : Int) lv := Bt.Tree.level (pre := pre) (hT ▸ hi.tree)
 have hmem : ∀ c ∈ lv, c ∈ Bt.flat T := fun c hc => by rw [hT]; simp only [Bt.Z0P, Bt.Z16, List.mem_append]; exact .inr (.inl hc)
 refine ZaI x P cap ps lv wx (hxo.blk.cell 0) hxo.blk.lt hxo.pg.row hxo.none hlv.chain (fun c hc => hi.sees c (hmem c hc)) ?_
 have := hi.small
 rw [hT] at this
 simp only [Bt.Z0P, Bt.Z16, List.length_append] at this
 omega
end
end Go.Proofs.YtjmpekanlmepmaaGreatDoor
namespace Go.Proofs.YtjmpekanlmepmaaGreatDoor.Bt
def inner : List (List Cell) → Nat
 | up :: lo :: t => (ents up).length + inner (lo :: t)
 | _ => 0
theorem Z6Z {c : List Cell} {t : List (List Cell)} (h : Levels (c :: t)) (hn : Links (c :: t)) : inner (c :: t) ≤ (flat t).length := by
 induction t generalizing c with
 | nil => exact Nat.zero_le _
 | cons lo t ih =>
   have h1 := Levels.ents_le h hn
   have h2 := Z9i lo
   have h3 := ih h.2 hn.tail
   show (ents c).length + inner (lo :: t) ≤ _
   rw [Z16, List.length_append]
   omega
theorem Z9s (pre : List (List Cell)) (lv lv' lo : List Cell) (post : List (List Cell)) : inner (pre ++ lv' :: lo :: post) + (ents lv).length = inner (pre ++ lv :: lo :: post) + (ents lv').length := by
 induction pre with
 | nil => show (ents lv').length + inner (lo :: post) + (ents lv).length = (ents lv).length + inner (lo :: post) + (ents lv').length; omega
 | cons c pre ih =>
   cases pre with
   | nil =>
     simp only [List.nil_append] at ih
     show (ents c).length + inner (lv' :: lo :: post) + _ = (ents c).length + inner (lv :: lo :: post) + _
     omega
   | cons d pre =>
     simp only [List.cons_append] at ih
     show (ents c).length + inner (d :: (pre ++ lv' :: lo :: post)) + _ = (ents c).length + inner (d :: (pre ++ lv :: lo :: post)) + _
     omega
def Z4c (lo : List Cell) (e : Entry) : Prop := ∀ c ∈ lo, e.to = ptr c.1 → c.2.dead = false → e.key ≤ c.2.high
theorem Z7q : ∀ {T : List (List Cell)}, (∀ pre up lo post, T = pre ++ up :: lo :: post → ∀ e ∈ ents up, Z4c lo e) → Z4E T
 | [], _ => trivial
 | [_], _ => trivial
 | up :: lo :: t, h => ⟨h [] up lo t rfl, Z7q (T := lo :: t) (fun pre up' lo' post hT => h (up :: pre) up' lo' post (by rw [hT]; rfl))⟩
theorem Z81 {l : List Cell} (h : (l.map (·.1)).Nodup) {a b : Cell} (ha : a ∈ l) (hb : b ∈ l) (he : a.1 = b.1) : a = b := by
 induction l with
 | nil => cases ha
 | cons c l ih =>
   simp only [List.map_cons, List.nodup_cons, List.mem_map, not_exists, not_and] at h
   rcases List.mem_cons.1 ha with ha1 | ha1
   ·rcases List.mem_cons.1 hb with hb1 | hb1
    ·rw [ha1, hb1]
    ·exact absurd (by rw [← he, ha1]) (h.1 b hb1)
   ·rcases List.mem_cons.1 hb with hb1 | hb1
    ·exact absurd (by rw [he, hb1]) (h.1 a ha1)
    ·exact ih h.2 ha1 hb1
theorem Inv.postKey {ps : List Page} {nx : Int} {es : List Entry} {T : List (List Cell)} (h : Inv ps nx es T) (hnx : nx < 256) {op : Op} (hkd : op.kind = 5) (hop : op.fresh = []) (hk : 1 ≤ op.key) (hk2 : op.key ≤ Z08)
 {pre post : List (List Cell)} {up lo : List Cell} (hT : T = pre ++ up :: lo :: post) (hlev : op.level = (post.length : Int)) (hl8 : post.length < 8) :
 (∃ o, next op ps = ⟨[], [], o, true⟩ ∧ o.code = 0 ∧ o.done = false ∧ ∀ e ∈ ents up, e.key = op.key → Z4c lo e) ∨
 ∃ o, Z7U (fun _ T' => ∃ up', T' = pre ++ up' :: lo :: post ∧ (ents up').length = (ents up).length + 1 ∧ Z14 up' nilP = Z14 up nilP) 0 op ps nx es T o ∧ o.code = 0 ∧ o.done = true := by
 rcases h.post hnx hkd hop hk hk2 (lev := post.length) hlev hl8 with ⟨hsh, _⟩ | ⟨pre2, post2, A, R, lo2, a', b', l, n, a, b, e, x, hat, hcase⟩
 ·rw [hT] at hsh
  simp only [List.length_append, List.length_cons] at hsh
  omega
 ·have hT2 := hat.tree
  rw [hT] at hT2
  have hin := List.append_inj' hT2 (by have := hat.len; simp; omega)
  obtain ⟨rfl, h2⟩ := hin
  simp only [List.cons.injEq] at h2
  obtain ⟨rfl, rfl, rfl⟩ := h2
  rcases hcase with ⟨hle, o, ho, hoc, hof, hod⟩ | ⟨_, o, ht, hoc, hod, _⟩
  ·left
   refine ⟨o, ho, hoc, hod, fun e' he' hek => ?_⟩
   have hlv : Level (((lo :: post).length : Nat) : Int) (A ++ (l, n) :: R) := Tree.level (pre := pre) (hT ▸ h.tree)
   have hR := hlv.risingEnts
   have hEu : ents (A ++ (l, n) :: R) = (ents A ++ a) ++ e :: (b ++ ents R) := by rw [Z0I, Z0N, show (l, n).2.entries = n.entries from rfl, hat.ents]; simp
   rw [hEu] at hR
   have hmid := Z3X hR
   have hA : Z1l 0 (ents A) = Z05 0 A := Level.Z1l (l := (((lo :: post).length : Nat) : Int)) (by simp only [List.length_cons]; omega) (fun c hc => hlv.valid c (by simp [hc])) (fun c hc => hlv.level c (by simp [hc])) 0
   have hra := Z0C.1 (Z0C.1 hR).1
   have heq : e' = e := by
    rw [hEu] at he'
    rcases List.mem_append.1 he' with h1 | h1
    ·exfalso
     rcases List.mem_append.1 h1 with h1 | h1
     ·have h3 := (Z5a hra.1).2 e' h1
      have := hat.over
      omega
     ·have := hat.left e' h1
      omega
    ·rcases List.mem_cons.1 h1 with h1 | h1
     ·exact h1
     ·exfalso
      have := hmid.2.2 e' h1
      have := hat.here
      omega
   subst heq
   intro c hc hto _
   have hcx : c = x := by
    have hnd := h.tree.nodup
    have hcf : c ∈ flat T := by rw [hT]; simp only [Z0P, Z16, List.mem_append]; exact .inr (.inr (.inl hc))
    have hxf : x ∈ flat T := by rw [hT]; simp only [Z0P, Z16, List.mem_append]; exact .inr (.inr (.inl (by rw [hat.low]; simp)))
    refine Z81 hnd hcf hxf (Z8k ?_)
    rw [← hto, hat.to]
   rw [hcx]
   exact hle
  ·right
   exact ⟨o, ht, hoc, hod⟩
theorem Z8B (c : List Cell) (t : List (List Cell)) (x : Cell) (h : x.2.entries.length = 2) : inner ([x] :: c :: t) = inner (c :: t) + 2 := by
 show (ents [x]).length + inner (c :: t) = _
 rw [Z0N, Z6l]
 simp
 omega
end Go.Proofs.YtjmpekanlmepmaaGreatDoor.Bt
namespace Go.Proofs.YtjmpekanlmepmaaGreatDoor
open Go.RowKit
structure FinBase (x P n : Nat) (vk vt vg : Value) (es : List Bt.Entry) (w5 : World) : Prop where
 keys : w5.ownsRow (x + 1) 52 1 vk (keysOf es).length (Z0z (keysOf es))
 tos : w5.ownsRow (x + 1) 27 2 vt (tosOf es).length (Z0b (tosOf es))
 gone : Gone x n vt vg w5
 none : NoneAt w5
 hPx : P < x
 hgP : 0 < P
 lt : x < w5.heap.size
structure FinAt (x P cap n : Nat) (vk vt vg : Value) (Z : Prop) (es : List Bt.Entry) (w5 wr : World) (ps : List Bt.Page) (nx : Int) (T : List (List Bt.Cell)) : Prop where
 inv : Bt.Inv ps nx es T
 cnt : ∃ ins K, ins ≤ n ∧ Bt.Cnt T nx ins K ∧ (Z → K = 0)
 blk : Blk wr x 58 (Z1P P ps.length cap nx vk vt vg)
 pg : PagesAt P cap ps wr
 over : OverTwo x P w5 wr
theorem NoneAt.pair {x P : Nat} {w w' : World} (h : NoneAt w) (ho : OverTwo x P w w') (hx : 0 ≠ x) (hP : 0 ≠ P) : NoneAt w' := by
 have hb := ho.block _ h.lt hx hP
 exact ⟨by have := h.c0; simpa only [World.cell?, hb] using this, by have := h.c1; simpa only [World.cell?, hb] using this, Nat.lt_of_lt_of_le h.lt ho.size⟩
section
variable {x P cap n : Nat} {vk vt vg : Value} {Z : Prop} {es : List Bt.Entry} {w0 w5 wr : World} {ps : List Bt.Page} {nx : Int} {T : List (List Bt.Cell)}
theorem FinAt.ok (hB : FinBase x P n vk vt vg es w5) (h : FinAt x P cap n vk vt vg Z es w5 wr ps nx T) : IxOk x P cap ps nx (keysOf es) (tosOf es) vk vt vg wr := by
 have h1 := hB.hPx
 have h2 := hB.hgP
 exact ⟨h.blk, h.pg, Z2o hB.keys h.over (by omega) (by omega), Z2o hB.tos h.over (by omega) (by omega), hB.none.pair h.over (by omega) (by omega), h1, h2⟩
theorem FinAt.below (h : FinAt x P cap n vk vt vg Z es w5 wr ps nx T) {wx : World} (hb : Below wr.heap.size wr wx) : FinAt x P cap n vk vt vg Z es w5 wx ps nx T :=
 ⟨h.inv, h.cnt, h.blk.kept hb, h.pg.two (x := x) (fun j hj => by subst hj; exact hb.block _ h.pg.lt) hb.size, h.over.trans (.of_below hb)⟩
theorem OverTwo.put {x P b i : Nat} {w w' : World} {u : Value} (h : OverTwo x P w w') (hb : w.heap.size ≤ b) : OverTwo x P w (w'.setCell ⟨b, i, .none⟩ u) :=
 ⟨h.os, h.tape, h.output, by simpa [World.setCell] using h.size, fun j hj hx hP => (heap_setCell_other w' _ j u (by show j ≠ b; omega)).trans (h.block j hj hx hP)⟩
theorem FinAt.put (h : FinAt x P cap n vk vt vg Z es w5 wr ps nx T) {b : Nat} (hx : x ≠ b) (hP : P ≠ b) (hb : w5.heap.size ≤ b) (i : Nat) (u : Value) : FinAt x P cap n vk vt vg Z es w5 (wr.setCell ⟨b, i, .none⟩ u) ps nx T :=
 ⟨h.inv, h.cnt, h.blk.aside hx u, h.pg.aside hP u, h.over.put hb⟩
theorem FinAt.start (h : PlayAt x P cap n w0 wr ps nx es T) (hZ : Z → ∃ ins, ins ≤ n ∧ Bt.Cnt T nx ins 0) : ∃ vk vt vg, FinBase x P n vk vt vg es wr ∧ FinAt x P cap n vk vt vg Z es wr wr ps nx T := by
 obtain ⟨vk, vt, vg, hxo, hg⟩ := h.ix
 refine ⟨vk, vt, vg, ⟨hxo.keys, hxo.tos, hg, hxo.none, hxo.hPx, hxo.hgP, hxo.blk.lt⟩, ⟨h.inv, ?_, hxo.blk, hxo.pg, OverTwo.refl _ _ _⟩⟩
 by_cases z : Z
 ·obtain ⟨ins, h1, h2⟩ := hZ z
  exact ⟨ins, 0, h1, h2, fun _ => rfl⟩
 ·obtain ⟨ins, K, h1, h2⟩ := h.cnt
  exact ⟨ins, K, h1, h2, fun hz => absurd hz z⟩
theorem FinAt.ixG (hB : FinBase x P n vk vt vg es w5) (h : FinAt x P cap n vk vt vg Z es w5 wr ps nx T) : IxG x P cap n ps nx (keysOf es) (tosOf es) wr :=
 ⟨vk, vt, vg, FinAt.ok hB h, hB.gone.two h.over hB.hPx⟩
def Z7Z (x P cap n : Nat) (vk vt vg : Value) (Z : Prop) (es : List Bt.Entry) (w5 : World) (ps : List Bt.Page) (nx : Int) (T : List (List Bt.Cell)) (o : Bt.Out) (wx : World) (e : Ending) (w' : World) : Prop :=
 ∃ ve vc, e = .returned (.tuple #[.agg (Z0n o ve vc), .bool true]) ∧ FinAt x P cap n vk vt vg Z es w5 w' ps nx T ∧ OverTwo x P wx w' ∧ w'.ownsRow wx.heap.size 69 3 ve o.entries.length (Z04 o.entries) ∧ w'.ownsRow wx.heap.size 3 1 vc o.check.length (intCells o.check)
theorem FinAt.step (hB : FinBase x P n vk vt vg es w5) (h : FinAt x P cap n vk vt vg Z es w5 wr ps nx T) (op : Bt.Op) (hop : op.fresh = []) (HS : Z2O ps nx op) {o : Bt.Out} {ws : List Bt.Page} {nx' : Int} {T' : List (List Bt.Cell)}
 (hR : Bt.Z6I op ps nx ws o nx') (hcm : Bt.Commits ps ws) (hoc : o.code = 0 ∨ (ws = [] ∧ o.code ≠ 18 ∧ nx' = nx)) (hinv : Bt.Inv (Bt.Z0J ps ws) nx' es T') (hevo : Bt.Evo nx (nx' - nx) 0 0 T T') (wx : World) (hb : Below wr.heap.size wr wx) :
 Calls Tryz.prog 31 #[.pointer (some ⟨x, 0, none⟩), .agg (Z0d op (.slice none 0 0))] wx (Z7Z x P cap n vk vt vg Z es w5 (Bt.Z0J ps ws) nx' T' o wx) := by
 have hx := h.below hb
 refine (ZbR h.inv vk vt vg op hop hR hcm hoc HS wx (FinAt.ok hB hx)).mono ?_
 rintro e w' ⟨ve, vc, he, hb, hpg, ho, hn, hre, hrc⟩
 obtain ⟨ins, K, h1, h2, h3⟩ := h.cnt
 have h4 := hevo.cnt h2
 rw [show nx + (nx' - nx) = nx' by omega] at h4
 exact ⟨ve, vc, he, ⟨hinv, ⟨ins, K, h1, h4, h3⟩, hb, hpg, hx.over.trans ho⟩, ho, hre, hrc⟩
theorem FinAt.raise (hB : FinBase x P n vk vt vg es w5) (h : FinAt x P cap n vk vt vg Z es w5 wr ps nx T) (hn : n ≤ 76) :
 ∃ o ps' nx' T', ((T = [] ∧ T' = [] ∧ o.code = 16) ∨ (o.code = 0 ∧ o.done = false ∧ T' = T ∧ ∃ c t, T = [c] :: t) ∨ (o.code = 0 ∧ o.done = true ∧ T' ≠ [] ∧ Bt.inner T < Bt.inner T')) ∧
  ∀ wx, Below wr.heap.size wr wx → Calls Tryz.prog 31 #[.pointer (some ⟨x, 0, none⟩), .agg (Z0d Z2M (.slice none 0 0))] wx (Z7Z x P cap n vk vt vg Z es w5 ps' nx' T' o wx) := by
 obtain ⟨ins, K, h1, h2, h3⟩ := h.cnt
 obtain ⟨hT4, hnx4⟩ := h2.bound h.inv.tree (by omega)
 have HS := Z6h h.inv (by omega)
 rcases h.inv.raise (by omega) (by omega) (op := Z2M) rfl rfl with ⟨hT, o, ho, hoc⟩ | ⟨c, t, hT, o, ho, hoc, hof, hod⟩ | ⟨a, b, r, t, o, hT, ⟨ws, nx', T', hR, _, hcm, hinv, _, hevo, hq⟩, hoc, hod, _⟩
 ·exact ⟨o, ps, nx, T, .inl ⟨hT, hT, hoc⟩, fun wx hb => FinAt.step hB h Z2M rfl HS (.inl ⟨ho, rfl⟩) (.nil ps) (.inr ⟨rfl, by omega, rfl⟩) h.inv (by rw [Int.sub_self]; exact .same) wx hb⟩
 ·exact ⟨o, ps, nx, T, .inr (.inl ⟨hoc, hod, rfl, c, t, hT⟩), fun wx hb => FinAt.step hB h Z2M rfl HS (.inl ⟨ho, rfl⟩) (.nil ps) (.inl hoc) h.inv (by rw [Int.sub_self]; exact .same) wx hb⟩
 ·refine ⟨o, _, nx', T', .inr (.inr ⟨hoc, hod, by rw [hq]; simp, ?_⟩), fun wx hb => FinAt.step hB h Z2M rfl HS hR hcm (.inl hoc) hinv hevo wx hb⟩
  rw [hq, hT, Bt.Z8B _ _ _ rfl]
  omega
theorem FinAt.post (hB : FinBase x P n vk vt vg es w5) (h : FinAt x P cap n vk vt vg Z es w5 wr ps nx T) (hn : n ≤ 76) (key : Int) (hk : 1 ≤ key) (hk2 : key ≤ Bt.Z08) {pre post : List (List Bt.Cell)} {up lo : List Bt.Cell} (hT : T = pre ++ up :: lo :: post) :
 ∃ o ps' nx' up', o.code = 0 ∧ Bt.Z14 up' Bt.nilP = Bt.Z14 up Bt.nilP ∧ ((o.done = false ∧ up' = up ∧ ∀ e ∈ Bt.ents up, e.key = key → Bt.Z4c lo e) ∨ (o.done = true ∧ Bt.inner T < Bt.inner (pre ++ up' :: lo :: post))) ∧
  ∀ wx, Below wr.heap.size wr wx → Calls Tryz.prog 31 #[.pointer (some ⟨x, 0, none⟩), .agg (Z0d (Z5Z key (post.length : Int)) (.slice none 0 0))] wx (Z7Z x P cap n vk vt vg Z es w5 ps' nx' (pre ++ up' :: lo :: post) o wx) := by
 obtain ⟨ins, K, h1, h2, h3⟩ := h.cnt
 obtain ⟨hT4, hnx4⟩ := h2.bound h.inv.tree (by omega)
 have hpl : post.length < 8 := by rw [hT] at hT4; simp at hT4; omega
 have HS := Z8X h.inv key hk hk2 post.length hpl
 rcases h.inv.postKey (by omega) (op := Z5Z key (post.length : Int)) rfl rfl hk hk2 hT rfl hpl with ⟨o, ho, hoc, hod, hat⟩ | ⟨o, ⟨ws, nx', T', hR, _, hcm, hinv, _, hevo, up', hq, hel, hhd⟩, hoc, hod⟩
 ·exact ⟨o, ps, nx, up, hoc, rfl, .inl ⟨hod, rfl, hat⟩, fun wx hb => by rw [← hT]; exact FinAt.step hB h _ rfl HS (.inl ⟨ho, rfl⟩) (.nil ps) (.inl hoc) h.inv (by rw [Int.sub_self]; exact .same) wx hb⟩
 ·refine ⟨o, _, nx', up', hoc, hhd, .inr ⟨hod, ?_⟩, fun wx hb => by rw [← hq]; exact FinAt.step hB h _ rfl HS hR hcm (.inl hoc) hinv hevo wx hb⟩
  have := Bt.Z9s pre up up' lo post
  rw [hT]
  omega
theorem FinAt.Z6Z (h : FinAt x P cap n vk vt vg Z es w5 wr ps nx T) : Bt.inner T ≤ 151 := by
 cases T with
 | nil => exact Nat.zero_le _
 | cons c t =>
   have h1 := Bt.Z6Z h.inv.tree.levels h.inv.tree.links
   have h2 := h.inv.small
   rw [Bt.Z16, List.length_append] at h2
   omega
theorem FinAt.root (h : FinAt x P cap n vk vt vg Z es w5 wr ps nx T) : RootAt P T (Bt.pg ps 96) wr := by
 obtain ⟨h1, h2, h3, h4, _⟩ := h.inv.rootHere
 have hlen := h.inv.ix.len
 obtain ⟨_, _, _, h5⟩ := h.inv.ix.at (l := 96) (by omega) (by omega)
 have h0 : 0 < ps.length := by omega
 have h6 : ps[0] = Bt.pg ps 96 := by
  have e : ((96 : Int) - 96).toNat = 0 := rfl
  rw [e, List.getElem?_eq_getElem h0] at h5
  exact Option.some.inj h5
 refine ⟨h4, h3, h.inv.root, fun j u hu => ?_⟩
 have h7 := h.pg.row_at h0 j u (by rw [h6, Array.getElem?_toList]; exact hu)
 simpa using h7
theorem FinAt.level (hB : FinBase x P n vk vt vg es w5) (h : FinAt x P cap n vk vt vg Z es w5 wr ps nx T) {pre post : List (List Bt.Cell)} {lv : List Bt.Cell} (hT : T = pre ++ lv :: post) (wx : World) (hb : Below wr.heap.size wr wx) :
 Calls Tryz.prog 29 #[.pointer (some ⟨x, 0, none⟩), .agg (Bt.Z14 lv Bt.nilP).cells] wx (Z7Y lv wx) :=
 Z8S h.inv (FinAt.ixG hB (h.below hb)) hT
theorem NodesAt.two {base : Nat} {vn : Value} {cells : List Bt.Cell} {us : List Value} {w w' : World} (h : NodesAt base vn cells us w) (ho : OverTwo x P w w') (hx : x < base) (hP : P < base) : NodesAt base vn cells us w' :=
 ⟨h.len, Z2o h.own ho hx hP, fun i c u hc hu => Z2o (h.rows i c u hc hu) ho hx hP⟩
end
end Go.Proofs.YtjmpekanlmepmaaGreatDoor
