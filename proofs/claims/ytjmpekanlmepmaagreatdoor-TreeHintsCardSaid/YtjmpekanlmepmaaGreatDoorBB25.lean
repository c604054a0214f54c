/- Package slices at elements of several cells: copy, clear; slices.overlaps (an extern). -/
import Derived.Test.YtjmpekanlmepmaaGreatDoorBB19
import Derived.Laws.CopyRow
import Derived.Lib.AppendZerosOnto
import Derived.Lib.Overlaps
import Derived.Test.YtjmpekanlmepmaaGreatDoorBB17
import Derived.Shelf.RegionOpenPlain
import Derived.Test.YtjmpekanlmepmaaGreatDoorBB23
import Derived.Test.YtjmpekanlmepmaaGreatDoorBB24
set_option linter.all false
set_option maxRecDepth 20000
set_option maxHeartbeats 8000000
open Go.Lib (hid)
namespace Go.Proofs.YtjmpekanlmepmaaGreatDoor
open Go.RowKit
section
variable {P : Program} {ops : Array Oper} {rest : List Oper} {o : Oper} {a : Act} {w : World} {K : Act → World → Prop} {Q : Exit → Act → World → Prop}
theorem Z6N (w : World) (dT sT ty elem : TypeId) (size g off dLen dCap : Nat) (ad : Addr) (sLen sCap : Nat) (cur : Array Value) (t : TypeId) (cs : List Value)
 (hu : P.underlying dT = some (.slice elem)) (hs : (P.info? elem).map (·.size) = some size) (hg : w.heap[g]? = some (.cells cur t (0, 0))) (hn : cs.length = Nat.min sLen dLen * size)
 (hsrc : ∀ j v, cs[j]? = some v → w.cell? (ad.add j) = some v) (hfit : off + cs.length ≤ cur.size) (h1 : ∀ v ∈ cs, v.oneCell' = true) :
 (Builtin.copy_ #[dT, sT] ty #[.slice (some ⟨g, off, none⟩) dLen dCap, .slice (some ad) sLen sCap]).run P w =
  .ok (goInt (Nat.min sLen dLen)) (w.setRow g (cur.toList.take off ++ cs ++ cur.toList.drop (off + cs.length)).toArray) := by
 have hl := run_loadCells_list (P := P) w ad cs hsrc
 have hst := run_storeCells_at P g off t cs 0 cur w hg (by simpa using hfit) h1
 cases hq : P.info? elem with
 | none => simp [hq] at hs
 | some i =>
   have hi : i.size = size := by simpa [hq] using hs
   have hn2 : cs.length = min sLen dLen * size := hn
   simp [Builtin.copy_, run_underlying hu, Builtin.lenOf, Builtin.firstCells, sizeOf, typeInfo, hq, hi, ← hn2, hl, hst]
theorem Z5O (d s : Operand) (dT sT : TypeId) (ho : o.op = .call { callee := .builtin .copy, args := #[d, s], argTypes := #[dT, sT] }) (elem : TypeId) (size : Nat) (hu : P.underlying dT = some (.slice elem)) (hsz : (P.info? elem).map (·.size) = some size)
 (g off dLen dCap : Nat) (ad : Addr) (sLen sCap : Nat) (hd : a.eval d = .slice (some ⟨g, off, none⟩) dLen dCap) (hs : a.eval s = .slice (some ad) sLen sCap)
 (t : TypeId) (cur : Array Value) (hg : Blk w g t cur) (cs : List Value) (hn : cs.length = Nat.min sLen dLen * size) (hsrc : ∀ j v, cs[j]? = some v → w.cell? (ad.add j) = some v) (hfit : off + cs.length ≤ cur.size) (h1 : ∀ v ∈ cs, v.oneCell' = true)
 (h : ∀ wx, Blk wx g t (cur.toList.take off ++ cs ++ cur.toList.drop (off + cs.length)).toArray → Over g w wx → wx.heap.size = w.heap.size → K (a.put o.dst (goInt (Nat.min sLen dLen))) wx) : o.wp P a w K Q := by
 have hr := Z6N (P := P) w dT sT o.type elem size g off dLen dCap ad sLen sCap cur t cs hu hsz hg hn hsrc hfit h1
 unfold Oper.wp execOp
 simp only [ho, resolve, invoke, builtin, Sem.run_bind, Sem.run_pure, Result.andThen_ok, List.map_toArray, List.map_cons, List.map_nil, hd, hs, hr]
 exact h _ (setRow_heap w g cur _ t (0, 0) hg) (Z3V w g _) (by simp)
theorem Z4f (hgd : o.guard = none) (d s : Operand) (dT sT : TypeId) (ho : o.op = .call { callee := .builtin .copy, args := #[d, s], argTypes := #[dT, sT] }) (elem : TypeId) (size : Nat) (hu : P.underlying dT = some (.slice elem)) (hsz : (P.info? elem).map (·.size) = some size)
 (g off dLen dCap : Nat) (ad : Addr) (sLen sCap : Nat) (hd : a.eval d = .slice (some ⟨g, off, none⟩) dLen dCap) (hs : a.eval s = .slice (some ad) sLen sCap)
 (t : TypeId) (cur : Array Value) (hg : Blk w g t cur) (cs : List Value) (hn : cs.length = Nat.min sLen dLen * size) (hsrc : ∀ j v, cs[j]? = some v → w.cell? (ad.add j) = some v) (hfit : off + cs.length ≤ cur.size) (h1 : ∀ v ∈ cs, v.oneCell' = true)
 (h : ∀ wx, Blk wx g t (cur.toList.take off ++ cs ++ cur.toList.drop (off + cs.length)).toArray → Over g w wx → wx.heap.size = w.heap.size → wpList P ops Q rest (a.put o.dst (goInt (Nat.min sLen dLen))) wx) : wpList P ops Q (o :: rest) a w :=
 wpList_plain hgd fun _ hK => Z5O d s dT sT ho elem size hu hsz g off dLen dCap ad sLen sCap hd hs t cur hg cs hn hsrc hfit h1 (fun wx h2 h3 h4 => hK _ _ (h wx h2 h3 h4))
theorem Z50 {E : Prop} (hgd : o.guard = none) (d s : Operand) (dT sT : TypeId) (ho : o.op = .call { callee := .builtin .copy, args := #[d, s], argTypes := #[dT, sT] }) (elem : TypeId) (size : Nat) (hu : P.underlying dT = some (.slice elem)) (hsz : (P.info? elem).map (·.size) = some size)
 (g off dLen dCap : Nat) (ad : Addr) (sLen sCap : Nat) (hd : a.eval d = .slice (some ⟨g, off, none⟩) dLen dCap) (hs : a.eval s = .slice (some ad) sLen sCap)
 (t : TypeId) (cur : Array Value) (hg : Blk w g t cur) (cs : List Value) (hn : cs.length = Nat.min sLen dLen * size) (hsrc : ∀ j v, cs[j]? = some v → w.cell? (ad.add j) = some v) (hfit : off + cs.length ≤ cur.size) (h1 : ∀ v ∈ cs, v.oneCell' = true)
 (h : ∀ wx, Blk wx g t (cur.toList.take off ++ cs ++ cur.toList.drop (off + cs.length)).toArray → Over g w wx → wx.heap.size = w.heap.size → K (a.put o.dst (goInt (Nat.min sLen dLen))) wx) :
 if Region.wanted o (yielded ops a.tmps) = true then Oper.wp P o a w K Q else E := by
 have hw : Region.wanted o (yielded ops a.tmps) = true := by simp [Region.wanted, hgd]
 rw [if_pos hw]
 exact Z5O d s dT sT ho elem size hu hsz g off dLen dCap ad sLen sCap hd hs t cur hg cs hn hsrc hfit h1 h
theorem Z5G (hgd : o.guard = none) (d : Operand) (dT : TypeId) (ho : o.op = .call { callee := .builtin .clear, args := #[d], argTypes := #[dT] }) (elem : TypeId) (z : Array Value) (i : TypeInfo) (hu : P.underlying dT = some (.slice elem)) (hi : P.info? elem = some i) (hz : i.zero = some (.agg z))
 (g off dCap : Nat) (hd : a.eval d = .slice (some ⟨g, off, none⟩) 1 dCap) (t : TypeId) (cur : Array Value) (hg : Blk w g t cur) (hzc : (Builtin.zeroCells z 1).toList = z.toList) (hfit : off + z.size ≤ cur.size) (h1 : ∀ v ∈ z.toList, v.oneCell' = true)
 (h : ∀ wx, Blk wx g t (cur.toList.take off ++ z.toList ++ cur.toList.drop (off + z.size)).toArray → Over g w wx → wx.heap.size = w.heap.size → wpList P ops Q rest (a.put o.dst (.tuple #[])) wx) : wpList P ops Q (o :: rest) a w := by
 refine wpList_plain hgd fun K hK => ?_
 have hst := run_storeCells_at P g off t z.toList 0 cur w hg (by simpa using hfit) h1
 have hr : (Builtin.clear_ #[dT] o.type #[.slice (some ⟨g, off, none⟩) 1 dCap]).run P w = .ok (.tuple #[]) (w.setRow g (cur.toList.take off ++ z.toList ++ cur.toList.drop (off + z.size)).toArray) := by
  simp [Builtin.clear_, run_underlying hu, zeroValue, typeInfo, hi, hz, Value.cells, hzc, hst]
 unfold Oper.wp execOp
 simp only [ho, resolve, invoke, builtin, Sem.run_bind, Sem.run_pure, Result.andThen_ok, List.map_toArray, List.map_cons, List.map_nil, hd, hr]
 exact hK _ _ (h _ (setRow_heap w g cur _ t (0, 0) hg) (Z3V w g _) (by simp))
end
theorem Z6q (w : World) (ga gb offb lb cb : Nat) (ta tb : TypeId) (ca cb' : Array Value) (hne : ga ≠ gb) (ha : Blk w ga ta ca) (hb : Blk w gb tb cb') (hk : cb'.size ≠ 0) :
 (callFunc 103 #[.slice (some ⟨ga, 0, none⟩) 1 1, .slice (some ⟨gb, offb, none⟩) lb cb]).run Tryz.prog w = .ok (.value (.bool false)) w := by
 rw [run_callFunc_extern Tryz.func103 (by kernel_rfl) (by kernel_rfl) (by kernel_rfl) (e := Extern.SlicesOverlaps.overlaps #[61, 61] #[4]) (by kernel_rfl),
  Lib.run_overlaps_apart w 61 4 69 Tryz.underlying61 3 (fun w => by kernel_rfl) ⟨ga, 0, none⟩ ⟨gb, offb, none⟩ 1 1 lb cb hne ta tb ca.size cb'.size (by simp [World.shape?, show w.heap[ga]? = _ from ha]) (by simp [World.shape?, show w.heap[gb]? = _ from hb]) hk (ha.free 0) (ha.free _)]
 rfl
open Go.RowKit Go.Lib
def Z5l (base g n : Nat) (es : List Bt.Entry) (w : World) (r : Ending) (w' : World) : Prop :=
 ∃ g' cap', r = .returned (.slice (some ⟨g', 0, none⟩) n cap') ∧ w'.ownsRow base 69 3 (.slice (some ⟨g', 0, none⟩) n cap') n (Z04 es) ∧ w.grownBy w' (some g)
theorem Z4o (es : List Bt.Entry) : ∀ v ∈ Z04 es, v.oneCell' = true := by
 intro v hv
 simp only [Z04, List.mem_flatMap] at hv
 obtain ⟨e, _, he⟩ := hv
 simp [Bt.Entry.cells] at he
 rcases he with rfl | rfl | rfl <;> rfl
theorem Z48 (es : List Bt.Entry) (i : Nat) : (Z04 es).take (i * 3) = Z04 (es.take i) := by
 induction es generalizing i with
 | nil => simp [Z04]
 | cons e es ih =>
   cases i with
   | zero => simp [Z04]
   | succ i =>
     have := ih i
     simp only [Z04, List.flatMap_cons, List.take_succ_cons] at this ⊢
     rw [show (i + 1) * 3 = e.cells.toList.length + i * 3 by simp [Bt.Entry.cells]; omega, List.take_append, List.take_of_length_le (by simp), ← this]
     simp
theorem Z5f (es : List Bt.Entry) (i : Nat) : (Z04 es).drop (i * 3) = Z04 (es.drop i) := by
 have h1 := Z48 es i
 have h2 : Z04 es = Z04 (es.take i) ++ Z04 (es.drop i) := by rw [← Z1s, List.take_append_drop]
 by_cases hi : i ≤ es.length
 ·rw [h2, List.drop_append_of_le_length (by rw [Z17, List.length_take]; omega), List.drop_of_length_le (by rw [Z17, List.length_take]; omega)]
  rfl
 ·rw [List.drop_of_length_le (by rw [Z17]; omega), List.drop_of_length_le (l := es) (by omega)]
  rfl
theorem Z4p (es : List Bt.Entry) (e : Bt.Entry) (i : Nat) : Z04 (Bt.Z0h es i e) = (Z04 es).take (i * 3) ++ (e.cells.toList ++ (Z04 es).drop (i * 3)) := by
 unfold Bt.Z0h
 rw [Z1s, Z48, Z5f]
 simp [Z04]
theorem Z8T (es : List Bt.Entry) (e : Bt.Entry) (i n : Nat) (hl : es.length = n) (hi : i < n) (R : List Value) (hR : R.take (i * 3) = (Z04 es).take (i * 3)) (hRs : (n + 1) * 3 ≤ R.length) (X : List Value) (hX : X = R.take (i * 3) ++ e.cells.toList ++ R.drop (i * 3 + e.cells.toList.length)) :
 X.length = R.length ∧ (X.take ((i + 1) * 3) ++ (Z04 es).drop (i * 3) ++ X.drop ((i + 1) * 3 + ((Z04 es).drop (i * 3)).length)).length = R.length ∧
 (X.take ((i + 1) * 3) ++ (Z04 es).drop (i * 3) ++ X.drop ((i + 1) * 3 + ((Z04 es).drop (i * 3)).length)).take ((n + 1) * 3) = Z04 (Bt.Z0h es i e) := by
 have hc : e.cells.toList.length = 3 := rfl
 have hL := Z17 es
 have h1 : X.length = R.length := by rw [hX]; simp only [List.length_append, List.length_take, List.length_drop, hc]; omega
 have h2 : X.take ((i + 1) * 3) = (Z04 es).take (i * 3) ++ e.cells.toList := by
  rw [hX, hR, List.take_append_of_le_length (by simp only [List.length_append, List.length_take, hc]; omega), List.take_of_length_le (by simp only [List.length_append, List.length_take, hc]; omega)]
 refine ⟨h1, ?_, ?_⟩
 ·simp only [List.length_append, List.length_take, List.length_drop, h1]; omega
 ·rw [h2, Z4p, ← List.append_assoc, List.take_append_of_le_length (by simp only [List.length_append, List.length_take, List.length_drop, hc]; omega), List.take_of_length_le (by simp only [List.length_append, List.length_take, List.length_drop, hc]; omega)]
set_option maxRecDepth 100000 in
theorem Z8z (base g n cap gE i : Nat) (es : List Bt.Entry) (e : Bt.Entry) (w : World) (hown : w.ownsRow base 69 3 (.slice (some ⟨g, 0, none⟩) n cap) n (Z04 es)) (hl : es.length = n) (hin : i < n) (hn : n ≤ 1000) (hbase : base ≤ w.heap.size) (hcap : cap < n + 1)
 (tE : TypeId) (hE : Blk w gE tE e.cells) :
 Calls Tryz.prog 87 #[.slice (some ⟨g, 0, none⟩) n cap, .int .i64 i, .slice (some ⟨gE, 0, none⟩) 1 1] w (Z5l base g (n + 1) (Bt.Z0h es i e) w) := by
 obtain ⟨i0, hi, hz0, hz1, hz2⟩ := info_parts Z4e
 have HO := hid hown
 have hcell : ∀ j v, (Z04 es)[j]? = some v → w.cell? ⟨g, j, none⟩ = some v := Z0i hown
 have hgw : g < w.heap.size := (Z0X hown).2
 have hnc : n ≤ cap := (Z3o hown).1
 have hLe : (Z04 es).length = n * 3 := by rw [Z17, hl]
 have hold : (Builtin.firstCells i0.size i (.slice (some ⟨g, 0, none⟩) i cap)).run Tryz.prog w.drew = .ok ((Z04 es).take (i * 3)).toArray w.drew := by
  rw [hz1]
  exact run_firstCells_some w.drew 3 i ⟨g, 0, none⟩ i cap ((Z04 es).take (i * 3)) (by rw [List.length_take]; omega) (fun j v hj => by
   rw [Addr.add_lit, Nat.zero_add]
   rw [List.getElem?_take] at hj
   split at hj
   ·exact hcell j v hj
   ·cases hj)
 have hkk : (n : Int) + 1 - (i : Int) = ((n + 1 - i : Nat) : Int) := by omega
 have hik : i + (n + 1 - i) = n + 1 := by omega
 have hrz : ∀ ty, (Builtin.append_ #[61, 3] ty #[.slice (some ⟨g, 0, none⟩) i cap, .int .i64 ((n : Int) + 1 - (i : Int))]).run Tryz.prog w =
  .ok (.slice (some ⟨w.heap.size, 0, none⟩) (n + 1) (grownCap w (n + 1) cap 69)) (w.drew.alloc (.cells (((Z04 es).take (i * 3)).toArray ++ Builtin.zeroCells #[.int .u32 0, .int .i64 0, .int .i64 0] (n + 1 - i) ++ Builtin.zeroCells #[.int .u32 0, .int .i64 0, .int .i64 0] (grownCap w (n + 1) cap 69 - (n + 1))) 69)) := fun ty => by
  have h := Lib.run_append_grow_zeros w 61 3 ty 69 i0 _ .i64 .i64 Tryz.underlying61 Tryz.underlying3 hi hz0 (some ⟨g, 0, none⟩) i cap ((Z04 es).take (i * 3)) hold (n + 1 - i) (by omega) (by omega) (by omega) (by omega) (by rw [hz2]; omega) (by rw [hz2, hik]; exact growslice_fits hcap (by omega))
  rw [hik] at h
  rw [hkk]
  exact h
 obtain ⟨G, hG⟩ : ∃ G, G = grownCap w (n + 1) cap 69 := ⟨_, rfl⟩
 have hGn : n + 1 ≤ G := by rw [hG]; exact grownCap_ge w _ _ _
 have hG63 : G ≤ maxLen := by rw [hG]; exact grownCap_le_maxLen w (n + 1) cap 69 (by unfold maxLen; omega)
 obtain ⟨ROW, hROW⟩ : ∃ ROW : Array Value, ROW = ((Z04 es).take (i * 3)).toArray ++ Builtin.zeroCells #[.int .u32 0, .int .i64 0, .int .i64 0] (n + 1 - i) ++ Builtin.zeroCells #[.int .u32 0, .int .i64 0, .int .i64 0] (G - (n + 1)) := ⟨_, rfl⟩
 rw [← hG] at hrz
 rw [← hROW] at hrz
 have hRs : ROW.size = G * 3 := by
  rw [hROW]
  simp [Builtin.zeroCells]
  omega
 have hR0 : ROW.toList.take (i * 3) = (Z04 es).take (i * 3) := by
  rw [hROW]
  simp only [Array.toList_append, List.append_assoc]
  rw [List.take_append_of_le_length (by simp; omega), List.take_of_length_le (by simp; omega)]
 have HROW := hid (And.intro hRs hR0)
 have HE := hid hE
 have hEw := hE.lt
 have hcl : e.cells.toList.length = 3 := rfl
 have hdl : ((Z04 es).drop (i * 3)).length = (n - i) * 3 := by rw [List.length_drop]; omega
 have hmin : Nat.min 1 (n + 1 - i) = 1 := by simp only [Nat.min_def]; split <;> omega
 have hmin2 : Nat.min (n - i) (n + 1 - (i + 1)) = n - i := by simp only [Nat.min_def]; split <;> omega
 have HM := hid (And.intro hmin (And.intro hmin2 (And.intro hcl hdl)))
 have HLE := hid hLe
 have HCL := hid hcell
 clear hcl hdl hmin hmin2 hLe hcell
 have q1 : ((i : Int) == (n : Int)) = false := by simp; omega
 have q3 : (cap : Int) < (n : Int) + 1 := by omega
 have q4 : (i : Int) ≤ (n : Int) := by omega
 have q5 : ¬ (G = i) := by omega
 have q6 : ¬ (G = i + 1) := by omega
 have q7 : ¬ (cap = i) := by omega
 have q8 : (0 : Int) ≤ (i : Int) + 1 := by omega
 have q9 : ((i : Int) + 1).toNat = i + 1 := by omega
 clear hown hkk hik hold hROW hG hRs hR0 hE
 go_enter Tryz.func87, Tryz.ntmps87
 go_upto_region 10 with (first | (at_builtin; refine Lib.wpList_append_run _ rfl _ _ _ _ rfl _ _ rfl rfl _ _ (hrz _) ?_) | fail)
 go_step
 iterate 12 go_step
 have BR : Blk (w.alloc (.cells ROW 69)).drew w.heap.size 69 ROW := (Blk.made w _ ROW).drew
 refine Z4f rfl (.tmp 43) (.tmp 44) 61 61 rfl 69 3 Tryz.underlying61 (by kernel_rfl) w.heap.size (i * 3) (n + 1 - i) (G - i) ⟨gE, 0, none⟩ 1 1 rfl rfl 69 ROW BR e.cells.toList (by rw [HM.out.1]; rfl)
  (fun j v hj => by rw [Addr.add_lit, Nat.zero_add]; exact (((HE.out.alloc _).drew).cell j).trans (by simpa using hj)) (by rw [HM.out.2.2.1, HROW.out.1]; omega) (fun v hv => by simp [Bt.Entry.cells] at hv; rcases hv with rfl | rfl | rfl <;> rfl) (fun wx B_wx ho_wx hz_wx => ?_)
 obtain ⟨X, hX⟩ : ∃ X : List Value, X = ROW.toList.take (i * 3) ++ e.cells.toList ++ ROW.toList.drop (i * 3 + e.cells.toList.length) := ⟨_, rfl⟩
 rw [← hX] at B_wx
 have HX := hid hX
 have HBX := hid B_wx
 have HOX := hid ho_wx
 have hzs : w.heap.size < wx.heap.size := by rw [hz_wx]; simp
 have hXl : X.length = G * 3 := by rw [(Z8T es e i n hl hin ROW.toList HROW.out.2 (by simp only [Array.length_toList, HROW.out.1]; omega) X hX).1]; simpa using HROW.out.1
 have hsrc : ∀ j v, ((Z04 es).drop (i * 3))[j]? = some v → wx.cell? ⟨g, i * 3 + j, none⟩ = some v := fun j v hj => by
  rw [(Z29 HOX.out).1 g (i * 3 + j) (by simp; omega) (Or.inl hgw)]
  rw [List.getElem?_drop] at hj
  exact (World.cell?_alloc_past (w := w) _ g _ hgw).trans (HCL.out _ v hj)
 have HS := hid hsrc
 have HXL := hid hXl
 clear hX B_wx ho_wx hz_wx BR hsrc hXl hrz
 simp only [Act.put, List.setIfInBounds_toArray, List.set_cons_zero, List.set_cons_succ]
 have hw1 : IntKind.i64.wrap ((i : Int) + 1) = (i : Int) + 1 := by rw [IntKind.wrap_i64]; omega
 have q10 : i ≤ n := by omega
 have mixed : Tryz.prog.follows .mixedOrders = true := by kernel_rfl
 go_wp2_with fail
 go_region_law_o (refine Z50 rfl (.tmp 50) (.tmp 53) 61 61 rfl 69 3 Tryz.underlying61 (by kernel_rfl) w.heap.size ((i + 1) * 3) (n + 1 - (i + 1)) (G - (i + 1)) ⟨g, i * 3, none⟩ (n - i) (cap - i) (by simp [Act.eval, Act.put]) (by simp [Act.eval, Act.put]) 69 X.toArray HBX.out.drew ((Z04 es).drop (i * 3)) (by rw [HM.out.2.1]; exact HM.out.2.2.2) (fun j v hj => by rw [Addr.add_lit]; exact HS.out j v hj) (by rw [HM.out.2.2.2]; simp only [List.size_toArray, HXL.out]; omega) (fun v hv => Z4o es v (List.mem_of_mem_drop hv)) (fun wy B_wy ho_wy hz_wy => ?_))
 have HBY := hid B_wy
 have HOY := hid ho_wy
 clear B_wy ho_wy hz_wy
 go_wp2
 obtain ⟨f1, f2, f3⟩ := Z8T es e i n hl hin ROW.toList HROW.out.2 (by simp only [Array.length_toList, HROW.out.1]; omega) X HX.out
 refine bodyPost_ret (results_tmp rfl _ _ _) rfl ⟨w.heap.size, G, rfl, ⟨?_, .inr ⟨w.heap.size, G, _, rfl, hbase, HBY.out, hGn, hG63, ?_, ?_⟩⟩, Over.new (Over.drew (Over.new (Over.drew (Over.alloc (Over.refl g w) _)) HOX.out (Nat.le_refl _))) HOY.out (Nat.le_refl _)⟩
 ·rw [Z17]; simp [Bt.Z0h]; omega
 ·simp only [List.size_toArray]
  rw [f2]; simpa using HROW.out.1
 ·simpa using f3
theorem ZaQ (es : List Bt.Entry) (e : Bt.Entry) (i n : Nat) (hl : es.length = n) (hi : i < n) (R : List Value) (hR : R.take (n * 3) = Z04 es) (hRs : (n + 1) * 3 ≤ R.length) (X : List Value) (hX : X = R.take ((i + 1) * 3) ++ (Z04 es).drop (i * 3) ++ R.drop ((i + 1) * 3 + ((Z04 es).drop (i * 3)).length)) :
 X.length = R.length ∧ (X.take (i * 3) ++ e.cells.toList ++ X.drop (i * 3 + e.cells.toList.length)).length = R.length ∧
 (X.take (i * 3) ++ e.cells.toList ++ X.drop (i * 3 + e.cells.toList.length)).take ((n + 1) * 3) = Z04 (Bt.Z0h es i e) := by
 have hc : e.cells.toList.length = 3 := rfl
 have hL := Z17 es
 have h1 : X.length = R.length := by rw [hX]; simp only [List.length_append, List.length_take, List.length_drop]; omega
 have hR2 : R.take (i * 3) = (Z04 es).take (i * 3) := by rw [← hR, List.take_take, Nat.min_eq_left (by omega)]
 have h2 : X.take (i * 3) = (Z04 es).take (i * 3) := by
  rw [hX, List.append_assoc, List.take_append_of_le_length (by simp only [List.length_take]; omega), List.take_take, Nat.min_eq_left (by omega), hR2]
 have h3 : (X.drop (i * 3 + 3)).take ((n - i) * 3) = (Z04 es).drop (i * 3) := by
  rw [hX, List.append_assoc, List.drop_append_of_le_length (by simp only [List.length_take]; omega), List.drop_of_length_le (by simp only [List.length_take]; omega), List.nil_append,
   List.take_append_of_le_length (by simp only [List.length_drop]; omega), List.take_of_length_le (by simp only [List.length_drop]; omega)]
 refine ⟨h1, ?_, ?_⟩
 ·simp only [List.length_append, List.length_take, List.length_drop, h1, hc]; omega
 ·rw [h2, Z4p, hc, List.append_assoc, ← h3]
  have e1 : (n + 1) * 3 = ((Z04 es).take (i * 3)).length + (e.cells.toList.length + (n - i) * 3) := by simp only [List.length_take, hc]; omega
  rw [e1, List.take_length_add_append, List.take_length_add_append]
set_option maxRecDepth 100000 in
theorem Z7G (base g n cap gE i : Nat) (es : List Bt.Entry) (e : Bt.Entry) (w : World) (hown : w.ownsRow base 69 3 (.slice (some ⟨g, 0, none⟩) n cap) n (Z04 es)) (hl : es.length = n) (hin : i < n) (hn : n ≤ 1000) (hcap : n + 1 ≤ cap) (hgE : gE ≠ g)
 (tE : TypeId) (hE : Blk w gE tE e.cells) :
 Calls Tryz.prog 87 #[.slice (some ⟨g, 0, none⟩) n cap, .int .i64 i, .slice (some ⟨gE, 0, none⟩) 1 1] w (Z5l base g (n + 1) (Bt.Z0h es i e) w) := by
 have hgw := Z0X hown
 have hLe : (Z04 es).length = n * 3 := by rw [Z17, hl]
 obtain ⟨hlen, hrow⟩ := hown
 obtain ⟨ROW, hB, hnc, hcm, hRs, hRt⟩ : ∃ ROW : Array Value, Blk w g 69 ROW ∧ n ≤ cap ∧ cap ≤ maxLen ∧ ROW.size = cap * 3 ∧ ROW.toList.take (n * 3) = Z04 es := by
  rcases hrow with ⟨h, _⟩ | ⟨g', cap', cur, h, _, h1, h2, h3, h4, h5⟩
  ·simp at h
  ·simp only [Value.slice.injEq, Option.some.injEq, Addr.mk.injEq, and_true, true_and] at h
   obtain ⟨rfl, rfl⟩ := h
   exact ⟨cur, h1, h2, h3, h4, h5⟩
 have HB := hid hB
 have HE := hid hE
 have hEw := hE.lt
 have hcl : e.cells.toList.length = 3 := rfl
 have hdl : ((Z04 es).drop (i * 3)).length = (n - i) * 3 := by rw [List.length_drop]; omega
 have hmin : Nat.min 1 (n + 1 - i) = 1 := by simp only [Nat.min_def]; split <;> omega
 have hmin2 : Nat.min (n + 1 - i) (n + 1 - (i + 1)) = n - i := by simp only [Nat.min_def]; split <;> omega
 obtain ⟨X, hX⟩ : ∃ X : List Value, X = ROW.toList.take ((i + 1) * 3) ++ (Z04 es).drop (i * 3) ++ ROW.toList.drop ((i + 1) * 3 + ((Z04 es).drop (i * 3)).length) := ⟨_, rfl⟩
 have HF := hid (ZaQ es e i n hl hin ROW.toList hRt (by simp only [Array.length_toList, hRs]; omega) X hX)
 have hXl : X.length = cap * 3 := by rw [HF.out.1]; simpa using hRs
 have hcell : ∀ j v, (Z04 es)[j]? = some v → w.cell? ⟨g, j, none⟩ = some v := fun j v hj => by
  rw [hB.cell j, ← Array.getElem?_toList]
  rw [← hRt, List.getElem?_take] at hj
  split at hj
  ·exact hj
  ·cases hj
 have hsrc : ∀ j v, ((Z04 es).drop (i * 3))[j]? = some v → w.cell? ⟨g, i * 3 + j, none⟩ = some v := fun j v hj => by
  rw [List.getElem?_drop] at hj
  exact hcell _ v hj
 have HS := hid hsrc
 have HM := hid (And.intro hmin (And.intro hmin2 (And.intro hcl hdl)))
 have HX := hid hX
 have HXL := hid hXl
 have HR := hid (And.intro hRs hRt)
 have hov : ∀ lb cb, (callFunc 103 #[.slice (some ⟨gE, 0, none⟩) 1 1, .slice (some ⟨g, (i + 1) * 3, none⟩) lb cb]).run Tryz.prog w = .ok (.value (.bool false)) w := fun lb cb =>
  Z6q w gE g ((i + 1) * 3) lb cb tE 69 e.cells ROW hgE hE hB (by omega)
 have q1 : ((i : Int) == (n : Int)) = false := by simp; omega
 have q3 : ¬ ((cap : Int) < (n : Int) + 1) := by omega
 have q4 : (i : Int) ≤ (n : Int) := by omega
 have q5 : ¬ (cap = i) := by omega
 have q6 : ¬ (cap = i + 1) := by omega
 have q8 : (0 : Int) ≤ (i : Int) + 1 := by omega
 have q9 : ((i : Int) + 1).toNat = i + 1 := by omega
 have q10 : i ≤ n := by omega
 have q11 : (i : Int) ≤ (n : Int) + 1 := by omega
 have hw1 : IntKind.i64.wrap ((i : Int) + 1) = (i : Int) + 1 := by rw [IntKind.wrap_i64]; omega
 have mixed : Tryz.prog.follows .mixedOrders = true := by kernel_rfl
 clear hlen hrow hB hE hcl hdl hmin hmin2 hX hXl hcell hsrc hRs hRt hLe
 go_enter Tryz.func87, Tryz.ntmps87
 go_wp2_with (simp only [hov])
 go_region_law_o (refine Z50 rfl (.tmp 73) (.tmp 76) 61 61 rfl 69 3 Tryz.underlying61 (by kernel_rfl) g ((i + 1) * 3) (n + 1 - (i + 1)) (cap - (i + 1)) ⟨g, i * 3, none⟩ (n + 1 - i) (cap - i) (by simp [Act.eval, Act.put]) (by simp [Act.eval, Act.put]) 69 ROW HB.out.drew ((Z04 es).drop (i * 3)) (by rw [HM.out.2.1]; exact HM.out.2.2.2) (fun j v hj => by rw [Addr.add_lit]; exact HS.out j v hj) (by rw [HM.out.2.2.2, HR.out.1]; omega) (fun v hv => Z4o es v (List.mem_of_mem_drop hv)) (fun wx B_wx ho_wx hz_wx => ?_))
 rw [← HX.out] at B_wx
 have HBX := hid B_wx
 have HOX := hid ho_wx
 clear B_wx ho_wx hz_wx hov
 have BE : Blk wx gE tE e.cells := (HE.out.drew).grown HOX.out (by simp; omega)
 have HEX := hid BE
 clear BE
 go_upto_region 16 with (fail)
 go_step
 iterate 12 go_step
 refine Z4f rfl (.tmp 80) (.tmp 81) 61 61 rfl 69 3 Tryz.underlying61 (by kernel_rfl) g (i * 3) (n + 1 - i) (cap - i) ⟨gE, 0, none⟩ 1 1 rfl rfl 69 X.toArray HBX.out e.cells.toList (by rw [HM.out.1]; rfl) (fun j v hj => by rw [Addr.add_lit, Nat.zero_add]; exact (HEX.out.cell j).trans (by simpa using hj)) (by rw [HM.out.2.2.1]; simp only [List.size_toArray, HXL.out]; omega) (fun v hv => by simp [Bt.Entry.cells] at hv; rcases hv with rfl | rfl | rfl <;> rfl) (fun wy B_wy ho_wy hz_wy => ?_)
 simp only [Act.put, List.setIfInBounds_toArray, List.set_cons_zero, List.set_cons_succ]
 have HBY := hid B_wy
 have HOY := hid ho_wy
 clear B_wy ho_wy hz_wy
 go_wp2
 obtain ⟨f1, f2, f3⟩ := HF.out
 refine bodyPost_ret (results_tmp rfl _ _ _) rfl ⟨g, cap, rfl, ⟨?_, .inr ⟨g, cap, _, rfl, hgw.1, HBY.out, hcap, hcm, ?_, ?_⟩⟩, Over.trans (Over.trans (Over.drew (Over.refl g w)) HOX.out) HOY.out⟩
 ·rw [Z17]; simp [Bt.Z0h]; omega
 ·simp only [List.size_toArray]
  rw [f2]; simpa using HR.out.1
 ·simpa using f3
open Go.RowKit Go.Lib
theorem Z9r (base g n cap gE i : Nat) (es : List Bt.Entry) (e : Bt.Entry) (w : World) (hown : w.ownsRow base 69 3 (.slice (some ⟨g, 0, none⟩) n cap) n (Z04 es)) (hl : es.length = n) (hin : i ≤ n) (hn : n ≤ 1000) (hbase : base ≤ w.heap.size) (hgE : gE ≠ g)
 (tE : TypeId) (hE : Blk w gE tE e.cells) :
 Calls Tryz.prog 87 #[.slice (some ⟨g, 0, none⟩) n cap, .int .i64 i, .slice (some ⟨gE, 0, none⟩) 1 1] w (Z5l base g (n + 1) (Bt.Z0h es i e) w) := by
 by_cases h : i = n
 ·subst h
  refine (Z9q base g i cap gE es e w hown hn hbase (hE.cell 0) (hE.cell 1) (hE.cell 2)).mono ?_
  rintro r w' ⟨g', cap', h1, h2, h3⟩
  have e1 : Bt.Z0h es i e = es ++ [e] := by unfold Bt.Z0h; rw [List.take_of_length_le (by omega), List.drop_of_length_le (by omega)]
  exact ⟨g', cap', h1, by rw [e1]; exact h2, h3⟩
 ·by_cases hc : cap < n + 1
  ·exact Z8z base g n cap gE i es e w hown hl (by omega) hn hbase hc tE hE
  ·exact Z7G base g n cap gE i es e w hown hl (by omega) hn (by omega) hgE tE hE
section
variable {P : Program} {ops : Array Oper} {rest : List Oper} {o : Oper} {a : Act} {w : World} {K : Act → World → Prop} {Q : Exit → Act → World → Prop}
theorem Z5T {E : Prop} (hgd : o.guard = none) (d s : Operand) (dT : TypeId) (ho : o.op = .call { callee := .builtin .append, args := #[d, s], argTypes := #[dT, dT] }) (elem : TypeId) (i : TypeInfo) (size : Nat) (hu : P.underlying dT = some (.slice elem)) (hi : P.info? elem = some i) (hz : i.size = size)
 (g sLen sCap : Nat) (ad : Addr) (m c : Nat) (hd : a.eval d = .slice (some ⟨g, 0, none⟩) sLen sCap) (hs : a.eval s = .slice (some ad) m c)
 (t : TypeId) (cur : Array Value) (hg : Blk w g t cur) (cs : List Value) (hn : cs.length = m * size) (hsrc : ∀ j v, cs[j]? = some v → w.cell? (ad.add j) = some v) (hroom : sLen + m ≤ sCap) (hfit : sLen * size + cs.length ≤ cur.size) (h1 : ∀ v ∈ cs, v.oneCell' = true)
 (h : ∀ wx, Blk wx g t (cur.toList.take (sLen * size) ++ cs ++ cur.toList.drop (sLen * size + cs.length)).toArray → Over g w wx → wx.heap.size = w.heap.size → K (a.put o.dst (.slice (some ⟨g, 0, none⟩) (sLen + m) sCap)) wx) :
 if Region.wanted o (yielded ops a.tmps) = true then Oper.wp P o a w K Q else E := by
 have hw : Region.wanted o (yielded ops a.tmps) = true := by simp [Region.wanted, hgd]
 rw [if_pos hw]
 subst hz
 have hfc := run_firstCells_some (P := P) w i.size m ad m c cs hn hsrc
 have hst := run_storeCells_at P g (sLen * i.size) t cs 0 cur w hg (by simpa using hfit) h1
 have hr : (Builtin.append_ #[dT, dT] o.type #[.slice (some ⟨g, 0, none⟩) sLen sCap, .slice (some ad) m c]).run P w = .ok (.slice (some ⟨g, 0, none⟩) (sLen + m) sCap) (w.setRow g (cur.toList.take (sLen * i.size) ++ cs ++ cur.toList.drop (sLen * i.size + cs.length)).toArray) := by
  simp [Builtin.append_, run_underlying hu, sizeOf, typeInfo, hi, Builtin.lenOf, hroom, hfc, Addr.add_lit, hst]
 unfold Oper.wp execOp
 simp only [ho, resolve, invoke, builtin, Sem.run_bind, Sem.run_pure, Result.andThen_ok, List.map_toArray, List.map_cons, List.map_nil, hd, hs, hr]
 exact h _ (setRow_heap w g cur _ t (0, 0) hg) (Z3V w g _) (by simp)
end
theorem Zb1 (es : List Bt.Entry) (i n : Nat) (hl : es.length = n) (hi : i < n) (R : List Value) (hR : R.take (n * 3) = Z04 es) (hRs : n * 3 ≤ R.length) (Z : List Value) (hZ : Z.length = 3)
 (X : List Value) (hX : X = R.take (i * 3) ++ (Z04 es).drop ((i + 1) * 3) ++ R.drop (i * 3 + ((Z04 es).drop ((i + 1) * 3)).length)) :
 X.length = R.length ∧ (X.take ((n - 1) * 3) ++ Z ++ X.drop ((n - 1) * 3 + Z.length)).length = R.length ∧ (X.take ((n - 1) * 3) ++ Z ++ X.drop ((n - 1) * 3 + Z.length)).take ((n - 1) * 3) = Z04 (Bt.Z0B es i) := by
 have hL := Z17 es
 have h1 : X.length = R.length := by rw [hX]; simp only [List.length_append, List.length_take, List.length_drop]; omega
 have hR2 : R.take (i * 3) = (Z04 es).take (i * 3) := by rw [← hR, List.take_take, Nat.min_eq_left (by omega)]
 have hd : Z04 (Bt.Z0B es i) = (Z04 es).take (i * 3) ++ (Z04 es).drop ((i + 1) * 3) := by
  unfold Bt.Z0B
  rw [Z1s, Z48, Z5f]
 refine ⟨h1, ?_, ?_⟩
 ·simp only [List.length_append, List.length_take, List.length_drop, h1, hZ]; omega
 ·rw [List.append_assoc, List.take_append_of_le_length (by simp only [List.length_take, h1]; omega), List.take_take, Nat.min_self, hd, hX, hR2, List.take_append_of_le_length (by simp only [List.length_append, List.length_take, List.length_drop]; omega),
    List.take_of_length_le (by simp only [List.length_append, List.length_take, List.length_drop]; omega)]
set_option maxRecDepth 100000 in
theorem Z7P (base g n cap i : Nat) (es : List Bt.Entry) (w : World) (hown : w.ownsRow base 69 3 (.slice (some ⟨g, 0, none⟩) n cap) n (Z04 es)) (hl : es.length = n) (hin : i < n) (hn : n ≤ 1000) :
 Calls Tryz.prog 88 #[.slice (some ⟨g, 0, none⟩) n cap, .int .i64 i, .int .i64 ((i : Int) + 1)] w (fun r w' => r = .returned (.slice (some ⟨g, 0, none⟩) (n - 1) cap) ∧ w'.ownsRow base 69 3 (.slice (some ⟨g, 0, none⟩) (n - 1) cap) (n - 1) (Z04 (Bt.Z0B es i)) ∧ w.grownBy w' (some g)) := by
 obtain ⟨i0, hi, hz0, hz1, hz2⟩ := info_parts Z4e
 have hgw := Z0X hown
 have hLe : (Z04 es).length = n * 3 := by rw [Z17, hl]
 obtain ⟨hlen, hrow⟩ := hown
 obtain ⟨ROW, hB, hnc, hcm, hRs, hRt⟩ : ∃ ROW : Array Value, Blk w g 69 ROW ∧ n ≤ cap ∧ cap ≤ maxLen ∧ ROW.size = cap * 3 ∧ ROW.toList.take (n * 3) = Z04 es := by
  rcases hrow with ⟨h, _⟩ | ⟨g', cap', cur, h, _, h1, h2, h3, h4, h5⟩
  ·simp at h
  ·simp only [Value.slice.injEq, Option.some.injEq, Addr.mk.injEq, and_true, true_and] at h
   obtain ⟨rfl, rfl⟩ := h
   exact ⟨cur, h1, h2, h3, h4, h5⟩
 obtain ⟨m, hm⟩ : ∃ m, m = n - (i + 1) := ⟨_, rfl⟩
 have HB := hid hB
 have hdl : ((Z04 es).drop ((i + 1) * 3)).length = m * 3 := by rw [List.length_drop]; omega
 obtain ⟨X, hX⟩ : ∃ X : List Value, X = ROW.toList.take (i * 3) ++ (Z04 es).drop ((i + 1) * 3) ++ ROW.toList.drop (i * 3 + ((Z04 es).drop ((i + 1) * 3)).length) := ⟨_, rfl⟩
 have HF := hid (Zb1 es i n hl hin ROW.toList hRt (by simp only [Array.length_toList, hRs]; omega) [.int .u32 0, .int .i64 0, .int .i64 0] rfl X hX)
 have hXl : X.length = cap * 3 := by rw [HF.out.1]; simpa using hRs
 have hcell : ∀ j v, (Z04 es)[j]? = some v → w.cell? ⟨g, j, none⟩ = some v := fun j v hj => by
  rw [hB.cell j, ← Array.getElem?_toList]
  rw [← hRt, List.getElem?_take] at hj
  split at hj
  ·exact hj
  ·cases hj
 obtain ⟨A, hA, hsrc⟩ : ∃ A : Addr, (if cap = i + 1 then some (⟨g, 0, none⟩ : Addr) else some ⟨g, (i + 1) * 3, none⟩) = some A ∧ Hid (∀ t u, ((Z04 es).drop ((i + 1) * 3))[t]? = some u → w.drew.cell? (A.add t) = some u) := by
  by_cases h : cap = i + 1
  ·refine ⟨⟨g, 0, none⟩, by simp [h], hid fun t u hu => ?_⟩
   have h0 : ((Z04 es).drop ((i + 1) * 3)).length = 0 := by rw [hdl]; omega
   rw [List.length_eq_zero_iff.1 h0] at hu
   simp at hu
  ·refine ⟨⟨g, (i + 1) * 3, none⟩, by simp [h], hid fun t u hu => ?_⟩
   rw [Addr.add_lit]
   rw [List.getElem?_drop] at hu
   exact hcell _ u hu
 have HM := hid (And.intro hdl (And.intro hm hin))
 have HX := hid hX
 have HXL := hid hXl
 have HR := hid (And.intro hRs hRt)
 have q0 : ((i : Int) == (i : Int) + 1) = false := by simp; omega
 have q1 : (i : Int) ≤ (i : Int) + 1 := by omega
 have q2 : (i : Int) + 1 ≤ (n : Int) := by omega
 have q3 : (0 : Int) ≤ (i : Int) + 1 := by omega
 have q4 : ((i : Int) + 1).toNat = i + 1 := by omega
 have q5 : n - (i + 1) = m := hm.symm
 have q6 : n - (i + m) = 1 := by omega
 have q7 : (i : Int) ≤ (n : Int) := by omega
 have q8 : i + m ≤ n := by omega
 have q9 : ((i : Int) + (m : Int)) ≤ (n : Int) := by omega
 have q10 : ¬ (cap = i + m) := by omega
 have q11 : n ≤ cap := hnc
 have q12 : i ≤ cap := by omega
 have q13 : i + 1 ≤ cap := by omega
 have mixed : Tryz.prog.follows .mixedOrders = true := by kernel_rfl
 clear hlen hrow hB hdl hX hXl hcell hRs hRt hLe hm
 go_enter Tryz.func88, Tryz.ntmps88
 go_wp2_with fail
 go_region_law_o (refine Z5T rfl (.tmp 22) (.tmp 25) 61 rfl 69 i0 3 Tryz.underlying61 hi hz1 g i cap A m (cap - (i + 1)) (by simp [Act.eval, Act.put]) (by simp [Act.eval, Act.put]) 69 ROW HB.out.drew ((Z04 es).drop ((i + 1) * 3)) HM.out.1 hsrc.out (by omega) (by rw [HM.out.1, HR.out.1]; omega) (fun v hv => Z4o es v (List.mem_of_mem_drop hv)) (fun wx B_wx ho_wx hz_wx => ?_))
 rw [← HX.out] at B_wx
 have HBX := hid B_wx
 have HOX := hid ho_wx
 clear B_wx ho_wx hz_wx
 go_upto_region 6 with (fail)
 go_step
 iterate 15 go_step
 refine Z5G rfl (.tmp 31) 61 rfl 69 #[.int .u32 0, .int .i64 0, .int .i64 0] i0 Tryz.underlying61 hi hz0 g ((i + m) * 3) (cap - (i + m)) (congrArg (fun x => Value.slice (some ⟨g, (i + m) * 3, none⟩) x (cap - (i + m))) q6) 69 X.toArray HBX.out (by kernel_rfl) (by simp only [List.size_toArray, HXL.out]; simp; omega) (by intro v hv; simp at hv; rcases hv with rfl | rfl | rfl <;> rfl) (fun wy B_wy ho_wy hz_wy => ?_)
 simp only [Act.put, List.setIfInBounds_toArray, List.set_cons_zero, List.set_cons_succ]
 have HBY := hid B_wy
 have HOY := hid ho_wy
 clear B_wy ho_wy hz_wy
 go_wp2
 obtain ⟨f1, f2, f3⟩ := HF.out
 have hnm : i + m = n - 1 := by have := HM.out.2.1; omega
 refine bodyPost_ret (results_tmp rfl _ _ _) rfl ⟨(by rw [hnm]; rfl), ⟨?_, .inr ⟨g, cap, _, rfl, hgw.1, HBY.out, by omega, hcm, ?_, ?_⟩⟩, Over.trans (Over.trans (Over.drew (Over.refl g w)) HOX.out) HOY.out⟩
 ·rw [Z17]; simp [Bt.Z0B]; omega
 ·rw [hnm]
  simp only [List.size_toArray]
  exact f2.trans (by simpa using HR.out.1)
 ·rw [hnm]
  simpa using f3
theorem Zb0 (base g n cap i : Nat) (es : List Bt.Entry) (w : World) (hown : w.ownsRow base 69 3 (.slice (some ⟨g, 0, none⟩) n cap) n (Z04 es)) (hl : es.length = n) (hin : i < n) (hn : n ≤ 1000) :
 Calls Tryz.prog 88 #[.slice (some ⟨g, 0, none⟩) n cap, .int .i64 i, .int .i64 ((i : Int) + 1)] w (Z5l base g (n - 1) (Bt.Z0B es i) w) := by
 refine (Z7P base g n cap i es w hown hl hin hn).mono ?_
 rintro r w' ⟨h1, h2, h3⟩
 exact ⟨g, cap, h1, h2, h3⟩
theorem Z56 {w : World} {base n size : Nat} {e : TypeId} {v : Value} {xs : List Value} (h : w.ownsRow base e size v n xs) : (n = 0 ∧ v = .slice none 0 0) ∨ ∃ g cap, v = .slice (some ⟨g, 0, none⟩) n cap := by
 rcases h.2 with ⟨rfl, h0⟩ | ⟨g, cap, _, rfl, _⟩
 ·exact .inl ⟨h0, rfl⟩
 ·exact .inr ⟨g, cap, rfl⟩
theorem Z3n {w : World} {base n size : Nat} {e : TypeId} {v : Value} {xs : List Value} (h : w.ownsRow base e size v n xs) : ∃ a0 n0 c0, v = .slice a0 n0 c0 := by
 rcases Z56 h with ⟨_, rfl⟩ | ⟨g, cap, rfl⟩ <;> exact ⟨_, _, _, rfl⟩
theorem Z9p (base gE : Nat) (e : Bt.Entry) (w : World) (hbase : base ≤ w.heap.size) (tE : TypeId) (hE : Blk w gE tE e.cells) :
 Calls Tryz.prog 87 #[.slice none 0 0, .int .i64 0, .slice (some ⟨gE, 0, none⟩) 1 1] w (fun r w' => ∃ g' cap', r = .returned (.slice (some ⟨g', 0, none⟩) 1 cap') ∧ w'.ownsRow base 69 3 (.slice (some ⟨g', 0, none⟩) 1 cap') 1 (Z04 [e]) ∧ Below w.heap.size w w') := by
 obtain ⟨i0, hi, hz0, hz1, hz2⟩ := info_parts Z4e
 have h0 := hE.cell 0
 have h1 := hE.cell 1
 have h2 := hE.cell 2
 clear hE
 go_enter Tryz.func87, Tryz.ntmps87
 go_wp2_with (at_builtin; refine halt ?_)
 all_goals
  refine Z4g ?_
  refine Z1E rfl (.tmp 23) (.tmp 24) 61 rfl base 69 i0 _ 3 24 Tryz.underlying61 hi hz0 hz1 hz2 rfl (by decide) _ 0 [] rfl (World.ownsRow_nil _ _ _ _) ⟨gE, 0, none⟩ 1 1
   [.int .u32 e.key, .int .i64 e.to.line, .int .i64 e.to.gen] rfl rfl (Z2U h0 h1 h2) (by intro u hu; simp at hu; rcases hu with rfl | rfl | rfl <;> rfl) (by omega) (by unfold maxLen; omega) (by omega) hbase ?_
  intro g3 cap3 w3 hown3 hg3
  have hg4 : w.grownBy w3 none := hg3
  clear hg3
  go_wp2
  refine bodyPost_ret (results_tmp rfl _ _ _) rfl ⟨g3, cap3, rfl, hown3, ⟨hg4.os, hg4.tape, hg4.output, hg4.size, fun k hk => hg4.block k hk (by simp)⟩⟩
theorem Z6C (base n gE i : Nat) (v : Value) (es : List Bt.Entry) (e : Bt.Entry) (w : World) (hown : w.ownsRow base 69 3 v n (Z04 es)) (hl : es.length = n) (hin : i ≤ n) (hn : n ≤ 1000) (hbase : base ≤ w.heap.size) (hgE : v.ownBlock ≠ some gE)
 (tE : TypeId) (hE : Blk w gE tE e.cells) :
 Calls Tryz.prog 87 #[v, .int .i64 i, .slice (some ⟨gE, 0, none⟩) 1 1] w (fun r w' => ∃ g' cap', r = .returned (.slice (some ⟨g', 0, none⟩) (n + 1) cap') ∧ w'.ownsRow base 69 3 (.slice (some ⟨g', 0, none⟩) (n + 1) cap') (n + 1) (Z04 (Bt.Z0h es i e)) ∧ w.grownBy w' v.ownBlock) := by
 rcases Z56 hown with ⟨h0, rfl⟩ | ⟨g, cap, rfl⟩
 ·obtain rfl : n = 0 := h0
  obtain rfl : i = 0 := by omega
  obtain rfl : es = [] := List.eq_nil_of_length_eq_zero hl
  refine (Z9p base gE e w hbase tE hE).mono ?_
  rintro r w' ⟨g', cap', h1, h2, h3⟩
  exact ⟨g', cap', h1, h2, ⟨h3.os, h3.tape, h3.output, h3.size, fun k hk _ => h3.block k hk⟩⟩
 ·refine (Z9r base g n cap gE i es e w hown hl hin hn hbase (by intro h; exact hgE (by rw [h]; rfl)) tE hE).mono ?_
  rintro r w' ⟨g', cap', h1, h2, h3⟩
  exact ⟨g', cap', h1, h2, h3⟩
theorem Z71 {w w' : World} {v : Value} {G : Nat} (h : w.grownBy w' v.ownBlock) (hv : ∀ g, v.ownBlock = some g → g = G) : w.grownBy w' (some G) :=
 ⟨h.os, h.tape, h.output, h.size, fun k hk hn => h.block k hk (fun e => hn (by rw [hv k e.symm]))⟩
theorem IsRun.grownV {A : Nat → Prop} {op : Bt.Op} {known : List Bt.Page} {vf vk v : Value} {s : Bt.St} {b : Nat} {w w' : World} (h : IsRun A op known vf vk s b w) (hg : w.grownBy w' v.ownBlock) (hv : ∀ g, v.ownBlock = some g → b < g ∧ ¬ A g) : IsRun A op known vf vk s b w' := by
 rcases hb : v.ownBlock with _ | g
 ·rw [hb] at hg
  exact h.below ⟨hg.os, hg.tape, hg.output, hg.size, fun k hk => hg.block k hk (by simp)⟩
 ·rw [hb] at hg
  exact h.grown hg (hv g hb).1 (hv g hb).2
theorem Over.growV {b : Nat} {v : Value} {w w1 w2 : World} (h : Over b w w1) (hg : w1.grownBy w2 v.ownBlock) (hge : ∀ g, v.ownBlock = some g → w.heap.size ≤ g) : Over b w w2 :=
 ⟨hg.os.trans h.os, hg.tape.trans h.tape, hg.output.trans h.output, Nat.le_trans h.size hg.size, fun k hk hn => (hg.block k (Nat.lt_of_lt_of_le hk h.size) (fun e => by have := hge k e.symm; omega)).trans (h.block k hk hn)⟩
theorem Z7I (A : Nat → Prop) (op : Bt.Op) (known : List Bt.Page) (vf vk : Value) (s : Bt.St) (b : Nat) (t : Bt.St) (page : Bt.Page) (n : Bt.Node) (w : World) (h : IsRun A op known vf vk s b w) (hA : ∀ c, A c → c < w.heap.size) (hroot : s.root ≠ Bt.nilP)
 (hh0 : 0 ≤ s.out.hops ∧ s.out.hops ≤ 1000) (hd : Bt.Dives known 0 op.key s t (.at_ page n)) (hhk : Bt.Z0T n.entries op.key = false) (hkey : 0 ≤ op.key ∧ op.key < 4294967296)
 (HS : Hid (∀ (A' : Nat → Prop) (w' : World) (v : Value) (g m cap : Nat), (∃ a0 n0 c0, v = .slice a0 n0 c0) → IsRun A' op known vf vk t b w' → (∀ c, A' c → c < w'.heap.size) → b < g → m = (Bt.Z0h n.entries (Bt.child n.entries op.key) ⟨op.key, op.to⟩).length → m ≤ cap →
  EntRow w' (.slice (some ⟨g, 0, none⟩) m cap) (Bt.Z0h n.entries (Bt.child n.entries op.key) ⟨op.key, op.to⟩) →
  Calls Tryz.prog 86 #[.pointer (some ⟨b, 0, none⟩), .agg (Z0g page n v), .slice (some ⟨g, 0, none⟩) m cap, .slice none 0 0] w'
   (Z0y A' op known vf vk (t.store op page n (Bt.Z0h n.entries (Bt.child n.entries op.key) ⟨op.key, op.to⟩) []) b (.tuple #[]) w'))) :
 Calls Tryz.prog 52 #[.pointer (some ⟨b, 0, none⟩)] w (Z0y A op known vf vk (s.insert op known) b (.tuple #[]) w) := by
 obtain ⟨hkn, hps, hlev, hlk⟩ := Dives.ends hd
 have hpok : page.Ok := h.knownRow.ok page hkn.1
 have hval := (Z0r hkn.2.2).1
 have hasc := Z0Z n hval
 have hentok : ∀ e ∈ n.entries, e.Ok := by rw [hkn.2.1]; exact Z1j page hpok
 obtain ⟨c, hc0⟩ : ∃ c, c = Bt.child n.entries op.key := ⟨_, rfl⟩
 have HC := hid hc0
 have hcle : c ≤ n.entries.length := by rw [hc0]; exact Z5i _ _
 have HHK := hid hhk
 obtain ⟨es, hes⟩ : ∃ es, es = Bt.Z0h n.entries c ⟨op.key, op.to⟩ := ⟨_, rfl⟩
 rw [← hc0, ← hes] at HS
 have hel : es.length = n.entries.length + 1 := by rw [hes]; simp [Bt.Z0h]; omega
 have hek : ∀ e ∈ es, e.Ok := by
  intro e he
  rw [hes] at he
  simp only [Bt.Z0h, List.mem_append, List.mem_cons] at he
  rcases he with h1 | rfl | h1
  ·exact hentok e (List.mem_of_mem_take h1)
  ·exact hkey
  ·exact hentok e (List.mem_of_mem_drop h1)
 have HES := hid (And.intro hes (And.intro hel hek))
 have HX : Hid (s.insert op known = t.store op page n es []) := hid (by
  unfold Bt.St.insert
  rw [if_neg hroot, hd.descend]
  simp only
  rw [if_neg (by rw [hhk]; simp), ← hc0, ← hes])
 have h5 := hasc.2
 clear hes hel hek hkey
 have HAS := hid hasc
 have HEO := hid hentok
 clear hkn hps hlev hlk hpok hval hasc hentok hc0 hhk
 have HR := hid h
 have HD := hid hd
 have hlt := h.lt
 have hlt1 : b < w.heap.size + 1 := by omega
 obtain ⟨vn, vw, ve, vc, hc⟩ := h.cells
 have k1 : w.cell? ⟨b, 1, none⟩ = some (.int .u32 op.key) := hc 1
 have k3 : w.cell? ⟨b, 3, none⟩ = some (.int .i64 op.to.line) := hc 3
 have k4 : w.cell? ⟨b, 4, none⟩ = some (.int .i64 op.to.gen) := hc 4
 have k34 : w.cell? ⟨b, 34, none⟩ = some (.int .i64 s.root.line) := hc 34
 have k35 : w.cell? ⟨b, 35, none⟩ = some (.int .i64 s.root.gen) := hc 35
 have hp : peq s.root.line s.root.gen 0 0 = false := by rw [Z0j]; simp [hroot]
 have eq := eql_ptr
 have hn : NoneAt w := by obtain ⟨vn, vw, ve, vc, hr, _⟩ := h; exact hr.none
 obtain ⟨g0, g1, gl⟩ := hn
 have gl1 : 0 < w.heap.size + 1 := by omega
 clear h hc hroot hd
 have tg81 := trivial
 have tg82 := trivial
 exact wG12
theorem Z7h (A : Nat → Prop) (op : Bt.Op) (known : List Bt.Page) (vf vk : Value) (s : Bt.St) (b : Nat) (t : Bt.St) (page : Bt.Page) (n : Bt.Node) (w : World) (h : IsRun A op known vf vk s b w) (hA : ∀ c, A c → c < w.heap.size) (hroot : s.root ≠ Bt.nilP)
 (hh0 : 0 ≤ s.out.hops ∧ s.out.hops ≤ 1000) (hd : Bt.Dives known 0 op.key s t (.at_ page n)) (hright : n.right = Bt.nilP) :
 Calls Tryz.prog 58 #[.pointer (some ⟨b, 0, none⟩)] w (Z0y A op known vf vk (s.unlink op known) b (.tuple #[]) w) := by
 obtain ⟨hkn, hps, hlev, hlk⟩ := Dives.ends hd
 have hpok : page.Ok := h.knownRow.ok page hkn.1
 have hval := (Z0r hkn.2.2).1
 have hasc := Z0Z n hval
 have hentok : ∀ e ∈ n.entries, e.Ok := by rw [hkn.2.1]; exact Z1j page hpok
 have HX : Hid (s.unlink op known = { t with out := { t.out with found := true } }) := hid (by
  unfold Bt.St.unlink
  rw [if_neg hroot, hd.descend]
  simp only
  rw [if_pos hright])
 have hpr : peq n.right.line n.right.gen 0 0 = true := by rw [Z0j]; simp [hright]
 have HR := hid h
 have HD := hid hd
 have HAS := hid hasc
 have HEO := hid hentok
 have hlt := h.lt
 have hlt1 : b < w.heap.size + 1 := by omega
 obtain ⟨vn, vw, ve, vc, hc⟩ := h.cells
 have k34 : w.cell? ⟨b, 34, none⟩ = some (.int .i64 s.root.line) := hc 34
 have k35 : w.cell? ⟨b, 35, none⟩ = some (.int .i64 s.root.gen) := hc 35
 have hp : peq s.root.line s.root.gen 0 0 = false := by rw [Z0j]; simp [hroot]
 have eq := eql_ptr
 have hn : NoneAt w := by obtain ⟨vn, vw, ve, vc, hr, _⟩ := h; exact hr.none
 obtain ⟨g0, g1, gl⟩ := hn
 have gl1 : 0 < w.heap.size + 1 := by omega
 clear h hc hroot hd hkn hps hlev hlk hpok hval hasc hentok hright
 have tg103 := trivial
 have tg104 := trivial
 exact wG16
theorem Z88 (A : Nat → Prop) (op : Bt.Op) (known : List Bt.Page) (vf vk : Value) (s : Bt.St) (b : Nat) (t : Bt.St) (page : Bt.Page) (n : Bt.Node) (w : World) (h : IsRun A op known vf vk s b w) (hA : ∀ c, A c → c < w.heap.size) (hroot : s.root ≠ Bt.nilP)
 (hh0 : 0 ≤ s.out.hops ∧ s.out.hops ≤ 1000) (hd : Bt.Dives known 0 op.key s t (.at_ page n)) (hright : n.right ≠ Bt.nilP) (dp : Bt.Page) (d : Bt.Node) (hl : t.look known n.right true = (t, some (dp, d))) (hdl : d.level = 0) (hdd : d.dead = false) :
 Calls Tryz.prog 58 #[.pointer (some ⟨b, 0, none⟩)] w (Z0y A op known vf vk (s.unlink op known) b (.tuple #[]) w) := by
 obtain ⟨hkn, hps, hlev, hlk⟩ := Dives.ends hd
 have hpok : page.Ok := h.knownRow.ok page hkn.1
 have hval := (Z0r hkn.2.2).1
 have hasc := Z0Z n hval
 have hentok : ∀ e ∈ n.entries, e.Ok := by rw [hkn.2.1]; exact Z1j page hpok
 have HX : Hid (s.unlink op known = { t with out := { t.out with found := true } }) := hid (by
  unfold Bt.St.unlink
  rw [if_neg hroot, hd.descend]
  simp only
  rw [if_neg hright, hl]
  simp only
  rw [if_neg (by omega), if_pos hdd])
 have HL := hid hl
 have hpr : peq n.right.line n.right.gen 0 0 = false := by rw [Z0j]; simp [hright]
 have b0 : (d.level != 0) = false := by simp [hdl]
 have HR := hid h
 have HD := hid hd
 have HAS := hid hasc
 have HEO := hid hentok
 have hlt := h.lt
 have hlt1 : b < w.heap.size + 1 := by omega
 obtain ⟨vn, vw, ve, vc, hc⟩ := h.cells
 have k34 : w.cell? ⟨b, 34, none⟩ = some (.int .i64 s.root.line) := hc 34
 have k35 : w.cell? ⟨b, 35, none⟩ = some (.int .i64 s.root.gen) := hc 35
 have hp : peq s.root.line s.root.gen 0 0 = false := by rw [Z0j]; simp [hroot]
 have eq := eql_ptr
 have hn : NoneAt w := by obtain ⟨vn, vw, ve, vc, hr, _⟩ := h; exact hr.none
 obtain ⟨g0, g1, gl⟩ := hn
 have gl1 : 0 < w.heap.size + 1 := by omega
 clear h hc hroot hd hkn hps hlev hlk hpok hval hasc hentok hright hl hdl
 have tg103 := trivial
 have tg105 := trivial
 have tg106 := trivial
 exact wG16
theorem own_pages1' {w : World} {base n : Nat} {R : Bt.Page} (hn : n = w.heap.size) (hb : base ≤ n) : (w.alloc (.cells #[.int .i64 R.line, .int .u64 R.head, .int .u64 R.d0, .int .u64 R.d1, .int .u64 R.d2, .int .u64 R.d3, .int .u64 R.d4, .int .u64 R.d5, .int .u64 R.d6] 25)).ownsRow base 25 9 (.slice (some ⟨n, 0, none⟩) 1 1) 1 (Z0q [R]) := by
 subst hn
 exact Z6z w base R hb
theorem Z5u (A : Nat → Prop) (op : Bt.Op) (known : List Bt.Page) (vf vk : Value) (s : Bt.St) (b N : Nat) (writes : List Bt.Page) (check : List Int) (w : World) (h : IsRun A op known vf vk s b w) (hAN : ∀ c, A c → c < N) {G g m cw n cap : Nat} (hNG : N ≤ G) (hNg : N ≤ g) (hGg : G ≠ g)
 (hw : w.ownsRow (b + 1) 25 9 (.slice (some ⟨G, 0, none⟩) m cw) writes.length (Z0q writes)) (hq : w.ownsRow (b + 1) 3 1 (.slice (some ⟨g, 0, none⟩) n cap) n (intCells check)) (hn : check.length = n) (hsmall : n ≤ 1000000) :
 Calls Tryz.prog 94 #[.pointer (some ⟨b, 0, none⟩), (.slice (some ⟨G, 0, none⟩) m cw), .slice (some ⟨g, 0, none⟩) n cap] w
  (fun e w' => e = .returned (.tuple #[]) ∧ IsRun (fun c => A c ∨ N ≤ c) op known vf vk (s.finish writes check) b w' ∧ ∃ k, N ≤ k ∧ OverTwo b k w w') := by
 refine (Z4q (fun c => A c ∨ c = G) op known vf vk s b g n cap writes check G m cw w (h.imp (fun c hc => .inl hc)) hw (.inr rfl) hq hn hsmall (fun h1 => ?_)).mono ?_
 ·rcases h1 with h1 | h1
  ·have := hAN _ h1; omega
  ·omega
 ·rintro e w' ⟨h1, h2, h3⟩
  refine ⟨h1, h2.imp (fun c hc => ?_), g, hNg, h3⟩
  rcases hc with (hc | hc) | hc
  ·exact .inl hc
  ·exact .inr (by omega)
  ·exact .inr (by omega)
theorem Z3p {p : Bt.Page} {n : Bt.Node} (hp : p.Ok) (hn : n = p.node) (hv : n.valid = true) : (0 ≤ n.level ∧ n.level ≤ 8) ∧ (0 ≤ n.high ∧ n.high < 4294967296) ∧ n.entries.length ≤ 5 := by
 have h1 := Bt.Node.valid_parts hv
 refine ⟨⟨by omega, by omega⟩, ?_, (Z0Z n hv).2⟩
 rw [hn]
 show 0 ≤ p.d1 % 4294967296 ∧ p.d1 % 4294967296 < 4294967296
 omega
theorem Z89 (A : Nat → Prop) (op : Bt.Op) (known : List Bt.Page) (vf vk : Value) (s : Bt.St) (b : Nat) (t : Bt.St) (page : Bt.Page) (n : Bt.Node) (w : World) (h : IsRun A op known vf vk s b w) (hA : ∀ c, A c → c < w.heap.size) (hroot : s.root ≠ Bt.nilP)
 (hh0 : 0 ≤ s.out.hops ∧ s.out.hops ≤ 1000) (hd : Bt.Dives known 0 op.key s t (.at_ page n)) (hright : n.right ≠ Bt.nilP) (dp : Bt.Page) (d : Bt.Node) (hl : t.look known n.right true = (t, some (dp, d))) (hdl : d.level = 0) (hdd : d.dead = true) :
 Calls Tryz.prog 58 #[.pointer (some ⟨b, 0, none⟩)] w (Z0y A op known vf vk (s.unlink op known) b (.tuple #[]) w) := by
 obtain ⟨hkn, hps, hlev, hlk⟩ := Dives.ends hd
 have hpok : page.Ok := h.knownRow.ok page hkn.1
 have hval := (Z0r hkn.2.2).1
 have hasc := Z0Z n hval
 have hentok : ∀ e ∈ n.entries, e.Ok := by rw [hkn.2.1]; exact Z1j page hpok
 have HX : Hid (s.unlink op known = ({ t with out := t.out.withTo n.right } : Bt.St).finish [({ n with right := d.right } : Bt.Node).fill page] [dp.line]) := hid (by
  unfold Bt.St.unlink
  rw [if_neg hroot, hd.descend]
  simp only
  rw [if_neg hright, hl]
  simp only
  rw [if_neg (by omega), if_neg (by rw [hdd]; simp)])
 have HL := hid hl
 have hpr : peq n.right.line n.right.gen 0 0 = false := by rw [Z0j]; simp [hright]
 have b0 : (d.level != 0) = false := by simp [hdl]
 have hrg := Z3p hpok hkn.2.1 hval
 have HPO := hid hpok
 have HNO : Hid (NodeOk ({ n with right := d.right } : Bt.Node)) := hid ⟨⟨hrg.1.1, by have := hrg.1.2; show n.level ≤ 255; omega⟩, hrg.2.1, hrg.2.2⟩
 have HRC : ∀ r : Bt.Page, Hid (r.cells = #[.int .i64 r.line, .int .u64 r.head, .int .u64 r.d0, .int .u64 r.d1, .int .u64 r.d2, .int .u64 r.d3, .int .u64 r.d4, .int .u64 r.d5, .int .u64 r.d6]) := fun r => hid rfl
 have HFC := HRC (({ n with right := d.right } : Bt.Node).fill page)
 have HR := hid h
 have HD := hid hd
 have HAS := hid hasc
 have HEO := hid hentok
 have hlt := h.lt
 have hlt1 : b < w.heap.size + 1 := by omega
 obtain ⟨vn, vw, ve, vc, hc⟩ := h.cells
 have k34 : w.cell? ⟨b, 34, none⟩ = some (.int .i64 s.root.line) := hc 34
 have k35 : w.cell? ⟨b, 35, none⟩ = some (.int .i64 s.root.gen) := hc 35
 have hp : peq s.root.line s.root.gen 0 0 = false := by rw [Z0j]; simp [hroot]
 have eq := eql_ptr
 have hn : NoneAt w := by obtain ⟨vn, vw, ve, vc, hr, _⟩ := h; exact hr.none
 obtain ⟨g0, g1, gl⟩ := hn
 have gl1 : 0 < w.heap.size + 1 := by omega
 clear h hc hroot hd hkn hps hlev hlk hpok hval hasc hentok hright hl hdl hrg
 have tg103 := trivial
 have tg105 := trivial
 have tg107 := trivial
 exact wG16
end Go.Proofs.YtjmpekanlmepmaaGreatDoor
