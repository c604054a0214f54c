/- Package bodegalaw24: the place of a key; an append of whatever there is. -/
import Derived.Test.YtjmpekanlmepmaaGreatDoorNN14
import Derived.Test.YtjmpekanlmepmaaGreatDoorNN26
import Derived.Test.YtjmpekanlmepmaaGreatDoorNN19
set_option linter.all false
set_option maxRecDepth 20000
set_option maxHeartbeats 8000000
open Go.Lib (hid)
namespace Go.Proofs.YtjmpekanlmepmaaGreatDoor
open Go.RowKit
def placeOf : List Int → Int → Nat
 | [], _ => 0
 | k :: ks, key => if k < key then placeOf ks key + 1 else 0
def isThere (keys : List Int) (key : Int) : Bool := match keys[placeOf keys key]? with | some k => decide (k = key) | none => false
theorem placeOf_at (keys : List Int) (key : Int) (k : Nat) (hk : k < keys.length) (hb : ∀ j (h : j < k), keys[j]'(by omega) < key) (hge : key ≤ keys[k]) : placeOf keys key = k := by
 induction keys generalizing k with
 | nil => simp at hk
 | cons x xs ih =>
   cases k with
   | zero =>
     simp only [List.getElem_cons_zero] at hge
     simp only [placeOf, if_neg (show ¬ x < key by omega)]
   | succ k =>
     have h0 := hb 0 (by omega)
     simp only [List.getElem_cons_zero] at h0
     simp only [placeOf, if_pos h0]
     rw [ih k (by simpa using hk) (fun j h => by have := hb (j + 1) (by omega); simpa using this) (by simpa using hge)]
theorem placeOf_end (keys : List Int) (key : Int) (hb : ∀ k ∈ keys, k < key) : placeOf keys key = keys.length := by
 induction keys with
 | nil => rfl
 | cons x xs ih => simp only [placeOf, if_pos (hb x (by simp)), List.length_cons, ih (fun k h => hb k (by simp [h]))]
theorem placeOf_le (keys : List Int) (key : Int) : placeOf keys key ≤ keys.length := by
 induction keys with
 | nil => exact Nat.le_refl _
 | cons x xs ih => simp only [placeOf]; split <;> simp <;> omega
theorem isThere_at (keys : List Int) (key : Int) (k : Nat) (hk : k < keys.length) (h : placeOf keys key = k) : isThere keys key = decide (keys[k] = key) := by
 unfold isThere
 rw [h, List.getElem?_eq_getElem hk]
theorem isThere_end (keys : List Int) (key : Int) (h : placeOf keys key = keys.length) : isThere keys key = false := by
 unfold isThere
 rw [h, List.getElem?_eq_none (Nat.le_refl _)]
def SrcAt (w : World) (v : Value) (m : Nat) (news : List Value) : Prop :=
 (v = .slice none 0 0 ∧ m = 0 ∧ news = []) ∨ ∃ ad c, v = .slice (some ad) m c ∧ (∀ j u, news[j]? = some u → w.cell? (ad.add j) = some u) ∧ (∀ u ∈ news, u.oneCell' = true)
theorem wp_append_src {P : Program} {w : World} {o : Oper} {a : Act} {K : Act → World → Prop} {Q : Exit → Act → World → Prop} (s x : Operand) (t : TypeId)
 (ho : o.op = .call { callee := .builtin .append, args := #[s, x], argTypes := #[t, t] })
 (base : Nat) (e : TypeId) (i : TypeInfo) (z : Value) (size bytes : Nat) (ht : P.underlying t = some (.slice e)) (hi : P.info? e = some i) (hz : i.zero = some z)
 (hsize : i.size = size) (hby : i.bytes = bytes) (hzs : z.cells.size = size) (hsz : 0 < size)
 (v : Value) (n : Nat) (xs : List Value) (hs : a.eval s = v) (hown : w.ownsRow base e size v n xs)
 (vx : Value) (m : Nat) (news : List Value) (hx : a.eval x = vx) (hsrc : SrcAt w vx m news) (hl : news.length = m * size)
 (h63 : n + m ≤ maxLen) (hbytes : (n + m) * bytes ≤ 140737488355328) (hbase : base ≤ w.heap.size)
 (h : ∀ v' w', w'.ownsRow base e size v' (n + m) (xs ++ news) → w.grownBy w' v.ownBlock → K (a.put o.dst v') w') : o.wp P a w K Q := by
 rcases hsrc with ⟨rfl, rfl, rfl⟩ | ⟨ad, c, rfl, hnews, h1⟩
 ·have hr := run_append_owned_none (P := P) (w := w) base t o.type e i size ht hi v n xs hown
  unfold Oper.wp execOp
  simp only [ho, resolve, invoke, builtin, Sem.run_bind, Sem.run_pure, Result.andThen_ok, List.map_toArray, List.map_cons, List.map_nil, hs, hx, hr]
  exact h v w (by simpa using hown) ⟨rfl, rfl, rfl, Nat.le_refl _, fun _ _ _ => rfl⟩
 ·exact wp_append_own w s x t ho base e i z size bytes ht hi hz hsize hby hzs hsz v n xs hs hown ad m c news hx hl hnews h1 h63 hbytes hbase fun v' w' h2 h3 _ => h v' w' h2 h3
theorem place_any (x base : Nat) (pv vk vt vg : Value) (next : Int) (keys : List Int) (key : Int) (w : World) (hx : Blk w x 58 #[pv, .int .i64 next, vk, vt, vg]) (hk : w.ownsRow base 52 1 vk keys.length (keyCells keys))
 (hlen : keys.length ≤ 1000) :
 Calls Tryz.prog 48 #[.pointer (some ⟨x, 0, none⟩), .int .u32 key] w fun e w' => e = .returned (.tuple #[.int .i64 (placeOf keys key), .bool (isThere keys key)]) ∧ Below w.heap.size w w' := by
 have kx := hx.cell 2
 have kx' : w.cell? ⟨x, 2, none⟩ = some vk := kx
 clear kx hx
 by_cases h0 : keys.length = 0
 ·obtain ⟨a, c, rfl⟩ := own_zero4 (h0 ▸ hk)
  obtain rfl : keys = [] := List.length_eq_zero_iff.1 h0
  clear hk
  go_enter Tryz.func48, Tryz.ntmps48
  go_wp2_with fail
  refine wp_loop_rounds 1 ?_
  rw [rounds_succ]
  go_wp2_with fail
  refine bodyPost_ret (results_tmp2 rfl _ _ _) rfl ⟨rfl, qL⟩
 ·obtain ⟨K, cap, rfl⟩ := own_form hk (by omega)
  have HC : Hid (∀ k (h : k < keys.length), w.cell? ⟨K, k, none⟩ = some (.int .u32 keys[k])) := hid (fun k h => own_cells hk k _ (by simp [keyCells, h]))
  clear hk
  go_enter Tryz.func48, Tryz.ntmps48
  go_wp2_with fail
  go_loop [6] (fun i => ∃ k : Nat, k ≤ keys.length ∧ i = .int .i64 k ∧ Hid (∀ j (h : j < k) (h2 : j < keys.length), keys[j] < key)) (fun i => ((keys.length : Int) - intOf i).toNat)
  case atStart => exact ⟨0, by omega, rfl, hid (fun j h => by omega)⟩
  case round =>
   obtain ⟨k, hkl, rfl, HB⟩ := hrel
   by_cases hk2 : k < keys.length
   ·obtain ⟨y, hy⟩ : ∃ y, y = keys[k] := ⟨_, rfl⟩
    have c0 := HC.out k hk2
    rw [← hy] at c0
    have HY := hid hy
    have b1 : decide ((k : Int) < keys.length) = true := by simp; omega
    have bk0 : (0 : Int) ≤ k := by omega
    have bk1 : (k : Int) < keys.length := by omega
    by_cases hge : key ≤ y
    ·have b2 : decide (key ≤ y) = true := by simp; omega
     have hp : placeOf keys key = k := placeOf_at keys key k hk2 (fun j h => HB.out j h (by omega)) (by rw [← HY.out]; exact hge)
     have hth := isThere_at keys key k hk2 hp
     rw [← HY.out] at hth
     have HP := hid hp
     have HT := hid hth
     clear hy hge hp hth
     go_wp2_with fail
     go_quiet (fail)
     go_wp2_with fail
     refine bodyPost_ret (results_tmp2 rfl _ _ _) rfl ⟨?_, qL⟩
     rw [HP.out, HT.out]
     first | rfl | (congr 5; done) | (simp; done)
    ·have b2 : decide (key ≤ y) = false := by simp; omega
     have HL := hid (show y < key by omega)
     clear hy hge
     go_wp2_with fail
     refine ⟨⟨k + 1, by omega, by rw [show ((k : Int) + 1) = ((k + 1 : Nat) : Int) by omega], hid (fun j h h2 => ?_)⟩, by simp [intOf]; omega⟩
     by_cases hj : j = k
     ·subst hj; rw [← HY.out]; exact HL.out
     ·exact HB.out j (by omega) h2
   ·have b1 : decide ((k : Int) < keys.length) = false := by simp; omega
    have hp : placeOf keys key = keys.length := placeOf_end keys key (fun y hy => by
     obtain ⟨j, hj, rfl⟩ := List.mem_iff_getElem.1 hy
     exact HB.out j (by omega) hj)
    have hth := isThere_end keys key hp
    have HP := hid hp
    have HT := hid hth
    clear hp hth
    go_wp2_with fail
    refine bodyPost_ret (results_tmp2 rfl _ _ _) rfl ⟨?_, qL⟩
    rw [HP.out, HT.out]
    rfl
theorem slice_facts {w : World} {base n size bytes : Nat} {t e : TypeId} {v : Value} {xs : List Value} (h : w.ownsRow base e size v n xs) (i0 : TypeInfo) (ht : Tryz.prog.underlying t = some (.slice e)) (hel : Tryz.prog.elem t = e) (hi : Tryz.prog.info? e = some i0) (hsz : i0.size = size)
 (at' : Nat) (hat : at' ≤ n) (h1 : ∀ u ∈ xs, u.oneCell' = true) :
 ∃ v1 v2, (∀ wx, (Instr.slice t v none (some (.int .i64 (at' : Int))) none).run Tryz.prog wx = .ok v1 wx) ∧ (∀ wx, (Instr.slice t v (some (.int .i64 (at' : Int))) none none).run Tryz.prog wx = .ok v2 wx) ∧
  (∀ wx : World, (∀ b o, v.ownBlock = some b → wx.cell? ⟨b, o, none⟩ = w.cell? ⟨b, o, none⟩) → SrcAt wx v1 at' (xs.take (at' * size)) ∧ SrcAt wx v2 (n - at') (xs.drop (at' * size))) := by
 have hu : Tryz.prog.underlying t = some (.slice (Tryz.prog.elem t)) := by rw [hel]; exact ht
 have hs : ∀ wx, (sizeOf (Tryz.prog.elem t)).run Tryz.prog wx = .ok size wx := fun wx => by rw [hel]; simp [sizeOf, typeInfo, hi, hsz]
 have hlen := h.1
 rcases h.2 with ⟨rfl, rfl⟩ | ⟨g, cap, cur, rfl, hb, hg, hnc, hcm, hcs, htake⟩
 ·obtain rfl : at' = 0 := by omega
  have hx : xs = [] := List.length_eq_zero_iff.1 (by simpa using hlen)
  subst hx
  refine ⟨.slice none 0 0, .slice none 0 0, fun wx => ?_, fun wx => ?_, fun wx _ => ⟨.inl ⟨rfl, rfl, by simp⟩, .inl ⟨rfl, rfl, by simp⟩⟩⟩
  ·rw [run_slice_h wx t none 0 0 hu .i64 _ (by omega) (by omega), hs]
   simp [Result.andThen, sliced]
  ·rw [run_slice_l wx t none 0 0 hu .i64 _ (by omega) (by omega), hs]
   simp [Result.andThen, sliced]
 ·refine ⟨.slice (some ⟨g, 0, none⟩) at' cap, .slice (some (if cap = at' then ⟨g, 0, none⟩ else ⟨g, at' * size, none⟩)) (n - at') (cap - at'), fun wx => ?_, fun wx => ?_, fun wx hk => ⟨.inr ⟨_, _, rfl, fun j u hj => ?_, fun u hu => h1 u (List.mem_of_mem_take hu)⟩, .inr ⟨_, _, rfl, fun j u hj => ?_, fun u hu => h1 u (List.mem_of_mem_drop hu)⟩⟩⟩
  ·rw [run_slice_h wx t (some ⟨g, 0, none⟩) n cap hu .i64 _ (by omega) (by omega), hs]
   simp [Result.andThen, sliced, Addr.add]
  ·rw [run_slice_l wx t (some ⟨g, 0, none⟩) n cap hu .i64 _ (by omega) (by omega), hs]
   simp [Result.andThen, sliced, Addr.add]
   by_cases h1 : cap = at'
   ·simp [h1]
   ·rw [if_neg h1, if_neg h1]
    by_cases h2 : at' * size = 0
    ·rw [if_pos h2, h2]
    ·rw [if_neg h2]
  ·have hj2 : xs[j]? = some u := by
     rw [List.getElem?_take] at hj
     split at hj
     ·exact hj
     ·cases hj
   have e1 : (⟨g, 0, none⟩ : Addr).add j = ⟨g, j, none⟩ := by simp [Addr.add]; omega
   rw [e1, hk g j rfl]
   exact own_cells h j u hj2
  ·rw [List.getElem?_drop] at hj
   have hlt : at' * size + j < xs.length := (List.getElem?_eq_some_iff.1 hj).1
   have hne : ¬ cap = at' := fun he => by
    have : n = at' := by omega
    rw [hlen, this] at hlt; omega
   rw [if_neg hne]
   have e1 : (⟨g, at' * size, none⟩ : Addr).add j = ⟨g, at' * size + j, none⟩ := by simp [Addr.add]; try omega
   rw [e1, hk g _ rfl]
   exact own_cells h _ u hj
def ptrCells (l : List Bt.Ptr) : List Value := l.flatMap (fun p => p.cells.toList)
theorem ptrCells_length (l : List Bt.Ptr) : (ptrCells l).length = l.length * 2 := by
 induction l with
 | nil => rfl
 | cons p l ih => simp only [ptrCells, List.flatMap_cons, List.length_append, List.length_cons] at ih ⊢; rw [ih]; simp [Bt.Ptr.cells]; omega
theorem keyCells_length (l : List Int) : (keyCells l).length = l.length * 1 := by simp [keyCells]
def insertK {α : Type} (l : List α) (i : Nat) (a : α) : List α := l.take i ++ a :: l.drop i
theorem insertK_length {α : Type} (l : List α) (i : Nat) (a : α) (h : i ≤ l.length) : (insertK l i a).length = l.length + 1 := by simp [insertK]; omega
theorem keyCells_insert (l : List Int) (a : Int) (i : Nat) : (([] ++ (keyCells l).take (i * 1)) ++ [Value.int .u32 a]) ++ (keyCells l).drop (i * 1) = keyCells (insertK l i a) := by
 simp [keyCells, insertK, List.map_take, List.map_drop]
theorem ptrCells_append (a b : List Bt.Ptr) : ptrCells (a ++ b) = ptrCells a ++ ptrCells b := by simp [ptrCells]
theorem ptrCells_insert (l : List Bt.Ptr) (a : Bt.Ptr) (i : Nat) (h : i ≤ l.length) : (([] ++ (ptrCells l).take (i * 2)) ++ [Value.int .i64 a.line, .int .i64 a.gen]) ++ (ptrCells l).drop (i * 2) = ptrCells (insertK l i a) := by
 have e : ptrCells l = ptrCells (l.take i) ++ ptrCells (l.drop i) := by rw [← ptrCells_append, List.take_append_drop]
 have hl : (ptrCells (l.take i)).length = i * 2 := by rw [ptrCells_length, List.length_take, Nat.min_eq_left h]
 have h1 : (ptrCells l).take (i * 2) = ptrCells (l.take i) := by rw [e, ← hl, List.take_left]
 have h2 : (ptrCells l).drop (i * 2) = ptrCells (l.drop i) := by rw [e, ← hl, List.drop_left]
 rw [h1, h2]
 simp [insertK, ptrCells_append, ptrCells, Bt.Ptr.cells]
theorem infoU32 : (Tryz.prog.info? 52).map (fun i => (i.zero, i.size, i.bytes)) = some (some (.int .u32 0), 1, 4) := by kernel_rfl
theorem infoPtr : (Tryz.prog.info? 27).map (fun i => (i.zero, i.size, i.bytes)) = some (some (.agg #[.int .i64 0, .int .i64 0]), 2, 16) := by kernel_rfl
theorem elemU32 : Tryz.prog.elem 55 = 52 := by kernel_rfl
theorem elemPtr : Tryz.prog.elem 56 = 27 := by kernel_rfl
theorem own_cast {w : World} {base n n' size : Nat} {e : TypeId} {v : Value} {xs xs' : List Value} (h : w.ownsRow base e size v n xs) (hn : n = n') (hx : xs = xs') : w.ownsRow base e size v n' xs' := by subst hn; subst hx; exact h
theorem own_empty {w : World} {base n size : Nat} {e : TypeId} (hn : n = w.heap.size) (hb : base ≤ n) : (w.alloc (.cells #[] e)).ownsRow base e size (.slice (some ⟨n, 0, none⟩) 0 0) 0 [] := by
 subst hn
 exact World.ownsRow_lit w #[] 0 hb (by unfold maxLen; omega) (by simp)
theorem own_overTwo {w w' : World} {base n size x P : Nat} {e : TypeId} {v : Value} {xs : List Value} (h : w.ownsRow base e size v n xs) (ho : OverTwo x P w w') (hx : x < base) (hP : P < base) : w'.ownsRow base e size v n xs := by
 refine ⟨h.1, ?_⟩
 rcases h.2 with h1 | ⟨g, cap, cur, hv, hbg, hg, hr⟩
 ·exact .inl h1
 ·have hlt : g < w.heap.size := (Array.getElem?_eq_some_iff.1 hg).1
  exact .inr ⟨g, cap, cur, hv, hbg, (ho.block g hlt (by omega) (by omega)).trans hg, hr⟩
section
variable {x P : Nat} {w w1 w2 : World}
theorem OverTwo.refl (x P : Nat) (w : World) : OverTwo x P w w := ⟨rfl, rfl, rfl, Nat.le_refl _, fun _ _ _ _ => rfl⟩
theorem OverTwo.trans (h1 : OverTwo x P w w1) (h2 : OverTwo x P w1 w2) : OverTwo x P w w2 :=
 ⟨h2.os.trans h1.os, h2.tape.trans h1.tape, h2.output.trans h1.output, Nat.le_trans h1.size h2.size, fun j hj hx hP => (h2.block j (Nat.lt_of_lt_of_le hj h1.size) hx hP).trans (h1.block j hj hx hP)⟩
theorem OverTwo.of_below (h : Below w.heap.size w w1) : OverTwo x P w w1 := ⟨h.os, h.tape, h.output, h.size, fun j hj _ _ => h.block j hj⟩
theorem OverTwo.of_left (h : Over x w w1) : OverTwo x P w w1 := ⟨h.os, h.tape, h.output, h.size, fun j hj hx _ => h.block j hj (by simpa using hx)⟩
theorem OverTwo.to_below {w0 : World} (h0 : Below w0.heap.size w0 w) (h : OverTwo x P w w1) (hx : w0.heap.size ≤ x) (hP : w0.heap.size ≤ P) : Below w0.heap.size w0 w1 :=
 ⟨h.os.trans h0.os, h.tape.trans h0.tape, h.output.trans h0.output, Nat.le_trans h0.size h.size, fun j hj => (h.block j (Nat.lt_of_lt_of_le hj h0.size) (by omega) (by omega)).trans (h0.block j hj)⟩
end
structure IxOk (x P cap : Nat) (pages : List Bt.Page) (next : Int) (keys : List Int) (tos : List Bt.Ptr) (vk vt vg : Value) (w : World) : Prop where
 blk : Blk w x 58 (ixCells P pages.length cap next vk vt vg)
 pg : PagesAt P cap pages w
 keys : w.ownsRow (x + 1) 52 1 vk keys.length (keyCells keys)
 tos : w.ownsRow (x + 1) 27 2 vt tos.length (ptrCells tos)
 none : NoneAt w
 hPx : P < x
 hgP : 0 < P
def IxAt (x P cap : Nat) (pages : List Bt.Page) (next : Int) (keys : List Int) (tos : List Bt.Ptr) (w : World) : Prop := ∃ vk vt vg, IxOk x P cap pages next keys tos vk vt vg w
theorem sG25 {P : Prop} (h : P := by
 refine ⟨⟨h.row.ok, h.row.len, ?_⟩, fun i => ?_, Nat.lt_of_lt_of_le h.lt hs, by obtain ⟨cs, hc⟩ := h.blk; exact ⟨cs, hb.trans hc⟩⟩
 ·rcases h.row.form with h1 | ⟨c, cp, hv, hlt, hcells⟩
  ·exact .inl h1
  ·refine .inr ⟨c, cp, hv, Nat.lt_of_lt_of_le hlt hs, fun i p hi j v hv2 => ?_⟩
   simp only [Value.slice.injEq, Option.some.injEq, Addr.mk.injEq, and_true, true_and] at hv
   obtain ⟨rfl, rfl⟩ := hv
   have := hcells i p hi j v hv2
   simpa only [World.cell?, hb] using this
 ·have := h.free i
  simpa only [World.frozen?, hb] using this) : P := h
theorem PagesAt.two {x P cap : Nat} {pages : List Bt.Page} {w w' : World} (h : PagesAt P cap pages w) (ho : ∀ j, j = P → w'.heap[j]? = w.heap[j]?) (hs : w.heap.size ≤ w'.heap.size) : PagesAt P cap pages w' := by
 have hb := ho P rfl
 exact sG25
theorem IxOk.over {x P cap : Nat} {pages : List Bt.Page} {next : Int} {keys : List Int} {tos : List Bt.Ptr} {vk vt vg : Value} {w w' : World} (h : IxOk x P cap pages next keys tos vk vt vg w) (hb : Below w.heap.size w w') : IxOk x P cap pages next keys tos vk vt vg w' :=
 ⟨h.blk.kept hb, h.pg.two (x := x) (fun j hj => by subst hj; exact hb.block _ h.pg.lt) hb.size, own_below h.keys hb, own_below h.tos hb, h.none.below hb, h.hPx, h.hgP⟩
def RunIx (x P cap : Nat) (pages : List Bt.Page) (next : Int) (keys : List Int) (tos : List Bt.Ptr) (o : Bt.Out) (w : World) (e : Ending) (w' : World) : Prop :=
 ∃ ve vc, e = .returned (.tuple #[.agg (outCells o ve vc), .bool true]) ∧ IxAt x P cap pages next keys tos w' ∧ OverTwo x P w w' ∧
  w'.ownsRow w.heap.size 69 3 ve o.entries.length (entCells o.entries) ∧ w'.ownsRow w.heap.size 3 1 vc o.check.length (intCells o.check)
theorem RunIx.of {x P cap n : Nat} {pages pages' : List Bt.Page} {next next' : Int} {keys : List Int} {tos : List Bt.Ptr} {vk vt vg : Value} {o : Bt.Out} {w : World} {e : Ending} {w' : World} (h : IxOk x P cap pages next keys tos vk vt vg w)
 (hl : pages'.length = pages.length) (hp : IxPost x P cap pages' next' vk vt vg o w e w') : RunIx x P cap pages' next' keys tos o w e w' := by
 obtain ⟨ve, vc, he, hb, hpg, ho, hn, hre, hrc⟩ := hp
 exact ⟨ve, vc, he, ⟨vk, vt, vg, hb, hpg, own_overTwo h.keys ho (by omega) (by have := h.hPx; omega), own_overTwo h.tos ho (by omega) (by have := h.hPx; omega), hn, h.hPx, h.hgP⟩, ho, hre, hrc⟩
end Go.Proofs.YtjmpekanlmepmaaGreatDoor
