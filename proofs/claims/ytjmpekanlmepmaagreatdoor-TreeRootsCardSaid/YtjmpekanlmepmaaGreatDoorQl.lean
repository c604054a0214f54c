/- Package bodegaheap: an empty heap. Package bodegalaw24: an index at its start. Package bodegalaw24: the place of a key that is greater than all others. Package bodegalaw24: the place of a key; an append of whatever there is. Slicing a row of the call's own: x[:i], x[i:]. -/
import Derived.Test.YtjmpekanlmepmaaGreatDoorQg
set_option linter.unusedVariables false
set_option linter.unusedSimpArgs false
set_option linter.unusedSectionVars false
set_option linter.constructorNameAsVariable false
namespace Go.Proofs.YtjmpekanlmepmaaGreatDoor
open Go.RowKit

theorem infoPage : (Tryz.prog.info? 25).map (fun i => (i.zero, i.size, i.bytes)) = some (some (.agg #[.int .i64 0, .int .u64 0, .int .u64 0, .int .u64 0, .int .u64 0, .int .u64 0, .int .u64 0, .int .u64 0, .int .u64 0]), 9, 72) := by kernel_rfl

def newPage (i : Nat) : Bt.Page := ⟨96 + i, 256, 0, 0, 0, 0, 0, 0, 0⟩
def newPages (k : Nat) : List Bt.Page := (List.range k).map newPage
theorem newPages_succ (k : Nat) : pageCells (newPages (k + 1)) = pageCells (newPages k) ++ [.int .i64 (96 + k), .int .u64 256, .int .u64 0, .int .u64 0, .int .u64 0, .int .u64 0, .int .u64 0, .int .u64 0, .int .u64 0] := by
  simp [newPages, pageCells, List.range_succ, newPage, Bt.Page.cells]

theorem nine_news {w : World} {b : Nat} {cs : Array Value} {t : TypeId} (h : Blk w b t cs) : ∀ j v, cs.toList[j]? = some v → w.cell? ((⟨b, 0, none⟩ : Addr).add j) = some v := by
  intro j v hv
  have e : ((⟨b, 0, none⟩ : Addr).add j) = ⟨b, j, none⟩ := by simp [Addr.add]; omega
  rw [e, h.cell]
  simpa using hv

/-- What New has done when k pages have been made. -/
structure NewAt (w : World) (k : Nat) (v : Value) (wr : World) : Prop where
  blk : Blk wr w.heap.size 111 #[v, .int .i64 256, .int .i64 0, .slice none 0 0, .int .i64 1, .int .i64 0, .int .u32 1]
  own : wr.ownsRow (w.heap.size + 1) 25 9 v k (pageCells (newPages k))
  below : Below w.heap.size w wr
def NewRel (w : World) (i : Value) (wr : World) : Prop := ∃ (k : Nat) (v : Value), k ≤ 160 ∧ i = .int .i64 (96 + k) ∧ Hid (NewAt w k v wr)

set_option maxRecDepth 10000 in
set_option maxHeartbeats 2000000 in
theorem heapNew (w : World) : Calls Tryz.prog 47 #[.int .i64 256] w fun e w' => ∃ v, e = .returned (.pointer (some ⟨w.heap.size, 0, none⟩)) ∧ NewAt w 160 v w' := by
  obtain ⟨i0, hi, hz0, hz1, hz2⟩ := info_parts infoPage
  go_enter Tryz.func47, Tryz.ntmps47
  go_wp2_with fail
  go_loopw [4] (fun i wr => NewRel w i wr) (fun i _ => (256 - intOf i).toNat)
  case atStart => exact ⟨0, _, by omega, rfl, Lib.hid ⟨Blk.made _ _ _, World.ownsRow_nil _ _ _ _, by (repeat (first | with_reducible exact Below.refl _ _ | with_reducible assumption | with_reducible refine Below.setCell ?_ (by first | (simp; done) | (simp; omega)) _ | with_reducible refine below_alloc ?_ _ | with_reducible refine below_drewN ?_ _ | with_reducible refine Below.drew ?_ | with_reducible refine below_step ?_ (by assumption)))⟩⟩
  case round =>
    obtain ⟨k, v, hk, rfl, HA⟩ := hrel
    have kb := HA.out.blk.cell 0
    have kb' : wr.cell? ⟨w.heap.size, 0, none⟩ = some v := kb
    have hfb := HA.out.blk.free 0
    have hlt : w.heap.size < wr.heap.size := HA.out.blk.lt
    clear kb
    by_cases hk2 : k < 160
    · have b1 : decide ((96 : Int) + k < 256) = true := by simp; omega
      go_wp2_with (at_builtin; refine halt ?_)
      refine unhalt ?_
      refine wpList_append_mine rfl (.tmp 18) (.tmp 21) 54 rfl (w.heap.size + 1) 25 i0 _ 9 72 Tryz.underlying54 hi hz0 hz1 hz2 rfl (by decide) v k (pageCells (newPages k)) rfl
        (own_below HA.out.own (below_alloc (Below.refl _ _) _)) ⟨wr.heap.size, 0, none⟩ 1 1
        [.int .i64 (96 + k), .int .u64 256, .int .u64 0, .int .u64 0, .int .u64 0, .int .u64 0, .int .u64 0, .int .u64 0, .int .u64 0] rfl rfl (nine_news (cs := #[.int .i64 (96 + k), .int .u64 256, .int .u64 0, .int .u64 0, .int .u64 0, .int .u64 0, .int .u64 0, .int .u64 0, .int .u64 0]) (Blk.made _ _ _))
        (by intro u hu; simp at hu; rcases hu with rfl | rfl | rfl <;> rfl) (by omega) (by unfold maxLen; omega) (by omega) (by simp; omega) ?_
      intro g3 cap3 w3 hown3 hg3
      have hB3 := (HA.out.blk.alloc (.cells #[.int .i64 (96 + k), .int .u64 256, .int .u64 0, .int .u64 0, .int .u64 0, .int .u64 0, .int .u64 0, .int .u64 0, .int .u64 0] 25)).grown hg3 (own_ne HA.out.own (by omega))
      have hL3 := below_grown (w := w) (by have hbw := HA.out.below; (repeat (first | with_reducible exact Below.refl _ _ | with_reducible assumption | with_reducible refine Below.setCell ?_ (by first | (simp; done) | (simp; omega)) _ | with_reducible refine below_alloc ?_ _ | with_reducible refine below_drewN ?_ _ | with_reducible refine Below.drew ?_ | with_reducible refine below_step ?_ (by assumption)))) hg3 (fun j hj => by have := own_row_ge HA.out.own j hj; omega)
      have HB3 := Lib.hid hB3
      have HL3 := Lib.hid hL3
      have HW3 := Lib.hid hown3
      have k0 := hB3.cell 0
      have k0' : w3.cell? ⟨w.heap.size, 0, none⟩ = some v := k0
      have f0 := hB3.free 0
      clear hB3 hL3 hown3 hg3 k0
      go_wp2_with fail
      refine ⟨⟨k + 1, _, by omega, by rw [show (96 + (k : Int) + 1) = 96 + ((k + 1 : Nat) : Int) by omega], Lib.hid ⟨(HB3.out.put 0 _).cast rfl, ?_, HL3.out.setCell (by show w.heap.size ≤ w.heap.size; omega) _⟩⟩, by simp [intOf]; omega⟩
      rw [newPages_succ]
      exact own_aside HW3.out (by show w.heap.size < w.heap.size + 1; omega) _
    · obtain rfl : k = 160 := by omega
      go_wp2_with fail
      refine bodyPost_ret (results_tmp rfl _ _ _) rfl ⟨v, rfl, HA.out⟩
end Go.Proofs.YtjmpekanlmepmaaGreatDoor
namespace Go.Proofs.YtjmpekanlmepmaaGreatDoor
open Go.RowKit

/-- The new index: its struct in block x, its pages in block P. -/
def BeginPost (w : World) (e : Ending) (w' : World) : Prop :=
  ∃ x P cap, e = .returned (.pointer (some ⟨x, 0, none⟩)) ∧ w.heap.size ≤ P ∧ P < x ∧ Blk w' x 58 #[.slice (some ⟨P, 0, none⟩) 160 cap, .int .i64 105, .slice none 0 0, .slice none 0 0, .slice none 0 0] ∧
    w'.ownsRow (w.heap.size + 1) 25 9 (.slice (some ⟨P, 0, none⟩) 160 cap) 160 (pageCells (newPages 160)) ∧ Below w.heap.size w w'

set_option maxRecDepth 10000 in
set_option maxHeartbeats 1000000 in
theorem begin_any (w : World) : Calls Tryz.prog 22 #[] w (BeginPost w) := by
  go_enter Tryz.func22, Tryz.ntmps22
  go_wp2_with fail
  go_at_call 47; refine (heapNew _).mono ?_
  rintro e1 w1 ⟨v, rfl, hN⟩
  obtain ⟨P, cap, rfl⟩ := own_form hN.own (by omega)
  have HN := Lib.hid hN
  have kb := hN.blk.cell 0
  have kb' : w1.cell? ⟨w.heap.size, 0, none⟩ = some (.slice (some ⟨P, 0, none⟩) 160 cap) := kb
  have hlt := own_lt hN.own
  clear kb hN
  go_wp2_with fail
  refine bodyPost_ret (results_tmp rfl _ _ _) rfl ⟨w1.heap.size, P, cap, rfl, by omega, by omega, Blk.made _ _ _, own_below HN.out.own (below_alloc (Below.refl _ _) _), below_alloc HN.out.below _⟩
end Go.Proofs.YtjmpekanlmepmaaGreatDoor
namespace Go.Proofs.YtjmpekanlmepmaaGreatDoor
open Go.RowKit

theorem own_zero4 {w : World} {base size : Nat} {e : TypeId} {v : Value} {xs : List Value} (h : w.ownsRow base e size v 0 xs) : ∃ p cap, v = .slice p 0 cap := by
  rcases h.2 with ⟨rfl, _⟩ | ⟨g, cap, _, rfl, _⟩
  · exact ⟨_, _, rfl⟩
  · exact ⟨_, _, rfl⟩
def keyCells (l : List Int) : List Value := l.map (Value.int .u32)

set_option maxRecDepth 10000 in
set_option maxHeartbeats 1000000 in
theorem place_end (x base : Nat) (pv vk vt vg : Value) (next : Int) (keys : List Int) (key : Int) (w : World) (hx : Blk w x 58 #[pv, .int .i64 next, vk, vt, vg]) (hk : w.ownsRow base 52 1 vk keys.length (keyCells keys))
    (hall : ∀ y ∈ keys, y < key) (hlen : keys.length ≤ 1000) :
    Calls Tryz.prog 48 #[.pointer (some ⟨x, 0, none⟩), .int .u32 key] w fun e w' => e = .returned (.tuple #[.int .i64 keys.length, .bool false]) ∧ Below w.heap.size w w' := by
  have kx := hx.cell 2
  have kx' : w.cell? ⟨x, 2, none⟩ = some vk := kx
  clear kx hx
  by_cases h0 : keys.length = 0
  · obtain ⟨a, c, rfl⟩ := own_zero4 (h0 ▸ hk)
    rw [h0]
    clear hk
    go_enter Tryz.func48, Tryz.ntmps48
    go_wp2_with fail
    refine wp_loop_rounds 1 ?_
    rw [rounds_succ]
    go_wp2_with fail
    refine bodyPost_ret (results_tmp2 rfl _ _ _) rfl ⟨rfl, by (repeat (first | with_reducible exact Below.refl _ _ | with_reducible assumption | with_reducible refine Below.setCell ?_ (by first | (simp; done) | (simp; omega)) _ | with_reducible refine below_alloc ?_ _ | with_reducible refine below_drewN ?_ _ | with_reducible refine Below.drew ?_ | with_reducible refine below_step ?_ (by assumption)))⟩
  · obtain ⟨K, cap, rfl⟩ := own_form hk (by omega)
    have HC : Hid (∀ k (h : k < keys.length), w.cell? ⟨K, k, none⟩ = some (.int .u32 keys[k])) := Lib.hid (fun k h => own_cells hk k _ (by simp [keyCells, h]))
    have HA : Hid (∀ k (h : k < keys.length), keys[k] < key) := Lib.hid (fun k h => hall _ (List.getElem_mem h))
    clear hk hall
    go_enter Tryz.func48, Tryz.ntmps48
    go_wp2_with fail
    go_loop [6] (fun i => ∃ k : Nat, k ≤ keys.length ∧ i = .int .i64 k) (fun i => ((keys.length : Int) - intOf i).toNat)
    case atStart => exact ⟨0, by omega, rfl⟩
    case round =>
      obtain ⟨k, hkl, rfl⟩ := hrel
      by_cases hk2 : k < keys.length
      · obtain ⟨y, hy⟩ : ∃ y, y = keys[k] := ⟨_, rfl⟩
        have c0 := HC.out k hk2
        have hlt := HA.out k hk2
        rw [← hy] at c0 hlt
        have b1 : decide ((k : Int) < keys.length) = true := by simp; omega
        have b2 : decide (key ≤ y) = false := by simp; omega
        have bk0 : (0 : Int) ≤ k := by omega
        have bk1 : (k : Int) < keys.length := by omega
        clear hy hlt
        go_wp2_with fail
        exact ⟨⟨k + 1, by omega, by rw [show ((k : Int) + 1) = ((k + 1 : Nat) : Int) by omega]⟩, by simp [intOf]; omega⟩
      · have b1 : decide ((k : Int) < keys.length) = false := by simp; omega
        go_wp2_with fail
        refine bodyPost_ret (results_tmp2 rfl _ _ _) rfl ⟨rfl, by (repeat (first | with_reducible exact Below.refl _ _ | with_reducible assumption | with_reducible refine Below.setCell ?_ (by first | (simp; done) | (simp; omega)) _ | with_reducible refine below_alloc ?_ _ | with_reducible refine below_drewN ?_ _ | with_reducible refine Below.drew ?_ | with_reducible refine below_step ?_ (by assumption)))⟩
end Go.Proofs.YtjmpekanlmepmaaGreatDoor
namespace Go.Proofs.YtjmpekanlmepmaaGreatDoor
open Go.RowKit

def placeOf : List Int → Int → Nat
  | [], _ => 0
  | k :: ks, key => if k < key then placeOf ks key + 1 else 0
def isThere (keys : List Int) (key : Int) : Bool := match keys[placeOf keys key]? with | some k => decide (k = key) | none => false
theorem placeOf_at (keys : List Int) (key : Int) (k : Nat) (hk : k < keys.length) (hb : ∀ j (h : j < k), keys[j]'(by omega) < key) (hge : key ≤ keys[k]) : placeOf keys key = k := by
  induction keys generalizing k with
  | nil => simp at hk
  | cons x xs ih =>
    cases k with
    | zero =>
      simp only [List.getElem_cons_zero] at hge
      simp only [placeOf, if_neg (show ¬ x < key by omega)]
    | succ k =>
      have h0 := hb 0 (by omega)
      simp only [List.getElem_cons_zero] at h0
      simp only [placeOf, if_pos h0]
      rw [ih k (by simpa using hk) (fun j h => by have := hb (j + 1) (by omega); simpa using this) (by simpa using hge)]
theorem placeOf_end (keys : List Int) (key : Int) (hb : ∀ k ∈ keys, k < key) : placeOf keys key = keys.length := by
  induction keys with
  | nil => rfl
  | cons x xs ih => simp only [placeOf, if_pos (hb x (by simp)), List.length_cons, ih (fun k h => hb k (by simp [h]))]
theorem placeOf_le (keys : List Int) (key : Int) : placeOf keys key ≤ keys.length := by
  induction keys with
  | nil => exact Nat.le_refl _
  | cons x xs ih => simp only [placeOf]; split <;> simp <;> omega
theorem isThere_at (keys : List Int) (key : Int) (k : Nat) (hk : k < keys.length) (h : placeOf keys key = k) : isThere keys key = decide (keys[k] = key) := by
  unfold isThere
  rw [h, List.getElem?_eq_getElem hk]
theorem isThere_end (keys : List Int) (key : Int) (h : placeOf keys key = keys.length) : isThere keys key = false := by
  unfold isThere
  rw [h, List.getElem?_eq_none (Nat.le_refl _)]

/-- What is appended: a row of cells, or nothing at all. -/
def SrcAt (w : World) (v : Value) (m : Nat) (news : List Value) : Prop :=
  (v = .slice none 0 0 ∧ m = 0 ∧ news = []) ∨ ∃ ad c, v = .slice (some ad) m c ∧ (∀ j u, news[j]? = some u → w.cell? (ad.add j) = some u) ∧ (∀ u ∈ news, u.oneCell' = true)

theorem wp_append_src {P : Program} {w : World} {o : Oper} {a : Act} {K : Act → World → Prop} {Q : Exit → Act → World → Prop} (s x : Operand) (t : TypeId)
    (ho : o.op = .call { callee := .builtin .append, args := #[s, x], argTypes := #[t, t] })
    (base : Nat) (e : TypeId) (i : TypeInfo) (z : Value) (size bytes : Nat) (ht : P.underlying t = some (.slice e)) (hi : P.info? e = some i) (hz : i.zero = some z)
    (hsize : i.size = size) (hby : i.bytes = bytes) (hzs : z.cells.size = size) (hsz : 0 < size)
    (v : Value) (n : Nat) (xs : List Value) (hs : a.eval s = v) (hown : w.ownsRow base e size v n xs)
    (vx : Value) (m : Nat) (news : List Value) (hx : a.eval x = vx) (hsrc : SrcAt w vx m news) (hl : news.length = m * size)
    (h63 : n + m ≤ maxLen) (hbytes : (n + m) * bytes ≤ 140737488355328) (hbase : base ≤ w.heap.size)
    (h : ∀ v' w', w'.ownsRow base e size v' (n + m) (xs ++ news) → w.grownBy w' v.ownBlock → K (a.put o.dst v') w') : o.wp P a w K Q := by
  rcases hsrc with ⟨rfl, rfl, rfl⟩ | ⟨ad, c, rfl, hnews, h1⟩
  · have hr := run_append_owned_none (P := P) (w := w) base t o.type e i size ht hi v n xs hown
    unfold Oper.wp execOp
    simp only [ho, resolve, invoke, builtin, Sem.run_bind, Sem.run_pure, Result.andThen_ok, List.map_toArray, List.map_cons, List.map_nil, hs, hx, hr]
    exact h v w (by simpa using hown) ⟨rfl, rfl, rfl, Nat.le_refl _, fun _ _ _ => rfl⟩
  · exact wp_append_own w s x t ho base e i z size bytes ht hi hz hsize hby hzs hsz v n xs hs hown ad m c news hx hl hnews h1 h63 hbytes hbase fun v' w' h2 h3 _ => h v' w' h2 h3

set_option maxRecDepth 10000 in
set_option maxHeartbeats 1000000 in
theorem place_any (x base : Nat) (pv vk vt vg : Value) (next : Int) (keys : List Int) (key : Int) (w : World) (hx : Blk w x 58 #[pv, .int .i64 next, vk, vt, vg]) (hk : w.ownsRow base 52 1 vk keys.length (keyCells keys))
    (hlen : keys.length ≤ 1000) :
    Calls Tryz.prog 48 #[.pointer (some ⟨x, 0, none⟩), .int .u32 key] w fun e w' => e = .returned (.tuple #[.int .i64 (placeOf keys key), .bool (isThere keys key)]) ∧ Below w.heap.size w w' := by
  have kx := hx.cell 2
  have kx' : w.cell? ⟨x, 2, none⟩ = some vk := kx
  clear kx hx
  by_cases h0 : keys.length = 0
  · obtain ⟨a, c, rfl⟩ := own_zero4 (h0 ▸ hk)
    obtain rfl : keys = [] := List.length_eq_zero_iff.1 h0
    clear hk
    go_enter Tryz.func48, Tryz.ntmps48
    go_wp2_with fail
    refine wp_loop_rounds 1 ?_
    rw [rounds_succ]
    go_wp2_with fail
    refine bodyPost_ret (results_tmp2 rfl _ _ _) rfl ⟨rfl, by (repeat (first | with_reducible exact Below.refl _ _ | with_reducible assumption | with_reducible refine Below.setCell ?_ (by first | (simp; done) | (simp; omega)) _ | with_reducible refine below_alloc ?_ _ | with_reducible refine below_drewN ?_ _ | with_reducible refine Below.drew ?_ | with_reducible refine below_step ?_ (by assumption)))⟩
  · obtain ⟨K, cap, rfl⟩ := own_form hk (by omega)
    have HC : Hid (∀ k (h : k < keys.length), w.cell? ⟨K, k, none⟩ = some (.int .u32 keys[k])) := Lib.hid (fun k h => own_cells hk k _ (by simp [keyCells, h]))
    clear hk
    go_enter Tryz.func48, Tryz.ntmps48
    go_wp2_with fail
    go_loop [6] (fun i => ∃ k : Nat, k ≤ keys.length ∧ i = .int .i64 k ∧ Hid (∀ j (h : j < k) (h2 : j < keys.length), keys[j] < key)) (fun i => ((keys.length : Int) - intOf i).toNat)
    case atStart => exact ⟨0, by omega, rfl, Lib.hid (fun j h => by omega)⟩
    case round =>
      obtain ⟨k, hkl, rfl, HB⟩ := hrel
      by_cases hk2 : k < keys.length
      · obtain ⟨y, hy⟩ : ∃ y, y = keys[k] := ⟨_, rfl⟩
        have c0 := HC.out k hk2
        rw [← hy] at c0
        have HY := Lib.hid hy
        have b1 : decide ((k : Int) < keys.length) = true := by simp; omega
        have bk0 : (0 : Int) ≤ k := by omega
        have bk1 : (k : Int) < keys.length := by omega
        by_cases hge : key ≤ y
        · have b2 : decide (key ≤ y) = true := by simp; omega
          have hp : placeOf keys key = k := placeOf_at keys key k hk2 (fun j h => HB.out j h (by omega)) (by rw [← HY.out]; exact hge)
          have hth := isThere_at keys key k hk2 hp
          rw [← HY.out] at hth
          have HP := Lib.hid hp
          have HT := Lib.hid hth
          clear hy hge hp hth
          go_wp2_with fail
          go_quiet (fail)
          go_wp2_with fail
          refine bodyPost_ret (results_tmp2 rfl _ _ _) rfl ⟨?_, by (repeat (first | with_reducible exact Below.refl _ _ | with_reducible assumption | with_reducible refine Below.setCell ?_ (by first | (simp; done) | (simp; omega)) _ | with_reducible refine below_alloc ?_ _ | with_reducible refine below_drewN ?_ _ | with_reducible refine Below.drew ?_ | with_reducible refine below_step ?_ (by assumption)))⟩
          rw [HP.out, HT.out]
          first | rfl | (congr 5; done) | (simp; done)
        · have b2 : decide (key ≤ y) = false := by simp; omega
          have HL := Lib.hid (show y < key by omega)
          clear hy hge
          go_wp2_with fail
          refine ⟨⟨k + 1, by omega, by rw [show ((k : Int) + 1) = ((k + 1 : Nat) : Int) by omega], Lib.hid (fun j h h2 => ?_)⟩, by simp [intOf]; omega⟩
          by_cases hj : j = k
          · subst hj; rw [← HY.out]; exact HL.out
          · exact HB.out j (by omega) h2
      · have b1 : decide ((k : Int) < keys.length) = false := by simp; omega
        have hp : placeOf keys key = keys.length := placeOf_end keys key (fun y hy => by
          obtain ⟨j, hj, rfl⟩ := List.mem_iff_getElem.1 hy
          exact HB.out j (by omega) hj)
        have hth := isThere_end keys key hp
        have HP := Lib.hid hp
        have HT := Lib.hid hth
        clear hp hth
        go_wp2_with fail
        refine bodyPost_ret (results_tmp2 rfl _ _ _) rfl ⟨?_, by (repeat (first | with_reducible exact Below.refl _ _ | with_reducible assumption | with_reducible refine Below.setCell ?_ (by first | (simp; done) | (simp; omega)) _ | with_reducible refine below_alloc ?_ _ | with_reducible refine below_drewN ?_ _ | with_reducible refine Below.drew ?_ | with_reducible refine below_step ?_ (by assumption)))⟩
        rw [HP.out, HT.out]
        rfl
end Go.Proofs.YtjmpekanlmepmaaGreatDoor
namespace Go.Proofs.YtjmpekanlmepmaaGreatDoor
open Go.RowKit

theorem slice_facts {w : World} {base n size bytes : Nat} {t e : TypeId} {v : Value} {xs : List Value} (h : w.ownsRow base e size v n xs) (i0 : TypeInfo) (ht : Tryz.prog.underlying t = some (.slice e)) (hel : Tryz.prog.elem t = e) (hi : Tryz.prog.info? e = some i0) (hsz : i0.size = size)
    (at' : Nat) (hat : at' ≤ n) (h1 : ∀ u ∈ xs, u.oneCell' = true) :
    ∃ v1 v2, (∀ wx, (Instr.slice t v none (some (.int .i64 (at' : Int))) none).run Tryz.prog wx = .ok v1 wx) ∧ (∀ wx, (Instr.slice t v (some (.int .i64 (at' : Int))) none none).run Tryz.prog wx = .ok v2 wx) ∧
      (∀ wx : World, (∀ b o, v.ownBlock = some b → wx.cell? ⟨b, o, none⟩ = w.cell? ⟨b, o, none⟩) → SrcAt wx v1 at' (xs.take (at' * size)) ∧ SrcAt wx v2 (n - at') (xs.drop (at' * size))) := by
  have hu : Tryz.prog.underlying t = some (.slice (Tryz.prog.elem t)) := by rw [hel]; exact ht
  have hs : ∀ wx, (sizeOf (Tryz.prog.elem t)).run Tryz.prog wx = .ok size wx := fun wx => by rw [hel]; simp [sizeOf, typeInfo, hi, hsz]
  have hlen := h.1
  rcases h.2 with ⟨rfl, rfl⟩ | ⟨g, cap, cur, rfl, hb, hg, hnc, hcm, hcs, htake⟩
  · obtain rfl : at' = 0 := by omega
    have hx : xs = [] := List.length_eq_zero_iff.1 (by simpa using hlen)
    subst hx
    refine ⟨.slice none 0 0, .slice none 0 0, fun wx => ?_, fun wx => ?_, fun wx _ => ⟨.inl ⟨rfl, rfl, by simp⟩, .inl ⟨rfl, rfl, by simp⟩⟩⟩
    · rw [run_slice_h wx t none 0 0 hu .i64 _ (by omega) (by omega), hs]
      simp [Result.andThen, sliced]
    · rw [run_slice_l wx t none 0 0 hu .i64 _ (by omega) (by omega), hs]
      simp [Result.andThen, sliced]
  · refine ⟨.slice (some ⟨g, 0, none⟩) at' cap, .slice (some (if cap = at' then ⟨g, 0, none⟩ else ⟨g, at' * size, none⟩)) (n - at') (cap - at'), fun wx => ?_, fun wx => ?_, fun wx hk => ⟨.inr ⟨_, _, rfl, fun j u hj => ?_, fun u hu => h1 u (List.mem_of_mem_take hu)⟩, .inr ⟨_, _, rfl, fun j u hj => ?_, fun u hu => h1 u (List.mem_of_mem_drop hu)⟩⟩⟩
    · rw [run_slice_h wx t (some ⟨g, 0, none⟩) n cap hu .i64 _ (by omega) (by omega), hs]
      simp [Result.andThen, sliced, Addr.add]
    · rw [run_slice_l wx t (some ⟨g, 0, none⟩) n cap hu .i64 _ (by omega) (by omega), hs]
      simp [Result.andThen, sliced, Addr.add]
      by_cases h1 : cap = at'
      · simp [h1]
      · rw [if_neg h1, if_neg h1]
        by_cases h2 : at' * size = 0
        · rw [if_pos h2, h2]
        · rw [if_neg h2]
    · have hj2 : xs[j]? = some u := by
        rw [List.getElem?_take] at hj
        split at hj
        · exact hj
        · cases hj
      have e1 : (⟨g, 0, none⟩ : Addr).add j = ⟨g, j, none⟩ := by simp [Addr.add]; omega
      rw [e1, hk g j rfl]
      exact own_cells h j u hj2
    · rw [List.getElem?_drop] at hj
      have hlt : at' * size + j < xs.length := (List.getElem?_eq_some_iff.1 hj).1
      have hne : ¬ cap = at' := fun he => by
        have : n = at' := by omega
        rw [hlen, this] at hlt; omega
      rw [if_neg hne]
      have e1 : (⟨g, at' * size, none⟩ : Addr).add j = ⟨g, at' * size + j, none⟩ := by simp [Addr.add]; try omega
      rw [e1, hk g _ rfl]
      exact own_cells h _ u hj
end Go.Proofs.YtjmpekanlmepmaaGreatDoor
