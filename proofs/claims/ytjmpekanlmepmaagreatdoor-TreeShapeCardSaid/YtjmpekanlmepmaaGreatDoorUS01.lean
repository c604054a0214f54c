/- bodegalaw24.play: the moves, one after the other. -/
import Derived.Test.YtjmpekanlmepmaaGreatDoorB46
import Derived.Test.YtjmpekanlmepmaaGreatDoorB05
import Derived.Test.YtjmpekanlmepmaaGreatDoorB06
import Derived.Test.YtjmpekanlmepmaaGreatDoorB20
set_option linter.all false
namespace Go.Proofs.YtjmpekanlmepmaaGreatDoor
open Go.RowKit
theorem MvRow.below {w w' : World} {p : Option Addr} {ms : List Mv} (h : MvRow w p ms) (hb : Below w.heap.size w w') : MvRow w' p ms := by
 refine ⟨h.rng, ?_⟩
 rcases h.form with h1 | ⟨b, o, hp, hlt, hc⟩
 · exact .inl h1
 · exact .inr ⟨b, o, hp, Nat.lt_of_lt_of_le hlt hb.size, fun i m hi => by
     obtain ⟨h1, h2, h3⟩ := hc i m hi
     exact ⟨(hb.cell (p := ⟨b, o + i * 3, none⟩) hlt).trans h1, (hb.cell (p := ⟨b, o + i * 3 + 1, none⟩) hlt).trans h2, (hb.cell (p := ⟨b, o + i * 3 + 2, none⟩) hlt).trans h3⟩⟩
def PlayLoop (x P cap n : Nat) (w0 : World) (i : Value) (wr : World) : Prop :=
 ∃ k : Nat, k ≤ n ∧ i = .int .i64 k ∧ Hid (∃ ps nx es T, PlayAt x P cap k w0 wr ps nx es T)
def PlayPost (n : Nat) (w : World) (e : Ending) (w' : World) : Prop :=
 ∃ x P cap ps nx es T, e = .returned (.pointer (some ⟨x, 0, none⟩)) ∧ PlayAt x P cap n w w' ps nx es T
set_option maxRecDepth 10000 in
set_option maxHeartbeats 4000000 in
theorem play_any (pl : Option Addr) (cl : Nat) (ms : List Mv) (w : World) (hn : NoneAt w) (hl : MvRow w pl ms) (hm70 : ms.length ≤ 70) :
 Calls Tryz.prog 26 #[.slice pl ms.length cl] w (PlayPost ms.length w) := by
 have HN := Lib.hid hn
 have HL := Lib.hid hl
 clear hn hl
 go_enter Tryz.func26, Tryz.ntmps26
 go_wp2_with fail
 go_at_call 22; refine (begin_any _).mono ?_
 rintro e0 w0 ⟨x, P, cap, rfl, hwP, hPx, hbx, hox, hb0⟩
 have hgl := HN.out.lt
 have HP0 : Hid (∃ ps nx es T, PlayAt x P cap 0 w w0 ps nx es T) := Lib.hid ⟨pg0, 105, [], [], Bt.Inv.start, ⟨0, 0, Nat.le_refl _, Bt.Cnt.start⟩, IxG.start hbx hox hPx (by omega) (HN.out.below hb0), qL, by omega⟩
 clear hbx hox hb0 hgl
 go_wp2_with fail
 go_loopw [4] (fun i wr => PlayLoop x P cap ms.length w i wr) (fun i _ => ((ms.length : Int) - intOf i).toNat)
 case atStart => exact ⟨0, Nat.zero_le _, rfl, HP0⟩
 case round =>
  obtain ⟨k, hk, rfl, HQ⟩ := hrel
  clear HP0
  by_cases hk2 : k < ms.length
  · obtain ⟨ps, nx, es, T, hs⟩ := HQ.out
    obtain ⟨ins, K, hi1, hi2⟩ := hs.cnt
    obtain ⟨m, hm⟩ : ∃ m, ms[k]? = some m := ⟨_, List.getElem?_eq_getElem hk2⟩
    obtain ⟨r1, r2, r3⟩ := HL.out.rng m (List.mem_of_getElem? hm)
    obtain ⟨ps', nx', es', T', hmv, hdo⟩ := do_any hs.inv hi2 (by omega) (x := x) (P := P) (cap := cap) (G := k) (by omega) m.kind m.key m.level (k : Int) r1 r2 r3 ⟨by omega, by omega⟩
    have hform : ∃ b o, pl = some ⟨b, o, none⟩ ∧ b < w.heap.size ∧ ∀ i m, ms[i]? = some m → w.cell? ⟨b, o + i * 3, none⟩ = some (.int .i64 m.kind) ∧ w.cell? ⟨b, o + i * 3 + 1, none⟩ = some (.int .i64 m.key) ∧ w.cell? ⟨b, o + i * 3 + 2, none⟩ = some (.int .i64 m.level) := by
     rcases HL.out.form with h0 | h0
     · rw [h0] at hk2; simp at hk2
     · exact h0
    obtain ⟨bl, ol, rfl, hbl, hcl⟩ := hform
    obtain ⟨q0, q1, q2⟩ := hcl k m hm
    have c0 : wr.cell? ⟨bl, ol + k * 3, none⟩ = some (.int .i64 m.kind) := (hs.below.cell (p := ⟨bl, ol + k * 3, none⟩) hbl).trans q0
    have c1 : wr.cell? ⟨bl, ol + k * 3 + 1, none⟩ = some (.int .i64 m.key) := (hs.below.cell (p := ⟨bl, ol + k * 3 + 1, none⟩) hbl).trans q1
    have c2 : wr.cell? ⟨bl, ol + k * 3 + 2, none⟩ = some (.int .i64 m.level) := (hs.below.cell (p := ⟨bl, ol + k * 3 + 2, none⟩) hbl).trans q2
    have HDO := Lib.hid hdo
    have HS := Lib.hid hs
    have HMV := Lib.hid hmv
    have HPL := Lib.hid (hmv.len hs.inv)
    have hMs : w.heap.size ≤ wr.heap.size := hs.below.size
    have hMP : w.heap.size ≤ P := hs.low
    have kx0 : wr.cell? ⟨x, 0, none⟩ = some (.slice (some ⟨P, 0, none⟩) ps.length cap) := by obtain ⟨_, _, _, ho, _⟩ := hs.ix; exact ho.blk.cell 0
    have hxw : x < wr.heap.size := by obtain ⟨_, _, _, ho, _⟩ := hs.ix; exact ho.blk.lt
    have bk : decide ((k : Int) < ms.length) = true := by simp; omega
    have bk0 : (0 : Int) ≤ k := by omega
    have bk1 : (k : Int) < ms.length := by omega
    have wk1 : IntKind.i64.wrap ((k : Int) + 1) = (k : Int) + 1 := by rw [IntKind.wrap_i64]; omega
    clear hs hdo hmv hcl q0 q1 q2 hm hi1 hi2 r1 r2 r3
    go_wp2_with fail
    go_at_call 23; refine (HDO.out _ (HS.out.ix.over qL)).mono ?_
    rintro e2 w2 ⟨rfl, hix2, hf2⟩
    have HIX2 := Lib.hid hix2
    have HF2 := Lib.hid ((FrameP.of_below (show Below wr.heap.size wr _ from qL)).trans hf2)
    clear hix2 hf2
    go_wp2_with fail
    refine ⟨⟨k + 1, by omega, by rw [show ((k : Int) + 1) = ((k + 1 : Nat) : Int) by omega], Lib.hid ⟨ps', nx', es', T', (HS.out.moved HMV.out HIX2.out HF2.out).over qL⟩⟩, by simp [intOf]; omega⟩
  · have bk : decide ((k : Int) < ms.length) = false := by simp; omega
    have hkl : k = ms.length := by omega
    have HS := Lib.hid (hkl ▸ HQ.out)
    clear hkl HQ
    go_wp2_with fail
    refine bodyPost_ret (results_tmp rfl _ _ _) rfl ?_
    obtain ⟨ps, nx, es, T, hs⟩ := HS.out
    exact ⟨x, P, cap, ps, nx, es, T, rfl, hs.over qL⟩
end Go.Proofs.YtjmpekanlmepmaaGreatDoor
namespace Go.Proofs.YtjmpekanlmepmaaGreatDoor.Bt
/-- A node of a level, with what lies left of it. -/
structure NodeFits (l : Int) (A : List Cell) (n : Node) : Prop where
 level : n.level = l
 left : n.leftmost = A.isEmpty
 dead : n.dead = true → l = 0 ∧ A.isEmpty = false ∧ n.entries = []
 keys : n.dead = false → ∀ e ∈ n.entries, lowAfter 0 A < e.key ∧ e.key ≤ n.high
 high : n.dead = false → lowAfter 0 A < n.high
theorem Level.fits {l : Int} {A R : List Cell} {x : Cell} (h : Level l (A ++ x :: R)) : NodeFits l A x.2 := by
 have hl := h.level x (by simp)
 have hv := Node.valid_parts (h.valid x (by simp))
 have hle : x.2.leftmost = A.isEmpty := by
  have := (Lefts.append.1 h.lefts).2
  simpa using this.1
 have hr := (Rise.append.1 h.rise).2
 refine ⟨hl, hle, fun hd => ?_, fun hd e he => ?_, fun hd => ?_⟩
 · obtain ⟨h1, h2, h3, _⟩ := hv.2.2.2.2.2.2.2.2.1 hd
   exact ⟨by omega, by rw [← hle]; exact h3, h2⟩
 · unfold Rise at hr
   rw [if_neg (by rw [hd]; simp)] at hr
   have h2 := rising_le_last hv.2.2.2.1 e he
   have h3 := hv.2.2.2.2.2.2.2.1
   exact ⟨hr.2.1 e he, by omega⟩
 · unfold Rise at hr
   rw [if_neg (by rw [hd]; simp)] at hr
   exact hr.1
theorem Level.end_ {l : Int} {c : List Cell} (h : Level l c) : lowAfter 0 c = maxHigh := by
 obtain ⟨a, x, rfl, _, h2, h3⟩ := Chain.last h.chain h.valid h.ne
 rw [lowAfter_append, lowAfter_live _ h3, h2]
/-- The first entry of a level names the first node of the level below. -/
theorem Levels.first {up lo : List Cell} {t : List (List Cell)} (h : Levels (up :: lo :: t)) (hn : Links (up :: lo :: t)) : ∃ x r e es y r2, up = x :: r ∧ x.2.entries = e :: es ∧ lo = y :: r2 ∧ e.to = ptr y.1 := by
 obtain ⟨x, r, rfl⟩ : ∃ x r, up = x :: r := by
  cases up with
  | nil => exact absurd rfl h.1.ne
  | cons x r => exact ⟨x, r, rfl⟩
 have hlev := h.1.level x (by simp)
 have hv := Node.valid_parts (h.1.valid x (by simp))
 obtain ⟨e, es, he⟩ : ∃ e es, x.2.entries = e :: es := by
  cases hx : x.2.entries with
  | nil =>
    have h1 := hv.2.2.2.2.2.2.2.2.2.1 (by rw [hlev]; simp only [List.length_cons]; omega)
    rw [hx] at h1
    exact absurd h1.symm hv.2.2.2.2.1
  | cons e es => exact ⟨e, es, rfl⟩
 have hnm := hn.1
 rw [ents_cons, he] at hnm
 obtain ⟨a, tt, b, h1, h2, h3, h4⟩ := hnm.1
 refine ⟨x, r, e, es, tt, b, rfl, he, ?_, h2⟩
 cases a with
 | nil => exact h1
 | cons y a =>
   exfalso
   have h5 := h.2.1
   rw [h1] at h5
   have h6 := (Level.first (x := y) (r := a ++ tt :: b) h5).1
   have h7 := (Rise.append.1 h5.rise).1
   have h8 := h7
   unfold Rise at h8
   rw [if_neg (by rw [h6]; simp)] at h8
   have h9 := (Rise.low h8.2.2).1
   have : lowAfter 0 (y :: a) = lowAfter y.2.high a := by simp [lowAfter, h6]
   omega
/-- Where the entries of a node stand among those of its level. -/
theorem ents_at {A R : List Cell} {x : Cell} {j : Nat} (h : j < x.2.entries.length) : (ents (A ++ x :: R))[(ents A).length + j]? = some x.2.entries[j] := by
 rw [ents_append, ents_cons, List.getElem?_append_right (by omega), List.getElem?_append_left (by omega)]
 rw [show (ents A).length + j - (ents A).length = j from by omega]
 exact List.getElem?_eq_getElem h
theorem ents_dead (A : List Cell) {x : Cell} (h : x.2.entries = []) : (ents (A ++ [x])).length = (ents A).length := by
 rw [ents_append, ents_cons, h]; simp [ents_nil]
theorem ents_next (A : List Cell) (x : Cell) : (ents (A ++ [x])).length = (ents A).length + x.2.entries.length := by
 rw [ents_append, ents_cons]; simp [ents_nil]
theorem Sees.found {known : List Page} {l : Int} {n : Node} (h : Sees known l n) (b : Bool) : lookup known (ptr l) 4 b = .found (pg known l) := by
 unfold lookup
 rw [if_pos h.valid]
 have e1 : latest known (ptr l).line = some (pg known l) := h.here
 rw [e1]
 have h1 := h.kind
 have h2 := h.gen
 have h3 := h.free
 simp [h1, h2, h3, ptr]
end Go.Proofs.YtjmpekanlmepmaaGreatDoor.Bt
namespace Go.Proofs.YtjmpekanlmepmaaGreatDoor
open Go.RowKit
theorem own_held {w w' : World} {base n size : Nat} {e : TypeId} {v : Value} {o : Option Nat} {xs : List Value} (h : w.ownsRow base e size v n xs) (hg : w.grownBy w' o) (hn : ∀ c, v.ownBlock = some c → o ≠ some c) : w'.ownsRow base e size v n xs :=
 h.kept hg (by
  rcases hv : v.ownBlock with _ | c
  · exact .inl rfl
  · exact .inr (fun e => hn c hv e.symm))
theorem own_shape {w : World} {base n size : Nat} {e : TypeId} {v : Value} {xs : List Value} (h : w.ownsRow base e size v n xs) : ∃ p cap, v = .slice p n cap := by
 rcases h.2 with ⟨rfl, h0⟩ | ⟨g, cap, _, hv, _⟩
 · exact ⟨none, 0, by rw [h0]⟩
 · exact ⟨_, cap, hv⟩
theorem infoNode : (Tryz.prog.info? 73).map (fun i => (i.zero, i.size, i.bytes)) = some (some (.agg #[.int .i64 0, .bool false, .bool false, .int .u32 0, .int .i64 0, .int .i64 0, .slice none 0 0]), 7, 56) := by kernel_rfl
def nodeRows : List Bt.Cell → List Value → List Value
 | c :: cs, u :: us => (nodeCells c.2 u).toList ++ nodeRows cs us
 | _, _ => []
theorem nodeRows_snoc (a : List Bt.Cell) (us : List Value) (c : Bt.Cell) (u : Value) (h : us.length = a.length) : nodeRows (a ++ [c]) (us ++ [u]) = nodeRows a us ++ (nodeCells c.2 u).toList := by
 induction a generalizing us with
 | nil =>
   cases us with
   | nil => simp [nodeRows]
   | cons x us => simp at h
 | cons x a ih =>
   cases us with
   | nil => simp at h
   | cons y us => simp only [List.cons_append, nodeRows]; rw [ih us (by simpa using h), List.append_assoc]
theorem nodeRows_get (a : List Bt.Cell) (us : List Value) (h : us.length = a.length) (i : Nat) (c : Bt.Cell) (u : Value) (hc : a[i]? = some c) (hu : us[i]? = some u) (j : Nat) (x : Value) (hx : (nodeCells c.2 u)[j]? = some x) : (nodeRows a us)[i * 7 + j]? = some x := by
 induction a generalizing us i with
 | nil => simp at hc
 | cons y a ih =>
   cases us with
   | nil => simp at h
   | cons z us =>
     simp only [nodeRows]
     have h7 : ∀ (m : Bt.Node) (v : Value), (nodeCells m v).toList.length = 7 := fun _ _ => rfl
     cases i with
     | zero =>
       obtain rfl : y = c := by simpa using hc
       obtain rfl : z = u := by simpa using hu
       have hj : j < 7 := (Array.getElem?_eq_some_iff.1 hx).1
       rw [Nat.zero_mul, Nat.zero_add, List.getElem?_append_left (by rw [h7]; exact hj), Array.getElem?_toList]
       exact hx
     | succ i =>
       rw [List.getElem?_append_right (by rw [h7]; omega), h7, show (i + 1) * 7 + j - 7 = i * 7 + j by omega]
       exact ih us (by simpa using h) i (by simpa using hc) (by simpa using hu)
/-- The same block cannot be a row of two kinds. -/
theorem own_kinds {w : World} {b1 b2 s1 s2 n1 n2 : Nat} {e1 e2 : TypeId} {v1 v2 : Value} {x1 x2 : List Value} (h1 : w.ownsRow b1 e1 s1 v1 n1 x1) (h2 : w.ownsRow b2 e2 s2 v2 n2 x2) (he : e1 ≠ e2) : ∀ c, v1.ownBlock = some c → v2.ownBlock ≠ some c := by
 intro c hc hc2
 rcases h1.2 with ⟨rfl, _⟩ | ⟨g, cap, cur, rfl, _, hg, _⟩
 · simp [Value.ownBlock] at hc
 · rcases h2.2 with ⟨rfl, _⟩ | ⟨g2, cap2, cur2, rfl, _, hg2, _⟩
   · simp [Value.ownBlock] at hc2
   · simp only [Value.ownBlock, Option.some.injEq] at hc hc2
     subst hc
     rw [← hc2, hg2] at hg
     simp only [Option.some.injEq, Obj.cells.injEq] at hg
     exact he hg.2.1.symm
structure NodesAt (base : Nat) (vn : Value) (cells : List Bt.Cell) (us : List Value) (w : World) : Prop where
 len : us.length = cells.length
 own : w.ownsRow base 73 7 vn cells.length (nodeRows cells us)
 rows : ∀ (i : Nat) (c : Bt.Cell) (u : Value), cells[i]? = some c → us[i]? = some u → w.ownsRow base 69 3 u c.2.entries.length (entCells c.2.entries)
theorem nodeTypes : (69 : TypeId) ≠ 73 ∧ (69 : TypeId) ≠ 27 ∧ (27 : TypeId) ≠ 73 := by decide
theorem NodesAt.nil (base : Nat) (w : World) : NodesAt base (.slice none 0 0) [] [] w := ⟨rfl, World.ownsRow_nil _ _ _ _, fun i c u hc => by simp at hc⟩
theorem NodesAt.below {base : Nat} {vn : Value} {cells : List Bt.Cell} {us : List Value} {w w' : World} (h : NodesAt base vn cells us w) (hb : Below w.heap.size w w') : NodesAt base vn cells us w' :=
 ⟨h.len, own_below h.own hb, fun i c u hc hu => own_below (h.rows i c u hc hu) hb⟩
/-- Another row has grown. -/
theorem NodesAt.other {base b2 n2 : Nat} {vn vp : Value} {cells : List Bt.Cell} {us xs : List Value} {w w' : World} (h : NodesAt base vn cells us w) (hp : w.ownsRow b2 27 2 vp n2 xs) (hg : w.grownBy w' vp.ownBlock) : NodesAt base vn cells us w' :=
 ⟨h.len, own_held h.own hg (fun c hc e => own_kinds hp h.own nodeTypes.2.2 c e hc), fun i c u hc hu => own_held (h.rows i c u hc hu) hg (fun d hd e => own_kinds (h.rows i c u hc hu) hp nodeTypes.2.1 d hd e)⟩
/-- A node is appended. -/
theorem NodesAt.snoc {base : Nat} {vn vn' : Value} {cells : List Bt.Cell} {us : List Value} {c : Bt.Cell} {u : Value} {w w' : World} (h : NodesAt base vn cells us w) (hu : w.ownsRow base 69 3 u c.2.entries.length (entCells c.2.entries)) (hg : w.grownBy w' vn.ownBlock)
 (ho : w'.ownsRow base 73 7 vn' (cells.length + 1) (nodeRows cells us ++ (nodeCells c.2 u).toList)) : NodesAt base vn' (cells ++ [c]) (us ++ [u]) w' := by
 have hk : ∀ {m : Nat} {z : Value} {ys : List Value}, w.ownsRow base 69 3 z m ys → w'.ownsRow base 69 3 z m ys := fun hz => own_held hz hg (fun d hd e => own_kinds hz h.own nodeTypes.1 d hd e)
 refine ⟨by simp [h.len], ?_, fun i d z hd hz => ?_⟩
 · rw [nodeRows_snoc _ _ _ _ h.len]
   simpa using ho
 · by_cases hi : i < cells.length
   · rw [List.getElem?_append_left hi] at hd
     rw [List.getElem?_append_left (by rw [h.len]; exact hi)] at hz
     exact hk (h.rows i d z hd hz)
   · have hi2 : i = cells.length := by
       have := (List.getElem?_eq_some_iff.1 hd).1
       simp at this; omega
     subst hi2
     rw [List.getElem?_append_right (Nat.le_refl _), Nat.sub_self] at hd
     rw [← h.len, List.getElem?_append_right (Nat.le_refl _), Nat.sub_self] at hz
     obtain rfl : c = d := by simpa using hd
     obtain rfl : u = z := by simpa using hz
     exact hk hu
theorem NodesAt.seven {base g cap : Nat} {cells : List Bt.Cell} {us : List Value} {w : World} (h : NodesAt base (.slice (some ⟨g, 0, none⟩) cells.length cap) cells us w) {i : Nat} {c : Bt.Cell} (hc : cells[i]? = some c) :
 ∃ u, w.ownsRow base 69 3 u c.2.entries.length (entCells c.2.entries) ∧ w.cell? ⟨g, i * 7, none⟩ = some (.int .i64 c.2.level) ∧ w.cell? ⟨g, i * 7 + 1, none⟩ = some (.bool c.2.leftmost) ∧ w.cell? ⟨g, i * 7 + 2, none⟩ = some (.bool c.2.dead) ∧ w.cell? ⟨g, i * 7 + 3, none⟩ = some (.int .u32 c.2.high) ∧
  w.cell? ⟨g, i * 7 + 4, none⟩ = some (.int .i64 c.2.right.line) ∧ w.cell? ⟨g, i * 7 + 5, none⟩ = some (.int .i64 c.2.right.gen) ∧ w.cell? ⟨g, i * 7 + 6, none⟩ = some u := by
 have hi := (List.getElem?_eq_some_iff.1 hc).1
 obtain ⟨u, hu⟩ : ∃ u, us[i]? = some u := ⟨_, List.getElem?_eq_getElem (by rw [h.len]; exact hi)⟩
 have hx : ∀ j z, (nodeCells c.2 u)[j]? = some z → w.cell? ⟨g, i * 7 + j, none⟩ = some z := fun j z hz => own_cells h.own _ _ (nodeRows_get cells us h.len i c u hc hu j z hz)
 exact ⟨u, h.rows i c u hc hu, hx 0 _ rfl, hx 1 _ rfl, hx 2 _ rfl, hx 3 _ rfl, hx 4 _ rfl, hx 5 _ rfl, hx 6 _ rfl⟩
theorem NodesAt.base {base base' : Nat} {vn : Value} {cells : List Bt.Cell} {us : List Value} {w : World} (h : NodesAt base vn cells us w) (hb : base' ≤ base) : NodesAt base' vn cells us w :=
 ⟨h.len, own_base h.own hb, fun i c u hc hu => own_base (h.rows i c u hc hu) hb⟩
def ptrsOf (lv : List Bt.Cell) : List Bt.Ptr := lv.map (fun c => Bt.ptr c.1)
def lenOf : Value → Nat
 | .slice _ n _ => n
 | _ => 0
structure LevAt (lv : List Bt.Cell) (k : Nat) (vn vp : Value) (w wr : World) : Prop where
 ptr : Blk wr w.heap.size 27 (Bt.headPtr (lv.drop k) Bt.nilP).cells
 nodes : ∃ us, NodesAt (w.heap.size + 1) vn (lv.take k) us wr
 at_ : wr.ownsRow (w.heap.size + 1) 27 2 vp k (ptrCells (ptrsOf (lv.take k)))
 below : Below w.heap.size w wr
 len : lenOf vn = k
def LevRel (lv : List Bt.Cell) (w : World) (vn vp : Value) (wr : World) : Prop := ∃ k : Nat, k ≤ lv.length ∧ Hid (LevAt lv k vn vp w wr)
def LevPost (lv : List Bt.Cell) (w : World) (e : Ending) (w' : World) : Prop :=
 ∃ vn vp us, e = .returned (.tuple #[vn, vp, .bool true]) ∧ NodesAt w.heap.size vn lv us w' ∧ w'.ownsRow w.heap.size 27 2 vp lv.length (ptrCells (ptrsOf lv)) ∧ Below w.heap.size w w'
theorem own_ptrs {w : World} {base k : Nat} {vp : Value} {lv : List Bt.Cell} (h : w.ownsRow base 27 2 vp k (ptrCells (ptrsOf (lv.take k)))) (hk : k ≤ lv.length) : w.ownsRow base 27 2 vp (ptrsOf (lv.take k)).length (ptrCells (ptrsOf (lv.take k))) := by
 have e : (ptrsOf (lv.take k)).length = k := by unfold ptrsOf; rw [List.length_map, List.length_take]; omega
 rw [e]; exact h
structure LevMid (b c k : Nat) (l : Int) (n : Bt.Node) (u vn vp : Value) (cells : List Bt.Cell) (ptrs : List Bt.Ptr) (us : List Value) (w wx : World) : Prop where
 nodes : NodesAt (w.heap.size + 1) vn cells us wx
 at_ : wx.ownsRow (w.heap.size + 1) 27 2 vp ptrs.length (ptrCells ptrs)
 row : wx.ownsRow (w.heap.size + 1) 69 3 u n.entries.length (entCells n.entries)
 bb : Blk wx b 27 #[.int .i64 l, .int .i64 1]
 bc : Blk wx c 73 (nodeCells n u)
 below : Below w.heap.size w wx
 hb : b = w.heap.size
 hc : vn.ownBlock ≠ some c
/-- What a region that appends needs of memory. -/
structure SteadyLev (b c : Nat) (cb cc : Array Value) (wx : World) : Prop where
 rule : (∀ i, wx.cell? ⟨b, i, none⟩ = cb[i]?) ∧ (∀ i, wx.cell? ⟨c, i, none⟩ = cc[i]?)
section
variable {b c k : Nat} {l : Int} {n : Bt.Node} {u vn vp : Value} {cells : List Bt.Cell} {ptrs : List Bt.Ptr} {us : List Value} {w wx wy : World}
theorem LevMid.steady (h : LevMid b c k l n u vn vp cells ptrs us w wx) : SteadyLev b c #[.int .i64 l, .int .i64 1] #[.int .i64 n.level, .bool n.leftmost, .bool n.dead, .int .u32 n.high, .int .i64 n.right.line, .int .i64 n.right.gen, u] wx := ⟨h.bb.cell, h.bc.cell⟩
theorem LevMid.mono (h : LevMid b c k l n u vn vp cells ptrs us w wx) (hb : Below wx.heap.size wx wy) : LevMid b c k l n u vn vp cells ptrs us w wy :=
 ⟨h.nodes.below hb, own_below h.at_ hb, own_below h.row hb, h.bb.kept hb, h.bc.kept hb, below_step h.below hb, h.hb, h.hc⟩
structure LevMid2 (b c : Nat) (l : Int) (n : Bt.Node) (u vn vp : Value) (cells : List Bt.Cell) (ptrs : List Bt.Ptr) (w wx : World) : Prop where
 nodes : ∃ us, NodesAt (w.heap.size + 1) vn cells us wx
 at_ : wx.ownsRow (w.heap.size + 1) 27 2 vp ptrs.length (ptrCells ptrs)
 bb : Blk wx b 27 #[.int .i64 l, .int .i64 1]
 bc : Blk wx c 73 (nodeCells n u)
 below : Below w.heap.size w wx
 hb : b = w.heap.size
theorem LevMid2.steady (h : LevMid2 b c l n u vn vp cells ptrs w wx) : SteadyLev b c #[.int .i64 l, .int .i64 1] #[.int .i64 n.level, .bool n.leftmost, .bool n.dead, .int .u32 n.high, .int .i64 n.right.line, .int .i64 n.right.gen, u] wx := ⟨h.bb.cell, h.bc.cell⟩
theorem LevMid2.mono (h : LevMid2 b c l n u vn vp cells ptrs w wx) (hb : Below wx.heap.size wx wy) : LevMid2 b c l n u vn vp cells ptrs w wy := by
 obtain ⟨us, hN⟩ := h.nodes
 exact ⟨⟨us, hN.below hb⟩, own_below h.at_ hb, h.bb.kept hb, h.bc.kept hb, below_step h.below hb, h.hb⟩
theorem LevMid.node (h : LevMid b c k l n u vn vp cells ptrs us w wx) {vn' : Value} (ho : wy.ownsRow (w.heap.size + 1) 73 7 vn' (cells.length + 1) (nodeRows cells us ++ (nodeCells n u).toList)) (hg : wx.grownBy wy vn.ownBlock) : LevMid2 b c l n u vn' vp (cells ++ [(l, n)]) ptrs w wy :=
 ⟨⟨us ++ [u], NodesAt.snoc (c := (l, n)) h.nodes h.row hg ho⟩, own_held h.at_ hg (fun d hd e => own_kinds h.at_ h.nodes.own nodeTypes.2.2 d hd e), h.bb.grown hg (fun e => by have := own_row_ge h.nodes.own _ e.symm; have := h.hb; omega), h.bc.grown hg (fun e => h.hc e.symm), below_grown h.below hg (fun j hj => by have := own_row_ge h.nodes.own j hj; omega), h.hb⟩
theorem LevMid2.pointer (h : LevMid2 b c l n u vn vp cells ptrs w wx) {vp' : Value} {ptrs' : List Bt.Ptr} (ho : wy.ownsRow (w.heap.size + 1) 27 2 vp' ptrs'.length (ptrCells ptrs')) (hg : wx.grownBy wy vp.ownBlock) : LevMid2 b c l n u vn vp' cells ptrs' w wy := by
 obtain ⟨us, hN⟩ := h.nodes
 refine ⟨⟨us, hN.other h.at_ hg⟩, ho, h.bb.grown hg (fun e => by have := own_row_ge h.at_ _ e.symm; have := h.hb; omega), h.bc.grown hg (fun e => ?_), below_grown h.below hg (fun j hj => by have := own_row_ge h.at_ j hj; omega), h.hb⟩
 rcases h.at_.2 with ⟨h1, _⟩ | ⟨g, cap, cur, h1, _, hg2, _⟩
 · rw [h1] at e; cases e
 · rw [h1] at e
   simp only [Value.ownBlock, Option.some.injEq] at e
   subst e
   have h2 := h.bc
   unfold Blk at h2
   rw [hg2] at h2
   simp only [Option.some.injEq, Obj.cells.injEq] at h2
   exact nodeTypes.2.2 h2.2.1
theorem LevMid2.done (h : LevMid2 b c l n u vn vp cells ptrs w wx) {lv : List Bt.Cell} {k : Nat} (hk : k ≤ lv.length) (hc : cells = lv.take k) (hp : ptrs = ptrsOf (lv.take k)) (hr : n.right = Bt.headPtr (lv.drop k) Bt.nilP) :
 LevAt lv k vn vp w ((wx.setCell ⟨b, 0, none⟩ (.int .i64 n.right.line)).setCell ⟨b, 1, none⟩ (.int .i64 n.right.gen)) := by
 obtain ⟨us, hN⟩ := h.nodes
 have hb := h.hb
 have hlen : cells.length = k := by rw [hc, List.length_take]; omega
 have hpl : ptrs.length = k := by rw [hp]; unfold ptrsOf; rw [List.length_map, List.length_take]; omega
 have h2 : ∀ {e : TypeId} {m size : Nat} {z : Value} {ys : List Value}, wx.ownsRow (w.heap.size + 1) e size z m ys → ((wx.setCell ⟨b, 0, none⟩ (.int .i64 n.right.line)).setCell ⟨b, 1, none⟩ (.int .i64 n.right.gen)).ownsRow (w.heap.size + 1) e size z m ys := fun hz => by
  have hnb := own_not hz (show w.heap.size < w.heap.size + 1 by omega)
  rw [← hb] at hnb
  exact own_set (own_set hz hnb _) hnb _
 have hbl : Below w.heap.size w ((wx.setCell ⟨b, 0, none⟩ (.int .i64 n.right.line)).setCell ⟨b, 1, none⟩ (.int .i64 n.right.gen)) := by
  have := h.below
  exact qL
 refine ⟨?_, ⟨us, hc ▸ ⟨hN.len, h2 hN.own, fun i c u hc hu => h2 (hN.rows i c u hc hu)⟩⟩, ?_, hbl, ?_⟩
 · rw [← hr, ← hb]
   exact h.bb.all2 _ _
 · have := h2 h.at_
   rw [hpl, hp] at this
   exact this
 · obtain ⟨p, cap, rfl⟩ := own_shape hN.own
   exact hlen
end
set_option maxRecDepth 20000 in
theorem lev_end {P : Prop} (h : P := by
 refine qS [8, 9] ?_
 iterate 2 (refine qT ?_; simp only [Act.put, qY])
 refine TakeSeq.done ?_
 refine qD ?_ _
 have hb4 := HM4.out.bb
 have hc4 := HM4.out.bc
 have kb4 := hb4.cell
 have fb4 := hb4.free
 have kc4 : ∀ i, w4.cell? ⟨w2.heap.size, i, none⟩ = (#[.int .i64 n.level, .bool n.leftmost, .bool n.dead, .int .u32 n.high, .int .i64 n.right.line, .int .i64 n.right.gen, v] : Array Value)[i]? := hc4.cell
 have lb4 := hb4.lt
 have lc4 := hc4.lt
 clear hb4 hc4
 go_wp2_with fail
 rw [hpl] at HM4
 refine ⟨⟨k + 1, hkl, Lib.hid (HM4.out.done hkl HTK.out.symm (by rw [HTK.out]; simp [ptrsOf]) HD.out)⟩, ?_⟩
 show lv.length - (k + 1) < lv.length - (lv.take k).length
 omega) : P := h
set_option maxRecDepth 20000 in
theorem lev_b {P : Prop} (h : P := by
 refine qH 7 fun K hK => ?_
 refine wp_append_mine (.tmp 51) (.tmp 53) 56 rfl (w.heap.size + 1) 27 i1 _ 2 16 Tryz.underlying56 hi1 hz10 hz11 hz12 rfl (by decide) u8 (ptrsOf (lv.take k)).length (ptrCells (ptrsOf (lv.take k))) rfl HMB.out.at_ _ 1 1
  [.int .i64 l, .int .i64 1] rfl rfl (nine_news (cs := #[.int .i64 l, .int .i64 1]) BQB) (by intro u hu; simp at hu; rcases hu with rfl | rfl <;> rfl) (by omega) (by unfold maxLen; omega) (by omega) (by have := HMB.out.below.size; have := HMB.out.bb.lt; have := HMB.out.hb; omega) ?_
 intro g4 cap4 w4 hown4 hg4
 have HM4 := Lib.hid (HMB.out.pointer (ptrs' := ptrsOf (lv.take k) ++ [Bt.ptr l]) (by rw [List.length_append, ptrCells_append]; exact hown4) hg4)
 refine hK.out _ _ HM4.out.steady (fun hHeld => ?_)
 clear hK K
 simp only [Act.put, qY]
 clear hown4 hg4
 exact lev_end) : P := h
set_option maxRecDepth 20000 in
theorem lev_a {P : Prop} (h : P := by
 refine qH 3 fun K hK => ?_
 refine wp_append_mine (.tmp 47) (.tmp 49) 77 rfl (w.heap.size + 1) 73 i0 _ 7 56 Tryz.underlying77 hi hz0 hz1 hz2 rfl (by decide) (.slice pn k cn) k (nodeRows (lv.take k) us) rfl (own_cast HMA.out.nodes.own htl rfl) _ 1 1
  [.int .i64 n.level, .bool n.leftmost, .bool n.dead, .int .u32 n.high, .int .i64 n.right.line, .int .i64 n.right.gen, v] rfl rfl (nine_news (cs := #[.int .i64 n.level, .bool n.leftmost, .bool n.dead, .int .u32 n.high, .int .i64 n.right.line, .int .i64 n.right.gen, v]) BQA) (by intro u hu; simp at hu; rcases hu with rfl | rfl | rfl | rfl | rfl | rfl | rfl <;> first | rfl | exact own_one HMA.out.row) (by omega) (by unfold maxLen; omega) (by omega) (by have := HMA.out.below.size; have := HMA.out.bb.lt; have := HMA.out.hb; omega) ?_
 intro g3 cap3 w3 hown3 hg3
 have HM3 := Lib.hid (HMA.out.node (by rw [htl]; exact hown3) hg3)
 refine hK.out _ _ HM3.out.steady (fun hHeld => ?_)
 clear hK K
 simp only [Act.put, qY]
 have BQB := BP1.grown hg3 (fun e => by have := own_lt' HNO.out.own _ e.symm; have := hwrz.size; omega)
 have HMB := HM3
 clear hown3 hg3
 exact lev_b) : P := h
set_option maxRecDepth 10000 in
set_option maxHeartbeats 4000000 in
theorem level_any (x P cap : Nat) (ps : List Bt.Page) (lv : List Bt.Cell) (w : World) (hk0 : w.cell? ⟨x, 0, none⟩ = some (.slice (some ⟨P, 0, none⟩) ps.length cap)) (hxw : x < w.heap.size) (hpg : PgRow w (.slice (some ⟨P, 0, none⟩) ps.length cap) ps) (hn : NoneAt w)
 (hch : Bt.Chain lv Bt.nilP) (hse : ∀ c ∈ lv, Bt.Sees ps c.1 c.2) (hsm : lv.length ≤ 151) :
 Calls Tryz.prog 29 #[.pointer (some ⟨x, 0, none⟩), .agg (Bt.headPtr lv Bt.nilP).cells] w (LevPost lv w) := by
 obtain ⟨i0, hi, hz0, hz1, hz2⟩ := info_parts infoNode
 obtain ⟨i1, hi1, hz10, hz11, hz12⟩ := info_parts infoPtr
 have HPG := Lib.hid hpg
 have HN := Lib.hid hn
 have HCH := Lib.hid hch
 have HSE := Lib.hid hse
 have ne := neq_ptr
 clear hpg hn hch hse
 unfold Bt.Ptr.cells
 go_enter Tryz.func29, Tryz.ntmps29
 go_wp2_with fail
 go_loopw [7, 8] (fun vn vp wr => LevRel lv w vn vp wr) (fun vn _ _ => lv.length - lenOf vn)
 case atStart => exact ⟨0, Nat.zero_le _, Lib.hid ⟨Blk.made _ _ _, ⟨[], NodesAt.nil _ _⟩, World.ownsRow_nil _ _ _ _, qL, rfl⟩⟩
 case round =>
  obtain ⟨k, hk, HA⟩ := hrel
  by_cases hkl : k < lv.length
  · obtain ⟨l, n, hcn⟩ : ∃ l n, lv[k] = (l, n) := ⟨_, _, rfl⟩
    have hd : lv.drop k = (l, n) :: lv.drop (k + 1) := by rw [List.drop_eq_getElem_cons hkl, hcn]
    have hs := HSE.out (l, n) (by rw [← hcn]; exact List.getElem_mem hkl)
    have hright : n.right = Bt.headPtr (lv.drop (k + 1)) Bt.nilP := by
     have h1 := HCH.out
     rw [← List.take_append_drop k lv, hd] at h1
     exact (Bt.Chain.append.1 h1).2.1
    have htake : lv.take (k + 1) = lv.take k ++ [(l, n)] := by rw [List.take_succ_eq_append_getElem hkl, hcn]
    obtain ⟨us, hN⟩ := HA.out.nodes
    have HNO := Lib.hid hN
    have HAT := Lib.hid HA.out.at_
    have HB := Lib.hid HA.out.below
    have kp : ∀ i, wr.cell? ⟨w.heap.size, i, none⟩ = (#[.int .i64 l, .int .i64 1] : Array Value)[i]? := by
     have := HA.out.ptr.cell
     rw [hd] at this
     exact this
    have hplt := HA.out.ptr.lt
    have BPT : Hid (Blk wr w.heap.size 27 #[.int .i64 l, .int .i64 1]) := Lib.hid (by have := HA.out.ptr; rw [hd] at this; exact this)
    have hp : peq l 1 0 0 = false := by
     have h1 := hs.lo
     unfold peq
     exact decide_eq_false (by omega)
    have hx0 : wr.cell? ⟨x, 0, none⟩ = some (.slice (some ⟨P, 0, none⟩) ps.length cap) := (HB.out.cell (p := ⟨x, 0, none⟩) hxw).trans hk0
    have HNR := Lib.hid hs.node
    have HL : Hid (Bt.lookup ps (Bt.ptr l) 4 true = .found (Bt.pg ps l)) := Lib.hid (hs.found true)
    have HPL : Hid ((Bt.pg ps l).node = n) := Lib.hid (Bt.readNode_isValid hs.node).2.1.symm
    have HOK : Hid ((Bt.pg ps l).Ok) := Lib.hid (HPG.out.ok _ (lookup_found_ok (hs.found true)))
    have HVN : Hid (lenOf u7 = k) := Lib.hid HA.out.len
    have HD := Lib.hid hright
    have HTK := Lib.hid htake
    have hxr : x < wr.heap.size := Nat.lt_of_lt_of_le hxw HB.out.size
    have HPG2 : Hid (PgRow wr (.slice (some ⟨P, 0, none⟩) ps.length cap) ps) := Lib.hid (HPG.out.below HB.out)
    have HN2 : Hid (NoneAt wr) := Lib.hid (HN.out.below HB.out)
    clear hd hs hright htake hN HA hcn
    go_wp2_with fail
    go_cut [9, 10, 11] from 14 to 56 (LookCut (.found (Bt.pg ps l)) wr)
    case first =>
     refine qA fun hSt => ?_
     refine qS [0, 1, 2, 3, 4] ?_
     iterate 5 (refine qT ?_; simp only [Act.put, qY])
     refine TakeSeq.done ?_
     refine wpAnyH_ready (rs := [5, 10]) (by kernel_rfl) (by simp) ?_
     refine AllReadyH.cons rfl (fun K hK => ?_) (AllReadyH.cons rfl (fun K hK => ?_) (AllReadyH.nil))
     · skip
       rw [if_pos (by rfl)]
       go_simp
       go_at_call 32; refine (Open_any ps _ (Bt.ptr l) _ _ ?hpg).mono ?_; (case hpg => exact HPG2.out.below qL); rintro e w1 ⟨rfl, hb⟩; rw [HL.out]; simp only [Bt.Look.page, Bt.Look.have_, Bt.Look.code, Bt.Page.cells]; ((obtain ⟨hc1, hf1, hs1⟩ := qR hb); (try have := qN0 wr w1); (try have := qN1 wr w1))
       go_wp2_with fail
       refine hK.out _ _ (SteadyAll.of qL) (fun hHeld => ?_)
       clear hK K
       refine qS [6, 7, 8, 9] ?_
       iterate 4 (refine qT ?_; simp only [Act.put, qY])
       refine TakeSeq.done ?_
       refine qH 10 fun K hK => ?_
       go_simp
       refine hK.out _ _ (SteadyAll.of qL) (fun hHeld => ?_)
       clear hK K
       refine qH 11 fun K hK => ?_
       go_simp
       refine hK.out _ _ (SteadyAll.of qL) (fun hHeld => ?_)
       clear hK K
       refine qS [12, 13] ?_
       iterate 2 (refine qT ?_; simp only [Act.put, qY])
       refine TakeSeq.done ?_
       refine qD ?_ _
       go_wp2_with fail
       go_meet
       exact ⟨_, rfl, by first | omega | (simp; omega), Blk.made _ _ _, rfl, rfl, qL⟩
     · skip
       rw [if_pos (by rfl)]
       go_simp
       refine hK.out _ _ (SteadyAll.of qL) (fun hHeld => ?_)
       clear hK K
       refine qH 5 fun K hK => ?_
       go_simp
       go_at_call 32; refine (Open_any ps _ (Bt.ptr l) _ _ ?hpg2).mono ?_; (case hpg2 => exact HPG2.out.below qL); rintro e w1 ⟨rfl, hb⟩; rw [HL.out]; simp only [Bt.Look.page, Bt.Look.have_, Bt.Look.code, Bt.Page.cells]; ((obtain ⟨hc1, hf1, hs1⟩ := qR hb); (try have := qN0 wr w1); (try have := qN1 wr w1))
       go_wp2_with fail
       refine hK.out _ _ (SteadyAll.of qL) (fun hHeld => ?_)
       clear hK K
       refine qS [6, 7, 8, 9] ?_
       iterate 4 (refine qT ?_; simp only [Act.put, qY])
       refine TakeSeq.done ?_
       refine qH 11 fun K hK => ?_
       go_simp
       refine hK.out _ _ (SteadyAll.of qL) (fun hHeld => ?_)
       clear hK K
       refine qS [12, 13] ?_
       iterate 2 (refine qT ?_; simp only [Act.put, qY])
       refine TakeSeq.done ?_
       refine qD ?_ _
       go_wp2_with fail
       have BN := (show Blk (wr.drew.alloc (.cells #[.int .i64 0, .int .u64 0, .int .u64 0, .int .u64 0, .int .u64 0, .int .u64 0, .int .u64 0, .int .u64 0, .int .u64 0] 25)) wr.drew.heap.size 25 #[.int .i64 0, .int .u64 0, .int .u64 0, .int .u64 0, .int .u64 0, .int .u64 0, .int .u64 0, .int .u64 0, .int .u64 0] from Blk.made _ _ _).kept hb
       go_meet
       exact ⟨_, rfl, by first | omega | (simp; omega), BN.all9 _ _ _ _ _ _ _ _ _, rfl, rfl, qL⟩
    case rest =>
     obtain ⟨g, rfl, hg, BG, rfl, rfl, hbc⟩ := hcut
     have e1 : (Bt.Look.found (Bt.pg ps l)).code = 0 := rfl
     have e2 : (Bt.Look.found (Bt.pg ps l)).have_ = true := rfl
     obtain ⟨page, hpage⟩ : ∃ page, page = Bt.pg ps l := ⟨_, rfl⟩
     have kg : ∀ i, wc.cell? ⟨g, i, none⟩ = (#[.int .i64 page.line, .int .u64 page.head, .int .u64 page.d0, .int .u64 page.d1, .int .u64 page.d2, .int .u64 page.d3, .int .u64 page.d4, .int .u64 page.d5, .int .u64 page.d6] : Array Value)[i]? := by
      have := BG.cell
      rw [hpage]
      exact this
     have hgw : g < wc.heap.size := BG.lt
     rw [e1, e2]
     rw [← hpage] at HNR HOK HPL
     have HNC : Hid (NoneAt wc) := Lib.hid (HN2.out.below hbc)
     have HBC : Hid (Below wr.heap.size wr wc) := Lib.hid hbc
     have kp2 : ∀ i, wc.cell? ⟨w.heap.size, i, none⟩ = (#[.int .i64 l, .int .i64 1] : Array Value)[i]? := fun i => (hbc.cell (p := ⟨w.heap.size, i, none⟩) hplt).trans (kp i)
     have hplc : w.heap.size < wc.heap.size := Nat.lt_of_lt_of_le hplt hbc.size
     clear e1 e2 BG hpage
     have b200 : decide ((200 : Int) < ((lv.take k).length : Int)) = false := by simp; omega
     have b201 : decide (200 < (lv.take k).length) = false := by simp; omega
     have htl : (lv.take k).length = k := by rw [List.length_take]; omega
     obtain ⟨pn, cn, rfl⟩ := own_shape HNO.out.own
     rw [htl] at HNO HVN ⊢
     go_wp2_with fail
     go_at_call 28; refine (ReadNode_any page HOK.out _ ?hng).mono ?_
     case hng => exact HNC.out.below qL
     rintro e2 w2 (⟨hrn, _⟩ | ⟨v, hrn, rfl, hown, hb2⟩)
     · exact absurd (hrn.symm.trans HNR.out) (by simp)
     rw [HPL.out] at hown
     rw [HPL.out]
     ((obtain ⟨hc2, hf2, hs2⟩ := qR hb2); (try have := qN0 wc w2))
     have HOW := Lib.hid hown
     have HB2 : Hid (Below wr.heap.size wr w2) := Lib.hid qL
     have hsv := qSt HOW.out
     simp only [nodeCells]
     clear hown
     go_wp2_with fail
     have hpl : (ptrsOf (lv.take k)).length = k := by unfold ptrsOf; rw [List.length_map, htl]
     generalize hwz : w2.alloc (.cells #[.int .i64 n.level, .bool n.leftmost, .bool n.dead, .int .u32 n.high, .int .i64 n.right.line, .int .i64 n.right.gen, v] 73) = wz
     have hbz : Below w2.heap.size w2 wz := by rw [← hwz]; exact qL
     have BZ : Blk wz w2.heap.size 73 #[.int .i64 n.level, .bool n.leftmost, .bool n.dead, .int .u32 n.high, .int .i64 n.right.line, .int .i64 n.right.gen, v] := by rw [← hwz]; exact Blk.made _ _ _
     have hwrz : Below wr.heap.size wr wz := below_step HB2.out hbz
     have HM0 : Hid (LevMid w.heap.size w2.heap.size k l n v (.slice pn k cn) u8 (lv.take k) (ptrsOf (lv.take k)) us w wz) := Lib.hid ⟨HNO.out.below hwrz, own_below (own_ptrs HAT.out hk) hwrz, own_base (own_below HOW.out hbz) (by have := HBC.out.size; omega), BPT.out.kept hwrz, BZ, below_step HB.out hwrz, rfl, fun e => by have := own_lt' HNO.out.own _ e; have := HB2.out.size; omega⟩
     have kbz := HM0.out.bb.cell
     have kcz : ∀ i, wz.cell? ⟨w2.heap.size, i, none⟩ = (#[.int .i64 n.level, .bool n.leftmost, .bool n.dead, .int .u32 n.high, .int .i64 n.right.line, .int .i64 n.right.gen, v] : Array Value)[i]? := BZ.cell
     have lbz := HM0.out.bb.lt
     have lcz := BZ.lt
     clear hwz BZ hbz
     refine wp_region_held_drew (S := SteadyLev w.heap.size w2.heap.size #[.int .i64 l, .int .i64 1] #[.int .i64 n.level, .bool n.leftmost, .bool n.dead, .int .u32 n.high, .int .i64 n.right.line, .int .i64 n.right.gen, v]) (by kernel_rfl) (HM0.out.mono (Below.refl _ _).drew).steady ?_
     intro hSt
     refine qS [0, 1, 4, 5] ?_
     iterate 4 (refine qT ?_; simp only [Act.put, qY])
     refine TakeSeq.done ?_
     refine wpAnyH_ready (rs := [2, 6]) (by kernel_rfl) (by simp) ?_
     refine AllReadyH.cons rfl (fun K hK => ?_) (AllReadyH.cons rfl (fun K hK => ?_) (AllReadyH.nil))
     · skip
       rw [if_pos (by rfl)]
       go_simp
       refine hK.out _ _ ((HM0.out.mono qL).steady) (fun hHeld => ?_)
       clear hK K
       refine wpAnyH_ready (rs := [3, 6]) (by kernel_rfl) (by simp) ?_
       refine AllReadyH.cons rfl (fun K hK => ?_) (AllReadyH.cons rfl (fun K hK => ?_) (AllReadyH.nil))
       · skip
         rw [if_pos (by rfl)]
         have HMA := Lib.hid (HM0.out.mono (wy := (wz.alloc (.cells #[.int .i64 n.level, .bool n.leftmost, .bool n.dead, .int .u32 n.high, .int .i64 n.right.line, .int .i64 n.right.gen, v] 73)).drew) qL)
         have BQA := (Blk.made wz 73 #[.int .i64 n.level, .bool n.leftmost, .bool n.dead, .int .u32 n.high, .int .i64 n.right.line, .int .i64 n.right.gen, v]).drew
         refine wp_append_mine (.tmp 47) (.tmp 49) 77 rfl (w.heap.size + 1) 73 i0 _ 7 56 Tryz.underlying77 hi hz0 hz1 hz2 rfl (by decide) (.slice pn k cn) k (nodeRows (lv.take k) us) rfl (own_cast HMA.out.nodes.own htl rfl) _ 1 1
          [.int .i64 n.level, .bool n.leftmost, .bool n.dead, .int .u32 n.high, .int .i64 n.right.line, .int .i64 n.right.gen, v] rfl rfl (nine_news (cs := #[.int .i64 n.level, .bool n.leftmost, .bool n.dead, .int .u32 n.high, .int .i64 n.right.line, .int .i64 n.right.gen, v]) BQA) (by intro u hu; simp at hu; rcases hu with rfl | rfl | rfl | rfl | rfl | rfl | rfl <;> first | rfl | exact own_one HMA.out.row) (by omega) (by unfold maxLen; omega) (by omega) (by have := HMA.out.below.size; have := HMA.out.bb.lt; have := HMA.out.hb; omega) ?_
         intro g3 cap3 w3 hown3 hg3
         have HM3 := Lib.hid (HMA.out.node (by rw [htl]; exact hown3) hg3)
         refine hK.out _ _ HM3.out.steady (fun hHeld => ?_)
         clear hK K
         simp only [Act.put, qY]
         clear hown3 hg3
         refine qH 6 fun K hK => ?_
         go_simp
         refine hK.out _ _ ((HM3.out.mono qL).steady) (fun hHeld => ?_)
         clear hK K
         have HMB := Lib.hid (HM3.out.mono (wy := w3.alloc (.cells #[.int .i64 l, .int .i64 1] 27)) qL)
         have BQB := Blk.made w3 27 #[.int .i64 l, .int .i64 1]
         exact lev_b
       · skip
         rw [if_pos (by rfl)]
         go_simp
         refine hK.out _ _ ((HM0.out.mono qL).steady) (fun hHeld => ?_)
         clear hK K
         have HMA := Lib.hid (HM0.out.mono (wy := ((wz.alloc (.cells #[.int .i64 n.level, .bool n.leftmost, .bool n.dead, .int .u32 n.high, .int .i64 n.right.line, .int .i64 n.right.gen, v] 73)).alloc (.cells #[.int .i64 l, .int .i64 1] 27)).drew) qL)
         have BQA := ((Blk.made wz 73 #[.int .i64 n.level, .bool n.leftmost, .bool n.dead, .int .u32 n.high, .int .i64 n.right.line, .int .i64 n.right.gen, v]).alloc (.cells #[.int .i64 l, .int .i64 1] 27)).drew
         have BP1 : Blk ((wz.alloc (.cells #[.int .i64 n.level, .bool n.leftmost, .bool n.dead, .int .u32 n.high, .int .i64 n.right.line, .int .i64 n.right.gen, v] 73)).alloc (.cells #[.int .i64 l, .int .i64 1] 27)).drew (wz.heap.size + 1) 27 #[.int .i64 l, .int .i64 1] := (Blk.made' (by simp)).drew
         exact lev_a
     · skip
       rw [if_pos (by rfl)]
       go_simp
       refine hK.out _ _ ((HM0.out.mono qL).steady) (fun hHeld => ?_)
       clear hK K
       refine qH 2 fun K hK => ?_
       go_simp
       refine hK.out _ _ ((HM0.out.mono qL).steady) (fun hHeld => ?_)
       clear hK K
       have HMA := Lib.hid (HM0.out.mono (wy := ((wz.alloc (.cells #[.int .i64 l, .int .i64 1] 27)).alloc (.cells #[.int .i64 n.level, .bool n.leftmost, .bool n.dead, .int .u32 n.high, .int .i64 n.right.line, .int .i64 n.right.gen, v] 73)).drew) qL)
       have BQA : Blk ((wz.alloc (.cells #[.int .i64 l, .int .i64 1] 27)).alloc (.cells #[.int .i64 n.level, .bool n.leftmost, .bool n.dead, .int .u32 n.high, .int .i64 n.right.line, .int .i64 n.right.gen, v] 73)).drew (wz.heap.size + 1) 73 #[.int .i64 n.level, .bool n.leftmost, .bool n.dead, .int .u32 n.high, .int .i64 n.right.line, .int .i64 n.right.gen, v] := (Blk.made' (by simp)).drew
       have BP1 := ((Blk.made wz 27 #[.int .i64 l, .int .i64 1]).alloc (.cells #[.int .i64 n.level, .bool n.leftmost, .bool n.dead, .int .u32 n.high, .int .i64 n.right.line, .int .i64 n.right.gen, v] 73)).drew
       exact lev_a
  · obtain rfl : k = lv.length := by omega
    have hp : peq 0 0 0 0 = true := rfl
    have kp : ∀ i, wr.cell? ⟨w.heap.size, i, none⟩ = (#[.int .i64 0, .int .i64 0] : Array Value)[i]? := by
     have := HA.out.ptr.cell
     rw [List.drop_length] at this
     exact this
    have hplt := HA.out.ptr.lt
    go_wp2_with fail
    obtain ⟨us, hN⟩ := HA.out.nodes
    have hA := HA.out.at_
    rw [List.take_length] at hN hA
    exact bodyPost_ret (results_tmp3 rfl _ _ _) rfl ⟨u7, u8, us, rfl, hN.base (by omega), own_base hA (by omega), HA.out.below⟩
section
variable {x P cap k : Nat} {w0 wr : World} {ps : List Bt.Page} {nx : Int} {es : List Bt.Entry} {T : List (List Bt.Cell)}
structure RootAt (P : Nat) (T : List (List Bt.Cell)) (R : Bt.Page) (w : World) : Prop where
 ok : R.Ok
 line : R.line = 96
 reads : Bt.readRoot R = some (Bt.rootPtr T, ((T.length - 1 : Nat) : Int))
 cells : ∀ j u, R.cells[j]? = some u → w.cell? ⟨P, j, none⟩ = some u
theorem root_ix (hi : Bt.Inv ps nx es T) (hx : IxG x P cap k ps nx (keysOf es) (tosOf es) wr) : RootAt P T (Bt.pg ps 96) wr := by
 obtain ⟨h1, h2, h3, h4, _⟩ := hi.rootHere
 obtain ⟨vk, vt, vg, hxo, _⟩ := hx
 have hlen := hi.ix.len
 obtain ⟨_, _, _, h5⟩ := hi.ix.at (l := 96) (by omega) (by omega)
 have h0 : 0 < ps.length := by omega
 have h6 : ps[0] = Bt.pg ps 96 := by
  have e : ((96 : Int) - 96).toNat = 0 := rfl
  rw [e, List.getElem?_eq_getElem h0] at h5
  exact Option.some.inj h5
 refine ⟨h4, h3, hi.root, fun j u hu => ?_⟩
 have h7 := hxo.pg.row_at h0 j u (by rw [h6, Array.getElem?_toList]; exact hu)
 simpa using h7
theorem PlayAt.root (h : PlayAt x P cap k w0 wr ps nx es T) : RootAt P T (Bt.pg ps 96) wr := root_ix h.inv h.ix
theorem RootAt.nine {R : Bt.Page} {w : World} (h : RootAt P T R w) : w.cell? ⟨P, 0, none⟩ = some (.int .i64 R.line) ∧ w.cell? ⟨P, 1, none⟩ = some (.int .u64 R.head) ∧ w.cell? ⟨P, 2, none⟩ = some (.int .u64 R.d0) ∧ w.cell? ⟨P, 3, none⟩ = some (.int .u64 R.d1) ∧
 w.cell? ⟨P, 4, none⟩ = some (.int .u64 R.d2) ∧ w.cell? ⟨P, 5, none⟩ = some (.int .u64 R.d3) ∧ w.cell? ⟨P, 6, none⟩ = some (.int .u64 R.d4) ∧ w.cell? ⟨P, 7, none⟩ = some (.int .u64 R.d5) ∧ w.cell? ⟨P, 8, none⟩ = some (.int .u64 R.d6) := by
 exact ⟨h.cells 0 _ rfl, h.cells 1 _ rfl, h.cells 2 _ rfl, h.cells 3 _ rfl, h.cells 4 _ rfl, h.cells 5 _ rfl, h.cells 6 _ rfl, h.cells 7 _ rfl, h.cells 8 _ rfl⟩
theorem level_ix (hi : Bt.Inv ps nx es T) {wx : World} (hx : IxG x P cap k ps nx (keysOf es) (tosOf es) wx) {pre post : List (List Bt.Cell)} {lv : List Bt.Cell} (hT : T = pre ++ lv :: post) :
 Calls Tryz.prog 29 #[.pointer (some ⟨x, 0, none⟩), .agg (Bt.headPtr lv Bt.nilP).cells] wx (LevPost lv wx) := by
 obtain ⟨vk, vt, vg, hxo, _⟩ := hx
 have hlv : Bt.Level ((post.length : Nat) : Int) lv := Bt.Tree.level (pre := pre) (hT ▸ hi.tree)
 have hmem : ∀ c ∈ lv, c ∈ Bt.flat T := fun c hc => by rw [hT]; simp only [Bt.flat_append, Bt.flat_cons, List.mem_append]; exact .inr (.inl hc)
 refine level_any x P cap ps lv wx (hxo.blk.cell 0) hxo.blk.lt hxo.pg.row hxo.none hlv.chain (fun c hc => hi.sees c (hmem c hc)) ?_
 have := hi.small
 rw [hT] at this
 simp only [Bt.flat_append, Bt.flat_cons, List.length_append] at this
 omega
theorem PlayAt.level (h : PlayAt x P cap k w0 wr ps nx es T) {pre post : List (List Bt.Cell)} {lv : List Bt.Cell} (hT : T = pre ++ lv :: post) (wx : World) (hb : Below wr.heap.size wr wx) :
 Calls Tryz.prog 29 #[.pointer (some ⟨x, 0, none⟩), .agg (Bt.headPtr lv Bt.nilP).cells] wx (LevPost lv wx) := level_ix h.inv (h.over hb).ix hT
end
end Go.Proofs.YtjmpekanlmepmaaGreatDoor
