/- The reference's fabric: a verb is queued. -/
import Derived.Test.YtoidjgongafnkaaGreatDoorWEd
import Derived.Test.YtoidjgongafnkaaGreatDoorWCv
set_option linter.unusedVariables false
set_option linter.unusedSimpArgs false
set_option linter.unusedSectionVars false
set_option linter.constructorNameAsVariable false
namespace Go.Proofs.YtoidjgongafnkaaGreatDoor
open Go.RowKit

/-- As wp_append_src; nothing appended to nothing is nothing. -/
theorem wp_append_nil {P : Program} {w : World} {o : Oper} {a : Act} {K : Act → World → Prop} {Q : Exit → Act → World → Prop} (s x : Operand) (t : TypeId)
    (ho : o.op = .call { callee := .builtin .append, args := #[s, x], argTypes := #[t, t] })
    (base : Nat) (e : TypeId) (i : TypeInfo) (z : Value) (size bytes : Nat) (ht : P.underlying t = some (.slice e)) (hi : P.info? e = some i) (hz : i.zero = some z)
    (hsize : i.size = size) (hby : i.bytes = bytes) (hzs : z.cells.size = size) (hsz : 0 < size)
    (v : Value) (n : Nat) (xs : List Value) (hs : a.eval s = v) (hown : w.ownsRow base e size v n xs)
    (vx : Value) (m : Nat) (news : List Value) (hx : a.eval x = vx) (hsrc : SrcAt w vx m news) (hl : news.length = m * size)
    (h63 : n + m ≤ maxLen) (hbytes : (n + m) * bytes ≤ 140737488355328) (hbase : base ≤ w.heap.size)
    (h : ∀ v' w', w'.ownsRow base e size v' (n + m) (xs ++ news) → w.grownBy w' v.ownBlock → (vx = .slice none 0 0 → v' = v) → K (a.put o.dst v') w') : o.wp P a w K Q := by
  rcases hsrc with ⟨rfl, rfl, rfl⟩ | ⟨ad, c, rfl, hnews, h1⟩
  · have hr := run_append_owned_none (P := P) (w := w) base t o.type e i size ht hi v n xs hown
    unfold Oper.wp execOp
    simp only [ho, resolve, invoke, builtin, Sem.run_bind, Sem.run_pure, Result.andThen_ok, List.map_toArray, List.map_cons, List.map_nil, hs, hx, hr]
    exact h v w (by simpa using hown) ⟨rfl, rfl, rfl, Nat.le_refl _, fun _ _ _ => rfl⟩ (fun _ => rfl)
  · exact wp_append_own w s x t ho base e i z size bytes ht hi hz hsize hby hzs hsz v n xs hs hown ad m c news hx hl hnews h1 h63 hbytes hbase fun v' w' h2 h3 _ => h v' w' h2 h3 (fun e => by simp at e)
theorem wpList_append_nil {P : Program} {w : World} {ops : Array Oper} {rest : List Oper} {o : Oper} {a : Act} {Q : Exit → Act → World → Prop} (hgd : o.guard = none) (s x : Operand) (t : TypeId)
    (ho : o.op = .call { callee := .builtin .append, args := #[s, x], argTypes := #[t, t] })
    (base : Nat) (e : TypeId) (i : TypeInfo) (z : Value) (size bytes : Nat) (ht : P.underlying t = some (.slice e)) (hi : P.info? e = some i) (hz : i.zero = some z)
    (hsize : i.size = size) (hby : i.bytes = bytes) (hzs : z.cells.size = size) (hsz : 0 < size)
    (v : Value) (n : Nat) (xs : List Value) (hs : a.eval s = v) (hown : w.ownsRow base e size v n xs)
    (vx : Value) (m : Nat) (news : List Value) (hx : a.eval x = vx) (hsrc : SrcAt w vx m news) (hl : news.length = m * size)
    (h63 : n + m ≤ maxLen) (hbytes : (n + m) * bytes ≤ 140737488355328) (hbase : base ≤ w.heap.size)
    (h : ∀ v' w', w'.ownsRow base e size v' (n + m) (xs ++ news) → w.grownBy w' v.ownBlock → (vx = .slice none 0 0 → v' = v) → wpList P ops Q rest (a.put o.dst v') w') : wpList P ops Q (o :: rest) a w :=
  wpList_plain hgd fun K hK => wp_append_nil s x t ho base e i z size bytes ht hi hz hsize hby hzs hsz v n xs hs hown vx m news hx hsrc hl h63 hbytes hbase (fun v' w' h1 h2 h3 => hK _ _ (h v' w' h1 h2 h3))
/-- Nothing is appended. -/
theorem run_append_owned_empty {P : Program} {w : World} (base : Nat) (t ty e : TypeId) (i : TypeInfo) (size : Nat) (ht : P.underlying t = some (.slice e)) (hi : P.info? e = some i)
    (v : Value) (n : Nat) (xs : List Value) (hown : w.ownsRow base e size v n xs) (p : Option Addr) (c : Nat) :
    (Builtin.append_ #[t, t] ty #[v, .slice p 0 c]).run P w = .ok v w := by
  rcases hown.2 with ⟨rfl, rfl⟩ | ⟨g, cap, cur, rfl, _, _, hnc, _⟩
  · rcases p with _ | p <;> simp [Builtin.append_, run_underlying ht, sizeOf, typeInfo, hi, Builtin.lenOf, Builtin.firstCells, loadCells, loadCellsFrom]
  · rcases p with _ | p <;> simp [Builtin.append_, run_underlying ht, sizeOf, typeInfo, hi, Builtin.lenOf, Builtin.firstCells, hnc, storeCells, loadCells, loadCellsFrom]
/-- A row, maybe an empty one, is appended. -/
theorem wp_append_row {P : Program} {w : World} {o : Oper} {a : Act} {K : Act → World → Prop} {Q : Exit → Act → World → Prop} (s x : Operand) (t : TypeId)
    (ho : o.op = .call { callee := .builtin .append, args := #[s, x], argTypes := #[t, t] })
    (base : Nat) (e : TypeId) (i : TypeInfo) (z : Value) (size bytes : Nat) (ht : P.underlying t = some (.slice e)) (hi : P.info? e = some i) (hz : i.zero = some z)
    (hsize : i.size = size) (hby : i.bytes = bytes) (hzs : z.cells.size = size) (hsz : 0 < size)
    (v : Value) (n : Nat) (xs : List Value) (hs : a.eval s = v) (hown : w.ownsRow base e size v n xs)
    (vx : Value) (m lo : Nat) (news : List Value) (hx : a.eval x = vx) (hsrc : RowAt w lo vx e size m news) (hone : ∀ u ∈ news, u.oneCell' = true)
    (h63 : n + m ≤ maxLen) (hbytes : (n + m) * bytes ≤ 140737488355328) (hbase : base ≤ w.heap.size)
    (h : ∀ v' w', w'.ownsRow base e size v' (n + m) (xs ++ news) → w.grownBy w' v.ownBlock → (m = 0 → v' = v) → K (a.put o.dst v') w') : o.wp P a w K Q := by
  rcases Nat.eq_zero_or_pos m with rfl | hm
  · obtain ⟨p, c, rfl⟩ := hsrc.shape
    obtain rfl : news = [] := List.length_eq_zero_iff.1 (by have := hsrc.1; omega)
    have hr := run_append_owned_empty (P := P) (w := w) base t o.type e i size ht hi v n xs hown p c
    unfold Oper.wp execOp
    simp only [ho, resolve, invoke, builtin, Sem.run_bind, Sem.run_pure, Result.andThen_ok, List.map_toArray, List.map_cons, List.map_nil, hs, hx, hr]
    exact h v w (by simpa using hown) ⟨rfl, rfl, rfl, Nat.le_refl _, fun _ _ _ => rfl⟩ (fun _ => rfl)
  · exact wp_append_nil s x t ho base e i z size bytes ht hi hz hsize hby hzs hsz v n xs hs hown vx m news hx (hsrc.src hone (.inr hm)) hsrc.1 h63 hbytes hbase (fun v' w' h1 h2 _ => h v' w' h1 h2 (by omega))
theorem wpList_append_row {P : Program} {w : World} {ops : Array Oper} {rest : List Oper} {o : Oper} {a : Act} {Q : Exit → Act → World → Prop} (hgd : o.guard = none) (s x : Operand) (t : TypeId)
    (ho : o.op = .call { callee := .builtin .append, args := #[s, x], argTypes := #[t, t] })
    (base : Nat) (e : TypeId) (i : TypeInfo) (z : Value) (size bytes : Nat) (ht : P.underlying t = some (.slice e)) (hi : P.info? e = some i) (hz : i.zero = some z)
    (hsize : i.size = size) (hby : i.bytes = bytes) (hzs : z.cells.size = size) (hsz : 0 < size)
    (v : Value) (n : Nat) (xs : List Value) (hs : a.eval s = v) (hown : w.ownsRow base e size v n xs)
    (vx : Value) (m lo : Nat) (news : List Value) (hx : a.eval x = vx) (hsrc : RowAt w lo vx e size m news) (hone : ∀ u ∈ news, u.oneCell' = true)
    (h63 : n + m ≤ maxLen) (hbytes : (n + m) * bytes ≤ 140737488355328) (hbase : base ≤ w.heap.size)
    (h : ∀ v' w', w'.ownsRow base e size v' (n + m) (xs ++ news) → w.grownBy w' v.ownBlock → (m = 0 → v' = v) → wpList P ops Q rest (a.put o.dst v') w') : wpList P ops Q (o :: rest) a w :=
  wpList_plain hgd fun K hK => wp_append_row s x t ho base e i z size bytes ht hi hz hsize hby hzs hsz v n xs hs hown vx m lo news hx hsrc hone h63 hbytes hbase (fun v' w' h1 h2 h3 => hK _ _ (h v' w' h1 h2 h3))
/-- A verb under way, in twelve cells. -/
def pdArr (x : Cm.Pend) (vw gw : Value) : Array Value := #[.int .i64 x.v.kind, .int .i64 x.v.node, .int .i64 x.v.at_, .int .i64 x.v.n, .int .u64 x.v.old, .int .u64 x.v.new, vw, .int .u64 1, .int .i64 1, .int .i64 x.exec, gw, .int .i64 x.slot]
def pdCells (l : List (Cm.Pend × Value × Value)) : List Value := l.flatMap fun t => (pdArr t.1 t.2.1 t.2.2).toList
/-- Words; no words: nil. -/
def W0 (w : World) (lo : Nat) (v : Value) (l : List Int) : Prop := WordsAt w lo v l ∧ (l = [] → v = .slice none 0 0)
theorem W0.src {w : World} {lo : Nat} {v : Value} {l : List Int} (h : W0 w lo v l) : SrcAt w v l.length (u64s l) := RowAt.src h.1 (u64s_one _) (by
  rcases l with _ | ⟨y, l⟩
  · exact .inl (h.2 rfl)
  · exact .inr (by simp))
theorem W0.mod {S : Nat → Prop} {w w' : World} {lo : Nat} {v : Value} {l : List Int} (h : W0 w lo v l) (hm : Mod S w w') (hs : ∀ k, S k → k < lo ∨ ∃ t' cs', Blk w k t' cs' ∧ t' ≠ 33) : W0 w' lo v l := ⟨h.1.mod hm hs, h.2⟩
theorem W0.low {w : World} {lo lo' : Nat} {v : Value} {l : List Int} (h : W0 w lo v l) (hl : lo' ≤ lo) : W0 w lo' v l := ⟨RowAt.low h.1 hl, h.2⟩
theorem W0.below {w w' : World} {lo : Nat} {v : Value} {l : List Int} (h : W0 w lo v l) (hb : Below w.heap.size w w') : W0 w' lo v l := ⟨h.1.below hb, h.2⟩
/-- A queue. -/
def QueueAt (w : World) (lo : Nat) (v : Value) (q : List Cm.Pend) : Prop :=
  ∃ al : List (Cm.Pend × Value × Value), al.map (·.1) = q ∧ (q = [] → v = .slice none 0 0) ∧ RowAt w lo v 208 12 al.length (pdCells al) ∧ ∀ t ∈ al, W0 w lo t.2.1 t.1.v.words ∧ W0 w lo t.2.2 t.1.got
theorem QueueAt.mod {S : Nat → Prop} {w w' : World} {lo : Nat} {v : Value} {q : List Cm.Pend} (h : QueueAt w lo v q) (hm : Mod S w w') (hs : ∀ k, S k → k < lo ∨ ∃ t' cs', Blk w k t' cs' ∧ t' ≠ 33 ∧ t' ≠ 208) : QueueAt w' lo v q := by
  obtain ⟨al, h1, h0, h2, h3⟩ := h
  have hs1 : ∀ k, S k → k < lo ∨ ∃ t' cs', Blk w k t' cs' ∧ t' ≠ 33 := fun k hk => by
    rcases hs k hk with h | ⟨t', cs', hb, h4, h5⟩
    · exact .inl h
    · exact .inr ⟨t', cs', hb, h4⟩
  refine ⟨al, h1, h0, h2.mod hm (fun k hk => ?_), fun t ht => ⟨(h3 t ht).1.mod hm hs1, (h3 t ht).2.mod hm hs1⟩⟩
  rcases hs k hk with h | ⟨t', cs', hb, h4, h5⟩
  · exact .inl h
  · exact .inr ⟨t', cs', hb, h5⟩
theorem QueueAt.below {w w' : World} {lo : Nat} {v : Value} {q : List Cm.Pend} (h : QueueAt w lo v q) (hb : Below w.heap.size w w') : QueueAt w' lo v q := h.mod (S := fun _ => False) (Mod.of_below hb) (fun _ e => e.elim)
theorem QueueAt.low {w : World} {lo lo' : Nat} {v : Value} {q : List Cm.Pend} (h : QueueAt w lo v q) (hl : lo' ≤ lo) : QueueAt w lo' v q := by
  obtain ⟨al, h1, h0, h2, h3⟩ := h
  exact ⟨al, h1, h0, h2.low hl, fun t ht => ⟨(h3 t ht).1.low hl, (h3 t ht).2.low hl⟩⟩
theorem QueueAt.shape {w : World} {lo : Nat} {v : Value} {q : List Cm.Pend} (h : QueueAt w lo v q) : ∃ p c, v = .slice p q.length c := by
  obtain ⟨al, rfl, _, h2, _⟩ := h
  obtain ⟨p, c, hp⟩ := h2.shape
  exact ⟨p, c, by rw [hp]; simp⟩
theorem pdCells_append (a b : List (Cm.Pend × Value × Value)) : pdCells (a ++ b) = pdCells a ++ pdCells b := by simp [pdCells]
theorem pdCells_len (a : List (Cm.Pend × Value × Value)) : (pdCells a).length = a.length * 12 := flat_len _ 12 (fun _ => rfl) a
theorem pdArr_one (x : Cm.Pend) (p q : Option Addr) (n c n2 c2 : Nat) : ∀ u ∈ (pdArr x (.slice p n c) (.slice q n2 c2)).toList, u.oneCell' = true := by
  intro u hu
  simp [pdArr] at hu
  rcases hu with rfl | rfl | rfl | rfl | rfl | rfl | rfl | rfl | rfl | rfl | rfl | rfl <;> rfl
theorem pdCells_one {w : World} {lo : Nat} {al : List (Cm.Pend × Value × Value)} (h : ∀ t ∈ al, W0 w lo t.2.1 t.1.v.words ∧ W0 w lo t.2.2 t.1.got) : ∀ u ∈ pdCells al, u.oneCell' = true := by
  intro u hu
  obtain ⟨t, ht, hu⟩ := List.mem_flatMap.1 hu
  obtain ⟨p, c, hp⟩ := RowAt.shape (h t ht).1.1
  obtain ⟨q, d, hq⟩ := RowAt.shape (h t ht).2.1
  rw [hp, hq] at hu
  exact pdArr_one _ _ _ _ _ _ _ u hu
theorem QueueAt.src {w : World} {lo : Nat} {v : Value} {q : List Cm.Pend} (h : QueueAt w lo v q) : ∃ al : List (Cm.Pend × Value × Value), al.map (·.1) = q ∧ SrcAt w v al.length (pdCells al) ∧ ∀ t ∈ al, W0 w lo t.2.1 t.1.v.words ∧ W0 w lo t.2.2 t.1.got := by
  obtain ⟨al, h1, h0, h2, h3⟩ := h
  refine ⟨al, h1, RowAt.src h2 (pdCells_one h3) ?_, h3⟩
  rcases al with _ | ⟨y, l⟩
  · exact .inl (h0 (by rw [← h1]; rfl))
  · exact .inr (by simp)
theorem infoPend : (Tryz.prog.info? 208).map (fun i => (i.zero, i.size, i.bytes)) = some (some (.agg #[.int .i64 0, .int .i64 0, .int .i64 0, .int .i64 0, .int .u64 0, .int .u64 0, .slice none 0 0, .int .u64 0, .int .i64 0, .int .i64 0, .slice none 0 0, .int .i64 0]), 12, 128) := by kernel_rfl
def PPost (br o lo : Nat) (cs : Array Value) (q : List Cm.Pend) (w : World) (e : Ending) (w' : World) : Prop :=
  e = .returned (.int .i64 0) ∧ (∃ v', Blk w' br 107 (cs.setIfInBounds (o + 3) v') ∧ QueueAt w' lo v' q) ∧ Over br w w'

set_option maxRecDepth 10000 in
set_option maxHeartbeats 4000000 in
theorem pairPost_ok (x : Cm.Vb) (p : Option Addr) (c lo0 lo br o s : Nat) (cs : Array Value) (vq : Value) (q : List Cm.Pend) (w : World) (h : x.Ok) (hn : x.node < 5) (hq1 : q.length ≤ 100) (hw : WordsAt w lo0 (.slice p x.words.length c) x.words) (hwl : x.words.length ≤ 100)
    (hs : s ≤ 1000) (hlo : lo ≤ w.heap.size) (hbr : br < lo) (hp : Blk w br 107 cs) (h2 : cs[o + 2]? = some (.int .i64 x.node)) (h3 : cs[o + 3]? = some vq) (hq : QueueAt w lo vq q) :
    Calls Tryz.prog 54 #[.pointer (some ⟨br, o, none⟩), .agg (vbArr x (.slice p x.words.length c)), .int .i64 108, .int .i64 s] w (PPost br o lo cs (q ++ [⟨x, 0, [], s⟩]) w) := by
  obtain ⟨i0, hi, hz0, hz1, hz2⟩ := info_parts infoPend
  obtain ⟨j0, hj, hy0, hy1, hy2⟩ := info_parts infoU64
  have HVa : Hid (∀ W, Calls Tryz.prog 53 #[.agg (vbArr x (.slice p x.words.length c)), .int .i64 (5 : Nat), .int .i64 108] W fun e w' => e = .returned (.int .i64 0) ∧ Below W.heap.size W w') := Lib.hid (fun W => refValid_ok x p c 5 W h (by omega) hn)
  have HP := Lib.hid (And.intro hp (And.intro hq hw))
  obtain ⟨pq, cq, rfl⟩ := hq.shape
  clear hp hq hw h
  unfold vbArr at *
  go_enter Tryz.func54, Tryz.ntmps54
  go_wp2_with fail
  go_at_call 53
  refine (HVa.out _).mono ?_
  rintro e w1 ⟨rfl, hb⟩
  have BV := (Blk.made w 147 #[.int .i64 x.kind, .int .i64 x.node, .int .i64 x.at_, .int .i64 x.n, .int .u64 x.old, .int .u64 x.new, .slice p x.words.length c, .int .u64 1, .int .i64 1]).kept hb
  have hb1 : Below w.heap.size w w1 := by (repeat (first | with_reducible exact Below.refl _ _ | with_reducible assumption | with_reducible refine Below.setCell ?_ (by first | (simp; done) | (simp; omega)) _ | with_reducible refine below_alloc ?_ _ | with_reducible refine below_drewN ?_ _ | with_reducible refine Below.drew ?_ | with_reducible refine below_step ?_ (by assumption)))
  have kv := BV.cell
  have lv := BV.lt
  have fv := BV.free
  have BR := HP.out.1.kept hb1
  have y2 : w1.cell? ⟨br, o + 2, none⟩ = some (.int .i64 x.node) := (BR.cell _).trans h2
  have y3 : w1.cell? ⟨br, o + 3, none⟩ = some (.slice pq q.length cq) := (BR.cell _).trans h3
  have lr := BR.lt
  have HB1 := Lib.hid (And.intro BV (And.intro hb1 BR))
  have bq : decide ((1024 : Int) ≤ q.length) = false := by simp; omega
  clear hb hb1 BV BR
  go_wp2_with fail
  refine wp_region_held_drew (S := SteadyAll _) (by kernel_rfl) (SteadyAll.of (Below.refl _ _).drew) ?_
  intro hSt
  refine wpAnyH_seq (is := [0, 1, 2, 3, 4, 5, 6]) (by kernel_rfl) (by kernel_rfl) (fun _ _ d _ _ h => by cases d <;> exact h) (by assumption) ?_
  iterate 7 (first | (refine TakeSeq.step (v := undef) rfl (Or.inr ⟨by rfl, rfl⟩) ?_; simp only [Act.put, List.setIfInBounds_toArray, List.set_cons_zero, List.set_cons_succ, List.getElem_toArray, List.getElem_cons_zero, List.getElem_cons_succ]) | (refine TakeSeq.step (v := ?_) rfl (Or.inl ⟨by rfl, ?_⟩) ?_; rotate_left 1; (focus (intro wq hSq; have hrd := hSq.rule; go_simp; with_reducible rfl)); simp only [Act.put, List.setIfInBounds_toArray, List.set_cons_zero, List.set_cons_succ, List.getElem_toArray, List.getElem_cons_zero, List.getElem_cons_succ]))
  refine TakeSeq.done ?_
  refine wpAnyH_done (by kernel_rfl) ?_ _
  go_wp2_with (at_builtin; refine halt ?_)
  refine unhalt ?_
  have hbd : Below w.heap.size w w1.drew := by have := HB1.out.2.1; (repeat (first | with_reducible exact Below.refl _ _ | with_reducible assumption | with_reducible refine Below.setCell ?_ (by first | (simp; done) | (simp; omega)) _ | with_reducible refine below_alloc ?_ _ | with_reducible refine below_drewN ?_ _ | with_reducible refine Below.drew ?_ | with_reducible refine below_step ?_ (by assumption)))
  have HSW := HP.out.2.2.below hbd
  refine wpList_append_row rfl (.const (.slice none 0 0)) (.tmp 30) 59 rfl w1.heap.size 33 j0 _ 1 8 Tryz.underlying59 hj hy0 hy1 hy2 rfl (by decide) (.slice none 0 0) 0 [] rfl
    (World.ownsRow_nil _ _ _ _) (.slice p x.words.length c) x.words.length lo0 (u64s x.words) rfl HSW (u64s_one _) (by unfold maxLen; omega) (by omega) (by simp) ?_
  intro v w3 hown3 hg3 hnil
  replace hown3 := own_cast hown3 (show 0 + x.words.length = x.words.length by omega) rfl
  obtain ⟨pv, cv, rfl⟩ := own_shape hown3
  have hb3 : Below w1.heap.size w1 w3 := below_grown (w := w1) (w1 := w1.drew) (by (repeat (first | with_reducible exact Below.refl _ _ | with_reducible assumption | with_reducible refine Below.setCell ?_ (by first | (simp; done) | (simp; omega)) _ | with_reducible refine below_alloc ?_ _ | with_reducible refine below_drewN ?_ _ | with_reducible refine Below.drew ?_ | with_reducible refine below_step ?_ (by assumption)))) hg3 (fun j hj => by simp [Value.ownBlock] at hj)
  have BV3 := HB1.out.1.kept hb3
  have BR3 := HB1.out.2.2.kept hb3
  have kv3 := BV3.cell
  have lv3 := BV3.lt
  have fv3 := BV3.free
  have y33 : w3.cell? ⟨br, o + 3, none⟩ = some (.slice pq q.length cq) := (BR3.cell _).trans h3
  have lr3 := BR3.lt
  have hw03 : W0 w3 w1.heap.size (.slice pv x.words.length cv) x.words := ⟨RowAt.cast (RowAt.of_own hown3) rfl (by simp), fun e => hnil (by rw [e]; rfl)⟩
  have HV3 := Lib.hid (And.intro hw03 (And.intro BV3 (And.intro BR3 hb3)))
  clear hown3 hg3 hnil hw03 hb3 BV3 BR3 kv lv fv y2 y3 lr HSW hbd hSt
  go_wp2_with fail
  have hne : br ≠ w.heap.size := by omega
  have ho4 : Over w.heap.size w3 (w3.setCell ⟨w.heap.size, 6, none⟩ (.slice pv x.words.length cv)) := (Over.refl _ _).put _ _
  have BV4 : Blk (w3.setCell ⟨w.heap.size, 6, none⟩ (.slice pv x.words.length cv)) w.heap.size 147 #[.int .i64 x.kind, .int .i64 x.node, .int .i64 x.at_, .int .i64 x.n, .int .u64 x.old, .int .u64 x.new, .slice pv x.words.length cv, .int .u64 1, .int .i64 1] := (HV3.out.2.1.put 6 _).cast rfl
  have BR4 : Blk (w3.setCell ⟨w.heap.size, 6, none⟩ (.slice pv x.words.length cv)) br 107 cs := HV3.out.2.2.1.aside hne _
  have hbw3 : Below w.heap.size w w3 := below_step HB1.out.2.1 HV3.out.2.2.2
  have hb4 : Below w.heap.size w (w3.setCell ⟨w.heap.size, 6, none⟩ (.slice pv x.words.length cv)) := below_grown (w := w) (w1 := w3) hbw3 ho4 (fun j hj => by injection hj with hj; omega)
  have hlw1 := HB1.out.1.lt
  have hw04 : W0 (w3.setCell ⟨w.heap.size, 6, none⟩ (.slice pv x.words.length cv)) w1.heap.size (.slice pv x.words.length cv) x.words := HV3.out.1.mod (S := fun b => b = w.heap.size) ((Mod.refl _ _).over ho4 (.inl rfl)) (fun k hk => .inl (by omega))
  generalize hw4 : w3.setCell ⟨w.heap.size, 6, none⟩ (.slice pv x.words.length cv) = w4 at *
  clear hw4 kv3 lv3 fv3 y33 lr3
  have kv4 := BV4.cell
  have lv4 := BV4.lt
  have lr4 := BR4.lt
  have y4 : w4.cell? ⟨br, o + 3, none⟩ = some (.slice pq q.length cq) := (BR4.cell _).trans h3
  have hq4 := HP.out.2.1.below hb4
  have hs14 : w1.heap.size ≤ w4.heap.size := Nat.le_trans HV3.out.2.2.2.size ho4.size
  have HB4 := Lib.hid (And.intro BR4 (And.intro hb4 (And.intro hw04 hq4)))
  obtain ⟨al, hal, hsrc4, hws⟩ := hq4.src
  have hsrc : SrcAt w4.drew (.slice pq q.length cq) al.length (pdCells al) := hsrc4
  have hall : al.length = q.length := by rw [← hal]; simp
  clear BV4 BR4 ho4 hbw3 hb4 hw04 hq4
  refine wp_region_late (S := SteadyAll _) (last := 13) (by kernel_rfl) (by kernel_rfl) (SteadyAll.of (Below.refl _ _).drew) ?_
  intro hSt
  refine wpAnyL_seq (is := [0, 1, 2, 3, 4, 6, 7, 8]) (by kernel_rfl) (by kernel_rfl) (fun _ _ d _ _ h => by cases d <;> exact h) (by assumption) ?_
  iterate 8 (first | (refine TakeSeqL.step (v := undef) rfl (Or.inr ⟨by rfl, rfl⟩) ?_; simp only [Act.put, List.setIfInBounds_toArray, List.set_cons_zero, List.set_cons_succ, List.getElem_toArray, List.getElem_cons_zero, List.getElem_cons_succ]) | (refine TakeSeqL.step (v := ?_) rfl (Or.inl ⟨by rfl, ?_⟩) ?_; rotate_left 1; (focus (intro wq hSq; have hrd := hSq.rule; go_simp; with_reducible rfl)); simp only [Act.put, List.setIfInBounds_toArray, List.set_cons_zero, List.set_cons_succ, List.getElem_toArray, List.getElem_cons_zero, List.getElem_cons_succ]))
  refine TakeSeqL.done ?_
  refine wpAnyL_ready (rs := [5, 9]) (by kernel_rfl) (by simp) ?_
  refine AllReadyL.cons rfl (by decide) (fun K hK => ?_) (AllReadyL.cons rfl (by decide) (fun K hK => ?_) (AllReadyL.nil))
  · skip
    rw [if_pos (by rfl)]
    refine wp_append_nil (.const (.slice none 0 0)) (.tmp 37) 105 rfl w4.heap.size 208 i0 _ 12 128 Tryz.underlying105 hi hz0 hz1 hz2 rfl (by decide) (.slice none 0 0) 0 [] rfl
      (World.ownsRow_nil _ _ _ _) (.slice pq q.length cq) al.length (pdCells al) rfl hsrc (pdCells_len al) (by unfold maxLen; omega) (by omega) (by simp) ?_
    intro v5 w5 hown5 hg5 _
    have hb5 : Below w4.heap.size w4 w5 := below_grown (w := w4) (w1 := w4.drew) (by (repeat (first | with_reducible exact Below.refl _ _ | with_reducible assumption | with_reducible refine Below.setCell ?_ (by first | (simp; done) | (simp; omega)) _ | with_reducible refine below_alloc ?_ _ | with_reducible refine below_drewN ?_ _ | with_reducible refine Below.drew ?_ | with_reducible refine below_step ?_ (by assumption)))) hg5 (fun j hj => by simp [Value.ownBlock] at hj)
    refine hK.out _ _ (SteadyAll.of hb5) (fun hHeld => ?_)
    clear hK K
    simp only [Act.put, List.setIfInBounds_toArray, List.set_cons_zero, List.set_cons_succ, List.getElem_toArray, List.getElem_cons_zero, List.getElem_cons_succ]
    refine wpAnyL_ready (rs := [9]) (by kernel_rfl) (by simp) ?_
    refine AllReadyL.cons rfl (by decide) (fun K hK => ?_) (AllReadyL.nil)
    rw [if_pos (by rfl)]
    go_simp
    refine hK.out _ _ (SteadyAll.of (below_alloc hb5 _)) (fun hHeld => ?_)
    clear hK K
    have hownq := own_below hown5 (below_alloc (Below.refl _ _) (.cells #[.int .i64 x.kind, .int .i64 x.node, .int .i64 x.at_, .int .i64 x.n, .int .u64 x.old, .int .u64 x.new, .slice pv x.words.length cv, .int .u64 1, .int .i64 1, .int .i64 0, .slice none 0 0, .int .i64 s] 208))
    refine wpAnyL_ready (rs := [10]) (by kernel_rfl) (by simp) ?_
    refine AllReadyL.cons rfl (by decide) (fun K hK => ?_) (AllReadyL.nil)
    rw [if_pos (by rfl)]
    have h45 : w4.heap.size ≤ w5.heap.size := hb5.size
    refine wp_append_mine (.tmp 38) (.tmp 42) 105 rfl w4.heap.size 208 i0 _ 12 128 Tryz.underlying105 hi hz0 hz1 hz2 rfl (by decide) v5 (0 + al.length) ([] ++ pdCells al) rfl
      hownq ⟨w5.heap.size, 0, none⟩ 1 1 ((#[.int .i64 x.kind, .int .i64 x.node, .int .i64 x.at_, .int .i64 x.n, .int .u64 x.old, .int .u64 x.new, .slice pv x.words.length cv, .int .u64 1, .int .i64 1, .int .i64 0, .slice none 0 0, .int .i64 s] : Array Value).toList) rfl rfl (lit_news (o := 0) (cs := #[.int .i64 x.kind, .int .i64 x.node, .int .i64 x.at_, .int .i64 x.n, .int .u64 x.old, .int .u64 x.new, .slice pv x.words.length cv, .int .u64 1, .int .i64 1, .int .i64 0, .slice none 0 0, .int .i64 s]) (Blk.made _ _ _)) (by intro u hu; simp at hu; rcases hu with rfl | rfl | rfl | rfl | rfl | rfl | rfl | rfl | rfl | rfl | rfl | rfl <;> rfl) (by omega) (by unfold maxLen; omega) (by omega) (by simp; omega) ?_
    intro g6 c6 w6 hown6 hg6
    have hb6 : Below w4.heap.size w4 w6 := below_grown (w := w4) (w1 := w5.alloc _) (by (repeat (first | with_reducible exact Below.refl _ _ | with_reducible assumption | with_reducible refine Below.setCell ?_ (by first | (simp; done) | (simp; omega)) _ | with_reducible refine below_alloc ?_ _ | with_reducible refine below_drewN ?_ _ | with_reducible refine Below.drew ?_ | with_reducible refine below_step ?_ (by assumption)))) hg6 (fun j hj => own_row_ge hownq j hj)
    refine hK.out _ _ (SteadyAll.of hb6) (fun hHeld => ?_)
    clear hK K
    simp only [Act.put, List.setIfInBounds_toArray, List.set_cons_zero, List.set_cons_succ, List.getElem_toArray, List.getElem_cons_zero, List.getElem_cons_succ]
    have BR6 := HB4.out.1.kept hb6
    have y6 := (BR6.cell (o + 3)).trans h3
    have f6 := BR6.free
    have l6 := BR6.lt
    refine wpAnyL_seq (is := [11, 12]) (by kernel_rfl) (by kernel_rfl) (fun _ _ d _ _ h => by cases d <;> exact h) (by assumption) ?_
    iterate 2 (first | (refine TakeSeqL.step (v := undef) rfl (Or.inr ⟨by rfl, rfl⟩) ?_; simp only [Act.put, List.setIfInBounds_toArray, List.set_cons_zero, List.set_cons_succ, List.getElem_toArray, List.getElem_cons_zero, List.getElem_cons_succ]) | (refine TakeSeqL.step (v := ?_) rfl (Or.inl ⟨by rfl, ?_⟩) ?_; rotate_left 1; (focus (intro wq hSq; have hrd := hSq.rule; go_simp; with_reducible rfl)); simp only [Act.put, List.setIfInBounds_toArray, List.set_cons_zero, List.set_cons_succ, List.getElem_toArray, List.getElem_cons_zero, List.getElem_cons_succ]))
    refine TakeSeqL.done ?_
    refine wpAnyL_ready (rs := [13]) (by kernel_rfl) (by simp) ?_
    refine AllReadyL.final rfl (fun K hK => ?_)
    rw [if_pos (by rfl)]
    go_simp
    refine hK.out _ _ ?_
    clear hK K
    refine wpAnyL_done (by kernel_rfl) ?_ _
    go_wp2_with fail
    have hlo1 : lo ≤ w1.heap.size := Nat.le_trans hlo HB1.out.2.1.size
    have hQ6 : QueueAt w6 lo (.slice (some ⟨g6, 0, none⟩) (q.length + 1) c6) (q ++ [⟨x, 0, [], s⟩]) := by
      refine ⟨al ++ [(⟨x, 0, [], s⟩, .slice pv x.words.length cv, .slice none 0 0)], by simp [hal], by simp, ?_, fun t ht => ?_⟩
      · have h1 := RowAt.cast (RowAt.of_own hown6) (n' := (al ++ [((⟨x, 0, [], s⟩, .slice pv x.words.length cv, .slice none 0 0) : Cm.Pend × Value × Value)]).length) (xs' := pdCells (al ++ [(⟨x, 0, [], s⟩, .slice pv x.words.length cv, .slice none 0 0)])) (by simp) (by rw [pdCells_append]; simp [pdCells, pdArr])
        rw [hall, Nat.zero_add] at h1
        exact RowAt.low h1 (by omega)
      · rcases List.mem_append.1 ht with h | h
        · exact ⟨(hws t h).1.below hb6, (hws t h).2.below hb6⟩
        · simp at h
          subst h
          exact ⟨(HB4.out.2.2.1.below hb6).low hlo1, RowAt.nil _ _ _ _, fun _ => rfl⟩
    have ho7 : Over br w6 (w6.setCell ⟨br, o + 3, none⟩ (.slice (some ⟨g6, 0, none⟩) (q.length + 1) c6)) := (Over.refl _ _).put _ _
    refine bodyPost_ret (results_tmp rfl _ _ _) rfl ⟨rfl, ⟨_, BR6.put (o + 3) _, ?_⟩, ?_⟩
    · exact hQ6.mod (S := fun b => b = br) ((Mod.refl _ _).over ho7 (.inl rfl)) (fun k hk => .inl (by omega))
    · exact (Over.of_below (below_step HB4.out.2.1 hb6)).trans ho7
  · skip
    rw [if_pos (by rfl)]
    go_simp
    refine hK.out _ _ (SteadyAll.of (by (repeat (first | with_reducible exact Below.refl _ _ | with_reducible assumption | with_reducible refine Below.setCell ?_ (by first | (simp; done) | (simp; omega)) _ | with_reducible refine below_alloc ?_ _ | with_reducible refine below_drewN ?_ _ | with_reducible refine Below.drew ?_ | with_reducible refine below_step ?_ (by assumption))))) (fun hHeld => ?_)
    clear hK K
    refine wpAnyL_ready (rs := [5]) (by kernel_rfl) (by simp) ?_
    refine AllReadyL.cons rfl (by decide) (fun K hK => ?_) (AllReadyL.nil)
    rw [if_pos (by rfl)]
    refine wp_append_nil (.const (.slice none 0 0)) (.tmp 37) 105 rfl w4.heap.size 208 i0 _ 12 128 Tryz.underlying105 hi hz0 hz1 hz2 rfl (by decide) (.slice none 0 0) 0 [] rfl
      (World.ownsRow_nil _ _ _ _) (.slice pq q.length cq) al.length (pdCells al) rfl (hsrc.alloc (.cells #[.int .i64 x.kind, .int .i64 x.node, .int .i64 x.at_, .int .i64 x.n, .int .u64 x.old, .int .u64 x.new, .slice pv x.words.length cv, .int .u64 1, .int .i64 1, .int .i64 0, .slice none 0 0, .int .i64 s] 208)) (pdCells_len al) (by unfold maxLen; omega) (by omega) (by simp) ?_
    intro v5 w5 hown5 hg5 _
    have hb5 : Below w4.heap.size w4 w5 := below_grown (w := w4) (w1 := w4.drew.alloc _) (by (repeat (first | with_reducible exact Below.refl _ _ | with_reducible assumption | with_reducible refine Below.setCell ?_ (by first | (simp; done) | (simp; omega)) _ | with_reducible refine below_alloc ?_ _ | with_reducible refine below_drewN ?_ _ | with_reducible refine Below.drew ?_ | with_reducible refine below_step ?_ (by assumption)))) hg5 (fun j hj => by simp [Value.ownBlock] at hj)
    have BL5 := (Blk.made w4.drew 208 #[.int .i64 x.kind, .int .i64 x.node, .int .i64 x.at_, .int .i64 x.n, .int .u64 x.old, .int .u64 x.new, .slice pv x.words.length cv, .int .u64 1, .int .i64 1, .int .i64 0, .slice none 0 0, .int .i64 s]).kept (below_grown (w := w4.drew.alloc _) (Below.refl _ _) hg5 (fun j hj => by simp [Value.ownBlock] at hj))
    refine hK.out _ _ (SteadyAll.of hb5) (fun hHeld => ?_)
    clear hK K
    simp only [Act.put, List.setIfInBounds_toArray, List.set_cons_zero, List.set_cons_succ, List.getElem_toArray, List.getElem_cons_zero, List.getElem_cons_succ]
    refine wpAnyL_ready (rs := [10]) (by kernel_rfl) (by simp) ?_
    refine AllReadyL.cons rfl (by decide) (fun K hK => ?_) (AllReadyL.nil)
    rw [if_pos (by rfl)]
    have h45 : w4.heap.size ≤ w5.heap.size := hb5.size
    refine wp_append_mine (.tmp 38) (.tmp 42) 105 rfl w4.heap.size 208 i0 _ 12 128 Tryz.underlying105 hi hz0 hz1 hz2 rfl (by decide) v5 (0 + al.length) ([] ++ pdCells al) rfl
      hown5 ⟨w4.heap.size, 0, none⟩ 1 1 ((#[.int .i64 x.kind, .int .i64 x.node, .int .i64 x.at_, .int .i64 x.n, .int .u64 x.old, .int .u64 x.new, .slice pv x.words.length cv, .int .u64 1, .int .i64 1, .int .i64 0, .slice none 0 0, .int .i64 s] : Array Value).toList) rfl rfl (lit_news (o := 0) (cs := #[.int .i64 x.kind, .int .i64 x.node, .int .i64 x.at_, .int .i64 x.n, .int .u64 x.old, .int .u64 x.new, .slice pv x.words.length cv, .int .u64 1, .int .i64 1, .int .i64 0, .slice none 0 0, .int .i64 s]) BL5) (by intro u hu; simp at hu; rcases hu with rfl | rfl | rfl | rfl | rfl | rfl | rfl | rfl | rfl | rfl | rfl | rfl <;> rfl) (by omega) (by unfold maxLen; omega) (by omega) (by omega) ?_
    intro g6 c6 w6 hown6 hg6
    have hb6 : Below w4.heap.size w4 w6 := below_grown (w := w4) (w1 := w5) hb5 hg6 (fun j hj => own_row_ge hown5 j hj)
    refine hK.out _ _ (SteadyAll.of hb6) (fun hHeld => ?_)
    clear hK K
    simp only [Act.put, List.setIfInBounds_toArray, List.set_cons_zero, List.set_cons_succ, List.getElem_toArray, List.getElem_cons_zero, List.getElem_cons_succ]
    have BR6 := HB4.out.1.kept hb6
    have y6 := (BR6.cell (o + 3)).trans h3
    have f6 := BR6.free
    have l6 := BR6.lt
    refine wpAnyL_seq (is := [11, 12]) (by kernel_rfl) (by kernel_rfl) (fun _ _ d _ _ h => by cases d <;> exact h) (by assumption) ?_
    iterate 2 (first | (refine TakeSeqL.step (v := undef) rfl (Or.inr ⟨by rfl, rfl⟩) ?_; simp only [Act.put, List.setIfInBounds_toArray, List.set_cons_zero, List.set_cons_succ, List.getElem_toArray, List.getElem_cons_zero, List.getElem_cons_succ]) | (refine TakeSeqL.step (v := ?_) rfl (Or.inl ⟨by rfl, ?_⟩) ?_; rotate_left 1; (focus (intro wq hSq; have hrd := hSq.rule; go_simp; with_reducible rfl)); simp only [Act.put, List.setIfInBounds_toArray, List.set_cons_zero, List.set_cons_succ, List.getElem_toArray, List.getElem_cons_zero, List.getElem_cons_succ]))
    refine TakeSeqL.done ?_
    refine wpAnyL_ready (rs := [13]) (by kernel_rfl) (by simp) ?_
    refine AllReadyL.final rfl (fun K hK => ?_)
    rw [if_pos (by rfl)]
    go_simp
    refine hK.out _ _ ?_
    clear hK K
    refine wpAnyL_done (by kernel_rfl) ?_ _
    go_wp2_with fail
    have hlo1 : lo ≤ w1.heap.size := Nat.le_trans hlo HB1.out.2.1.size
    have hQ6 : QueueAt w6 lo (.slice (some ⟨g6, 0, none⟩) (q.length + 1) c6) (q ++ [⟨x, 0, [], s⟩]) := by
      refine ⟨al ++ [(⟨x, 0, [], s⟩, .slice pv x.words.length cv, .slice none 0 0)], by simp [hal], by simp, ?_, fun t ht => ?_⟩
      · have h1 := RowAt.cast (RowAt.of_own hown6) (n' := (al ++ [((⟨x, 0, [], s⟩, .slice pv x.words.length cv, .slice none 0 0) : Cm.Pend × Value × Value)]).length) (xs' := pdCells (al ++ [(⟨x, 0, [], s⟩, .slice pv x.words.length cv, .slice none 0 0)])) (by simp) (by rw [pdCells_append]; simp [pdCells, pdArr])
        rw [hall, Nat.zero_add] at h1
        exact RowAt.low h1 (by omega)
      · rcases List.mem_append.1 ht with h | h
        · exact ⟨(hws t h).1.below hb6, (hws t h).2.below hb6⟩
        · simp at h
          subst h
          exact ⟨(HB4.out.2.2.1.below hb6).low hlo1, RowAt.nil _ _ _ _, fun _ => rfl⟩
    have ho7 : Over br w6 (w6.setCell ⟨br, o + 3, none⟩ (.slice (some ⟨g6, 0, none⟩) (q.length + 1) c6)) := (Over.refl _ _).put _ _
    refine bodyPost_ret (results_tmp rfl _ _ _) rfl ⟨rfl, ⟨_, BR6.put (o + 3) _, ?_⟩, ?_⟩
    · exact hQ6.mod (S := fun b => b = br) ((Mod.refl _ _).over ho7 (.inl rfl)) (fun k hk => .inl (by omega))
    · exact (Over.of_below (below_step HB4.out.2.1 hb6)).trans ho7
end Go.Proofs.YtoidjgongafnkaaGreatDoor
