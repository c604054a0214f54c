/- Package commit: the committer in memory; a verb that it addresses. Package commit: the same verb for each member. Package commit: one step of the conversation. Package commit: words into the log; body and mark. -/
import Derived.Test.YtoidjgongafnkaaGreatDoorWCn
import Derived.Test.YtoidjgongafnkaaGreatDoorQe
import Derived.Test.YtoidjgongafnkaaGreatDoorWCj
import Derived.Test.YtoidjgongafnkaaGreatDoorQd
set_option linter.unusedVariables false
set_option linter.unusedSimpArgs false
set_option linter.unusedSectionVars false
set_option linter.constructorNameAsVariable false
namespace Go.Proofs.YtoidjgongafnkaaGreatDoor
open Go.RowKit

/-- A committer in block c, its conversation in block t. -/
def cmtCells (t : Nat) (vm vr vw : Value) : Array Value := #[.int .i64 0, .int .i64 1, .int .i64 108, .int .i64 0, vm, vr, vw, .pointer (some ⟨t, 0, none⟩), .int .i64 0, .int .i64 1, .bool true]

set_option maxRecDepth 10000 in
set_option maxHeartbeats 1000000 in
theorem cAddress_ok (x : Cm.Vb) (lo c t : Nat) (p : Option Addr) (n cp : Nat) (vr vw : Value) (q : Option Addr) (d : Nat) (fl : Bool) (w : World) (hc : Blk w c 77 (cmtCells t (.slice p n cp) vr vw))
    (h : WordsAt w lo (.slice q x.words.length d) x.words) (hq : q = none ∧ d = 0 ∨ 0 < x.words.length) (hx2 : x.words.length ≤ 1000) :
    Calls Tryz.prog 70 #[.pointer (some ⟨c, 0, none⟩), .agg #[.int .i64 x.node, .int .i64 1, .bool fl], .agg (rawArr x (.slice q x.words.length d))] w (AddrPost x w) := by
  have HA : Hid (∀ W, Below w.heap.size w W → Calls Tryz.prog 123 #[.agg #[.int .i64 0, .slice p n cp], .agg #[.int .i64 x.node, .int .i64 1, .bool fl], .bool true, .agg (rawArr x (.slice q x.words.length d))] W (AddrPost x W)) :=
    Lib.hid (fun W hb => address_ok x lo p n cp q _ d fl W (h.below hb) hq hx2)
  have HC := Lib.hid hc
  unfold rawArr at HA ⊢
  clear h hq hc
  go_enter Tryz.func70, Tryz.ntmps70
  go_wp2_with fail
  generalize hW : World.alloc _ _ = W
  have BM : Blk W w.heap.size 75 #[.int .i64 x.node, .int .i64 1, .bool fl] := by rw [← hW]; exact ((Blk.made w _ _).alloc _).alloc _
  have BX : Blk W (w.heap.size + 1) 147 #[.int .i64 x.kind, .int .i64 0, .int .i64 x.at_, .int .i64 x.n, .int .u64 x.old, .int .u64 x.new, .slice q x.words.length d, .int .u64 0, .int .i64 0] := by rw [← hW]; refine Blk.alloc (Blk.made' ?_) _; simp
  have BR : Blk W (w.heap.size + 1 + 1) 147 #[.int .i64 0, .int .i64 0, .int .i64 0, .int .i64 0, .int .u64 0, .int .u64 0, .slice none 0 0, .int .u64 0, .int .i64 0] := by rw [← hW]; exact Blk.made' (by simp)
  have hbW : Below w.heap.size w W := by rw [← hW]; (repeat (first | with_reducible exact Below.refl _ _ | with_reducible assumption | with_reducible refine Below.setCell ?_ (by first | (simp; done) | (simp; omega)) _ | with_reducible refine below_alloc ?_ _ | with_reducible refine below_drewN ?_ _ | with_reducible refine Below.drew ?_ | with_reducible refine below_step ?_ (by assumption)))
  have BC : Blk W c 77 #[.int .i64 0, .int .i64 1, .int .i64 108, .int .i64 0, .slice p n cp, vr, vw, .pointer (some ⟨t, 0, none⟩), .int .i64 0, .int .i64 1, .bool true] := HC.out.kept hbW
  have km := BM.cell
  have kx := BX.cell
  have kc := BC.cell
  have lm := BM.lt
  have lx := BX.lt
  have lc := BC.lt
  have hcw : c < w.heap.size := HC.out.lt
  have HBR := Lib.hid (And.intro BR hbW)
  have lr := BR.lt
  clear hW BM BX BR BC hbW
  have l0 : w.heap.size < w.heap.size + 1 + 1 := by omega
  have l1 : w.heap.size + 1 < w.heap.size + 1 + 1 := by omega
  have l2 : c < w.heap.size + 1 + 1 := by omega
  refine wp_region_held_drew (S := SteadyBut (w.heap.size + 1 + 1) _) (by kernel_rfl) (SteadyBut.of (Below.refl _ _).drew) ?_
  intro hSt
  refine wpAnyH_seq (is := [0, 1, 2, 3, 4, 5, 6]) (by kernel_rfl) (by kernel_rfl) (fun _ _ d _ _ h => by cases d <;> exact h) (by assumption) ?_
  iterate 7 (first | (refine TakeSeq.step (v := undef) rfl (Or.inr ⟨by rfl, rfl⟩) ?_; simp only [Act.put, List.setIfInBounds_toArray, List.set_cons_zero, List.set_cons_succ, List.getElem_toArray, List.getElem_cons_zero, List.getElem_cons_succ]) | (refine TakeSeq.step (v := ?_) rfl (Or.inl ⟨by rfl, ?_⟩) ?_; rotate_left 1; (focus (intro wq hSq; have hrd := hSq.rule; go_simp; with_reducible rfl)); simp only [Act.put, List.setIfInBounds_toArray, List.set_cons_zero, List.set_cons_succ, List.getElem_toArray, List.getElem_cons_zero, List.getElem_cons_succ]))
  refine TakeSeq.done ?_
  refine wpAnyH_ready (rs := [7]) (by kernel_rfl) (by simp) ?_
  refine AllReadyH.cons rfl (fun K hK => ?_) (AllReadyH.nil)
  rw [if_pos (by rfl)]
  go_simp
  go_at_call 123; refine (HA.out _ (below_step HBR.out.2 (by (repeat (first | with_reducible exact Below.refl _ _ | with_reducible assumption | with_reducible refine Below.setCell ?_ (by first | (simp; done) | (simp; omega)) _ | with_reducible refine below_alloc ?_ _ | with_reducible refine below_drewN ?_ _ | with_reducible refine Below.drew ?_ | with_reducible refine below_step ?_ (by assumption)))))).mono ?_; rintro e w1 ⟨⟨v, rfl, hwv⟩, hb⟩
  go_wp2_with fail
  refine hK.out _ _ (SteadyBut.of (by (repeat (first | with_reducible exact Below.refl _ _ | with_reducible assumption | with_reducible refine Below.setCell ?_ (by first | (simp; done) | (simp; omega)) _ | with_reducible refine below_alloc ?_ _ | with_reducible refine below_drewN ?_ _ | with_reducible refine Below.drew ?_ | with_reducible refine below_step ?_ (by assumption))))) (fun hHeld => ?_)
  clear hK K
  obtain ⟨pv, cv, rfl⟩ := RowAt.shape hwv
  have B1 : Blk w1 (w.heap.size + 1 + 1) 147 _ := Blk.kept (Blk.drew HBR.out.1) hb
  have hw1 : WordsAt w1 w.heap.size (.slice pv x.words.length cv) x.words := RowAt.low hwv (by have := HBR.out.2.size; exact this)
  have hb1 : Below w.heap.size w w1 := by have := HBR.out.2; (repeat (first | with_reducible exact Below.refl _ _ | with_reducible assumption | with_reducible refine Below.setCell ?_ (by first | (simp; done) | (simp; omega)) _ | with_reducible refine below_alloc ?_ _ | with_reducible refine below_drewN ?_ _ | with_reducible refine Below.drew ?_ | with_reducible refine below_step ?_ (by assumption)))
  have HB1 := Lib.hid (And.intro B1 (And.intro hw1 hb1))
  have k1 := B1.cell
  have f1 := B1.free
  clear B1 hw1 hb1 hwv km kx kc
  unfold vbArr
  refine wpAnyH_ready (rs := [8]) (by kernel_rfl) (by simp) ?_
  refine AllReadyH.cons rfl (fun K hK => ?_) (AllReadyH.nil)
  rw [if_pos (by rfl)]
  go_simp
  refine hK.out _ _ (SteadyBut.over (by (repeat (first | with_reducible exact Over.refl _ _ | with_reducible assumption | with_reducible refine Over.put ?_ _ _ | with_reducible refine Over.alloc ?_ _ | with_reducible refine Over.drew ?_ | with_reducible refine Over.own ?_ (by first | (simp; done) | (simp; omega)) _ | with_reducible refine Over.trans ?_ (by assumption) | with_reducible refine Over.then_below ?_ (by assumption))))) (fun hHeld => ?_)
  clear hK K
  refine wpAnyH_done (by kernel_rfl) ?_ _
  go_wp2_with fail
  have B9 := Blk.all9 HB1.out.1 (.int .i64 x.kind) (.int .i64 x.node) (.int .i64 x.at_) (.int .i64 x.n) (.int .u64 x.old) (.int .u64 x.new) (.slice pv x.words.length cv) (.int .u64 1) (.int .i64 1)
  have ho9 : Over (w.heap.size + 1 + 1) w1 _ := (((((((((Over.refl (w.heap.size + 1 + 1) w1).put 0 (.int .i64 x.kind)).put 1 (.int .i64 x.node)).put 2 (.int .i64 x.at_)).put 3 (.int .i64 x.n)).put 4 (.int .u64 x.old)).put 5 (.int .u64 x.new)).put 6 (.slice pv x.words.length cv)).put 7 (.int .u64 1)).put 8 (.int .i64 1)
  have hw9 := WordsAt.mod (S := fun b => b = w.heap.size + 1 + 1) HB1.out.2.1 ((Mod.refl _ _).over ho9 (.inl rfl)) (fun b hb => .inr ⟨_, _, hb ▸ HB1.out.1, by decide⟩)
  have hb9 : Below w.heap.size w _ := below_grown HB1.out.2.2 ho9 (fun j hj => by injection hj with hj; omega)
  refine bodyPost_ret (results_b rfl _ _ (w.heap.size + 1 + 1) _ _ _ rfl B9 Tryz.underlying147 rfl (by kernel_rfl)) rfl ⟨⟨_, rfl, hw9⟩, hb9⟩
end Go.Proofs.YtoidjgongafnkaaGreatDoor
namespace Go.Proofs.YtoidjgongafnkaaGreatDoor
open Go.RowKit

/-- Verbs in a row of the call's own. -/
def AskRow (w : World) (base : Nat) (v : Value) (l : List Cm.Vb) : Prop :=
  ∃ al : List (Cm.Vb × Value), al.map (·.1) = l ∧ w.ownsRow base 147 9 v al.length (askCells al) ∧ ∀ t ∈ al, WordsAt w base t.2 t.1.words
theorem AskRow.below {w w' : World} {base : Nat} {v : Value} {l : List Cm.Vb} (h : AskRow w base v l) (hb : Below w.heap.size w w') : AskRow w' base v l := by
  obtain ⟨al, h1, h2, h3⟩ := h
  exact ⟨al, h1, own_below h2 hb, fun t ht => (h3 t ht).below hb⟩
theorem AskRow.asks {w : World} {base : Nat} {v : Value} {l : List Cm.Vb} (h : AskRow w base v l) : AsksAt w base v l := by
  obtain ⟨al, h1, h2, h3⟩ := h
  exact ⟨al, h1, RowAt.of_own h2, h3⟩
theorem AskRow.low {w : World} {base base' : Nat} {v : Value} {l : List Cm.Vb} (h : AskRow w base v l) (hl : base' ≤ base) : AskRow w base' v l := by
  obtain ⟨al, h1, h2, h3⟩ := h
  exact ⟨al, h1, own_base h2 hl, fun t ht => RowAt.low (h3 t ht) hl⟩
theorem AskRow.nil (w : World) (base : Nat) : AskRow w base (.slice none 0 0) [] := ⟨[], rfl, World.ownsRow_nil _ _ _ _, by simp⟩
theorem grown_words {w w' : World} {lo base n : Nat} {u v : Value} {ws : List Int} {xs : List Value} {t : TypeId} {sz : Nat} (h : WordsAt w lo u ws) (hown : w.ownsRow base t sz v n xs) (ht : t ≠ 33) (hg : w.grownBy w' v.ownBlock) : WordsAt w' lo u ws := by
  refine WordsAt.mod (S := fun b => v.ownBlock = some b) h ⟨hg.os, hg.tape, hg.output, hg.size, fun k hk hn => hg.block k hk (fun e => hn e.symm)⟩ (fun b hb => ?_)
  rcases hown.2 with ⟨rfl, _⟩ | ⟨g, cap, cur, rfl, _, hc, _⟩
  · simp [Value.ownBlock] at hb
  · simp [Value.ownBlock] at hb
    subst hb
    exact .inr ⟨t, cur, hc, ht⟩
theorem askCells_append (a b : List (Cm.Vb × Value)) : askCells (a ++ b) = askCells a ++ askCells b := by simp [askCells]
theorem AskRow.push {w w' : World} {base : Nat} {v v' : Value} {al : List (Cm.Vb × Value)} (hown : w.ownsRow base 147 9 v al.length (askCells al)) (hws : ∀ t ∈ al, WordsAt w base t.2 t.1.words)
    (al2 : List (Cm.Vb × Value)) (hws2 : ∀ t ∈ al2, WordsAt w base t.2 t.1.words) {n : Nat} (hn : n = al.length + al2.length) {xs : List Value} (hx : xs = askCells al ++ askCells al2) (hown' : w'.ownsRow base 147 9 v' n xs) (hg : w.grownBy w' v.ownBlock) :
    AskRow w' base v' (al.map (·.1) ++ al2.map (·.1)) := by
  refine ⟨al ++ al2, by simp, ?_, fun t ht => ?_⟩
  · rw [askCells_append, List.length_append, ← hn, ← hx]
    exact hown'
  · refine grown_words ?_ hown (by decide) hg
    rcases List.mem_append.1 ht with h | h
    · exact hws t h
    · exact hws2 t h
theorem askCells_len (a : List (Cm.Vb × Value)) : (askCells a).length = a.length * 9 := flat_len _ 9 (fun _ => rfl) a
theorem vbCells_one (x : Cm.Vb) (p : Option Addr) (n c : Nat) : ∀ u ∈ vbCells x (.slice p n c), u.oneCell' = true := by
  intro u hu
  simp [vbCells] at hu
  rcases hu with rfl | rfl | rfl | rfl | rfl | rfl | rfl | rfl | rfl <;> rfl
theorem infoVerb : (Tryz.prog.info? 147).map (fun i => (i.zero, i.size, i.bytes)) = some (some (.agg #[.int .i64 0, .int .i64 0, .int .i64 0, .int .i64 0, .int .u64 0, .int .u64 0, .slice none 0 0, .int .u64 0, .int .i64 0]), 9, 88) := by kernel_rfl

/-- The verbs of k members. -/
def forAll (x : Cm.Vb) (k : Nat) : List Cm.Vb := (List.range k).map fun i => { x with node := i }
theorem forAll_succ (x : Cm.Vb) (k : Nat) : forAll x (k + 1) = forAll x k ++ [{ x with node := k }] := by simp [forAll, List.range_succ]
def AllLoop (x : Cm.Vb) (m : Nat) (W : World) (v i : Value) (wr : World) : Prop := ∃ k : Nat, k ≤ m ∧ i = .int .i64 k ∧ Hid (AskRow wr W.heap.size v (forAll x k) ∧ Below W.heap.size W wr)
def AsksPost (l : List Cm.Vb) (w : World) (e : Ending) (w' : World) : Prop := (∃ v, e = .returned v ∧ AskRow w' w.heap.size v l) ∧ Below w.heap.size w w'

set_option maxRecDepth 10000 in
set_option maxHeartbeats 1000000 in
theorem cAll_ok (x : Cm.Vb) (lo c t m g cm : Nat) (vr vw : Value) (q : Option Addr) (d : Nat) (w : World) (hm : m ≤ 5) (hc : Blk w c 77 (cmtCells t (.slice (some ⟨g, 0, none⟩) m cm) vr vw))
    (hmem : w.ownsRow lo 75 3 (.slice (some ⟨g, 0, none⟩) m cm) m (memCells m))
    (h : WordsAt w lo (.slice q x.words.length d) x.words) (hq : q = none ∧ d = 0 ∨ 0 < x.words.length) (hx2 : x.words.length ≤ 1000) :
    Calls Tryz.prog 119 #[.pointer (some ⟨c, 0, none⟩), .agg (rawArr x (.slice q x.words.length d))] w (AsksPost (forAll x m) w) := by
  obtain ⟨i0, hi, hz0, hz1, hz2⟩ := info_parts infoVerb
  have HA : Hid (∀ W, Below w.heap.size w W → ∀ i : Nat, Calls Tryz.prog 70 #[.pointer (some ⟨c, 0, none⟩), .agg #[.int .i64 i, .int .i64 1, .bool true], .agg (rawArr x (.slice q x.words.length d))] W (AddrPost { x with node := i } W)) :=
    Lib.hid (fun W hb i => cAddress_ok { x with node := i } lo c t (some ⟨g, 0, none⟩) m cm vr vw q d true W (hc.kept hb) (h.below hb) hq hx2)
  have HM : Hid (∀ W, Below w.heap.size w W → ∀ k, k < m → W.cell? ⟨g, k * 3, none⟩ = some (.int .i64 (k : Int)) ∧ W.cell? ⟨g, k * 3 + 1, none⟩ = some (.int .i64 1) ∧ W.cell? ⟨g, k * 3 + 2, none⟩ = some (.bool true)) :=
    Lib.hid (fun W hb k hk => mem_cell (own_below hmem hb) k hk)
  have HG := Lib.hid (own_lt hmem).2
  have HC : Hid (Blk w c 77 #[.int .i64 0, .int .i64 1, .int .i64 108, .int .i64 0, .slice (some ⟨g, 0, none⟩) m cm, vr, vw, .pointer (some ⟨t, 0, none⟩), .int .i64 0, .int .i64 1, .bool true]) := Lib.hid hc
  have kc := HC.out.cell
  have lc := HC.out.lt
  unfold rawArr at HA ⊢
  clear h hq hc hmem
  go_enter Tryz.func119, Tryz.ntmps119
  go_wp2_with fail
  generalize hW : World.alloc _ _ = W
  have BX : Blk W w.heap.size 147 #[.int .i64 x.kind, .int .i64 0, .int .i64 x.at_, .int .i64 x.n, .int .u64 x.old, .int .u64 x.new, .slice q x.words.length d, .int .u64 0, .int .i64 0] := by rw [← hW]; exact Blk.made w _ _
  have hbW : Below w.heap.size w W := by rw [← hW]; (repeat (first | with_reducible exact Below.refl _ _ | with_reducible assumption | with_reducible refine Below.setCell ?_ (by first | (simp; done) | (simp; omega)) _ | with_reducible refine below_alloc ?_ _ | with_reducible refine below_drewN ?_ _ | with_reducible refine Below.drew ?_ | with_reducible refine below_step ?_ (by assumption)))
  have HX : Hid (∀ wr, Below W.heap.size W wr → Blk wr w.heap.size 147 #[.int .i64 x.kind, .int .i64 0, .int .i64 x.at_, .int .i64 x.n, .int .u64 x.old, .int .u64 x.new, .slice q x.words.length d, .int .u64 0, .int .i64 0]) := Lib.hid (fun wr h => BX.kept h)
  have HBW := Lib.hid hbW
  clear kc hW BX hbW
  go_loopw [5, 15] (fun v i wr => AllLoop x m W v i wr) (fun _ i _ => ((m : Int) - intOf i).toNat)
  case atStart => exact ⟨0, by omega, rfl, Lib.hid ⟨AskRow.nil _ _, Below.refl _ _⟩⟩
  case round =>
    obtain ⟨k, hk, rfl, H⟩ := hrel
    have hb2 : Below W.heap.size W wr := H.out.2
    have hb1 : Below w.heap.size w wr := below_step HBW.out hb2
    by_cases hk2 : k < m
    · have b1 : decide ((k : Int) < m) = true := by simp; omega
      have bk0 : (0 : Int) ≤ k := by omega
      have bk1 : (k : Int) < m := by omega
      obtain ⟨c0, c1, c2⟩ := HM.out wr hb1 k hk2
      have kx := (HX.out wr hb2).cell
      have lx := (HX.out wr hb2).lt
      go_wp2_with fail
      go_at_call 70
      refine (HA.out _ (by (repeat (first | with_reducible exact Below.refl _ _ | with_reducible assumption | with_reducible refine Below.setCell ?_ (by first | (simp; done) | (simp; omega)) _ | with_reducible refine below_alloc ?_ _ | with_reducible refine below_drewN ?_ _ | with_reducible refine Below.drew ?_ | with_reducible refine below_step ?_ (by assumption)))) k).mono ?_
      rintro e w2 ⟨⟨v2, rfl, hwv⟩, hb3⟩
      obtain ⟨pv, cv, rfl⟩ := RowAt.shape hwv
      have hb4 : Below wr.heap.size wr w2 := by (repeat (first | with_reducible exact Below.refl _ _ | with_reducible assumption | with_reducible refine Below.setCell ?_ (by first | (simp; done) | (simp; omega)) _ | with_reducible refine below_alloc ?_ _ | with_reducible refine below_drewN ?_ _ | with_reducible refine Below.drew ?_ | with_reducible refine below_step ?_ (by assumption)))
      have HR := H.out.1.below hb4
      obtain ⟨al, hal, hown, hws⟩ := HR
      have hall : al.length = k := by have := congrArg List.length hal; simpa [forAll] using this
      have hwW : W.heap.size ≤ wr.heap.size := hb2.size
      have hw2s : wr.heap.size ≤ w2.heap.size := hb4.size
      unfold vbArr
      clear kx c0 c1 c2
      go_wp2_with (at_builtin; refine halt ?_)
      refine unhalt ?_
      refine wpList_append_mine rfl (.tmp 19) (.tmp 24) 40 rfl W.heap.size 147 i0 _ 9 88 Tryz.underlying40 hi hz0 hz1 hz2 rfl (by decide) _ al.length (askCells al) rfl
        (own_below hown (below_alloc (Below.refl _ _) _)) ⟨w2.heap.size, 0, none⟩ 1 1 (vbCells { x with node := k } (.slice pv x.words.length cv)) rfl rfl
        (lit_news (o := 0) (cs := vbArr { x with node := k } (.slice pv x.words.length cv)) (Blk.made _ _ _)) (vbCells_one _ _ _ _) (by omega) (by unfold maxLen; omega) (by omega) (by simp; omega) ?_
      intro g4 cap4 w4 hown4 hg4
      have hb5 : Below W.heap.size W w4 := below_grown (w := W) (w1 := w2.alloc _) (by (repeat (first | with_reducible exact Below.refl _ _ | with_reducible assumption | with_reducible refine Below.setCell ?_ (by first | (simp; done) | (simp; omega)) _ | with_reducible refine below_alloc ?_ _ | with_reducible refine below_drewN ?_ _ | with_reducible refine Below.drew ?_ | with_reducible refine below_step ?_ (by assumption)))) hg4 (fun j hj => own_row_ge hown j hj)
      have hA4 := AskRow.push (own_below hown (below_alloc (Below.refl _ _) _)) (fun t ht => (hws t ht).below (below_alloc (Below.refl _ _) _)) [({ x with node := k }, .slice pv x.words.length cv)]
        (fun t ht => by simp at ht; subst ht; exact RowAt.low (WordsAt.below hwv (below_alloc (Below.refl _ _) _)) (by simp; omega)) rfl (by simp [askCells]) hown4 hg4
      have H4 : Hid (AskRow w4 W.heap.size (.slice (some ⟨g4, 0, none⟩) (al.length + 1) cap4) (forAll x (k + 1)) ∧ Below W.heap.size W w4) := Lib.hid ⟨by rw [forAll_succ, ← hal]; exact hA4, hb5⟩
      rw [hall] at H4
      clear hown4 hg4 hA4 hb5 hown hws hwv hal
      go_wp2_with fail
      exact ⟨⟨k + 1, by omega, by simp, H4⟩, by simp [intOf]; omega⟩
    · have b1 : decide ((k : Int) < m) = false := by simp; omega
      obtain rfl : k = m := by omega
      go_wp2_with fail
      refine bodyPost_ret (results_tmp rfl _ _ _) rfl ⟨⟨u5, rfl, H.out.1.low HBW.out.size⟩, hb1⟩
end Go.Proofs.YtoidjgongafnkaaGreatDoor
namespace Go.Proofs.YtoidjgongafnkaaGreatDoor
open Go.RowKit

theorem results_tbt {P : Program} {fn : Func} {p u u2 : Tmp} {ty : TypeId} (h : fn.results = #[.tmp u, .cell p ty, .tmp u2]) (tmps : Array Value) (w : World) (g : Nat) (t : TypeId) (cs : Array Value) (d : TypeDesc)
    (hp : tmps.getD p undef = .pointer (some ⟨g, 0, none⟩)) (hg : Blk w g t cs) (hu : P.underlying ty = some d) (hd : (match d with | .struct _ | .array _ _ => true | _ => false) = true) (hi : (P.info? ty).map (·.size) = some cs.size) :
    (results fn tmps).run P w = .ok (.tuple #[tmps.getD u undef, .agg cs, tmps.getD u2 undef]) w := by
  have e : (results fn tmps).run P w = ((asAddr (tmps.getD p undef)).run P w).andThen fun a w₁ => ((loadVar ty a).run P w₁).andThen fun v w₂ => .ok (.tuple #[tmps.getD u undef, v, tmps.getD u2 undef]) w₂ := by
    simp only [results, h]
    simp [Sem.run_bind, Result.andThen]
  rw [e, hp]
  simp [asAddr, Result.andThen, run_loadVar_row w g t ty cs (0, 0) d hg hu hd hi]

/-- A conversation in block t: the completions that are left, the batch that is waited for. -/
def TkAt (w : World) (t lo : Nat) (gs : List (List (List Int))) (pd : Option (List Cm.Vb)) : Prop :=
  ∃ vg qa na ca, Blk w t 119 #[vg, .slice qa na ca, .bool false] ∧ GotAt w lo vg gs ∧ (pd = none ∧ na = 0 ∨ ∃ l, pd = some l ∧ l ≠ [] ∧ AsksAt w lo (.slice qa na ca) l)
/-- What a batch of l makes of it. -/
def goOn (l : List Cm.Vb) (gs : List (List (List Int))) : Bool := l.isEmpty || !gs.isEmpty
def goGs (l : List Cm.Vb) (gs : List (List (List Int))) : List (List (List Int)) := if l.isEmpty then gs else gs.tail
def goPd (l : List Cm.Vb) (gs : List (List (List Int))) : Option (List Cm.Vb) := if goOn l gs then none else some l
/-- The next completions, if there are any, are good. -/
def Fits (l : List Cm.Vb) (gs : List (List (List Int))) : Prop := l ≠ [] → ∀ g gs', gs = g :: gs' → g = l.map Cm.reply
theorem TkAt.below {w w' : World} {t lo : Nat} {gs : List (List (List Int))} {pd : Option (List Cm.Vb)} (h : TkAt w t lo gs pd) (hb : Below w.heap.size w w') : TkAt w' t lo gs pd := by
  obtain ⟨vg, qa, na, ca, h1, h2, h3⟩ := h
  refine ⟨vg, qa, na, ca, h1.kept hb, h2.below hb, ?_⟩
  rcases h3 with h3 | ⟨l, h4, h5, h6⟩
  · exact .inl h3
  · exact .inr ⟨l, h4, h5, h6.below hb⟩
theorem TkAt.lt {w : World} {t lo : Nat} {gs : List (List (List Int))} {pd : Option (List Cm.Vb)} (h : TkAt w t lo gs pd) : t < w.heap.size := by
  obtain ⟨vg, qa, na, ca, h1, h2, h3⟩ := h
  exact h1.lt
theorem AsksAt.over {w w' : World} {lo b : Nat} {t' : TypeId} {cs : Array Value} {v : Value} {l : List Cm.Vb} (h : AsksAt w lo v l) (ho : Over b w w') (hb : Blk w b t' cs) (h1 : t' ≠ 147) (h2 : t' ≠ 33) : AsksAt w' lo v l := by
  obtain ⟨al, e1, e2, e3⟩ := h
  have hm : Mod (fun k => k = b) w w' := (Mod.refl _ w).over ho (.inl rfl)
  exact ⟨al, e1, e2.mod hm (fun k hk => .inr ⟨t', cs, hk ▸ hb, h1⟩), fun t ht => (e3 t ht).mod hm (fun k hk => .inr ⟨t', cs, hk ▸ hb, h2⟩)⟩

theorem TkAt.over {w w' : World} {t lo b : Nat} {t' : TypeId} {cs : Array Value} {gs : List (List (List Int))} {pd : Option (List Cm.Vb)} (h : TkAt w t lo gs pd) (ho : Over b w w') (hb : Blk w b t' cs)
    (h1 : t' ≠ 151) (h2 : t' ≠ 33) (h3 : t' ≠ 50) (h4 : t' ≠ 147) (h5 : t' ≠ 119) : TkAt w' t lo gs pd := by
  obtain ⟨vg, qa, na, ca, e1, e2, e3⟩ := h
  refine ⟨vg, qa, na, ca, e1.grown ho (fun e => by injection e with e; subst e; exact h5 (hb.type e1).1), e2.over ho hb h1 h2 h3, ?_⟩
  rcases e3 with e3 | ⟨l, e4, e5, e6⟩
  · exact .inl e3
  · exact .inr ⟨l, e4, e5, e6.over ho hb h4 h2⟩
/-- talk.Batch, whatever there is. -/
def BatPost (t lo : Nat) (l : List Cm.Vb) (gs : List (List (List Int))) (w : World) (e : Ending) (w' : World) : Prop :=
  (∃ u, e = .returned (.tuple #[u, .bool (goOn l gs)]) ∧ (goOn l gs = true → DonesAt w' lo u (l.map Cm.reply)) ∧ (∃ p n c, u = .slice p n c)) ∧ TkAt w' t lo (goGs l gs) (goPd l gs) ∧ Over t w w'
theorem bat_ok (t lo : Nat) (va : Value) (l : List Cm.Vb) (gs : List (List (List Int))) (hl : l.length ≤ 1000) (hg : ∀ x ∈ l, x.Good) (w : World) (ht : TkAt w t lo gs none) (hlo : True) (ha : AsksAt w lo va l) (hf : Fits l gs) :
    Calls Tryz.prog 124 #[.pointer (some ⟨t, 0, none⟩), va] w (BatPost t lo l gs w) := by
  obtain ⟨vg, qa, na, ca, h1, h2, h3⟩ := ht
  obtain ⟨rfl⟩ : na = 0 := by
    rcases h3 with h3 | ⟨l, h4, _⟩
    · exact h3.2
    · cases h4
  obtain ⟨pa, cpa, rfl⟩ := ha.shape
  rcases l with _ | ⟨x, l⟩
  · refine (batch_none t pa cpa w).mono ?_
    rintro e w' ⟨rfl, rfl⟩
    exact ⟨⟨_, rfl, fun _ => ⟨[], rfl, RowAt.nil _ _ _ _, by simp⟩, _, _, _, rfl⟩, ⟨vg, qa, 0, ca, h1, h2, .inl ⟨rfl, rfl⟩⟩, Over.refl _ _⟩
  · rcases gs with _ | ⟨g, gs⟩
    · obtain ⟨q, d, rfl⟩ := h2.nil
      refine (batch_waits t pa q qa (x :: l).length cpa d 0 ca false (by simp) w h1).mono ?_
      rintro e w' ⟨rfl, hb, ho⟩
      exact ⟨⟨_, rfl, fun h => by simp [goOn] at h, _, _, _, rfl⟩, ⟨_, pa, _, cpa, hb, (h2.over ho h1 (by decide) (by decide) (by decide)), .inr ⟨x :: l, rfl, by simp, ha.over ho h1 (by decide) (by decide)⟩⟩, ho⟩
    · obtain rfl := hf (by simp) g gs rfl
      refine (batch_got lo lo t vg _ qa 0 ca false (x :: l) gs (by simp) hl hg w h1 h2 hlo ha).mono ?_
      rintro e w' ⟨u, vg', rfl, hd, hgot, hb, ho⟩
      obtain ⟨p, c, hp⟩ := hd.shape
      exact ⟨⟨u, rfl, fun _ => hd, p, _, c, hp⟩, ⟨vg', qa, 0, ca, hb, hgot, .inl ⟨rfl, rfl⟩⟩, ho⟩

/-- (*committer).step -/
def StepPost (t lo : Nat) (l : List Cm.Vb) (gs : List (List (List Int))) (w : World) (e : Ending) (w' : World) : Prop :=
  (∃ u, e = .returned (.tuple #[u, .agg #[.int .i64 0, .int .i64 0], .bool (goOn l gs)]) ∧ (goOn l gs = true → DonesAt w' lo u (l.map Cm.reply)) ∧ (∃ p n c, u = .slice p n c)) ∧ TkAt w' t lo (goGs l gs) (goPd l gs) ∧ Over t w w'
set_option maxRecDepth 10000 in
set_option maxHeartbeats 1000000 in
theorem step_ok (c t lo : Nat) (vm vr vw va : Value) (fate : Int) (l : List Cm.Vb) (gs : List (List (List Int))) (hl : l.length ≤ 1000) (hg : ∀ x ∈ l, x.Good) (w : World) (hc : Blk w c 77 (cmtCells t vm vr vw)) (ht : TkAt w t lo gs none) (hlo : True) (ha : AsksAt w lo va l) (hf : Fits l gs) :
    Calls Tryz.prog 72 #[.pointer (some ⟨c, 0, none⟩), va, .int .i64 fate] w (StepPost t lo l gs w) := by
  obtain ⟨pa, cpa, rfl⟩ := ha.shape
  have HB : Hid (∀ W, Below w.heap.size w W → Calls Tryz.prog 124 #[.pointer (some ⟨t, 0, none⟩), .slice pa l.length cpa] W (BatPost t lo l gs W)) := Lib.hid (fun W hb => bat_ok t lo _ l gs hl hg W (ht.below hb) hlo (ha.below hb) hf)
  have k7 : w.cell? ⟨c, 7, none⟩ = some (.pointer (some ⟨t, 0, none⟩)) := hc.cell 7
  have lc := hc.lt
  have HT := Lib.hid ht.lt
  obtain ⟨ok, hok⟩ : ∃ ok, ok = goOn l gs := ⟨_, rfl⟩
  have HL := Lib.hid hl
  clear hc ht ha hf hg hl
  go_enter Tryz.func72, Tryz.ntmps72
  go_wp2_with fail
  go_at_call 124
  refine (HB.out _ (by (repeat (first | with_reducible exact Below.refl _ _ | with_reducible assumption | with_reducible refine Below.setCell ?_ (by first | (simp; done) | (simp; omega)) _ | with_reducible refine below_alloc ?_ _ | with_reducible refine below_drewN ?_ _ | with_reducible refine Below.drew ?_ | with_reducible refine below_step ?_ (by assumption))))).mono ?_
  rintro e w1 ⟨⟨u, rfl, hd, p, n, c1, rfl⟩, htk, ho⟩
  rw [← hok] at hd ⊢
  have hrt : ∀ j, some t = some j → j < w.heap.size := fun j hj => by injection hj with hj; rw [← hj]; exact HT.out
  have BR : Blk w1 w.heap.size 43 #[.int .i64 0, .int .i64 0] := (Blk.made w _ _).grown ho (fun e => by have := hrt _ e.symm; omega)
  have ho1 : Over t w w1 := (Over.of_below (below_alloc (Below.refl _ _) _)).trans ho
  have HR := Lib.hid (And.intro BR (And.intro htk ho1))
  have kr := BR.cell
  have fr := BR.free
  have HD := Lib.hid hd
  have HOK := Lib.hid hok
  clear BR ho ho1 htk hd hrt hok
  rcases ok with _ | _
  · go_wp2_with fail
    have hx := HR.out
    have ho2 : Over t w ((w1.setCell ⟨w.heap.size, 0, none⟩ (.int .i64 0)).setCell ⟨w.heap.size, 1, none⟩ (.int .i64 0)) := (hx.2.2.own (by simp) _).own (by simp) _
    have ho3 : Over w.heap.size w1 ((w1.setCell ⟨w.heap.size, 0, none⟩ (.int .i64 0)).setCell ⟨w.heap.size, 1, none⟩ (.int .i64 0)) := by (repeat (first | with_reducible exact Over.refl _ _ | with_reducible assumption | with_reducible refine Over.put ?_ _ _ | with_reducible refine Over.alloc ?_ _ | with_reducible refine Over.drew ?_ | with_reducible refine Over.own ?_ (by first | (simp; done) | (simp; omega)) _ | with_reducible refine Over.trans ?_ (by assumption) | with_reducible refine Over.then_below ?_ (by assumption)))
    refine bodyPost_ret (results_tbt rfl _ _ w.heap.size _ _ _ rfl (Blk.all2 hx.1 _ _) Tryz.underlying43 rfl (by kernel_rfl)) rfl
      ⟨⟨.slice none 0 0, by rw [← HOK.out]; rfl, fun h => by rw [← HOK.out] at h; simp at h, _, _, _, rfl⟩, hx.2.1.over ho3 hx.1 (by decide) (by decide) (by decide) (by decide) (by decide), ho2⟩
  · go_wp2_with fail
    go_at_call 125
    refine (first_ok lo _ (l.map Cm.reply) (by simpa using HL.out) _ (HD.out (by simp))).mono ?_
    rintro e w2 ⟨rfl, hb⟩
    have BR2 := HR.out.1.kept hb
    have kr2 := BR2.cell
    have fr2 := BR2.free
    have HR2 := Lib.hid (And.intro BR2 hb)
    clear kr fr BR2 hb
    go_wp2_with fail
    have hx := HR.out
    have hy := HR2.out
    have ho2 : Over t w ((w2.setCell ⟨w.heap.size, 0, none⟩ (.int .i64 0)).setCell ⟨w.heap.size, 1, none⟩ (.int .i64 0)) := ((hx.2.2.then_below hy.2).own (by simp) _).own (by simp) _
    have ho3 : Over w.heap.size w2 ((w2.setCell ⟨w.heap.size, 0, none⟩ (.int .i64 0)).setCell ⟨w.heap.size, 1, none⟩ (.int .i64 0)) := by (repeat (first | with_reducible exact Over.refl _ _ | with_reducible assumption | with_reducible refine Over.put ?_ _ _ | with_reducible refine Over.alloc ?_ _ | with_reducible refine Over.drew ?_ | with_reducible refine Over.own ?_ (by first | (simp; done) | (simp; omega)) _ | with_reducible refine Over.trans ?_ (by assumption) | with_reducible refine Over.then_below ?_ (by assumption)))
    refine bodyPost_ret (results_tbt rfl _ _ w.heap.size _ _ _ rfl (Blk.all2 hy.1 _ _) Tryz.underlying43 rfl (by kernel_rfl)) rfl
      ⟨⟨.slice p n c1, by rw [← HOK.out]; rfl, fun _ => ((HD.out (by simp)).below hy.2).over ho3 hy.1 (by decide) (by decide), _, _, _, rfl⟩, (hx.2.1.below hy.2).over ho3 hy.1 (by decide) (by decide) (by decide) (by decide) (by decide), ho2⟩
end Go.Proofs.YtoidjgongafnkaaGreatDoor
namespace Go.Proofs.YtoidjgongafnkaaGreatDoor
open Go.RowKit

/-- A step of a commit: the batch l. -/
def FnPost (t lo : Nat) (l : List Cm.Vb) (gs : List (List (List Int))) (w : World) (e : Ending) (w' : World) : Prop :=
  e = .returned (.tuple #[.agg #[.int .i64 0, .int .i64 0], .bool (goOn l gs)]) ∧ TkAt w' t lo (goGs l gs) (goPd l gs) ∧ Over t w w'
/-- A commit under way: its job, its conversation. -/
structure CAt (w : World) (lo c t m r k : Nat) (vm vr vw : Value) : Prop where
  blk : Blk w c 77 (cmtCells t vm vr vw)
  job : JobAt w lo m r k vm vr vw
theorem CAt.below {w w' : World} {lo c t m r k : Nat} {vm vr vw : Value} (h : CAt w lo c t m r k vm vr vw) (hb : Below w.heap.size w w') : CAt w' lo c t m r k vm vr vw := ⟨h.blk.kept hb, h.job.below hb⟩
theorem own_type {w w' : World} {base n size b : Nat} {e t' : TypeId} {cs : Array Value} {v : Value} {xs : List Value} (h : w.ownsRow base e size v n xs) (ho : Over b w w') (hb : Blk w b t' cs) (ht : t' ≠ e) : w'.ownsRow base e size v n xs :=
  own_held h ho (fun c hc hh => by
    injection hh with hh
    subst hh
    rcases h.2 with ⟨rfl, _⟩ | ⟨g, cap, cur, rfl, _, hcc, _⟩
    · simp [Value.ownBlock] at hc
    · simp [Value.ownBlock] at hc
      subst hc
      exact ht (hb.type hcc).1)
theorem JobAt.over {w w' : World} {lo m r k b : Nat} {t' : TypeId} {cs : Array Value} {vm vr vw : Value} (h : JobAt w lo m r k vm vr vw) (ho : Over b w w') (hb : Blk w b t' cs) (h1 : t' ≠ 75) (h2 : t' ≠ 38) (h3 : t' ≠ 36) : JobAt w' lo m r k vm vr vw :=
  ⟨own_type h.mem ho hb h1, own_type h.reads ho hb h2, own_type h.writes ho hb h3, h.m1, h.m4, h.r4, h.k4⟩
theorem TkAt.blk {w : World} {t lo : Nat} {gs : List (List (List Int))} {pd : Option (List Cm.Vb)} (h : TkAt w t lo gs pd) : ∃ cs, Blk w t 119 cs := by
  obtain ⟨vg, qa, na, ca, h1, _⟩ := h
  exact ⟨_, h1⟩
/-- A committer behind a step: the conversation alone has turned. -/
theorem CAt.over {w w' : World} {lo lo' c t m r k : Nat} {gs : List (List (List Int))} {pd : Option (List Cm.Vb)} {vm vr vw : Value} (h : CAt w lo c t m r k vm vr vw) (ho : Over t w w') (ht : TkAt w t lo' gs pd) : CAt w' lo c t m r k vm vr vw := by
  obtain ⟨cs, hb⟩ := ht.blk
  exact ⟨h.blk.grown ho (fun e => by injection e with e; subst e; exact absurd (h.blk.type hb).1 (by decide)), h.job.over ho hb (by decide) (by decide) (by decide)⟩

/-- The batch of the log. -/
def logAsk (at' m k : Nat) (ws : List Int) : List Cm.Vb := if k = 0 then [] else forAll ⟨2, 0, at', 0, 0, 0, ws⟩ m
theorem forAll_len (x : Cm.Vb) (k : Nat) : (forAll x k).length = k := by simp [forAll]
theorem forAll_good (x : Cm.Vb) (k : Nat) (h : x.Good) : ∀ y ∈ forAll x k, y.Good := by
  intro y hy
  obtain ⟨i, _, rfl⟩ := List.mem_map.1 hy
  exact h

set_option maxRecDepth 10000 in
set_option maxHeartbeats 1000000 in
theorem log_ok (lo lo2 c t m r k at' : Nat) (vm vr vw : Value) (fate : Int) (ws : List Int) (q : Option Addr) (d : Nat) (gs : List (List (List Int))) (hat : at' ≤ 100) (w : World) (hc : CAt w lo2 c t m r k vm vr vw) (ht : TkAt w t lo gs none) (hlo : True) (hlw : lo ≤ w.heap.size)
    (hw : 0 < k → WordsAt w lo2 (.slice q ws.length d) ws ∧ 0 < ws.length ∧ ws.length ≤ 1000) (vws : Value) (hvw : 0 < k → vws = .slice q ws.length d) (hv1 : ∃ p n c, vws = .slice p n c) (hf : Fits (logAsk at' m k ws) gs) :
    Calls Tryz.prog 66 #[.pointer (some ⟨c, 0, none⟩), .int .i64 at', vws, .int .i64 fate] w (FnPost t lo (logAsk at' m k ws) gs w) := by
  have kw : w.cell? ⟨c, 6, none⟩ = some vw := hc.blk.cell 6
  have lc := hc.blk.lt
  obtain ⟨gw, cw, hvweq⟩ := own_shape hc.job.writes
  obtain ⟨qv, nv, cv, rfl⟩ := hv1
  rcases k with _ | k
  · have hT := Lib.hid ht
    subst hvweq
    clear hc ht hw hvw hf
    go_enter Tryz.func66, Tryz.ntmps66
    go_wp2_with fail
    have h0 : logAsk at' m 0 ws = [] := rfl
    have hb : Below w.heap.size w (w.alloc (.cells #[.int .i64 0, .int .i64 0] 43)) := by (repeat (first | with_reducible exact Below.refl _ _ | with_reducible assumption | with_reducible refine Below.setCell ?_ (by first | (simp; done) | (simp; omega)) _ | with_reducible refine below_alloc ?_ _ | with_reducible refine below_drewN ?_ _ | with_reducible refine Below.drew ?_ | with_reducible refine below_step ?_ (by assumption)))
    refine bodyPost_ret (results_bt rfl _ _ w.heap.size _ _ _ rfl (Blk.made _ _ _) Tryz.underlying43 rfl (by kernel_rfl)) rfl ⟨by rw [h0]; rfl, by rw [h0]; exact hT.out.below hb, Over.of_below hb⟩
  · obtain ⟨gv, cwv, hv⟩ := own_form hc.job.writes (by omega)
    obtain ⟨gm, cm, hvm⟩ := own_form hc.job.mem (by have := hc.job.m1; omega)
    subst hv hvm
    clear hvweq
    obtain ⟨hw1, hw2, hw3⟩ := hw (by omega)
    have hvw := hvw (by omega)
    simp only [Value.slice.injEq] at hvw
    obtain ⟨rfl, rfl, rfl⟩ := hvw
    have m4 := hc.job.m4
    have hl : logAsk at' m (k + 1) ws = forAll ⟨2, 0, at', 0, 0, 0, ws⟩ m := by simp [logAsk]
    rw [hl] at hf ⊢
    have HALL : Hid (∀ W, Below w.heap.size w W → Calls Tryz.prog 119 #[.pointer (some ⟨c, 0, none⟩), .agg (rawArr ⟨2, 0, at', 0, 0, 0, ws⟩ (.slice qv ws.length cv))] W (AsksPost (forAll ⟨2, 0, at', 0, 0, 0, ws⟩ m) W)) :=
      Lib.hid (fun W hb => cAll_ok ⟨2, 0, at', 0, 0, 0, ws⟩ lo2 c t m gm cm vr _ qv cv W (by omega) (hc.blk.kept hb) (own_below hc.job.mem hb) (hw1.below hb) (.inr hw2) hw3)
    have HC := Lib.hid hc
    have HT := Lib.hid (And.intro ht hf)
    unfold rawArr at HALL
    obtain ⟨l, hll⟩ : ∃ l, l = forAll ⟨2, 0, at', 0, 0, 0, ws⟩ m := ⟨_, rfl⟩
    have hlg : ∀ x ∈ l, x.Good := by rw [hll]; exact forAll_good _ _ (.inr (.inl rfl))
    have hlen : l.length ≤ 1000 := by rw [hll, forAll_len]; omega
    rw [← hll] at HALL HT ⊢
    have HL := Lib.hid (And.intro hlg hlen)
    clear hc ht hw hf hw1 hlg hlen hll hl
    go_enter Tryz.func66, Tryz.ntmps66
    go_wp2_with fail
    go_at_call 119
    refine (HALL.out _ (by (repeat (first | with_reducible exact Below.refl _ _ | with_reducible assumption | with_reducible refine Below.setCell ?_ (by first | (simp; done) | (simp; omega)) _ | with_reducible refine below_alloc ?_ _ | with_reducible refine below_drewN ?_ _ | with_reducible refine Below.drew ?_ | with_reducible refine below_step ?_ (by assumption))))).mono ?_
    rintro e w1 ⟨⟨v, rfl, hv⟩, hb⟩
    have hb1 : Below w.heap.size w w1 := by (repeat (first | with_reducible exact Below.refl _ _ | with_reducible assumption | with_reducible refine Below.setCell ?_ (by first | (simp; done) | (simp; omega)) _ | with_reducible refine below_alloc ?_ _ | with_reducible refine below_drewN ?_ _ | with_reducible refine Below.drew ?_ | with_reducible refine below_step ?_ (by assumption)))
    have BR := (Blk.made w 43 #[.int .i64 0, .int .i64 0]).kept hb
    have hlt1 : t < w1.heap.size := Nat.lt_of_lt_of_le HT.out.1.lt hb1.size
    have HV := Lib.hid (hv.asks.low (by simp; omega : lo ≤ _))
    obtain ⟨pv, cpv, rfl⟩ := HV.out.shape
    have HBR := Lib.hid (And.intro BR hb1)
    clear hv hb hb1 BR
    go_wp2_with fail
    go_at_call 72
    refine (step_ok c t lo _ vr _ _ fate l gs HL.out.2 HL.out.1 _ (HC.out.blk.kept HBR.out.2) (HT.out.1.below HBR.out.2) hlo HV.out HT.out.2).mono ?_
    rintro e w2 ⟨⟨u, rfl, _, pu, nu, cu, rfl⟩, htk, ho⟩
    have BR2 := HBR.out.1.grown ho (fun e => by injection e with e; have := HT.out.1.lt; omega)
    have ho2 : Over t w w2 := (Over.of_below HBR.out.2).trans ho
    have HX := Lib.hid (And.intro BR2 (And.intro htk ho2))
    have k2 := BR2.cell
    have f2 := BR2.free
    have l2 := BR2.lt
    clear BR2 htk ho ho2
    go_wp2_with fail
    have hx := HX.out
    have ho2 : Over t w (((w2.setCell ⟨w.heap.size, 0, none⟩ (.int .i64 0)).setCell ⟨w.heap.size, 1, none⟩ (.int .i64 0)).alloc (.cells #[.int .i64 0, .int .i64 0] 43)) := ((hx.2.2.own (by simp) _).own (by simp) _).alloc _
    have ho3 : Over w.heap.size w2 (((w2.setCell ⟨w.heap.size, 0, none⟩ (.int .i64 0)).setCell ⟨w.heap.size, 1, none⟩ (.int .i64 0)).alloc (.cells #[.int .i64 0, .int .i64 0] 43)) := by (repeat (first | with_reducible exact Over.refl _ _ | with_reducible assumption | with_reducible refine Over.put ?_ _ _ | with_reducible refine Over.alloc ?_ _ | with_reducible refine Over.drew ?_ | with_reducible refine Over.own ?_ (by first | (simp; done) | (simp; omega)) _ | with_reducible refine Over.trans ?_ (by assumption) | with_reducible refine Over.then_below ?_ (by assumption)))
    refine bodyPost_ret (results_bt rfl _ _ w.heap.size _ _ _ rfl ((Blk.all2 hx.1 _ _).alloc _) Tryz.underlying43 rfl (by kernel_rfl)) rfl
      ⟨rfl, hx.2.1.over ho3 hx.1 (by decide) (by decide) (by decide) (by decide) (by decide), ho2⟩
end Go.Proofs.YtoidjgongafnkaaGreatDoor
