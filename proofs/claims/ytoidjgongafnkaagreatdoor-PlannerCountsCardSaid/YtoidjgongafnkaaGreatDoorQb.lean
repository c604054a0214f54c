/- The commit of chapter 12 on the reference's fabric, as plain functions: verbs, replies, memories, the run of a batch. Packages word and layout: the leaves that a commit reaches. Rows of cells wherever they lie; what only some blocks' change leaves al it was. Packages word, layout, logrec: what a commit asks of them. -/
import Derived.Test.YtoidjgongafnkaaGreatDoorQa
set_option linter.unusedVariables false
set_option linter.unusedSimpArgs false
set_option linter.unusedSectionVars false
set_option linter.constructorNameAsVariable false
namespace Go.Proofs.YtoidjgongafnkaaGreatDoor

namespace Cm
/-- A verb. -/
structure Vb where
  kind : Int
  node : Nat
  at_ : Nat
  n : Int
  old : Int
  new : Int
  words : List Int
/-- How many words it touches. -/
def Vb.count (v : Vb) : Nat := if v.kind = 1 then v.n.toNat else if v.kind = 2 then v.words.length else 1
/-- A memory node's words. -/
abbrev Mem := Nat → Int
def Mem.set (m : Mem) (i : Nat) (x : Int) : Mem := fun k => if k = i then x else m k
def Mem.write (m : Mem) : Nat → List Int → Mem
  | _, [] => m
  | i, x :: xs => (m.set i x).write (i + 1) xs
/-- A formatted node: 1, 1, the consensus word, the doors, the pages' heads. -/
def formatted (cons : Int) : Mem := fun k =>
  if k < 2 then 1 else if k = 8 then cons else if 24 ≤ k ∧ k < 30 then 1 else if 768 ≤ k ∧ k < 864 ∧ k % 8 = 0 then 256 else 0
/-- The pieces of a verb: address and number of words. -/
def pieces : Nat → Nat → Nat → List (Nat × Nat)
  | 0, _, _ => []
  | fuel + 1, a, left => if left = 0 then [] else (a, min left (8 - a % 8)) :: pieces fuel (a + min left (8 - a % 8)) (left - min left (8 - a % 8))
def Vb.pieces (v : Vb) : List (Nat × Nat) := Cm.pieces v.count v.at_ v.count
/-- A verb under way. -/
structure Pend where
  v : Vb
  exec : Nat
  got : List Int
  slot : Nat
/-- The words that a piece returns, the memory behind it. -/
def Vb.exec (v : Vb) (m : Mem) (p : Nat × Nat) : List Int × Mem :=
  if v.kind = 1 then ((List.range p.2).map (fun i => m (p.1 + i)), m)
  else if v.kind = 2 then ([], m.write p.1 ((v.words.drop (p.1 - v.at_)).take p.2))
  else ([m p.1], if m p.1 = v.old then m.set p.1 v.new else m)
/-- The fabric of one client: memories, queues, what has completed. -/
structure St where
  mem : List Mem
  q : List (List Pend)
  done : List (Option (List Int))
/-- Does node n serve the verb? -/
def Vb.served (v : Vb) (m : Mem) : Bool := decide (m 0 = 1) && decide (m 1 = 1) && decide (m 24 = 1) && (decide (v.kind = 1) || decide (v.kind = 2) || decide (v.kind = 3)) && decide (1 ≤ v.count) && decide (v.count ≤ 100) && decide (32 ≤ v.at_) && decide (v.at_ + v.count ≤ 864)
/-- The first verb of node n's queue goes one piece on. -/
def St.stepAt (s : St) (n : Nat) : Option St :=
  match s.q[n]?, s.mem[n]? with
  | some (x :: rest), some m =>
    match x.v.pieces[x.exec]? with
    | some p =>
      if x.v.served m then
        let (ws, m') := x.v.exec m p
        let x' : Pend := { x with exec := x.exec + 1, got := x.got ++ ws }
        if x'.exec < x.v.pieces.length then some { s with mem := s.mem.set n m', q := s.q.set n (x' :: rest) }
        else some { mem := s.mem.set n m', q := s.q.set n rest, done := s.done.set x.slot (some x'.got) }
      else none
    | none => none
  | _, _ => none
/-- The first node with something to do. -/
def firstOf : List (List Pend) → Nat → Option Nat
  | [], _ => none
  | [] :: l, k => firstOf l (k + 1)
  | (_ :: _) :: _, k => some k
def St.first (s : St) : Option Nat := firstOf s.q 0
def St.waiting (s : St) : Nat := (s.done.filter Option.isNone).length
/-- Step by step, till nothing is waited for. -/
def St.play : Nat → St → Option St
  | 0, _ => none
  | f + 1, s => if s.waiting = 0 then some s else match s.first with | some n => (match s.stepAt n with | some s' => St.play f s' | none => none) | none => none
def pend (l : List Vb) : List Pend := (l.zipIdx).map fun (v, i) => ⟨v, 0, [], i⟩
/-- A batch is posted. -/
def St.post (s : St) (l : List Vb) : St := { s with q := (List.range s.q.length).map (fun n => (pend l).filter (fun x => x.v.node = n)), done := l.map fun _ => none }

/-- The batches of a commit of w pages beside r that are read, by m members; c: the checksum. -/
def bodyWords (w : Nat) (c : Int) : List Int := [1, (w : Int)] ++ (List.range w).flatMap (fun (i : Nat) => [(96 : Int) + (i : Int), 256, 0, 0, 0, 0, 0, 0, 0]) ++ [c]
def askBody (m w : Nat) (c : Int) : List Vb := (List.range m).map fun i => ⟨2, i, 56, 0, 0, 0, bodyWords w c⟩
def askLock (w r : Nat) : List Vb := (List.range w).map (fun i => ⟨3, 0, (96 + i) * 8, 0, 256, 257, []⟩) ++ (List.range r).map (fun i => ⟨1, 0, (101 + i) * 8, 1, 0, 0, []⟩)
def askMark (m : Nat) : List Vb := (List.range m).map fun i => ⟨2, i, 48, 0, 0, 0, [6]⟩
def pages (n w : Nat) : List Vb := (List.range w).map fun i => ⟨2, n, (96 + i) * 8, 0, 0, 0, [512, 0, 0, 0, 0, 0, 0, 0]⟩
def clock (n : Nat) : Vb := ⟨2, n, 32, 0, 0, 0, [1]⟩
def askBackups (m w : Nat) : List Vb := if w = 0 then [] else (List.range (m - 1)).flatMap fun n => pages (n + 1) w ++ [clock (n + 1)]
def askFinish (w : Nat) : List Vb := clock 0 :: pages 0 w
/-- The five steps; one without verbs is skipped. -/
def steps (m w r : Nat) (c : Int) : List (List Vb) := [if w = 0 then [] else askBody m w c, askLock w r, if w = 0 then [] else askMark m, askBackups m w, if w = 0 then [] else askFinish w]
def asks (m w r : Nat) (c : Int) : List (List Vb) := (steps m w r c).filter (fun l => !l.isEmpty)
/-- A good reply. -/
def reply (v : Vb) : List Int := if v.kind = 2 then [] else [256]
def start (m : Nat) (cons : Int) : St := ⟨(List.range m).map (fun _ => formatted cons), (List.range m).map (fun _ => []), []⟩
/-- Do all batches play, each with good replies? -/
def plays : St → List (List Vb) → Bool
  | _, [] => true
  | s, l :: ls => match (s.post l).play 400 with
    | some s' => (s'.done == l.map (fun v => some (reply v))) && s'.q.all List.isEmpty && plays { s' with done := [] } ls
    | none => false
def totalVerbs (l : List (List Vb)) : Nat := l.foldl (fun n x => n + x.length) 0
def caseOk (m w r : Nat) (c cons : Int) : Bool := plays (start m cons) (asks m w r c)
end Cm
end Go.Proofs.YtoidjgongafnkaaGreatDoor
namespace Go.Proofs.YtoidjgongafnkaaGreatDoor
open Go.RowKit

theorem within_int (x a b : Int) (w : World) : Calls Tryz.prog 126 #[.int .i64 x, .int .i64 a, .int .i64 b] w fun e w' => e = .returned (.bool (decide (a ≤ x) && decide (x ≤ b))) ∧ w = w' := by
  go_enter Tryz.func126, Tryz.ntmps126
  go_wp2
  all_goals go_ret
  · exact ⟨ret_bool (by simp [*]), rfl⟩
  · exact ⟨ret_bool (by simp; omega), rfl⟩
theorem within_u64 (x a b : Int) (w : World) : Calls Tryz.prog 118 #[.int .u64 x, .int .u64 a, .int .u64 b] w fun e w' => e = .returned (.bool (decide (a ≤ x) && decide (x ≤ b))) ∧ w = w' := by
  go_enter Tryz.func118, Tryz.ntmps118
  go_wp2
  all_goals go_ret
  · exact ⟨ret_bool (by simp [*]), rfl⟩
  · exact ⟨ret_bool (by simp; omega), rfl⟩

theorem b_and256 : bits .and .u64 256 255 = 0 := by kernel_rfl
theorem b_or256 : bits .or .u64 256 1 = 257 := by kernel_rfl
theorem split256 (w : World) : Calls Tryz.prog 117 #[.int .u64 256] w fun e w' => e = .returned (.tuple #[.int .u64 1, .int .i64 0]) ∧ w = w' := by
  have e1 := b_and256
  have e2 := b_or256
  go_enter Tryz.func117, Tryz.ntmps117
  go_wp2
  refine bodyPost_ret (results_tmp2 rfl _ _ _) rfl ⟨rfl, rfl⟩
theorem unlocked256 (w : World) : Calls Tryz.prog 37 #[.int .u64 256] w fun e w' => e = .returned (.bool true) ∧ w = w' := by
  have e1 := b_and256
  have e2 := b_or256
  go_enter Tryz.func37, Tryz.ntmps37
  go_wp2
  go_ret
  exact ⟨rfl, rfl⟩
theorem next256 (w : World) : Calls Tryz.prog 64 #[.int .u64 256] w fun e w' => e = .returned (.tuple #[.int .u64 512, .int .i64 0]) ∧ w = w' := by
  go_enter Tryz.func64, Tryz.ntmps64
  go_wp2_with (first | (go_at_call 117; refine (split256 _).mono ?_; rintro e w1 ⟨rfl, rfl⟩) | (go_at_call 118; refine (within_u64 _ _ _ _).mono ?_; rintro e w1 ⟨rfl, rfl⟩))
  refine bodyPost_ret (results_tmp2 rfl _ _ _) rfl ⟨rfl, rfl⟩
theorem lock256 (w : World) : Calls Tryz.prog 122 #[.int .u64 256, .int .i64 0] w fun e w' => e = .returned (.tuple #[.int .u64 257, .int .i64 0]) ∧ w = w' := by
  have e1 := b_and256
  have e2 := b_or256
  go_enter Tryz.func122, Tryz.ntmps122
  go_wp2_with (first | (go_at_call 189; go_in) | (go_at_call 126; refine (within_int _ _ _ _).mono ?_; rintro e w1 ⟨rfl, rfl⟩) | (go_at_call 37; refine (unlocked256 _).mono ?_; rintro e w1 ⟨rfl, rfl⟩))
  refine bodyPost_ret (results_tmp2 rfl _ _ _) rfl ⟨rfl, rfl⟩
end Go.Proofs.YtoidjgongafnkaaGreatDoor
namespace Go.Proofs.YtoidjgongafnkaaGreatDoor
open Go.RowKit

/-- Only blocks of S have changed, and what is new. -/
structure Mod (S : Nat → Prop) (w w' : World) : Prop where
  os : w'.os = w.os
  tape : w'.tape = w.tape
  output : w'.output = w.output
  size : w.heap.size ≤ w'.heap.size
  block : ∀ k, k < w.heap.size → ¬ S k → w'.heap[k]? = w.heap[k]?

section
variable {S S' : Nat → Prop} {w w1 w2 : World}
theorem Mod.refl (S : Nat → Prop) (w : World) : Mod S w w := ⟨rfl, rfl, rfl, Nat.le_refl _, fun _ _ _ => rfl⟩
theorem Mod.trans (h1 : Mod S w w1) (h2 : Mod S w1 w2) : Mod S w w2 :=
  ⟨h2.os.trans h1.os, h2.tape.trans h1.tape, h2.output.trans h1.output, Nat.le_trans h1.size h2.size, fun k hk hn => (h2.block k (Nat.lt_of_lt_of_le hk h1.size) hn).trans (h1.block k hk hn)⟩
theorem Mod.of_below (h : Below w.heap.size w w1) : Mod S w w1 := ⟨h.os, h.tape, h.output, h.size, fun k hk _ => h.block k hk⟩
theorem Mod.imp (h : Mod S w w1) (hs : ∀ k, S k → S' k) : Mod S' w w1 := ⟨h.os, h.tape, h.output, h.size, fun k hk hn => h.block k hk (fun e => hn (hs k e))⟩
/-- What is new may change, too. -/
theorem Mod.imp' (h : Mod S w w1) (hs : ∀ k, k < w.heap.size → S k → S' k) : Mod S' w w1 := ⟨h.os, h.tape, h.output, h.size, fun k hk hn => h.block k hk (fun e => hn (hs k hk e))⟩
theorem Mod.then_below (h1 : Mod S w w1) (h2 : Below w1.heap.size w1 w2) : Mod S w w2 := h1.trans (Mod.of_below h2)
theorem Mod.alloc (h : Mod S w w1) (o : Obj) : Mod S w (w1.alloc o) := h.then_below (below_alloc (Below.refl _ _) _)
theorem Mod.drew (h : Mod S w w1) : Mod S w w1.drew := ⟨h.os, h.tape, h.output, h.size, h.block⟩
theorem Mod.put (h : Mod S w w1) {p : Addr} (hp : S p.block ∨ w.heap.size ≤ p.block) (v : Value) : Mod S w (w1.setCell p v) :=
  ⟨h.os, h.tape, h.output, by simpa [World.setCell] using h.size, fun k hk hn => (heap_setCell_other w1 p k v (by rcases hp with hp | hp; (intro e; exact hn (e ▸ hp)); omega)).trans (h.block k hk hn)⟩
theorem Mod.over {b : Nat} (h1 : Mod S w w1) (h2 : Over b w1 w2) (hb : S b ∨ w.heap.size ≤ b) : Mod S w w2 :=
  ⟨h2.os.trans h1.os, h2.tape.trans h1.tape, h2.output.trans h1.output, Nat.le_trans h1.size h2.size, fun k hk hn => (h2.block k (Nat.lt_of_lt_of_le hk h1.size) (by
    intro e; injection e with e; subst e
    rcases hb with hb | hb
    · exact hn hb
    · omega)).trans (h1.block k hk hn)⟩
theorem Mod.below {B : Nat} (h : Mod S w w1) (hs : ∀ k, S k → B ≤ k) (hB : B ≤ w.heap.size) : Below B w w1 :=
  ⟨h.os, h.tape, h.output, h.size, fun k hk => h.block k (by omega) (fun e => by have := hs k e; omega)⟩
theorem Mod.blk {b : Nat} {t : TypeId} {cs : Array Value} (h : Mod S w w1) (hb : Blk w b t cs) (hn : ¬ S b) : Blk w1 b t cs := (h.block b hb.lt hn).trans hb
end

theorem Blk.type {w : World} {b : Nat} {t t' : TypeId} {cs cs' : Array Value} (h : Blk w b t cs) (h' : Blk w b t' cs') : t = t' ∧ cs = cs' := by
  have := h.symm.trans h'
  simp only [Option.some.injEq, Obj.cells.injEq] at this
  exact ⟨this.2.1, this.1⟩

/-- A row of n elements of sz cells, in a block not below lo. -/
def RowAt (w : World) (lo : Nat) (v : Value) (t : TypeId) (sz n : Nat) (xs : List Value) : Prop :=
  xs.length = n * sz ∧ ((n = 0 ∧ ∃ p c, v = .slice p 0 c) ∨ ∃ b o cap cs, v = .slice (some ⟨b, o, none⟩) n cap ∧ lo ≤ b ∧ n ≤ cap ∧ Blk w b t cs ∧ ∀ j u, xs[j]? = some u → cs[o + j]? = some u)

section
variable {S : Nat → Prop} {w w' : World} {lo sz n : Nat} {v : Value} {t : TypeId} {xs : List Value}
theorem RowAt.mod (h : RowAt w lo v t sz n xs) (hm : Mod S w w') (hs : ∀ k, S k → k < lo ∨ ∃ t' cs', Blk w k t' cs' ∧ t' ≠ t) : RowAt w' lo v t sz n xs := by
  refine ⟨h.1, ?_⟩
  rcases h.2 with h1 | ⟨b, o, cap, cs, hv, hlo, hcap, hb, hc⟩
  · exact .inl h1
  · refine .inr ⟨b, o, cap, cs, hv, hlo, hcap, hm.blk hb (fun e => ?_), hc⟩
    rcases hs b e with h1 | ⟨t', cs', h1, h2⟩
    · omega
    · exact h2 (hb.type h1).1.symm
theorem RowAt.below (h : RowAt w lo v t sz n xs) (hb : Below w.heap.size w w') : RowAt w' lo v t sz n xs := h.mod (S := fun _ => False) (Mod.of_below hb) (fun _ e => e.elim)
theorem RowAt.low {lo' : Nat} (h : RowAt w lo v t sz n xs) (hl : lo' ≤ lo) : RowAt w lo' v t sz n xs := by
  refine ⟨h.1, ?_⟩
  rcases h.2 with h1 | ⟨b, o, cap, cs, hv, hlo, hr⟩
  · exact .inl h1
  · exact .inr ⟨b, o, cap, cs, hv, by omega, hr⟩
theorem RowAt.shape (h : RowAt w lo v t sz n xs) : ∃ p c, v = .slice p n c := by
  rcases h.2 with ⟨rfl, p, c, rfl⟩ | ⟨b, o, cap, cs, hv, _⟩
  · exact ⟨p, c, rfl⟩
  · exact ⟨_, _, hv⟩
theorem RowAt.one (h : RowAt w lo v t sz n xs) : v.oneCell' = true := by
  obtain ⟨p, c, rfl⟩ := h.shape
  rfl
theorem RowAt.form (h : RowAt w lo v t sz n xs) (hn : 0 < n) : ∃ b o cap, v = .slice (some ⟨b, o, none⟩) n cap ∧ lo ≤ b ∧ b < w.heap.size ∧ ∀ j u, xs[j]? = some u → w.cell? ⟨b, o + j, none⟩ = some u := by
  rcases h.2 with ⟨rfl, _⟩ | ⟨b, o, cap, cs, hv, hlo, hcap, hb, hc⟩
  · omega
  · exact ⟨b, o, cap, hv, hlo, hb.lt, fun j u hj => by rw [hb.cell]; exact hc j u hj⟩
theorem RowAt.nil (w : World) (lo : Nat) (t : TypeId) (sz : Nat) : RowAt w lo (.slice none 0 0) t sz 0 [] := ⟨by simp, .inl ⟨rfl, none, 0, rfl⟩⟩
theorem RowAt.of_own {base : Nat} (h : w.ownsRow base t sz v n xs) : RowAt w base v t sz n xs := by
  refine ⟨h.1, ?_⟩
  rcases h.2 with ⟨rfl, rfl⟩ | ⟨g, cap, cur, hv, hbase, hc, h1, h2, h3, h4⟩
  · exact .inl ⟨rfl, none, 0, rfl⟩
  · refine .inr ⟨g, 0, cap, cur, hv, hbase, h1, hc, fun j u hj => ?_⟩
    have hj' : j < xs.length := (List.getElem?_eq_some_iff.1 hj).1
    have := own_cells (hv ▸ h) j u hj
    rw [Nat.zero_add, ← (show Blk w g t cur from hc).cell]
    exact this
theorem RowAt.src (h : RowAt w lo v t sz n xs) (h1 : ∀ u ∈ xs, u.oneCell' = true) (hz : v = .slice none 0 0 ∨ 0 < n) : SrcAt w v n xs := by
  rcases h.2 with ⟨rfl, p, c, rfl⟩ | ⟨b, o, cap, cs, hv, hlo, hcap, hb, hc⟩
  · rcases hz with hz | hz
    · have := h.1
      exact .inl ⟨hz, rfl, List.length_eq_zero_iff.1 (by simpa using this)⟩
    · omega
  · exact .inr ⟨_, cap, hv, fun j u hj => by
    have e : (⟨b, o, none⟩ : Addr).add j = ⟨b, o + j, none⟩ := by unfold Addr.add; split <;> simp_all
    rw [e]
    exact (hb.cell (o + j)).trans (hc j u hj), h1⟩
theorem RowAt.cast {n' : Nat} {xs' : List Value} (h : RowAt w lo v t sz n xs) (hn : n = n') (hx : xs = xs') : RowAt w lo v t sz n' xs' := by subst hn; subst hx; exact h
/-- What lies behind the first elements. -/
theorem RowAt.drop (h : RowAt w lo v t sz n xs) (k : Nat) (hk : k < n) : ∃ b o cap, v = .slice (some ⟨b, o, none⟩) n cap ∧ n ≤ cap ∧ RowAt w lo (.slice (some ⟨b, o + k * sz, none⟩) (n - k) (cap - k)) t sz (n - k) (xs.drop (k * sz)) := by
  rcases h.2 with ⟨rfl, _⟩ | ⟨b, o, cap, cs, hv, hlo, hcap, hb, hc⟩
  · omega
  · refine ⟨b, o, cap, hv, hcap, by rw [List.length_drop, h.1, Nat.sub_mul], .inr ⟨b, o + k * sz, cap - k, cs, rfl, hlo, by omega, hb, fun j u hj => ?_⟩⟩
    rw [List.getElem?_drop] at hj
    have := hc _ _ hj
    rw [← Nat.add_assoc] at this
    exact this
/-- A row of one element that has just been made. -/
theorem RowAt.lit {b : Nat} {cs : List Value} (hb : Blk w b t cs.toArray) (hl : lo ≤ b) (hn : cs.length = n * sz) : RowAt w lo (.slice (some ⟨b, 0, none⟩) n n) t sz n cs :=
  ⟨hn, .inr ⟨b, 0, n, cs.toArray, rfl, hl, Nat.le_refl _, hb, fun j u hj => by simpa using hj⟩⟩
end

/-- Words. -/
def u64s (l : List Int) : List Value := l.map (.int .u64)
def WordsAt (w : World) (lo : Nat) (v : Value) (l : List Int) : Prop := RowAt w lo v 33 1 l.length (u64s l)
/-- Verbs, each with the slice of its words. -/
def vbCells (x : Cm.Vb) (vw : Value) : List Value := [.int .i64 x.kind, .int .i64 x.node, .int .i64 x.at_, .int .i64 x.n, .int .u64 x.old, .int .u64 x.new, vw, .int .u64 1, .int .i64 1]
def askCells (l : List (Cm.Vb × Value)) : List Value := l.flatMap fun t => vbCells t.1 t.2
def AsksAt (w : World) (lo : Nat) (v : Value) (l : List Cm.Vb) : Prop :=
  ∃ al : List (Cm.Vb × Value), al.map (·.1) = l ∧ RowAt w lo v 147 9 al.length (askCells al) ∧ ∀ t ∈ al, WordsAt w lo t.2 t.1.words
/-- Completions. -/
def doneCells (l : List (List Int × Value)) : List Value := l.flatMap fun t => [.int .i64 0, t.2]
def DonesAt (w : World) (lo : Nat) (v : Value) (l : List (List Int)) : Prop :=
  ∃ ds : List (List Int × Value), ds.map (·.1) = l ∧ RowAt w lo v 151 2 ds.length (doneCells ds) ∧ ∀ t ∈ ds, WordsAt w lo t.2 t.1
section
variable {S : Nat → Prop} {w w' : World} {lo : Nat} {v : Value}
theorem WordsAt.mod {l : List Int} (h : WordsAt w lo v l) (hm : Mod S w w') (hs : ∀ k, S k → k < lo ∨ ∃ t' cs', Blk w k t' cs' ∧ t' ≠ 33) : WordsAt w' lo v l := RowAt.mod h hm hs
theorem WordsAt.below {l : List Int} (h : WordsAt w lo v l) (hb : Below w.heap.size w w') : WordsAt w' lo v l := RowAt.below h hb
theorem AsksAt.below {l : List Cm.Vb} (h : AsksAt w lo v l) (hb : Below w.heap.size w w') : AsksAt w' lo v l := by
  obtain ⟨al, h1, h2, h3⟩ := h
  exact ⟨al, h1, h2.below hb, fun t ht => (h3 t ht).below hb⟩
theorem AsksAt.low {lo' : Nat} {l : List Cm.Vb} (h : AsksAt w lo v l) (hl : lo' ≤ lo) : AsksAt w lo' v l := by
  obtain ⟨al, h1, h2, h3⟩ := h
  exact ⟨al, h1, h2.low hl, fun t ht => RowAt.low (h3 t ht) hl⟩
theorem DonesAt.below {l : List (List Int)} (h : DonesAt w lo v l) (hb : Below w.heap.size w w') : DonesAt w' lo v l := by
  obtain ⟨al, h1, h2, h3⟩ := h
  exact ⟨al, h1, h2.below hb, fun t ht => (h3 t ht).below hb⟩
end
theorem u64s_one (l : List Int) : ∀ u ∈ u64s l, u.oneCell' = true := by
  intro u hu
  obtain ⟨x, _, rfl⟩ := List.mem_map.1 hu
  rfl
end Go.Proofs.YtoidjgongafnkaaGreatDoor
namespace Go.Proofs.YtoidjgongafnkaaGreatDoor
open Go.RowKit

theorem b_or4 : bits .or .u64 4 2 = 6 := by kernel_rfl
theorem mark1 (w : World) : Calls Tryz.prog 74 #[.int .i64 1] w fun e w' => e = .returned (.tuple #[.int .u64 6, .int .i64 0]) ∧ w = w' := by
  have e1 := b_or4
  go_enter Tryz.func74, Tryz.ntmps74
  go_wp2_with (go_at_call 126; refine (within_int _ _ _ _).mono ?_; rintro e w1 ⟨rfl, rfl⟩)
  refine bodyPost_ret (results_tmp2 rfl _ _ _) rfl ⟨rfl, rfl⟩
theorem key0 (w : World) : Calls Tryz.prog 190 #[.int .i64 0, .bool true] w fun e w' => e = .returned (.tuple #[.int .u64 1, .int .i64 0]) ∧ w = w' := by
  go_enter Tryz.func190, Tryz.ntmps190
  go_wp2_with (go_at_call 126; refine (within_int _ _ _ _).mono ?_; rintro e w1 ⟨rfl, rfl⟩)
  refine bodyPost_ret (results_tmp2 rfl _ _ _) rfl ⟨rfl, rfl⟩
theorem layLines (n : Int) (h1 : 98 ≤ n) (h2 : n ≤ 256) (w : World) : Calls Tryz.prog 65 #[.int .i64 n] w fun e w' => e = .returned (.bool true) ∧ w = w' := by
  go_enter Tryz.func65, Tryz.ntmps65
  go_wp2
  go_ret
  exact ⟨rfl, rfl⟩
theorem recLines (n : Int) (h1 : 98 ≤ n) (h2 : n ≤ 256) (w : World) : Calls Tryz.prog 61 #[.int .i64 n] w fun e w' => e = .returned (.bool true) ∧ w = w' := by
  go_enter Tryz.func61, Tryz.ntmps61
  go_wp2
  go_ret
  exact ⟨rfl, rfl⟩
theorem inHeap_ok (l : Int) (h1 : 96 ≤ l) (h2 : l < 108) (w : World) : Calls Tryz.prog 36 #[.int .i64 l, .int .i64 108] w fun e w' => e = .returned (.bool true) ∧ w = w' := by
  go_enter Tryz.func36, Tryz.ntmps36
  go_wp2_with (go_at_call 65; refine (layLines 108 (by omega) (by omega) _).mono ?_; rintro e w1 ⟨rfl, rfl⟩)
  go_ret
  exact ⟨rfl, rfl⟩
theorem page_ok (l : Int) (h1 : 96 ≤ l) (h2 : l < 108) (w : World) : Calls Tryz.prog 71 #[.int .i64 l] w fun e w' => e = .returned (.int .i64 (l * 8)) ∧ w = w' := by
  go_enter Tryz.func71, Tryz.ntmps71
  go_wp2
  go_ret
  exact ⟨rfl, rfl⟩
theorem body0 (w : World) : Calls Tryz.prog 67 #[.int .i64 0] w fun e w' => e = .returned (.int .i64 56) ∧ w = w' := by
  go_enter Tryz.func67, Tryz.ntmps67
  go_wp2_with go_in
  go_ret
  exact ⟨rfl, rfl⟩
theorem layMark0 (w : World) : Calls Tryz.prog 75 #[.int .i64 0] w fun e w' => e = .returned (.int .i64 48) ∧ w = w' := by
  go_enter Tryz.func75, Tryz.ntmps75
  go_wp2_with go_in
  go_ret
  exact ⟨rfl, rfl⟩
theorem clock0 (w : World) : Calls Tryz.prog 129 #[.int .i64 0] w fun e w' => e = .returned (.int .i64 32) ∧ Below w.heap.size w w' := by
  go_enter Tryz.func129, Tryz.ntmps129
  go_wp2_with go_in
  go_ret
  exact ⟨rfl, by (repeat (first | with_reducible exact Below.refl _ _ | with_reducible assumption | with_reducible refine Below.setCell ?_ (by first | (simp; done) | (simp; omega)) _ | with_reducible refine below_alloc ?_ _ | with_reducible refine below_drewN ?_ _ | with_reducible refine Below.drew ?_ | with_reducible refine below_step ?_ (by assumption)))⟩
/-- A page that is written: version 1, empty. -/
def pgVals (l : Int) : Array Value := #[.int .i64 l, .int .u64 256, .int .u64 0, .int .u64 0, .int .u64 0, .int .u64 0, .int .u64 0, .int .u64 0, .int .u64 0]
theorem locked_ok (l : Int) (w : World) : Calls Tryz.prog 69 #[.agg (pgVals l), .int .i64 0] w fun e w' => e = .returned (.tuple #[.int .u64 257, .int .i64 0]) ∧ Below w.heap.size w w' := by
  unfold pgVals
  go_enter Tryz.func69, Tryz.ntmps69
  go_wp2_with (go_at_call 122; refine (lock256 _).mono ?_; rintro e w1 ⟨rfl, rfl⟩)
  refine bodyPost_ret (results_tmp2 rfl _ _ _) rfl ⟨rfl, by (repeat (first | with_reducible exact Below.refl _ _ | with_reducible assumption | with_reducible refine Below.setCell ?_ (by first | (simp; done) | (simp; omega)) _ | with_reducible refine below_alloc ?_ _ | with_reducible refine below_drewN ?_ _ | with_reducible refine Below.drew ?_ | with_reducible refine below_step ?_ (by assumption)))⟩

theorem lit_news {w : World} {b o : Nat} {t : TypeId} {cs : Array Value} (h : Blk w b t cs) : ∀ j v, (cs.toList.drop o)[j]? = some v → w.cell? ((⟨b, o, none⟩ : Addr).add j) = some v := by
  intro j v hv
  have e : (⟨b, o, none⟩ : Addr).add j = ⟨b, o + j, none⟩ := by unfold Addr.add; split <;> simp_all
  rw [e, h.cell (o + j)]
  rw [List.getElem?_drop] at hv
  simpa using hv
theorem infoU64 : (Tryz.prog.info? 33).map (fun i => (i.zero, i.size, i.bytes)) = some (some (.int .u64 0), 1, 8) := by kernel_rfl

theorem applied_ok (l : Int) (w : World) : Calls Tryz.prog 128 #[.agg (pgVals l)] w fun e w' => ∃ v, e = .returned (.tuple #[v, .int .i64 0]) ∧ WordsAt w' w.heap.size v [512, 0, 0, 0, 0, 0, 0, 0] ∧ Below w.heap.size w w' := by
  obtain ⟨i0, hi, hz0, hz1, hz2⟩ := info_parts infoU64
  unfold pgVals
  go_enter Tryz.func128, Tryz.ntmps128
  go_wp2_with (first | (go_at_call 64; refine (next256 _).mono ?_; rintro e w1 ⟨rfl, rfl⟩) | (at_builtin; refine halt ?_))
  refine unhalt ?_
  refine wpList_append_mine rfl (.tmp 16) (.tmp 18) 59 rfl w.heap.size 33 i0 _ 1 8 Tryz.underlying59 hi hz0 hz1 hz2 rfl (by decide) (.slice (some ⟨w.heap.size + 1, 0, none⟩) 1 1) 1 [.int .u64 512] rfl
    (by simpa [pgVals] using World.ownsRow_lit (base := w.heap.size) (size := 1) (e := 33) (w.alloc (.cells (pgVals l) 36)) #[.int .u64 512] 1 (by simp) (by unfold maxLen; omega) rfl)
    ⟨w.heap.size, 2, none⟩ 7 7 [.int .u64 0, .int .u64 0, .int .u64 0, .int .u64 0, .int .u64 0, .int .u64 0, .int .u64 0] rfl rfl (lit_news (o := 2) (cs := pgVals l) ((Blk.made w _ _).alloc _))
    (by intro u hu; simp at hu; subst hu; rfl) (by omega) (by unfold maxLen; omega) (by omega) (by simp; omega) ?_
  intro g cap w3 hown hg
  go_wp2
  refine bodyPost_ret (results_tmp2 rfl _ _ _) rfl ⟨_, rfl, ?_, ?_⟩
  · exact RowAt.of_own hown
  · exact below_grown (w := w) (by (repeat (first | with_reducible exact Below.refl _ _ | with_reducible assumption | with_reducible refine Below.setCell ?_ (by first | (simp; done) | (simp; omega)) _ | with_reducible refine below_alloc ?_ _ | with_reducible refine below_drewN ?_ _ | with_reducible refine Below.drew ?_ | with_reducible refine below_step ?_ (by assumption)))) hg (fun k hk => by simp [Value.ownBlock] at hk; omega)
end Go.Proofs.YtoidjgongafnkaaGreatDoor
