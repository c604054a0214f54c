/- Package btree: an operation under way, in memory. -/
import Derived.Test.YtjmpekanlmepmaaGreatDoorBB08
import Derived.Test.YtjmpekanlmepmaaGreatDoorBB13
import Derived.Test.YtjmpekanlmepmaaGreatDoorBB01
import Derived.Lib.SlicesCompact
import Derived.Test.YtjmpekanlmepmaaGreatDoorBB05
set_option linter.all false
set_option maxRecDepth 20000
set_option maxHeartbeats 8000000
open Go.Lib (hid)
namespace Go.Proofs.YtjmpekanlmepmaaGreatDoor
open Go.RowKit
abbrev Over (b : Nat) (w w' : World) : Prop := w.grownBy w' (some b)
theorem Z29 {b : Nat} {w w1 : World} (h : Over b w w1) :
 (∀ c o, c < w.heap.size → (c < b ∨ b < c) → w1.cell? ⟨c, o, none⟩ = w.cell? ⟨c, o, none⟩) ∧ (∀ c o, c < w.heap.size → (c < b ∨ b < c) → w1.frozen? ⟨c, o, none⟩ = w.frozen? ⟨c, o, none⟩) := by
 have hb : ∀ c, c < w.heap.size → (c < b ∨ b < c) → w1.heap[c]? = w.heap[c]? := fun c hc hn => h.block c hc (by simp; omega)
 refine ⟨fun c o hc hn => ?_, fun c o hc hn => ?_⟩
 ·simp only [World.cell?, hb c hc hn]
 ·simp only [World.frozen?, hb c hc hn]
theorem Over.of_below {b : Nat} {w w' : World} (h : Below w.heap.size w w') : Over b w w' := ⟨h.os, h.tape, h.output, h.size, fun k hk _ => h.block k hk⟩
section
variable {b : Nat} {w w1 w2 : World}
theorem Over.refl (b : Nat) (w : World) : Over b w w := ⟨rfl, rfl, rfl, Nat.le_refl _, fun _ _ _ => rfl⟩
theorem Over.trans (h1 : Over b w w1) (h2 : Over b w1 w2) : Over b w w2 :=
 ⟨h2.os.trans h1.os, h2.tape.trans h1.tape, h2.output.trans h1.output, Nat.le_trans h1.size h2.size, fun k hk hn => (h2.block k (Nat.lt_of_lt_of_le hk h1.size) hn).trans (h1.block k hk hn)⟩
theorem Over.then_below (h1 : Over b w w1) (h2 : Below w1.heap.size w1 w2) : Over b w w2 := h1.trans (Over.of_below h2)
theorem Over.alloc (h : Over b w w1) (o : Obj) : Over b w (w1.alloc o) := h.then_below (Z06 (Below.refl _ _) _)
theorem Over.drew (h : Over b w w1) : Over b w w1.drew := ⟨h.os, h.tape, h.output, h.size, h.block⟩
theorem Over.put (h : Over b w w1) (i : Nat) (v : Value) : Over b w (w1.setCell ⟨b, i, none⟩ v) :=
 h.trans ⟨rfl, rfl, rfl, by simp [World.setCell], fun k hk hn => heap_setCell_other w1 ⟨b, i, none⟩ k v (by intro e; exact hn (by rw [e]))⟩
theorem Over.own (h : Over b w w1) {p : Addr} (hp : w.heap.size ≤ p.block) (v : Value) : Over b w (w1.setCell p v) :=
 ⟨h.os, h.tape, h.output, by simpa [World.setCell] using h.size, fun k hk hn => (heap_setCell_other w1 p k v (by omega)).trans (h.block k hk hn)⟩
end
theorem qV {b : Nat} {w w' : World} (h : Over b w w' := by (repeat (first | with_reducible exact Over.refl _ _ | with_reducible assumption | with_reducible refine Over.put ?_ _ _ | with_reducible refine Over.alloc ?_ _ | with_reducible refine Over.drew ?_ | with_reducible refine Over.own ?_ (by first | (simp; done) | (simp; omega)) _ | with_reducible refine Over.trans ?_ (by assumption) | with_reducible refine Over.then_below ?_ (by assumption)))) : Over b w w' := h
theorem qO {b : Nat} {w w1 : World} {n : Nat} (hb : Over b w w1) (hn : w.heap.size = n := by (try simp only [size_alloc, size_setCell, size_drew, Z6x]); rfl) : (∀ c o, c < n → (c < b ∨ b < c) → w1.cell? ⟨c, o, none⟩ = w.cell? ⟨c, o, none⟩) ∧ (∀ c o, c < n → (c < b ∨ b < c) → w1.frozen? ⟨c, o, none⟩ = w.frozen? ⟨c, o, none⟩) ∧ n ≤ w1.heap.size := by
 subst hn
 exact ⟨(Z29 hb).1, (Z29 hb).2, World.grownBy.size hb⟩
def intCells (l : List Int) : List Value := l.map (Value.int .i64)
def Z0q (l : List Bt.Page) : List Value := l.flatMap (fun p => p.cells.toList)
def Z3W (op : Bt.Op) (vf vk : Value) (s : Bt.St) (vn vw ve vc : Value) : Array Value :=
 #[.int .i64 op.kind, .int .u32 op.key, .int .u32 op.last, .int .i64 op.to.line, .int .i64 op.to.gen, .int .i64 op.level, .int .i64 op.limit, vf, vk, vn, vw,
  .int .i64 s.out.code, .bool s.out.found, .bool s.out.done, .bool s.out.split, .bool s.out.unposted, .bool s.out.dead, .bool s.out.more, .int .i64 s.out.to.line, .int .i64 s.out.to.gen, ve, vc,
  .int .i64 s.out.hops, .int .i64 s.out.fresh, .int .i64 s.out.height,
  .int .i64 s.rootPage.line, .int .u64 s.rootPage.head, .int .u64 s.rootPage.d0, .int .u64 s.rootPage.d1, .int .u64 s.rootPage.d2, .int .u64 s.rootPage.d3, .int .u64 s.rootPage.d4, .int .u64 s.rootPage.d5, .int .u64 s.rootPage.d6,
  .int .i64 s.root.line, .int .i64 s.root.gen, .bool s.ended]
structure RunAt (op : Bt.Op) (known : List Bt.Page) (vf vk : Value) (s : Bt.St) (b : Nat) (vn vw ve vc : Value) (w : World) : Prop where
 blk : Blk w b 118 (Z3W op vf vk s vn vw ve vc)
 known : PgRow w vk known
 apart : ∀ c n m, vk = .slice (some ⟨c, 0, none⟩) n m → c < b
 fresh : PgRow w vf op.fresh
 apartf : ∀ c n m, vf = .slice (some ⟨c, 0, none⟩) n m → c < b
 need : w.ownsRow (b + 1) 3 1 vn s.need.length (intCells s.need)
 writes : w.ownsRow (b + 1) 25 9 vw s.writes.length (Z0q s.writes)
 ents : w.ownsRow (b + 1) 69 3 ve s.out.entries.length (Z04 s.out.entries)
 check : w.ownsRow (b + 1) 3 1 vc s.out.check.length (intCells s.out.check)
 none : NoneAt w
 pos : 0 < b
theorem PgRow.over {w w' : World} {v : Value} {l : List Bt.Page} {b : Nat} (h : PgRow w v l) (ho : Over b w w') (hb : ∀ c n m, v = .slice (some ⟨c, 0, none⟩) n m → c < b) : PgRow w' v l := by
 refine ⟨h.ok, h.len, ?_⟩
 rcases h.form with h1 | ⟨c, cap, hv, hlt, hcells⟩
 ·exact .inl h1
 ·exact .inr ⟨c, cap, hv, Nat.lt_of_lt_of_le hlt ho.size, fun i p hi j u hu => by rw [(Z29 ho).1 c _ hlt (Or.inl (hb c _ _ hv))]; exact hcells i p hi j u hu⟩
theorem NoneAt.over {w w' : World} {b : Nat} (h : NoneAt w) (ho : Over b w w') (hb : 0 < b) : NoneAt w' :=
 ⟨((Z29 ho).1 _ _ h.lt (Or.inl hb)).trans h.c0, ((Z29 ho).1 _ _ h.lt (Or.inl hb)).trans h.c1, Nat.lt_of_lt_of_le h.lt ho.size⟩
theorem Z0H {w w' : World} {base n size b : Nat} {e : TypeId} {v : Value} {xs : List Value} (h : w.ownsRow base e size v n xs) (ho : Over b w w') (hb : b < base) : w'.ownsRow base e size v n xs := by
 refine h.kept ho ?_
 rcases hv : v.ownBlock with _ | c
 ·exact .inl rfl
 ·right
  have := Z0k h c hv
  simp; omega
theorem RunAt.over {op : Bt.Op} {known : List Bt.Page} {vf vk : Value} {s s' : Bt.St} {b : Nat} {vn vw ve vc : Value} {w w' : World} (h : RunAt op known vf vk s b vn vw ve vc w) (ho : Over b w w')
 (hb : Blk w' b 118 (Z3W op vf vk s' vn vw ve vc)) (h1 : s'.need = s.need) (h2 : s'.writes = s.writes) (h3 : s'.out.entries = s.out.entries) (h4 : s'.out.check = s.out.check) : RunAt op known vf vk s' b vn vw ve vc w' :=
 ⟨hb, h.known.over ho h.apart, h.apart, h.fresh.over ho h.apartf, h.apartf, by rw [h1]; exact Z0H h.need ho (by omega), by rw [h2]; exact Z0H h.writes ho (by omega), by rw [h3]; exact Z0H h.ents ho (by omega), by rw [h4]; exact Z0H h.check ho (by omega), h.none.over ho h.pos, h.pos⟩
def IsRun (A : Nat → Prop) (op : Bt.Op) (known : List Bt.Page) (vf vk : Value) (s : Bt.St) (b : Nat) (w : World) : Prop :=
 ∃ vn vw ve vc, RunAt op known vf vk s b vn vw ve vc w ∧ (∀ c, vn.ownBlock = some c → A c) ∧ (∀ c, vw.ownBlock = some c → A c) ∧ (∀ c, ve.ownBlock = some c → A c) ∧ (∀ c, vc.ownBlock = some c → A c)
def New (A : Nat → Prop) (w : World) : Nat → Prop := fun c => A c ∨ w.heap.size ≤ c
theorem IsRun.imp {A A' : Nat → Prop} {op : Bt.Op} {known : List Bt.Page} {vf vk : Value} {s : Bt.St} {b : Nat} {w : World} (h : IsRun A op known vf vk s b w) (hA : ∀ c, A c → A' c) : IsRun A' op known vf vk s b w := by
 obtain ⟨vn, vw, ve, vc, hr, h1, h2, h3, h4⟩ := h
 exact ⟨vn, vw, ve, vc, hr, fun c hc => hA c (h1 c hc), fun c hc => hA c (h2 c hc), fun c hc => hA c (h3 c hc), fun c hc => hA c (h4 c hc)⟩
theorem own_lt' {w : World} {base n size : Nat} {e : TypeId} {v : Value} {xs : List Value} (h : w.ownsRow base e size v n xs) (c : Nat) (hc : v.ownBlock = some c) : c < w.heap.size := by
 rcases h.2 with ⟨rfl, _⟩ | ⟨g, cap, cur, rfl, _, hh, _⟩
 ·simp [Value.ownBlock] at hc
 ·simp [Value.ownBlock] at hc; subst hc; exact (Array.getElem?_eq_some_iff.1 hh).1
theorem IsRun.low {A : Nat → Prop} {op : Bt.Op} {known : List Bt.Page} {vf vk : Value} {s : Bt.St} {b : Nat} {w : World} (h : IsRun A op known vf vk s b w) : IsRun (fun c => A c ∧ c < w.heap.size) op known vf vk s b w := by
 obtain ⟨vn, vw, ve, vc, hr, h1, h2, h3, h4⟩ := h
 exact ⟨vn, vw, ve, vc, hr, fun c hc => ⟨h1 c hc, own_lt' hr.need c hc⟩, fun c hc => ⟨h2 c hc, own_lt' hr.writes c hc⟩, fun c hc => ⟨h3 c hc, own_lt' hr.ents c hc⟩, fun c hc => ⟨h4 c hc, own_lt' hr.check c hc⟩⟩
theorem IsRun.below {A : Nat → Prop} {op : Bt.Op} {known : List Bt.Page} {vf vk : Value} {s : Bt.St} {b : Nat} {w w' : World} (h : IsRun A op known vf vk s b w) (hb : Below w.heap.size w w') : IsRun A op known vf vk s b w' := by
 obtain ⟨vn, vw, ve, vc, hr, h1⟩ := h
 exact ⟨vn, vw, ve, vc, ⟨hr.blk.kept hb, hr.known.below hb, hr.apart, hr.fresh.below hb, hr.apartf, own_below hr.need hb, own_below hr.writes hb, own_below hr.ents hb, own_below hr.check hb, hr.none.below hb, hr.pos⟩, h1⟩
theorem Z0G {w : World} {base n size : Nat} {e : TypeId} {v : Value} {xs : List Value} (h : w.ownsRow base e size v n xs) {p : Addr} (hp : v.ownBlock ≠ some p.block) (u : Value) : (w.setCell p u).ownsRow base e size v n xs := by
 refine ⟨h.1, ?_⟩
 rcases h.2 with h1 | ⟨c, cap, cur, hv, hbase, hc, h1, h2, h3, h4⟩
 ·exact .inl h1
 ·subst hv
  simp [Value.ownBlock] at hp
  exact .inr ⟨c, cap, cur, rfl, hbase, (heap_setCell_other w p c u hp).trans hc, h1, h2, h3, h4⟩
theorem IsRun.set {A : Nat → Prop} {op : Bt.Op} {known : List Bt.Page} {vf vk : Value} {s : Bt.St} {b : Nat} {w : World} (h : IsRun A op known vf vk s b w) {p : Addr} (hp : b < p.block) (hA : ¬ A p.block) (u : Value) : IsRun A op known vf vk s b (w.setCell p u) := by
 obtain ⟨vn, vw, ve, vc, hr, h1, h2, h3, h4⟩ := h
 have ho : Below p.block w (w.setCell p u) := (Below.refl _ _).setCell (Nat.le_refl _) u
 have hk : ∀ c o, c < p.block → (w.setCell p u).cell? ⟨c, o, none⟩ = w.cell? ⟨c, o, none⟩ := fun c o hc => ho.cell (p := ⟨c, o, none⟩) hc
 refine ⟨vn, vw, ve, vc, ⟨hr.blk.aside (by omega) u, hr.known.kept ho (fun c n m hv => by have := hr.apart c n m hv; omega), hr.apart, hr.fresh.kept ho (fun c n m hv => by have := hr.apartf c n m hv; omega), hr.apartf,
  Z0G hr.need (fun e => hA (h1 _ e)) u, Z0G hr.writes (fun e => hA (h2 _ e)) u, Z0G hr.ents (fun e => hA (h3 _ e)) u, Z0G hr.check (fun e => hA (h4 _ e)) u,
  ⟨(hk _ _ (by have := hr.pos; omega)).trans hr.none.c0, (hk _ _ (by have := hr.pos; omega)).trans hr.none.c1, by simpa [World.setCell] using hr.none.lt⟩, hr.pos⟩, h1, h2, h3, h4⟩
theorem IsRun.lt {A : Nat → Prop} {op : Bt.Op} {known : List Bt.Page} {vf vk : Value} {s : Bt.St} {b : Nat} {w : World} (h : IsRun A op known vf vk s b w) : b < w.heap.size := by
 obtain ⟨vn, vw, ve, vc, hr, _⟩ := h
 exact hr.blk.lt
def Z0y (A : Nat → Prop) (op : Bt.Op) (known : List Bt.Page) (vf vk : Value) (s : Bt.St) (b : Nat) (r : Value) (w : World) (e : Ending) (w' : World) : Prop :=
 e = .returned r ∧ IsRun (New A w) op known vf vk s b w' ∧ Over b w w'
theorem Z8K (A : Nat → Prop) (op : Bt.Op) (known : List Bt.Page) (vf vk : Value) (s : Bt.St) (b : Nat) (l : Int) (w : World) (h : IsRun A op known vf vk s b w) :
 Calls Tryz.prog 79 #[.pointer (some ⟨b, 0, none⟩), .int .i64 l] w (Z0y A op known vf vk (s.wait l) b (.bool false) w) := by
 obtain ⟨vn, vw, ve, vc, hr, h1, h2, h3, h4⟩ := h
 have HR := hid hr
 have HA := hid (And.intro h2 (And.intro h3 h4))
 have hlt := hr.blk.lt
 have k9 : w.cell? ⟨b, 9, none⟩ = some vn := hr.blk.cell 9
 have f9 := hr.blk.free 9
 clear hr h1 h2 h3 h4
 go_enter Tryz.func79, Tryz.ntmps79
 go_wp2
 go_ret
 have hr := HR.out
 have ho : Over b w ((w.setCell ⟨b, 9, none⟩ (.slice (some ⟨w.heap.size, 0, none⟩) 1 1)).alloc (.cells #[.int .i64 l] 3)) := qV
 refine ⟨rfl, ⟨.slice (some ⟨w.heap.size, 0, none⟩) 1 1, vw, ve, vc, ?_, fun c hc => .inr (by simp [Value.ownBlock] at hc; omega), fun c hc => .inl (HA.out.1 c hc), fun c hc => .inl (HA.out.2.1 c hc), fun c hc => .inl (HA.out.2.2 c hc)⟩, ho⟩
 exact ⟨((hr.blk.put 9 _).alloc _).cast rfl, hr.known.over ho hr.apart, hr.apart, hr.fresh.over ho hr.apartf, hr.apartf,
  ⟨rfl, .inr ⟨w.heap.size, 1, #[.int .i64 l], rfl, by omega, Blk.made' (by simp [World.setCell]), Nat.le_refl _, by unfold maxLen; omega, rfl, rfl⟩⟩,
  Z0H hr.writes ho (by omega), Z0H hr.ents ho (by omega), Z0H hr.check ho (by omega), hr.none.over ho hr.pos, hr.pos⟩
theorem Z3O (x : Int) (l : List Int) : (Bt.Z2c x l).Perm (x :: l) := by
 induction l with
 | nil => exact List.Perm.refl _
 | cons y ys ih =>
   simp only [Bt.Z2c]
   split
   ·exact List.Perm.refl _
   ·exact (List.Perm.cons y ih).trans (List.Perm.swap x y ys)
theorem Z3U (l : List Int) : (Bt.Z23 l).Perm l := by
 induction l with
 | nil => exact List.Perm.refl _
 | cons x xs ih => exact (Z3O x _).trans (List.Perm.cons x ih)
theorem Z4P (x : Int) (l : List Int) (h : l.Pairwise (· ≤ ·)) : (Bt.Z2c x l).Pairwise (· ≤ ·) := by
 induction l with
 | nil => simp [Bt.Z2c]
 | cons y ys ih =>
   have hp := List.pairwise_cons.1 h
   simp only [Bt.Z2c]
   split
   ·rename_i hxy
    refine List.pairwise_cons.2 ⟨fun z hz => ?_, h⟩
    rcases List.mem_cons.1 hz with rfl | hz
    ·exact hxy
    ·have := hp.1 z hz
     omega
   ·rename_i hxy
    refine List.pairwise_cons.2 ⟨fun z hz => ?_, ih hp.2⟩
    have := (Z3O x ys).mem_iff.1 hz
    rcases List.mem_cons.1 this with rfl | hz
    ·omega
    ·exact hp.1 z hz
theorem Z5U (l : List Int) : (Bt.Z23 l).Pairwise (· ≤ ·) := by
 induction l with
 | nil => exact List.Pairwise.nil
 | cons x xs ih => exact Z4P x _ ih
theorem Z7y (l : List Int) : l.mergeSort (fun x y => decide (x ≤ y)) = Bt.Z23 l := by
 have h1 : (l.mergeSort (fun x y => decide (x ≤ y))).Pairwise (fun a b => decide (a ≤ b) = true) := List.pairwise_mergeSort (by intro a b c; simp; omega) (by intro a b; simp; omega) l
 have h1' : (l.mergeSort (fun x y => decide (x ≤ y))).Pairwise (· ≤ ·) := h1.imp (by intro a b h; simpa using h)
 exact List.Perm.eq_of_pairwise (le := (· ≤ ·)) (by intro a b _ _ h1 h2; omega) h1' (Z5U l) ((List.mergeSort_perm l _).trans (Z3U l).symm)
def Z1Q : Option Int → List Int → List Int
 | _, [] => []
 | p, x :: xs => if p = some x then Z1Q (some x) xs else x :: Z1Q (some x) xs
theorem Z7R (x : Int) (xs : List Int) : Bt.compact (x :: xs) = x :: Z1Q (some x) xs := by
 induction xs generalizing x with
 | nil => rfl
 | cons y ys ih =>
   simp only [Bt.compact, Z1Q]
   by_cases h : x = y
   ·subst h
    rw [if_pos rfl, if_pos rfl]
    exact ih x
   ·rw [if_neg h, if_neg (by simpa using h), ih y]
theorem Z7Q (l : List Int) : Bt.compact l = Z1Q none l := by
 cases l with
 | nil => rfl
 | cons x xs => rw [Z7R]; simp [Z1Q]
theorem Z5I (p : Option Int) (l : List Int) (x : Int) : Z1Q p (l ++ [x]) = Z1Q p l ++ (if (if l = [] then p else l.getLast?) = some x then [] else [x]) := by
 induction l generalizing p with
 | nil => simp only [List.nil_append, Z1Q, if_true]
 | cons y ys ih =>
   simp only [List.cons_append, Z1Q]
   have e : (if ys = [] then some y else ys.getLast?) = (if y :: ys = [] then p else (y :: ys).getLast?) := by
    cases ys with
    | nil => simp
    | cons z zs => simp [List.getLast?_cons_cons]
   split <;> rw [ih (some y), e] <;> try rfl
theorem Z6c (l : List Int) : Go.Lib.compact l = Bt.compact l := by
 rw [Z7Q]
 unfold Go.Lib.compact
 have : ∀ m, m ≤ l.length → Go.Lib.compactUpTo l.toArray m = Z1Q none (l.take m) := by
  intro m
  induction m with
  | zero => intro _; rfl
  | succ m ih =>
    intro hm
    have hlt : m < l.length := by omega
    rw [Go.Lib.compactUpTo_succ, ih (by omega), List.take_succ_eq_append_getElem hlt, Z5I]
    congr 1
    have hg : l.toArray[m]! = l[m] := by rw [getElem!_pos l.toArray m (by simpa using hlt)]; simp
    rw [hg]
    cases m with
    | zero => simp [Go.Lib.keeps]
    | succ m =>
      have hg2 : l.toArray[m]! = l[m] := by rw [getElem!_pos l.toArray m (by simp; omega)]; simp
      have hne : l.take (m + 1) ≠ [] := by intro h; have h2 := congrArg List.length h; rw [List.length_take] at h2; simp only [List.length_nil] at h2; omega
      have hlast : (l.take (m + 1)).getLast? = some l[m] := by rw [List.take_succ_eq_append_getElem (show m < l.length by omega), List.getLast?_append]; simp
      rw [if_neg hne, hlast]
      unfold Go.Lib.keeps
      rw [hg, Nat.add_sub_cancel, hg2]
      by_cases h : l[m] = l[m + 1]
      ·simp [h]
      ·have h' : ¬ l[m + 1] = l[m] := fun e => h e.symm
       simp [h, h']
 rw [this l.length (Nat.le_refl _), List.take_length]
theorem Z7z (w : World) (blk k : Nat) (f : Array Value → Array Value) : (Go.Sort.mapBlock w blk f).heap[k]? = if blk = k then (w.heap[k]?).map (Go.Sort.onCells f) else w.heap[k]? := by
 unfold Go.Sort.mapBlock
 simp only [Array.getElem?_modify]
theorem Z8N (zs : List Int) (cur : Array Value) (h : zs.length ≤ cur.size) : (Go.Sort.putCells (Value.int .i64) 0 zs.toArray cur).toList.take zs.length = intCells zs := by
 apply List.ext_getElem?
 intro j
 by_cases hj : j < zs.length
 ·rw [List.getElem?_take_of_lt hj]
  have h1 : j < cur.size := by omega
  have hg : zs.toArray[j]! = zs[j] := by rw [getElem!_pos zs.toArray j (by simpa using hj)]; simp
  simp [Go.Sort.putCells, intCells, h1, hj, hg]
 ·rw [List.getElem?_eq_none (by simp; omega), List.getElem?_eq_none (by simp [intCells]; omega)]
theorem Zbp (zs : List Int) (n : Nat) (cur : Array Value) (h : n ≤ zs.length) (h2 : zs.length ≤ cur.size) : (Go.Sort.putCells (Value.int .i64) 0 zs.toArray cur).toList.take n = intCells (zs.take n) := by
 have := congrArg (List.take n) (Z8N zs cur h2)
 rw [List.take_take, Nat.min_eq_left h] at this
 rw [this]
 simp [intCells, List.map_take]
theorem Z8O {α : Type} [Inhabited α] (enc : α → Value) (o : Nat) (d : Array α) (c : Array Value) : (Go.Sort.putCells enc o d c).size = c.size := by simp [Go.Sort.putCells]
theorem Z7u {w : World} {base g n cap : Nat} {zs : List Int} (h : w.ownsRow base 3 1 (.slice (some ⟨g, 0, none⟩) n cap) n (intCells zs)) : Go.Sort.Holds (Value.int .i64) w g 0 zs.toArray := by
 intro j hj
 have hj' : j < zs.length := by simpa using hj
 have hg : zs.toArray[j]! = zs[j] := by rw [getElem!_pos zs.toArray j hj]; simp
 rw [hg, Nat.zero_add]
 refine ⟨Z0i h j _ (by simp [intCells, hj']), ?_⟩
 rcases h.2 with ⟨h0, _⟩ | ⟨g', cap', cur, hv, _, hc, _⟩
 ·simp at h0
 ·simp only [Value.slice.injEq, Option.some.injEq, Addr.mk.injEq, and_true, true_and] at hv
  obtain ⟨rfl, rfl⟩ := hv
  exact frozen_of_row w g j cur _ hc
theorem Zbl (base g n cap : Nat) (zs : List Int) (w : World) (hn : zs.length = n) (h : w.ownsRow base 3 1 (.slice (some ⟨g, 0, none⟩) n cap) n (intCells zs)) (hsmall : n ≤ 1000000) :
 Calls Tryz.prog 101 #[.slice (some ⟨g, 0, none⟩) n cap] w fun e w' => e = .returned (.tuple #[]) ∧ w'.ownsRow base 3 1 (.slice (some ⟨g, 0, none⟩) n cap) n (intCells (Bt.Z23 zs)) ∧ Over g w w' := by
 subst hn
 have hlt := (Z0X h).2
 refine (Tryz.slices_Sort_int g 0 cap zs w (Z7u h) hlt (by omega)).mono ?_
 rintro e w' ⟨rfl, q, os, rfl⟩
 rw [Z7y]
 have hl : (Bt.Z23 zs).length = zs.length := (Z3U zs).length_eq
 have hblock : ∀ k, k < w.heap.size → (Go.Sort.grow (Go.Sort.putRow (Value.int .i64) (Go.Sort.ahead w q) g 0 (Bt.Z23 zs).toArray) os).heap[k]? = if g = k then (w.heap[k]?).map (Go.Sort.onCells (Go.Sort.putCells (Value.int .i64) 0 (Bt.Z23 zs).toArray)) else w.heap[k]? := by
  intro k hk
  unfold Go.Sort.grow Go.Sort.putRow
  have hsz : (Go.Sort.mapBlock (Go.Sort.ahead w q) g (Go.Sort.putCells (Value.int .i64) 0 (Bt.Z23 zs).toArray)).heap.size = w.heap.size := by simp [Go.Sort.mapBlock, Go.Sort.ahead]
  rw [Array.getElem?_append_left (by rw [hsz]; exact hk), Z7z]
  rfl
 refine ⟨rfl, ⟨by simp [intCells, hl], ?_⟩, ?_⟩
 ·rcases h.2 with ⟨h0, _⟩ | ⟨g', cap', cur, hv, hbase, hc, h1, h2, h3, h4⟩
  ·simp at h0
  ·simp only [Value.slice.injEq, Option.some.injEq, Addr.mk.injEq, and_true, true_and] at hv
   obtain ⟨rfl, rfl⟩ := hv
   refine .inr ⟨g, cap, Go.Sort.putCells (Value.int .i64) 0 (Bt.Z23 zs).toArray cur, rfl, hbase, ?_, h1, h2, by rw [Z8O]; exact h3, ?_⟩
   ·rw [hblock g hlt, if_pos rfl, hc]
    rfl
   ·rw [Nat.mul_one, ← hl]
    exact Z8N _ _ (by omega)
 ·exact ⟨rfl, rfl, rfl, by simp [Go.Sort.putRow, Go.Sort.mapBlock, Go.Sort.ahead], fun k hk hn => by rw [hblock k hk, if_neg (by intro e; exact hn (by rw [e]))]⟩
theorem Z8F (base g n cap : Nat) (zs : List Int) (w : World) (hn : zs.length = n) (h : w.ownsRow base 3 1 (.slice (some ⟨g, 0, none⟩) n cap) n (intCells zs)) (hsmall : n ≤ 1000000) :
 Calls Tryz.prog 102 #[.slice (some ⟨g, 0, none⟩) n cap] w fun e w' => e = .returned (.slice (some ⟨g, 0, none⟩) (Bt.compact zs).length cap) ∧
  w'.ownsRow base 3 1 (.slice (some ⟨g, 0, none⟩) (Bt.compact zs).length cap) (Bt.compact zs).length (intCells (Bt.compact zs)) ∧ Over g w w' := by
 subst hn
 have hlt := (Z0X h).2
 have hcap := Z3o h
 refine (Tryz.slices_Compact_int g 0 cap zs w (Z7u h) (by omega) hcap.1).mono ?_
 rintro e w' ⟨rfl, q, rfl⟩
 have hle : (Bt.compact zs).length ≤ zs.length := by rw [← Z6c]; exact Go.Lib.compact_length_le zs
 rw [Z6c]
 generalize hd : (Bt.compact zs ++ List.replicate (zs.length - (Bt.compact zs).length) 0) = d
 have hdl : d.length = zs.length := by rw [← hd]; simp; omega
 have hdt : d.take (Bt.compact zs).length = Bt.compact zs := by rw [← hd]; simp
 have hblock : ∀ k, k < w.heap.size → (Go.Sort.putRow (Value.int .i64) (Go.Sort.ahead w q) g 0 d.toArray).heap[k]? = if g = k then (w.heap[k]?).map (Go.Sort.onCells (Go.Sort.putCells (Value.int .i64) 0 d.toArray)) else w.heap[k]? := by
  intro k hk
  unfold Go.Sort.putRow
  rw [Z7z]
  rfl
 refine ⟨rfl, ⟨by simp [intCells], ?_⟩, ?_⟩
 ·rcases h.2 with ⟨h0, _⟩ | ⟨g', cap', cur, hv, hbase, hc, h1, h2, h3, h4⟩
  ·simp at h0
  ·simp only [Value.slice.injEq, Option.some.injEq, Addr.mk.injEq, and_true, true_and] at hv
   obtain ⟨rfl, rfl⟩ := hv
   refine .inr ⟨g, cap, Go.Sort.putCells (Value.int .i64) 0 d.toArray cur, rfl, hbase, ?_, by omega, h2, by rw [Z8O]; exact h3, ?_⟩
   ·rw [hblock g hlt, if_pos rfl, hc]
    rfl
   ·rw [Nat.mul_one, Zbp d _ cur (by omega) (by omega), hdt]
 ·exact ⟨rfl, rfl, rfl, by simp [Go.Sort.putRow, Go.Sort.mapBlock, Go.Sort.ahead], fun k hk hn => by rw [hblock k hk, if_neg (by intro e; exact hn (by rw [e]))]⟩
theorem Z1Z (A : Nat → Prop) (op : Bt.Op) (known : List Bt.Page) (vf vk : Value) (s : Bt.St) (b : Nat) (c : Int) (w : World) (h : IsRun A op known vf vk s b w) :
 Calls Tryz.prog 81 #[.pointer (some ⟨b, 0, none⟩), .int .i64 c, .slice none 0 0] w (Z0y A op known vf vk (s.fail c []) b (.bool false) w) := by
 obtain ⟨vn, vw, ve, vc, hr, h1, h2, h3, h4⟩ := h
 have HR := hid hr
 have HA := hid (And.intro h1 (And.intro h2 h3))
 have hlt := hr.blk.lt
 have k11 : w.cell? ⟨b, 11, none⟩ = some (.int .i64 s.out.code) := hr.blk.cell 11
 have k21 : w.cell? ⟨b, 21, none⟩ = some vc := hr.blk.cell 21
 have f9 := hr.blk.free
 clear hr h1 h2 h3 h4
 go_enter Tryz.func81, Tryz.ntmps81
 go_wp2_with fail
 go_at_call 101; refine (Tryz.slices_Sort_int_none none 0 _).mono ?_; rintro e w1 ⟨rfl, hw⟩; obtain rfl : w = w1 := hw.symm; clear hw
 go_wp2_with fail
 go_at_call 102; refine (Tryz.slices_Compact_int_empty none 0 _).mono ?_; rintro e w2 ⟨rfl, hw⟩; obtain rfl : w = w2 := hw.symm; clear hw
 go_wp2_with fail
 go_ret
 have hr := HR.out
 refine ⟨rfl, ⟨vn, vw, ve, .slice none 0 0, ?_, fun c hc => .inl (HA.out.1 c hc), fun c hc => .inl (HA.out.2.1 c hc), fun c hc => .inl (HA.out.2.2 c hc), fun c hc => by simp [Value.ownBlock] at hc⟩, qV⟩
 have ho : Over b w ((w.setCell ⟨b, 11, none⟩ (.int .i64 c)).setCell ⟨b, 21, none⟩ (.slice none 0 0)) := qV
 exact ⟨((hr.blk.put 11 _).put 21 _).cast rfl, hr.known.over ho hr.apart, hr.apart, hr.fresh.over ho hr.apartf, hr.apartf,
  Z0H hr.need ho (by omega), Z0H hr.writes ho (by omega), Z0H hr.ents ho (by omega), World.ownsRow_nil _ _ _ _, hr.none.over ho hr.pos, hr.pos⟩
structure OverTwo (b g : Nat) (w w' : World) : Prop where
 os : w'.os = w.os
 tape : w'.tape = w.tape
 output : w'.output = w.output
 size : w.heap.size ≤ w'.heap.size
 block : ∀ k, k < w.heap.size → k ≠ b → k ≠ g → w'.heap[k]? = w.heap[k]?
theorem Over.two {b g : Nat} {w0 w w' : World} (h : Over b w0 w) (h2 : OverTwo b g w w') (hg : w0.heap.size ≤ g) : Over b w0 w' :=
 ⟨h2.os.trans h.os, h2.tape.trans h.tape, h2.output.trans h.output, Nat.le_trans h.size h2.size, fun k hk hn => (h2.block k (Nat.lt_of_lt_of_le hk h.size) (by intro e; exact hn (by rw [e])) (by omega)).trans (h.block k hk hn)⟩
theorem PgRow.two {w w' : World} {v : Value} {l : List Bt.Page} {b g : Nat} (h : PgRow w v l) (ho : OverTwo b g w w') (hb : ∀ c n m, v = .slice (some ⟨c, 0, none⟩) n m → c < b) (hg : b < g) : PgRow w' v l := by
 refine ⟨h.ok, h.len, ?_⟩
 rcases h.form with h1 | ⟨c, cap, hv, hlt, hcells⟩
 ·exact .inl h1
 ·have hcb := hb c _ _ hv
  have hk := ho.block c hlt (by omega) (by omega)
  exact .inr ⟨c, cap, hv, Nat.lt_of_lt_of_le hlt ho.size, fun i p hi j u hu => by
   have := hcells i p hi j u hu
   simpa only [World.cell?, hk] using this⟩
theorem NoneAt.two {w w' : World} {b g : Nat} (h : NoneAt w) (ho : OverTwo b g w w') (hb : 0 < b) (hg : b < g) : NoneAt w' := by
 have hk := ho.block 0 h.lt (by omega) (by omega)
 refine ⟨?_, ?_, Nat.lt_of_lt_of_le h.lt ho.size⟩
 ·have := h.c0; simpa only [World.cell?, hk] using this
 ·have := h.c1; simpa only [World.cell?, hk] using this
theorem Z8o {w w' : World} {base n size b g : Nat} {e : TypeId} {v : Value} {xs : List Value} (h : w.ownsRow base e size v n xs) (ho : OverTwo b g w w') (hb : b < base) (hd : v.ownBlock ≠ some g) : w'.ownsRow base e size v n xs := by
 refine ⟨h.1, ?_⟩
 rcases h.2 with h1 | ⟨c, cap, cur, hv, hbase, hc, h1, h2, h3, h4⟩
 ·exact .inl h1
 ·subst hv
  simp [Value.ownBlock] at hd
  exact .inr ⟨c, cap, cur, rfl, hbase, (ho.block c (Array.getElem?_eq_some_iff.1 hc).1 (by omega) hd).trans hc, h1, h2, h3, h4⟩
def ZbO (op : Bt.Op) (known : List Bt.Page) (vf vk : Value) (s : Bt.St) (b g : Nat) (vn vw ve : Value) (w : World) (e : Ending) (w' : World) : Prop :=
 e = .returned (.bool false) ∧ (∃ m cap, RunAt op known vf vk s b vn vw ve (.slice (some ⟨g, 0, none⟩) m cap) w') ∧ OverTwo b g w w'
theorem Z7K (op : Bt.Op) (known : List Bt.Page) (vf vk : Value) (s : Bt.St) (b g n cap : Nat) (vn vw ve vc : Value) (check : List Int) (c : Int) (w : World) (hr : RunAt op known vf vk s b vn vw ve vc w)
 (hq : w.ownsRow (b + 1) 3 1 (.slice (some ⟨g, 0, none⟩) n cap) n (intCells check)) (hn : check.length = n) (hsmall : n ≤ 1000000) (d1 : vn.ownBlock ≠ some g) (d2 : vw.ownBlock ≠ some g) (d3 : ve.ownBlock ≠ some g) :
 Calls Tryz.prog 81 #[.pointer (some ⟨b, 0, none⟩), .int .i64 c, .slice (some ⟨g, 0, none⟩) n cap] w (ZbO op known vf vk (s.fail c check) b g vn vw ve w) := by
 have HR := hid hr
 have HQ := hid hq
 have HN := hid hn
 have hgb := (Z0X hq).1
 have hcap := Z3o hq
 have hsl : (Bt.Z23 check).length = n := by rw [(Z3U check).length_eq]; exact hn
 have HSL := hid hsl
 clear hr hq hn hsl
 go_enter Tryz.func81, Tryz.ntmps81
 go_wp2_with fail
 go_at_call 101; refine (Zbl (b + 1) g n cap check _ HN.out HQ.out hsmall).mono ?_
 rintro e w1 ⟨rfl, hown1, ho1⟩
 have HO1 := hid ho1
 have HW1 := hid hown1
 clear hown1 ho1
 go_wp2_with fail
 go_at_call 102; refine (Z8F (b + 1) g n cap (Bt.Z23 check) _ HSL.out HW1.out hsmall).mono ?_
 rintro e w2 ⟨rfl, hown2, ho2⟩
 have HB2 := hid ((HR.out.blk.grown HO1.out (by simp; omega)).grown ho2 (by simp; omega))
 have HO2 := hid (HO1.out.trans ho2)
 have HW2 := hid hown2
 have k11 : w2.cell? ⟨b, 11, none⟩ = some (.int .i64 s.out.code) := HB2.out.cell 11
 have k21 : w2.cell? ⟨b, 21, none⟩ = some vc := HB2.out.cell 21
 have f9 := HB2.out.free
 clear hown2 ho2
 go_wp2_with fail
 go_ret
 have hr := HR.out
 have ho2 := HO2.out
 have ht : OverTwo b g w ((w2.setCell ⟨b, 11, none⟩ (.int .i64 c)).setCell ⟨b, 21, none⟩ (.slice (some ⟨g, 0, none⟩) (Bt.compact (Bt.Z23 check)).length cap)) :=
  ⟨ho2.os, ho2.tape, ho2.output, by simpa [World.setCell] using ho2.size, fun k hk hn hg => by
   rw [heap_setCell_other _ _ k _ (by exact hn), heap_setCell_other _ _ k _ (by exact hn)]
   exact ho2.block k hk (by simpa using hg)⟩
 refine ⟨rfl, ⟨(Bt.compact (Bt.Z23 check)).length, cap, ?_⟩, ht⟩
 exact ⟨((HB2.out.put 11 _).put 21 _).cast rfl, hr.known.two ht hr.apart (by omega), hr.apart, hr.fresh.two ht hr.apartf (by omega), hr.apartf,
  Z8o hr.need ht (by omega) d1, Z8o hr.writes ht (by omega) d2, Z8o hr.ents ht (by omega) d3, Z01 (Z01 HW2.out (by show b < b + 1; omega) _) (by show b < b + 1; omega) _, hr.none.two ht hr.pos (by omega), hr.pos⟩
end Go.Proofs.YtjmpekanlmepmaaGreatDoor
