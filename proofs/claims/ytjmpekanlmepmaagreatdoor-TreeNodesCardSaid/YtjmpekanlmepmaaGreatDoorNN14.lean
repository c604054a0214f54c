/- Package btree: an operation under way, in memory. -/
import Derived.Test.YtjmpekanlmepmaaGreatDoorNN05
import Derived.Test.YtjmpekanlmepmaaGreatDoorNN13
import Derived.Test.YtjmpekanlmepmaaGreatDoorNN12
import Derived.Deep.Light
import Derived.IntWalk
import Derived.Test.YtjmpekanlmepmaaGreatDoorNN09
import Derived.Shelf.Small.Bits
import Derived.Shelf.Small.Wraps
import Derived.Shelf.Strconv.Itoa0
import Derived.Shelf.Sort.Plain
import Derived.Shelf.Slices.Turned
import Derived.Ground.Names2Prog
import Derived.Shelf.Slices.CompactI
import Derived.Shelf.Slices.SearchI
import Derived.Shelf.Slices.Cells
import Derived.Shelf.Slices.In.SortNone
import Derived.Test.YtjmpekanlmepmaaGreatDoorProg
import Derived.Test.YtjmpekanlmepmaaGreatDoorNN01
import Derived.Lib.SlicesCompact
set_option linter.all false
set_option maxRecDepth 20000
set_option maxHeartbeats 8000000
open Go.Lib (hid)
namespace Go.Proofs.YtjmpekanlmepmaaGreatDoor
open Go.RowKit
abbrev Over (b : Nat) (w w' : World) : Prop := w.grownBy w' (some b)
theorem over_rules {b : Nat} {w w1 : World} (h : Over b w w1) :
 (∀ c o, c < w.heap.size → (c < b ∨ b < c) → w1.cell? ⟨c, o, none⟩ = w.cell? ⟨c, o, none⟩) ∧ (∀ c o, c < w.heap.size → (c < b ∨ b < c) → w1.frozen? ⟨c, o, none⟩ = w.frozen? ⟨c, o, none⟩) := by
 have hb : ∀ c, c < w.heap.size → (c < b ∨ b < c) → w1.heap[c]? = w.heap[c]? := fun c hc hn => h.block c hc (by simp; omega)
 refine ⟨fun c o hc hn => ?_, fun c o hc hn => ?_⟩
 ·simp only [World.cell?, hb c hc hn]
 ·simp only [World.frozen?, hb c hc hn]
theorem Over.of_below {b : Nat} {w w' : World} (h : Below w.heap.size w w') : Over b w w' := ⟨h.os, h.tape, h.output, h.size, fun k hk _ => h.block k hk⟩
section
variable {b : Nat} {w w1 w2 : World}
theorem Over.refl (b : Nat) (w : World) : Over b w w := ⟨rfl, rfl, rfl, Nat.le_refl _, fun _ _ _ => rfl⟩
theorem Over.trans (h1 : Over b w w1) (h2 : Over b w1 w2) : Over b w w2 :=
 ⟨h2.os.trans h1.os, h2.tape.trans h1.tape, h2.output.trans h1.output, Nat.le_trans h1.size h2.size, fun k hk hn => (h2.block k (Nat.lt_of_lt_of_le hk h1.size) hn).trans (h1.block k hk hn)⟩
theorem Over.then_below (h1 : Over b w w1) (h2 : Below w1.heap.size w1 w2) : Over b w w2 := h1.trans (Over.of_below h2)
theorem Over.alloc (h : Over b w w1) (o : Obj) : Over b w (w1.alloc o) := h.then_below (below_alloc (Below.refl _ _) _)
theorem Over.drew (h : Over b w w1) : Over b w w1.drew := ⟨h.os, h.tape, h.output, h.size, h.block⟩
theorem Over.put (h : Over b w w1) (i : Nat) (v : Value) : Over b w (w1.setCell ⟨b, i, none⟩ v) :=
 h.trans ⟨rfl, rfl, rfl, by simp [World.setCell], fun k hk hn => heap_setCell_other w1 ⟨b, i, none⟩ k v (by intro e; exact hn (by rw [e]))⟩
theorem Over.own (h : Over b w w1) {p : Addr} (hp : w.heap.size ≤ p.block) (v : Value) : Over b w (w1.setCell p v) :=
 ⟨h.os, h.tape, h.output, by simpa [World.setCell] using h.size, fun k hk hn => (heap_setCell_other w1 p k v (by omega)).trans (h.block k hk hn)⟩
end
theorem qV {b : Nat} {w w' : World} (h : Over b w w' := by (repeat (first | with_reducible exact Over.refl _ _ | with_reducible assumption | with_reducible refine Over.put ?_ _ _ | with_reducible refine Over.alloc ?_ _ | with_reducible refine Over.drew ?_ | with_reducible refine Over.own ?_ (by first | (simp; done) | (simp; omega)) _ | with_reducible refine Over.trans ?_ (by assumption) | with_reducible refine Over.then_below ?_ (by assumption)))) : Over b w w' := h
theorem qO {b : Nat} {w w1 : World} {n : Nat} (hb : Over b w w1) (hn : w.heap.size = n := by (try simp only [size_alloc, size_setCell, size_drew, size_drewN]); rfl) : (∀ c o, c < n → (c < b ∨ b < c) → w1.cell? ⟨c, o, none⟩ = w.cell? ⟨c, o, none⟩) ∧ (∀ c o, c < n → (c < b ∨ b < c) → w1.frozen? ⟨c, o, none⟩ = w.frozen? ⟨c, o, none⟩) ∧ n ≤ w1.heap.size := by
 subst hn
 exact ⟨(over_rules hb).1, (over_rules hb).2, World.grownBy.size hb⟩
def intCells (l : List Int) : List Value := l.map (Value.int .i64)
def pageCells (l : List Bt.Page) : List Value := l.flatMap (fun p => p.cells.toList)
def runCells (op : Bt.Op) (vf vk : Value) (s : Bt.St) (vn vw ve vc : Value) : Array Value :=
 #[.int .i64 op.kind, .int .u32 op.key, .int .u32 op.last, .int .i64 op.to.line, .int .i64 op.to.gen, .int .i64 op.level, .int .i64 op.limit, vf, vk, vn, vw,
  .int .i64 s.out.code, .bool s.out.found, .bool s.out.done, .bool s.out.split, .bool s.out.unposted, .bool s.out.dead, .bool s.out.more, .int .i64 s.out.to.line, .int .i64 s.out.to.gen, ve, vc,
  .int .i64 s.out.hops, .int .i64 s.out.fresh, .int .i64 s.out.height,
  .int .i64 s.rootPage.line, .int .u64 s.rootPage.head, .int .u64 s.rootPage.d0, .int .u64 s.rootPage.d1, .int .u64 s.rootPage.d2, .int .u64 s.rootPage.d3, .int .u64 s.rootPage.d4, .int .u64 s.rootPage.d5, .int .u64 s.rootPage.d6,
  .int .i64 s.root.line, .int .i64 s.root.gen, .bool s.ended]
structure RunAt (op : Bt.Op) (known : List Bt.Page) (vf vk : Value) (s : Bt.St) (b : Nat) (vn vw ve vc : Value) (w : World) : Prop where
 blk : Blk w b 118 (runCells op vf vk s vn vw ve vc)
 known : PgRow w vk known
 apart : ∀ c n m, vk = .slice (some ⟨c, 0, none⟩) n m → c < b
 fresh : PgRow w vf op.fresh
 apartf : ∀ c n m, vf = .slice (some ⟨c, 0, none⟩) n m → c < b
 need : w.ownsRow (b + 1) 3 1 vn s.need.length (intCells s.need)
 writes : w.ownsRow (b + 1) 25 9 vw s.writes.length (pageCells s.writes)
 ents : w.ownsRow (b + 1) 69 3 ve s.out.entries.length (entCells s.out.entries)
 check : w.ownsRow (b + 1) 3 1 vc s.out.check.length (intCells s.out.check)
 none : NoneAt w
 pos : 0 < b
theorem PgRow.over {w w' : World} {v : Value} {l : List Bt.Page} {b : Nat} (h : PgRow w v l) (ho : Over b w w') (hb : ∀ c n m, v = .slice (some ⟨c, 0, none⟩) n m → c < b) : PgRow w' v l := by
 refine ⟨h.ok, h.len, ?_⟩
 rcases h.form with h1 | ⟨c, cap, hv, hlt, hcells⟩
 ·exact .inl h1
 ·exact .inr ⟨c, cap, hv, Nat.lt_of_lt_of_le hlt ho.size, fun i p hi j u hu => by rw [(over_rules ho).1 c _ hlt (Or.inl (hb c _ _ hv))]; exact hcells i p hi j u hu⟩
theorem NoneAt.over {w w' : World} {b : Nat} (h : NoneAt w) (ho : Over b w w') (hb : 0 < b) : NoneAt w' :=
 ⟨((over_rules ho).1 _ _ h.lt (Or.inl hb)).trans h.c0, ((over_rules ho).1 _ _ h.lt (Or.inl hb)).trans h.c1, Nat.lt_of_lt_of_le h.lt ho.size⟩
theorem own_over {w w' : World} {base n size b : Nat} {e : TypeId} {v : Value} {xs : List Value} (h : w.ownsRow base e size v n xs) (ho : Over b w w') (hb : b < base) : w'.ownsRow base e size v n xs := by
 refine h.kept ho ?_
 rcases hv : v.ownBlock with _ | c
 ·exact .inl rfl
 ·right
  have := own_row_ge h c hv
  simp; omega
theorem RunAt.over {op : Bt.Op} {known : List Bt.Page} {vf vk : Value} {s s' : Bt.St} {b : Nat} {vn vw ve vc : Value} {w w' : World} (h : RunAt op known vf vk s b vn vw ve vc w) (ho : Over b w w')
 (hb : Blk w' b 118 (runCells op vf vk s' vn vw ve vc)) (h1 : s'.need = s.need) (h2 : s'.writes = s.writes) (h3 : s'.out.entries = s.out.entries) (h4 : s'.out.check = s.out.check) : RunAt op known vf vk s' b vn vw ve vc w' :=
 ⟨hb, h.known.over ho h.apart, h.apart, h.fresh.over ho h.apartf, h.apartf, by rw [h1]; exact own_over h.need ho (by omega), by rw [h2]; exact own_over h.writes ho (by omega), by rw [h3]; exact own_over h.ents ho (by omega), by rw [h4]; exact own_over h.check ho (by omega), h.none.over ho h.pos, h.pos⟩
def IsRun (A : Nat → Prop) (op : Bt.Op) (known : List Bt.Page) (vf vk : Value) (s : Bt.St) (b : Nat) (w : World) : Prop :=
 ∃ vn vw ve vc, RunAt op known vf vk s b vn vw ve vc w ∧ (∀ c, vn.ownBlock = some c → A c) ∧ (∀ c, vw.ownBlock = some c → A c) ∧ (∀ c, ve.ownBlock = some c → A c) ∧ (∀ c, vc.ownBlock = some c → A c)
def New (A : Nat → Prop) (w : World) : Nat → Prop := fun c => A c ∨ w.heap.size ≤ c
theorem IsRun.imp {A A' : Nat → Prop} {op : Bt.Op} {known : List Bt.Page} {vf vk : Value} {s : Bt.St} {b : Nat} {w : World} (h : IsRun A op known vf vk s b w) (hA : ∀ c, A c → A' c) : IsRun A' op known vf vk s b w := by
 obtain ⟨vn, vw, ve, vc, hr, h1, h2, h3, h4⟩ := h
 exact ⟨vn, vw, ve, vc, hr, fun c hc => hA c (h1 c hc), fun c hc => hA c (h2 c hc), fun c hc => hA c (h3 c hc), fun c hc => hA c (h4 c hc)⟩
theorem own_lt' {w : World} {base n size : Nat} {e : TypeId} {v : Value} {xs : List Value} (h : w.ownsRow base e size v n xs) (c : Nat) (hc : v.ownBlock = some c) : c < w.heap.size := by
 rcases h.2 with ⟨rfl, _⟩ | ⟨g, cap, cur, rfl, _, hh, _⟩
 ·simp [Value.ownBlock] at hc
 ·simp [Value.ownBlock] at hc; subst hc; exact (Array.getElem?_eq_some_iff.1 hh).1
theorem IsRun.below {A : Nat → Prop} {op : Bt.Op} {known : List Bt.Page} {vf vk : Value} {s : Bt.St} {b : Nat} {w w' : World} (h : IsRun A op known vf vk s b w) (hb : Below w.heap.size w w') : IsRun A op known vf vk s b w' := by
 obtain ⟨vn, vw, ve, vc, hr, h1⟩ := h
 exact ⟨vn, vw, ve, vc, ⟨hr.blk.kept hb, hr.known.below hb, hr.apart, hr.fresh.below hb, hr.apartf, own_below hr.need hb, own_below hr.writes hb, own_below hr.ents hb, own_below hr.check hb, hr.none.below hb, hr.pos⟩, h1⟩
theorem own_set {w : World} {base n size : Nat} {e : TypeId} {v : Value} {xs : List Value} (h : w.ownsRow base e size v n xs) {p : Addr} (hp : v.ownBlock ≠ some p.block) (u : Value) : (w.setCell p u).ownsRow base e size v n xs := by
 refine ⟨h.1, ?_⟩
 rcases h.2 with h1 | ⟨c, cap, cur, hv, hbase, hc, h1, h2, h3, h4⟩
 ·exact .inl h1
 ·subst hv
  simp [Value.ownBlock] at hp
  exact .inr ⟨c, cap, cur, rfl, hbase, (heap_setCell_other w p c u hp).trans hc, h1, h2, h3, h4⟩
theorem IsRun.set {A : Nat → Prop} {op : Bt.Op} {known : List Bt.Page} {vf vk : Value} {s : Bt.St} {b : Nat} {w : World} (h : IsRun A op known vf vk s b w) {p : Addr} (hp : b < p.block) (hA : ¬ A p.block) (u : Value) : IsRun A op known vf vk s b (w.setCell p u) := by
 obtain ⟨vn, vw, ve, vc, hr, h1, h2, h3, h4⟩ := h
 have ho : Below p.block w (w.setCell p u) := (Below.refl _ _).setCell (Nat.le_refl _) u
 have hk : ∀ c o, c < p.block → (w.setCell p u).cell? ⟨c, o, none⟩ = w.cell? ⟨c, o, none⟩ := fun c o hc => ho.cell (p := ⟨c, o, none⟩) hc
 refine ⟨vn, vw, ve, vc, ⟨hr.blk.aside (by omega) u, hr.known.kept ho (fun c n m hv => by have := hr.apart c n m hv; omega), hr.apart, hr.fresh.kept ho (fun c n m hv => by have := hr.apartf c n m hv; omega), hr.apartf,
  own_set hr.need (fun e => hA (h1 _ e)) u, own_set hr.writes (fun e => hA (h2 _ e)) u, own_set hr.ents (fun e => hA (h3 _ e)) u, own_set hr.check (fun e => hA (h4 _ e)) u,
  ⟨(hk _ _ (by have := hr.pos; omega)).trans hr.none.c0, (hk _ _ (by have := hr.pos; omega)).trans hr.none.c1, by simpa [World.setCell] using hr.none.lt⟩, hr.pos⟩, h1, h2, h3, h4⟩
theorem IsRun.lt {A : Nat → Prop} {op : Bt.Op} {known : List Bt.Page} {vf vk : Value} {s : Bt.St} {b : Nat} {w : World} (h : IsRun A op known vf vk s b w) : b < w.heap.size := by
 obtain ⟨vn, vw, ve, vc, hr, _⟩ := h
 exact hr.blk.lt
def RunPost (A : Nat → Prop) (op : Bt.Op) (known : List Bt.Page) (vf vk : Value) (s : Bt.St) (b : Nat) (r : Value) (w : World) (e : Ending) (w' : World) : Prop :=
 e = .returned r ∧ IsRun (New A w) op known vf vk s b w' ∧ Over b w w'
theorem wait_any (A : Nat → Prop) (op : Bt.Op) (known : List Bt.Page) (vf vk : Value) (s : Bt.St) (b : Nat) (l : Int) (w : World) (h : IsRun A op known vf vk s b w) :
 Calls Tryz.prog 79 #[.pointer (some ⟨b, 0, none⟩), .int .i64 l] w (RunPost A op known vf vk (s.wait l) b (.bool false) w) := by
 obtain ⟨vn, vw, ve, vc, hr, h1, h2, h3, h4⟩ := h
 have HR := hid hr
 have HA := hid (And.intro h2 (And.intro h3 h4))
 have hlt := hr.blk.lt
 have k9 : w.cell? ⟨b, 9, none⟩ = some vn := hr.blk.cell 9
 have f9 := hr.blk.free 9
 clear hr h1 h2 h3 h4
 go_enter Tryz.func79, Tryz.ntmps79
 go_wp2
 go_ret
 have hr := HR.out
 have ho : Over b w ((w.setCell ⟨b, 9, none⟩ (.slice (some ⟨w.heap.size, 0, none⟩) 1 1)).alloc (.cells #[.int .i64 l] 3)) := qV
 refine ⟨rfl, ⟨.slice (some ⟨w.heap.size, 0, none⟩) 1 1, vw, ve, vc, ?_, fun c hc => .inr (by simp [Value.ownBlock] at hc; omega), fun c hc => .inl (HA.out.1 c hc), fun c hc => .inl (HA.out.2.1 c hc), fun c hc => .inl (HA.out.2.2 c hc)⟩, ho⟩
 exact ⟨((hr.blk.put 9 _).alloc _).cast rfl, hr.known.over ho hr.apart, hr.apart, hr.fresh.over ho hr.apartf, hr.apartf,
  ⟨rfl, .inr ⟨w.heap.size, 1, #[.int .i64 l], rfl, by omega, Blk.made' (by simp [World.setCell]), Nat.le_refl _, by unfold maxLen; omega, rfl, rfl⟩⟩,
  own_over hr.writes ho (by omega), own_over hr.ents ho (by omega), own_over hr.check ho (by omega), hr.none.over ho hr.pos, hr.pos⟩
theorem infoPage : (Tryz.prog.info? 25).map (fun i => (i.zero, i.size, i.bytes)) = some (some (.agg #[.int .i64 0, .int .u64 0, .int .u64 0, .int .u64 0, .int .u64 0, .int .u64 0, .int .u64 0, .int .u64 0, .int .u64 0]), 9, 72) := by kernel_rfl
def newPage (i : Nat) : Bt.Page := ⟨96 + i, 256, 0, 0, 0, 0, 0, 0, 0⟩
def newPages (k : Nat) : List Bt.Page := (List.range k).map newPage
theorem newPages_succ (k : Nat) : pageCells (newPages (k + 1)) = pageCells (newPages k) ++ [.int .i64 (96 + k), .int .u64 256, .int .u64 0, .int .u64 0, .int .u64 0, .int .u64 0, .int .u64 0, .int .u64 0, .int .u64 0] := by
 simp [newPages, pageCells, List.range_succ, newPage, Bt.Page.cells]
theorem nine_news {w : World} {b : Nat} {cs : Array Value} {t : TypeId} (h : Blk w b t cs) : ∀ j v, cs.toList[j]? = some v → w.cell? ((⟨b, 0, none⟩ : Addr).add j) = some v := by
 intro j v hv
 have e : ((⟨b, 0, none⟩ : Addr).add j) = ⟨b, j, none⟩ := by simp [Addr.add]; omega
 rw [e, h.cell]
 simpa using hv
structure NewAt (w : World) (k : Nat) (v : Value) (wr : World) : Prop where
 blk : Blk wr w.heap.size 111 #[v, .int .i64 256, .int .i64 0, .slice none 0 0, .int .i64 1, .int .i64 0, .int .u32 1]
 own : wr.ownsRow (w.heap.size + 1) 25 9 v k (pageCells (newPages k))
 below : Below w.heap.size w wr
def NewRel (w : World) (i : Value) (wr : World) : Prop := ∃ (k : Nat) (v : Value), k ≤ 160 ∧ i = .int .i64 (96 + k) ∧ Hid (NewAt w k v wr)
theorem heapNew (w : World) : Calls Tryz.prog 47 #[.int .i64 256] w fun e w' => ∃ v, e = .returned (.pointer (some ⟨w.heap.size, 0, none⟩)) ∧ NewAt w 160 v w' := by
 obtain ⟨i0, hi, hz0, hz1, hz2⟩ := info_parts infoPage
 go_enter Tryz.func47, Tryz.ntmps47
 go_wp2_with fail
 go_loopw [4] (fun i wr => NewRel w i wr) (fun i _ => (256 - intOf i).toNat)
 case atStart => exact ⟨0, _, by omega, rfl, hid ⟨Blk.made _ _ _, World.ownsRow_nil _ _ _ _, qL⟩⟩
 case round =>
  obtain ⟨k, v, hk, rfl, HA⟩ := hrel
  have kb := HA.out.blk.cell 0
  have kb' : wr.cell? ⟨w.heap.size, 0, none⟩ = some v := kb
  have hfb := HA.out.blk.free 0
  have hlt : w.heap.size < wr.heap.size := HA.out.blk.lt
  clear kb
  by_cases hk2 : k < 160
  ·have b1 : decide ((96 : Int) + k < 256) = true := by simp; omega
   go_wp2_with (at_builtin; refine halt ?_)
   refine unhalt ?_
   refine wpList_append_mine rfl (.tmp 18) (.tmp 21) 54 rfl (w.heap.size + 1) 25 i0 _ 9 72 Tryz.underlying54 hi hz0 hz1 hz2 rfl (by decide) v k (pageCells (newPages k)) rfl
    (own_below HA.out.own (below_alloc (Below.refl _ _) _)) ⟨wr.heap.size, 0, none⟩ 1 1
    [.int .i64 (96 + k), .int .u64 256, .int .u64 0, .int .u64 0, .int .u64 0, .int .u64 0, .int .u64 0, .int .u64 0, .int .u64 0] rfl rfl (nine_news (cs := #[.int .i64 (96 + k), .int .u64 256, .int .u64 0, .int .u64 0, .int .u64 0, .int .u64 0, .int .u64 0, .int .u64 0, .int .u64 0]) (Blk.made _ _ _))
    (by intro u hu; simp at hu; rcases hu with rfl | rfl | rfl <;> rfl) (by omega) (by unfold maxLen; omega) (by omega) (by simp; omega) ?_
   intro g3 cap3 w3 hown3 hg3
   have hB3 := (HA.out.blk.alloc (.cells #[.int .i64 (96 + k), .int .u64 256, .int .u64 0, .int .u64 0, .int .u64 0, .int .u64 0, .int .u64 0, .int .u64 0, .int .u64 0] 25)).grown hg3 (own_ne HA.out.own (by omega))
   have hL3 := below_grown (w := w) (by have hbw := HA.out.below; exact qL) hg3 (fun j hj => by have := own_row_ge HA.out.own j hj; omega)
   have HB3 := hid hB3
   have HL3 := hid hL3
   have HW3 := hid hown3
   have k0 := hB3.cell 0
   have k0' : w3.cell? ⟨w.heap.size, 0, none⟩ = some v := k0
   have f0 := hB3.free 0
   clear hB3 hL3 hown3 hg3 k0
   go_wp2_with fail
   refine ⟨⟨k + 1, _, by omega, by rw [show (96 + (k : Int) + 1) = 96 + ((k + 1 : Nat) : Int) by omega], hid ⟨(HB3.out.put 0 _).cast rfl, ?_, HL3.out.setCell (by show w.heap.size ≤ w.heap.size; omega) _⟩⟩, by simp [intOf]; omega⟩
   rw [newPages_succ]
   exact own_aside HW3.out (by show w.heap.size < w.heap.size + 1; omega) _
  ·obtain rfl : k = 160 := by omega
   go_wp2_with fail
   refine bodyPost_ret (results_tmp rfl _ _ _) rfl ⟨v, rfl, HA.out⟩
theorem infoRE : (Tryz.prog.info? 133).map (fun i => (i.zero, i.size, i.bytes)) = some (some (.agg #[.int .u32 0, .int .i64 0, .int .i64 0]), 3, 24) := by kernel_rfl
structure EntsAt (es : List Bt.Entry) (w : World) (k : Nat) (v : Value) (wr : World) : Prop where
 own : wr.ownsRow w.heap.size 133 3 v k (entCells (es.take k))
 below : Below w.heap.size w wr
def EntsRel (es : List Bt.Entry) (w : World) (v i : Value) (wr : World) : Prop := ∃ k : Nat, k ≤ es.length ∧ i = .int .i64 k ∧ Hid (EntsAt es w k v wr)
def EntsPost (es : List Bt.Entry) (w : World) (e : Ending) (w' : World) : Prop :=
 ∃ v, e = .returned v ∧ w'.ownsRow w.heap.size 133 3 v es.length (entCells es) ∧ Below w.heap.size w w'
theorem entries_any (es : List Bt.Entry) (v : Value) (w : World) (he : EntRow w v es) (hlen : es.length ≤ 1000) : Calls Tryz.prog 73 #[v] w (EntsPost es w) := by
 obtain ⟨i0, hi, hz0, hz1, hz2⟩ := info_parts infoRE
 rcases he.form with ⟨rfl, rfl⟩ | ⟨b, off, cap, rfl, hblt, hcells⟩
 ·clear he
  go_enter Tryz.func73, Tryz.ntmps73
  go_wp2_with fail
  refine wp_loop_rounds 1 ?_
  rw [rounds_succ]
  go_wp2_with fail
  refine bodyPost_ret (results_tmp rfl _ _ _) rfl ⟨.slice none 0 0, rfl, World.ownsRow_nil _ _ _ _, qL⟩
 ·have HC := hid hcells
  clear he hcells
  go_enter Tryz.func73, Tryz.ntmps73
  go_wp2_with fail
  go_loopw [3, 4] (fun v i wr => EntsRel es w v i wr) (fun _ i _ => ((es.length : Int) - intOf i).toNat)
  case atStart => exact ⟨0, by omega, rfl, hid ⟨World.ownsRow_nil _ _ _ _, qL⟩⟩
  case round =>
   obtain ⟨k, hkl, rfl, HA⟩ := hrel
   by_cases hk : k < es.length
   ·obtain ⟨x, hx⟩ : ∃ x, x = es[k] := ⟨_, rfl⟩
    have c0 : w.cell? ⟨b, off + k * 3, none⟩ = some (.int .u32 x.key) := by rw [hx]; exact HC.out k es[k] (List.getElem?_eq_getElem hk) 0 _ rfl
    have c1 : w.cell? ⟨b, off + k * 3 + 1, none⟩ = some (.int .i64 x.to.line) := by rw [hx]; exact HC.out k es[k] (List.getElem?_eq_getElem hk) 1 _ rfl
    have c2 : w.cell? ⟨b, off + k * 3 + 2, none⟩ = some (.int .i64 x.to.gen) := by rw [hx]; exact HC.out k es[k] (List.getElem?_eq_getElem hk) 2 _ rfl
    have hb0 := HA.out.below
    have b1 : decide ((k : Int) < es.length) = true := by simp; omega
    have bk0 : (0 : Int) ≤ k := by omega
    have bk1 : (k : Int) < es.length := by omega
    have hws : w.heap.size ≤ wr.heap.size := HA.out.below.size
    have HX := hid hx
    clear hx
    go_wp2_with fail
    refine wp_region_held_drew (S := SteadyAll w) (by kernel_rfl) (SteadyAll.of qL) ?_
    intro hSt
    refine qS [0, 1, 2, 3, 4, 5, 6, 7, 8, 9, 10] ?_
    iterate 11 (refine qT ?_; simp only [Act.put, qY])
    refine TakeSeq.done ?_
    refine qH 11 fun K hK => ?_
    go_simp
    go_at_call 19; refine (ref_any x.to _).mono ?_; rintro e1 w1 ⟨rfl, hb1⟩; simp only [Bt.Ptr.cells]; ((obtain ⟨hc1, hf1, hs1⟩ := qR hb1); (try have := qN0 wr w1))
    go_wp2_with fail
    refine hK.out _ _ (SteadyAll.of qL) (fun hHeld => ?_)
    clear hK K
    refine qS [12] ?_
    refine qT ?_; simp only [Act.put, qY]
    refine TakeSeq.done ?_
    refine qH 13 fun K hK => ?_
    go_simp
    refine hK.out _ _ (SteadyAll.of qL) (fun hHeld => ?_)
    clear hK K
    refine qH 14 fun K hK => ?_
    have hbw1 : Below w.heap.size w (w1.alloc (.cells #[.int .u32 x.key, .int .i64 x.to.line, .int .i64 x.to.gen] 133)) := qL
    refine wp_append_mine (.tmp 11) (.tmp 24) 89 rfl w.heap.size 133 i0 _ 3 24 Tryz.underlying89 hi hz0 hz1 hz2 rfl (by decide) u3 k (entCells (es.take k)) rfl (own_below HA.out.own qL) ⟨w1.heap.size, 0, none⟩ 1 1
     [.int .u32 x.key, .int .i64 x.to.line, .int .i64 x.to.gen] rfl rfl (nine_news (cs := #[.int .u32 x.key, .int .i64 x.to.line, .int .i64 x.to.gen]) (Blk.made _ _ _)) (by intro u hu; simp at hu; rcases hu with rfl | rfl | rfl <;> rfl) (by omega) (by unfold maxLen; omega) (by omega) (by simp; omega) ?_
    intro g3 cap3 w3 hown3 hg3
    have hb3 := below_grown hbw1 hg3 (fun j hj => own_row_ge HA.out.own j hj)
    refine hK.out _ _ (SteadyAll.of hb3) (fun hHeld => ?_)
    clear hK K
    simp only [Act.put, qY]
    have HO3 := hid hown3
    have HB3 := hid hb3
    clear hown3 hg3 hb3
    refine qS [15] ?_
    refine qT ?_; simp only [Act.put, qY]
    refine TakeSeq.done ?_
    refine qD ?_ _
    go_wp2_with fail
    refine ⟨⟨k + 1, by omega, by rw [show ((k : Int) + 1) = ((k + 1 : Nat) : Int) by omega], hid ⟨?_, HB3.out⟩⟩, by simp [intOf]; omega⟩
    rw [List.take_succ_eq_append_getElem hk, entCells_append, ← HX.out]
    exact HO3.out
   ·obtain rfl : k = es.length := by omega
    have b1 : decide ((es.length : Int) < es.length) = false := by simp
    go_wp2_with fail
    have hr := HA.out.own
    rw [List.take_length] at hr
    refine bodyPost_ret (results_tmp rfl _ _ _) rfl ⟨u3, rfl, hr, HA.out.below⟩
theorem validRoot_any (q : Bt.Ptr) (l : Int) (w : World) (hg : NoneAt w) : Calls Tryz.prog 41 #[.agg q.cells, .int .i64 l] w fun e w' => e = .returned (.bool (Bt.validRoot q l)) ∧ Below w.heap.size w w' := by
 obtain ⟨g0, g1, gl⟩ := hg
 have ne := neq_ptr
 have eq := eql_ptr
 unfold Bt.Ptr.cells
 by_cases hq : q = Bt.nilP
 ·have HX : Hid (Bt.validRoot q l = decide (l = 0)) := hid (by simp [Bt.validRoot, hq])
  have hp : peq q.line q.gen 0 0 = true := by rw [peq_nil]; simp [hq]
  clear hq
  go_enter Tryz.func41, Tryz.ntmps41
  go_wp2_with fail
  go_ret
  refine ⟨ret_bool ?_, qL⟩
  rw [HX.out, Bool.eq_iff_iff]
  simp
 ·have HX : Hid (Bt.validRoot q l = (Bt.validP q && decide (0 ≤ l) && decide (l ≤ 8))) := hid (by simp [Bt.validRoot, hq])
  have hp : peq q.line q.gen 0 0 = false := by rw [peq_nil]; simp [hq]
  clear hq
  rcases hv : Bt.validP q with _ | _
  all_goals
   have HV := hid hv
   clear hv
   go_enter Tryz.func41, Tryz.ntmps41
   go_wp2_with (go_at_call 75; refine (Valid_any _ _ _).mono ?_; rintro e w1 ⟨rfl, hb⟩; rw [HV.out]; ((obtain ⟨hc1, hf1, hs1⟩ := qR hb); (try have := qN0 w w1)))
   all_goals go_ret
  ·exact ⟨ret_bool (by rw [HX.out, HV.out]; rfl), qL⟩
  all_goals
   refine ⟨ret_bool ?_, qL⟩
   rw [HX.out, HV.out]
   go_light
   first | (simp [*]; done) | (simp; omega)
def RootPost (p : Bt.Page) (w : World) (e : Ending) (w' : World) : Prop :=
 (match Bt.readRoot p with
 | none => e = .returned (.tuple #[.agg Bt.nilP.cells, .int .i64 0, .int .i64 14])
 | some (q, l) => e = .returned (.tuple #[.agg q.cells, .int .i64 l, .int .i64 0])) ∧ Below w.heap.size w w'
theorem ReadRoot_any (p : Bt.Page) (hp : p.Ok) (hl : p.line = 96) (w : World) (hg : NoneAt w) : Calls Tryz.prog 15 #[.agg p.cells] w (RootPost p w) := by
 have Hg := hid hg
 obtain ⟨g0, g1, gl⟩ := hg
 have hpd := hp.d0
 have bl : (p.line != 96) = false := by simp [hl]
 have e5 : IntKind.u32.wrap p.d0 = p.d0 % 4294967296 := by rw [IntKind.wrap_u32]
 have e6 : IntKind.i64.wrap (p.d0 / 4294967296) = p.d0 / 4294967296 := IntWalk.i64_in _ (by omega)
 have hq : Bt.unpack (p.d0 % 4294967296) = ⟨p.d0 % 256, p.d0 % 4294967296 / 256⟩ := by unfold Bt.unpack; congr 1; omega
 rcases hv : Bt.validRoot (Bt.unpack (p.d0 % 4294967296)) (p.d0 / 4294967296) with _ | _
 ·have HX : Hid (Bt.readRoot p = none) := hid (by simp [Bt.readRoot, hv])
  rw [hq] at hv
  have HV := hid hv
  clear hv hq hl
  unfold Bt.Page.cells
  go_enter Tryz.func15, Tryz.ntmps15
  go_wp2_with fail
  refine qB (w.heap.size + 1) fun hSt => ?_
  refine qS [0, 1, 2, 3, 5, 6, 7, 8, 9] ?_
  iterate 9 (refine qT ?_; simp only [Act.put, qY])
  refine TakeSeq.done ?_
  refine qH 4 fun K hK => ?_
  go_simp
  go_at_call 40; refine (Unpack_any _ (by omega) (by omega) _).mono ?_; rintro e w1 ⟨rfl, hb⟩; ((obtain ⟨hc1, hf1, hs1⟩ := qR hb); (try have := qN0 w w1); (try have := qN1 w w1))
  go_wp2_with fail
  refine hK.out _ _ (SteadyBut.of qL) (fun hHeld => ?_)
  clear hK K
  refine qH 10 fun K hK => ?_
  go_simp
  refine hK.out _ _ qE (fun hHeld => ?_)
  clear hK K
  refine qS [11] ?_
  refine qT ?_; simp only [Act.put, qY]
  refine TakeSeq.done ?_
  refine qD ?_ _
  go_wp2_with fail
  go_at_call 41; refine (validRoot_any ⟨p.d0 % 256, p.d0 % 4294967296 / 256⟩ _ _ ?hng).mono ?_
  case hng => exact Hg.out.below qL
  rintro e w2 ⟨rfl, hb2⟩; rw [HV.out]; ((obtain ⟨hc2, hf2, hs2⟩ := qR hb2); (try have := qN0 w w2); (try have := qN1 w w2))
  have gl1 : 0 < w1.heap.size := by omega
  have gl2 : 0 < w2.heap.size := by omega
  go_wp2_with fail
  have B := ((made22 w (t := 27) (cs := #[.int .i64 0, .int .i64 0])).drew.kept hb)
  have B2 := (B.all2 (.int .i64 (p.d0 % 256)) (.int .i64 (p.d0 % 4294967296 / 256))).kept hb2
  (refine bodyPost_ret (results_btt rfl _ _ (w.heap.size + 1) _ _ _ rfl (by have B := B2; exact qK) Tryz.underlying27 rfl (by kernel_rfl)) rfl ⟨?_, ?_⟩)
  ·rw [HX.out, set2]; rfl
  ·exact qL
 ·have HX : Hid (Bt.readRoot p = some (⟨p.d0 % 256, p.d0 % 4294967296 / 256⟩, p.d0 / 4294967296)) := hid (by rw [hq] at hv; simp [Bt.readRoot, hq, hv])
  rw [hq] at hv
  have HV := hid hv
  clear hv hq hl
  unfold Bt.Page.cells
  go_enter Tryz.func15, Tryz.ntmps15
  go_wp2_with fail
  refine qB (w.heap.size + 1) fun hSt => ?_
  refine qS [0, 1, 2, 3, 5, 6, 7, 8, 9] ?_
  iterate 9 (refine qT ?_; simp only [Act.put, qY])
  refine TakeSeq.done ?_
  refine qH 4 fun K hK => ?_
  go_simp
  go_at_call 40; refine (Unpack_any _ (by omega) (by omega) _).mono ?_; rintro e w1 ⟨rfl, hb⟩; ((obtain ⟨hc1, hf1, hs1⟩ := qR hb); (try have := qN0 w w1); (try have := qN1 w w1))
  go_wp2_with fail
  refine hK.out _ _ (SteadyBut.of qL) (fun hHeld => ?_)
  clear hK K
  refine qH 10 fun K hK => ?_
  go_simp
  refine hK.out _ _ qE (fun hHeld => ?_)
  clear hK K
  refine qS [11] ?_
  refine qT ?_; simp only [Act.put, qY]
  refine TakeSeq.done ?_
  refine qD ?_ _
  go_wp2_with fail
  go_at_call 41; refine (validRoot_any ⟨p.d0 % 256, p.d0 % 4294967296 / 256⟩ _ _ ?hng).mono ?_
  case hng => exact Hg.out.below qL
  rintro e w2 ⟨rfl, hb2⟩; rw [HV.out]; ((obtain ⟨hc2, hf2, hs2⟩ := qR hb2); (try have := qN0 w w2); (try have := qN1 w w2))
  have gl1 : 0 < w1.heap.size := by omega
  have gl2 : 0 < w2.heap.size := by omega
  go_wp2_with fail
  have B := ((made22 w (t := 27) (cs := #[.int .i64 0, .int .i64 0])).drew.kept hb)
  have B2 := (B.all2 (.int .i64 (p.d0 % 256)) (.int .i64 (p.d0 % 4294967296 / 256))).kept hb2
  (refine bodyPost_ret (results_btt rfl _ _ (w.heap.size + 1) _ _ _ rfl (by have B := B2; exact qK) Tryz.underlying27 rfl (by kernel_rfl)) rfl ⟨?_, ?_⟩)
  ·rw [HX.out, set2]; rfl
  ·exact qL
theorem word_conv (q : Bt.Ptr) (l : Int) (hl : 0 ≤ l ∧ l < 4294967296) : bits .or .u64 (Bt.pack q) (l * 4294967296) = Bt.pack q + l * 4294967296 := word_or (Bt.pack q) l (pack_bound q) hl
theorem WriteRoot_any (p : Bt.Page) (q : Bt.Ptr) (l : Int) (hl : p.line = 96) (hv : Bt.validRoot q l = true) (w : World) (hg : NoneAt w) :
 Calls Tryz.prog 17 #[.agg p.cells, .agg q.cells, .int .i64 l] w fun e w' => e = .returned (.tuple #[.agg (Bt.writeRoot p q l).cells, .int .i64 0]) ∧ Below w.heap.size w w' := by
 have Hg := hid hg
 have bl : (p.line != 96) = false := by simp [hl]
 have hlv : 0 ≤ l ∧ l ≤ 8 := by
  unfold Bt.validRoot at hv
  split at hv
  ·simp at hv; omega
  ·simp at hv; omega
 have hpk := pack_bound q
 have e1 := word_conv q l (by omega)
 have HV := hid hv
 clear hv hl
 unfold Bt.Page.cells
 have hqc : q.cells = #[.int .i64 q.line, .int .i64 q.gen] := rfl
 rw [hqc]
 clear hqc
 go_enter Tryz.func17, Tryz.ntmps17
 go_wp2_with fail
 go_at_call 41; refine (validRoot_any q _ _ ?hng).mono ?_
 case hng => exact Hg.out.below qL
 rintro e w1 ⟨rfl, hb⟩; rw [HV.out]; ((obtain ⟨hc1, hf1, hs1⟩ := qR hb); (try have := qN0 w w1); (try have := qN1 w w1); (try have := qN2 w w1))
 go_wp2_with fail
 go_at_call 44; refine (Pack_any q.line q.gen _).mono ?_; rintro e w2 ⟨rfl, hb2⟩; ((obtain ⟨hc2, hf2, hs2⟩ := qR hb2); (try have := qN0 w w2); (try have := qN1 w w2); (try have := qN2 w w2))
 have hx : ∀ u, (w2.setCell ⟨w.heap.size, 2, none⟩ u).cell? ⟨w.heap.size, 2, none⟩ = some u := fun u => (((((made1 w (t := 25) (cs := p.cells)).alloc _).alloc _).kept hb).kept hb2).put 2 u |>.cell 2
 go_wp2_with fail
 have B := ((made33 w (t := 25) (cs := Bt.zeroPage.cells)).kept hb).kept hb2
 rw [zeroPage_cells] at B
 (refine bodyPost_ret (results_bt rfl _ _ (w.heap.size + 1 + 1) _ _ _ rfl (by exact qK) Tryz.underlying25 rfl (by kernel_rfl)) rfl ⟨?_, ?_⟩)
 ·rw [set9]
  have a2 : IntKind.u64.wrap (Bt.pack ⟨q.line, q.gen⟩) = Bt.pack q := by show IntKind.u64.wrap (Bt.pack q) = _; rw [IntKind.wrap_u64]; omega
  rw [a2, e1]
  rfl
 ·exact qL
def WritePost (p : Bt.Page) (n : Bt.Node) (w : World) (e : Ending) (w' : World) : Prop :=
 e = .returned (.tuple #[.agg ((Bt.writeNode p n).getD Bt.zeroPage).cells, .int .i64 (if (Bt.writeNode p n).isSome then 0 else 1)]) ∧ Below w.heap.size w w'
theorem valid_nodeOk (n : Bt.Node) (hh : 0 ≤ n.high ∧ n.high < 4294967296) (hv : n.valid = true) : NodeOk n := by
 unfold Bt.Node.valid at hv
 split at hv
 ·cases hv
 ·rename_i h
  exact ⟨by omega, hh, by omega⟩
theorem field_tag0 (x y z : Value) (w : World) : (Instr.field 122 (.agg #[x, y, z]) 0).run Tryz.prog w = .ok x w := by kernel_rfl
theorem WriteNode_any (p : Bt.Page) (n : Bt.Node) (v : Value) (hp : p.Ok) (hh : 0 ≤ n.high ∧ n.high < 4294967296) (w : World) (he : EntRow w v n.entries) (hg : NoneAt w) :
 Calls Tryz.prog 36 #[.agg p.cells, .agg (nodeCells n v)] w (WritePost p n w) := by
 have Hg := hid hg
 have He := hid he
 have Hp := hid hp
 have hpd := hp.d0
 have ft := field_tag0
 by_cases hk : Bt.tagKind p.d0 = 4
 ·have b1 : (Bt.tagKind p.d0 != 4) = false := by simp [hk]
  rcases hv : n.valid with _ | _
  ·have HX : Hid (Bt.writeNode p n = none) := hid (by simp [Bt.writeNode, hv])
   have HV := hid hv
   clear hk hv hp he hg
   unfold Bt.Page.cells nodeCells
   go_enter Tryz.func36, Tryz.ntmps36
   go_wp2_with fail
   go_at_call 62; refine (UnpackTag_any p.d0 hpd.1 hpd.2 _).mono ?_; rintro e w1 ⟨rfl, hb⟩; ((obtain ⟨hc1, hf1, hs1⟩ := qR hb); (try have := qN0 w w1); (try have := qN1 w w1); (try have := qN2 w w1))
   go_wp2_with fail
   go_at_call 63; refine (valid_any n v _ ?hpg ?hng).mono ?_
   case hpg => exact He.out.below qL
   case hng => exact Hg.out.below qL
   rintro e w2 ⟨rfl, hb2⟩; rw [HV.out]; ((obtain ⟨hc2, hf2, hs2⟩ := qR hb2); (try have := qN0 w w2); (try have := qN1 w w2); (try have := qN2 w w2))
   go_wp2_with fail
   have B := ((made33 w (t := 25) (cs := Bt.zeroPage.cells)).kept hb).kept hb2
   rw [zeroPage_cells] at B
   (refine bodyPost_ret (results_bt rfl _ _ (w.heap.size + 1 + 1) _ _ _ rfl (by exact qK) Tryz.underlying25 rfl (by kernel_rfl)) rfl ⟨?_, ?_⟩)
   ·rw [HX.out, set9]; rfl
   ·exact qL
  ·have HX : Hid (Bt.writeNode p n = some (n.fill p)) := hid (by simp [Bt.writeNode, hv, hk])
   have HV := hid hv
   have HNO := hid (valid_nodeOk n hh hv)
   have HFC : Hid ((n.fill p).cells = #[.int .i64 (n.fill p).line, .int .u64 (n.fill p).head, .int .u64 (n.fill p).d0, .int .u64 (n.fill p).d1, .int .u64 (n.fill p).d2, .int .u64 (n.fill p).d3, .int .u64 (n.fill p).d4, .int .u64 (n.fill p).d5, .int .u64 (n.fill p).d6]) := hid rfl
   clear hk hv hp he hg
   unfold Bt.Page.cells nodeCells
   go_enter Tryz.func36, Tryz.ntmps36
   go_wp2_with fail
   go_at_call 62; refine (UnpackTag_any p.d0 hpd.1 hpd.2 _).mono ?_; rintro e w1 ⟨rfl, hb⟩; ((obtain ⟨hc1, hf1, hs1⟩ := qR hb); (try have := qN0 w w1); (try have := qN1 w w1); (try have := qN2 w w1))
   go_wp2_with fail
   go_at_call 63; refine (valid_any n v _ ?hpg ?hng).mono ?_
   case hpg => exact He.out.below qL
   case hng => exact Hg.out.below qL
   rintro e w2 ⟨rfl, hb2⟩; rw [HV.out]; ((obtain ⟨hc2, hf2, hs2⟩ := qR hb2); (try have := qN0 w w2); (try have := qN1 w w2); (try have := qN2 w w2))
   go_wp2_with fail
   go_at_call 64; refine (fill_any n v p Hp.out HNO.out _ ?hpf).mono ?_
   case hpf => exact He.out.below qL
   rintro e w3 ⟨rfl, hb3⟩; rw [HFC.out]; ((obtain ⟨hc3, hf3, hs3⟩ := qR hb3); (try have := qN0 w w3); (try have := qN1 w w3); (try have := qN2 w w3))
   go_wp2_with fail
   have B := (((made33 w (t := 25) (cs := Bt.zeroPage.cells)).kept hb).kept hb2).kept hb3
   rw [zeroPage_cells] at B
   (refine bodyPost_ret (results_bt rfl _ _ (w.heap.size + 1 + 1) _ _ _ rfl (by exact qK) Tryz.underlying25 rfl (by kernel_rfl)) rfl ⟨?_, ?_⟩)
   ·rw [HX.out, set9]; rfl
   ·exact qL
 ·have b1 : (Bt.tagKind p.d0 != 4) = true := by simp [hk]
  have HX : Hid (Bt.writeNode p n = none) := hid (by simp [Bt.writeNode, hk])
  clear hk hp he hg
  unfold Bt.Page.cells nodeCells
  go_enter Tryz.func36, Tryz.ntmps36
  go_wp2_with fail
  go_at_call 62; refine (UnpackTag_any p.d0 hpd.1 hpd.2 _).mono ?_; rintro e w1 ⟨rfl, hb⟩; ((obtain ⟨hc1, hf1, hs1⟩ := qR hb); (try have := qN0 w w1); (try have := qN1 w w1); (try have := qN2 w w1))
  go_wp2_with fail
  have B := ((made33 w (t := 25) (cs := Bt.zeroPage.cells)).kept hb)
  rw [zeroPage_cells] at B
  (refine bodyPost_ret (results_bt rfl _ _ (w.heap.size + 1 + 1) _ _ _ rfl (by exact qK) Tryz.underlying25 rfl (by kernel_rfl)) rfl ⟨?_, ?_⟩)
  ·rw [HX.out, set9]; rfl
  ·exact qL
open Go.RowKit
theorem eql_rptr (a b c d : Int) (w : World) : (binOp .eql 34 (.agg #[.int .i64 a, .int .i64 b]) (.agg #[.int .i64 c, .int .i64 d])).run Tryz.prog w = .ok (.bool (peq a b c d)) w := by
 simp [go_sem, peq]
 by_cases h1 : a = c <;> by_cases h2 : b = d <;> simp [h1, h2]
theorem eql_words_self (a0 a1 a2 a3 a4 a5 a6 : Int) (w : World) :
 (binOp .eql 23 (.agg #[.int .u64 a0, .int .u64 a1, .int .u64 a2, .int .u64 a3, .int .u64 a4, .int .u64 a5, .int .u64 a6]) (.agg #[.int .u64 a0, .int .u64 a1, .int .u64 a2, .int .u64 a3, .int .u64 a4, .int .u64 a5, .int .u64 a6])).run Tryz.prog w =
  .ok (.bool true) w := by
 obtain ⟨i, hi, _, hsz, _⟩ := info_parts infoWord
 have hc : Tryz.prog.cellsOf 22 = 1 := by kernel_rfl
 have hu : Tryz.prog.underlying 22 = some (.int .u64) := by kernel_rfl
 rw [run_eql_struct, run_equalIn_array (d := 9999) (hu := Tryz.underlying23) (hi := hi), hc]
 simp [Op.eqItems, List.range, List.range.loop, go_sem, hu]
theorem same_self (p : Bt.Page) (w : World) : Calls Tryz.prog 20 #[.agg p.cells, .agg p.cells] w fun e w' => e = .returned (.bool true) ∧ Below w.heap.size w w' := by
 have e1 : (p.line == p.line) = true := by simp
 have e2 : (p.head == p.head) = true := by simp
 have e3 := eql_words_self
 unfold Bt.Page.cells
 go_enter Tryz.func20, Tryz.ntmps20
 go_wp2_with fail
 go_ret
 exact ⟨rfl, qL⟩
theorem own_zero4 {w : World} {base size : Nat} {e : TypeId} {v : Value} {xs : List Value} (h : w.ownsRow base e size v 0 xs) : ∃ p cap, v = .slice p 0 cap := by
 rcases h.2 with ⟨rfl, _⟩ | ⟨g, cap, _, rfl, _⟩
 ·exact ⟨_, _, rfl⟩
 ·exact ⟨_, _, rfl⟩
def keyCells (l : List Int) : List Value := l.map (Value.int .u32)
end Go.Proofs.YtjmpekanlmepmaaGreatDoor
namespace Go.Proofs
open Go.Shelf
def Tryz.lays125_ren : Go.Shelf.Ren := ⟨fun | 125 => 96 | 128 => 119 | 129 => 120 | n => n, fun | 46 => 30 | 3 => 3 | 51 => 52 | 53 => 22 | 4 => 4 | 5 => 5 | 9 => 9 | n => n, fun | n => n⟩
theorem Tryz.lays125 : Go.Proofs.Lays.n125 Tryz.prog Tryz.lays125_ren := {
 mixed := by kernel_rfl
 f125 := Tryz.func96.trans (congrArg some (by kernel_rfl))
 f128 := Tryz.func119.trans (congrArg some (by kernel_rfl))
 f129 := Tryz.func120.trans (congrArg some (by kernel_rfl))
 t3 := Tryz.underlying3
 a3 := Tryz.isAgg3
 z3 := Tryz.sizeOf3
 v3 := Tryz.zeroValue3
 t4 := Tryz.underlying4
 a4 := Tryz.isAgg4
 z4 := Tryz.sizeOf4
 v4 := Tryz.zeroValue4
 t5 := Tryz.underlying5
 a5 := Tryz.isAgg5
 z5 := Tryz.sizeOf5
 v5 := Tryz.zeroValue5
 t9 := Tryz.underlying9
 a9 := Tryz.isAgg9
 z9 := Tryz.sizeOf9
 v9 := Tryz.zeroValue9
 t46 := Tryz.underlying30
 a46 := Tryz.isAgg30
 z46 := Tryz.sizeOf30
 v46 := Tryz.zeroValue30
 t51 := Tryz.underlying52
 a51 := Tryz.isAgg52
 z51 := Tryz.sizeOf52
 v51 := Tryz.zeroValue52
 t53 := Tryz.underlying22
 a53 := Tryz.isAgg22
 z53 := Tryz.sizeOf22
 v53 := Tryz.zeroValue22 }
theorem Tryz.bits_Len (x : Int) (w : World) (h0 : 0 ≤ x) (h1 : x ≤ 18446744073709551615) :
 Calls Tryz.prog 96 #[.int .u64 x] w fun e w' => e = .returned (.int .i64 (Lib.bitLen x.toNat)) ∧ w' = w := Any.bits_Len Tryz.lays125 x w h0 h1
def Tryz.lays122_ren : Go.Shelf.Ren := ⟨fun | 122 => 61 | 215 => 97 | n => n, fun | 3 => 3 | 4 => 4 | n => n, fun | n => n⟩
theorem Tryz.lays122 : Go.Proofs.Lays.n122 Tryz.prog Tryz.lays122_ren := {
 mixed := by kernel_rfl
 f122 := Tryz.func61.trans (congrArg some (by kernel_rfl))
 f215 := Tryz.func97.trans (congrArg some (by kernel_rfl))
 t3 := Tryz.underlying3
 a3 := Tryz.isAgg3
 z3 := Tryz.sizeOf3
 v3 := Tryz.zeroValue3
 t4 := Tryz.underlying4
 a4 := Tryz.isAgg4
 z4 := Tryz.sizeOf4
 v4 := Tryz.zeroValue4 }
open Go.RowKit in
theorem Tryz.cmp_Compare_int (x y : Int) (w : World) :
 Calls Tryz.prog 61 #[.int .i64 x, .int .i64 y] w fun e w' => e = .returned (.int .i64 (Lib.compareInt x y)) ∧ w' = w := Any.cmp_Compare_int Tryz.lays122 x y w
def Tryz.lays189_ren : Go.Shelf.Ren := ⟨fun | 189 => 101 | 125 => 96 | 257 => 121 | 128 => 119 | 129 => 120 | 294 => 131 | 295 => 132 | 296 => 133 | 297 => 134 | 298 => 135 | 299 => 136 | 216 => 137 | 300 => 138 | 301 => 139 | 328 => 142 | 329 => 127 | 330 => 128 | 331 => 143 | 332 => 144 | 215 => 97 | 343 => 145 | n => n, fun | 28 => 45 | 3 => 3 | 46 => 30 | 0 => 0 | 51 => 52 | 53 => 22 | 4 => 4 | 183 => 174 | 182 => 173 | 131 => 114 | 5 => 5 | 9 => 9 | 218 => 183 | 222 => 187 | 228 => 196 | 229 => 197 | n => n, fun | n => n⟩
theorem Tryz.lays189 : Go.Proofs.Lays.n189 Tryz.prog Tryz.lays189_ren := {
 mixed := by kernel_rfl
 f125 := Tryz.func96.trans (congrArg some (by kernel_rfl))
 f128 := Tryz.func119.trans (congrArg some (by kernel_rfl))
 f129 := Tryz.func120.trans (congrArg some (by kernel_rfl))
 f189 := Tryz.func101.trans (congrArg some (by kernel_rfl))
 f215 := Tryz.func97.trans (congrArg some (by kernel_rfl))
 f216 := Tryz.func137.trans (congrArg some (by kernel_rfl))
 f257 := Tryz.func121.trans (congrArg some (by kernel_rfl))
 f294 := Tryz.func131.trans (congrArg some (by kernel_rfl))
 f295 := Tryz.func132.trans (congrArg some (by kernel_rfl))
 f296 := Tryz.func133.trans (congrArg some (by kernel_rfl))
 f297 := Tryz.func134.trans (congrArg some (by kernel_rfl))
 f298 := Tryz.func135.trans (congrArg some (by kernel_rfl))
 f299 := Tryz.func136.trans (congrArg some (by kernel_rfl))
 f300 := Tryz.func138.trans (congrArg some (by kernel_rfl))
 f301 := Tryz.func139.trans (congrArg some (by kernel_rfl))
 f328 := Tryz.func142.trans (congrArg some (by kernel_rfl))
 f329 := Tryz.func127.trans (congrArg some (by kernel_rfl))
 f330 := Tryz.func128.trans (congrArg some (by kernel_rfl))
 f331 := Tryz.func143.trans (congrArg some (by kernel_rfl))
 f332 := Tryz.func144.trans (congrArg some (by kernel_rfl))
 f343 := Tryz.func145.trans (congrArg some (by kernel_rfl))
 t0 := Tryz.underlying0
 a0 := Tryz.isAgg0
 z0 := Tryz.sizeOf0
 v0 := Tryz.zeroValue0
 t3 := Tryz.underlying3
 a3 := Tryz.isAgg3
 z3 := Tryz.sizeOf3
 v3 := Tryz.zeroValue3
 t4 := Tryz.underlying4
 a4 := Tryz.isAgg4
 z4 := Tryz.sizeOf4
 v4 := Tryz.zeroValue4
 t5 := Tryz.underlying5
 a5 := Tryz.isAgg5
 z5 := Tryz.sizeOf5
 v5 := Tryz.zeroValue5
 t9 := Tryz.underlying9
 a9 := Tryz.isAgg9
 z9 := Tryz.sizeOf9
 v9 := Tryz.zeroValue9
 t28 := Tryz.underlying45
 a28 := Tryz.isAgg45
 z28 := Tryz.sizeOf45
 v28 := Tryz.zeroValue45
 t46 := Tryz.underlying30
 a46 := Tryz.isAgg30
 z46 := Tryz.sizeOf30
 v46 := Tryz.zeroValue30
 t51 := Tryz.underlying52
 a51 := Tryz.isAgg52
 z51 := Tryz.sizeOf52
 v51 := Tryz.zeroValue52
 t53 := Tryz.underlying22
 a53 := Tryz.isAgg22
 z53 := Tryz.sizeOf22
 v53 := Tryz.zeroValue22
 t131 := Tryz.underlying114
 a131 := Tryz.isAgg114
 z131 := Tryz.sizeOf114
 v131 := Tryz.zeroValue114
 t182 := Tryz.underlying173
 a182 := Tryz.isAgg173
 z182 := Tryz.sizeOf173
 v182 := Tryz.zeroValue173
 t183 := Tryz.underlying174
 a183 := Tryz.isAgg174
 z183 := Tryz.sizeOf174
 v183 := Tryz.zeroValue174
 t218 := Tryz.underlying183
 a218 := Tryz.isAgg183
 z218 := Tryz.sizeOf183
 v218 := Tryz.zeroValue183
 t222 := Tryz.underlying187
 a222 := Tryz.isAgg187
 z222 := Tryz.sizeOf187
 v222 := Tryz.zeroValue187
 t228 := Tryz.underlying196
 a228 := Tryz.isAgg196
 z228 := Tryz.sizeOf196
 v228 := Tryz.zeroValue196
 t229 := Tryz.underlying197
 a229 := Tryz.isAgg197
 z229 := Tryz.sizeOf197
 v229 := Tryz.zeroValue197 }
open Go.Sort Go.RowKit in
theorem Tryz.slices_Sort_int (blk off cap : Nat) (zs : List Int) (w : World) (hH : Holds (Value.int .i64) w blk off zs.toArray) (hblk : blk < w.heap.size) (hsz : zs.length < 4611686018427387904) :
 Calls Tryz.prog 101 #[.slice (some ⟨blk, off, none⟩) zs.length cap] w fun e w' =>
  e = .returned (.tuple #[]) ∧ ∃ n os, w' = grow (putRow (Value.int .i64) (Sort.ahead w n) blk off (zs.mergeSort fun x y => decide (x ≤ y)).toArray) os := Any.slices_Sort_int Tryz.lays189 blk off cap zs w hH hblk hsz
def Tryz.lays107_ren : Go.Shelf.Ren := ⟨fun | 107 => 110 | 108 => 125 | n => n, fun | 28 => 45 | 3 => 3 | 4 => 4 | 0 => 0 | n => n, fun | n => n⟩
theorem Tryz.lays107 : Go.Proofs.Lays.n107 Tryz.prog Tryz.lays107_ren := {
 mixed := by kernel_rfl
 f107 := Tryz.func110.trans (congrArg some (by kernel_rfl))
 f108 := Tryz.func125.trans (congrArg some (by kernel_rfl))
 t0 := Tryz.underlying0
 a0 := Tryz.isAgg0
 z0 := Tryz.sizeOf0
 v0 := Tryz.zeroValue0
 t3 := Tryz.underlying3
 a3 := Tryz.isAgg3
 z3 := Tryz.sizeOf3
 v3 := Tryz.zeroValue3
 t4 := Tryz.underlying4
 a4 := Tryz.isAgg4
 z4 := Tryz.sizeOf4
 v4 := Tryz.zeroValue4
 t28 := Tryz.underlying45
 a28 := Tryz.isAgg45
 z28 := Tryz.sizeOf45
 v28 := Tryz.zeroValue45 }
open Go.Lib in
theorem Tryz.slices_Contains_int (b off n c : Nat) (zs : List Int) (x : Int) (w : World) (hz : n ≤ zs.length) (hbig : n ≤ 9223372036854775807) (hc : ∀ j, j < zs.length → w.cell? ⟨b, off + j, none⟩ = some (.int .i64 (zs.getD j 0))) :
 Calls Tryz.prog 110 #[.slice (some ⟨b, off, none⟩) n c, .int .i64 x] w fun e w' => e = .returned (.bool ((zs.take n).contains x)) ∧ w' = w := Any.slices_Contains_int Tryz.lays107 b off n c zs x w hz hbig hc
open Go.Lib in
theorem Tryz.slices_Contains_int_empty (a : Option Addr) (c : Nat) (x : Int) (w : World) :
 Calls Tryz.prog 110 #[.slice a 0 c, .int .i64 x] w fun e w' => e = .returned (.bool false) ∧ w' = w := Any.slices_Contains_int_empty Tryz.lays107 a c x w
def Tryz.laysNm220_ren : Go.Shelf.Ren := ⟨fun | 20 => 102 | n => n, fun | 22 => 45 | 3 => 3 | 4 => 4 | 0 => 0 | n => n, fun | n => n⟩
theorem Tryz.laysNm220 : Go.Proofs.Lays2.n20 Tryz.prog Tryz.laysNm220_ren := {
 mixed := by kernel_rfl
 f20 := Tryz.func102.trans (congrArg some (by kernel_rfl))
 t0 := Tryz.underlying0
 a0 := Tryz.isAgg0
 z0 := Tryz.sizeOf0
 v0 := Tryz.zeroValue0
 t3 := Tryz.underlying3
 a3 := Tryz.isAgg3
 z3 := Tryz.sizeOf3
 v3 := Tryz.zeroValue3
 t4 := Tryz.underlying4
 a4 := Tryz.isAgg4
 z4 := Tryz.sizeOf4
 v4 := Tryz.zeroValue4
 t22 := Tryz.underlying45
 a22 := Tryz.isAgg45
 z22 := Tryz.sizeOf45
 v22 := Tryz.zeroValue45
 i3 := by kernel_rfl }
open Go.RowKit Go.Lib Go.Sort in
theorem Tryz.slices_Compact_int (blk off cap : Nat) (zs : List Int) (w : World) (hH : Holds (Value.int .i64) w blk off zs.toArray) (hsz : zs.length ≤ 9223372036854775807) (hcap : zs.length ≤ cap) :
 Calls Tryz.prog 102 #[.slice (some ⟨blk, off, none⟩) zs.length cap] w fun e w' => e = .returned (.slice (some ⟨blk, off, none⟩) (Lib.compact zs).length cap) ∧ ∃ q, w' = putRow (Value.int .i64) (Sort.ahead w q) blk off (Lib.compact zs ++ List.replicate (zs.length - (Lib.compact zs).length) 0).toArray := Any.slices_Compact_int Tryz.laysNm220 blk off cap zs w hH hsz hcap
open Go.RowKit Go.Lib Go.Sort in
theorem Tryz.slices_Compact_int_empty (a : Option Addr) (cap : Nat) (w : World) :
 Calls Tryz.prog 102 #[.slice a 0 cap] w fun e w' => e = .returned (.slice a 0 cap) ∧ w' = w := Any.slices_Compact_int_empty Tryz.laysNm220 a cap w
open Go.RowKit Go.Sort in
theorem Tryz.slices_Sort_int_none (p : Option Addr) (cap : Nat) (w : World) :
 Calls Tryz.prog 101 #[.slice p 0 cap] w fun e w' => e = .returned (.tuple #[]) ∧ w' = w := Any.slices_Sort_int_none Tryz.lays189 p cap w
end Go.Proofs
namespace Go.Proofs.YtjmpekanlmepmaaGreatDoor
theorem insertSorted_perm (x : Int) (l : List Int) : (Bt.insertSorted x l).Perm (x :: l) := by
 induction l with
 | nil => exact List.Perm.refl _
 | cons y ys ih =>
   simp only [Bt.insertSorted]
   split
   ·exact List.Perm.refl _
   ·exact (List.Perm.cons y ih).trans (List.Perm.swap x y ys)
theorem sortInts_perm (l : List Int) : (Bt.sortInts l).Perm l := by
 induction l with
 | nil => exact List.Perm.refl _
 | cons x xs ih => exact (insertSorted_perm x _).trans (List.Perm.cons x ih)
theorem insertSorted_sorted (x : Int) (l : List Int) (h : l.Pairwise (· ≤ ·)) : (Bt.insertSorted x l).Pairwise (· ≤ ·) := by
 induction l with
 | nil => simp [Bt.insertSorted]
 | cons y ys ih =>
   have hp := List.pairwise_cons.1 h
   simp only [Bt.insertSorted]
   split
   ·rename_i hxy
    refine List.pairwise_cons.2 ⟨fun z hz => ?_, h⟩
    rcases List.mem_cons.1 hz with rfl | hz
    ·exact hxy
    ·have := hp.1 z hz
     omega
   ·rename_i hxy
    refine List.pairwise_cons.2 ⟨fun z hz => ?_, ih hp.2⟩
    have := (insertSorted_perm x ys).mem_iff.1 hz
    rcases List.mem_cons.1 this with rfl | hz
    ·omega
    ·exact hp.1 z hz
theorem sortInts_sorted (l : List Int) : (Bt.sortInts l).Pairwise (· ≤ ·) := by
 induction l with
 | nil => exact List.Pairwise.nil
 | cons x xs ih => exact insertSorted_sorted x _ ih
theorem mergeSort_eq (l : List Int) : l.mergeSort (fun x y => decide (x ≤ y)) = Bt.sortInts l := by
 have h1 : (l.mergeSort (fun x y => decide (x ≤ y))).Pairwise (fun a b => decide (a ≤ b) = true) := List.pairwise_mergeSort (by intro a b c; simp; omega) (by intro a b; simp; omega) l
 have h1' : (l.mergeSort (fun x y => decide (x ≤ y))).Pairwise (· ≤ ·) := h1.imp (by intro a b h; simpa using h)
 exact List.Perm.eq_of_pairwise (le := (· ≤ ·)) (by intro a b _ _ h1 h2; omega) h1' (sortInts_sorted l) ((List.mergeSort_perm l _).trans (sortInts_perm l).symm)
def compactFrom : Option Int → List Int → List Int
 | _, [] => []
 | p, x :: xs => if p = some x then compactFrom (some x) xs else x :: compactFrom (some x) xs
theorem compact_cons (x : Int) (xs : List Int) : Bt.compact (x :: xs) = x :: compactFrom (some x) xs := by
 induction xs generalizing x with
 | nil => rfl
 | cons y ys ih =>
   simp only [Bt.compact, compactFrom]
   by_cases h : x = y
   ·subst h
    rw [if_pos rfl, if_pos rfl]
    exact ih x
   ·rw [if_neg h, if_neg (by simpa using h), ih y]
theorem compact_from (l : List Int) : Bt.compact l = compactFrom none l := by
 cases l with
 | nil => rfl
 | cons x xs => rw [compact_cons]; simp [compactFrom]
theorem compactFrom_snoc (p : Option Int) (l : List Int) (x : Int) : compactFrom p (l ++ [x]) = compactFrom p l ++ (if (if l = [] then p else l.getLast?) = some x then [] else [x]) := by
 induction l generalizing p with
 | nil => simp only [List.nil_append, compactFrom, if_true]
 | cons y ys ih =>
   simp only [List.cons_append, compactFrom]
   have e : (if ys = [] then some y else ys.getLast?) = (if y :: ys = [] then p else (y :: ys).getLast?) := by
    cases ys with
    | nil => simp
    | cons z zs => simp [List.getLast?_cons_cons]
   split <;> rw [ih (some y), e] <;> try rfl
theorem compact_lib (l : List Int) : Go.Lib.compact l = Bt.compact l := by
 rw [compact_from]
 unfold Go.Lib.compact
 have : ∀ m, m ≤ l.length → Go.Lib.compactUpTo l.toArray m = compactFrom none (l.take m) := by
  intro m
  induction m with
  | zero => intro _; rfl
  | succ m ih =>
    intro hm
    have hlt : m < l.length := by omega
    rw [Go.Lib.compactUpTo_succ, ih (by omega), List.take_succ_eq_append_getElem hlt, compactFrom_snoc]
    congr 1
    have hg : l.toArray[m]! = l[m] := by rw [getElem!_pos l.toArray m (by simpa using hlt)]; simp
    rw [hg]
    cases m with
    | zero => simp [Go.Lib.keeps]
    | succ m =>
      have hg2 : l.toArray[m]! = l[m] := by rw [getElem!_pos l.toArray m (by simp; omega)]; simp
      have hne : l.take (m + 1) ≠ [] := by intro h; have h2 := congrArg List.length h; rw [List.length_take] at h2; simp only [List.length_nil] at h2; omega
      have hlast : (l.take (m + 1)).getLast? = some l[m] := by rw [List.take_succ_eq_append_getElem (show m < l.length by omega), List.getLast?_append]; simp
      rw [if_neg hne, hlast]
      unfold Go.Lib.keeps
      rw [hg, Nat.add_sub_cancel, hg2]
      by_cases h : l[m] = l[m + 1]
      ·simp [h]
      ·have h' : ¬ l[m + 1] = l[m] := fun e => h e.symm
       simp [h, h']
 rw [this l.length (Nat.le_refl _), List.take_length]
end Go.Proofs.YtjmpekanlmepmaaGreatDoor
