/- An index: which pages a method writes, and in which order (plain Lean). -/
import Derived.Test.YtjmpekanlmepmaaGreatDoorBB05
import Derived.Test.YtjmpekanlmepmaaGreatDoorBB18
import Derived.Test.YtjmpekanlmepmaaGreatDoorBB15
import Derived.Test.YtjmpekanlmepmaaGreatDoorBB17
import Derived.Laws.Tables
set_option linter.all false
set_option maxRecDepth 20000
set_option maxHeartbeats 8000000
open Go.Lib (hid)
namespace Go.Proofs.YtjmpekanlmepmaaGreatDoor.Bt
open Go.Proofs.YtjmpekanlmepmaaGreatDoor (Z1u)
theorem Z2V (s : St) (known : List Page) (p : Ptr) (b : Bool) : (s.look known p b).1.writes = s.writes := by
 unfold St.look
 split
 ·rfl
 ·rfl
 ·split <;> rfl
theorem Z5H (s : St) (known : List Page) (x : Node) : (s.neighbour known x).1.writes = s.writes := by
 have h := Z2V s known x.right false
 unfold St.neighbour
 generalize s.look known x.right false = r at h
 obtain ⟨s', r⟩ := r
 cases r with
 | none => exact h
 | some pn =>
   obtain ⟨p, n⟩ := pn
   simp only
   split
   ·exact h
   ·exact h
theorem Z5h (known : List Page) (level k height : Int) (fuel : Nat) (s : St) (moves : Int) (p : Page) (n : Node) : (Z1m known level k height fuel s moves p n).1.writes = s.writes := by
 induction fuel generalizing s moves p n with
 | zero => rfl
 | succ fuel ih =>
   unfold Z1m
   split
   ·split
    ·rfl
    ·have h := Z5H (s.hop n) known n
     generalize (s.hop n).neighbour known n = r at h
     obtain ⟨s', r⟩ := r
     cases r with
     | none => exact h
     | some pn =>
       obtain ⟨p', n'⟩ := pn
       simp only
       rw [ih]
       exact h
   ·split
    ·split <;> rfl
    ·split
     ·rfl
     ·rename_i e _
      have h := Z2V s known e.to false
      generalize s.look known e.to false = r at h
      obtain ⟨s', r⟩ := r
      cases r with
      | none => exact h
      | some pn =>
        obtain ⟨p', n'⟩ := pn
        simp only
        split
        ·exact h
        ·rw [ih]
         exact h
theorem Z30 (s : St) (known : List Page) (level k : Int) : (s.descend known level k).1.writes = s.writes := by
 have h := Z2V s known s.root false
 unfold St.descend
 generalize s.look known s.root false = r at h
 obtain ⟨s', r⟩ := r
 cases r with
 | none => exact h
 | some pn =>
   obtain ⟨p, n⟩ := pn
   simp only
   split
   ·exact h
   ·rw [Z5h]
    exact h
theorem Z57 (s : St) (c : Int) : (s.noTree c).writes = s.writes := by
 unfold St.noTree
 split <;> rfl
theorem Z8D (s : St) (op : Op) (known : List Page) : (s.find op known).writes = s.writes := by
 unfold St.find
 split
 ·exact Z57 s 0
 ·have h := Z30 s known 0 op.key
  generalize s.descend known 0 op.key = r at h
  obtain ⟨s', r⟩ := r
  cases r with
  | absent => exact h
  | stopped => exact h
  | at_ page n =>
    simp only
    split <;> exact h
theorem Z6J (s : St) (op : Op) (known : List Page) (hs : s.writes = []) : Z1u (s.unlink op known).writes := by
 have h0 : Z1u s.writes := by rw [hs]; exact .inl rfl
 unfold St.unlink
 split
 ·exact h0
 ·have h := Z30 s known 0 op.key
  generalize s.descend known 0 op.key = r at h
  obtain ⟨s', r⟩ := r
  simp only at h
  cases r with
  | absent => rw [← h] at h0; exact h0
  | stopped => rw [← h] at h0; exact h0
  | at_ page n =>
    simp only
    split
    ·rw [← h] at h0; exact h0
    ·have h2 := Z2V s' known n.right true
     generalize s'.look known n.right true = r2 at h2
     obtain ⟨t, r2⟩ := r2
     simp only at h2
     cases r2 with
     | none => rw [← h, ← h2] at h0; exact h0
     | some pn =>
       obtain ⟨dp, d⟩ := pn
       simp only
       split
       ·rw [← h, ← h2] at h0; exact h0
       ·split
        ·rw [← h, ← h2] at h0; exact h0
        ·exact .inr (.inl ⟨_, rfl⟩)
def Pair2 (l : List Page) : Prop := Z1u l ∨ ∃ p q, l = [p, q] ∧ q.line < p.line
theorem Pair2.of (p q : Page) : Pair2 [p, q] := by
 by_cases h : q.line < p.line
 ·exact .inr ⟨p, q, rfl, h⟩
 ·exact .inl (.inr (.inr ⟨p, q, rfl, by omega⟩))
theorem Z8x (s : St) (op : Op) (known : List Page) (hs : s.writes = []) : Pair2 (s.kill op known).writes := by
 have h0 : Pair2 s.writes := by rw [hs]; exact .inl (.inl rfl)
 unfold St.kill
 split
 ·exact h0
 ·have h := Z30 s known 0 op.key
  generalize s.descend known 0 op.key = r at h
  obtain ⟨s', r⟩ := r
  simp only at h
  rw [← h] at h0
  cases r with
  | absent => exact h0
  | stopped => exact h0
  | at_ page n =>
    simp only
    split
    ·exact h0
    ·have h2 := Z30 s' known 1 op.key
     generalize s'.descend known 1 op.key = r2 at h2
     obtain ⟨t, r2⟩ := r2
     simp only at h2
     rw [← h2] at h0
     cases r2 with
     | absent => exact h0
     | stopped => exact h0
     | at_ pp m =>
       simp only
       split
       ·exact h0
       ·split
        ·exact h0
        ·exact Pair2.of _ _
theorem Z7a {p : Page} (h : (allocate p 4 0).2 = 0) : (allocate p 4 0).1.line = p.line := by
 unfold allocate at h ⊢
 split at h
 ·cases h
 ·rename_i h1
  rw [if_neg h1]
  split at h
  ·cases h
  ·rename_i h2
   rw [if_neg h2]
   split at h
   ·cases h
   ·rename_i h3
    rw [if_neg h3]
    split at h
    ·cases h
    ·rename_i h4
     rw [if_neg h4]
theorem Z4n (s : St) (op : Op) (taken : List Int) : (s.fresh op taken).1.writes = s.writes ∧ ∀ p, (s.fresh op taken).2 = some p → ∃ f rest, op.fresh = f :: rest ∧ p.line = f.line := by
 unfold St.fresh
 split
 ·exact ⟨rfl, fun p h => by cases h⟩
 ·rename_i f rest hf
  split
  ·exact ⟨rfl, fun p h => by cases h⟩
  ·rename_i h1
   refine ⟨rfl, fun p h => ⟨f, rest, hf, ?_⟩⟩
   simp only [Option.some.injEq] at h
   subst h
   refine Z7a ?_
   cases hd : decide ((allocate f 4 0).2 = 0) with
   | true => simpa using hd
   | false => exact absurd (.inl (by simpa using hd)) h1
theorem Z4h (s : St) (op : Op) (page : Page) (n : Node) (es : List Entry) (check : List Int) (hs : s.writes = []) (hf : es.length ≤ 5 ∨ ∀ f rest, op.fresh = f :: rest → page.line ≤ f.line) : Z1u (s.store op page n es check).writes := by
 unfold St.store
 split
 ·exact .inr (.inl ⟨_, rfl⟩)
 ·rename_i h5
  have h := Z4n s op (check ++ [page.line])
  generalize s.fresh op (check ++ [page.line]) = r at h
  obtain ⟨t, r⟩ := r
  obtain ⟨h1, h2⟩ := h
  simp only at h1 h2
  cases r with
  | none => show Z1u t.writes; rw [h1, hs]; exact .inl rfl
  | some p =>
    obtain ⟨f, rest, hfr, hl⟩ := h2 p rfl
    refine .inr (.inr ⟨_, _, rfl, ?_⟩)
    show page.line ≤ p.line
    rw [hl]
    rcases hf with hf | hf
    ·exact absurd hf h5
    ·exact hf f rest hfr
theorem Z7r (s : St) (op : Op) (e : Entry) (hs : s.writes = []) (hf : ∀ f rest, op.fresh = f :: rest → s.rootPage.line ≤ f.line) : Z1u (s.plant op e).writes := by
 unfold St.plant
 split
 ·show Z1u s.writes; rw [hs]; exact .inl rfl
 ·have h := Z4n s op []
  generalize s.fresh op [] = r at h
  obtain ⟨t, r⟩ := r
  obtain ⟨h1, h2⟩ := h
  simp only at h1 h2
  cases r with
  | none => show Z1u t.writes; rw [h1, hs]; exact .inl rfl
  | some p =>
    obtain ⟨f, rest, hfr, hl⟩ := h2 p rfl
    refine .inr (.inr ⟨_, _, rfl, ?_⟩)
    show s.rootPage.line ≤ p.line
    rw [hl]
    exact hf f rest hfr
theorem Z6u (s : St) (op : Op) (taken : List Int) : (s.fresh op taken).1.rootPage = s.rootPage := by
 unfold St.fresh
 split
 ·rfl
 ·split <;> rfl
theorem Z7p (s : St) (op : Op) (known : List Page) (hs : s.writes = []) (hf : ∀ f rest, op.fresh = f :: rest → s.rootPage.line ≤ f.line) : Z1u (s.raise op known).writes := by
 have h0 : Z1u s.writes := by rw [hs]; exact .inl rfl
 unfold St.raise
 split
 ·exact h0
 ·have h := Z2V s known s.root true
  have hrp : (s.look known s.root true).1.rootPage = s.rootPage := by
   unfold St.look
   split
   ·rfl
   ·rfl
   ·split <;> rfl
  generalize s.look known s.root true = r at h hrp
  obtain ⟨s', r⟩ := r
  simp only at h hrp
  rw [← h] at h0
  cases r with
  | none => exact h0
  | some pn =>
    obtain ⟨page, n⟩ := pn
    simp only
    split
    ·exact h0
    ·split
     ·exact h0
     ·have h3 := Z4n s' op [page.line]
      have h4 := Z6u s' op [page.line]
      generalize s'.fresh op [page.line] = r3 at h3 h4
      obtain ⟨t, r3⟩ := r3
      obtain ⟨h1, h2⟩ := h3
      simp only at h1 h2 h4
      rw [← h1] at h0
      cases r3 with
      | none => exact h0
      | some p =>
        obtain ⟨f, rest, hfr, hl⟩ := h2 p rfl
        refine .inr (.inr ⟨_, _, rfl, ?_⟩)
        show t.rootPage.line ≤ p.line
        rw [hl, h4, hrp]
        exact hf f rest hfr
theorem Z3a {s : St} {ws : List Page} {o : Out} (h : s.close = ⟨[], ws, o, true⟩) : s.need = [] ∧ ws = Z1T s.writes ∧ (s.ended = false → o = { s.out with hops := 0, height := 0, dead := false, unposted := false }) ∧ (s.ended = true → o = s.out) := by
 unfold St.close at h
 split at h
 ·injection h with h1 h2 h3 h4; cases h4
 ·rename_i hn
  injection h with h1 h2 h3 h4
  refine ⟨?_, h2.symm, fun he => ?_, fun he => ?_⟩
  ·cases hd : decide (s.need = []) with
   | true => simpa using hd
   | false => exact absurd (by simpa using hd) hn
  ·rw [he] at h3; exact h3.symm
  ·rw [he] at h3; exact h3.symm
theorem Z1K {l : List Page} (h : Z1u l) : Z1T l = l := by
 rcases h with rfl | ⟨p, rfl⟩ | ⟨p, q, rfl, h⟩
 ·rfl
 ·rfl
 ·unfold Z1T
  simp only
  rw [if_neg (by omega)]
theorem Z6o {p q : Page} (h : q.line < p.line) : Z1T [p, q] = [q, p] := by
 unfold Z1T
 simp only
 rw [if_pos h]
end Go.Proofs.YtjmpekanlmepmaaGreatDoor.Bt
namespace Go.Proofs.YtjmpekanlmepmaaGreatDoor
open Go.RowKit
def Z1e (r : Option (Bt.Page × Bt.Node)) : Bt.Page := match r with | none => Bt.Z0l | some x => x.1
def Z15 (r : Option (Bt.Page × Bt.Node)) : Bt.Node := match r with | none => Bt.Z1o | some x => x.2
def Kp {α : Type} (A : Nat → Prop) (w : World) (r : Option α) : Nat → Prop := match r with | none => New A w | some _ => A
theorem Kp.cases {α : Type} {A : Nat → Prop} {w : World} {r : Option α} {c : Nat} (h : Kp A w r c) : A c ∨ (r = none ∧ w.heap.size ≤ c) := by
 cases r with
 | none => exact h.imp id (fun h => ⟨rfl, h⟩)
 | some x => exact .inl h
theorem Kp.intro {α : Type} {A : Nat → Prop} {w : World} {r : Option α} {c : Nat} (h : A c ∨ (r = none ∧ w.heap.size ≤ c)) : Kp A w r c := by
 rcases h with h | ⟨rfl, h⟩
 ·cases r with
  | none => exact .inl h
  | some x => exact h
 ·exact .inr h
def Zb6 (A : Nat → Prop) (op : Bt.Op) (known : List Bt.Page) (vf vk : Value) (b : Nat) (res : Bt.St × Option (Bt.Page × Bt.Node)) (w : World) (e : Ending) (w' : World) : Prop :=
 IsRun (Kp A w res.2) op known vf vk res.1 b w' ∧ Over b w w' ∧
 ∃ v, e = .returned (.tuple #[.agg (Z0g (Z1e res.2) (Z15 res.2) v), .bool res.2.isSome]) ∧ w'.ownsRow w.heap.size 69 3 v (Z15 res.2).entries.length (Z04 (Z15 res.2).entries)
theorem Z6j.got {A : Nat → Prop} {op : Bt.Op} {known : List Bt.Page} {vf vk : Value} {b : Nat} {res : Bt.St × Option (Bt.Page × Bt.Node)} {w w' : World} {e : Ending} (h : Z6j A op known vf vk b res w e w') : Zb6 A op known vf vk b res w e w' := by
 obtain ⟨s, r⟩ := res
 cases r with
 | none =>
   obtain ⟨h1, h2, h3⟩ := h
   exact ⟨h1, h2, .slice none 0 0, h3, World.ownsRow_nil _ _ _ _⟩
 | some x =>
   obtain ⟨p, n⟩ := x
   obtain ⟨h1, h2, v, h3, h4⟩ := h
   exact ⟨h1, h2, v, h3, h4⟩
structure GotAt (A : Nat → Prop) (op : Bt.Op) (known : List Bt.Page) (vf vk : Value) (b : Nat) (res : Bt.St × Option (Bt.Page × Bt.Node)) (g : Nat) (v : Value) (w wx : World) : Prop where
 run : IsRun A op known vf vk res.1 b wx
 over : Over b w wx
 blk : Blk wx g 145 (Z0g (Z1e res.2) (Z15 res.2) v)
 own : wx.ownsRow w.heap.size 69 3 v (Z15 res.2).entries.length (Z04 (Z15 res.2).entries)
 not : v.ownBlock ≠ some g
 apart : ¬ A g
def NbCut (A : Nat → Prop) (op : Bt.Op) (known : List Bt.Page) (vf vk : Value) (b : Nat) (res : Bt.St × Option (Bt.Page × Bt.Node)) (w w2 : World) (x0 : Array Value) (s6 s7 : Value) (wx : World) : Prop :=
 ∃ (g : Nat) (v : Value), s6 = .pointer (some ⟨g, 0, none⟩) ∧ s7 = .bool res.2.isSome ∧ w.heap.size + 1 < g ∧ Hid (GotAt (fun c => (A c ∨ (res.2 = none ∧ w.heap.size + 1 < c)) ∧ c < g) op known vf vk b res g v w wx) ∧ Blk wx w.heap.size 73 x0 ∧
  Blk wx (w.heap.size + 1) 145 #[.int .i64 0, .int .u64 0, .int .u64 0, .int .u64 0, .int .u64 0, .int .u64 0, .int .u64 0, .int .u64 0, .int .u64 0, .int .i64 0, .bool false, .bool false, .int .u32 0, .int .i64 0, .int .i64 0, .slice none 0 0] ∧ v.ownBlock ≠ some (w.heap.size + 1)
theorem Z58 (A : Nat → Prop) (op : Bt.Op) (known : List Bt.Page) (vf vk : Value) (s : Bt.St) (res : Bt.St × Option (Bt.Page × Bt.Node)) (b : Nat) (x : Bt.Node) (v : Value) (w : World) (h : IsRun A op known vf vk s b w) (hA : ∀ c, A c → c < w.heap.size)
 (hl : s.look known x.right false = res) (hlev : res.2.isSome = true → (Z15 res.2).level = x.level) :
 Calls Tryz.prog 89 #[.pointer (some ⟨b, 0, none⟩), .agg (Z02 x v)] w (Zb6 A op known vf vk b res w) := by
 have HR := hid h
 have HL := hid hl
 have hlt := h.lt
 have hlt1 : b < w.heap.size + 1 := by omega
 have hlt2 : b < w.heap.size + 1 + 1 := by omega
 clear h hl
 obtain ⟨x0, hx0⟩ : ∃ x0 : Array Value, x0 = #[.int .i64 x.level, .bool x.leftmost, .bool x.dead, .int .u32 x.high, .int .i64 x.right.line, .int .i64 x.right.gen, v] := ⟨_, rfl⟩
 have HX0 := hid hx0
 clear hx0
 unfold Z02
 go_enter Tryz.func89, Tryz.ntmps89
 go_upto_region 1 with (fail)
 go_cut [6, 7] (NbCut A op known vf vk b res w ((w.alloc (.cells #[.int .i64 x.level, .bool x.leftmost, .bool x.dead, .int .u32 x.high, .int .i64 x.right.line, .int .i64 x.right.gen, v] 73)).alloc (.cells #[.int .i64 0, .int .u64 0, .int .u64 0, .int .u64 0, .int .u64 0, .int .u64 0, .int .u64 0, .int .u64 0, .int .u64 0, .int .i64 0, .bool false, .bool false, .int .u32 0, .int .i64 0, .int .i64 0, .slice none 0 0] 145)) x0)
 case first =>
  go_wp2_with fail
  go_at_call 92; refine (Z4m A op known vf vk s b x.right _ ?hrun ?hlow).mono ?_
  case hrun => exact HR.out.below qL
  case hlow => exact fun c hc => by have := hA c hc; simp; omega
  rw [HL.out]
  intro e w1 hres
  obtain ⟨hrun1, ho1, u, rfl, hown⟩ := hres.got
  have HR1 := hid hrun1
  have HOWN := hid hown
  have hsv := qSt hown
  clear hrun1 hown hres
  ((obtain ⟨hc1, hf1, hs1⟩ := qO ho1); (try have := qN0 w w1); (try have := qN1 w w1))
  simp only [Z0g]
  go_wp2_with fail
  go_meet
  have hob : Below w1.heap.size w1 (w1.alloc (.cells (Z0g (Z1e res.2) (Z15 res.2) u) 145)) := Z06 (Below.refl _ _) _
  refine ⟨w1.heap.size, u, rfl, rfl, by omega, hid ⟨?_, ?_, ?_, ?_, ?_, fun h => by omega⟩, ?_, ?_, ?_⟩
  ·refine (HR1.out.low.below hob).imp (fun c hc => ⟨?_, hc.2⟩)
   rcases hc.1.cases with h1 | h1
   ·exact .inl h1
   ·exact .inr ⟨h1.1, by have := h1.2; simp at this; omega⟩
  ·exact qV
  ·exact Blk.made _ _ _
  ·exact own_base (own_below HOWN.out hob) (by simp; omega)
  ·intro e
   have := own_lt' HOWN.out _ e
   omega
  ·rw [HX0.out]
   have B0 := (Blk.grown (b := w.heap.size) (Zay w (t := 73) (cs := #[.int .i64 x.level, .bool x.leftmost, .bool x.dead, .int .u32 x.high, .int .i64 x.right.line, .int .i64 x.right.gen, v])) ho1 (by simp; omega)).kept hob
   exact B0
  ·have B1 := (Blk.grown (b := w.heap.size + 1) (Z0R w (o := .cells #[.int .i64 x.level, .bool x.leftmost, .bool x.dead, .int .u32 x.high, .int .i64 x.right.line, .int .i64 x.right.gen, v] 73) (t := 145) (cs := #[.int .i64 0, .int .u64 0, .int .u64 0, .int .u64 0, .int .u64 0, .int .u64 0, .int .u64 0, .int .u64 0, .int .u64 0, .int .i64 0, .bool false, .bool false, .int .u32 0, .int .i64 0, .int .i64 0, .slice none 0 0])) ho1 (by simp; omega)).kept hob
   exact B1
  ·exact Z2F HOWN.out (by simp)
 case rest =>
  obtain ⟨g, u, rfl, rfl, hg, HG, BX, BF, hnu⟩ := hcut
  rw [HX0.out] at BX
  have kx := BX.cell
  have kg : ∀ i, wc.cell? ⟨g, i, none⟩ = (#[.int .i64 (Z1e res.2).line, .int .u64 (Z1e res.2).head, .int .u64 (Z1e res.2).d0, .int .u64 (Z1e res.2).d1, .int .u64 (Z1e res.2).d2, .int .u64 (Z1e res.2).d3, .int .u64 (Z1e res.2).d4, .int .u64 (Z1e res.2).d5, .int .u64 (Z1e res.2).d6,
   .int .i64 (Z15 res.2).level, .bool (Z15 res.2).leftmost, .bool (Z15 res.2).dead, .int .u32 (Z15 res.2).high, .int .i64 (Z15 res.2).right.line, .int .i64 (Z15 res.2).right.gen, u] : Array Value)[i]? := HG.out.blk.cell
  have kf := BF.free
  have kr := BF.cell
  have lx := BX.lt
  have lf := BF.lt
  have lg : g < wc.heap.size := HG.out.blk.lt
  have hbz : b < wc.heap.size := HG.out.run.lt
  have hsu := qSt HG.out.own
  have HBF := hid BF
  clear BX BF
  rcases hsm : res.2.isSome with _ | _
  ·clear hlev
   go_wp2_with fail
   have BF := HBF.out
   refine bodyPost_ret (Z0K rfl _ _ (w.heap.size + 1) _ _ _ rfl (by have B := BF; exact qK) Tryz.underlying145 rfl (by kernel_rfl)) rfl ?_
   have hna : ¬ ((A (w.heap.size + 1) ∨ (res.2 = none ∧ w.heap.size + 1 < w.heap.size + 1)) ∧ w.heap.size + 1 < g) := by
    rintro ⟨h1 | h1, _⟩
    ·have := hA _ h1; omega
    ·omega
   have ho := HG.out.over
   refine ⟨(IsRun.put16 HG.out.run hlt1 hna _ _ _ _ _ _ _ _ _ _ _ _ _ _ _ _).imp (fun c hc => ?_), qV, u, ?_, Z33 HG.out.own hnu _ _ _ _ _ _ _ _ _ _ _ _ _ _ _ _⟩
   ·refine Kp.intro ?_
    rcases hc.1 with h1 | h1
    ·exact .inl h1
    ·exact .inr ⟨h1.1, by omega⟩
   ·rw [set16, hsm]
    rfl
  ·have hle := hlev hsm
   have b1 : ((Z15 res.2).level != x.level) = false := by simp [hle]
   clear hlev hle
   go_wp2_with fail
   have BF := HBF.out
   refine bodyPost_ret (Z0K rfl _ _ (w.heap.size + 1) _ _ _ rfl (by have B := BF; exact qK) Tryz.underlying145 rfl (by kernel_rfl)) rfl ?_
   have hna : ¬ ((A (w.heap.size + 1) ∨ (res.2 = none ∧ w.heap.size + 1 < w.heap.size + 1)) ∧ w.heap.size + 1 < g) := by
    rintro ⟨h1 | h1, _⟩
    ·have := hA _ h1; omega
    ·omega
   have ho := HG.out.over
   refine ⟨(IsRun.put16 HG.out.run hlt1 hna _ _ _ _ _ _ _ _ _ _ _ _ _ _ _ _).imp (fun c hc => ?_), qV, u, ?_, Z33 HG.out.own hnu _ _ _ _ _ _ _ _ _ _ _ _ _ _ _ _⟩
   ·refine Kp.intro ?_
    rcases hc.1 with h1 | h1
    ·exact .inl h1
    ·exact .inr ⟨h1.1, by omega⟩
   ·rw [set16, hsm]
    rfl
theorem setRow_self {w : World} {g : Nat} {t : TypeId} {cs : Array Value} (h : Blk w g t cs) : w.setRow g cs = w := by
 have hlt := h.lt
 have hv : w.heap[g] = .cells cs t (0, 0) := (Array.getElem?_eq_some_iff.1 h).2
 unfold World.setRow
 cases w with
 | mk heap tape drawn os output =>
   congr 1
   apply Array.ext
   ·simp
   ·intro k h1 h2
    simp only [Array.getElem_modify]
    split
    ·rename_i hk; subst hk; simp at hv; simp [hv]
    ·rfl
theorem Z3V (w : World) (g : Nat) (cs : Array Value) : Over g w (w.setRow g cs) := ⟨rfl, rfl, rfl, by simp, fun k _ hn => setRow_other w g k cs (by simpa using hn)⟩
theorem Z0A {p : Bt.Page} {n : Bt.Node} {v : Value} (h : v.oneCell' = true) : (Z0g p n v).all (·.oneCell') = true := by
 simp [Z0g, Value.oneCell']
 exact h
section
variable {P : Program} {ops : Array Oper} {rest : List Oper} {o : Oper} {a : Act} {w : World} {Q : Exit → Act → World → Prop}
theorem Z07 (hgd : o.guard = none) (ty : TypeId) (x y : Operand) (ho : o.op = .store ty x y) (g : Nat) (cells : Array Value) (hx : a.eval x = .pointer (some ⟨g, 0, none⟩)) (hy : a.eval y = .agg cells)
 (t : TypeId) (old : Array Value) (hg : Blk w g t old) (hi : (P.info? ty).map (·.size) = some cells.size) (hold : old.size = cells.size) (h1 : cells.all (·.oneCell') = true)
 (h : ∀ wx, Blk wx g t cells → Over g w wx → wx.heap.size = w.heap.size → wpList P ops Q rest (a.put o.dst undef) wx) : wpList P ops Q (o :: rest) a w :=
 wpList_store_row hgd ty x y ho g cells hx hy t old hg hi hold h1 (h _ (setRow_heap w g old cells t (0, 0) hg) (Z3V w g cells) (by simp))
theorem Z2y (hgd : o.guard = none) (ty : TypeId) (x y : Operand) (ho : o.op = .store ty x y) (g : Nat) (cells : Array Value) (hx : a.eval x = .pointer (some ⟨g, 0, none⟩)) (hy : a.eval y = .agg cells)
 (t : TypeId) (hg : Blk w g t cells) (hi : (P.info? ty).map (·.size) = some cells.size) (h1 : cells.all (·.oneCell') = true)
 (h : wpList P ops Q rest (a.put o.dst undef) w) : wpList P ops Q (o :: rest) a w :=
 wpList_store_row hgd ty x y ho g cells hx hy t cells hg hi rfl h1 (by rw [setRow_self hg]; exact h)
theorem Z2s (hgd : o.guard = none) (ty : TypeId) (x : Operand) (ho : o.op = .load ty x) (g : Nat) (hx : a.eval x = .pointer (some ⟨g, 0, none⟩)) (t : TypeId) (cs : Array Value) (d : TypeDesc) (hg : Blk w g t cs)
 (hu : P.underlying ty = some d) (hd : (match d with | .struct _ | .array _ _ => true | _ => false) = true) (hi : (P.info? ty).map (·.size) = some cs.size)
 (h : wpList P ops Q rest (a.put o.dst (.agg cs)) w) : wpList P ops Q (o :: rest) a w :=
 wpList_load_row hgd ty x ho g hx t cs (0, 0) d hg hu hd hi h
end
theorem Over.new {b g : Nat} {w w1 w2 : World} (h : Over b w w1) (hg : Over g w1 w2) (hge : w.heap.size ≤ g) : Over b w w2 := Over.grow_new h hg hge
theorem Z13 {w w' : World} {base n size g : Nat} {e : TypeId} {v : Value} {xs : List Value} (h : w.ownsRow base e size v n xs) (ho : Over g w w') (hn : v.ownBlock ≠ some g) : w'.ownsRow base e size v n xs :=
 h.kept ho (by
  rcases hv : v.ownBlock with _ | c
  ·exact .inl rfl
  ·exact .inr (fun e => hn (by rw [hv]; exact e)))
end Go.Proofs.YtjmpekanlmepmaaGreatDoor
