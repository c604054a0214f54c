/- Package bodegalaw24: an index, one operation with all pages known: it needs a fresh page. (The loop's text is run_plain's.) -/
import Derived.Test.YtjmpekanlmepmaaGreatDoorBB31
import Derived.Test.YtjmpekanlmepmaaGreatDoorBB35
import Derived.Test.YtjmpekanlmepmaaGreatDoorBB40
import Derived.Test.YtjmpekanlmepmaaGreatDoorBB06
set_option linter.all false
set_option maxRecDepth 20000
set_option maxHeartbeats 8000000
open Go.Lib (hid)
namespace Go.Proofs.YtjmpekanlmepmaaGreatDoor
open Go.RowKit
def Zch (o : Bt.Out) (op : Bt.Op) (w : World) (s6 s7 s8 s9 : Value) (wx : World) : Prop :=
 ∃ (vw ve vc : Value) (O : Nat), s6 = .slice none 0 0 ∧ vw = s7 ∧ s8 = .pointer (some ⟨O, 0, none⟩) ∧ s9 = .bool true ∧ w.heap.size + 1 < O ∧ Blk wx O 63 (Z0n o ve vc) ∧
  wx.ownsRow w.heap.size 25 9 vw 0 (Z0q []) ∧ wx.ownsRow w.heap.size 69 3 ve o.entries.length (Z04 o.entries) ∧ wx.ownsRow w.heap.size 3 1 vc o.check.length (intCells o.check) ∧ Blk wx (w.heap.size + 1) 63 #[.int .i64 0, .bool false, .bool false, .bool false, .bool false, .bool false, .bool false, .int .i64 0, .int .i64 0, .slice none 0 0, .slice none 0 0, .int .i64 0, .int .i64 0, .int .i64 0] ∧ Blk wx w.heap.size 67 #[.int .i64 op.kind, .int .u32 op.key, .int .u32 op.last, .int .i64 op.to.line, .int .i64 op.to.gen, .int .i64 op.level, .int .i64 op.limit, .slice none 0 0] ∧ Below w.heap.size w wx
def ZbF (op : Bt.Op) (f : Bt.Page) (w wd wx : World) : Prop :=
 ∃ F c, Blk wx w.heap.size 67 #[.int .i64 op.kind, .int .u32 op.key, .int .u32 op.last, .int .i64 op.to.line, .int .i64 op.to.gen, .int .i64 op.level, .int .i64 op.limit, .slice (some ⟨F, 0, none⟩) 1 c] ∧ wx.ownsRow wd.heap.size 25 9 (.slice (some ⟨F, 0, none⟩) 1 c) 1 (Z0q [f]) ∧ Over w.heap.size wd wx
theorem PgRow.of_own {w : World} {base F c : Nat} {l : List Bt.Page} (h : w.ownsRow base 25 9 (.slice (some ⟨F, 0, none⟩) l.length c) l.length (Z0q l)) (hok : ∀ p ∈ l, p.Ok) (hl : l.length ≤ maxLen) : PgRow w (.slice (some ⟨F, 0, none⟩) l.length c) l :=
 ⟨hok, hl, .inr ⟨F, c, rfl, (Z0X h).2, fun i p hi j u hu => Z0i h _ _ (Z40 l i p hi j u hu)⟩⟩
theorem OverTwo.own {x P : Nat} {w w1 : World} (h : OverTwo x P w w1) {p : Addr} (hp : w.heap.size ≤ p.block) (v : Value) : OverTwo x P w (w1.setCell p v) :=
 ⟨h.os, h.tape, h.output, by simpa [World.setCell] using h.size, fun k hk h1 h2 => (heap_setCell_other w1 p k v (by omega)).trans (h.block k hk h1 h2)⟩
theorem OverTwo.put14 {x P g : Nat} {w w1 : World} (h : OverTwo x P w w1) (hg : w.heap.size ≤ g) (v0 v1 v2 v3 v4 v5 v6 v7 v8 v9 v10 v11 v12 v13 : Value) : OverTwo x P w ((((((((((((((w1.setCell ⟨g, 0, none⟩ v0).setCell ⟨g, 1, none⟩ v1).setCell ⟨g, 2, none⟩ v2).setCell ⟨g, 3, none⟩ v3).setCell ⟨g, 4, none⟩ v4).setCell ⟨g, 5, none⟩ v5).setCell ⟨g, 6, none⟩ v6).setCell ⟨g, 7, none⟩ v7).setCell ⟨g, 8, none⟩ v8).setCell ⟨g, 9, none⟩ v9).setCell ⟨g, 10, none⟩ v10).setCell ⟨g, 11, none⟩ v11).setCell ⟨g, 12, none⟩ v12).setCell ⟨g, 13, none⟩ v13) := (OverTwo.own (OverTwo.own (OverTwo.own (OverTwo.own (OverTwo.own (OverTwo.own (OverTwo.own (OverTwo.own (OverTwo.own (OverTwo.own (OverTwo.own (OverTwo.own (OverTwo.own (OverTwo.own h (p := ⟨g, 0, none⟩) hg v0) (p := ⟨g, 1, none⟩) hg v1) (p := ⟨g, 2, none⟩) hg v2) (p := ⟨g, 3, none⟩) hg v3) (p := ⟨g, 4, none⟩) hg v4) (p := ⟨g, 5, none⟩) hg v5) (p := ⟨g, 6, none⟩) hg v6) (p := ⟨g, 7, none⟩) hg v7) (p := ⟨g, 8, none⟩) hg v8) (p := ⟨g, 9, none⟩) hg v9) (p := ⟨g, 10, none⟩) hg v10) (p := ⟨g, 11, none⟩) hg v11) (p := ⟨g, 12, none⟩) hg v12) (p := ⟨g, 13, none⟩) hg v13)
theorem OverTwo.then_right {x P : Nat} {w w1 w2 : World} (h1 : OverTwo x P w w1) (h2 : Over P w1 w2) : OverTwo x P w w2 :=
 ⟨h2.os.trans h1.os, h2.tape.trans h1.tape, h2.output.trans h1.output, Nat.le_trans h1.size h2.size, fun j hj hx hP => (h2.block j (Nat.lt_of_lt_of_le hj h1.size) (by simpa using hP)).trans (h1.block j hj hx hP)⟩
theorem PagesAt.same {P cap : Nat} {pages : List Bt.Page} {w w' : World} (h : PagesAt P cap pages w) (hb : w'.heap[P]? = w.heap[P]?) (hs : w.heap.size ≤ w'.heap.size) : PagesAt P cap pages w' := by
 exact sG35
theorem NoneAt.grown {w w' : World} {g : Nat} (h : NoneAt w) (hg : Over g w w') (hne : 0 < g) : NoneAt w' := h.over hg hne
theorem Over.putp14 {b : Nat} {w w1 : World} (h : Over b w w1) (v0 v1 v2 v3 v4 v5 v6 v7 v8 v9 v10 v11 v12 v13 : Value) : Over b w ((((((((((((((w1.setCell ⟨b, 0, none⟩ v0).setCell ⟨b, 1, none⟩ v1).setCell ⟨b, 2, none⟩ v2).setCell ⟨b, 3, none⟩ v3).setCell ⟨b, 4, none⟩ v4).setCell ⟨b, 5, none⟩ v5).setCell ⟨b, 6, none⟩ v6).setCell ⟨b, 7, none⟩ v7).setCell ⟨b, 8, none⟩ v8).setCell ⟨b, 9, none⟩ v9).setCell ⟨b, 10, none⟩ v10).setCell ⟨b, 11, none⟩ v11).setCell ⟨b, 12, none⟩ v12).setCell ⟨b, 13, none⟩ v13) := (Over.put (Over.put (Over.put (Over.put (Over.put (Over.put (Over.put (Over.put (Over.put (Over.put (Over.put (Over.put (Over.put (Over.put h 0 v0) 1 v1) 2 v2) 3 v3) 4 v4) 5 v5) 6 v6) 7 v7) 8 v8) 9 v9) 10 v10) 11 v11) 12 v12) 13 v13)
def Zcg (O B : Nat) (writes : List Bt.Page) (o : Bt.Out) (W : World) (s6 s7 s9 : Value) (wx : World) : Prop :=
 ∃ vw ve vc, s6 = .slice none 0 0 ∧ vw = s7 ∧ s9 = .bool true ∧ Blk wx O 63 (Z0n o ve vc) ∧ wx.ownsRow B 25 9 vw writes.length (Z0q writes) ∧ wx.ownsRow B 69 3 ve o.entries.length (Z04 o.entries) ∧ wx.ownsRow B 3 1 vc o.check.length (intCells o.check) ∧ Over O W wx
theorem Zah (x P cap : Nat) (pages : List Bt.Page) (next : Int) (vk vt vg : Value) (op : Bt.Op) (ws : List Bt.Page) (o : Bt.Out) (w : World) (hx : Blk w x 58 (Z1P P pages.length cap next vk vt vg)) (hP : PagesAt P cap pages w) (hn : NoneAt w)
 (hPx : P < x) (hgP : 0 < P) (hgx : 0 < x) (ho : o.code = 0) (hfit : Z6i pages ws) (hsm : pages.length ≤ 1000000) (hws : ws.length ≤ 2)
 (o1 : Bt.Out) (ho1c : o1.code = 18) (ho1f : o1.fresh = 1) (r : Nat) (f : Bt.Page) (hnx : next = 96 + r) (hnx2 : next < 256) (hfr : pages[r]? = some f)
 (HN1 : Hid (∀ w', PgRow w' (.slice (some ⟨P, 0, none⟩) pages.length cap) pages → NoneAt w' → Calls Tryz.prog 27 #[.agg (Z0d op (.slice none 0 0)), .slice (some ⟨P, 0, none⟩) pages.length cap] w' (Z1S [] o1 w')))
 (HN : Hid (∀ w' F c, PgRow w' (.slice (some ⟨F, 0, none⟩) 1 c) [f] → PgRow w' (.slice (some ⟨P, 0, none⟩) pages.length cap) pages → NoneAt w' → Calls Tryz.prog 27 #[.agg (Z0d op (.slice (some ⟨F, 0, none⟩) 1 c)), .slice (some ⟨P, 0, none⟩) pages.length cap] w' (Z1S ws o w'))) :
 Calls Tryz.prog 31 #[.pointer (some ⟨x, 0, none⟩), .agg (Z0d op (.slice none 0 0))] w (Z94 x P cap (Z1t pages ws) (next + 1) vk vt vg o w) := by
 obtain ⟨i0, hi, hz0, hz1, hz2⟩ := info_parts Z8U
 have HX := hid hx
 have HPA := hid hP
 have HNO := hid hn
 have HFIT := hid hfit
 have hxlt := hx.lt
 have hPlt := hP.lt
 have kx : ∀ i, w.cell? ⟨x, i, none⟩ = (#[.slice (some ⟨P, 0, none⟩) pages.length cap, .int .i64 next, vk, vt, vg] : Array Value)[i]? := hx.cell
 have b0 : (o.code == 0) = true := by simp [ho]
 have b18 : (o1.code == 18) = true := by simp [ho1c]
 have bf1 : decide ((0 : Int) < o1.fresh) = true := by simp [ho1f]
 have bf2 : decide ((1 : Int) < o1.fresh) = false := by simp [ho1f]
 have bn0 : (o.code != 0) = false := by simp [ho]
 have x1 : x < w.heap.size + 1 := by omega
 have x2 : x < w.heap.size + 1 + 1 := by omega
 clear hx hP hn hfit ho ho1c ho1f
 unfold Z0d at HN HN1 ⊢
 have tg79 := trivial
 exact wG11
theorem Bt.Commits.fits {ps ws : List Bt.Page} (hx : Bt.Ix ps) (h : Bt.Commits ps ws) : Z6i ps ws ∧ ws.length ≤ 2 := by
 have hlen := hx.len
 have h0 : ∀ p ∈ ws, 96 ≤ p.line ∧ p.line < 256 ∧ p.Ok ∧ ps[(p.line - 96).toNat]? = some (Bt.pg ps p.line) ∧ (Bt.pg ps p.line).head = p.head := fun p hp => by
  obtain ⟨h1, h2, h3, h4⟩ := h.fit p hp
  exact ⟨h1, h2, h3, (hx.at (l := p.line) h1 h2).2.2.2, h4.symm⟩
 rcases h.two with rfl | ⟨p, rfl⟩ | ⟨p, q, rfl, hl⟩
 ·exact ⟨⟨fun k hk => absurd hk (by simp), fun k hk => absurd hk (by simp)⟩, by simp⟩
 ·obtain ⟨h1, h2, h3, h4, h5⟩ := h0 p (by simp)
  refine ⟨⟨fun k hk => ?_, fun k hk => absurd hk (by simp)⟩, by simp⟩
  obtain rfl : k = 0 := by simpa using hk
  exact ⟨h1, by show p.line < 96 + (ps.length : Int); omega, ⟨_, h4, h5⟩, h3⟩
 ·obtain ⟨h1, h2, h3, h4, h5⟩ := h0 p (by simp)
  obtain ⟨g1, g2, g3, g4, g5⟩ := h0 q (by simp)
  refine ⟨⟨fun k hk => ?_, fun k hk => ?_⟩, by simp⟩
  ·have hk2 : k = 0 ∨ k = 1 := by simp at hk; omega
   rcases hk2 with rfl | rfl
   ·exact ⟨h1, by show p.line < 96 + (ps.length : Int); omega, ⟨_, h4, h5⟩, h3⟩
   ·refine ⟨g1, by show q.line < 96 + (ps.length : Int); omega, ⟨Bt.pg ps q.line, ?_, g5⟩, g3⟩
    show (ps.set (p.line - 96).toNat (bump p))[(q.line - 96).toNat]? = _
    rw [List.getElem?_set_ne (by omega)]
    exact g4
  ·have hk2 : k = 0 := by simp at hk; omega
   subst hk2
   exact hl
theorem nilRow (w : World) : PgRow w (.slice none 0 0) [] := ⟨(fun p hp => by cases hp), by simp, .inl ⟨rfl, rfl⟩⟩
theorem ZbR {x P cap : Nat} {ps : List Bt.Page} {nx nx' : Int} {es : List Bt.Entry} {T : List (List Bt.Cell)} (h : Bt.Inv ps nx es T) (vk vt vg : Value) (op : Bt.Op) (hop : op.fresh = []) {ws : List Bt.Page} {o : Bt.Out}
 (hR : Bt.Z6I op ps nx ws o nx') (hc : Bt.Commits ps ws) (hoc : o.code = 0 ∨ (ws = [] ∧ o.code ≠ 18 ∧ nx' = nx))
 (HS : ∀ (fr : List Bt.Page) (ws : List Bt.Page) (o : Bt.Out), Z1R { op with fresh := fr } ps nx → Bt.next { op with fresh := fr } ps = ⟨[], ws, o, true⟩ → ∀ fa ka fn fc kn kc w, Steps { op with fresh := fr } ps fa ka fn fc kn kc ws o w)
 (w : World) {keys : List Int} {tos : List Bt.Ptr} (hx : IxOk x P cap ps nx keys tos vk vt vg w) :
 Calls Tryz.prog 31 #[.pointer (some ⟨x, 0, none⟩), .agg (Z0d op (.slice none 0 0))] w (Z94 x P cap (Bt.Z0J ps ws) nx' vk vt vg o w) := by
 have e : ({ op with fresh := [] } : Bt.Op) = op := by
  cases op
  simp only at hop
  rw [hop]
 obtain ⟨hfit, hws⟩ := hc.fits h.ix
 have hlen := h.ix.len
 have hgx : 0 < x := by have := hx.hPx; have := hx.hgP; omega
 rcases hR with ⟨hn, rfl⟩ | ⟨o1, hn1, ho1, ho2, hnx, hn2, rfl⟩
 ·have hs := HS [] ws o (.inl rfl) (by rw [e]; exact hn)
  rw [e] at hs
  have HN : Hid (∀ w', PgRow w' (.slice (some ⟨P, 0, none⟩) ps.length cap) ps → NoneAt w' → Calls Tryz.prog 27 #[.agg (Z0d op (.slice none 0 0)), .slice (some ⟨P, 0, none⟩) ps.length cap] w' (Z1S ws o w')) :=
   hid (fun w' h1 h2 => hs none (some ⟨P, 0, none⟩) 0 0 ps.length cap w' (by rw [hop]; exact nilRow w') h1 h2)
  by_cases h0 : o.code = 0
  ·exact Zag x P cap ps nx' vk vt vg op ws o w hx.blk hx.pg hx.none hx.hPx hx.hgP hgx h0 hfit (by omega) hws HN
  ·obtain ⟨rfl, h18, _⟩ : ws = [] ∧ o.code ≠ 18 ∧ nx' = nx' := by
     rcases hoc with h1 | h1
     ·exact absurd h1 h0
     ·exact h1
   exact Zbn x P cap ps nx' vk vt vg op [] o w hx.blk hx.pg hx.none hx.hPx hx.hgP hgx h0 h18 rfl (by omega) HN
 ·have h0 : o.code = 0 := by
    rcases hoc with h1 | h1
    ·exact h1
    ·have := h1.2.2; omega
  have hs1 := HS [] [] o1 (.inl rfl) (by rw [e]; exact hn1)
  rw [e] at hs1
  have hs2 := HS [Bt.pg ps nx] ws o (.inr ⟨rfl, hnx⟩) hn2
  have hb := h.bound
  obtain ⟨f1, f2, f3, f4⟩ := h.ix.at (l := nx) (by omega) hnx
  refine Zah x P cap ps nx vk vt vg op ws o w hx.blk hx.pg hx.none hx.hPx hx.hgP hgx h0 hfit (by omega) hws o1 ho1 ho2 (nx - 96).toNat (Bt.pg ps nx) (by omega) hnx f4 (hid (fun w' h1 h2 => ?_)) (hid (fun w' F c h1 h2 h3 => ?_))
  ·exact hs1 none (some ⟨P, 0, none⟩) 0 0 ps.length cap w' (by rw [hop]; exact nilRow w') h1 h2
  ·exact hs2 (some ⟨F, 0, none⟩) (some ⟨P, 0, none⟩) 1 c ps.length cap w' h1 h2 h3
def Gone (x G : Nat) (vt vg : Value) (w : World) : Prop := (∃ gs : List Bt.Ptr, w.ownsRow (x + 1) 27 2 vg gs.length (Z0b gs) ∧ gs.length ≤ G) ∧ ∀ c, vt.ownBlock = some c → vg.ownBlock ≠ some c
theorem Gone.two {x G P : Nat} {vt vg : Value} {w w' : World} (h : Gone x G vt vg w) (ho : OverTwo x P w w') (hP : P < x) : Gone x G vt vg w' := by
 obtain ⟨⟨gs, h1, h2⟩, h3⟩ := h
 exact ⟨⟨gs, Z2o h1 ho (by omega) (by omega), h2⟩, h3⟩
theorem Gone.below {x G : Nat} {vt vg : Value} {w w' : World} (h : Gone x G vt vg w) (ho : Below w.heap.size w w') : Gone x G vt vg w' := by
 obtain ⟨⟨gs, h1, h2⟩, h3⟩ := h
 exact ⟨⟨gs, own_below h1 ho, h2⟩, h3⟩
theorem Gone.over {x G : Nat} {vt vg : Value} {w w' : World} (h : Gone x G vt vg w) (ho : Over x w w') : Gone x G vt vg w' := by
 obtain ⟨⟨gs, h1, h2⟩, h3⟩ := h
 exact ⟨⟨gs, Z0H h1 ho (by omega), h2⟩, h3⟩
theorem Gone.mono {x G G' : Nat} {vt vg : Value} {w : World} (h : Gone x G vt vg w) (hG : G ≤ G') : Gone x G' vt vg w := by
 obtain ⟨⟨gs, h1, h2⟩, h3⟩ := h
 exact ⟨⟨gs, h1, by omega⟩, h3⟩
theorem Gone.newTo {x G : Nat} {vt vt2 vg : Value} {w w' : World} (h : Gone x G vt vg w) (h2 : Gone x G vt vg w') (hn : ∀ c, vt2.ownBlock = some c → w.heap.size ≤ c) : Gone x G vt2 vg w' := by
 obtain ⟨⟨gs, h1, _⟩, _⟩ := h
 exact ⟨h2.1, fun c hc e => by have := own_lt' h1 c e; have := hn c hc; omega⟩
def IxG (x P cap G : Nat) (pages : List Bt.Page) (next : Int) (keys : List Int) (tos : List Bt.Ptr) (w : World) : Prop := ∃ vk vt vg, IxOk x P cap pages next keys tos vk vt vg w ∧ Gone x G vt vg w
theorem IxG.over {x P cap G : Nat} {pages : List Bt.Page} {next : Int} {keys : List Int} {tos : List Bt.Ptr} {w w' : World} (h : IxG x P cap G pages next keys tos w) (hb : Below w.heap.size w w') : IxG x P cap G pages next keys tos w' := by
 obtain ⟨vk, vt, vg, h, hg⟩ := h
 exact ⟨vk, vt, vg, h.over hb, hg.below hb⟩
def Z2x (x P cap G : Nat) (pages : List Bt.Page) (next : Int) (keys : List Int) (tos : List Bt.Ptr) (o : Bt.Out) (w : World) (e : Ending) (w' : World) : Prop :=
 ∃ ve vc, e = .returned (.tuple #[.agg (Z0n o ve vc), .bool true]) ∧ IxG x P cap G pages next keys tos w' ∧ OverTwo x P w w' ∧
  w'.ownsRow w.heap.size 69 3 ve o.entries.length (Z04 o.entries) ∧ w'.ownsRow w.heap.size 3 1 vc o.check.length (intCells o.check)
theorem Z5X {x P cap G : Nat} {ps : List Bt.Page} {nx nx' : Int} {es : List Bt.Entry} {T : List (List Bt.Cell)} (h : Bt.Inv ps nx es T) (op : Bt.Op) (hop : op.fresh = []) {ws : List Bt.Page} {o : Bt.Out}
 (hR : Bt.Z6I op ps nx ws o nx') (hc : Bt.Commits ps ws) (hoc : o.code = 0 ∨ (ws = [] ∧ o.code ≠ 18 ∧ nx' = nx))
 (HS : ∀ (fr : List Bt.Page) (ws : List Bt.Page) (o : Bt.Out), Z1R { op with fresh := fr } ps nx → Bt.next { op with fresh := fr } ps = ⟨[], ws, o, true⟩ → ∀ fa ka fn fc kn kc w, Steps { op with fresh := fr } ps fa ka fn fc kn kc ws o w)
 {keys : List Int} {tos : List Bt.Ptr} (w : World) (hx : IxG x P cap G ps nx keys tos w) :
 Calls Tryz.prog 31 #[.pointer (some ⟨x, 0, none⟩), .agg (Z0d op (.slice none 0 0))] w (Z2x x P cap G (Bt.Z0J ps ws) nx' keys tos o w) := by
 obtain ⟨vk, vt, vg, hx, hg⟩ := hx
 refine (ZbR h vk vt vg op hop hR hc hoc HS w hx).mono ?_
 rintro e w' ⟨ve, vc, he, hb, hpg, ho, hn, hre, hrc⟩
 have hP := hx.hPx
 exact ⟨ve, vc, he, ⟨vk, vt, vg, ⟨hb, hpg, Z2o hx.keys ho (by omega) (by omega), Z2o hx.tos ho (by omega) (by omega), hn, hx.hPx, hx.hgP⟩, hg.two ho hP⟩, ho, hre, hrc⟩
def pick (n k : Int) : Int := n % k
theorem sG32 {P : Prop} (h : P := by
 have b1 : decide (k < 1) = false := by simp; omega
 have b2 : (k == 0) = false := by simp; omega
 have h1 := Int.tmod_lt_of_pos n (show 0 < k by omega)
 have h2 := Int.lt_tmod_of_pos n (show 0 < k by omega)
 have w1 : wrap64 (n.tmod k + k) = n.tmod k + k := by unfold wrap64; omega
 have w2 : wrap64 (n.tmod k) = n.tmod k := by unfold wrap64; omega
 have e1 : (n.tmod k + k).tmod k = n % k := by
  rw [Int.tmod_eq_emod_of_nonneg (by omega), Int.add_emod_right, Z4F]
 have h3 := Int.emod_lt_of_pos n (show 0 < k by omega)
 have h4 := Int.emod_nonneg n (show k ≠ 0 by omega)
 go_enter Tryz.func13, Tryz.ntmps13
 go_wp2
 go_ret
 refine ⟨Z4L ?_, rfl⟩
 unfold pick
 first | exact e1 | (rw [e1]; done) | (simp [*]; done)) : P := h
theorem Z1B (n k : Int) (hn : -9223372036854775808 ≤ n ∧ n ≤ 9223372036854775807) (hk : 1 ≤ k ∧ k ≤ 1000000) (w : World) : Calls Tryz.prog 13 #[.int .i64 n, .int .i64 k] w fun e w' => e = .returned (.int .i64 (pick n k)) ∧ w = w' := by
 exact sG32
end Go.Proofs.YtjmpekanlmepmaaGreatDoor
