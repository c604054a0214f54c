/- Package btree: a separator is posted: it is stored. (Printed by wip/post_gen.py.) -/
import Derived.Test.YtjmpekanlmepmaaGreatDoorBB37
set_option linter.all false
set_option maxRecDepth 20000
set_option maxHeartbeats 8000000
open Go.Lib (hid)
namespace Go.Proofs.YtjmpekanlmepmaaGreatDoor
open Go.RowKit
theorem Z6w (A : Nat → Prop) (op : Bt.Op) (known : List Bt.Page) (vf vk : Value) (s : Bt.St) (b : Nat) (page : Bt.Page) (n : Bt.Node) (es : List Bt.Entry) (v : Value) (hv : ∃ a0 n0 c0, v = .slice a0 n0 c0) (g m cap : Nat) (w : World) (h : IsRun A op known vf vk s b w) (hA : ∀ c, A c → c < w.heap.size)
 (hbg : b < g) (hm : m = es.length) (hcap : m ≤ cap) (he : EntRow w (.slice (some ⟨g, 0, none⟩) m cap) es) (hp : page.Ok) (hn : 0 ≤ n.level ∧ n.level ≤ 8) (hnh : 0 ≤ n.high ∧ n.high < 4294967296) (h6 : es.length ≤ 6)
 (N c0b : Nat) (ln : Int) (hfr : op.fresh = [] ∨ ∃ f q, op.fresh = [f] ∧ f.Ok ∧ Bt.allocate f 4 0 = (q, 0) ∧ q.line ≠ page.line ∧ q.line ≠ ln) (hAN : ∀ c, A c → c < N) (hNc : N ≤ c0b) (hNw : N ≤ w.heap.size) (hbc : b < c0b) (hgc : c0b ≠ g)
 (hq : w.ownsRow (b + 1) 3 1 (.slice (some ⟨c0b, 0, none⟩) 1 1) 1 (intCells [ln])) :
 Calls Tryz.prog 86 #[.pointer (some ⟨b, 0, none⟩), .agg (Z0g page n v), .slice (some ⟨g, 0, none⟩) m cap, .slice (some ⟨c0b, 0, none⟩) 1 1] w
  (fun e w' => e = .returned (.tuple #[]) ∧ IsRun (fun c => A c ∨ N ≤ c) op known vf vk (s.store op page n es [ln]) b w' ∧ ∃ k, N ≤ k ∧ OverTwo b k w w') := by
 obtain ⟨a0, n0, c0, rfl⟩ := hv
 by_cases h5 : es.length ≤ 5
 ·subst hm
  exact Z9b A op known vf vk s b page n es a0 n0 c0 g cap w h hA N c0b ln hAN hNc hNw hbc hgc hq hp ⟨⟨hn.1, by show n.level ≤ 255; omega⟩, hnh, h5⟩ he h5
 ·obtain rfl : m = 6 := by omega
  rcases hfr with hf | ⟨f, q, hf, hfo, hfa, hne, hne2⟩
  ·exact Z7k A op known vf vk s b page n es a0 n0 c0 g cap w h hA N c0b ln hAN hNc hNw hbc hgc hq (by omega) hf
  ·exact Z7j A op known vf vk s b page n es a0 n0 c0 g cap w h hA N c0b ln hAN hNc hNw hbc hgc hq hp hn hnh he (by omega) hcap hbg f q [] hf hfo hfa hne hne2
theorem Z5c : 145 ≠ 69 := by decide
theorem Z4w {w : World} {base n size m cap g X : Nat} {e t : TypeId} {xs : List Value} {cs : Array Value} (h : w.ownsRow base e size (.slice (some ⟨g, 0, none⟩) m cap) n xs) (hb : Blk w X t cs) (he : t ≠ e) : g ≠ X := by
 rintro rfl
 rcases h.2 with ⟨h, _⟩ | ⟨g1, c1, cur1, hv1, _, hh1, _⟩
 ·cases h
 simp only [Value.slice.injEq, Option.some.injEq, Addr.mk.injEq, and_true, true_and] at hv1
 obtain ⟨rfl, _⟩ := hv1
 have hb' : w.heap[g]? = some (.cells cs t (0, 0)) := hb
 rw [hh1] at hb'
 injection hb' with h3
 injection h3 with h4 h5
 exact he h5.symm
theorem Z8R {w : World} {base n size m cap g : Nat} {e : TypeId} {xs : List Value} (h : w.ownsRow base e size (.slice (some ⟨g, 0, none⟩) m cap) n xs) : ∀ i, w.frozen? ⟨g, i, none⟩ = false := by
 rcases h.2 with ⟨h, _⟩ | ⟨g1, c1, cur1, hv1, _, hh1, _⟩
 ·cases h
 simp only [Value.slice.injEq, Option.some.injEq, Addr.mk.injEq, and_true, true_and] at hv1
 obtain ⟨rfl, _⟩ := hv1
 exact fun i => frozen_of_row w g i cur1 _ hh1
theorem Z4J (es : List Bt.Entry) (c : Nat) (e : Bt.Entry) (h : c < es.length) : (Bt.Z0h es c e)[c + 1]? = some es[c] := by
 unfold Bt.Z0h
 rw [List.getElem?_append_right (by simp; omega)]
 have : c + 1 - (es.take c).length = 1 := by simp; omega
 rw [this]
 simp [List.getElem?_drop, List.getElem?_eq_getElem h]
theorem Z67 (base n n1 gE i : Nat) (v : Value) (es : List Bt.Entry) (e : Bt.Entry) (w : World) (hown : w.ownsRow base 69 3 v n (Z04 es)) (hl : es.length = n) (hin : i ≤ n) (hn : n ≤ 1000) (hn1 : n1 = n + 1) (hbase : base ≤ w.heap.size) (hgE : v.ownBlock ≠ some gE)
 (tE : TypeId) (hE : Blk w gE tE e.cells) :
 Calls Tryz.prog 87 #[v, .int .i64 i, .slice (some ⟨gE, 0, none⟩) 1 1] w (fun r w' => ∃ g' cap', r = .returned (.slice (some ⟨g', 0, none⟩) n1 cap') ∧ w'.ownsRow base 69 3 (.slice (some ⟨g', 0, none⟩) n1 cap') n1 (Z04 (Bt.Z0h es i e)) ∧ w.grownBy w' v.ownBlock) := by
 subst hn1
 exact Z6C base n gE i v es e w hown hl hin hn hbase hgE tE hE
theorem Z2W {w : World} {g i j : Nat} (v : Value) (hne : i ≠ j) : (w.setCell ⟨g, i, none⟩ v).cell? ⟨g, j, none⟩ = w.cell? ⟨g, j, none⟩ := World.cell?_setCell_other w _ _ v (by intro e; injection e with e1 e2 e3; exact hne e2)
theorem Z6e {w : World} {g i : Nat} {u : Value} (v : Value) (h : w.cell? ⟨g, i, none⟩ = some u) : (w.setCell ⟨g, i, none⟩ v).cell? ⟨g, i, none⟩ = some v := World.cell?_setCell_same w _ v h
theorem EntRow.setTo {w : World} {base g cap n : Nat} {es : List Bt.Entry} (h : w.ownsRow base 69 3 (.slice (some ⟨g, 0, none⟩) n cap) n (Z04 es)) (hl : es.length = n) (hok : ∀ e ∈ es, e.Ok) (i : Nat) (hi : i < n) (p : Bt.Ptr) :
 EntRow ((w.setCell ⟨g, i * 3 + 1, none⟩ (.int .i64 p.line)).setCell ⟨g, i * 3 + 1 + 1, none⟩ (.int .i64 p.gen)) (.slice (some ⟨g, 0, none⟩) n cap) (Bt.setTo es i p) := by
 have hlt := (Z0X h).2
 have hcells := Z0i h
 have hlen : (Bt.setTo es i p).length = n := by simp [Bt.setTo, hl]
 have hmax : n ≤ maxLen := Nat.le_trans (Z3o h).1 (Z3o h).2
 refine ⟨fun e he => ?_, by rw [hlen]; exact hmax, .inr ⟨g, 0, cap, by rw [hlen], by simpa [World.setCell] using hlt, fun k e hk j u hu => ?_⟩⟩
 ·obtain ⟨k, hk⟩ := List.mem_iff_getElem?.1 he
  simp only [Bt.setTo, List.getElem?_modify] at hk
  cases hek : es[k]? with
  | none => rw [hek] at hk; simp at hk
  | some e0 =>
    rw [hek] at hk
    have h0 := hok e0 (List.mem_iff_getElem?.2 ⟨k, hek⟩)
    by_cases hki : i = k
    ·have hk' : e0.withTo p = e := by simpa [hki] using hk
     subst hk'; exact h0
    ·have hk' : e0 = e := by simpa [hki] using hk
     subst hk'; exact h0
 ·have hj : j < 3 := by
    have := (Array.getElem?_eq_some_iff.1 hu).1
    simpa [Bt.Entry.cells] using this
  simp only [Bt.setTo, List.getElem?_modify] at hk
  cases hek : es[k]? with
  | none => rw [hek] at hk; simp at hk
  | some e0 =>
    rw [hek] at hk
    have hin : ∀ j v, w.cell? ⟨g, j, none⟩ = some v → ∃ v', w.cell? ⟨g, j, none⟩ = some v' := fun j v h => ⟨v, h⟩
    have hki : k < n := by rw [← hl]; exact (List.getElem?_eq_some_iff.1 hek).1
    have q0 := hcells (k * 3 + 0) _ (Z0a es k e0 hek 0 _ rfl)
    have q1 := hcells (k * 3 + 1) _ (Z0a es k e0 hek 1 _ rfl)
    have q2 := hcells (k * 3 + 2) _ (Z0a es k e0 hek 2 _ rfl)
    rw [Nat.zero_add]
    by_cases hki2 : i = k
    ·subst hki2
     have hk' : e0.withTo p = e := by simpa using hk
     subst hk'
     have hj3 : j = 0 ∨ j = 1 ∨ j = 2 := by omega
     rcases hj3 with rfl | rfl | rfl
     ·rw [Z2W _ (by omega), Z2W _ (by omega)]
      simp [Bt.Entry.cells] at hu
      subst hu
      exact q0
     ·rw [Z2W _ (by omega), Z6e _ q1]
      simp [Bt.Entry.cells] at hu
      subst hu
      rfl
     ·have q2' : (w.setCell ⟨g, i * 3 + 1, none⟩ (.int .i64 p.line)).cell? ⟨g, i * 3 + 1 + 1, none⟩ = some (.int .i64 e0.to.gen) := by
        rw [Z2W _ (by omega)]
        exact q2
      rw [Z6e _ q2']
      simp [Bt.Entry.cells] at hu
      subst hu
      rfl
    ·have hk' : e0 = e := by simpa [hki2] using hk
     subst hk'
     rw [Z2W _ (by omega), Z2W _ (by omega)]
     exact hcells _ _ (Z0a es k e0 hek j u hu)
theorem sG16 {P : Prop} (h : P := by
 go_wp2_with fail
 go_at_call 86; refine (Z6w A op known vf vk t b pp m es (.slice (some ⟨g, 0, none⟩) m.entries.length cap) ⟨_, _, _, rfl⟩ g3 n1 cap3 _ ?hrun ?hlow (by omega) (by rw [HES.out.2.1]; exact HN1.out) (Z3o HW6.out).1 ?he HPP.out HRM.out.1 HRM.out.2.1 (by rw [HES.out.2.1]; have := hm5; omega) w.heap.size w6.heap.size xp.line HFR.out hA (by omega) (by simp; omega) (by omega) (by omega) ?hq).mono ?_
 case hrun => exact ((HR6.out.cell (by omega) (fun h1 => by have := hA _ h1; omega) _ _).cell (by omega) (fun h1 => by have := hA _ h1; omega) _ _).alloc _
 case hlow => exact fun c hc => by have := hA _ hc; simp; omega
 case he =>
  rw [HES.out.1, ← HC1.out]
  have h9 := EntRow.setTo HW6.out (by rw [HES.out.2.2.1, HN1.out]) HES.out.2.2.2.1 (c + 1) (by have := HN1.out; omega) xn.right
  rw [← HC1.out] at h9
  exact h9.below (Z06 (Below.refl _ _) _)
 case hq => exact own_line1' (by simp [World.setCell]) (by omega)
 rintro e7 w7 ⟨rfl, hrun7, k7, hk7, ho7⟩
 have HR7 := hid hrun7
 have HO7 := hid (And.intro hk7 ho7)
 clear hrun7 ho7
 go_wp2_with fail
 refine bodyPost_end (results_none rfl _ _ _) rfl ⟨rfl, ?_, Over.two (Over.alloc (Over.own (Over.own HO6.out (p := ⟨g3, c1n * 3 + 1, none⟩) hg3a _) (p := ⟨g3, c1n * 3 + 1 + 1, none⟩) hg3a _) _) HO7.out.2 HO7.out.1⟩
 rw [HX.out]
 exact HR7.out) : P := h
theorem Zan (A : Nat → Prop) (op : Bt.Op) (known : List Bt.Page) (vf vk : Value) (s : Bt.St) (b : Nat) (t : Bt.St) (pp : Bt.Page) (m : Bt.Node) (w : World) (h : IsRun A op known vf vk s b w) (hA : ∀ c, A c → c < w.heap.size) (hroot : s.root ≠ Bt.nilP)
 (hh0 : 0 ≤ s.out.hops ∧ s.out.hops ≤ 1000) (hlr : 0 ≤ op.level ∧ op.level < 8) (hd : Bt.Dives known (op.level + 1) op.key s t (.at_ pp m)) (hcl0 : Bt.child m.entries op.key < m.entries.length) (xp : Bt.Page) (xn : Bt.Node) (hl : t.look known (m.entries.getD (Bt.child m.entries op.key) default).to true = (t, some (xp, xn))) (hxl : xn.level = op.level) (hxd : xn.dead = false) (hxh : xn.high < (m.entries.getD (Bt.child m.entries op.key) default).key) (hxr : 0 ≤ xn.high ∧ xn.high < 4294967296) (hfr : op.fresh = [] ∨ ∃ f q, op.fresh = [f] ∧ f.Ok ∧ Bt.allocate f 4 0 = (q, 0) ∧ q.line ≠ pp.line ∧ q.line ≠ xp.line) (hc0 : Bt.child m.entries op.key = 0) :
 Calls Tryz.prog 55 #[.pointer (some ⟨b, 0, none⟩)] w (Z0y A op known vf vk (s.post op known) b (.tuple #[]) w) := by
 obtain ⟨hkn2, hx1, hx2, hx3⟩ := Dives.ends hd
 have hppok : pp.Ok := h.knownRow.ok pp hkn2.1
 have hvm := (Z0r hkn2.2.2).1
 have HAM := hid (Z0Z m hvm)
 have hm5 := HAM.out.2
 have HPP := hid hppok
 have HEM : Hid (∀ e ∈ m.entries, e.Ok) := hid (by rw [hkn2.2.1]; exact Z1j pp hppok)
 obtain ⟨c, hcm⟩ : ∃ c, c = Bt.child m.entries op.key := ⟨_, rfl⟩
 have hcl : c < m.entries.length := by omega
 obtain ⟨ek, hek⟩ : ∃ ek, m.entries[c].key = ek := ⟨_, rfl⟩
 obtain ⟨q, hqq⟩ : ∃ q, m.entries[c].to = q := ⟨_, rfl⟩
 have hgd : m.entries.getD c default = m.entries[c] := by rw [List.getD_eq_getElem?_getD, List.getElem?_eq_getElem hcl]; rfl
 rw [← hcm, hgd, hqq] at hl
 obtain ⟨es, hes⟩ : ∃ es, es = Bt.setTo (Bt.Z0h m.entries c ⟨xn.high, q⟩) (c + 1) xn.right := ⟨_, rfl⟩
 rw [← hcm] at hc0
 have HX : Hid (s.post op known = t.store op pp m es [xp.line]) := hid (by
  unfold Bt.St.post
  rw [if_neg hroot, hd.descend]
  simp only [← hcm, hgd, hqq, hl]
  rw [if_neg (by simp [hxl]), if_neg (by simp [hxd]), if_neg (by rw [← hcm, hgd] at hxh; omega), if_neg (by rintro ⟨h1, _⟩; omega), ← hes])
 rw [← hcm, hgd, hek] at hxh
 have bh1 : decide (ek ≤ xn.high) = false := by simp; omega
 have bg : decide ((0 : Int) < (c : Int)) = false := by simp; omega
 have bg2 : decide (0 < c) = false := by simp; omega
 have hel0 : (Bt.Z0h m.entries c ⟨xn.high, q⟩).length = m.entries.length + 1 := by simp [Bt.Z0h]; omega
 have hek0 : ∀ e ∈ Bt.Z0h m.entries c ⟨xn.high, q⟩, e.Ok := by
  intro e he
  simp only [Bt.Z0h, List.mem_append, List.mem_cons] at he
  rcases he with h1 | rfl | h1
  ·exact HEM.out e (List.mem_of_mem_take h1)
  ·exact hxr
  ·exact HEM.out e (List.mem_of_mem_drop h1)
 have hget0 : (Bt.Z0h m.entries c ⟨xn.high, q⟩)[c + 1]? = some m.entries[c] := Z4J m.entries c _ hcl
 have hlen : es.length = m.entries.length + 1 := by rw [hes]; simp [Bt.setTo, hel0]
 have HES := hid (And.intro hes (And.intro hlen (And.intro hel0 (And.intro hek0 hget0))))
 have hrm := Z3p hppok hkn2.2.1 hvm
 have HRM := hid hrm
 have HFR := hid hfr
 obtain ⟨c1n, hc1n⟩ : ∃ c1n, c1n = c + 1 := ⟨_, rfl⟩
 have hw1 : IntKind.i64.wrap ((c : Int) + 1) = (c1n : Int) := by rw [IntKind.wrap_i64]; omega
 obtain ⟨n1, hn1⟩ : ∃ n1, n1 = m.entries.length + 1 := ⟨_, rfl⟩
 have hj1 : (0 : Int) ≤ c1n := by omega
 have hj2 : (c1n : Int) < n1 := by omega
 have HN1 := hid hn1
 have HC1 := hid hc1n
 clear hn1 hc1n
 have HL := hid hl
 have HCM := hid hcm
 have HEK := hid (And.intro hek hqq)
 have bl1 : (xn.level != op.level) = false := by simp [hxl]
 have hi1 : (0 : Int) ≤ c := by omega
 have hi2 : (c : Int) < m.entries.length := by omega
 have hwl : IntKind.i64.wrap (op.level + 1) = op.level + 1 := by rw [IntKind.wrap_i64]; omega
 have HR := hid h
 have HD := hid hd
 have hlt := h.lt
 have hlt1 : b < w.heap.size + 1 := by omega
 obtain ⟨vn, vw, ve, vc, hc⟩ := h.cells
 have k1 : w.cell? ⟨b, 1, none⟩ = some (.int .u32 op.key) := hc 1
 have k5 : w.cell? ⟨b, 5, none⟩ = some (.int .i64 op.level) := hc 5
 have k34 : w.cell? ⟨b, 34, none⟩ = some (.int .i64 s.root.line) := hc 34
 have k35 : w.cell? ⟨b, 35, none⟩ = some (.int .i64 s.root.gen) := hc 35
 have hp : peq s.root.line s.root.gen 0 0 = false := by rw [Z0j]; simp [hroot]
 have eq := eql_ptr
 have hn : NoneAt w := by obtain ⟨vn, vw, ve, vc, hr, _⟩ := h; exact hr.none
 obtain ⟨g0, g1, gl⟩ := hn
 have gl1 : 0 < w.heap.size + 1 := by omega
 clear h hc hroot hd hlr hcl0 hkn2 hppok hvm hx1 hx2 hx3 hcm hek hqq hgd hl hxl hxh hes hlen hel0 hek0 hget0 hrm hfr hxr hc0
 have tg89 := trivial
 have tg91 := trivial
 have tg92 := trivial
 have tg94 := trivial
 exact wG14
theorem Zam (A : Nat → Prop) (op : Bt.Op) (known : List Bt.Page) (vf vk : Value) (s : Bt.St) (b : Nat) (t : Bt.St) (pp : Bt.Page) (m : Bt.Node) (w : World) (h : IsRun A op known vf vk s b w) (hA : ∀ c, A c → c < w.heap.size) (hroot : s.root ≠ Bt.nilP)
 (hh0 : 0 ≤ s.out.hops ∧ s.out.hops ≤ 1000) (hlr : 0 ≤ op.level ∧ op.level < 8) (hd : Bt.Dives known (op.level + 1) op.key s t (.at_ pp m)) (hcl0 : Bt.child m.entries op.key < m.entries.length) (xp : Bt.Page) (xn : Bt.Node) (hl : t.look known (m.entries.getD (Bt.child m.entries op.key) default).to true = (t, some (xp, xn))) (hxl : xn.level = op.level) (hxd : xn.dead = false) (hxh : xn.high < (m.entries.getD (Bt.child m.entries op.key) default).key) (hxr : 0 ≤ xn.high ∧ xn.high < 4294967296) (hfr : op.fresh = [] ∨ ∃ f q, op.fresh = [f] ∧ f.Ok ∧ Bt.allocate f 4 0 = (q, 0) ∧ q.line ≠ pp.line ∧ q.line ≠ xp.line) (hcp : 0 < Bt.child m.entries op.key) (hpk : (m.entries.getD (Bt.child m.entries op.key - 1) default).key < xn.high) :
 Calls Tryz.prog 55 #[.pointer (some ⟨b, 0, none⟩)] w (Z0y A op known vf vk (s.post op known) b (.tuple #[]) w) := by
 obtain ⟨hkn2, hx1, hx2, hx3⟩ := Dives.ends hd
 have hppok : pp.Ok := h.knownRow.ok pp hkn2.1
 have hvm := (Z0r hkn2.2.2).1
 have HAM := hid (Z0Z m hvm)
 have hm5 := HAM.out.2
 have HPP := hid hppok
 have HEM : Hid (∀ e ∈ m.entries, e.Ok) := hid (by rw [hkn2.2.1]; exact Z1j pp hppok)
 obtain ⟨c, hcm⟩ : ∃ c, c = Bt.child m.entries op.key := ⟨_, rfl⟩
 have hcl : c < m.entries.length := by omega
 obtain ⟨ek, hek⟩ : ∃ ek, m.entries[c].key = ek := ⟨_, rfl⟩
 obtain ⟨q, hqq⟩ : ∃ q, m.entries[c].to = q := ⟨_, rfl⟩
 have hgd : m.entries.getD c default = m.entries[c] := by rw [List.getD_eq_getElem?_getD, List.getElem?_eq_getElem hcl]; rfl
 rw [← hcm, hgd, hqq] at hl
 obtain ⟨es, hes⟩ : ∃ es, es = Bt.setTo (Bt.Z0h m.entries c ⟨xn.high, q⟩) (c + 1) xn.right := ⟨_, rfl⟩
 rw [← hcm] at hcp hpk
 have HX : Hid (s.post op known = t.store op pp m es [xp.line]) := hid (by
  unfold Bt.St.post
  rw [if_neg hroot, hd.descend]
  simp only [← hcm, hgd, hqq, hl]
  rw [if_neg (by simp [hxl]), if_neg (by simp [hxd]), if_neg (by rw [← hcm, hgd] at hxh; omega), if_neg (by rintro ⟨_, h1⟩; omega), ← hes])
 rw [← hcm, hgd, hek] at hxh
 have bh1 : decide (ek ≤ xn.high) = false := by simp; omega
 have bg : decide ((0 : Int) < (c : Int)) = true := by simp; omega
 have bg2 : decide (0 < c) = true := by simp; omega
 obtain ⟨cm, hcm1⟩ : ∃ cm, c = cm + 1 := ⟨c - 1, by omega⟩
 have hcmm : cm < m.entries.length := by omega
 obtain ⟨pk, hpkk⟩ : ∃ pk, m.entries[cm].key = pk := ⟨_, rfl⟩
 have hgd1 : m.entries.getD (c - 1) default = m.entries[cm] := by rw [hcm1, Nat.add_sub_cancel, List.getD_eq_getElem?_getD, List.getElem?_eq_getElem hcmm]; rfl
 rw [hgd1, hpkk] at hpk
 have bp : decide (xn.high ≤ pk) = false := by simp; omega
 have hwm : IntKind.i64.wrap ((c : Int) - 1) = (cm : Int) := by rw [IntKind.wrap_i64]; omega
 have hm1 : (0 : Int) ≤ cm := by omega
 have hm2 : (cm : Int) < m.entries.length := by omega
 have HPK := hid hpkk
 have hel0 : (Bt.Z0h m.entries c ⟨xn.high, q⟩).length = m.entries.length + 1 := by simp [Bt.Z0h]; omega
 have hek0 : ∀ e ∈ Bt.Z0h m.entries c ⟨xn.high, q⟩, e.Ok := by
  intro e he
  simp only [Bt.Z0h, List.mem_append, List.mem_cons] at he
  rcases he with h1 | rfl | h1
  ·exact HEM.out e (List.mem_of_mem_take h1)
  ·exact hxr
  ·exact HEM.out e (List.mem_of_mem_drop h1)
 have hget0 : (Bt.Z0h m.entries c ⟨xn.high, q⟩)[c + 1]? = some m.entries[c] := Z4J m.entries c _ hcl
 have hlen : es.length = m.entries.length + 1 := by rw [hes]; simp [Bt.setTo, hel0]
 have HES := hid (And.intro hes (And.intro hlen (And.intro hel0 (And.intro hek0 hget0))))
 have hrm := Z3p hppok hkn2.2.1 hvm
 have HRM := hid hrm
 have HFR := hid hfr
 obtain ⟨c1n, hc1n⟩ : ∃ c1n, c1n = c + 1 := ⟨_, rfl⟩
 have hw1 : IntKind.i64.wrap ((c : Int) + 1) = (c1n : Int) := by rw [IntKind.wrap_i64]; omega
 obtain ⟨n1, hn1⟩ : ∃ n1, n1 = m.entries.length + 1 := ⟨_, rfl⟩
 have hj1 : (0 : Int) ≤ c1n := by omega
 have hj2 : (c1n : Int) < n1 := by omega
 have HN1 := hid hn1
 have HC1 := hid hc1n
 clear hn1 hc1n
 have HL := hid hl
 have HCM := hid hcm
 have HEK := hid (And.intro hek hqq)
 have bl1 : (xn.level != op.level) = false := by simp [hxl]
 have hi1 : (0 : Int) ≤ c := by omega
 have hi2 : (c : Int) < m.entries.length := by omega
 have hwl : IntKind.i64.wrap (op.level + 1) = op.level + 1 := by rw [IntKind.wrap_i64]; omega
 have HR := hid h
 have HD := hid hd
 have hlt := h.lt
 have hlt1 : b < w.heap.size + 1 := by omega
 obtain ⟨vn, vw, ve, vc, hc⟩ := h.cells
 have k1 : w.cell? ⟨b, 1, none⟩ = some (.int .u32 op.key) := hc 1
 have k5 : w.cell? ⟨b, 5, none⟩ = some (.int .i64 op.level) := hc 5
 have k34 : w.cell? ⟨b, 34, none⟩ = some (.int .i64 s.root.line) := hc 34
 have k35 : w.cell? ⟨b, 35, none⟩ = some (.int .i64 s.root.gen) := hc 35
 have hp : peq s.root.line s.root.gen 0 0 = false := by rw [Z0j]; simp [hroot]
 have eq := eql_ptr
 have hn : NoneAt w := by obtain ⟨vn, vw, ve, vc, hr, _⟩ := h; exact hr.none
 obtain ⟨g0, g1, gl⟩ := hn
 have gl1 : 0 < w.heap.size + 1 := by omega
 clear h hc hroot hd hlr hcl0 hkn2 hppok hvm hx1 hx2 hx3 hcm hek hqq hgd hl hxl hxh hes hlen hel0 hek0 hget0 hrm hfr hxr hcp hpk hcm1 hgd1 hpkk
 have tg89 := trivial
 have tg91 := trivial
 have tg95 := trivial
 exact wG14
end Go.Proofs.YtjmpekanlmepmaaGreatDoor
