/- Package btree: a separator is posted: there is no such level; it is there. (Printed by wip/post_gen.py.) -/
import Derived.Test.YtjmpekanlmepmaaGreatDoorBB36
import Derived.Test.YtjmpekanlmepmaaGreatDoorBB26
set_option linter.all false
set_option maxRecDepth 20000
set_option maxHeartbeats 8000000
open Go.Lib (hid)
namespace Go.Proofs.YtjmpekanlmepmaaGreatDoor
open Go.RowKit
structure SteadyOp (b : Nat) (w1 wx : World) : Prop where
 rule : (∀ c o, c < w1.heap.size → (c < b ∨ b < c) → wx.cell? ⟨c, o, none⟩ = w1.cell? ⟨c, o, none⟩) ∧ wx.cell? ⟨b, 1, none⟩ = w1.cell? ⟨b, 1, none⟩ ∧ wx.cell? ⟨b, 5, none⟩ = w1.cell? ⟨b, 5, none⟩
theorem SteadyOp.of {b : Nat} {w1 wx : World} (hb : b < w1.heap.size) (h : Below w1.heap.size w1 wx) : SteadyOp b w1 wx := ⟨fun c o hc _ => h.cell (p := ⟨c, o, none⟩) hc, h.cell (p := ⟨b, 1, none⟩) hb, h.cell (p := ⟨b, 5, none⟩) hb⟩
theorem SteadyOp.run {A A' : Nat → Prop} {op : Bt.Op} {known : List Bt.Page} {vf vk : Value} {s t : Bt.St} {b : Nat} {w1 wx : World} (h : Over b w1 wx) (hr : IsRun A op known vf vk s b w1) (hr2 : IsRun A' op known vf vk t b wx) : SteadyOp b w1 wx := by
 obtain ⟨vn, vw, ve, vc, hc⟩ := hr.cells
 obtain ⟨un, uw, ue, uc, hc2⟩ := hr2.cells
 exact ⟨(Z29 h).1, (hc2 1).trans (hc 1).symm, (hc2 5).trans (hc 5).symm⟩
def Z8I (A : Nat → Prop) (op : Bt.Op) (known : List Bt.Page) (vf vk : Value) (b : Nat) (t : Bt.St) (pp : Bt.Page) (m : Bt.Node) (w : World) (s2 s3 s4 : Value) (wx : World) : Prop :=
 ∃ (X : Nat) (v : Value), s2 = .pointer (some ⟨X, 0, none⟩) ∧ s3 = .bool false ∧ s4 = .bool true ∧ w.heap.size ≤ X ∧ Blk wx X 145 (Z0g pp m v) ∧ wx.ownsRow w.heap.size 69 3 v m.entries.length (Z04 m.entries) ∧ v.ownBlock ≠ some X ∧ IsRun A op known vf vk t b wx ∧ Over b w wx
def ZbI (A : Nat → Prop) (op : Bt.Op) (known : List Bt.Page) (vf vk : Value) (b : Nat) (t : Bt.St) (w : World) (s3 s4 : Value) (wx : World) : Prop :=
 s3 = .bool true ∧ s4 = .bool false ∧ IsRun (New A w) op known vf vk t b wx ∧ Over b w wx
theorem Z8l (A : Nat → Prop) (op : Bt.Op) (known : List Bt.Page) (vf vk : Value) (s : Bt.St) (b : Nat) (t : Bt.St) (w : World) (h : IsRun A op known vf vk s b w) (hA : ∀ c, A c → c < w.heap.size) (hroot : s.root ≠ Bt.nilP)
 (hh0 : 0 ≤ s.out.hops ∧ s.out.hops ≤ 1000) (hlr : 0 ≤ op.level ∧ op.level < 8) (hd : Bt.Dives known (op.level + 1) op.key s t .absent) :
 Calls Tryz.prog 55 #[.pointer (some ⟨b, 0, none⟩)] w (Z0y A op known vf vk (s.post op known) b (.tuple #[]) w) := by
 have HX : Hid (s.post op known = t.fail 16 []) := hid (by
  unfold Bt.St.post
  rw [if_neg hroot, hd.descend])
 have hwl : IntKind.i64.wrap (op.level + 1) = op.level + 1 := by rw [IntKind.wrap_i64]; omega
 have HR := hid h
 have HD := hid hd
 have hlt := h.lt
 have hlt1 : b < w.heap.size + 1 := by omega
 obtain ⟨vn, vw, ve, vc, hc⟩ := h.cells
 have k1 : w.cell? ⟨b, 1, none⟩ = some (.int .u32 op.key) := hc 1
 have k5 : w.cell? ⟨b, 5, none⟩ = some (.int .i64 op.level) := hc 5
 have k34 : w.cell? ⟨b, 34, none⟩ = some (.int .i64 s.root.line) := hc 34
 have k35 : w.cell? ⟨b, 35, none⟩ = some (.int .i64 s.root.gen) := hc 35
 have hp : peq s.root.line s.root.gen 0 0 = false := by rw [Z0j]; simp [hroot]
 have eq := eql_ptr
 have hn : NoneAt w := by obtain ⟨vn, vw, ve, vc, hr, _⟩ := h; exact hr.none
 obtain ⟨g0, g1, gl⟩ := hn
 have gl1 : 0 < w.heap.size + 1 := by omega
 clear h hc hroot hd hlr
 have tg89 := trivial
 have tg90 := trivial
 exact wG14
theorem Z9d (A : Nat → Prop) (op : Bt.Op) (known : List Bt.Page) (vf vk : Value) (s : Bt.St) (b : Nat) (t : Bt.St) (pp : Bt.Page) (m : Bt.Node) (w : World) (h : IsRun A op known vf vk s b w) (hA : ∀ c, A c → c < w.heap.size) (hroot : s.root ≠ Bt.nilP)
 (hh0 : 0 ≤ s.out.hops ∧ s.out.hops ≤ 1000) (hlr : 0 ≤ op.level ∧ op.level < 8) (hd : Bt.Dives known (op.level + 1) op.key s t (.at_ pp m)) (hcl0 : Bt.child m.entries op.key < m.entries.length) (xp : Bt.Page) (xn : Bt.Node) (hl : t.look known (m.entries.getD (Bt.child m.entries op.key) default).to true = (t, some (xp, xn))) (hxl : xn.level = op.level) (hxd : xn.dead = false) (hxh : (m.entries.getD (Bt.child m.entries op.key) default).key ≤ xn.high) :
 Calls Tryz.prog 55 #[.pointer (some ⟨b, 0, none⟩)] w (Z0y A op known vf vk (s.post op known) b (.tuple #[]) w) := by
 obtain ⟨hkn2, hx1, hx2, hx3⟩ := Dives.ends hd
 have hppok : pp.Ok := h.knownRow.ok pp hkn2.1
 have hvm := (Z0r hkn2.2.2).1
 have HAM := hid (Z0Z m hvm)
 have hm5 := HAM.out.2
 have HPP := hid hppok
 have HEM : Hid (∀ e ∈ m.entries, e.Ok) := hid (by rw [hkn2.2.1]; exact Z1j pp hppok)
 obtain ⟨c, hcm⟩ : ∃ c, c = Bt.child m.entries op.key := ⟨_, rfl⟩
 have hcl : c < m.entries.length := by omega
 obtain ⟨ek, hek⟩ : ∃ ek, m.entries[c].key = ek := ⟨_, rfl⟩
 obtain ⟨q, hqq⟩ : ∃ q, m.entries[c].to = q := ⟨_, rfl⟩
 have hgd : m.entries.getD c default = m.entries[c] := by rw [List.getD_eq_getElem?_getD, List.getElem?_eq_getElem hcl]; rfl
 rw [← hcm, hgd, hqq] at hl
 have HX : Hid (s.post op known = { t with out := { t.out with found := true } }) := hid (by
  unfold Bt.St.post
  rw [if_neg hroot, hd.descend]
  simp only [← hcm, hgd, hqq, hl]
  rw [if_neg (by simp [hxl]), if_neg (by simp [hxd]), if_pos (by rw [← hcm, hgd] at hxh; exact hxh)])
 rw [← hcm, hgd, hek] at hxh
 have bh1 : decide (ek ≤ xn.high) = true := by simp [hxh]
 have HL := hid hl
 have HCM := hid hcm
 have HEK := hid (And.intro hek hqq)
 have bl1 : (xn.level != op.level) = false := by simp [hxl]
 have hi1 : (0 : Int) ≤ c := by omega
 have hi2 : (c : Int) < m.entries.length := by omega
 have hwl : IntKind.i64.wrap (op.level + 1) = op.level + 1 := by rw [IntKind.wrap_i64]; omega
 have HR := hid h
 have HD := hid hd
 have hlt := h.lt
 have hlt1 : b < w.heap.size + 1 := by omega
 obtain ⟨vn, vw, ve, vc, hc⟩ := h.cells
 have k1 : w.cell? ⟨b, 1, none⟩ = some (.int .u32 op.key) := hc 1
 have k5 : w.cell? ⟨b, 5, none⟩ = some (.int .i64 op.level) := hc 5
 have k34 : w.cell? ⟨b, 34, none⟩ = some (.int .i64 s.root.line) := hc 34
 have k35 : w.cell? ⟨b, 35, none⟩ = some (.int .i64 s.root.gen) := hc 35
 have hp : peq s.root.line s.root.gen 0 0 = false := by rw [Z0j]; simp [hroot]
 have eq := eql_ptr
 have hn : NoneAt w := by obtain ⟨vn, vw, ve, vc, hr, _⟩ := h; exact hr.none
 obtain ⟨g0, g1, gl⟩ := hn
 have gl1 : 0 < w.heap.size + 1 := by omega
 clear h hc hroot hd hlr hcl0 hkn2 hppok hvm hx1 hx2 hx3 hcm hek hqq hgd hl hxl hxh
 have tg89 := trivial
 have tg91 := trivial
 have tg92 := trivial
 have tg93 := trivial
 exact wG14
end Go.Proofs.YtjmpekanlmepmaaGreatDoor
