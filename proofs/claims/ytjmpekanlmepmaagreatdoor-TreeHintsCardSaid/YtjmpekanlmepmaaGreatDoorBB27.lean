/- Package btree: a leaf is killed: the parent names another one, or it is the last entry. -/
import Derived.Test.YtjmpekanlmepmaaGreatDoorBB26
set_option linter.all false
set_option maxRecDepth 20000
set_option maxHeartbeats 8000000
open Go.Lib (hid)
namespace Go.Proofs.YtjmpekanlmepmaaGreatDoor
open Go.RowKit
theorem Z8Q (p q : Bt.Ptr) : peq p.line p.gen q.line q.gen = decide (p = q) := by
 unfold peq
 cases p; cases q
 simp [Bool.decide_and]
theorem sG5 {P : Prop} (h : P := by
 have tg1 := trivial
 exact wG1) : P := h
theorem Z9n (A : Nat → Prop) (op : Bt.Op) (known : List Bt.Page) (vf vk : Value) (s : Bt.St) (b : Nat) (t : Bt.St) (page : Bt.Page) (n : Bt.Node) (w : World) (h : IsRun A op known vf vk s b w) (hA : ∀ c, A c → c < w.heap.size) (hroot : s.root ≠ Bt.nilP)
 (hh0 : 0 ≤ s.out.hops ∧ s.out.hops ≤ 1000) (hd : Bt.Dives known 0 op.key s t (.at_ page n)) (hk1 : n.entries.length = 0) (hk2 : n.leftmost = false) (hk3 : n.right ≠ Bt.nilP) (hh1 : 0 ≤ t.out.hops ∧ t.out.hops ≤ 1000) (t2 : Bt.St) (pp : Bt.Page) (m : Bt.Node) (hd2 : Bt.Dives known 1 op.key t t2 (.at_ pp m)) (hcl0 : Bt.child m.entries op.key < m.entries.length) (hct : (m.entries.getD (Bt.child m.entries op.key) default).to ≠ Bt.at_ page) :
 Calls Tryz.prog 57 #[.pointer (some ⟨b, 0, none⟩)] w (Z0y A op known vf vk (s.kill op known) b (.tuple #[]) w) := by
 obtain ⟨hkn, hps, hlev, hlk⟩ := Dives.ends hd
 have hpok : page.Ok := h.knownRow.ok page hkn.1
 have hval := (Z0r hkn.2.2).1
 have hasc := Z0Z n hval
 have hentok : ∀ e ∈ n.entries, e.Ok := by rw [hkn.2.1]; exact Z1j page hpok
 obtain ⟨c, hcm⟩ : ∃ c, c = Bt.child m.entries op.key := ⟨_, rfl⟩
 have hcl : c < m.entries.length := by omega
 obtain ⟨ek, hek⟩ : ∃ ek, m.entries[c].key = ek := ⟨_, rfl⟩
 obtain ⟨q, hqq⟩ : ∃ q, m.entries[c].to = q := ⟨_, rfl⟩
 have hgd : m.entries.getD c default = m.entries[c] := by rw [List.getD_eq_getElem?_getD, List.getElem?_eq_getElem hcl]; rfl
 have HX : Hid (s.kill op known = t2.fail 7 []) := hid (by
  unfold Bt.St.kill
  rw [if_neg hroot, hd.descend]
  simp only
  rw [if_neg (by simp [hk1, hk2, hk3]), hd2.descend]
  simp only [← hcm, hgd, hek, hqq]
  rw [← hcm, hgd, hqq] at hct; rw [if_pos (.inl hct)])
 rw [← hcm, hgd, hqq] at hct
 have bl : decide (0 < n.entries.length) = false := by simp [hk1]
 have bl2 : decide ((0 : Int) < (n.entries.length : Int)) = false := by simp [hk1]
 have hpr : peq n.right.line n.right.gen 0 0 = false := by rw [Z0j]; simp [hk3]
 have HD2 := hid hd2
 obtain ⟨hkn2, hx1, hx2, hx3⟩ := Dives.ends hd2
 have hppok : pp.Ok := h.knownRow.ok pp hkn2.1
 have hvm := (Z0r hkn2.2.2).1
 have HAM := hid (Z0Z m hvm)
 have hm5 := HAM.out.2
 have HPO := hid hpok
 have HPP := hid hppok
 have HVM := hid (And.intro hkn2.2.1 hvm)
 have HEM : Hid (∀ e ∈ m.entries, e.Ok) := hid (by rw [hkn2.2.1]; exact Z1j pp hppok)
 have ne := Z0U
 have HCM := hid hcm
 have HEK := hid (And.intro hek hqq)
 have hpe1 : peq q.line q.gen (Bt.at_ page).line (Bt.at_ page).gen = false := by rw [Z8Q]; simp [hct]
 have hpe2 : peq q.line q.gen page.line (Bt.Z0u page.d0) = false := hpe1
 have HR := hid h
 have HD := hid hd
 have HAS := hid hasc
 have HEO := hid hentok
 have hlt := h.lt
 have hlt1 : b < w.heap.size + 1 := by omega
 obtain ⟨vn, vw, ve, vc, hc⟩ := h.cells
 have k34 : w.cell? ⟨b, 34, none⟩ = some (.int .i64 s.root.line) := hc 34
 have k35 : w.cell? ⟨b, 35, none⟩ = some (.int .i64 s.root.gen) := hc 35
 have hp : peq s.root.line s.root.gen 0 0 = false := by rw [Z0j]; simp [hroot]
 have eq := eql_ptr
 have hn : NoneAt w := by obtain ⟨vn, vw, ve, vc, hr, _⟩ := h; exact hr.none
 obtain ⟨g0, g1, gl⟩ := hn
 have gl1 : 0 < w.heap.size + 1 := by omega
 clear h hc hroot hd hkn hps hlev hlk hpok hval hasc hentok hx1 hx2 hx3 hk1 hk3 hd2 hkn2 hppok hvm hcm hek hqq hgd hcl0 hct
 exact sG5
theorem Z9m (A : Nat → Prop) (op : Bt.Op) (known : List Bt.Page) (vf vk : Value) (s : Bt.St) (b : Nat) (t : Bt.St) (page : Bt.Page) (n : Bt.Node) (w : World) (h : IsRun A op known vf vk s b w) (hA : ∀ c, A c → c < w.heap.size) (hroot : s.root ≠ Bt.nilP)
 (hh0 : 0 ≤ s.out.hops ∧ s.out.hops ≤ 1000) (hd : Bt.Dives known 0 op.key s t (.at_ page n)) (hk1 : n.entries.length = 0) (hk2 : n.leftmost = false) (hk3 : n.right ≠ Bt.nilP) (hh1 : 0 ≤ t.out.hops ∧ t.out.hops ≤ 1000) (t2 : Bt.St) (pp : Bt.Page) (m : Bt.Node) (hd2 : Bt.Dives known 1 op.key t t2 (.at_ pp m)) (hcl0 : Bt.child m.entries op.key < m.entries.length) (hct : (m.entries.getD (Bt.child m.entries op.key) default).to = Bt.at_ page) (hck : (m.entries.getD (Bt.child m.entries op.key) default).key ≠ n.high) :
 Calls Tryz.prog 57 #[.pointer (some ⟨b, 0, none⟩)] w (Z0y A op known vf vk (s.kill op known) b (.tuple #[]) w) := by
 obtain ⟨hkn, hps, hlev, hlk⟩ := Dives.ends hd
 have hpok : page.Ok := h.knownRow.ok page hkn.1
 have hval := (Z0r hkn.2.2).1
 have hasc := Z0Z n hval
 have hentok : ∀ e ∈ n.entries, e.Ok := by rw [hkn.2.1]; exact Z1j page hpok
 obtain ⟨c, hcm⟩ : ∃ c, c = Bt.child m.entries op.key := ⟨_, rfl⟩
 have hcl : c < m.entries.length := by omega
 obtain ⟨ek, hek⟩ : ∃ ek, m.entries[c].key = ek := ⟨_, rfl⟩
 obtain ⟨q, hqq⟩ : ∃ q, m.entries[c].to = q := ⟨_, rfl⟩
 have hgd : m.entries.getD c default = m.entries[c] := by rw [List.getD_eq_getElem?_getD, List.getElem?_eq_getElem hcl]; rfl
 have HX : Hid (s.kill op known = t2.fail 7 []) := hid (by
  unfold Bt.St.kill
  rw [if_neg hroot, hd.descend]
  simp only
  rw [if_neg (by simp [hk1, hk2, hk3]), hd2.descend]
  simp only [← hcm, hgd, hek, hqq]
  rw [← hcm, hgd, hek] at hck; rw [if_pos (.inr hck)])
 rw [← hcm, hgd, hqq] at hct
 rw [← hcm, hgd, hek] at hck
 have bl : decide (0 < n.entries.length) = false := by simp [hk1]
 have bl2 : decide ((0 : Int) < (n.entries.length : Int)) = false := by simp [hk1]
 have hpr : peq n.right.line n.right.gen 0 0 = false := by rw [Z0j]; simp [hk3]
 have HD2 := hid hd2
 obtain ⟨hkn2, hx1, hx2, hx3⟩ := Dives.ends hd2
 have hppok : pp.Ok := h.knownRow.ok pp hkn2.1
 have hvm := (Z0r hkn2.2.2).1
 have HAM := hid (Z0Z m hvm)
 have hm5 := HAM.out.2
 have HPO := hid hpok
 have HPP := hid hppok
 have HVM := hid (And.intro hkn2.2.1 hvm)
 have HEM : Hid (∀ e ∈ m.entries, e.Ok) := hid (by rw [hkn2.2.1]; exact Z1j pp hppok)
 have ne := Z0U
 have HCM := hid hcm
 have HEK := hid (And.intro hek hqq)
 have hpe1 : peq q.line q.gen (Bt.at_ page).line (Bt.at_ page).gen = true := by rw [Z8Q]; simp [hct]
 have hpe2 : peq q.line q.gen page.line (Bt.Z0u page.d0) = true := hpe1
 have bk : (ek != n.high) = true := by simp [hck]
 have HR := hid h
 have HD := hid hd
 have HAS := hid hasc
 have HEO := hid hentok
 have hlt := h.lt
 have hlt1 : b < w.heap.size + 1 := by omega
 obtain ⟨vn, vw, ve, vc, hc⟩ := h.cells
 have k34 : w.cell? ⟨b, 34, none⟩ = some (.int .i64 s.root.line) := hc 34
 have k35 : w.cell? ⟨b, 35, none⟩ = some (.int .i64 s.root.gen) := hc 35
 have hp : peq s.root.line s.root.gen 0 0 = false := by rw [Z0j]; simp [hroot]
 have eq := eql_ptr
 have hn : NoneAt w := by obtain ⟨vn, vw, ve, vc, hr, _⟩ := h; exact hr.none
 obtain ⟨g0, g1, gl⟩ := hn
 have gl1 : 0 < w.heap.size + 1 := by omega
 clear h hc hroot hd hkn hps hlev hlk hpok hval hasc hentok hx1 hx2 hx3 hk1 hk3 hd2 hkn2 hppok hvm hcm hek hqq hgd hcl0 hct hck
 exact sG5
theorem ZaL (A : Nat → Prop) (op : Bt.Op) (known : List Bt.Page) (vf vk : Value) (s : Bt.St) (b : Nat) (t : Bt.St) (page : Bt.Page) (n : Bt.Node) (w : World) (h : IsRun A op known vf vk s b w) (hA : ∀ c, A c → c < w.heap.size) (hroot : s.root ≠ Bt.nilP)
 (hh0 : 0 ≤ s.out.hops ∧ s.out.hops ≤ 1000) (hd : Bt.Dives known 0 op.key s t (.at_ page n)) (hk1 : n.entries.length = 0) (hk2 : n.leftmost = false) (hk3 : n.right ≠ Bt.nilP) (hh1 : 0 ≤ t.out.hops ∧ t.out.hops ≤ 1000) (t2 : Bt.St) (pp : Bt.Page) (m : Bt.Node) (hd2 : Bt.Dives known 1 op.key t t2 (.at_ pp m)) (hcl0 : Bt.child m.entries op.key < m.entries.length) (hct : (m.entries.getD (Bt.child m.entries op.key) default).to = Bt.at_ page) (hck : (m.entries.getD (Bt.child m.entries op.key) default).key = n.high) (hcn : Bt.child m.entries op.key + 1 = m.entries.length) :
 Calls Tryz.prog 57 #[.pointer (some ⟨b, 0, none⟩)] w (Z0y A op known vf vk (s.kill op known) b (.tuple #[]) w) := by
 obtain ⟨hkn, hps, hlev, hlk⟩ := Dives.ends hd
 have hpok : page.Ok := h.knownRow.ok page hkn.1
 have hval := (Z0r hkn.2.2).1
 have hasc := Z0Z n hval
 have hentok : ∀ e ∈ n.entries, e.Ok := by rw [hkn.2.1]; exact Z1j page hpok
 obtain ⟨c, hcm⟩ : ∃ c, c = Bt.child m.entries op.key := ⟨_, rfl⟩
 have hcl : c < m.entries.length := by omega
 obtain ⟨ek, hek⟩ : ∃ ek, m.entries[c].key = ek := ⟨_, rfl⟩
 obtain ⟨q, hqq⟩ : ∃ q, m.entries[c].to = q := ⟨_, rfl⟩
 have hgd : m.entries.getD c default = m.entries[c] := by rw [List.getD_eq_getElem?_getD, List.getElem?_eq_getElem hcl]; rfl
 have HX : Hid (s.kill op known = { t2 with out := { t2.out with found := true } }) := hid (by
  unfold Bt.St.kill
  rw [if_neg hroot, hd.descend]
  simp only
  rw [if_neg (by simp [hk1, hk2, hk3]), hd2.descend]
  simp only [← hcm, hgd, hek, hqq]
  rw [← hcm, hgd, hqq] at hct; rw [← hcm, hgd, hek] at hck; rw [← hcm] at hcn; rw [if_neg (by simp [hct, hck]), if_pos hcn])
 rw [← hcm, hgd, hqq] at hct
 rw [← hcm, hgd, hek] at hck
 rw [← hcm] at hcn
 have bl : decide (0 < n.entries.length) = false := by simp [hk1]
 have bl2 : decide ((0 : Int) < (n.entries.length : Int)) = false := by simp [hk1]
 have hpr : peq n.right.line n.right.gen 0 0 = false := by rw [Z0j]; simp [hk3]
 have HD2 := hid hd2
 obtain ⟨hkn2, hx1, hx2, hx3⟩ := Dives.ends hd2
 have hppok : pp.Ok := h.knownRow.ok pp hkn2.1
 have hvm := (Z0r hkn2.2.2).1
 have HAM := hid (Z0Z m hvm)
 have hm5 := HAM.out.2
 have HPO := hid hpok
 have HPP := hid hppok
 have HVM := hid (And.intro hkn2.2.1 hvm)
 have HEM : Hid (∀ e ∈ m.entries, e.Ok) := hid (by rw [hkn2.2.1]; exact Z1j pp hppok)
 have ne := Z0U
 have HCM := hid hcm
 have HEK := hid (And.intro hek hqq)
 have hpe1 : peq q.line q.gen (Bt.at_ page).line (Bt.at_ page).gen = true := by rw [Z8Q]; simp [hct]
 have hpe2 : peq q.line q.gen page.line (Bt.Z0u page.d0) = true := hpe1
 have bk : (ek != n.high) = false := by simp [hck]
 have hwl : IntKind.i64.wrap ((m.entries.length : Int) - 1) = (m.entries.length : Int) - 1 := by rw [IntKind.wrap_i64]; have := hm5; omega
 have be : ((c : Int) == (m.entries.length : Int) - 1) = true := by simp; omega
 have HR := hid h
 have HD := hid hd
 have HAS := hid hasc
 have HEO := hid hentok
 have hlt := h.lt
 have hlt1 : b < w.heap.size + 1 := by omega
 obtain ⟨vn, vw, ve, vc, hc⟩ := h.cells
 have k34 : w.cell? ⟨b, 34, none⟩ = some (.int .i64 s.root.line) := hc 34
 have k35 : w.cell? ⟨b, 35, none⟩ = some (.int .i64 s.root.gen) := hc 35
 have hp : peq s.root.line s.root.gen 0 0 = false := by rw [Z0j]; simp [hroot]
 have eq := eql_ptr
 have hn : NoneAt w := by obtain ⟨vn, vw, ve, vc, hr, _⟩ := h; exact hr.none
 obtain ⟨g0, g1, gl⟩ := hn
 have gl1 : 0 < w.heap.size + 1 := by omega
 clear h hc hroot hd hkn hps hlev hlk hpok hval hasc hentok hx1 hx2 hx3 hk1 hk3 hd2 hkn2 hppok hvm hcm hek hqq hgd hcl0 hct hck hcn
 have tg97 := trivial
 have tg99 := trivial
 have tg100 := trivial
 exact wG15
end Go.Proofs.YtjmpekanlmepmaaGreatDoor
