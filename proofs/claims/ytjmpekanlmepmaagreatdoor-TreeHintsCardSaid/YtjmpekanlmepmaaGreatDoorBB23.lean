/- Package btree: a leaf in two forms; an operation that ends with lines; find. -/
import Derived.Test.YtjmpekanlmepmaaGreatDoorBB21
import Derived.Test.YtjmpekanlmepmaaGreatDoorBB22
import Derived.Test.YtjmpekanlmepmaaGreatDoorBB18
set_option linter.all false
set_option maxRecDepth 20000
set_option maxHeartbeats 8000000
open Go.Lib (hid)
namespace Go.Proofs.YtjmpekanlmepmaaGreatDoor
open Go.RowKit
theorem Goes.ends {known : List Bt.Page} {level k height : Int} {N : Nat} {s t : Bt.St} {p : Bt.Page} {n : Bt.Node} {wk : Bt.Walk} (h : Bt.Goes known level k height N s p n t wk) (h0 : p ∈ known ∧ n = p.node ∧ Bt.Z19 p = some n) {page : Bt.Page} {m : Bt.Node} (hw : wk = .at_ page m) :
 (page ∈ known ∧ m = page.node ∧ Bt.Z19 page = some m) ∧ ¬ m.passes k ∧ m.level = level ∧ Bt.locked page = false := by
 induction h with
 | here h1 h2 h3 => injection hw with e1 e2; subst e1 e2; exact ⟨h0, h1, h2, h3⟩
 | right _ h2 _ _ ih => exact ih ⟨(Z1h h2).1, (Z1h h2).2.2⟩ hw
 | rightStop => cases hw
 | down _ _ _ h4 _ _ ih => exact ih ⟨(Z1h h4).1, (Z1h h4).2.2⟩ hw
 | downStop => cases hw
theorem Dives.ends {known : List Bt.Page} {level k : Int} {s t : Bt.St} {page : Bt.Page} {m : Bt.Node} (h : Bt.Dives known level k s t (.at_ page m)) :
 (page ∈ known ∧ m = page.node ∧ Bt.Z19 page = some m) ∧ ¬ m.passes k ∧ m.level = level ∧ Bt.locked page = false := by
 cases h with
 | goes h1 h2 h3 h4 => exact Goes.ends h4 ⟨(Z1h h1).1, (Z1h h1).2.2⟩ rfl
section
variable (A : Nat → Prop) (op : Bt.Op) (known : List Bt.Page) (vf vk : Value) (s : Bt.St) (b : Nat)
theorem Z1H (t : Bt.St) (page : Bt.Page) (n : Bt.Node) (w : World) (h : IsRun A op known vf vk s b w) (hA : ∀ c, A c → c < w.heap.size) (hh0 : 0 ≤ s.out.hops ∧ s.out.hops ≤ 1000) (hd : Bt.Dives known 0 op.key s t (.at_ page n)) :
 Calls Tryz.prog 83 #[.pointer (some ⟨b, 0, none⟩)] w (fun e w' => IsRun A op known vf vk t b w' ∧ Over b w w' ∧ ∃ v, e = .returned (.tuple #[.agg (Z0g page n v), .bool true]) ∧ w'.ownsRow w.heap.size 69 3 v n.entries.length (Z04 n.entries)) :=
 Zbu A op known vf vk s b t _ w h hA hh0 hd
theorem Z3e (g n cap : Nat) (check : List Int) (c : Int) (w : World) (h : IsRun A op known vf vk s b w) (hq : w.ownsRow (b + 1) 3 1 (.slice (some ⟨g, 0, none⟩) n cap) n (intCells check)) (hn : check.length = n) (hsmall : n ≤ 1000000) (hg : ¬ A g) :
 Calls Tryz.prog 81 #[.pointer (some ⟨b, 0, none⟩), .int .i64 c, .slice (some ⟨g, 0, none⟩) n cap] w (fun e w' => e = .returned (.bool false) ∧ IsRun (fun d => A d ∨ d = g) op known vf vk (s.fail c check) b w' ∧ OverTwo b g w w') := by
 obtain ⟨vn, vw, ve, vc, hr, h1, h2, h3, h4⟩ := h
 refine (Z7K op known vf vk s b g n cap vn vw ve vc check c w hr hq hn hsmall (fun e => hg (h1 _ e)) (fun e => hg (h2 _ e)) (fun e => hg (h3 _ e))).mono ?_
 rintro e w' ⟨he, ⟨m, cp, hr'⟩, ho⟩
 exact ⟨he, ⟨vn, vw, ve, _, hr', fun d hd => .inl (h1 _ hd), fun d hd => .inl (h2 _ hd), fun d hd => .inl (h3 _ hd), fun d hd => .inr (by simp [Value.ownBlock] at hd; exact hd.symm)⟩, ho⟩
end
theorem Z5N (A : Nat → Prop) (op : Bt.Op) (known : List Bt.Page) (vf vk : Value) (s : Bt.St) (b : Nat) (c : Int) (w : World) (h : IsRun A op known vf vk s b w) (hA : ∀ c, A c → c < w.heap.size) (hrp : s.rootPage.Ok) (hlk : Bt.locked s.rootPage = false) :
 Calls Tryz.prog 82 #[.pointer (some ⟨b, 0, none⟩), .int .i64 c] w (Z0y A op known vf vk (s.noTree c) b (.tuple #[]) w) := by
 have HX : Hid (s.noTree c = s.fail c [96]) := hid (by simp [Bt.St.noTree, hlk])
 have HR := hid h
 have HLK := hid hlk
 have hlt := h.lt
 have hlt1 : b < w.heap.size + 1 := by omega
 obtain ⟨vn, vw, ve, vc, hc⟩ := h.cells
 have k25 : w.cell? ⟨b, 25, none⟩ = some (.int .i64 s.rootPage.line) := hc 25
 have k26 : w.cell? ⟨b, 26, none⟩ = some (.int .u64 s.rootPage.head) := hc 26
 have k27 : w.cell? ⟨b, 27, none⟩ = some (.int .u64 s.rootPage.d0) := hc 27
 have k28 : w.cell? ⟨b, 28, none⟩ = some (.int .u64 s.rootPage.d1) := hc 28
 have k29 : w.cell? ⟨b, 29, none⟩ = some (.int .u64 s.rootPage.d2) := hc 29
 have k30 : w.cell? ⟨b, 30, none⟩ = some (.int .u64 s.rootPage.d3) := hc 30
 have k31 : w.cell? ⟨b, 31, none⟩ = some (.int .u64 s.rootPage.d4) := hc 31
 have k32 : w.cell? ⟨b, 32, none⟩ = some (.int .u64 s.rootPage.d5) := hc 32
 have k33 : w.cell? ⟨b, 33, none⟩ = some (.int .u64 s.rootPage.d6) := hc 33
 clear h hc hlk
 go_enter Tryz.func82, Tryz.ntmps82
 go_wp2_with fail
 go_at_call 80; refine (Z1y s.rootPage hrp _).mono ?_; rintro e w1 ⟨rfl, hb1⟩; rw [HLK.out]; ((obtain ⟨hc1, hf1, hs1⟩ := qR hb1); (try have := qN0 w w1))
 go_wp2_with fail
 go_at_call 81; refine (Z3e A op known vf vk s b w1.heap.size 1 1 [96] c _ ?hrun ?hq rfl (by omega) ?hg).mono ?_
 case hrun => exact (HR.out.below hb1).alloc _
 case hq => exact own_line1' rfl (by omega)
 case hg => exact fun h1 => by have := hA _ h1; omega
 rintro e w2 ⟨rfl, hrun2, ho2⟩
 have HR2 := hid hrun2
 have HO2 := hid ho2
 clear hrun2 ho2
 go_wp2_with fail
 have hov : Over b w (w1.alloc (.cells #[.int .i64 96] 3)) := qV
 refine bodyPost_end (results_none rfl _ _ _) rfl ⟨rfl, ?_, Over.two hov HO2.out (by omega)⟩
 rw [HX.out]
 refine HR2.out.imp (fun c hc => ?_)
 rcases hc with h1 | h1
 ·exact .inl h1
 ·exact .inr (by omega)
theorem ZaU (A : Nat → Prop) (op : Bt.Op) (known : List Bt.Page) (vf vk : Value) (s : Bt.St) (b : Nat) (w : World) (h : IsRun A op known vf vk s b w) (hA : ∀ c, A c → c < w.heap.size) (hroot : s.root = Bt.nilP) (hrp : s.rootPage.Ok) (hlk : Bt.locked s.rootPage = false) :
 Calls Tryz.prog 51 #[.pointer (some ⟨b, 0, none⟩)] w (Z0y A op known vf vk (s.find op known) b (.tuple #[]) w) := by
 have HX : Hid (s.find op known = s.noTree 0) := hid (by simp [Bt.St.find, hroot])
 have HR := hid h
 have HLK := hid hlk
 have hlt := h.lt
 have hlt1 : b < w.heap.size + 1 := by omega
 obtain ⟨vn, vw, ve, vc, hc⟩ := h.cells
 have k34 : w.cell? ⟨b, 34, none⟩ = some (.int .i64 s.root.line) := hc 34
 have k35 : w.cell? ⟨b, 35, none⟩ = some (.int .i64 s.root.gen) := hc 35
 have hp : peq s.root.line s.root.gen 0 0 = true := by rw [Z0j]; simp [hroot]
 have eq := eql_ptr
 have hn : NoneAt w := by obtain ⟨vn, vw, ve, vc, hr, _⟩ := h; exact hr.none
 obtain ⟨g0, g1, gl⟩ := hn
 have gl1 : 0 < w.heap.size + 1 := by omega
 clear h hc hroot hlk
 go_enter Tryz.func51, Tryz.ntmps51
 go_wp2_with fail
 refine qA fun hSt => ?_
 refine qS [0, 1, 2, 3, 4, 5] ?_
 iterate 6 (refine qT ?_; simp only [Act.put, qY])
 refine Z00.done ?_
 refine qD ?_ _
 go_wp2_with fail
 go_at_call 82; refine (Z5N A op known vf vk s b 0 _ ?hrun ?hlow hrp HLK.out).mono ?_
 case hrun => exact HR.out.below qL
 case hlow => exact fun c hc => by have := hA c hc; simp; omega
 rintro e w1 ⟨rfl, hrun1, ho1⟩
 have HR1 := hid hrun1
 clear hrun1
 go_wp2_with fail
 refine bodyPost_end (results_none rfl _ _ _) rfl ⟨rfl, ?_, qV⟩
 rw [HX.out]
 exact HR1.out
theorem ZaV (A : Nat → Prop) (op : Bt.Op) (known : List Bt.Page) (vf vk : Value) (s : Bt.St) (b : Nat) (t : Bt.St) (page : Bt.Page) (n : Bt.Node) (w : World) (h : IsRun A op known vf vk s b w) (hA : ∀ c, A c → c < w.heap.size) (hroot : s.root ≠ Bt.nilP)
 (hh0 : 0 ≤ s.out.hops ∧ s.out.hops ≤ 1000) (hd : Bt.Dives known 0 op.key s t (.at_ page n)) :
 Calls Tryz.prog 51 #[.pointer (some ⟨b, 0, none⟩)] w (Z0y A op known vf vk (s.find op known) b (.tuple #[]) w) := by
 obtain ⟨hkn, hps, hlev, hlk⟩ := Dives.ends hd
 have hpok : page.Ok := h.knownRow.ok page hkn.1
 have hval := (Z0r hkn.2.2).1
 have hasc := Z0Z n hval
 have hentok : ∀ e ∈ n.entries, e.Ok := by rw [hkn.2.1]; exact Z1j page hpok
 obtain ⟨c, hc0⟩ : ∃ c, c = Bt.child n.entries op.key := ⟨_, rfl⟩
 have HC := hid hc0
 have HX : Hid (s.find op known = if Bt.Z0T n.entries op.key then ({ t with out := ({ t.out with found := true } : Bt.Out).withTo (n.entries.getD c default).to } : Bt.St).fail 0 [page.line] else t.fail 0 [page.line]) := hid (by
  unfold Bt.St.find
  rw [if_neg hroot, hd.descend, hc0])
 have HR := hid h
 have HD := hid hd
 have HAS := hid hasc
 have HEO := hid hentok
 have hlt := h.lt
 have hlt1 : b < w.heap.size + 1 := by omega
 obtain ⟨vn, vw, ve, vc, hc⟩ := h.cells
 have k34 : w.cell? ⟨b, 34, none⟩ = some (.int .i64 s.root.line) := hc 34
 have k35 : w.cell? ⟨b, 35, none⟩ = some (.int .i64 s.root.gen) := hc 35
 have hp : peq s.root.line s.root.gen 0 0 = false := by rw [Z0j]; simp [hroot]
 have eq := eql_ptr
 have hn : NoneAt w := by obtain ⟨vn, vw, ve, vc, hr, _⟩ := h; exact hr.none
 obtain ⟨g0, g1, gl⟩ := hn
 have gl1 : 0 < w.heap.size + 1 := by omega
 clear h hc hroot hd hkn hps hlev hlk hpok hval hasc hentok hc0
 go_enter Tryz.func51, Tryz.ntmps51
 go_wp2_with fail
 refine qA fun hSt => ?_
 refine qS [0, 1, 2, 3, 4, 5] ?_
 iterate 6 (refine qT ?_; simp only [Act.put, qY])
 refine Z00.done ?_
 refine qD ?_ _
 go_wp2_with fail
 go_at_call 83; refine (Z1H A op known vf vk s b t page n _ ?hrun ?hlow hh0 HD.out).mono ?_
 case hrun => exact HR.out.below qL
 case hlow => exact fun c hc => by have := hA c hc; simp; omega
 rintro e w1 ⟨hrun1, ho1, v, rfl, hown⟩
 have hb1 := hrun1.lt
 have hv1 : ∀ c, v.ownBlock = some c → c < w1.heap.size := fun c hc => own_lt' hown c hc
 have HR1 := hid hrun1.low
 have HOWN := hid hown
 have hsz : w.heap.size ≤ w1.heap.size := by have := World.grownBy.size ho1; simpa using this
 have HO1 := hid ho1
 clear hrun1 ho1 hown
 dsimp only
 iterate 13 go_step
 refine Z07 rfl 145 (.tmp 2) (.tmp 17) rfl (w1.heap.size) _ rfl rfl _ _ (Blk.made _ _ _) (by kernel_rfl) rfl (Z0A (Z0Q HOWN.out)) (fun wx B_wx ho_wx hz_wx => ?_)
 simp only [Act.put, qY]
 have kx := B_wx.cell
 rw [found_eq] at kx
 have HRX := hid ((HR1.out.alloc (.cells #[.int .i64 0, .int .u64 0, .int .u64 0, .int .u64 0, .int .u64 0, .int .u64 0, .int .u64 0, .int .u64 0, .int .u64 0, .int .i64 0, .bool false, .bool false, .int .u32 0, .int .i64 0, .int .i64 0, .slice none 0 0] 145)).grown ho_wx (by omega) (fun h1 => by omega))
 have HWX := hid (Z13 (own_below HOWN.out (Z06 (Below.refl _ _) _)) ho_wx (fun e => by have := hv1 _ e; omega))
 have HOX : Hid (Over b w wx) := hid (Over.new (Over.trans (Over.drew (Over.refl b w)) (Over.alloc (HO1.out) _)) ho_wx hsz)
 have HER : Hid (EntRow wx v n.entries) := hid (EntRow.of_own HWX.out rfl HEO.out)
 obtain ⟨un, uw, ue, uc, hc⟩ := HRX.out.cells
 have j1 : wx.cell? ⟨b, 1, none⟩ = some (.int .u32 op.key) := hc 1
 have j12 : wx.cell? ⟨b, 12, none⟩ = some (.bool t.out.found) := hc 12
 have j18 : wx.cell? ⟨b, 18, none⟩ = some (.int .i64 t.out.to.line) := hc 18
 have j19 : wx.cell? ⟨b, 19, none⟩ = some (.int .i64 t.out.to.gen) := hc 19
 have jf := HRX.out.free
 have hbx : b < wx.heap.size := HRX.out.lt
 have hgx : w1.heap.size < wx.heap.size := by rw [hz_wx]; simp
 have hgx2 : wx.heap.size ≤ w1.heap.size + 1 := by rw [hz_wx]; simp
 clear hc B_wx ho_wx hz_wx
 go_wp2_with fail
 refine qA fun hSt => ?_
 refine qS [0, 1, 2, 3, 4, 5, 6] ?_
 iterate 7 (refine qT ?_; simp only [Act.put, qY])
 refine Z00.done ?_
 refine qH 7 fun K hK => ?_
 go_simp
 go_at_call 84; refine (Z3K n v op.key _ ?hpf HAS.out.1 HAS.out.2).mono ?_; (case hpf => exact HER.out.below qL); rintro e2 w2 ⟨rfl, hb2⟩; rw [← HC.out]; ((obtain ⟨hc2, hf2, hs2⟩ := qR hb2); (try have := qN0 w w2); (try have := qN0 w1 w2); (try have := qN0 wx w2))
 go_wp2_with fail
 refine hK.out _ _ (SteadyAll.of qL) (fun hHeld => ?_)
 clear hK K
 refine qS [8, 9, 10, 11, 12] ?_
 iterate 5 (refine qT ?_; simp only [Act.put, qY])
 refine Z00.done ?_
 refine qD ?_ _
 rcases hhk : Bt.Z0T n.entries op.key with _ | _
 ·have HHK := hid hhk
  clear hhk
  go_wp2_with fail
  go_at_call 81; refine (Z3e (fun c => A c ∧ c < w1.heap.size) op known vf vk t b w2.heap.size 1 1 [page.line] 0 _ ?hrun ?hq rfl (by omega) ?hg).mono ?_
  case hrun => exact (HRX.out.below qL).alloc _
  case hq => exact own_line1' rfl (by omega)
  case hg => exact fun h1 => by have := h1.2; omega
  rintro e w3 ⟨rfl, hrun3, ho3⟩
  have HR3 := hid hrun3
  have HO3 := hid ho3
  clear hrun3 ho3
  go_wp2_with fail
  have hox := HOX.out
  have hov : Over b w (w2.alloc (.cells #[.int .i64 page.line] 3)) := qV
  refine bodyPost_end (results_none rfl _ _ _) rfl ⟨rfl, ?_, Over.two hov HO3.out (by omega)⟩
  rw [HX.out, HHK.out]
  refine HR3.out.imp (fun c hc => ?_)
  rcases hc with h1 | h1
  ·exact .inl h1.1
  ·exact .inr (by omega)
 ·have HHK := hid hhk
  obtain ⟨hcl, -⟩ : c < n.entries.length ∧ True := by
   refine ⟨?_, trivial⟩
   unfold Bt.Z0T at hhk
   rw [← HC.out] at hhk
   by_cases hlt : c < n.entries.length
   ·exact hlt
   ·rw [List.getElem?_eq_none (by omega)] at hhk; cases hhk
  clear hhk
  obtain ⟨g, cap, rfl⟩ := Z0D HWX.out (by omega)
  have hcells : ∀ j u, (Z04 n.entries)[j]? = some u → wx.cell? ⟨g, j, none⟩ = some u := Z0i HWX.out
  obtain ⟨q, hq⟩ : ∃ q, q = n.entries[c].to := ⟨_, rfl⟩
  have c1 : wx.cell? ⟨g, c * 3 + 1, none⟩ = some (.int .i64 q.line) := by rw [hq]; exact hcells _ _ (Z0a n.entries c n.entries[c] (List.getElem?_eq_getElem hcl) 1 _ rfl)
  have c2 : wx.cell? ⟨g, c * 3 + 1 + 1, none⟩ = some (.int .i64 q.gen) := by rw [hq]; exact hcells _ _ (Z0a n.entries c n.entries[c] (List.getElem?_eq_getElem hcl) 2 _ rfl)
  have hi1 : (0 : Int) ≤ c := by omega
  have hi2 : (c : Int) < n.entries.length := by omega
  have hgl := Z0X HWX.out
  have hg1 : b < g := by have := hgl.1; simp at this; omega
  have hg2 : g < wx.heap.size := hgl.2
  have HQ : Hid (q = (n.entries.getD c default).to) := hid (by rw [hq, List.getD_eq_getElem?_getD, List.getElem?_eq_getElem hcl]; rfl)
  clear hcells hq hgl
  go_wp2_with fail
  go_at_call 81; refine (Z3e (fun c => A c ∧ c < w1.heap.size) op known vf vk ({ t with out := ({ t.out with found := true } : Bt.Out).withTo q } : Bt.St) b w2.heap.size 1 1 [page.line] 0 _ ?hrun ?hq rfl (by omega) ?hg).mono ?_
  case hrun => exact ((((HRX.out.below qL).field (s' := { t with out := { t.out with found := true } }) 12 _ (fun _ _ _ _ => rfl)).field (s' := { t with out := ({ t.out with found := true } : Bt.Out).withTo ⟨q.line, t.out.to.gen⟩ }) 18 _ (fun _ _ _ _ => rfl)).field (s' := { t with out := ({ t.out with found := true } : Bt.Out).withTo q }) 19 _ (fun _ _ _ _ => rfl)).alloc _
  case hq => exact own_line1' (by simp) (by omega)
  case hg => exact fun h1 => by have := h1.2; omega
  rintro e w3 ⟨rfl, hrun3, ho3⟩
  have HR3 := hid hrun3
  have HO3 := hid ho3
  clear hrun3 ho3
  go_wp2_with fail
  have hox := HOX.out
  refine bodyPost_end (results_none rfl _ _ _) rfl ⟨rfl, ?_, Over.two ?_ HO3.out (by omega)⟩
  ·rw [HX.out, HHK.out, ← HQ.out]
   refine HR3.out.imp (fun c hc => ?_)
   rcases hc with h1 | h1
   ·exact .inl h1.1
   ·exact .inr (by omega)
  ·exact qV
theorem Z9f (op : Bt.Op) (known : List Bt.Page) (fa ka : Option Addr) (fn fc kn kc : Nat) (w : World) (hf : PgRow w (.slice fa fn fc) op.fresh) (hk : PgRow w (.slice ka kn kc) known) (hn : NoneAt w)
 (hkind : op.kind = 6) (p : Bt.Page) (q : Bt.Ptr) (lv : Int) (hl : Bt.latest known 96 = some p) (hlk : Bt.locked p = false) (hr : Bt.Z1p p = some (q, lv))
 (s2 : Bt.St) (hsn : s2.need = []) (hso : Z1u s2.writes) (o : Bt.Out) (hoF : s2.ended = false → o = { s2.out with hops := 0, height := 0, dead := false, unposted := false }) (hoT : s2.ended = true → o = s2.out)
 (HM : Hid (∀ b w', IsRun (fun _ => False) op known (.slice fa fn fc) (.slice ka kn kc) { ({} : Bt.St) with rootPage := p, root := q } b w' →
  Calls Tryz.prog 56 #[.pointer (some ⟨b, 0, none⟩)] w' (Z0y (fun _ => False) op known (.slice fa fn fc) (.slice ka kn kc) s2 b (.tuple #[]) w'))) :
 Calls Tryz.prog 27 #[.agg (Z0d op (.slice fa fn fc)), .slice ka kn kc] w (Z1S s2.writes o w) := by
 have Hf := hid hf
 have Hk := hid hk
 have Hn := hid hn
 have HV := hid (fun wx => Z6X op (.slice fa fn fc) wx hkind)
 have HRR := hid (fun b wx h1 h2 => Z2n (fun _ => False) op known (.slice fa fn fc) (.slice ka kn kc) {} b p q lv wx h1 h2 hl hlk hr)
 have b1 : (op.kind == 1) = false := by simp [hkind]
 have b2 : (op.kind == 2) = false := by simp [hkind]
 have b3 : (op.kind == 3) = false := by simp [hkind]
 have b4 : (op.kind == 4) = false := by simp [hkind]
 have b5 : (op.kind == 5) = false := by simp [hkind]
 have b6 : (op.kind == 6) = true := by simp [hkind]
 clear hf hk hn hkind hl hlk hr
 unfold Z0d at HV ⊢
 have tg68 := trivial
 exact wG10
theorem sG33 {P : Prop} (h : P := by
 clear hk hv
 unfold Z0d
 go_enter Tryz.func49, Tryz.ntmps49
 go_wp2_with fail
 go_at_call 77; refine (Z3N op.key _).mono ?_; rintro e w1 ⟨rfl, rfl⟩; rw [HV.out]
 go_wp2_with fail
 refine bodyPost_ret (results_tmp rfl _ _ _) rfl ⟨rfl, qL⟩) : P := h
theorem wG2 {P : Prop} (h : P := by
 have HV : Hid (Bt.isKey op.key = true) := hid (by unfold Bt.Op.isValid at hv; simpa [hk] using hv)
 have b6 : (op.kind == 6) = false := by simp [hk]
 have b5 : (op.kind == 5) = false := by simp [hk]
 have b2 : (op.kind == 2) = false := by simp [hk]
 have b4 : (op.kind == 4) = false := by simp [hk]
 first
  | clear tg3
    have b1 : (op.kind == 1) = true := by simp [hk]
    have b3 : (op.kind == 3) = false := by simp [hk]
    have b7 : (op.kind == 7) = false := by simp [hk]
    have b8 : (op.kind == 8) = false := by simp [hk]
    exact sG33
  | clear tg4
    have b1 : (op.kind == 1) = false := by simp [hk]
    first
     | clear tg5
       have b3 : (op.kind == 3) = true := by simp [hk]
       have b7 : (op.kind == 7) = false := by simp [hk]
       have b8 : (op.kind == 8) = false := by simp [hk]
       exact sG33
     | clear tg6
       have b3 : (op.kind == 3) = false := by simp [hk]
       first
        | clear tg7
          have b7 : (op.kind == 7) = true := by simp [hk]
          have b8 : (op.kind == 8) = false := by simp [hk]
          exact sG33
        | clear tg8
          have b7 : (op.kind == 7) = false := by simp [hk]
          have b8 : (op.kind == 8) = true := by simp [hk]
          exact sG33) : P := h
theorem Z7D (op : Bt.Op) (vf : Value) (w : World) (hk : op.kind = 1) (hv : op.isValid = true) :
 Calls Tryz.prog 49 #[.agg (Z0d op vf)] w fun e w' => e = .returned (.bool true) ∧ Below w.heap.size w w' := by
 have tg3 := trivial
 exact wG2
theorem Z6s (op : Bt.Op) (vf : Value) (w : World) (hk : op.kind = 3) (hv : op.isValid = true) :
 Calls Tryz.prog 49 #[.agg (Z0d op vf)] w fun e w' => e = .returned (.bool true) ∧ Below w.heap.size w w' := by
 have tg4 := trivial
 have tg5 := trivial
 exact wG2
theorem Z5B (op : Bt.Op) (vf : Value) (w : World) (hk : op.kind = 7) (hv : op.isValid = true) :
 Calls Tryz.prog 49 #[.agg (Z0d op vf)] w fun e w' => e = .returned (.bool true) ∧ Below w.heap.size w w' := by
 have tg4 := trivial
 have tg6 := trivial
 have tg7 := trivial
 exact wG2
theorem Z6r (op : Bt.Op) (vf : Value) (w : World) (hk : op.kind = 8) (hv : op.isValid = true) :
 Calls Tryz.prog 49 #[.agg (Z0d op vf)] w fun e w' => e = .returned (.bool true) ∧ Below w.heap.size w w' := by
 have tg4 := trivial
 have tg6 := trivial
 have tg8 := trivial
 exact wG2
theorem Z7C (op : Bt.Op) (vf : Value) (w : World) (hk : op.kind = 5) (hv : op.isValid = true) :
 Calls Tryz.prog 49 #[.agg (Z0d op vf)] w fun e w' => e = .returned (.bool true) ∧ Below w.heap.size w w' := by
 have hv2 : 1 ≤ op.key ∧ 0 ≤ op.level ∧ op.level < 8 := by
  unfold Bt.Op.isValid at hv
  simp [hk] at hv
  omega
 have c1 : decide (1 ≤ op.key) = true := by simp; omega
 have c2 : decide (0 ≤ op.level) = true := by simp; omega
 have c3 : decide (op.level < 8) = true := by simp; omega
 have b6 : (op.kind == 6) = false := by simp [hk]
 have b5 : (op.kind == 5) = true := by simp [hk]
 clear hk hv hv2
 unfold Z0d
 go_enter Tryz.func49, Tryz.ntmps49
 go_wp2_with fail
 refine bodyPost_ret (results_tmp rfl _ _ _) rfl ⟨rfl, qL⟩
theorem ZbU (op : Bt.Op) (vf : Value) (w : World) (hk : op.kind = 4) (hv : op.isValid = true) :
 Calls Tryz.prog 49 #[.agg (Z0d op vf)] w fun e w' => e = .returned (.bool true) ∧ Below w.heap.size w w' := by
 have hv2 : Bt.isKey op.key = true ∧ Bt.isKey op.last = true ∧ op.key ≤ op.last ∧ 1 ≤ op.limit ∧ op.limit ≤ 64 := by
  unfold Bt.Op.isValid at hv
  simp [hk] at hv
  exact ⟨hv.1.1.1.1, hv.1.1.1.2, hv.1.1.2, hv.1.2, hv.2⟩
 have HV := hid (And.intro hv2.1 hv2.2.1)
 have c1 : decide (op.key ≤ op.last) = true := by simp; omega
 have c2 : decide (1 ≤ op.limit) = true := by simp; omega
 have c3 : decide (op.limit ≤ 64) = true := by simp; omega
 have b6 : (op.kind == 6) = false := by simp [hk]
 have b5 : (op.kind == 5) = false := by simp [hk]
 have b2 : (op.kind == 2) = false := by simp [hk]
 have b4 : (op.kind == 4) = true := by simp [hk]
 clear hk hv hv2
 unfold Z0d
 go_enter Tryz.func49, Tryz.ntmps49
 go_wp2_with fail
 go_at_call 77; refine (Z3N op.key _).mono ?_; rintro e w1 ⟨rfl, rfl⟩; rw [HV.out.1]
 go_wp2_with fail
 go_at_call 77; refine (Z3N op.last _).mono ?_; rintro e w1 ⟨rfl, rfl⟩; rw [HV.out.2]
 go_wp2_with fail
 refine bodyPost_ret (results_tmp rfl _ _ _) rfl ⟨rfl, qL⟩
end Go.Proofs.YtjmpekanlmepmaaGreatDoor
