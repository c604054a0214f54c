/- Package btree: a key is removed. -/
import Derived.Test.YtjmpekanlmepmaaGreatDoorBB25
import Derived.Test.YtjmpekanlmepmaaGreatDoorBB14
set_option linter.all false
set_option maxRecDepth 20000
set_option maxHeartbeats 8000000
open Go.Lib (hid)
namespace Go.Proofs.YtjmpekanlmepmaaGreatDoor
open Go.RowKit
theorem wG13 {P : Prop} (h : P := by
 go_enter Tryz.func53, Tryz.ntmps53
 go_wp2_with fail
 refine qA fun hSt => ?_
 refine qS [0, 1, 2, 3, 4, 5] ?_
 iterate 6 (refine qT ?_; simp only [Act.put, qY])
 refine Z00.done ?_
 refine qD ?_ _
 go_wp2_with fail
 first
  | clear tg84
    go_at_call 82; refine (Z5N A op known vf vk s b 16 _ ?hrun ?hlow hrp HLK.out).mono ?_
    case hrun => exact HR.out.below qL
    case hlow => exact fun c hc => by have := hA c hc; simp; omega
    rintro e w1 ⟨rfl, hrun1, ho1⟩
    have HR1 := hid hrun1
    clear hrun1
    go_wp2_with fail
    refine bodyPost_end (results_none rfl _ _ _) rfl ⟨rfl, ?_, qV⟩
    rw [HX.out]
    exact HR1.out
  | clear tg85
    go_at_call 83; refine (Z1H A op known vf vk s b t page n _ ?hrun ?hlow hh0 HD.out).mono ?_
    case hrun => exact HR.out.below qL
    case hlow => exact fun c hc => by have := hA c hc; simp; omega
    rintro e w1 ⟨hrun1, ho1, v, rfl, hown⟩
    have hb1 := hrun1.lt
    have hv1 : ∀ c, v.ownBlock = some c → c < w1.heap.size := fun c hc => own_lt' hown c hc
    have HR1 := hid hrun1.low
    have HOWN := hid hown
    have hsz : w.heap.size ≤ w1.heap.size := by have := World.grownBy.size ho1; simpa using this
    have HO1 := hid ho1
    clear hrun1 ho1 hown
    dsimp only
    iterate 13 go_step
    refine Z07 rfl 145 (.tmp 2) (.tmp 17) rfl (w1.heap.size) _ rfl rfl _ _ (Blk.made _ _ _) (by kernel_rfl) rfl (Z0A (Z0Q HOWN.out)) (fun wx B_wx ho_wx hz_wx => ?_)
    simp only [Act.put, qY]
    have kx := B_wx.cell
    rw [found_eq] at kx
    have HRX := hid ((HR1.out.alloc (.cells #[.int .i64 0, .int .u64 0, .int .u64 0, .int .u64 0, .int .u64 0, .int .u64 0, .int .u64 0, .int .u64 0, .int .u64 0, .int .i64 0, .bool false, .bool false, .int .u32 0, .int .i64 0, .int .i64 0, .slice none 0 0] 145)).grown ho_wx (by omega) (fun h1 => by omega))
    have HWX := hid (Z13 (own_below HOWN.out (Z06 (Below.refl _ _) _)) ho_wx (fun e => by have := hv1 _ e; omega))
    have HOX : Hid (Over b w wx) := hid (Over.new (Over.trans (Over.drew (Over.refl b w)) (Over.alloc (HO1.out) _)) ho_wx hsz)
    have HER : Hid (EntRow wx v n.entries) := hid (EntRow.of_own HWX.out rfl HEO.out)
    obtain ⟨un, uw, ue, uc, hc⟩ := HRX.out.cells
    have j1 : wx.cell? ⟨b, 1, none⟩ = some (.int .u32 op.key) := hc 1
    have j12 : wx.cell? ⟨b, 12, none⟩ = some (.bool t.out.found) := hc 12
    have j18 : wx.cell? ⟨b, 18, none⟩ = some (.int .i64 t.out.to.line) := hc 18
    have j19 : wx.cell? ⟨b, 19, none⟩ = some (.int .i64 t.out.to.gen) := hc 19
    have jf := HRX.out.free
    have hbx : b < wx.heap.size := HRX.out.lt
    have hgx : w1.heap.size < wx.heap.size := by rw [hz_wx]; simp
    have hgx2 : wx.heap.size ≤ w1.heap.size + 1 := by rw [hz_wx]; simp
    clear hc B_wx ho_wx hz_wx
    go_wp2_with fail
    refine qA fun hSt => ?_
    refine qS [0, 1, 2, 3, 4, 5, 6] ?_
    iterate 7 (refine qT ?_; simp only [Act.put, qY])
    refine Z00.done ?_
    refine qH 7 fun K hK => ?_
    go_simp
    go_at_call 84; refine (Z3K n v op.key _ ?hpf HAS.out.1 HAS.out.2).mono ?_; (case hpf => exact HER.out.below qL); rintro e2 w2 ⟨rfl, hb2⟩; rw [← HC.out, HHK.out]; ((obtain ⟨hc2, hf2, hs2⟩ := qR hb2); (try have := qN0 w w2); (try have := qN0 w1 w2); (try have := qN0 wx w2))
    go_wp2_with fail
    refine hK.out _ _ (SteadyAll.of qL) (fun hHeld => ?_)
    clear hK K
    refine qS [8, 9, 10, 11, 12] ?_
    iterate 5 (refine qT ?_; simp only [Act.put, qY])
    refine Z00.done ?_
    refine qD ?_ _
    first
     | clear tg86
       go_wp2_with fail
       go_at_call 81; refine (Z3e (fun c => A c ∧ c < w1.heap.size) op known vf vk t b w2.heap.size 1 1 [page.line] 16 _ ?hrun ?hq rfl (by omega) ?hg).mono ?_
       case hrun => exact (HRX.out.below qL).alloc _
       case hq => exact own_line1' rfl (by omega)
       case hg => exact fun h1 => by have := h1.2; omega
       rintro e w3 ⟨rfl, hrun3, ho3⟩
       have HR3 := hid hrun3
       have HO3 := hid ho3
       clear hrun3 ho3
       go_wp2_with fail
       have hox := HOX.out
       have hov : Over b w (w2.alloc (.cells #[.int .i64 page.line] 3)) := qV
       refine bodyPost_end (results_none rfl _ _ _) rfl ⟨rfl, ?_, Over.two hov HO3.out (by omega)⟩
       rw [HX.out]
       refine HR3.out.imp (fun c hc => ?_)
       rcases hc with h1 | h1
       ·exact .inl h1.1
       ·exact .inr (by omega)
     | clear tg87
       obtain ⟨g, cap, rfl⟩ := Z0D HWX.out (by omega)
       have hcells : ∀ j u, (Z04 n.entries)[j]? = some u → wx.cell? ⟨g, j, none⟩ = some u := Z0i HWX.out
       have c1 : wx.cell? ⟨g, c * 3 + 1, none⟩ = some (.int .i64 q.line) := by rw [HQ.out]; exact hcells _ _ (Z0a n.entries c n.entries[c] (List.getElem?_eq_getElem hcl) 1 _ rfl)
       have c2 : wx.cell? ⟨g, c * 3 + 1 + 1, none⟩ = some (.int .i64 q.gen) := by rw [HQ.out]; exact hcells _ _ (Z0a n.entries c n.entries[c] (List.getElem?_eq_getElem hcl) 2 _ rfl)
       have hi1 : (0 : Int) ≤ c := by omega
       have hi2 : (c : Int) < n.entries.length := by omega
       have hgl := Z0X HOWN.out
       have hg0 : w.heap.size ≤ g := by have := hgl.1; simpa using this
       have hg1 : b < g := by omega
       have hg2 : g < wx.heap.size := by have := hgl.2; omega
       have hgw : g < w1.heap.size := hgl.2
       have hnb : (Value.slice (some ⟨g, 0, none⟩) n.entries.length cap).ownBlock ≠ some b := fun e => by simp [Value.ownBlock] at e; omega
       have hw1 : IntKind.i64.wrap ((c : Int) + 1) = (c : Int) + 1 := by rw [IntKind.wrap_i64]; omega
       have HW2 := hid (Z0G (p := ⟨b, 19, none⟩) (Z0G (p := ⟨b, 18, none⟩) (own_base (base' := w.heap.size) (own_below HWX.out (show Below wx.heap.size wx w2 from qL)) (by simp)) hnb (.int .i64 q.line)) hnb (.int .i64 q.gen))
       have HRW := hid (((HRX.out.below (show Below wx.heap.size wx w2 from qL)).field (s' := { t with out := t.out.withTo ⟨q.line, t.out.to.gen⟩ }) 18 (.int .i64 q.line) (fun _ _ _ _ => rfl)).field (s' := { t with out := t.out.withTo q }) 19 (.int .i64 q.gen) (fun _ _ _ _ => rfl))
       have hox := HOX.out
       have HOW : Hid (Over b w ((w2.setCell ⟨b, 18, none⟩ (.int .i64 q.line)).setCell ⟨b, 19, none⟩ (.int .i64 q.gen))) := hid qV
       clear hcells hgl hox
       go_wp2_with fail
       refine wp_region_held_drew (S := SteadyTwo b g _) (by kernel_rfl) (SteadyTwo.of (Below.refl _ _).drew) ?_
       intro hSt
       refine qS [0, 1, 2, 3, 4, 5, 6, 7] ?_
       iterate 8 (refine qT ?_; simp only [Act.put, qY])
       refine Z00.done ?_
       refine qH 8 fun K hK => ?_
       go_simp
       go_at_call 88; refine (Zb0 w.heap.size g n.entries.length cap c n.entries _ ?hown rfl hcl (by omega)).mono ?_; (case hown => exact own_below HW2.out qL); rintro e3 w3 ⟨g3, cap3, rfl, hown3, hg3⟩; have HW3 := hid hown3; have HG3 := hid hg3; clear hown3 hg3
       go_wp2_with fail
       refine hK.out _ _ (SteadyTwo.grown qL HG3.out) (fun hHeld => ?_)
       clear hK K
       refine qH 9 fun K hK => ?_
       go_simp
       have hl3 := Z0X HW3.out; have hz3 := World.grownBy.size HG3.out; simp only [size_alloc, size_drew, size_setCell] at hz3; go_at_call 86; refine (HS.out (fun c => A c ∧ c < w1.heap.size) _ (.slice (some ⟨g, 0, none⟩) n.entries.length cap) g3 (n.entries.length - 1) cap3 ⟨_, _, _, rfl⟩ ?hrun ?hlow (by omega) HES.out.2.1.symm (Z3o HW3.out).1 (EntRow.of_own (by rw [HES.out.1]; exact HW3.out) HES.out.2.1 HES.out.2.2)).mono ?_; (case hrun => exact (HRW.out.below qL).grown HG3.out hg1 (fun h1 => by have h2 := hA _ h1.1; omega)); (case hlow => exact fun c hc => by have := hc.2; omega); rintro e4 w4 ⟨rfl, hrun4, ho4⟩; have HR4 := hid hrun4; have HO4 := hid ho4; clear hrun4 ho4
       go_wp2_with fail
       refine hK.out _ _ (SteadyTwo.over (SteadyTwo.grown qL HG3.out) (by have := World.grownBy.size HG3.out; simp only [size_alloc, size_drew, size_setCell] at this ⊢; omega) HO4.out) (fun hHeld => ?_)
       clear hK K
       refine qD ?_ _
       go_wp2_with fail
       have how := HOW.out
       have hO3 : Over b w w3 := Over.grow_new qV HG3.out (by omega)
       have ho4 := HO4.out
       refine bodyPost_end (results_none rfl _ _ _) rfl ⟨rfl, ?_, qV⟩
       rw [HX.out]
       refine HR4.out.imp (fun c hc => ?_)
       have hz3 := World.grownBy.size hO3
       rcases hc with h1 | h1
       ·exact .inl h1.1
       ·exact .inr (by omega)) : P := h
theorem Z8f (A : Nat → Prop) (op : Bt.Op) (known : List Bt.Page) (vf vk : Value) (s : Bt.St) (b : Nat) (w : World) (h : IsRun A op known vf vk s b w) (hA : ∀ c, A c → c < w.heap.size) (hroot : s.root = Bt.nilP) (hrp : s.rootPage.Ok) (hlk : Bt.locked s.rootPage = false) :
 Calls Tryz.prog 53 #[.pointer (some ⟨b, 0, none⟩)] w (Z0y A op known vf vk (s.remove op known) b (.tuple #[]) w) := by
 have HX : Hid (s.remove op known = s.noTree 16) := hid (by simp [Bt.St.remove, hroot])
 have HR := hid h
 have HLK := hid hlk
 have hlt := h.lt
 have hlt1 : b < w.heap.size + 1 := by omega
 obtain ⟨vn, vw, ve, vc, hc⟩ := h.cells
 have k34 : w.cell? ⟨b, 34, none⟩ = some (.int .i64 s.root.line) := hc 34
 have k35 : w.cell? ⟨b, 35, none⟩ = some (.int .i64 s.root.gen) := hc 35
 have hp : peq s.root.line s.root.gen 0 0 = true := by rw [Z0j]; simp [hroot]
 have eq := eql_ptr
 have hn : NoneAt w := by obtain ⟨vn, vw, ve, vc, hr, _⟩ := h; exact hr.none
 obtain ⟨g0, g1, gl⟩ := hn
 have gl1 : 0 < w.heap.size + 1 := by omega
 clear h hc hroot hlk
 have tg84 := trivial
 exact wG13
theorem Z8g (A : Nat → Prop) (op : Bt.Op) (known : List Bt.Page) (vf vk : Value) (s : Bt.St) (b : Nat) (t : Bt.St) (page : Bt.Page) (n : Bt.Node) (w : World) (h : IsRun A op known vf vk s b w) (hA : ∀ c, A c → c < w.heap.size) (hroot : s.root ≠ Bt.nilP)
 (hh0 : 0 ≤ s.out.hops ∧ s.out.hops ≤ 1000) (hd : Bt.Dives known 0 op.key s t (.at_ page n)) (hhk : Bt.Z0T n.entries op.key = false) :
 Calls Tryz.prog 53 #[.pointer (some ⟨b, 0, none⟩)] w (Z0y A op known vf vk (s.remove op known) b (.tuple #[]) w) := by
 obtain ⟨hkn, hps, hlev, hlk⟩ := Dives.ends hd
 have hpok : page.Ok := h.knownRow.ok page hkn.1
 have hval := (Z0r hkn.2.2).1
 have hasc := Z0Z n hval
 have hentok : ∀ e ∈ n.entries, e.Ok := by rw [hkn.2.1]; exact Z1j page hpok
 obtain ⟨c, hc0⟩ : ∃ c, c = Bt.child n.entries op.key := ⟨_, rfl⟩
 have HC := hid hc0
 have HX : Hid (s.remove op known = t.fail 16 [page.line]) := hid (by
  unfold Bt.St.remove
  rw [if_neg hroot, hd.descend]
  simp only
  rw [if_neg (by rw [hhk]; simp)])
 have HHK := hid hhk
 have HR := hid h
 have HD := hid hd
 have HAS := hid hasc
 have HEO := hid hentok
 have hlt := h.lt
 have hlt1 : b < w.heap.size + 1 := by omega
 obtain ⟨vn, vw, ve, vc, hc⟩ := h.cells
 have k34 : w.cell? ⟨b, 34, none⟩ = some (.int .i64 s.root.line) := hc 34
 have k35 : w.cell? ⟨b, 35, none⟩ = some (.int .i64 s.root.gen) := hc 35
 have hp : peq s.root.line s.root.gen 0 0 = false := by rw [Z0j]; simp [hroot]
 have eq := eql_ptr
 have hn : NoneAt w := by obtain ⟨vn, vw, ve, vc, hr, _⟩ := h; exact hr.none
 obtain ⟨g0, g1, gl⟩ := hn
 have gl1 : 0 < w.heap.size + 1 := by omega
 clear h hc hroot hd hkn hps hlev hlk hpok hval hasc hentok hc0 hhk
 have tg85 := trivial
 have tg86 := trivial
 exact wG13
theorem Z8h (A : Nat → Prop) (op : Bt.Op) (known : List Bt.Page) (vf vk : Value) (s : Bt.St) (b : Nat) (t : Bt.St) (page : Bt.Page) (n : Bt.Node) (w : World) (h : IsRun A op known vf vk s b w) (hA : ∀ c, A c → c < w.heap.size) (hroot : s.root ≠ Bt.nilP)
 (hh0 : 0 ≤ s.out.hops ∧ s.out.hops ≤ 1000) (hd : Bt.Dives known 0 op.key s t (.at_ page n)) (hhk : Bt.Z0T n.entries op.key = true)
 (HS : Hid (∀ (A' : Nat → Prop) (w' : World) (v : Value) (g m cap : Nat), (∃ a0 n0 c0, v = .slice a0 n0 c0) → IsRun A' op known vf vk ({ t with out := t.out.withTo (n.entries.getD (Bt.child n.entries op.key) default).to } : Bt.St) b w' → (∀ c, A' c → c < w'.heap.size) → b < g → m = (Bt.Z0B n.entries (Bt.child n.entries op.key)).length → m ≤ cap →
  EntRow w' (.slice (some ⟨g, 0, none⟩) m cap) (Bt.Z0B n.entries (Bt.child n.entries op.key)) →
  Calls Tryz.prog 86 #[.pointer (some ⟨b, 0, none⟩), .agg (Z0g page n v), .slice (some ⟨g, 0, none⟩) m cap, .slice none 0 0] w'
   (Z0y A' op known vf vk (({ t with out := t.out.withTo (n.entries.getD (Bt.child n.entries op.key) default).to } : Bt.St).store op page n (Bt.Z0B n.entries (Bt.child n.entries op.key)) []) b (.tuple #[]) w'))) :
 Calls Tryz.prog 53 #[.pointer (some ⟨b, 0, none⟩)] w (Z0y A op known vf vk (s.remove op known) b (.tuple #[]) w) := by
 obtain ⟨hkn, hps, hlev, hlk⟩ := Dives.ends hd
 have hpok : page.Ok := h.knownRow.ok page hkn.1
 have hval := (Z0r hkn.2.2).1
 have hasc := Z0Z n hval
 have hentok : ∀ e ∈ n.entries, e.Ok := by rw [hkn.2.1]; exact Z1j page hpok
 obtain ⟨c, hc0⟩ : ∃ c, c = Bt.child n.entries op.key := ⟨_, rfl⟩
 have HC := hid hc0
 have hcl : c < n.entries.length := by
  unfold Bt.Z0T at hhk
  rw [← hc0] at hhk
  by_cases hlt : c < n.entries.length
  ·exact hlt
  ·rw [List.getElem?_eq_none (by omega)] at hhk; cases hhk
 obtain ⟨es, hes⟩ : ∃ es, es = Bt.Z0B n.entries c := ⟨_, rfl⟩
 obtain ⟨q, hq⟩ : ∃ q, q = (n.entries.getD c default).to := ⟨_, rfl⟩
 have hq2 : q = n.entries[c].to := by rw [hq, List.getD_eq_getElem?_getD, List.getElem?_eq_getElem hcl]; rfl
 rw [← hc0, ← hes, ← hq] at HS
 have hel : es.length = n.entries.length - 1 := by rw [hes]; simp [Bt.Z0B]; omega
 have hek : ∀ e ∈ es, e.Ok := by
  intro e he
  rw [hes] at he
  simp only [Bt.Z0B, List.mem_append] at he
  rcases he with h1 | h1
  ·exact hentok e (List.mem_of_mem_take h1)
  ·exact hentok e (List.mem_of_mem_drop h1)
 have HES := hid (And.intro hes (And.intro hel hek))
 have HX : Hid (s.remove op known = ({ t with out := t.out.withTo q } : Bt.St).store op page n es []) := hid (by
  unfold Bt.St.remove
  rw [if_neg hroot, hd.descend]
  simp only
  rw [if_pos hhk, ← hc0, ← hes, ← hq])
 have h5 := hasc.2
 have HHK := hid hhk
 have HQ := hid hq2
 clear hes hel hek hq hq2
 have HR := hid h
 have HD := hid hd
 have HAS := hid hasc
 have HEO := hid hentok
 have hlt := h.lt
 have hlt1 : b < w.heap.size + 1 := by omega
 obtain ⟨vn, vw, ve, vc, hc⟩ := h.cells
 have k34 : w.cell? ⟨b, 34, none⟩ = some (.int .i64 s.root.line) := hc 34
 have k35 : w.cell? ⟨b, 35, none⟩ = some (.int .i64 s.root.gen) := hc 35
 have hp : peq s.root.line s.root.gen 0 0 = false := by rw [Z0j]; simp [hroot]
 have eq := eql_ptr
 have hn : NoneAt w := by obtain ⟨vn, vw, ve, vc, hr, _⟩ := h; exact hr.none
 obtain ⟨g0, g1, gl⟩ := hn
 have gl1 : 0 < w.heap.size + 1 := by omega
 clear h hc hroot hd hkn hps hlev hlk hpok hval hasc hentok hc0 hhk
 have tg85 := trivial
 have tg87 := trivial
 exact wG13
theorem Z7F (A : Nat → Prop) (op : Bt.Op) (known : List Bt.Page) (vf vk : Value) (s : Bt.St) (b : Nat) (t : Bt.St) (page : Bt.Page) (n : Bt.Node) (w : World) (h : IsRun A op known vf vk s b w) (hA : ∀ c, A c → c < w.heap.size) (hroot : s.root ≠ Bt.nilP)
 (hh0 : 0 ≤ s.out.hops ∧ s.out.hops ≤ 1000) (hd : Bt.Dives known 0 op.key s t (.at_ page n)) (hhk : Bt.Z0T n.entries op.key = true) :
 Calls Tryz.prog 52 #[.pointer (some ⟨b, 0, none⟩)] w (Z0y A op known vf vk (s.insert op known) b (.tuple #[]) w) := by
 obtain ⟨hkn, hps, hlev, hlk⟩ := Dives.ends hd
 have hpok : page.Ok := h.knownRow.ok page hkn.1
 have hval := (Z0r hkn.2.2).1
 have hasc := Z0Z n hval
 have hentok : ∀ e ∈ n.entries, e.Ok := by rw [hkn.2.1]; exact Z1j page hpok
 obtain ⟨c, hc0⟩ : ∃ c, c = Bt.child n.entries op.key := ⟨_, rfl⟩
 have HC := hid hc0
 have hcle : c ≤ n.entries.length := by rw [hc0]; exact Z5i _ _
 have HHK := hid hhk
 have HX : Hid (s.insert op known = t.fail 17 [page.line]) := hid (by
  unfold Bt.St.insert
  rw [if_neg hroot, hd.descend]
  simp only
  rw [if_pos hhk])
 have HAS := hid hasc
 have HEO := hid hentok
 clear hkn hps hlev hlk hpok hval hasc hentok hc0 hhk
 have HR := hid h
 have HD := hid hd
 have hlt := h.lt
 have hlt1 : b < w.heap.size + 1 := by omega
 obtain ⟨vn, vw, ve, vc, hc⟩ := h.cells
 have k1 : w.cell? ⟨b, 1, none⟩ = some (.int .u32 op.key) := hc 1
 have k3 : w.cell? ⟨b, 3, none⟩ = some (.int .i64 op.to.line) := hc 3
 have k4 : w.cell? ⟨b, 4, none⟩ = some (.int .i64 op.to.gen) := hc 4
 have k34 : w.cell? ⟨b, 34, none⟩ = some (.int .i64 s.root.line) := hc 34
 have k35 : w.cell? ⟨b, 35, none⟩ = some (.int .i64 s.root.gen) := hc 35
 have hp : peq s.root.line s.root.gen 0 0 = false := by rw [Z0j]; simp [hroot]
 have eq := eql_ptr
 have hn : NoneAt w := by obtain ⟨vn, vw, ve, vc, hr, _⟩ := h; exact hr.none
 obtain ⟨g0, g1, gl⟩ := hn
 have gl1 : 0 < w.heap.size + 1 := by omega
 clear h hc hroot hd
 have tg81 := trivial
 have tg83 := trivial
 exact wG12
theorem Z8U : (Tryz.prog.info? 25).map (fun i => (i.zero, i.size, i.bytes)) = some (some (.agg #[.int .i64 0, .int .u64 0, .int .u64 0, .int .u64 0, .int .u64 0, .int .u64 0, .int .u64 0, .int .u64 0, .int .u64 0]), 9, 72) := by kernel_rfl
def Z4N (i : Nat) : Bt.Page := ⟨96 + i, 256, 0, 0, 0, 0, 0, 0, 0⟩
def Z2e (k : Nat) : List Bt.Page := (List.range k).map Z4N
theorem Z6T (k : Nat) : Z0q (Z2e (k + 1)) = Z0q (Z2e k) ++ [.int .i64 (96 + k), .int .u64 256, .int .u64 0, .int .u64 0, .int .u64 0, .int .u64 0, .int .u64 0, .int .u64 0, .int .u64 0] := by
 simp [Z2e, Z0q, List.range_succ, Z4N, Bt.Page.cells]
theorem Z2a {w : World} {b : Nat} {cs : Array Value} {t : TypeId} (h : Blk w b t cs) : ∀ j v, cs.toList[j]? = some v → w.cell? ((⟨b, 0, none⟩ : Addr).add j) = some v := by
 intro j v hv
 have e : ((⟨b, 0, none⟩ : Addr).add j) = ⟨b, j, none⟩ := by simp [Addr.add]; omega
 rw [e, h.cell]
 simpa using hv
structure NewAt (w : World) (k : Nat) (v : Value) (wr : World) : Prop where
 blk : Blk wr w.heap.size 111 #[v, .int .i64 256, .int .i64 0, .slice none 0 0, .int .i64 1, .int .i64 0, .int .u32 1]
 own : wr.ownsRow (w.heap.size + 1) 25 9 v k (Z0q (Z2e k))
 below : Below w.heap.size w wr
def ZcJ (w : World) (i : Value) (wr : World) : Prop := ∃ (k : Nat) (v : Value), k ≤ 160 ∧ i = .int .i64 (96 + k) ∧ Hid (NewAt w k v wr)
theorem Zc7 (w : World) : Calls Tryz.prog 47 #[.int .i64 256] w fun e w' => ∃ v, e = .returned (.pointer (some ⟨w.heap.size, 0, none⟩)) ∧ NewAt w 160 v w' := by
 obtain ⟨i0, hi, hz0, hz1, hz2⟩ := info_parts Z8U
 go_enter Tryz.func47, Tryz.ntmps47
 go_wp2_with fail
 go_loopw [4] (fun i wr => ZcJ w i wr) (fun i _ => (256 - intOf i).toNat)
 case atStart => exact ⟨0, _, by omega, rfl, hid ⟨Blk.made _ _ _, World.ownsRow_nil _ _ _ _, qL⟩⟩
 case round =>
  obtain ⟨k, v, hk, rfl, HA⟩ := hrel
  have kb := HA.out.blk.cell 0
  have kb' : wr.cell? ⟨w.heap.size, 0, none⟩ = some v := kb
  have hfb := HA.out.blk.free 0
  have hlt : w.heap.size < wr.heap.size := HA.out.blk.lt
  clear kb
  by_cases hk2 : k < 160
  ·have b1 : decide ((96 : Int) + k < 256) = true := by simp; omega
   go_wp2_with (at_builtin; refine halt ?_)
   refine Z4g ?_
   refine Z1E rfl (.tmp 18) (.tmp 21) 54 rfl (w.heap.size + 1) 25 i0 _ 9 72 Tryz.underlying54 hi hz0 hz1 hz2 rfl (by decide) v k (Z0q (Z2e k)) rfl
    (own_below HA.out.own (Z06 (Below.refl _ _) _)) ⟨wr.heap.size, 0, none⟩ 1 1
    [.int .i64 (96 + k), .int .u64 256, .int .u64 0, .int .u64 0, .int .u64 0, .int .u64 0, .int .u64 0, .int .u64 0, .int .u64 0] rfl rfl (Z2a (cs := #[.int .i64 (96 + k), .int .u64 256, .int .u64 0, .int .u64 0, .int .u64 0, .int .u64 0, .int .u64 0, .int .u64 0, .int .u64 0]) (Blk.made _ _ _))
    (by intro u hu; simp at hu; rcases hu with rfl | rfl | rfl <;> rfl) (by omega) (by unfold maxLen; omega) (by omega) (by simp; omega) ?_
   intro g3 cap3 w3 hown3 hg3
   have hB3 := (HA.out.blk.alloc (.cells #[.int .i64 (96 + k), .int .u64 256, .int .u64 0, .int .u64 0, .int .u64 0, .int .u64 0, .int .u64 0, .int .u64 0, .int .u64 0] 25)).grown hg3 (own_ne HA.out.own (by omega))
   have hL3 := below_grown (w := w) (by have hbw := HA.out.below; exact qL) hg3 (fun j hj => by have := Z0k HA.out.own j hj; omega)
   have HB3 := hid hB3
   have HL3 := hid hL3
   have HW3 := hid hown3
   have k0 := hB3.cell 0
   have k0' : w3.cell? ⟨w.heap.size, 0, none⟩ = some v := k0
   have f0 := hB3.free 0
   clear hB3 hL3 hown3 hg3 k0
   go_wp2_with fail
   refine ⟨⟨k + 1, _, by omega, by rw [show (96 + (k : Int) + 1) = 96 + ((k + 1 : Nat) : Int) by omega], hid ⟨(HB3.out.put 0 _).cast rfl, ?_, HL3.out.setCell (by show w.heap.size ≤ w.heap.size; omega) _⟩⟩, by simp [intOf]; omega⟩
   rw [Z6T]
   exact Z01 HW3.out (by show w.heap.size < w.heap.size + 1; omega) _
  ·obtain rfl : k = 160 := by omega
   go_wp2_with fail
   refine bodyPost_ret (results_tmp rfl _ _ _) rfl ⟨v, rfl, HA.out⟩
end Go.Proofs.YtjmpekanlmepmaaGreatDoor
