/- Package btree: a key is removed. -/
import Derived.Test.YtjmpekanlmepmaaGreatDoorB26
import Derived.Test.YtjmpekanlmepmaaGreatDoorB15
set_option linter.all false
namespace Go.Proofs.YtjmpekanlmepmaaGreatDoor
open Go.RowKit
set_option maxRecDepth 20000 in
theorem wG13 {P : Prop} (h : P := by
 go_enter Tryz.func53, Tryz.ntmps53
 go_wp2_with fail
 refine qA fun hSt => ?_
 refine qS [0, 1, 2, 3, 4, 5] ?_
 iterate 6 (refine qT ?_; simp only [Act.put, qY])
 refine TakeSeq.done ?_
 refine qD ?_ _
 go_wp2_with fail
 first
  | clear tg84
    go_at_call 82; refine (noTree_any A op known vf vk s b 16 _ ?hrun ?hlow hrp HLK.out).mono ?_
    case hrun => exact HR.out.below qL
    case hlow => exact fun c hc => by have := hA c hc; simp; omega
    rintro e w1 ⟨rfl, hrun1, ho1⟩
    have HR1 := Lib.hid hrun1
    clear hrun1
    go_wp2_with fail
    refine bodyPost_end (results_none rfl _ _ _) rfl ⟨rfl, ?_, qV⟩
    rw [HX.out]
    exact HR1.out
  | clear tg85
    go_at_call 83; refine (leaf_some A op known vf vk s b t page n _ ?hrun ?hlow hh0 HD.out).mono ?_
    case hrun => exact HR.out.below qL
    case hlow => exact fun c hc => by have := hA c hc; simp; omega
    rintro e w1 ⟨hrun1, ho1, v, rfl, hown⟩
    have hb1 := hrun1.lt
    have hv1 : ∀ c, v.ownBlock = some c → c < w1.heap.size := fun c hc => own_lt' hown c hc
    have HR1 := Lib.hid hrun1.low
    have HOWN := Lib.hid hown
    have hsz : w.heap.size ≤ w1.heap.size := by have := World.grownBy.size ho1; simpa using this
    have HO1 := Lib.hid ho1
    clear hrun1 ho1 hown
    dsimp only
    iterate 13 go_step
    refine wpList_store_cut rfl 145 (.tmp 2) (.tmp 17) rfl (w1.heap.size) _ rfl rfl _ _ (Blk.made _ _ _) (by kernel_rfl) rfl (found_one (own_one HOWN.out)) (fun wx B_wx ho_wx hz_wx => ?_)
    simp only [Act.put, qY]
    have kx := B_wx.cell
    rw [found_eq] at kx
    have HRX := Lib.hid ((HR1.out.alloc (.cells #[.int .i64 0, .int .u64 0, .int .u64 0, .int .u64 0, .int .u64 0, .int .u64 0, .int .u64 0, .int .u64 0, .int .u64 0, .int .i64 0, .bool false, .bool false, .int .u32 0, .int .i64 0, .int .i64 0, .slice none 0 0] 145)).grown ho_wx (by omega) (fun h1 => by omega))
    have HWX := Lib.hid (own_new (own_below HOWN.out (below_alloc (Below.refl _ _) _)) ho_wx (fun e => by have := hv1 _ e; omega))
    have HOX : Hid (Over b w wx) := Lib.hid (Over.new (Over.trans (Over.drew (Over.refl b w)) (Over.alloc (HO1.out) _)) ho_wx hsz)
    have HER : Hid (EntRow wx v n.entries) := Lib.hid (EntRow.of_own HWX.out rfl HEO.out)
    obtain ⟨un, uw, ue, uc, hc⟩ := HRX.out.cells
    have j1 : wx.cell? ⟨b, 1, none⟩ = some (.int .u32 op.key) := hc 1
    have j12 : wx.cell? ⟨b, 12, none⟩ = some (.bool t.out.found) := hc 12
    have j18 : wx.cell? ⟨b, 18, none⟩ = some (.int .i64 t.out.to.line) := hc 18
    have j19 : wx.cell? ⟨b, 19, none⟩ = some (.int .i64 t.out.to.gen) := hc 19
    have jf := HRX.out.free
    have hbx : b < wx.heap.size := HRX.out.lt
    have hgx : w1.heap.size < wx.heap.size := by rw [hz_wx]; simp
    have hgx2 : wx.heap.size ≤ w1.heap.size + 1 := by rw [hz_wx]; simp
    clear hc B_wx ho_wx hz_wx
    go_wp2_with fail
    refine qA fun hSt => ?_
    refine qS [0, 1, 2, 3, 4, 5, 6] ?_
    iterate 7 (refine qT ?_; simp only [Act.put, qY])
    refine TakeSeq.done ?_
    refine qH 7 fun K hK => ?_
    go_simp
    go_at_call 84; refine (search_any n v op.key _ ?hpf HAS.out.1 HAS.out.2).mono ?_; (case hpf => exact HER.out.below qL); rintro e2 w2 ⟨rfl, hb2⟩; rw [← HC.out, HHK.out]; ((obtain ⟨hc2, hf2, hs2⟩ := qR hb2); (try have := qN0 w w2); (try have := qN0 w1 w2); (try have := qN0 wx w2))
    go_wp2_with fail
    refine hK.out _ _ (SteadyAll.of qL) (fun hHeld => ?_)
    clear hK K
    refine qS [8, 9, 10, 11, 12] ?_
    iterate 5 (refine qT ?_; simp only [Act.put, qY])
    refine TakeSeq.done ?_
    refine qD ?_ _
    first
     | clear tg86
       go_wp2_with fail
       go_at_call 81; refine (fail_lines (fun c => A c ∧ c < w1.heap.size) op known vf vk t b w2.heap.size 1 1 [page.line] 16 _ ?hrun ?hq rfl (by omega) ?hg).mono ?_
       case hrun => exact (HRX.out.below qL).alloc _
       case hq => exact own_line1' rfl (by omega)
       case hg => exact fun h1 => by have := h1.2; omega
       rintro e w3 ⟨rfl, hrun3, ho3⟩
       have HR3 := Lib.hid hrun3
       have HO3 := Lib.hid ho3
       clear hrun3 ho3
       go_wp2_with fail
       have hox := HOX.out
       have hov : Over b w (w2.alloc (.cells #[.int .i64 page.line] 3)) := qV
       refine bodyPost_end (results_none rfl _ _ _) rfl ⟨rfl, ?_, Over.two hov HO3.out (by omega)⟩
       rw [HX.out]
       refine HR3.out.imp (fun c hc => ?_)
       rcases hc with h1 | h1
       · exact .inl h1.1
       · exact .inr (by omega)
     | clear tg87
       obtain ⟨g, cap, rfl⟩ := own_form HWX.out (by omega)
       have hcells : ∀ j u, (entCells n.entries)[j]? = some u → wx.cell? ⟨g, j, none⟩ = some u := own_cells HWX.out
       have c1 : wx.cell? ⟨g, c * 3 + 1, none⟩ = some (.int .i64 q.line) := by rw [HQ.out]; exact hcells _ _ (entCells_get n.entries c n.entries[c] (List.getElem?_eq_getElem hcl) 1 _ rfl)
       have c2 : wx.cell? ⟨g, c * 3 + 1 + 1, none⟩ = some (.int .i64 q.gen) := by rw [HQ.out]; exact hcells _ _ (entCells_get n.entries c n.entries[c] (List.getElem?_eq_getElem hcl) 2 _ rfl)
       have hi1 : (0 : Int) ≤ c := by omega
       have hi2 : (c : Int) < n.entries.length := by omega
       have hgl := own_lt HOWN.out
       have hg0 : w.heap.size ≤ g := by have := hgl.1; simpa using this
       have hg1 : b < g := by omega
       have hg2 : g < wx.heap.size := by have := hgl.2; omega
       have hgw : g < w1.heap.size := hgl.2
       have hnb : (Value.slice (some ⟨g, 0, none⟩) n.entries.length cap).ownBlock ≠ some b := fun e => by simp [Value.ownBlock] at e; omega
       have hw1 : IntKind.i64.wrap ((c : Int) + 1) = (c : Int) + 1 := by rw [IntKind.wrap_i64]; omega
       have HW2 := Lib.hid (own_set (p := ⟨b, 19, none⟩) (own_set (p := ⟨b, 18, none⟩) (own_base (base' := w.heap.size) (own_below HWX.out (show Below wx.heap.size wx w2 from qL)) (by simp)) hnb (.int .i64 q.line)) hnb (.int .i64 q.gen))
       have HRW := Lib.hid (((HRX.out.below (show Below wx.heap.size wx w2 from qL)).field (s' := { t with out := t.out.withTo ⟨q.line, t.out.to.gen⟩ }) 18 (.int .i64 q.line) (fun _ _ _ _ => rfl)).field (s' := { t with out := t.out.withTo q }) 19 (.int .i64 q.gen) (fun _ _ _ _ => rfl))
       have hox := HOX.out
       have HOW : Hid (Over b w ((w2.setCell ⟨b, 18, none⟩ (.int .i64 q.line)).setCell ⟨b, 19, none⟩ (.int .i64 q.gen))) := Lib.hid qV
       clear hcells hgl hox
       go_wp2_with fail
       refine wp_region_held_drew (S := SteadyTwo b g _) (by kernel_rfl) (SteadyTwo.of (Below.refl _ _).drew) ?_
       intro hSt
       refine qS [0, 1, 2, 3, 4, 5, 6, 7] ?_
       iterate 8 (refine qT ?_; simp only [Act.put, qY])
       refine TakeSeq.done ?_
       refine qH 8 fun K hK => ?_
       go_simp
       go_at_call 88; refine (delete_at w.heap.size g n.entries.length cap c n.entries _ ?hown rfl hcl (by omega)).mono ?_; (case hown => exact own_below HW2.out qL); rintro e3 w3 ⟨g3, cap3, rfl, hown3, hg3⟩; have HW3 := Lib.hid hown3; have HG3 := Lib.hid hg3; clear hown3 hg3
       go_wp2_with fail
       refine hK.out _ _ (SteadyTwo.grown qL HG3.out) (fun hHeld => ?_)
       clear hK K
       refine qH 9 fun K hK => ?_
       go_simp
       have hl3 := own_lt HW3.out; have hz3 := World.grownBy.size HG3.out; simp only [size_alloc, size_drew, size_setCell] at hz3; go_at_call 86; refine (HS.out (fun c => A c ∧ c < w1.heap.size) _ (.slice (some ⟨g, 0, none⟩) n.entries.length cap) g3 (n.entries.length - 1) cap3 ⟨_, _, _, rfl⟩ ?hrun ?hlow (by omega) HES.out.2.1.symm (own_cap HW3.out).1 (EntRow.of_own (by rw [HES.out.1]; exact HW3.out) HES.out.2.1 HES.out.2.2)).mono ?_; (case hrun => exact (HRW.out.below qL).grown HG3.out hg1 (fun h1 => by have h2 := hA _ h1.1; omega)); (case hlow => exact fun c hc => by have := hc.2; omega); rintro e4 w4 ⟨rfl, hrun4, ho4⟩; have HR4 := Lib.hid hrun4; have HO4 := Lib.hid ho4; clear hrun4 ho4
       go_wp2_with fail
       refine hK.out _ _ (SteadyTwo.over (SteadyTwo.grown qL HG3.out) (by have := World.grownBy.size HG3.out; simp only [size_alloc, size_drew, size_setCell] at this ⊢; omega) HO4.out) (fun hHeld => ?_)
       clear hK K
       refine qD ?_ _
       go_wp2_with fail
       have how := HOW.out
       have hO3 : Over b w w3 := Over.grow_new qV HG3.out (by omega)
       have ho4 := HO4.out
       refine bodyPost_end (results_none rfl _ _ _) rfl ⟨rfl, ?_, qV⟩
       rw [HX.out]
       refine HR4.out.imp (fun c hc => ?_)
       have hz3 := World.grownBy.size hO3
       rcases hc with h1 | h1
       · exact .inl h1.1
       · exact .inr (by omega)) : P := h
set_option maxRecDepth 10000 in
set_option maxHeartbeats 2000000 in
theorem remove_root (A : Nat → Prop) (op : Bt.Op) (known : List Bt.Page) (vf vk : Value) (s : Bt.St) (b : Nat) (w : World) (h : IsRun A op known vf vk s b w) (hA : ∀ c, A c → c < w.heap.size) (hroot : s.root = Bt.nilP) (hrp : s.rootPage.Ok) (hlk : Bt.locked s.rootPage = false) :
 Calls Tryz.prog 53 #[.pointer (some ⟨b, 0, none⟩)] w (RunPost A op known vf vk (s.remove op known) b (.tuple #[]) w) := by
 have HX : Hid (s.remove op known = s.noTree 16) := Lib.hid (by simp [Bt.St.remove, hroot])
 have HR := Lib.hid h
 have HLK := Lib.hid hlk
 have hlt := h.lt
 have hlt1 : b < w.heap.size + 1 := by omega
 obtain ⟨vn, vw, ve, vc, hc⟩ := h.cells
 have k34 : w.cell? ⟨b, 34, none⟩ = some (.int .i64 s.root.line) := hc 34
 have k35 : w.cell? ⟨b, 35, none⟩ = some (.int .i64 s.root.gen) := hc 35
 have hp : peq s.root.line s.root.gen 0 0 = true := by rw [peq_nil]; simp [hroot]
 have eq := eql_ptr
 have hn : NoneAt w := by obtain ⟨vn, vw, ve, vc, hr, _⟩ := h; exact hr.none
 obtain ⟨g0, g1, gl⟩ := hn
 have gl1 : 0 < w.heap.size + 1 := by omega
 clear h hc hroot hlk
 have tg84 := trivial
 exact wG13
set_option maxRecDepth 10000 in
set_option maxHeartbeats 4000000 in
theorem remove_none (A : Nat → Prop) (op : Bt.Op) (known : List Bt.Page) (vf vk : Value) (s : Bt.St) (b : Nat) (t : Bt.St) (page : Bt.Page) (n : Bt.Node) (w : World) (h : IsRun A op known vf vk s b w) (hA : ∀ c, A c → c < w.heap.size) (hroot : s.root ≠ Bt.nilP)
 (hh0 : 0 ≤ s.out.hops ∧ s.out.hops ≤ 1000) (hd : Bt.Dives known 0 op.key s t (.at_ page n)) (hhk : Bt.hasKey n.entries op.key = false) :
 Calls Tryz.prog 53 #[.pointer (some ⟨b, 0, none⟩)] w (RunPost A op known vf vk (s.remove op known) b (.tuple #[]) w) := by
 obtain ⟨hkn, hps, hlev, hlk⟩ := Dives.ends hd
 have hpok : page.Ok := h.knownRow.ok page hkn.1
 have hval := (readNode_valid hkn.2.2).1
 have hasc := valid_asc n hval
 have hentok : ∀ e ∈ n.entries, e.Ok := by rw [hkn.2.1]; exact entry_ok page hpok
 obtain ⟨c, hc0⟩ : ∃ c, c = Bt.child n.entries op.key := ⟨_, rfl⟩
 have HC := Lib.hid hc0
 have HX : Hid (s.remove op known = t.fail 16 [page.line]) := Lib.hid (by
  unfold Bt.St.remove
  rw [if_neg hroot, hd.descend]
  simp only
  rw [if_neg (by rw [hhk]; simp)])
 have HHK := Lib.hid hhk
 have HR := Lib.hid h
 have HD := Lib.hid hd
 have HAS := Lib.hid hasc
 have HEO := Lib.hid hentok
 have hlt := h.lt
 have hlt1 : b < w.heap.size + 1 := by omega
 obtain ⟨vn, vw, ve, vc, hc⟩ := h.cells
 have k34 : w.cell? ⟨b, 34, none⟩ = some (.int .i64 s.root.line) := hc 34
 have k35 : w.cell? ⟨b, 35, none⟩ = some (.int .i64 s.root.gen) := hc 35
 have hp : peq s.root.line s.root.gen 0 0 = false := by rw [peq_nil]; simp [hroot]
 have eq := eql_ptr
 have hn : NoneAt w := by obtain ⟨vn, vw, ve, vc, hr, _⟩ := h; exact hr.none
 obtain ⟨g0, g1, gl⟩ := hn
 have gl1 : 0 < w.heap.size + 1 := by omega
 clear h hc hroot hd hkn hps hlev hlk hpok hval hasc hentok hc0 hhk
 have tg85 := trivial
 have tg86 := trivial
 exact wG13
set_option maxRecDepth 10000 in
set_option maxHeartbeats 4000000 in
theorem remove_leaf (A : Nat → Prop) (op : Bt.Op) (known : List Bt.Page) (vf vk : Value) (s : Bt.St) (b : Nat) (t : Bt.St) (page : Bt.Page) (n : Bt.Node) (w : World) (h : IsRun A op known vf vk s b w) (hA : ∀ c, A c → c < w.heap.size) (hroot : s.root ≠ Bt.nilP)
 (hh0 : 0 ≤ s.out.hops ∧ s.out.hops ≤ 1000) (hd : Bt.Dives known 0 op.key s t (.at_ page n)) (hhk : Bt.hasKey n.entries op.key = true)
 (HS : Hid (∀ (A' : Nat → Prop) (w' : World) (v : Value) (g m cap : Nat), (∃ a0 n0 c0, v = .slice a0 n0 c0) → IsRun A' op known vf vk ({ t with out := t.out.withTo (n.entries.getD (Bt.child n.entries op.key) default).to } : Bt.St) b w' → (∀ c, A' c → c < w'.heap.size) → b < g → m = (Bt.deleteAt n.entries (Bt.child n.entries op.key)).length → m ≤ cap →
  EntRow w' (.slice (some ⟨g, 0, none⟩) m cap) (Bt.deleteAt n.entries (Bt.child n.entries op.key)) →
  Calls Tryz.prog 86 #[.pointer (some ⟨b, 0, none⟩), .agg (foundCells page n v), .slice (some ⟨g, 0, none⟩) m cap, .slice none 0 0] w'
   (RunPost A' op known vf vk (({ t with out := t.out.withTo (n.entries.getD (Bt.child n.entries op.key) default).to } : Bt.St).store op page n (Bt.deleteAt n.entries (Bt.child n.entries op.key)) []) b (.tuple #[]) w'))) :
 Calls Tryz.prog 53 #[.pointer (some ⟨b, 0, none⟩)] w (RunPost A op known vf vk (s.remove op known) b (.tuple #[]) w) := by
 obtain ⟨hkn, hps, hlev, hlk⟩ := Dives.ends hd
 have hpok : page.Ok := h.knownRow.ok page hkn.1
 have hval := (readNode_valid hkn.2.2).1
 have hasc := valid_asc n hval
 have hentok : ∀ e ∈ n.entries, e.Ok := by rw [hkn.2.1]; exact entry_ok page hpok
 obtain ⟨c, hc0⟩ : ∃ c, c = Bt.child n.entries op.key := ⟨_, rfl⟩
 have HC := Lib.hid hc0
 have hcl : c < n.entries.length := by
  unfold Bt.hasKey at hhk
  rw [← hc0] at hhk
  by_cases hlt : c < n.entries.length
  · exact hlt
  · rw [List.getElem?_eq_none (by omega)] at hhk; cases hhk
 obtain ⟨es, hes⟩ : ∃ es, es = Bt.deleteAt n.entries c := ⟨_, rfl⟩
 obtain ⟨q, hq⟩ : ∃ q, q = (n.entries.getD c default).to := ⟨_, rfl⟩
 have hq2 : q = n.entries[c].to := by rw [hq, List.getD_eq_getElem?_getD, List.getElem?_eq_getElem hcl]; rfl
 rw [← hc0, ← hes, ← hq] at HS
 have hel : es.length = n.entries.length - 1 := by rw [hes]; simp [Bt.deleteAt]; omega
 have hek : ∀ e ∈ es, e.Ok := by
  intro e he
  rw [hes] at he
  simp only [Bt.deleteAt, List.mem_append] at he
  rcases he with h1 | h1
  · exact hentok e (List.mem_of_mem_take h1)
  · exact hentok e (List.mem_of_mem_drop h1)
 have HES := Lib.hid (And.intro hes (And.intro hel hek))
 have HX : Hid (s.remove op known = ({ t with out := t.out.withTo q } : Bt.St).store op page n es []) := Lib.hid (by
  unfold Bt.St.remove
  rw [if_neg hroot, hd.descend]
  simp only
  rw [if_pos hhk, ← hc0, ← hes, ← hq])
 have h5 := hasc.2
 have HHK := Lib.hid hhk
 have HQ := Lib.hid hq2
 clear hes hel hek hq hq2
 have HR := Lib.hid h
 have HD := Lib.hid hd
 have HAS := Lib.hid hasc
 have HEO := Lib.hid hentok
 have hlt := h.lt
 have hlt1 : b < w.heap.size + 1 := by omega
 obtain ⟨vn, vw, ve, vc, hc⟩ := h.cells
 have k34 : w.cell? ⟨b, 34, none⟩ = some (.int .i64 s.root.line) := hc 34
 have k35 : w.cell? ⟨b, 35, none⟩ = some (.int .i64 s.root.gen) := hc 35
 have hp : peq s.root.line s.root.gen 0 0 = false := by rw [peq_nil]; simp [hroot]
 have eq := eql_ptr
 have hn : NoneAt w := by obtain ⟨vn, vw, ve, vc, hr, _⟩ := h; exact hr.none
 obtain ⟨g0, g1, gl⟩ := hn
 have gl1 : 0 < w.heap.size + 1 := by omega
 clear h hc hroot hd hkn hps hlev hlk hpok hval hasc hentok hc0 hhk
 have tg85 := trivial
 have tg87 := trivial
 exact wG13
set_option maxRecDepth 10000 in
set_option maxHeartbeats 4000000 in
theorem insert_there (A : Nat → Prop) (op : Bt.Op) (known : List Bt.Page) (vf vk : Value) (s : Bt.St) (b : Nat) (t : Bt.St) (page : Bt.Page) (n : Bt.Node) (w : World) (h : IsRun A op known vf vk s b w) (hA : ∀ c, A c → c < w.heap.size) (hroot : s.root ≠ Bt.nilP)
 (hh0 : 0 ≤ s.out.hops ∧ s.out.hops ≤ 1000) (hd : Bt.Dives known 0 op.key s t (.at_ page n)) (hhk : Bt.hasKey n.entries op.key = true) :
 Calls Tryz.prog 52 #[.pointer (some ⟨b, 0, none⟩)] w (RunPost A op known vf vk (s.insert op known) b (.tuple #[]) w) := by
 obtain ⟨hkn, hps, hlev, hlk⟩ := Dives.ends hd
 have hpok : page.Ok := h.knownRow.ok page hkn.1
 have hval := (readNode_valid hkn.2.2).1
 have hasc := valid_asc n hval
 have hentok : ∀ e ∈ n.entries, e.Ok := by rw [hkn.2.1]; exact entry_ok page hpok
 obtain ⟨c, hc0⟩ : ∃ c, c = Bt.child n.entries op.key := ⟨_, rfl⟩
 have HC := Lib.hid hc0
 have hcle : c ≤ n.entries.length := by rw [hc0]; exact child_le _ _
 have HHK := Lib.hid hhk
 have HX : Hid (s.insert op known = t.fail 17 [page.line]) := Lib.hid (by
  unfold Bt.St.insert
  rw [if_neg hroot, hd.descend]
  simp only
  rw [if_pos hhk])
 have HAS := Lib.hid hasc
 have HEO := Lib.hid hentok
 clear hkn hps hlev hlk hpok hval hasc hentok hc0 hhk
 have HR := Lib.hid h
 have HD := Lib.hid hd
 have hlt := h.lt
 have hlt1 : b < w.heap.size + 1 := by omega
 obtain ⟨vn, vw, ve, vc, hc⟩ := h.cells
 have k1 : w.cell? ⟨b, 1, none⟩ = some (.int .u32 op.key) := hc 1
 have k3 : w.cell? ⟨b, 3, none⟩ = some (.int .i64 op.to.line) := hc 3
 have k4 : w.cell? ⟨b, 4, none⟩ = some (.int .i64 op.to.gen) := hc 4
 have k34 : w.cell? ⟨b, 34, none⟩ = some (.int .i64 s.root.line) := hc 34
 have k35 : w.cell? ⟨b, 35, none⟩ = some (.int .i64 s.root.gen) := hc 35
 have hp : peq s.root.line s.root.gen 0 0 = false := by rw [peq_nil]; simp [hroot]
 have eq := eql_ptr
 have hn : NoneAt w := by obtain ⟨vn, vw, ve, vc, hr, _⟩ := h; exact hr.none
 obtain ⟨g0, g1, gl⟩ := hn
 have gl1 : 0 < w.heap.size + 1 := by omega
 clear h hc hroot hd
 have tg81 := trivial
 have tg83 := trivial
 exact wG12
theorem infoPage : (Tryz.prog.info? 25).map (fun i => (i.zero, i.size, i.bytes)) = some (some (.agg #[.int .i64 0, .int .u64 0, .int .u64 0, .int .u64 0, .int .u64 0, .int .u64 0, .int .u64 0, .int .u64 0, .int .u64 0]), 9, 72) := by kernel_rfl
def newPage (i : Nat) : Bt.Page := ⟨96 + i, 256, 0, 0, 0, 0, 0, 0, 0⟩
def newPages (k : Nat) : List Bt.Page := (List.range k).map newPage
theorem newPages_succ (k : Nat) : pageCells (newPages (k + 1)) = pageCells (newPages k) ++ [.int .i64 (96 + k), .int .u64 256, .int .u64 0, .int .u64 0, .int .u64 0, .int .u64 0, .int .u64 0, .int .u64 0, .int .u64 0] := by
 simp [newPages, pageCells, List.range_succ, newPage, Bt.Page.cells]
theorem nine_news {w : World} {b : Nat} {cs : Array Value} {t : TypeId} (h : Blk w b t cs) : ∀ j v, cs.toList[j]? = some v → w.cell? ((⟨b, 0, none⟩ : Addr).add j) = some v := by
 intro j v hv
 have e : ((⟨b, 0, none⟩ : Addr).add j) = ⟨b, j, none⟩ := by simp [Addr.add]; omega
 rw [e, h.cell]
 simpa using hv
/-- What New has done when k pages have been made. -/
structure NewAt (w : World) (k : Nat) (v : Value) (wr : World) : Prop where
 blk : Blk wr w.heap.size 111 #[v, .int .i64 256, .int .i64 0, .slice none 0 0, .int .i64 1, .int .i64 0, .int .u32 1]
 own : wr.ownsRow (w.heap.size + 1) 25 9 v k (pageCells (newPages k))
 below : Below w.heap.size w wr
def NewRel (w : World) (i : Value) (wr : World) : Prop := ∃ (k : Nat) (v : Value), k ≤ 160 ∧ i = .int .i64 (96 + k) ∧ Hid (NewAt w k v wr)
set_option maxRecDepth 10000 in
set_option maxHeartbeats 2000000 in
theorem heapNew (w : World) : Calls Tryz.prog 47 #[.int .i64 256] w fun e w' => ∃ v, e = .returned (.pointer (some ⟨w.heap.size, 0, none⟩)) ∧ NewAt w 160 v w' := by
 obtain ⟨i0, hi, hz0, hz1, hz2⟩ := info_parts infoPage
 go_enter Tryz.func47, Tryz.ntmps47
 go_wp2_with fail
 go_loopw [4] (fun i wr => NewRel w i wr) (fun i _ => (256 - intOf i).toNat)
 case atStart => exact ⟨0, _, by omega, rfl, Lib.hid ⟨Blk.made _ _ _, World.ownsRow_nil _ _ _ _, qL⟩⟩
 case round =>
  obtain ⟨k, v, hk, rfl, HA⟩ := hrel
  have kb := HA.out.blk.cell 0
  have kb' : wr.cell? ⟨w.heap.size, 0, none⟩ = some v := kb
  have hfb := HA.out.blk.free 0
  have hlt : w.heap.size < wr.heap.size := HA.out.blk.lt
  clear kb
  by_cases hk2 : k < 160
  · have b1 : decide ((96 : Int) + k < 256) = true := by simp; omega
    go_wp2_with (at_builtin; refine halt ?_)
    refine unhalt ?_
    refine wpList_append_mine rfl (.tmp 18) (.tmp 21) 54 rfl (w.heap.size + 1) 25 i0 _ 9 72 Tryz.underlying54 hi hz0 hz1 hz2 rfl (by decide) v k (pageCells (newPages k)) rfl
     (own_below HA.out.own (below_alloc (Below.refl _ _) _)) ⟨wr.heap.size, 0, none⟩ 1 1
     [.int .i64 (96 + k), .int .u64 256, .int .u64 0, .int .u64 0, .int .u64 0, .int .u64 0, .int .u64 0, .int .u64 0, .int .u64 0] rfl rfl (nine_news (cs := #[.int .i64 (96 + k), .int .u64 256, .int .u64 0, .int .u64 0, .int .u64 0, .int .u64 0, .int .u64 0, .int .u64 0, .int .u64 0]) (Blk.made _ _ _))
     (by intro u hu; simp at hu; rcases hu with rfl | rfl | rfl <;> rfl) (by omega) (by unfold maxLen; omega) (by omega) (by simp; omega) ?_
    intro g3 cap3 w3 hown3 hg3
    have hB3 := (HA.out.blk.alloc (.cells #[.int .i64 (96 + k), .int .u64 256, .int .u64 0, .int .u64 0, .int .u64 0, .int .u64 0, .int .u64 0, .int .u64 0, .int .u64 0] 25)).grown hg3 (own_ne HA.out.own (by omega))
    have hL3 := below_grown (w := w) (by have hbw := HA.out.below; exact qL) hg3 (fun j hj => by have := own_row_ge HA.out.own j hj; omega)
    have HB3 := Lib.hid hB3
    have HL3 := Lib.hid hL3
    have HW3 := Lib.hid hown3
    have k0 := hB3.cell 0
    have k0' : w3.cell? ⟨w.heap.size, 0, none⟩ = some v := k0
    have f0 := hB3.free 0
    clear hB3 hL3 hown3 hg3 k0
    go_wp2_with fail
    refine ⟨⟨k + 1, _, by omega, by rw [show (96 + (k : Int) + 1) = 96 + ((k + 1 : Nat) : Int) by omega], Lib.hid ⟨(HB3.out.put 0 _).cast rfl, ?_, HL3.out.setCell (by show w.heap.size ≤ w.heap.size; omega) _⟩⟩, by simp [intOf]; omega⟩
    rw [newPages_succ]
    exact own_aside HW3.out (by show w.heap.size < w.heap.size + 1; omega) _
  · obtain rfl : k = 160 := by omega
    go_wp2_with fail
    refine bodyPost_ret (results_tmp rfl _ _ _) rfl ⟨v, rfl, HA.out⟩
end Go.Proofs.YtjmpekanlmepmaaGreatDoor
