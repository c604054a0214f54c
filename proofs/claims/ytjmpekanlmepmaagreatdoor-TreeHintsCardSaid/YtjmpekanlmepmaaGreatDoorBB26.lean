/- Package btree: a leaf is killed: not at all; no parent. -/
import Derived.Test.YtjmpekanlmepmaaGreatDoorBB25
set_option linter.all false
set_option maxRecDepth 20000
set_option maxHeartbeats 8000000
open Go.Lib (hid)
namespace Go.Proofs.YtjmpekanlmepmaaGreatDoor
open Go.RowKit
theorem Z38 {w : World} {base n size : Nat} {e : TypeId} {v : Value} {xs : List Value} (h : w.ownsRow base e size v n xs) : ∃ a0 c0, v = .slice a0 n c0 := by
 rcases Z56 h with ⟨rfl, rfl⟩ | ⟨g, cap, rfl⟩ <;> exact ⟨_, _, rfl⟩
section
variable (A : Nat → Prop) (op : Bt.Op) (known : List Bt.Page) (vf vk : Value) (s : Bt.St) (b : Nat) (level k : Int)
theorem Z4T (t : Bt.St) (w : World) (h : IsRun A op known vf vk s b w) (hA : ∀ c, A c → c < w.heap.size) (hh0 : 0 ≤ s.out.hops ∧ s.out.hops ≤ 1000) (hd : Bt.Dives known level k s t .absent) :
 Calls Tryz.prog 90 #[.pointer (some ⟨b, 0, none⟩), .int .i64 level, .int .u32 k] w (fun e w' => IsRun (New A w) op known vf vk t b w' ∧ Over b w w' ∧ ∃ v, e = .returned (.tuple #[.agg (Z0g Bt.Z0l Bt.Z1o v), .bool true, .bool false]) ∧ v.oneCell' = true) := by
 refine (Z4U A op known vf vk s b level k t _ w h hA hh0 hd).mono ?_
 rintro e w' ⟨h1, h2, v, h3, h4⟩
 exact ⟨h1, h2, v, h3, Z0Q h4⟩
theorem Z2I (t : Bt.St) (page : Bt.Page) (n : Bt.Node) (w : World) (h : IsRun A op known vf vk s b w) (hA : ∀ c, A c → c < w.heap.size) (hh0 : 0 ≤ s.out.hops ∧ s.out.hops ≤ 1000) (hd : Bt.Dives known level k s t (.at_ page n)) :
 Calls Tryz.prog 90 #[.pointer (some ⟨b, 0, none⟩), .int .i64 level, .int .u32 k] w (fun e w' => IsRun A op known vf vk t b w' ∧ Over b w w' ∧ ∃ v, e = .returned (.tuple #[.agg (Z0g page n v), .bool false, .bool true]) ∧ w'.ownsRow w.heap.size 69 3 v n.entries.length (Z04 n.entries)) :=
 Z4U A op known vf vk s b level k t _ w h hA hh0 hd
end
theorem wG1 {P : Prop} (h : P := by
 go_enter Tryz.func57, Tryz.ntmps57
 go_wp2_with fail
 refine qA fun hSt => ?_
 refine qS [0, 1, 2, 3, 4, 5] ?_
 iterate 6 (refine qT ?_; simp only [Act.put, qY])
 refine Z00.done ?_
 refine qD ?_ _
 go_wp2_with fail
 go_at_call 83; refine (Z1H A op known vf vk s b t page n _ ?hrun ?hlow hh0 HD.out).mono ?_
 case hrun => exact HR.out.below qL
 case hlow => exact fun c hc => by have := hA c hc; simp; omega
 rintro e w1 ⟨hrun1, ho1, v, rfl, hown⟩
 have hb1 := hrun1.lt
 have hv1 : ∀ c, v.ownBlock = some c → c < w1.heap.size := fun c hc => own_lt' hown c hc
 obtain ⟨va, vcp, rfl⟩ := Z38 hown
 have HR1 := hid hrun1.low
 have HOWN := hid hown
 have hsz : w.heap.size ≤ w1.heap.size := by have := World.grownBy.size ho1; simpa using this
 have HO1 := hid ho1
 clear hrun1 ho1 hown
 dsimp only
 iterate 13 go_step
 refine Z07 rfl 145 (.tmp 2) (.tmp 19) rfl (w1.heap.size) _ rfl rfl _ _ (Blk.made _ _ _) (by kernel_rfl) rfl (Z0A (Z0Q HOWN.out)) (fun wx B_wx ho_wx hz_wx => ?_)
 simp only [Act.put, qY]
 have kx := B_wx.cell
 rw [found_eq] at kx
 have HRX := hid ((HR1.out.alloc (.cells #[.int .i64 0, .int .u64 0, .int .u64 0, .int .u64 0, .int .u64 0, .int .u64 0, .int .u64 0, .int .u64 0, .int .u64 0, .int .i64 0, .bool false, .bool false, .int .u32 0, .int .i64 0, .int .i64 0, .slice none 0 0] 145)).grown ho_wx (by omega) (fun h1 => by omega))
 have HWX := hid (Z13 (own_below HOWN.out (Z06 (Below.refl _ _) _)) ho_wx (fun e => by have := hv1 _ e; omega))
 have HOX : Hid (Over b w wx) := hid (Over.new (Over.trans (Over.drew (Over.refl b w)) (Over.alloc (HO1.out) _)) ho_wx hsz)
 have HER : Hid (EntRow wx (.slice va n.entries.length vcp) n.entries) := hid (EntRow.of_own HWX.out rfl HEO.out)
 obtain ⟨un, uw, ue, uc, hc⟩ := HRX.out.cells
 have j1 : wx.cell? ⟨b, 1, none⟩ = some (.int .u32 op.key) := hc 1
 have j12 : wx.cell? ⟨b, 12, none⟩ = some (.bool t.out.found) := hc 12
 have j18 : wx.cell? ⟨b, 18, none⟩ = some (.int .i64 t.out.to.line) := hc 18
 have j19 : wx.cell? ⟨b, 19, none⟩ = some (.int .i64 t.out.to.gen) := hc 19
 have jf := HRX.out.free
 have hbx : b < wx.heap.size := HRX.out.lt
 have hgx : w1.heap.size < wx.heap.size := by rw [hz_wx]; simp
 have hgx2 : wx.heap.size ≤ w1.heap.size + 1 := by rw [hz_wx]; simp
 have hn2 : NoneAt wx := by obtain ⟨vn, vw, ve, vc, hr, _⟩ := HRX.out; exact hr.none
 have hgb : 0 < b := by obtain ⟨vn, vw, ve, vc, hr, _⟩ := HRX.out; exact hr.pos
 obtain ⟨g02, g12, gl3⟩ := hn2
 have HBX := hid B_wx
 clear hc B_wx ho_wx hz_wx
 go_wp2_with fail
 first
  | clear tg1
    go_at_call 90; refine (Z2I (fun c => A c ∧ c < w1.heap.size) op known vf vk t b 1 op.key t2 pp m _ ?hrun ?hlow hh1 HD2.out).mono ?_
    case hrun => exact HRX.out
    case hlow => exact fun c hc => by have := hc.2; omega
    rintro e w2 ⟨hrun2, ho2, u, rfl, hown2⟩
    obtain ⟨g, cap, rfl⟩ := Z0D hown2 (by omega)
    have hgl := Z0X hown2
    have hg1 : wx.heap.size ≤ g := hgl.1
    have hg2 : g < w2.heap.size := hgl.2
    have HR2 := hid hrun2
    have HW2 := hid hown2
    have HO2 := hid ho2
    have hz2 := World.grownBy.size ho2
    have HBX2 := hid (HBX.out.grown ho2 (by simp; omega))
    have HWX2 := hid (Z0H (own_base HWX.out (base' := b + 1) (by simp; omega)) ho2 (by omega))
    clear hrun2 hown2 ho2 hgl
    dsimp only
    iterate 16 go_step
    refine Z07 rfl 145 (.tmp 4) (.tmp 52) rfl (w2.heap.size) _ rfl rfl _ _ (Blk.made _ _ _) (by kernel_rfl) rfl (Z0A rfl) (fun wy B_wy ho_wy hz_wy => ?_)
    simp only [Act.put, qY]
    have ky := B_wy.cell
    rw [found_eq] at ky
    have BX := (HBX2.out.alloc (.cells #[.int .i64 0, .int .u64 0, .int .u64 0, .int .u64 0, .int .u64 0, .int .u64 0, .int .u64 0, .int .u64 0, .int .u64 0, .int .i64 0, .bool false, .bool false, .int .u32 0, .int .i64 0, .int .i64 0, .slice none 0 0] 145)).grown ho_wy (by simp; omega)
    have kx2 := BX.cell
    rw [found_eq] at kx2
    have hfx2 := BX.free
    have hfy2 := B_wy.free
    have HBXY := hid BX
    have HBY := hid B_wy
    have HRY := hid (((HR2.out.alloc (.cells #[.int .i64 0, .int .u64 0, .int .u64 0, .int .u64 0, .int .u64 0, .int .u64 0, .int .u64 0, .int .u64 0, .int .u64 0, .int .i64 0, .bool false, .bool false, .int .u32 0, .int .i64 0, .int .i64 0, .slice none 0 0] 145)).grown ho_wy (by omega) (fun h1 => by omega)))
    have HOY : Hid (Over b w wy) := hid (Over.new (Over.alloc (Over.trans HOX.out HO2.out) _) ho_wy (by omega))
    have HWXY := hid (Z13 (own_below HWX2.out (Z06 (Below.refl _ _) _)) ho_wy (fun e => by have := hv1 _ e; omega))
    have HMY := hid (Z13 (own_below HW2.out (Z06 (Below.refl _ _) _)) ho_wy (fun e => by simp [Value.ownBlock] at e; omega))
    have HERM : Hid (EntRow wy (.slice (some ⟨g, 0, none⟩) m.entries.length cap) m.entries) := hid (EntRow.of_own HMY.out rfl HEM.out)
    have hcells : ∀ j u, (Z04 m.entries)[j]? = some u → wy.cell? ⟨g, j, none⟩ = some u := Z0i HMY.out
    have c0 : wy.cell? ⟨g, c * 3, none⟩ = some (.int .u32 ek) := by rw [← HEK.out.1]; exact hcells _ _ (Z0a m.entries c m.entries[c] (List.getElem?_eq_getElem hcl) 0 _ rfl)
    have c1 : wy.cell? ⟨g, c * 3 + 1, none⟩ = some (.int .i64 q.line) := by rw [← HEK.out.2]; exact hcells _ _ (Z0a m.entries c m.entries[c] (List.getElem?_eq_getElem hcl) 1 _ rfl)
    have c2 : wy.cell? ⟨g, c * 3 + 1 + 1, none⟩ = some (.int .i64 q.gen) := by rw [← HEK.out.2]; exact hcells _ _ (Z0a m.entries c m.entries[c] (List.getElem?_eq_getElem hcl) 2 _ rfl)
    have c2' : wy.cell? ⟨g, c * 3 + 2, none⟩ = some (.int .i64 q.gen) := c2
    have hi1 : (0 : Int) ≤ c := by omega
    have hi2 : (c : Int) < m.entries.length := by omega
    obtain ⟨un2, uw2, ue2, uc2, hc2⟩ := HRY.out.cells
    have i1 : wy.cell? ⟨b, 1, none⟩ = some (.int .u32 op.key) := hc2 1
    have i12 : wy.cell? ⟨b, 12, none⟩ = some (.bool t2.out.found) := hc2 12
    have if2 := HRY.out.free
    have hby : b < wy.heap.size := HRY.out.lt
    have hxy : w1.heap.size < wy.heap.size := by rw [hz_wy]; simp; omega
    have hyy : w2.heap.size < wy.heap.size := by rw [hz_wy]; simp
    have hyy2 : wy.heap.size ≤ w2.heap.size + 1 := by rw [hz_wy]; simp
    have hgy : g < wy.heap.size := by omega
    clear hc2 B_wy ho_wy hz_wy BX hcells
    go_wp2_with fail
    refine qA fun hSt => ?_
    refine qS [0, 1, 2, 3, 4, 5, 6] ?_
    iterate 7 (refine qT ?_; simp only [Act.put, qY])
    refine Z00.done ?_
    refine qH 7 fun K hK => ?_
    go_simp
    go_at_call 91; refine (Z2v m (.slice (some ⟨g, 0, none⟩) m.entries.length cap) op.key _ ?hpf HAM.out.1 HAM.out.2).mono ?_; (case hpf => exact HERM.out.below qL); rintro e3 w3 ⟨rfl, hb3⟩; rw [← HCM.out]; ((obtain ⟨hc3, hf3, hs3⟩ := qR hb3); (try have := qN0 w w3); (try have := qN0 w1 w3); (try have := qN0 w2 w3); (try have := qN0 wy w3))
    go_wp2_with fail
    refine hK.out _ _ (SteadyAll.of qL) (fun hHeld => ?_)
    clear hK K
    refine qS [8] ?_
    refine qT ?_; simp only [Act.put, qY]
    refine Z00.done ?_
    refine qD ?_ _
    have hgw3 : g < w3.heap.size := by omega
    have hbw3 : b < w3.heap.size := by omega
    go_wp2_with fail
    refine qA fun hSt => ?_
    refine qS [0, 1, 2, 3, 4, 5, 6] ?_
    iterate 7 (refine qT ?_; simp only [Act.put, qY])
    refine Z00.done ?_
    refine qH 7 fun K hK => ?_
    go_simp
    go_at_call 33; refine (Z4r page HPO.out _).mono ?_; rintro e4 w4 ⟨rfl, hb4⟩; ((obtain ⟨hc4, hf4, hs4⟩ := qR hb4); (try have := qN0 w w4); (try have := qN0 w1 w4); (try have := qN0 w2 w4); (try have := qN0 wy w4); (try have := qN0 w3 w4)); simp only [Bt.Ptr.cells]
    go_wp2_with fail
    refine hK.out _ _ (SteadyAll.of qL) (fun hHeld => ?_)
    clear hK K
    refine qS [8, 9, 10, 11, 12, 13, 14, 15, 16, 17, 18, 19, 20] ?_
    iterate 13 (refine qT ?_; simp only [Act.put, qY])
    refine Z00.done ?_
    refine qD ?_ _
    have hgw4 : g < w4.heap.size := by omega
    have hbw4 : b < w4.heap.size := by omega
    go_wp2_with fail
    go_at_call 81; refine (Z1Z (fun c => A c ∧ c < w1.heap.size) op known vf vk t2 b 7 _ ?hrun).mono ?_
    case hrun => exact HRY.out.below qL
    rintro e w5 ⟨rfl, hrun5, ho5⟩
    have HR5 := hid hrun5
    clear hrun5
    go_wp2_with fail
    have hoy := HOY.out
    refine bodyPost_end (results_none rfl _ _ _) rfl ⟨rfl, ?_, qV⟩
    rw [HX.out]
    have hz3 := World.grownBy.size ho5
    have hoz := World.grownBy.size hoy
    refine HR5.out.imp (fun c hc => ?_)
    rcases hc with h1 | h1
    ·exact .inl h1.1
    ·exact .inr (by omega)
  | clear tg2
    have hox := HOX.out
    refine bodyPost_end (results_none rfl _ _ _) rfl ⟨rfl, ?_, qV⟩
    rw [HX.out]
    exact (HRX.out.field (s' := { t with out := { t.out with found := true } }) 12 _ (fun _ _ _ _ => rfl)).imp (fun c hc => .inl hc.1)) : P := h
theorem sG8 {P : Prop} (h : P := by
 have tg2 := trivial
 exact wG1) : P := h
theorem ZaN (A : Nat → Prop) (op : Bt.Op) (known : List Bt.Page) (vf vk : Value) (s : Bt.St) (b : Nat) (t : Bt.St) (page : Bt.Page) (n : Bt.Node) (w : World) (h : IsRun A op known vf vk s b w) (hA : ∀ c, A c → c < w.heap.size) (hroot : s.root ≠ Bt.nilP)
 (hh0 : 0 ≤ s.out.hops ∧ s.out.hops ≤ 1000) (hd : Bt.Dives known 0 op.key s t (.at_ page n)) (hk1 : 0 < n.entries.length) :
 Calls Tryz.prog 57 #[.pointer (some ⟨b, 0, none⟩)] w (Z0y A op known vf vk (s.kill op known) b (.tuple #[]) w) := by
 obtain ⟨hkn, hps, hlev, hlk⟩ := Dives.ends hd
 have hpok : page.Ok := h.knownRow.ok page hkn.1
 have hval := (Z0r hkn.2.2).1
 have hasc := Z0Z n hval
 have hentok : ∀ e ∈ n.entries, e.Ok := by rw [hkn.2.1]; exact Z1j page hpok
 have HX : Hid (s.kill op known = { t with out := { t.out with found := true } }) := hid (by
  unfold Bt.St.kill
  rw [if_neg hroot, hd.descend]
  simp only
  rw [if_pos (.inl hk1)])
 have bl : decide (0 < n.entries.length) = true := by simp [hk1]
 have bl2 : decide ((0 : Int) < (n.entries.length : Int)) = true := by simp [hk1]
 have HR := hid h
 have HD := hid hd
 have HAS := hid hasc
 have HEO := hid hentok
 have hlt := h.lt
 have hlt1 : b < w.heap.size + 1 := by omega
 obtain ⟨vn, vw, ve, vc, hc⟩ := h.cells
 have k34 : w.cell? ⟨b, 34, none⟩ = some (.int .i64 s.root.line) := hc 34
 have k35 : w.cell? ⟨b, 35, none⟩ = some (.int .i64 s.root.gen) := hc 35
 have hp : peq s.root.line s.root.gen 0 0 = false := by rw [Z0j]; simp [hroot]
 have eq := eql_ptr
 have hn : NoneAt w := by obtain ⟨vn, vw, ve, vc, hr, _⟩ := h; exact hr.none
 obtain ⟨g0, g1, gl⟩ := hn
 have gl1 : 0 < w.heap.size + 1 := by omega
 clear h hc hroot hd hkn hps hlev hlk hpok hval hasc hentok
 exact sG8
theorem Z9k (A : Nat → Prop) (op : Bt.Op) (known : List Bt.Page) (vf vk : Value) (s : Bt.St) (b : Nat) (t : Bt.St) (page : Bt.Page) (n : Bt.Node) (w : World) (h : IsRun A op known vf vk s b w) (hA : ∀ c, A c → c < w.heap.size) (hroot : s.root ≠ Bt.nilP)
 (hh0 : 0 ≤ s.out.hops ∧ s.out.hops ≤ 1000) (hd : Bt.Dives known 0 op.key s t (.at_ page n)) (hk1 : n.entries.length = 0) (hk2 : n.leftmost = true) :
 Calls Tryz.prog 57 #[.pointer (some ⟨b, 0, none⟩)] w (Z0y A op known vf vk (s.kill op known) b (.tuple #[]) w) := by
 obtain ⟨hkn, hps, hlev, hlk⟩ := Dives.ends hd
 have hpok : page.Ok := h.knownRow.ok page hkn.1
 have hval := (Z0r hkn.2.2).1
 have hasc := Z0Z n hval
 have hentok : ∀ e ∈ n.entries, e.Ok := by rw [hkn.2.1]; exact Z1j page hpok
 have HX : Hid (s.kill op known = { t with out := { t.out with found := true } }) := hid (by
  unfold Bt.St.kill
  rw [if_neg hroot, hd.descend]
  simp only
  rw [if_pos (.inr (.inl hk2))])
 have bl : decide (0 < n.entries.length) = false := by simp [hk1]
 have bl2 : decide ((0 : Int) < (n.entries.length : Int)) = false := by simp [hk1]
 have HR := hid h
 have HD := hid hd
 have HAS := hid hasc
 have HEO := hid hentok
 have hlt := h.lt
 have hlt1 : b < w.heap.size + 1 := by omega
 obtain ⟨vn, vw, ve, vc, hc⟩ := h.cells
 have k34 : w.cell? ⟨b, 34, none⟩ = some (.int .i64 s.root.line) := hc 34
 have k35 : w.cell? ⟨b, 35, none⟩ = some (.int .i64 s.root.gen) := hc 35
 have hp : peq s.root.line s.root.gen 0 0 = false := by rw [Z0j]; simp [hroot]
 have eq := eql_ptr
 have hn : NoneAt w := by obtain ⟨vn, vw, ve, vc, hr, _⟩ := h; exact hr.none
 obtain ⟨g0, g1, gl⟩ := hn
 have gl1 : 0 < w.heap.size + 1 := by omega
 clear h hc hroot hd hkn hps hlev hlk hpok hval hasc hentok hk1
 exact sG8
theorem Z9l (A : Nat → Prop) (op : Bt.Op) (known : List Bt.Page) (vf vk : Value) (s : Bt.St) (b : Nat) (t : Bt.St) (page : Bt.Page) (n : Bt.Node) (w : World) (h : IsRun A op known vf vk s b w) (hA : ∀ c, A c → c < w.heap.size) (hroot : s.root ≠ Bt.nilP)
 (hh0 : 0 ≤ s.out.hops ∧ s.out.hops ≤ 1000) (hd : Bt.Dives known 0 op.key s t (.at_ page n)) (hk1 : n.entries.length = 0) (hk2 : n.leftmost = false) (hk3 : n.right = Bt.nilP) :
 Calls Tryz.prog 57 #[.pointer (some ⟨b, 0, none⟩)] w (Z0y A op known vf vk (s.kill op known) b (.tuple #[]) w) := by
 obtain ⟨hkn, hps, hlev, hlk⟩ := Dives.ends hd
 have hpok : page.Ok := h.knownRow.ok page hkn.1
 have hval := (Z0r hkn.2.2).1
 have hasc := Z0Z n hval
 have hentok : ∀ e ∈ n.entries, e.Ok := by rw [hkn.2.1]; exact Z1j page hpok
 have HX : Hid (s.kill op known = { t with out := { t.out with found := true } }) := hid (by
  unfold Bt.St.kill
  rw [if_neg hroot, hd.descend]
  simp only
  rw [if_pos (.inr (.inr hk3))])
 have bl : decide (0 < n.entries.length) = false := by simp [hk1]
 have bl2 : decide ((0 : Int) < (n.entries.length : Int)) = false := by simp [hk1]
 have hpr : peq n.right.line n.right.gen 0 0 = true := by rw [Z0j]; simp [hk3]
 have HR := hid h
 have HD := hid hd
 have HAS := hid hasc
 have HEO := hid hentok
 have hlt := h.lt
 have hlt1 : b < w.heap.size + 1 := by omega
 obtain ⟨vn, vw, ve, vc, hc⟩ := h.cells
 have k34 : w.cell? ⟨b, 34, none⟩ = some (.int .i64 s.root.line) := hc 34
 have k35 : w.cell? ⟨b, 35, none⟩ = some (.int .i64 s.root.gen) := hc 35
 have hp : peq s.root.line s.root.gen 0 0 = false := by rw [Z0j]; simp [hroot]
 have eq := eql_ptr
 have hn : NoneAt w := by obtain ⟨vn, vw, ve, vc, hr, _⟩ := h; exact hr.none
 obtain ⟨g0, g1, gl⟩ := hn
 have gl1 : 0 < w.heap.size + 1 := by omega
 clear h hc hroot hd hkn hps hlev hlk hpok hval hasc hentok hk1 hk3
 exact sG8
theorem ZaK (A : Nat → Prop) (op : Bt.Op) (known : List Bt.Page) (vf vk : Value) (s : Bt.St) (b : Nat) (t : Bt.St) (page : Bt.Page) (n : Bt.Node) (w : World) (h : IsRun A op known vf vk s b w) (hA : ∀ c, A c → c < w.heap.size) (hroot : s.root ≠ Bt.nilP)
 (hh0 : 0 ≤ s.out.hops ∧ s.out.hops ≤ 1000) (hd : Bt.Dives known 0 op.key s t (.at_ page n)) (hk1 : n.entries.length = 0) (hk2 : n.leftmost = false) (hk3 : n.right ≠ Bt.nilP) (hh1 : 0 ≤ t.out.hops ∧ t.out.hops ≤ 1000) (t2 : Bt.St) (hd2 : Bt.Dives known 1 op.key t t2 .absent) :
 Calls Tryz.prog 57 #[.pointer (some ⟨b, 0, none⟩)] w (Z0y A op known vf vk (s.kill op known) b (.tuple #[]) w) := by
 obtain ⟨hkn, hps, hlev, hlk⟩ := Dives.ends hd
 have hpok : page.Ok := h.knownRow.ok page hkn.1
 have hval := (Z0r hkn.2.2).1
 have hasc := Z0Z n hval
 have hentok : ∀ e ∈ n.entries, e.Ok := by rw [hkn.2.1]; exact Z1j page hpok
 have HX : Hid (s.kill op known = t2.fail 7 []) := hid (by
  unfold Bt.St.kill
  rw [if_neg hroot, hd.descend]
  simp only
  rw [if_neg (by simp [hk1, hk2, hk3]), hd2.descend])
 have bl : decide (0 < n.entries.length) = false := by simp [hk1]
 have bl2 : decide ((0 : Int) < (n.entries.length : Int)) = false := by simp [hk1]
 have hpr : peq n.right.line n.right.gen 0 0 = false := by rw [Z0j]; simp [hk3]
 have HD2 := hid hd2
 have HR := hid h
 have HD := hid hd
 have HAS := hid hasc
 have HEO := hid hentok
 have hlt := h.lt
 have hlt1 : b < w.heap.size + 1 := by omega
 obtain ⟨vn, vw, ve, vc, hc⟩ := h.cells
 have k34 : w.cell? ⟨b, 34, none⟩ = some (.int .i64 s.root.line) := hc 34
 have k35 : w.cell? ⟨b, 35, none⟩ = some (.int .i64 s.root.gen) := hc 35
 have hp : peq s.root.line s.root.gen 0 0 = false := by rw [Z0j]; simp [hroot]
 have eq := eql_ptr
 have hn : NoneAt w := by obtain ⟨vn, vw, ve, vc, hr, _⟩ := h; exact hr.none
 obtain ⟨g0, g1, gl⟩ := hn
 have gl1 : 0 < w.heap.size + 1 := by omega
 clear h hc hroot hd hkn hps hlev hlk hpok hval hasc hentok hk1 hk3 hd2
 have tg97 := trivial
 have tg98 := trivial
 exact wG15
end Go.Proofs.YtjmpekanlmepmaaGreatDoor
