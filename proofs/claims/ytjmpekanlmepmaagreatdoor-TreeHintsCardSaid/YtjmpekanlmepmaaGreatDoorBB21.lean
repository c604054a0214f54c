/- Package btree: a descent that ends at its root, or anyhow; a leaf. -/
import Derived.Test.YtjmpekanlmepmaaGreatDoorBB20
import Derived.Test.YtjmpekanlmepmaaGreatDoorBB15
import Derived.Test.YtjmpekanlmepmaaGreatDoorBB16
import Derived.Test.YtjmpekanlmepmaaGreatDoorBB17
set_option linter.all false
set_option maxRecDepth 20000
set_option maxHeartbeats 8000000
open Go.Lib (hid)
namespace Go.Proofs.YtjmpekanlmepmaaGreatDoor
open Go.RowKit
theorem Z7N (A : Nat → Prop) (op : Bt.Op) (known : List Bt.Page) (vf vk : Value) (s s' : Bt.St) (b : Nat) (level k : Int) (w : World) (h : IsRun A op known vf vk s b w) (hA : ∀ c, A c → c < w.heap.size)
 (hl : s.look known s.root false = (s', none)) :
 Calls Tryz.prog 90 #[.pointer (some ⟨b, 0, none⟩), .int .i64 level, .int .u32 k] w (Z3J A op known vf vk b s' .stopped w) := by
 have HR := hid h
 have HL := hid hl
 have hlt := h.lt
 have hlt1 : b < w.heap.size + 1 := by omega
 obtain ⟨vn, vw, ve, vc, hc⟩ := h.cells
 have k34 : w.cell? ⟨b, 34, none⟩ = some (.int .i64 s.root.line) := hc 34
 have k35 : w.cell? ⟨b, 35, none⟩ = some (.int .i64 s.root.gen) := hc 35
 clear h hl hc
 go_enter Tryz.func90, Tryz.ntmps90
 go_wp2_with fail
 go_at_call 92; refine (Z4m A op known vf vk s b s.root _ ?hrun ?hlow).mono ?_
 case hrun => exact HR.out.below qL
 case hlow => exact fun c hc => by have := hA c hc; simp; omega
 rw [HL.out]
 rintro e w1 ⟨hrun1, ho1, rfl⟩
 have HR1 := hid hrun1
 clear hrun1
 ((obtain ⟨hc1, hf1, hs1⟩ := qO ho1); (try have := qN0 w w1))
 have BF := (Blk.made w 145 #[.int .i64 0, .int .u64 0, .int .u64 0, .int .u64 0, .int .u64 0, .int .u64 0, .int .u64 0, .int .u64 0, .int .u64 0, .int .i64 0, .bool false, .bool false, .int .u32 0, .int .i64 0, .int .i64 0, .slice none 0 0]).grown ho1 (by simp; omega)
 dsimp only
 iterate 10 go_step
 refine Z07 rfl 145 (.tmp 6) (.tmp 19) rfl (w.heap.size) _ rfl rfl _ _ BF (by kernel_rfl) rfl (Z0A rfl) (fun wx B_wx ho_wx hz_wx => ?_)
 simp only [Act.put, qY]
 have HBX := hid B_wx
 clear BF B_wx
 go_upto_region 3 with (fail)
 go_step
 refine Z2s rfl 145 (.tmp 6) rfl (w.heap.size) rfl _ _ _ HBX.out Tryz.underlying145 rfl (by kernel_rfl) ?_
 refine Z2y rfl 145 (.tmp 6) (.tmp 23) rfl (w.heap.size) _ rfl rfl _ HBX.out (by kernel_rfl) (Z0A rfl) ?_
 simp only [Act.put, qY]
 go_wp2_with fail
 refine bodyPost_ret (Z0W rfl _ _ (w.heap.size) _ _ _ rfl HBX.out Tryz.underlying145 rfl (by kernel_rfl)) rfl ?_
 have hna : ¬ New A (w.alloc (.cells #[.int .i64 0, .int .u64 0, .int .u64 0, .int .u64 0, .int .u64 0, .int .u64 0, .int .u64 0, .int .u64 0, .int .u64 0, .int .i64 0, .bool false, .bool false, .int .u32 0, .int .i64 0, .int .i64 0, .slice none 0 0] 145)) w.heap.size := by
  rintro (h1 | h1)
  ·have := hA _ h1; omega
  ·simp only [size_alloc] at h1; omega
 refine Z3J.mk' (v := .slice none 0 0) (r := none) (a := false) ((HR1.out.grown ho_wx hlt hna).imp (fun c hc => ?_)) (Over.new qV ho_wx (Nat.le_refl _)) rfl rfl rfl (World.ownsRow_nil _ _ _ _)
 ·rcases hc with h1 | h1
  ·exact .inl h1
  ·exact .inr (by simp only [size_alloc] at h1; omega)
theorem Z6v (A : Nat → Prop) (op : Bt.Op) (known : List Bt.Page) (vf vk : Value) (s : Bt.St) (b : Nat) (level k : Int) (page : Bt.Page) (n : Bt.Node) (w : World) (h : IsRun A op known vf vk s b w) (hA : ∀ c, A c → c < w.heap.size)
 (hl : s.look known s.root false = (s, some (page, n))) (hlev : n.level < level) :
 Calls Tryz.prog 90 #[.pointer (some ⟨b, 0, none⟩), .int .i64 level, .int .u32 k] w (Z3J A op known vf vk b s .absent w) := by
 have HR := hid h
 have HL := hid hl
 have hlt := h.lt
 have hlt1 : b < w.heap.size + 1 := by omega
 obtain ⟨vn, vw, ve, vc, hc⟩ := h.cells
 have k34 : w.cell? ⟨b, 34, none⟩ = some (.int .i64 s.root.line) := hc 34
 have k35 : w.cell? ⟨b, 35, none⟩ = some (.int .i64 s.root.gen) := hc 35
 have b1 : decide (n.level < level) = true := by simp [hlev]
 clear h hl hc hlev
 go_enter Tryz.func90, Tryz.ntmps90
 go_wp2_with fail
 go_at_call 92; refine (Z4m A op known vf vk s b s.root _ ?hrun ?hlow).mono ?_
 case hrun => exact HR.out.below qL
 case hlow => exact fun c hc => by have := hA c hc; simp; omega
 rw [HL.out]
 rintro e w1 ⟨hrun1, ho1, v, rfl, hown⟩
 have HR1 := hid hrun1
 have HOWN := hid hown
 clear hrun1 hown
 ((obtain ⟨hc1, hf1, hs1⟩ := qO ho1); (try have := qN0 w w1))
 have BF := (Blk.made w 145 #[.int .i64 0, .int .u64 0, .int .u64 0, .int .u64 0, .int .u64 0, .int .u64 0, .int .u64 0, .int .u64 0, .int .u64 0, .int .i64 0, .bool false, .bool false, .int .u32 0, .int .i64 0, .int .i64 0, .slice none 0 0]).grown ho1 (by simp; omega)
 dsimp only
 iterate 10 go_step
 refine Z07 rfl 145 (.tmp 6) (.tmp 19) rfl (w.heap.size) _ rfl rfl _ _ BF (by kernel_rfl) rfl (Z0A (Z0Q HOWN.out)) (fun wx B_wx ho_wx hz_wx => ?_)
 simp only [Act.put, qY]
 have HBX := hid B_wx
 have kx := B_wx.cell
 rw [found_eq] at kx
 clear BF B_wx
 go_upto_region 5 with (fail)
 iterate 4 go_step
 refine Z07 rfl 145 (.tmp 6) (.tmp 29) rfl (w.heap.size) _ rfl rfl _ _ HBX.out (by kernel_rfl) rfl (by kernel_rfl) (fun wy B_wy ho_wy hz_wy => ?_)
 have HBY := hid B_wy
 clear B_wy
 go_wp2_with fail
 refine bodyPost_ret (Z0W rfl _ _ (w.heap.size) _ _ _ rfl HBY.out Tryz.underlying145 rfl (by kernel_rfl)) rfl ?_
 have hna : ¬ A w.heap.size := fun h1 => by have := hA _ h1; omega
 refine Z3J.mk' (v := .slice none 0 0) (r := none) (a := true) (((HR1.out.grown ho_wx hlt hna).grown ho_wy hlt hna).imp (fun c hc => .inl hc)) (Over.new (Over.new qV ho_wx (Nat.le_refl _)) ho_wy (Nat.le_refl _)) rfl rfl rfl (World.ownsRow_nil _ _ _ _)
theorem Z4U (A : Nat → Prop) (op : Bt.Op) (known : List Bt.Page) (vf vk : Value) (s : Bt.St) (b : Nat) (level k : Int) (t : Bt.St) (wk : Bt.Walk) (w : World) (h : IsRun A op known vf vk s b w) (hA : ∀ c, A c → c < w.heap.size)
 (hh0 : 0 ≤ s.out.hops ∧ s.out.hops ≤ 1000) (hd : Bt.Dives known level k s t wk) :
 Calls Tryz.prog 90 #[.pointer (some ⟨b, 0, none⟩), .int .i64 level, .int .u32 k] w (Z3J A op known vf vk b t wk w) := by
 cases hd with
 | stop h1 => exact Z7N A op known vf vk s t b level k w h hA h1
 | absent h1 h2 => exact Z6v A op known vf vk s b level k _ _ w h hA h1 h2
 | goes h1 h2 h3 h4 => exact Z7O A op known vf vk s b level k _ _ _ t wk w h hA h1 h2 h3 hh0 h4
theorem Zbu (A : Nat → Prop) (op : Bt.Op) (known : List Bt.Page) (vf vk : Value) (s : Bt.St) (b : Nat) (t : Bt.St) (wk : Bt.Walk) (w : World) (h : IsRun A op known vf vk s b w) (hA : ∀ c, A c → c < w.heap.size)
 (hh0 : 0 ≤ s.out.hops ∧ s.out.hops ≤ 1000) (hd : Bt.Dives known 0 op.key s t wk) :
 Calls Tryz.prog 83 #[.pointer (some ⟨b, 0, none⟩)] w (Zb6 A op known vf vk b (t, wk.got) w) := by
 have HR := hid h
 have HD := hid hd
 have hlt := h.lt
 have hlt1 : b < w.heap.size + 1 := by omega
 obtain ⟨vn, vw, ve, vc, hc⟩ := h.cells
 have k1 : w.cell? ⟨b, 1, none⟩ = some (.int .u32 op.key) := hc 1
 clear h hc hd
 go_enter Tryz.func83, Tryz.ntmps83
 go_wp2_with fail
 go_at_call 90; refine (Z4U A op known vf vk s b 0 op.key t wk _ ?hrun ?hlow hh0 HD.out).mono ?_
 case hrun => exact HR.out.below qL
 case hlow => exact fun c hc => by have := hA c hc; simp; omega
 rintro e w1 ⟨hrun1, ho1, v, rfl, hown⟩
 have HR1 := hid hrun1
 have HOWN := hid hown
 clear hrun1 hown
 ((obtain ⟨hc1, hf1, hs1⟩ := qO ho1); (try have := qN0 w w1))
 have BF := (Blk.made w 145 #[.int .i64 0, .int .u64 0, .int .u64 0, .int .u64 0, .int .u64 0, .int .u64 0, .int .u64 0, .int .u64 0, .int .u64 0, .int .i64 0, .bool false, .bool false, .int .u32 0, .int .i64 0, .int .i64 0, .slice none 0 0]).grown ho1 (by simp; omega)
 have HBF := hid BF
 clear BF
 dsimp only
 iterate 16 go_step
 refine Z07 rfl 145 (.tmp 4) (.tmp 15) rfl (w1.heap.size) _ rfl rfl _ _ (Blk.made _ _ _) (by kernel_rfl) rfl (Z0A (Z0Q HOWN.out)) (fun wx B_wx ho_wx hz_wx => ?_)
 simp only [Act.put, qY]
 have HBX := hid B_wx
 have kx := B_wx.cell
 rw [found_eq] at kx
 clear B_wx
 go_upto_region 2 with (fail)
 go_step
 refine Z2s rfl 145 (.tmp 4) rfl (w1.heap.size) rfl _ _ _ HBX.out Tryz.underlying145 rfl (by kernel_rfl) ?_
 simp only [Act.put, qY]
 have BF := (HBF.out.alloc (.cells #[.int .i64 0, .int .u64 0, .int .u64 0, .int .u64 0, .int .u64 0, .int .u64 0, .int .u64 0, .int .u64 0, .int .u64 0, .int .i64 0, .bool false, .bool false, .int .u32 0, .int .i64 0, .int .i64 0, .slice none 0 0] 145)).grown ho_wx (by simp; omega)
 iterate 3 go_step
 refine Z07 rfl 145 (.tmp 2) (.tmp 18) rfl (w.heap.size) _ rfl rfl _ _ BF (by kernel_rfl) rfl (Z0A (Z0Q HOWN.out)) (fun wy B_wy ho_wy hz_wy => ?_)
 simp only [Act.put, qY]
 have HBY := hid B_wy
 clear BF B_wy
 go_wp2_with fail
 refine bodyPost_ret (Z0K rfl _ _ (w.heap.size) _ _ _ rfl HBY.out Tryz.underlying145 rfl (by kernel_rfl)) rfl ?_
 have hnb : ∀ c, Kp A (w.alloc (.cells #[.int .i64 0, .int .u64 0, .int .u64 0, .int .u64 0, .int .u64 0, .int .u64 0, .int .u64 0, .int .u64 0, .int .u64 0, .int .i64 0, .bool false, .bool false, .int .u32 0, .int .i64 0, .int .i64 0, .slice none 0 0] 145)) wk.got c ∧ c < w1.heap.size → (A c ∨ (wk.got = none ∧ w.heap.size < c)) ∧ c < w1.heap.size := fun c h1 => ⟨h1.1.cases.imp id (fun h2 => ⟨h2.1, by have := h2.2; simp only [size_alloc] at this; omega⟩), h1.2⟩
 have R1 := ((HR1.out.low.imp hnb).alloc (.cells #[.int .i64 0, .int .u64 0, .int .u64 0, .int .u64 0, .int .u64 0, .int .u64 0, .int .u64 0, .int .u64 0, .int .u64 0, .int .i64 0, .bool false, .bool false, .int .u32 0, .int .i64 0, .int .i64 0, .slice none 0 0] 145)).grown ho_wx (by omega) (fun h1 => by omega)
 have R2 := R1.grown ho_wy hlt (fun h1 => by
  rcases h1.1 with h2 | h2
  ·have := hA _ h2; omega
  ·omega)
 have O1 : Over b w (w1.alloc (.cells #[.int .i64 0, .int .u64 0, .int .u64 0, .int .u64 0, .int .u64 0, .int .u64 0, .int .u64 0, .int .u64 0, .int .u64 0, .int .i64 0, .bool false, .bool false, .int .u32 0, .int .i64 0, .int .i64 0, .slice none 0 0] 145)) := qV
 refine ⟨R2.imp (fun c hc => ?_), Over.new (Over.new O1 ho_wx (by omega)) ho_wy (Nat.le_refl _), v, rfl, own_base (Z0H (Z13 (own_below HOWN.out (Z06 (Below.refl _ _) _)) ho_wx ?_) ho_wy (by simp)) (by simp)⟩
 ·rcases hc.1 with h1 | h1
  ·exact Kp.intro (.inl h1)
  ·exact Kp.intro (.inr ⟨h1.1, by omega⟩)
 ·intro e
  have := own_lt' HOWN.out _ e
  omega
theorem Z34 (A : Nat → Prop) (op : Bt.Op) (known : List Bt.Page) (vf vk : Value) (s : Bt.St) (b : Nat) (q : Bt.Ptr) (w : World) (h : IsRun A op known vf vk s b w) (hA : ∀ c, A c → c < w.heap.size) :
 Calls Tryz.prog 92 #[.pointer (some ⟨b, 0, none⟩), .agg q.cells, lockFn true] w (Z6j A op known vf vk b (s.look known q true) w) := by
 have HR := hid h
 have hlt := h.lt
 have k8 : w.cell? ⟨b, 8, none⟩ = some vk := by obtain ⟨vn, vw, ve, vc, hr, _⟩ := h; exact hr.blk.cell 8
 have HK : Hid (PgRow w vk known) := hid (by obtain ⟨vn, vw, ve, vc, hr, _⟩ := h; exact hr.known)
 have hlt1 : b < w.heap.size + 1 := by omega
 have hlt2 : b < w.heap.size + 1 + 1 := by omega
 clear h
 unfold Bt.Ptr.cells lockFn
 go_enter Tryz.func92, Tryz.ntmps92
 go_wp2_with fail
 go_cut [8, 9, 10] (Z7X (Bt.lookup known q 4 true) ((w.alloc (.cells #[.int .i64 q.line, .int .i64 q.gen] 27)).alloc (.cells #[.int .i64 0, .int .u64 0, .int .u64 0, .int .u64 0, .int .u64 0, .int .u64 0, .int .u64 0, .int .u64 0, .int .u64 0, .int .i64 0, .bool false, .bool false, .int .u32 0, .int .i64 0, .int .i64 0, .slice none 0 0] 145)))
 case first =>
  refine qA fun hSt => ?_
  refine qS [0, 1, 2, 3, 4, 5] ?_
  iterate 6 (refine qT ?_; simp only [Act.put, qY])
  refine Z00.done ?_
  refine wpAnyH_ready (rs := [6, 11]) (by kernel_rfl) (by simp) ?_
  refine AllReadyH.cons rfl (fun K hK => ?_) (AllReadyH.cons rfl (fun K hK => ?_) (AllReadyH.nil))
  ·skip
   rw [if_pos (by rfl)]
   go_simp
   go_at_call 32; refine (Z5k known vk q _ _ ?hpg).mono ?_; (case hpg => exact HK.out.below qL); rintro e w1 ⟨rfl, hb⟩; simp only [Bt.Page.cells]; ((obtain ⟨hc1, hf1, hs1⟩ := qR hb); (try have := qN0 w w1); (try have := qN1 w w1))
   go_wp2_with fail
   refine hK.out _ _ (SteadyAll.of qL) (fun hHeld => ?_)
   clear hK K
   refine qS [7, 8, 9, 10] ?_
   iterate 4 (refine qT ?_; simp only [Act.put, qY])
   refine Z00.done ?_
   refine qH 11 fun K hK => ?_
   go_simp
   refine hK.out _ _ (SteadyAll.of qL) (fun hHeld => ?_)
   clear hK K
   refine qH 12 fun K hK => ?_
   go_simp
   refine hK.out _ _ (SteadyAll.of qL) (fun hHeld => ?_)
   clear hK K
   refine qS [13, 14] ?_
   iterate 2 (refine qT ?_; simp only [Act.put, qY])
   refine Z00.done ?_
   refine qD ?_ _
   go_wp2_with fail
   go_meet
   exact ⟨_, rfl, by simp; omega, Blk.made _ _ _, rfl, rfl, qL⟩
  ·skip
   rw [if_pos (by rfl)]
   go_simp
   refine hK.out _ _ (SteadyAll.of qL) (fun hHeld => ?_)
   clear hK K
   refine qH 6 fun K hK => ?_
   go_simp
   go_at_call 32; refine (Z5k known vk q _ _ ?hpg2).mono ?_; (case hpg2 => exact HK.out.below qL); rintro e w1 ⟨rfl, hb⟩; simp only [Bt.Page.cells]; ((obtain ⟨hc1, hf1, hs1⟩ := qR hb); (try have := qN0 w w1); (try have := qN1 w w1))
   go_wp2_with fail
   refine hK.out _ _ (SteadyAll.of qL) (fun hHeld => ?_)
   clear hK K
   refine qS [7, 8, 9, 10] ?_
   iterate 4 (refine qT ?_; simp only [Act.put, qY])
   refine Z00.done ?_
   refine qH 12 fun K hK => ?_
   go_simp
   refine hK.out _ _ (SteadyAll.of qL) (fun hHeld => ?_)
   clear hK K
   refine qS [13, 14] ?_
   iterate 2 (refine qT ?_; simp only [Act.put, qY])
   refine Z00.done ?_
   refine qD ?_ _
   go_wp2_with fail
   have BN := ((Z2S w (t := 25) (cs := #[.int .i64 0, .int .u64 0, .int .u64 0, .int .u64 0, .int .u64 0, .int .u64 0, .int .u64 0, .int .u64 0, .int .u64 0])).drew).kept hb
   go_meet
   exact ⟨_, rfl, by simp, BN.all9 _ _ _ _ _ _ _ _ _, rfl, rfl, qL⟩
 case rest =>
  obtain ⟨g, rfl, hg, BG, rfl, rfl, hbc⟩ := hcut
  have HBG := hid BG
  have HBC := hid hbc
  clear BG
  ((obtain ⟨hc5, hf5, hs5⟩ := qR hbc); (try have := qN0 w wc); (try have := qN1 w wc))
  have hzb : b < wc.heap.size := by omega
  have HRC := hid (HR.out.below (w' := wc) qL)
  have HNA : Hid (¬ New A wc (w.heap.size + 1)) := hid (by
   rintro (h1 | h1)
   ·have := hA _ h1; omega
   ·omega)
  have HIM : Hid (∀ c, New A wc c → New A w c) := hid (fun c hc => by
   rcases hc with h1 | h1
   ·exact .inl h1
   ·exact .inr (by omega))
  rcases hL : Bt.lookup known q 4 true with page | _ | c
  ·have HP := hid (HK.out.ok page (Z2G hL))
   have HLL := hid hL
   have e1 : (Bt.Look.found page).code = 0 := rfl
   have e2 : (Bt.Look.found page).have_ = true := rfl
   have kg : ∀ i, wc.cell? ⟨g, i, none⟩ = (#[.int .i64 page.line, .int .u64 page.head, .int .u64 page.d0, .int .u64 page.d1, .int .u64 page.d2, .int .u64 page.d3, .int .u64 page.d4, .int .u64 page.d5, .int .u64 page.d6] : Array Value)[i]? := by
    have := HBG.out.cell
    rw [hL] at this
    exact this
   have hgw : g < wc.heap.size := HBG.out.lt
   rw [e1, e2]
   clear hL e1 e2
   have HNW : Hid (NoneAt wc) := hid (by obtain ⟨vn, vw, ve, vc, hr, _⟩ := HRC.out; exact hr.none)
   go_wp2_with fail
   go_at_call 28; refine (Z36 page HP.out _ HNW.out).mono ?_
   rintro e w2 (⟨hrn, rfl, hb2⟩ | ⟨v, hrn, rfl, hown, hb2⟩)
   ·have HX : Hid (s.look known q true = (s.fail 14 [], none)) := hid (by simp only [Bt.St.look, HLL.out, hrn])
    clear hrn
    ((obtain ⟨hc2, hf2, hs2⟩ := qR hb2); (try have := qN0 w w2); (try have := qN1 w w2); (try have := qN0 wc w2))
    have hg2 : g < w2.heap.size := by omega
    simp only [Z02]
    go_wp2_with fail
    go_at_call 81; refine (Z1Z A op known vf vk s b 14 _ ?hrun).mono ?_
    case hrun => exact HRC.out.below qL
    rintro e w3 ⟨rfl, hrun3, ho3⟩
    have HR3 := hid hrun3
    clear hrun3
    ((obtain ⟨hc3, hf3, hs3⟩ := qO ho3); (try have := qN0 w w3); (try have := qN1 w w3); (try have := qN0 wc w3))
    go_wp2_with fail
    have BF := ((((Z0R w (o := .cells #[.int .i64 q.line, .int .i64 q.gen] 27) (t := 145) (cs := #[.int .i64 0, .int .u64 0, .int .u64 0, .int .u64 0, .int .u64 0, .int .u64 0, .int .u64 0, .int .u64 0, .int .u64 0, .int .i64 0, .bool false, .bool false, .int .u32 0, .int .i64 0, .int .i64 0, .slice none 0 0])).kept HBC.out).kept hb2).alloc _).grown ho3 (by simp; omega)
    refine bodyPost_ret (Z0K rfl _ _ (w.heap.size + 1) _ _ _ rfl (by have B := BF; exact qK) Tryz.underlying145 rfl (by kernel_rfl)) rfl ?_
    rw [HX.out]
    have hna : ¬ New A (w2.alloc (.cells #[.int .i64 Bt.Z1o.level, .bool Bt.Z1o.leftmost, .bool Bt.Z1o.dead, .int .u32 Bt.Z1o.high, .int .i64 Bt.Z1o.right.line, .int .i64 Bt.Z1o.right.gen, .slice none 0 0] 73)) (w.heap.size + 1) := by
     rintro (h1 | h1)
     ·have := hA _ h1; omega
     ·simp at h1; omega
    refine ⟨(HR3.out.put16 (by omega) hna _ _ _ _ _ _ _ _ _ _ _ _ _ _ _ _).imp (fun c hc => by
     rcases hc with h1 | h1
     ·exact .inl h1
     ·exact .inr (by simp at h1; omega)), qV, ?_⟩
    rw [set16]
    rfl
   ·have HX : Hid (s.look known q true = (s, some (page, page.node))) := hid (by simp only [Bt.St.look, HLL.out, hrn])
    have HOWN := hid hown
    have hsv := qSt hown
    clear hrn hown
    ((obtain ⟨hc2, hf2, hs2⟩ := qR hb2); (try have := qN0 w w2); (try have := qN1 w w2); (try have := qN0 wc w2))
    have hg2 : g < w2.heap.size := by omega
    simp only [Z02]
    go_wp2_with fail
    have BF := ((Z0R w (o := .cells #[.int .i64 q.line, .int .i64 q.gen] 27) (t := 145) (cs := #[.int .i64 0, .int .u64 0, .int .u64 0, .int .u64 0, .int .u64 0, .int .u64 0, .int .u64 0, .int .u64 0, .int .u64 0, .int .i64 0, .bool false, .bool false, .int .u32 0, .int .i64 0, .int .i64 0, .slice none 0 0])).kept HBC.out).kept hb2
    refine bodyPost_ret (Z0K rfl _ _ (w.heap.size + 1) _ _ _ rfl (by have B := BF; exact qK) Tryz.underlying145 rfl (by kernel_rfl)) rfl ?_
    rw [HX.out]
    have hna : ¬ A (w.heap.size + 1) := fun h1 => by have := hA _ h1; omega
    refine ⟨(((HRC.out.below hb2).put16 (by omega) hna _ _ _ _ _ _ _ _ _ _ _ _ _ _ _ _).below (Z06 (Below.refl _ _) _)), qV, v, ?_, own_below (Z33 (own_base HOWN.out (by omega)) (Z2F HOWN.out (by omega)) _ _ _ _ _ _ _ _ _ _ _ _ _ _ _ _) (Z06 (Below.refl _ _) _)⟩
    rw [set16]
    rfl
  ·have HX : Hid (s.look known q true = (s.wait q.line, none)) := hid (by simp only [Bt.St.look, hL])
   have e1 : Bt.Look.missing.code = 0 := rfl
   have e2 : Bt.Look.missing.have_ = false := rfl
   rw [e1, e2]
   clear hL e1 e2
   go_wp2_with fail
   go_at_call 79; refine (Z8K A op known vf vk s b q.line _ HRC.out).mono ?_
   rintro e w2 ⟨rfl, hrun2, ho2⟩
   have HR2 := hid hrun2
   clear hrun2
   ((obtain ⟨hc2, hf2, hs2⟩ := qO ho2); (try have := qN0 w w2); (try have := qN1 w w2); (try have := qN0 wc w2))
   go_wp2_with fail
   have BF := ((Z0R w (o := .cells #[.int .i64 q.line, .int .i64 q.gen] 27) (t := 145) (cs := #[.int .i64 0, .int .u64 0, .int .u64 0, .int .u64 0, .int .u64 0, .int .u64 0, .int .u64 0, .int .u64 0, .int .u64 0, .int .i64 0, .bool false, .bool false, .int .u32 0, .int .i64 0, .int .i64 0, .slice none 0 0])).kept HBC.out).grown ho2 (by simp; omega)
   refine bodyPost_ret (Z0K rfl _ _ (w.heap.size + 1) _ _ _ rfl (by have B := BF; exact qK) Tryz.underlying145 rfl (by kernel_rfl)) rfl ?_
   rw [HX.out]
   refine ⟨(HR2.out.put16 (by omega) HNA.out _ _ _ _ _ _ _ _ _ _ _ _ _ _ _ _).imp HIM.out, qV, ?_⟩
   rw [set16]
   rfl
  ·have hc := Z64 hL
   have bc : (c != 0) = true := by simp; omega
   have HX : Hid (s.look known q true = (s.fail c [], none)) := hid (by simp only [Bt.St.look, hL])
   have e1 : (Bt.Look.bad c).code = c := rfl
   rw [e1]
   clear hL hc e1
   go_wp2_with fail
   go_at_call 81; refine (Z1Z A op known vf vk s b c _ HRC.out).mono ?_
   rintro e w2 ⟨rfl, hrun2, ho2⟩
   have HR2 := hid hrun2
   clear hrun2
   ((obtain ⟨hc2, hf2, hs2⟩ := qO ho2); (try have := qN0 w w2); (try have := qN1 w w2); (try have := qN0 wc w2))
   go_wp2_with fail
   have BF := ((Z0R w (o := .cells #[.int .i64 q.line, .int .i64 q.gen] 27) (t := 145) (cs := #[.int .i64 0, .int .u64 0, .int .u64 0, .int .u64 0, .int .u64 0, .int .u64 0, .int .u64 0, .int .u64 0, .int .u64 0, .int .i64 0, .bool false, .bool false, .int .u32 0, .int .i64 0, .int .i64 0, .slice none 0 0])).kept HBC.out).grown ho2 (by simp; omega)
   refine bodyPost_ret (Z0K rfl _ _ (w.heap.size + 1) _ _ _ rfl (by have B := BF; exact qK) Tryz.underlying145 rfl (by kernel_rfl)) rfl ?_
   rw [HX.out]
   refine ⟨(HR2.out.put16 (by omega) HNA.out _ _ _ _ _ _ _ _ _ _ _ _ _ _ _ _).imp HIM.out, qV, ?_⟩
   rw [set16]
   rfl
def Z1Y (s : Bt.St) (n : Bt.Node) : Bt.Node := ⟨n.level + 1, true, false, Bt.Z08, Bt.nilP, [⟨n.high, s.root⟩, ⟨Bt.Z08, n.right⟩]⟩
theorem Z0r {p : Bt.Page} {n : Bt.Node} (h : Bt.Z19 p = some n) : n.valid = true ∧ n = p.node := by
 unfold Bt.Z19 at h
 split at h
 ·cases h
 ·split at h
  ·rename_i h2
   rw [Option.some.inj h] at h2
   exact ⟨h2.1, (Option.some.inj h).symm⟩
  ·cases h
theorem Z87 {n : Bt.Node} (h : n.valid = true) : 0 ≤ n.level ∧ n.level ≤ 8 := by
 unfold Bt.Node.valid at h
 split at h
 ·cases h
 ·omega
theorem Z8j (A : Nat → Prop) (op : Bt.Op) (known : List Bt.Page) (vf vk : Value) (s : Bt.St) (b : Nat) (page : Bt.Page) (n : Bt.Node) (w : World) (h : IsRun A op known vf vk s b w) (hA : ∀ c, A c → c < w.heap.size)
 (hroot : s.root ≠ Bt.nilP) (hl : s.look known s.root true = (s, some (page, n))) (hright : n.right ≠ Bt.nilP) (hlev : n.level ≠ 8) (hf : op.fresh = []) :
 Calls Tryz.prog 56 #[.pointer (some ⟨b, 0, none⟩)] w (Z0y A op known vf vk (s.raise op known) b (.tuple #[]) w) := by
 have HX : Hid (s.raise op known = (s.fresh op [page.line]).1) := hid (by simp [Bt.St.raise, hroot, hl, hright, hlev, Bt.St.fresh, hf])
 have HY : Hid ((s.fresh op [page.line]).2 = none) := hid (by simp [Bt.St.fresh, hf])
 have HR := hid h
 have HL := hid hl
 have HF := hid hf
 have hlt := h.lt
 have hlt1 : b < w.heap.size + 1 := by omega
 obtain ⟨vn, vw, ve, vc, hc⟩ := h.cells
 have k34 : w.cell? ⟨b, 34, none⟩ = some (.int .i64 s.root.line) := hc 34
 have k35 : w.cell? ⟨b, 35, none⟩ = some (.int .i64 s.root.gen) := hc 35
 have hp : peq s.root.line s.root.gen 0 0 = false := by rw [Z0j]; simp [hroot]
 have hpr : peq n.right.line n.right.gen 0 0 = false := by rw [Z0j]; simp [hright]
 have b8 : (n.level == 8) = false := by simp [hlev]
 have eq := eql_ptr
 have hn : NoneAt w := by obtain ⟨vn, vw, ve, vc, hr, _⟩ := h; exact hr.none
 obtain ⟨g0, g1, gl⟩ := hn
 have hgb : 0 < b := by obtain ⟨vn, vw, ve, vc, hr, _⟩ := h; exact hr.pos
 clear h hc hroot hl hright hlev hf
 go_enter Tryz.func56, Tryz.ntmps56
 go_wp2_with fail
 refine qA fun hSt => ?_
 refine qS [0, 1, 2, 3, 4, 5] ?_
 iterate 6 (refine qT ?_; simp only [Act.put, qY])
 refine Z00.done ?_
 refine qD ?_ _
 go_wp2_with fail
 go_at_call 92; refine (Z34 A op known vf vk s b s.root _ ?hrun ?hlow).mono ?_
 case hrun => exact HR.out.drew
 case hlow => exact fun c hc => by have := hA c hc; simpa using this
 rw [HL.out]
 rintro e w1 ⟨hrun1, ho1, v, rfl, hown⟩
 have HR1 := hid hrun1
 have hsv := qSt hown
 have hq1 : b < w1.heap.size := hrun1.lt
 have hq2 : b < w1.heap.size + 1 := by omega
 have gl1 : 0 < w1.heap.size := by omega
 have gl2 : 0 < w1.heap.size + 1 := by omega
 clear hrun1 hown
 ((obtain ⟨hc1, hf1, hs1⟩ := qO ho1); (try have := qN0 w w1))
 simp only [Z0g]
 go_wp2_with fail
 go_at_call 93; refine (Z47 A op known vf vk s b _ [page.line] _ ?hrun2 ?hlow2 HF.out).mono ?_
 case hrun2 => exact HR1.out.below qL
 case hlow2 => exact fun c hc => by have := hA c hc; simp only [size_alloc]; omega
 rintro e w2 ⟨hrun2, ho2, rfl⟩
 rw [HY.out]
 rw [HY.out] at hrun2
 have HR2 := hid (show IsRun (New A _) op known vf vk _ b w2 from hrun2)
 clear hrun2
 ((obtain ⟨hc2, hf2, hs2⟩ := qO ho2); (try have := qN0 w w2); (try have := qN0 w1 w2))
 simp only [Option.getD_none, Option.isSome_none, Z0x]
 go_wp2_with fail
 refine bodyPost_ret (results_none rfl _ _ _) rfl ⟨rfl, ?_, qV⟩
 rw [HX.out]
 refine IsRun.alloc (IsRun.imp HR2.out (fun c hc => ?_)) _
 rcases hc with h1 | h1
 ·exact .inl h1
 ·exact .inr (by simp at h1; omega)
end Go.Proofs.YtjmpekanlmepmaaGreatDoor
