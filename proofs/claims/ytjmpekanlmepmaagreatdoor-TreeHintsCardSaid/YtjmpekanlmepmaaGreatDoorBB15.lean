/- Package btree: a node is looked at. -/
import Derived.Test.YtjmpekanlmepmaaGreatDoorBB14
import Derived.Test.YtjmpekanlmepmaaGreatDoorBB07
import Derived.Deep.DeepCutAuto
import Derived.Test.YtjmpekanlmepmaaGreatDoorBB12
import Derived.Deep.Light
import Derived.IntWalk
import Derived.Test.YtjmpekanlmepmaaGreatDoorBB10
set_option linter.all false
set_option maxRecDepth 20000
set_option maxHeartbeats 8000000
open Go.Lib (hid)
namespace Go.Proofs.YtjmpekanlmepmaaGreatDoor
open Go.RowKit
def lockFn (locks : Bool) : Value := if locks then .func (.func 32) #[] #[] else .func (.func 105) #[] #[]
def Z0g (p : Bt.Page) (n : Bt.Node) (v : Value) : Array Value :=
 #[.int .i64 p.line, .int .u64 p.head, .int .u64 p.d0, .int .u64 p.d1, .int .u64 p.d2, .int .u64 p.d3, .int .u64 p.d4, .int .u64 p.d5, .int .u64 p.d6,
  .int .i64 n.level, .bool n.leftmost, .bool n.dead, .int .u32 n.high, .int .i64 n.right.line, .int .i64 n.right.gen, v]
def Z6j (A : Nat → Prop) (op : Bt.Op) (known : List Bt.Page) (vf vk : Value) (b : Nat) (res : Bt.St × Option (Bt.Page × Bt.Node)) (w : World) (e : Ending) (w' : World) : Prop :=
 IsRun (match res.2 with | none => New A w | some _ => A) op known vf vk res.1 b w' ∧ Over b w w' ∧
 match res.2 with
 | none => e = .returned (.tuple #[.agg (Z0g Bt.Z0l Bt.Z1o (.slice none 0 0)), .bool false])
 | some (p, n) => ∃ v, e = .returned (.tuple #[.agg (Z0g p n v), .bool true]) ∧ w'.ownsRow w.heap.size 69 3 v n.entries.length (Z04 n.entries)
def Z7X (L : Bt.Look) (w0 : World) (s8 s9 s10 : Value) (wx : World) : Prop :=
 ∃ g : Nat, s8 = .pointer (some ⟨g, 0, none⟩) ∧ w0.heap.size ≤ g ∧ Blk wx g 25 L.page.cells ∧ s9 = .bool L.have_ ∧ s10 = .int .i64 L.code ∧ Below w0.heap.size w0 wx
theorem IsRun.cell {A : Nat → Prop} {op : Bt.Op} {known : List Bt.Page} {vf vk : Value} {s : Bt.St} {b g : Nat} {w : World} (h : IsRun A op known vf vk s b w) (hg : b < g) (hA : ¬ A g) (i : Nat) (u : Value) : IsRun A op known vf vk s b (w.setCell ⟨g, i, none⟩ u) :=
 h.set (p := ⟨g, i, none⟩) hg hA u
theorem IsRun.put16 {A : Nat → Prop} {op : Bt.Op} {known : List Bt.Page} {vf vk : Value} {s : Bt.St} {b g : Nat} {w : World} (h : IsRun A op known vf vk s b w) (hg : b < g) (hA : ¬ A g) (v0 v1 v2 v3 v4 v5 v6 v7 v8 v9 v10 v11 v12 v13 v14 v15 : Value) :
 IsRun A op known vf vk s b ((((((((((((((((w.setCell ⟨g, 0, none⟩ v0).setCell ⟨g, 1, none⟩ v1).setCell ⟨g, 2, none⟩ v2).setCell ⟨g, 3, none⟩ v3).setCell ⟨g, 4, none⟩ v4).setCell ⟨g, 5, none⟩ v5).setCell ⟨g, 6, none⟩ v6).setCell ⟨g, 7, none⟩ v7).setCell ⟨g, 8, none⟩ v8).setCell ⟨g, 9, none⟩ v9).setCell ⟨g, 10, none⟩ v10).setCell ⟨g, 11, none⟩ v11).setCell ⟨g, 12, none⟩ v12).setCell ⟨g, 13, none⟩ v13).setCell ⟨g, 14, none⟩ v14).setCell ⟨g, 15, none⟩ v15) := ((((((((((((((((h.cell hg hA 0 v0).cell hg hA 1 v1).cell hg hA 2 v2).cell hg hA 3 v3).cell hg hA 4 v4).cell hg hA 5 v5).cell hg hA 6 v6).cell hg hA 7 v7).cell hg hA 8 v8).cell hg hA 9 v9).cell hg hA 10 v10).cell hg hA 11 v11).cell hg hA 12 v12).cell hg hA 13 v13).cell hg hA 14 v14).cell hg hA 15 v15)
theorem Z33 {w : World} {base n size g : Nat} {e : TypeId} {v : Value} {xs : List Value} (h : w.ownsRow base e size v n xs) (hg : v.ownBlock ≠ some g) (v0 v1 v2 v3 v4 v5 v6 v7 v8 v9 v10 v11 v12 v13 v14 v15 : Value) : ((((((((((((((((w.setCell ⟨g, 0, none⟩ v0).setCell ⟨g, 1, none⟩ v1).setCell ⟨g, 2, none⟩ v2).setCell ⟨g, 3, none⟩ v3).setCell ⟨g, 4, none⟩ v4).setCell ⟨g, 5, none⟩ v5).setCell ⟨g, 6, none⟩ v6).setCell ⟨g, 7, none⟩ v7).setCell ⟨g, 8, none⟩ v8).setCell ⟨g, 9, none⟩ v9).setCell ⟨g, 10, none⟩ v10).setCell ⟨g, 11, none⟩ v11).setCell ⟨g, 12, none⟩ v12).setCell ⟨g, 13, none⟩ v13).setCell ⟨g, 14, none⟩ v14).setCell ⟨g, 15, none⟩ v15).ownsRow base e size v n xs := (Z0G (Z0G (Z0G (Z0G (Z0G (Z0G (Z0G (Z0G (Z0G (Z0G (Z0G (Z0G (Z0G (Z0G (Z0G (Z0G h (p := ⟨g, 0, none⟩) hg v0) (p := ⟨g, 1, none⟩) hg v1) (p := ⟨g, 2, none⟩) hg v2) (p := ⟨g, 3, none⟩) hg v3) (p := ⟨g, 4, none⟩) hg v4) (p := ⟨g, 5, none⟩) hg v5) (p := ⟨g, 6, none⟩) hg v6) (p := ⟨g, 7, none⟩) hg v7) (p := ⟨g, 8, none⟩) hg v8) (p := ⟨g, 9, none⟩) hg v9) (p := ⟨g, 10, none⟩) hg v10) (p := ⟨g, 11, none⟩) hg v11) (p := ⟨g, 12, none⟩) hg v12) (p := ⟨g, 13, none⟩) hg v13) (p := ⟨g, 14, none⟩) hg v14) (p := ⟨g, 15, none⟩) hg v15)
theorem own_base {w : World} {base base' n size : Nat} {e : TypeId} {v : Value} {xs : List Value} (h : w.ownsRow base e size v n xs) (hb : base' ≤ base) : w.ownsRow base' e size v n xs := by
 refine ⟨h.1, ?_⟩
 rcases h.2 with h1 | ⟨c, cap, cur, hv, hbase, hr⟩
 ·exact .inl h1
 ·exact .inr ⟨c, cap, cur, hv, by omega, hr⟩
theorem Z2F {w : World} {base n size g : Nat} {e : TypeId} {v : Value} {xs : List Value} (h : w.ownsRow base e size v n xs) (hg : g < base) : v.ownBlock ≠ some g := fun e => by
 have := Z0k h g e
 omega
theorem Z2G {known : List Bt.Page} {q : Bt.Ptr} {k : Int} {l : Bool} {page : Bt.Page} (h : Bt.lookup known q k l = .found page) : page ∈ known := by
 unfold Bt.lookup at h
 split at h
 ·split at h
  ·cases h
  ·rename_i p hp
   split at h
   ·cases h
   ·split at h
    ·cases h
    ·split at h
     ·cases h
     ·injection h with h
      subst h
      exact (Z1V hp).1
 ·cases h
theorem Z64 {known : List Bt.Page} {q : Bt.Ptr} {k c : Int} {l : Bool} (h : Bt.lookup known q k l = .bad c) : 0 < c := by
 unfold Bt.lookup at h
 split at h
 ·split at h
  ·cases h
  ·split at h
   ·injection h with h; omega
   ·split at h
    ·injection h with h; omega
    ·split at h
     ·injection h with h; omega
     ·cases h
 ·injection h with h; omega
theorem Z4m (A : Nat → Prop) (op : Bt.Op) (known : List Bt.Page) (vf vk : Value) (s : Bt.St) (b : Nat) (q : Bt.Ptr) (w : World) (h : IsRun A op known vf vk s b w) (hA : ∀ c, A c → c < w.heap.size) :
 Calls Tryz.prog 92 #[.pointer (some ⟨b, 0, none⟩), .agg q.cells, lockFn false] w (Z6j A op known vf vk b (s.look known q false) w) := by
 have HR := hid h
 have hlt := h.lt
 have k8 : w.cell? ⟨b, 8, none⟩ = some vk := by obtain ⟨vn, vw, ve, vc, hr, _⟩ := h; exact hr.blk.cell 8
 have HK : Hid (PgRow w vk known) := hid (by obtain ⟨vn, vw, ve, vc, hr, _⟩ := h; exact hr.known)
 have hlt1 : b < w.heap.size + 1 := by omega
 have hlt2 : b < w.heap.size + 1 + 1 := by omega
 clear h
 unfold Bt.Ptr.cells lockFn
 go_enter Tryz.func92, Tryz.ntmps92
 go_wp2_with fail
 go_cut [8, 9, 10] (Z7X (Bt.lookup known q 4 false) ((w.alloc (.cells #[.int .i64 q.line, .int .i64 q.gen] 27)).alloc (.cells #[.int .i64 0, .int .u64 0, .int .u64 0, .int .u64 0, .int .u64 0, .int .u64 0, .int .u64 0, .int .u64 0, .int .u64 0, .int .i64 0, .bool false, .bool false, .int .u32 0, .int .i64 0, .int .i64 0, .slice none 0 0] 145)))
 case first =>
  refine qA fun hSt => ?_
  refine qS [0, 1, 2, 3, 4, 5] ?_
  iterate 6 (refine qT ?_; simp only [Act.put, qY])
  refine Z00.done ?_
  refine wpAnyH_ready (rs := [6, 11]) (by kernel_rfl) (by simp) ?_
  refine AllReadyH.cons rfl (fun K hK => ?_) (AllReadyH.cons rfl (fun K hK => ?_) (AllReadyH.nil))
  ·skip
   rw [if_pos (by rfl)]
   go_simp
   go_at_call 105; refine (Z92 known vk q _ _ ?hpg).mono ?_; (case hpg => exact HK.out.below qL); rintro e w1 ⟨rfl, hb⟩; simp only [Bt.Page.cells]; ((obtain ⟨hc1, hf1, hs1⟩ := qR hb); (try have := qN0 w w1); (try have := qN1 w w1))
   go_wp2_with fail
   refine hK.out _ _ (SteadyAll.of qL) (fun hHeld => ?_)
   clear hK K
   refine qS [7, 8, 9, 10] ?_
   iterate 4 (refine qT ?_; simp only [Act.put, qY])
   refine Z00.done ?_
   refine qH 11 fun K hK => ?_
   go_simp
   refine hK.out _ _ (SteadyAll.of qL) (fun hHeld => ?_)
   clear hK K
   refine qH 12 fun K hK => ?_
   go_simp
   refine hK.out _ _ (SteadyAll.of qL) (fun hHeld => ?_)
   clear hK K
   refine qS [13, 14] ?_
   iterate 2 (refine qT ?_; simp only [Act.put, qY])
   refine Z00.done ?_
   refine qD ?_ _
   go_wp2_with fail
   go_meet
   exact ⟨_, rfl, by simp; omega, Blk.made _ _ _, rfl, rfl, qL⟩
  ·skip
   rw [if_pos (by rfl)]
   go_simp
   refine hK.out _ _ (SteadyAll.of qL) (fun hHeld => ?_)
   clear hK K
   refine qH 6 fun K hK => ?_
   go_simp
   go_at_call 105; refine (Z92 known vk q _ _ ?hpg2).mono ?_; (case hpg2 => exact HK.out.below qL); rintro e w1 ⟨rfl, hb⟩; simp only [Bt.Page.cells]; ((obtain ⟨hc1, hf1, hs1⟩ := qR hb); (try have := qN0 w w1); (try have := qN1 w w1))
   go_wp2_with fail
   refine hK.out _ _ (SteadyAll.of qL) (fun hHeld => ?_)
   clear hK K
   refine qS [7, 8, 9, 10] ?_
   iterate 4 (refine qT ?_; simp only [Act.put, qY])
   refine Z00.done ?_
   refine qH 12 fun K hK => ?_
   go_simp
   refine hK.out _ _ (SteadyAll.of qL) (fun hHeld => ?_)
   clear hK K
   refine qS [13, 14] ?_
   iterate 2 (refine qT ?_; simp only [Act.put, qY])
   refine Z00.done ?_
   refine qD ?_ _
   go_wp2_with fail
   have BN := ((Z2S w (t := 25) (cs := #[.int .i64 0, .int .u64 0, .int .u64 0, .int .u64 0, .int .u64 0, .int .u64 0, .int .u64 0, .int .u64 0, .int .u64 0])).drew).kept hb
   go_meet
   exact ⟨_, rfl, by simp, BN.all9 _ _ _ _ _ _ _ _ _, rfl, rfl, qL⟩
 case rest =>
  obtain ⟨g, rfl, hg, BG, rfl, rfl, hbc⟩ := hcut
  have HBG := hid BG
  have HBC := hid hbc
  clear BG
  ((obtain ⟨hc5, hf5, hs5⟩ := qR hbc); (try have := qN0 w wc); (try have := qN1 w wc))
  have hzb : b < wc.heap.size := by omega
  have HRC := hid (HR.out.below (w' := wc) qL)
  have HNA : Hid (¬ New A wc (w.heap.size + 1)) := hid (by
   rintro (h1 | h1)
   ·have := hA _ h1; omega
   ·omega)
  have HIM : Hid (∀ c, New A wc c → New A w c) := hid (fun c hc => by
   rcases hc with h1 | h1
   ·exact .inl h1
   ·exact .inr (by omega))
  rcases hL : Bt.lookup known q 4 false with page | _ | c
  ·have HP := hid (HK.out.ok page (Z2G hL))
   have HLL := hid hL
   have e1 : (Bt.Look.found page).code = 0 := rfl
   have e2 : (Bt.Look.found page).have_ = true := rfl
   have kg : ∀ i, wc.cell? ⟨g, i, none⟩ = (#[.int .i64 page.line, .int .u64 page.head, .int .u64 page.d0, .int .u64 page.d1, .int .u64 page.d2, .int .u64 page.d3, .int .u64 page.d4, .int .u64 page.d5, .int .u64 page.d6] : Array Value)[i]? := by
    have := HBG.out.cell
    rw [hL] at this
    exact this
   have hgw : g < wc.heap.size := HBG.out.lt
   rw [e1, e2]
   clear hL e1 e2
   have HNW : Hid (NoneAt wc) := hid (by obtain ⟨vn, vw, ve, vc, hr, _⟩ := HRC.out; exact hr.none)
   go_wp2_with fail
   go_at_call 28; refine (Z36 page HP.out _ HNW.out).mono ?_
   rintro e w2 (⟨hrn, rfl, hb2⟩ | ⟨v, hrn, rfl, hown, hb2⟩)
   ·have HX : Hid (s.look known q false = (s.fail 14 [], none)) := hid (by simp only [Bt.St.look, HLL.out, hrn])
    clear hrn
    ((obtain ⟨hc2, hf2, hs2⟩ := qR hb2); (try have := qN0 w w2); (try have := qN1 w w2); (try have := qN0 wc w2))
    have hg2 : g < w2.heap.size := by omega
    simp only [Z02]
    go_wp2_with fail
    go_at_call 81; refine (Z1Z A op known vf vk s b 14 _ ?hrun).mono ?_
    case hrun => exact HRC.out.below qL
    rintro e w3 ⟨rfl, hrun3, ho3⟩
    have HR3 := hid hrun3
    clear hrun3
    ((obtain ⟨hc3, hf3, hs3⟩ := qO ho3); (try have := qN0 w w3); (try have := qN1 w w3); (try have := qN0 wc w3))
    go_wp2_with fail
    have BF := ((((Z0R w (o := .cells #[.int .i64 q.line, .int .i64 q.gen] 27) (t := 145) (cs := #[.int .i64 0, .int .u64 0, .int .u64 0, .int .u64 0, .int .u64 0, .int .u64 0, .int .u64 0, .int .u64 0, .int .u64 0, .int .i64 0, .bool false, .bool false, .int .u32 0, .int .i64 0, .int .i64 0, .slice none 0 0])).kept HBC.out).kept hb2).alloc _).grown ho3 (by simp; omega)
    refine bodyPost_ret (Z0K rfl _ _ (w.heap.size + 1) _ _ _ rfl (by have B := BF; exact qK) Tryz.underlying145 rfl (by kernel_rfl)) rfl ?_
    rw [HX.out]
    have hna : ¬ New A (w2.alloc (.cells #[.int .i64 Bt.Z1o.level, .bool Bt.Z1o.leftmost, .bool Bt.Z1o.dead, .int .u32 Bt.Z1o.high, .int .i64 Bt.Z1o.right.line, .int .i64 Bt.Z1o.right.gen, .slice none 0 0] 73)) (w.heap.size + 1) := by
     rintro (h1 | h1)
     ·have := hA _ h1; omega
     ·simp at h1; omega
    refine ⟨(HR3.out.put16 (by omega) hna _ _ _ _ _ _ _ _ _ _ _ _ _ _ _ _).imp (fun c hc => by
     rcases hc with h1 | h1
     ·exact .inl h1
     ·exact .inr (by simp at h1; omega)), qV, ?_⟩
    rw [set16]
    rfl
   ·have HX : Hid (s.look known q false = (s, some (page, page.node))) := hid (by simp only [Bt.St.look, HLL.out, hrn])
    have HOWN := hid hown
    have hsv := qSt hown
    clear hrn hown
    ((obtain ⟨hc2, hf2, hs2⟩ := qR hb2); (try have := qN0 w w2); (try have := qN1 w w2); (try have := qN0 wc w2))
    have hg2 : g < w2.heap.size := by omega
    simp only [Z02]
    go_wp2_with fail
    have BF := ((Z0R w (o := .cells #[.int .i64 q.line, .int .i64 q.gen] 27) (t := 145) (cs := #[.int .i64 0, .int .u64 0, .int .u64 0, .int .u64 0, .int .u64 0, .int .u64 0, .int .u64 0, .int .u64 0, .int .u64 0, .int .i64 0, .bool false, .bool false, .int .u32 0, .int .i64 0, .int .i64 0, .slice none 0 0])).kept HBC.out).kept hb2
    refine bodyPost_ret (Z0K rfl _ _ (w.heap.size + 1) _ _ _ rfl (by have B := BF; exact qK) Tryz.underlying145 rfl (by kernel_rfl)) rfl ?_
    rw [HX.out]
    have hna : ¬ A (w.heap.size + 1) := fun h1 => by have := hA _ h1; omega
    refine ⟨(((HRC.out.below hb2).put16 (by omega) hna _ _ _ _ _ _ _ _ _ _ _ _ _ _ _ _).below (Z06 (Below.refl _ _) _)), qV, v, ?_, own_below (Z33 (own_base HOWN.out (by omega)) (Z2F HOWN.out (by omega)) _ _ _ _ _ _ _ _ _ _ _ _ _ _ _ _) (Z06 (Below.refl _ _) _)⟩
    rw [set16]
    rfl
  ·have HX : Hid (s.look known q false = (s.wait q.line, none)) := hid (by simp only [Bt.St.look, hL])
   have e1 : Bt.Look.missing.code = 0 := rfl
   have e2 : Bt.Look.missing.have_ = false := rfl
   rw [e1, e2]
   clear hL e1 e2
   go_wp2_with fail
   go_at_call 79; refine (Z8K A op known vf vk s b q.line _ HRC.out).mono ?_
   rintro e w2 ⟨rfl, hrun2, ho2⟩
   have HR2 := hid hrun2
   clear hrun2
   ((obtain ⟨hc2, hf2, hs2⟩ := qO ho2); (try have := qN0 w w2); (try have := qN1 w w2); (try have := qN0 wc w2))
   go_wp2_with fail
   have BF := ((Z0R w (o := .cells #[.int .i64 q.line, .int .i64 q.gen] 27) (t := 145) (cs := #[.int .i64 0, .int .u64 0, .int .u64 0, .int .u64 0, .int .u64 0, .int .u64 0, .int .u64 0, .int .u64 0, .int .u64 0, .int .i64 0, .bool false, .bool false, .int .u32 0, .int .i64 0, .int .i64 0, .slice none 0 0])).kept HBC.out).grown ho2 (by simp; omega)
   refine bodyPost_ret (Z0K rfl _ _ (w.heap.size + 1) _ _ _ rfl (by have B := BF; exact qK) Tryz.underlying145 rfl (by kernel_rfl)) rfl ?_
   rw [HX.out]
   refine ⟨(HR2.out.put16 (by omega) HNA.out _ _ _ _ _ _ _ _ _ _ _ _ _ _ _ _).imp HIM.out, qV, ?_⟩
   rw [set16]
   rfl
  ·have hc := Z64 hL
   have bc : (c != 0) = true := by simp; omega
   have HX : Hid (s.look known q false = (s.fail c [], none)) := hid (by simp only [Bt.St.look, hL])
   have e1 : (Bt.Look.bad c).code = c := rfl
   rw [e1]
   clear hL hc e1
   go_wp2_with fail
   go_at_call 81; refine (Z1Z A op known vf vk s b c _ HRC.out).mono ?_
   rintro e w2 ⟨rfl, hrun2, ho2⟩
   have HR2 := hid hrun2
   clear hrun2
   ((obtain ⟨hc2, hf2, hs2⟩ := qO ho2); (try have := qN0 w w2); (try have := qN1 w w2); (try have := qN0 wc w2))
   go_wp2_with fail
   have BF := ((Z0R w (o := .cells #[.int .i64 q.line, .int .i64 q.gen] 27) (t := 145) (cs := #[.int .i64 0, .int .u64 0, .int .u64 0, .int .u64 0, .int .u64 0, .int .u64 0, .int .u64 0, .int .u64 0, .int .u64 0, .int .i64 0, .bool false, .bool false, .int .u32 0, .int .i64 0, .int .i64 0, .slice none 0 0])).kept HBC.out).grown ho2 (by simp; omega)
   refine bodyPost_ret (Z0K rfl _ _ (w.heap.size + 1) _ _ _ rfl (by have B := BF; exact qK) Tryz.underlying145 rfl (by kernel_rfl)) rfl ?_
   rw [HX.out]
   refine ⟨(HR2.out.put16 (by omega) HNA.out _ _ _ _ _ _ _ _ _ _ _ _ _ _ _ _).imp HIM.out, qV, ?_⟩
   rw [set16]
   rfl
theorem IsRun.cells {A : Nat → Prop} {op : Bt.Op} {known : List Bt.Page} {vf vk : Value} {s : Bt.St} {b : Nat} {w : World} (h : IsRun A op known vf vk s b w) : ∃ vn vw ve vc, ∀ i, w.cell? ⟨b, i, none⟩ = (Z3W op vf vk s vn vw ve vc)[i]? := by
 obtain ⟨vn, vw, ve, vc, hr, _⟩ := h
 exact ⟨vn, vw, ve, vc, hr.blk.cell⟩
theorem IsRun.free {A : Nat → Prop} {op : Bt.Op} {known : List Bt.Page} {vf vk : Value} {s : Bt.St} {b : Nat} {w : World} (h : IsRun A op known vf vk s b w) : ∀ i, w.frozen? ⟨b, i, none⟩ = false := by
 obtain ⟨vn, vw, ve, vc, hr, _⟩ := h
 exact hr.blk.free
theorem IsRun.freshRow {A : Nat → Prop} {op : Bt.Op} {known : List Bt.Page} {vf vk : Value} {s : Bt.St} {b : Nat} {w : World} (h : IsRun A op known vf vk s b w) : PgRow w vf op.fresh ∧ ∀ c n m, vf = .slice (some ⟨c, 0, none⟩) n m → c < b := by
 obtain ⟨vn, vw, ve, vc, hr, _⟩ := h
 exact ⟨hr.fresh, hr.apartf⟩
theorem IsRun.field {A : Nat → Prop} {op : Bt.Op} {known : List Bt.Page} {vf vk : Value} {s s' : Bt.St} {b : Nat} {w : World} (h : IsRun A op known vf vk s b w) (i : Nat) (u : Value)
 (hc : ∀ vn vw ve vc, (Z3W op vf vk s vn vw ve vc).setIfInBounds i u = Z3W op vf vk s' vn vw ve vc) (h1 : s'.need = s.need := by rfl) (h2 : s'.writes = s.writes := by rfl)
 (h3 : s'.out.entries = s.out.entries := by rfl) (h4 : s'.out.check = s.out.check := by rfl) : IsRun A op known vf vk s' b (w.setCell ⟨b, i, none⟩ u) := by
 obtain ⟨vn, vw, ve, vc, hr, hh⟩ := h
 exact ⟨vn, vw, ve, vc, hr.over ((Over.refl b w).put i u) ((hr.blk.put i u).cast (hc vn vw ve vc)) h1 h2 h3 h4, hh⟩
theorem IsRun.alloc {A : Nat → Prop} {op : Bt.Op} {known : List Bt.Page} {vf vk : Value} {s : Bt.St} {b : Nat} {w : World} (h : IsRun A op known vf vk s b w) (o : Obj) : IsRun A op known vf vk s b (w.alloc o) := h.below (Z06 (Below.refl _ _) _)
theorem IsRun.drew {A : Nat → Prop} {op : Bt.Op} {known : List Bt.Page} {vf vk : Value} {s : Bt.St} {b : Nat} {w : World} (h : IsRun A op known vf vk s b w) : IsRun A op known vf vk s b w.drew := h.below (Below.refl _ _).drew
theorem IsRun.put9 {A : Nat → Prop} {op : Bt.Op} {known : List Bt.Page} {vf vk : Value} {s : Bt.St} {b g : Nat} {w : World} (h : IsRun A op known vf vk s b w) (hg : b < g) (hA : ¬ A g) (v0 v1 v2 v3 v4 v5 v6 v7 v8 : Value) :
 IsRun A op known vf vk s b (((((((((w.setCell ⟨g, 0, none⟩ v0).setCell ⟨g, 1, none⟩ v1).setCell ⟨g, 2, none⟩ v2).setCell ⟨g, 3, none⟩ v3).setCell ⟨g, 4, none⟩ v4).setCell ⟨g, 5, none⟩ v5).setCell ⟨g, 6, none⟩ v6).setCell ⟨g, 7, none⟩ v7).setCell ⟨g, 8, none⟩ v8) :=
 ((((((((h.cell hg hA 0 v0).cell hg hA 1 v1).cell hg hA 2 v2).cell hg hA 3 v3).cell hg hA 4 v4).cell hg hA 5 v5).cell hg hA 6 v6).cell hg hA 7 v7).cell hg hA 8 v8
def Zb5 (A : Nat → Prop) (op : Bt.Op) (known : List Bt.Page) (vf vk : Value) (b : Nat) (res : Bt.St × Option Bt.Page) (w : World) (e : Ending) (w' : World) : Prop :=
 IsRun (match res.2 with | none => New A w | some _ => A) op known vf vk res.1 b w' ∧ Over b w w' ∧ e = .returned (.tuple #[.agg (res.2.getD Bt.Z0l).cells, .bool res.2.isSome])
theorem Z47 (A : Nat → Prop) (op : Bt.Op) (known : List Bt.Page) (vf vk : Value) (s : Bt.St) (b : Nat) (vt : Value) (taken : List Int) (w : World) (h : IsRun A op known vf vk s b w) (hA : ∀ c, A c → c < w.heap.size) (hf : op.fresh = []) :
 Calls Tryz.prog 93 #[.pointer (some ⟨b, 0, none⟩), vt] w (Zb5 A op known vf vk b (s.fresh op taken) w) := by
 have HX : Hid (s.fresh op taken = (({ s with out := { s.out with fresh := 1 } } : Bt.St).fail 18 [], none)) := hid (by simp only [Bt.St.fresh, hf])
 have HR := hid h
 have hlt := h.lt
 have hlt1 : b < w.heap.size + 1 := by omega
 obtain ⟨vn, vw, ve, vc, hc⟩ := h.cells
 have hfr := h.free
 have k7 : w.cell? ⟨b, 7, none⟩ = some vf := hc 7
 have k23 : w.cell? ⟨b, 23, none⟩ = some (.int .i64 s.out.fresh) := hc 23
 have hvf : ∃ p cap, vf = .slice p 0 cap := by
  rcases h.freshRow.1.form with ⟨rfl, _⟩ | ⟨c, cap, rfl, _⟩
  ·exact ⟨_, _, rfl⟩
  ·rw [hf]; exact ⟨_, _, rfl⟩
 obtain ⟨p, cap, rfl⟩ := hvf
 clear h hc hf
 go_enter Tryz.func93, Tryz.ntmps93
 go_wp2_with fail
 go_at_call 81; refine (Z1Z A op known (.slice p 0 cap) vk { s with out := { s.out with fresh := 1 } } b 18 _ ?hrun).mono ?_
 case hrun => exact (HR.out.field (s' := { s with out := { s.out with fresh := 1 } }) 23 _ (fun _ _ _ _ => rfl)).below qL
 rintro e w1 ⟨rfl, hrun1, ho1⟩
 have HR1 := hid hrun1
 clear hrun1
 ((obtain ⟨hc1, hf1, hs1⟩ := qO ho1); (try have := qN0 w w1))
 go_wp2_with fail
 have BF := (Blk.made' (w := w.setCell ⟨b, 23, none⟩ (.int .i64 1)) (n := w.heap.size) (t := 25) (cs := #[.int .i64 0, .int .u64 0, .int .u64 0, .int .u64 0, .int .u64 0, .int .u64 0, .int .u64 0, .int .u64 0, .int .u64 0]) (by simp [World.setCell])).grown ho1 (by simp; omega)
 refine bodyPost_ret (Z0K rfl _ _ (w.heap.size) _ _ _ rfl (by have B := BF; exact qK) Tryz.underlying25 rfl (by kernel_rfl)) rfl ?_
 rw [HX.out]
 have hna : ¬ New A ((w.setCell ⟨b, 23, none⟩ (.int .i64 1)).alloc (.cells #[.int .i64 0, .int .u64 0, .int .u64 0, .int .u64 0, .int .u64 0, .int .u64 0, .int .u64 0, .int .u64 0, .int .u64 0] 25)) w.heap.size := by
  rintro (h1 | h1)
  ·have := hA _ h1; omega
  ·simp at h1; omega
 refine ⟨(HR1.out.put9 (by omega) hna _ _ _ _ _ _ _ _ _).imp (fun c hc => by
  rcases hc with h1 | h1
  ·exact .inl h1
  ·exact .inr (by simp at h1; omega)), qV, ?_⟩
 rw [set9]
 rfl
theorem Z5b (A : Nat → Prop) (op : Bt.Op) (known : List Bt.Page) (vf vk : Value) (s : Bt.St) (b : Nat) (vt : Value) (taken : List Int) (w : World) (h : IsRun A op known vf vk s b w) (hA : ∀ c, A c → c < w.heap.size)
 (p q : Bt.Page) (rest : List Bt.Page) (hf : op.fresh = p :: rest) (ha : Bt.allocate p 4 0 = (q, 0)) (hq : q.line ∉ taken) (ht : w.ownsRow 0 3 1 vt taken.length (intCells taken)) :
 Calls Tryz.prog 93 #[.pointer (some ⟨b, 0, none⟩), vt] w (Zb5 A op known vf vk b (s, some q) w) := by
 have HR := hid h
 have hlt := h.lt
 have hlt1 : b < w.heap.size + 1 := by omega
 obtain ⟨vn, vw, ve, vc, hc⟩ := h.cells
 have k7 : w.cell? ⟨b, 7, none⟩ = some vf := hc 7
 obtain ⟨hrow, hap⟩ := h.freshRow
 have HP : Hid p.Ok := hid (hrow.ok p (by rw [hf]; simp))
 have hvf : ∃ c n cap, vf = .slice (some ⟨c, 0, none⟩) (n + 1) cap ∧ c < w.heap.size ∧ w.rangeAt c (0 * 9) p.cells.toList := by
  rcases hrow.form with ⟨_, h0⟩ | ⟨c, cap, hv, hl, hcells⟩
  ·rw [hf] at h0; cases h0
  ·exact ⟨c, rest.length, cap, by rw [hv, hf]; rfl, hl, fun j u hu => hcells 0 p (by rw [hf]; rfl) j u (by simpa using hu)⟩
 obtain ⟨c, n, cap, rfl, hcl, hcells⟩ := hvf
 obtain ⟨c0, c1, c2, c3, c4, c5, c6, c7, c8⟩ := nine hcells
 have b1 : (((n + 1 : Nat) : Int) == 0) = false := by simp; omega
 have b2 : (0 : Int) < ((n + 1 : Nat) : Int) := by omega
 have HQ : Hid (q.cells = #[.int .i64 q.line, .int .u64 q.head, .int .u64 q.d0, .int .u64 q.d1, .int .u64 q.d2, .int .u64 q.d3, .int .u64 q.d4, .int .u64 q.d5, .int .u64 q.d6]) := hid rfl
 have HA := hid ha
 have HT : ∀ w', Below w.heap.size w w' → Calls Tryz.prog 110 #[vt, .int .i64 q.line] w' fun e w'' => e = .returned (.bool false) ∧ w'' = w' := by
  intro w' hb
  have ht' := own_below ht hb
  by_cases h0 : taken.length = 0
  ·rcases ht'.2 with ⟨rfl, _⟩ | ⟨g, cp, cur, rfl, _⟩
   ·exact Tryz.slices_Contains_int_empty _ _ _ _
   ·rw [h0]; exact Tryz.slices_Contains_int_empty _ _ _ _
  ·obtain ⟨g, cp, rfl⟩ := Z0D ht' (by omega)
   refine (Tryz.slices_Contains_int g 0 taken.length cp taken q.line w' (Nat.le_refl _) (by have := Z3o ht'; unfold maxLen at this; omega) (fun j hj => ?_)).mono ?_
   ·rw [Nat.zero_add]
    refine Z0i ht' j _ ?_
    simp [intCells, List.getD_eq_getElem?_getD, hj]
   ·rintro e w'' ⟨rfl, rfl⟩
    refine ⟨?_, rfl⟩
    rw [List.take_length]
    simp [hq]
 have HTT := hid HT
 clear h hc hf hrow hcells ha hq ht HT
 simp only [Nat.zero_mul, Nat.zero_add] at c0 c1 c2 c3 c4 c5 c6 c7 c8
 go_enter Tryz.func93, Tryz.ntmps93
 go_wp2_with fail
 go_at_call 109; refine (Z80 p HP.out _).mono ?_
 rintro e w1 ⟨rfl, hb⟩
 rw [HA.out, HQ.out]
 ((obtain ⟨hc1, hf1, hs1⟩ := qR hb); (try have := qN0 w w1))
 go_wp2_with fail
 go_at_call 110; refine (HTT.out _ qL).mono ?_
 rintro e w2 ⟨rfl, hw⟩; subst hw
 go_wp2_with fail
 have BF := (Blk.made w 25 #[.int .i64 0, .int .u64 0, .int .u64 0, .int .u64 0, .int .u64 0, .int .u64 0, .int .u64 0, .int .u64 0, .int .u64 0]).kept hb
 refine bodyPost_ret (Z0K rfl _ _ (w.heap.size) _ _ _ rfl (by have B := BF; exact qK) Tryz.underlying25 rfl (by kernel_rfl)) rfl ?_
 refine ⟨(by (repeat (first | with_reducible exact HR.out | (with_reducible refine IsRun.cell ?_ (by omega) (fun h1 => by have := hA _ h1; omega) _ _) | with_reducible refine IsRun.alloc ?_ _ | with_reducible refine IsRun.drew ?_ | with_reducible refine IsRun.below ?_ (by assumption))) : IsRun A op known (.slice (some ⟨c, 0, none⟩) (n + 1) cap) vk s b _), qV, ?_⟩
 rw [set9]
 show _ = Ending.returned (.tuple #[.agg q.cells, .bool true])
 rw [HQ.out]
 rfl
theorem IsRun.setWrites {A : Nat → Prop} {op : Bt.Op} {known : List Bt.Page} {vf vk : Value} {s : Bt.St} {b : Nat} {w : World} (h : IsRun A op known vf vk s b w) (writes : List Bt.Page) (v : Value)
 (hw : w.ownsRow (b + 1) 25 9 v writes.length (Z0q writes)) (hv : ∀ c, v.ownBlock = some c → A c) : IsRun A op known vf vk { s with writes := writes } b (w.setCell ⟨b, 10, none⟩ v) := by
 obtain ⟨vn, vw, ve, vc, hr, h1, h2, h3, h4⟩ := h
 have ho : Over b w (w.setCell ⟨b, 10, none⟩ v) := (Over.refl b w).put 10 v
 exact ⟨vn, v, ve, vc, ⟨(hr.blk.put 10 v).cast rfl, hr.known.over ho hr.apart, hr.apart, hr.fresh.over ho hr.apartf, hr.apartf, Z0H hr.need ho (by omega), Z0H hw ho (by omega), Z0H hr.ents ho (by omega), Z0H hr.check ho (by omega), hr.none.over ho hr.pos, hr.pos⟩, h1, hv, h3, h4⟩
theorem Z5g (A : Nat → Prop) (op : Bt.Op) (known : List Bt.Page) (vf vk : Value) (s : Bt.St) (b : Nat) (writes : List Bt.Page) (G m cw : Nat) (w : World) (h : IsRun A op known vf vk s b w)
 (hw : w.ownsRow (b + 1) 25 9 (.slice (some ⟨G, 0, none⟩) m cw) writes.length (Z0q writes)) (hv : A G) :
 Calls Tryz.prog 94 #[.pointer (some ⟨b, 0, none⟩), (.slice (some ⟨G, 0, none⟩) m cw), .slice none 0 0] w (Z0y A op known vf vk (s.finish writes []) b (.tuple #[]) w) := by
 have HR := hid h
 have HW := hid hw
 have HV := hid hv
 have hlt := h.lt
 obtain ⟨vn, vw, ve, vc, hc⟩ := h.cells
 have hfr := h.free
 have k13 : w.cell? ⟨b, 13, none⟩ = some (.bool s.out.done) := hc 13
 have k10 : w.cell? ⟨b, 10, none⟩ = some vw := hc 10
 clear h hw hv hc
 go_enter Tryz.func94, Tryz.ntmps94
 go_wp2_with fail
 go_at_call 81; refine (Z1Z A op known vf vk { s with writes := writes, out := { s.out with done := true } } b 0 _ ?hrun).mono ?_
 case hrun => exact (HR.out.field (s' := { s with out := { s.out with done := true } }) 13 _ (fun _ _ _ _ => rfl)).setWrites writes _ (Z01 HW.out (by show b < b + 1; omega) _) (fun c hc => by simp [Value.ownBlock] at hc; subst hc; exact HV.out)
 rintro e w1 ⟨rfl, hrun1, ho1⟩
 have HR1 := hid hrun1
 clear hrun1
 go_wp2_with fail
 refine bodyPost_end (results_none rfl _ _ _) rfl ?_
 exact ⟨rfl, HR1.out.imp (fun c hc => by
  rcases hc with h1 | h1
  ·exact .inl h1
  ·exact .inr (by simpa using h1)), qV⟩
def ZbP (A : Nat → Prop) (op : Bt.Op) (known : List Bt.Page) (vf vk : Value) (s : Bt.St) (b g : Nat) (w : World) (e : Ending) (w' : World) : Prop :=
 e = .returned (.tuple #[]) ∧ IsRun (fun c => A c ∨ c = g) op known vf vk s b w' ∧ OverTwo b g w w'
theorem OverTwo.of_over {b g : Nat} {w w0 w' : World} (h : Over b w w0) (h2 : OverTwo b g w0 w') : OverTwo b g w w' :=
 ⟨h2.os.trans h.os, h2.tape.trans h.tape, h2.output.trans h.output, Nat.le_trans h.size h2.size, fun k hk hn hg => (h2.block k (Nat.lt_of_lt_of_le hk h.size) hn hg).trans (h.block k hk (by simpa using hn))⟩
theorem Z4q (A : Nat → Prop) (op : Bt.Op) (known : List Bt.Page) (vf vk : Value) (s : Bt.St) (b g n cap : Nat) (writes : List Bt.Page) (check : List Int) (G m cw : Nat) (w : World) (h : IsRun A op known vf vk s b w)
 (hw : w.ownsRow (b + 1) 25 9 (.slice (some ⟨G, 0, none⟩) m cw) writes.length (Z0q writes)) (hv : A G) (hq : w.ownsRow (b + 1) 3 1 (.slice (some ⟨g, 0, none⟩) n cap) n (intCells check)) (hn : check.length = n) (hsmall : n ≤ 1000000) (hg : ¬ A g) :
 Calls Tryz.prog 94 #[.pointer (some ⟨b, 0, none⟩), (.slice (some ⟨G, 0, none⟩) m cw), .slice (some ⟨g, 0, none⟩) n cap] w (ZbP A op known vf vk (s.finish writes check) b g w) := by
 have HR := hid h
 have HW := hid hw
 have HV := hid hv
 have HQ := hid hq
 have hlt := h.lt
 obtain ⟨vn, vw, ve, vc, hc⟩ := h.cells
 have hfr := h.free
 have k13 : w.cell? ⟨b, 13, none⟩ = some (.bool s.out.done) := hc 13
 have k10 : w.cell? ⟨b, 10, none⟩ = some vw := hc 10
 clear h hw hv hc hq
 go_enter Tryz.func94, Tryz.ntmps94
 go_wp2_with fail
 have hrun := (HR.out.field (s' := { s with out := { s.out with done := true } }) 13 _ (fun _ _ _ _ => rfl)).setWrites writes _ (Z01 HW.out (by show b < b + 1; omega) _) (fun c hc => by simp [Value.ownBlock] at hc; subst hc; exact HV.out)
 obtain ⟨un, uw, ue, uc, hrun, ha1, ha2, ha3, ha4⟩ := hrun
 go_at_call 81; refine (Z7K op known vf vk { s with writes := writes, out := { s.out with done := true } } b g n cap un uw ue uc check 0 _ hrun ?hq hn hsmall (fun e => hg (ha1 _ e)) (fun e => hg (ha2 _ e)) (fun e => hg (ha3 _ e))).mono ?_
 case hq => exact Z01 (Z01 HQ.out (by show b < b + 1; omega) _) (by show b < b + 1; omega) _
 rintro e w1 ⟨rfl, ⟨m, cp, hr1⟩, ho1⟩
 have HR1 := hid hr1
 have HA := hid (And.intro ha1 (And.intro ha2 ha3))
 clear hr1 hrun ha1 ha2 ha3 ha4
 go_wp2_with fail
 refine bodyPost_end (results_none rfl _ _ _) rfl ?_
 exact ⟨rfl, ⟨un, uw, ue, _, HR1.out, fun c hc => .inl (HA.out.1 c hc), fun c hc => .inl (HA.out.2.1 c hc), fun c hc => .inl (HA.out.2.2 c hc), fun c hc => .inr (by simp [Value.ownBlock] at hc; exact hc.symm)⟩, OverTwo.of_over qV ho1⟩
theorem IsRun.knownRow {A : Nat → Prop} {op : Bt.Op} {known : List Bt.Page} {vf vk : Value} {s : Bt.St} {b : Nat} {w : World} (h : IsRun A op known vf vk s b w) : PgRow w vk known := by
 obtain ⟨vn, vw, ve, vc, hr, _⟩ := h
 exact hr.known
theorem Z1h {s s' : Bt.St} {known : List Bt.Page} {q : Bt.Ptr} {l : Bool} {page : Bt.Page} {n : Bt.Node} (h : s.look known q l = (s', some (page, n))) : page ∈ known ∧ s' = s ∧ n = page.node ∧ Bt.Z19 page = some n := by
 unfold Bt.St.look at h
 split at h
 ·simp at h
 ·simp at h
 ·rename_i p hp
  split at h
  ·simp at h
  ·rename_i m hm
   simp only [Prod.mk.injEq, Option.some.injEq] at h
   obtain ⟨rfl, rfl, rfl⟩ := h
   refine ⟨Z2G hp, rfl, ?_, hm⟩
   unfold Bt.Z19 at hm
   split at hm
   ·cases hm
   ·split at hm
    ·exact (Option.some.inj hm).symm
    ·cases hm
structure DescAt (A : Nat → Prop) (op : Bt.Op) (known : List Bt.Page) (vf vk : Value) (s : Bt.St) (b g : Nat) (page : Bt.Page) (n : Bt.Node) (v : Value) (w0 wr : World) : Prop where
 blk : Blk wr g 145 (Z0g page n v)
 own : wr.ownsRow (w0.heap.size + 1) 69 3 v n.entries.length (Z04 n.entries)
 run : IsRun A op known vf vk s b wr
 over : Over b w0 wr
open Go.RowKit
theorem Z3T (q : Bt.Ptr) (l : Int) (w : World) (hg : NoneAt w) : Calls Tryz.prog 41 #[.agg q.cells, .int .i64 l] w fun e w' => e = .returned (.bool (Bt.Z1X q l)) ∧ Below w.heap.size w w' := by
 obtain ⟨g0, g1, gl⟩ := hg
 have ne := Z0U
 have eq := eql_ptr
 unfold Bt.Ptr.cells
 by_cases hq : q = Bt.nilP
 ·have HX : Hid (Bt.Z1X q l = decide (l = 0)) := hid (by simp [Bt.Z1X, hq])
  have hp : peq q.line q.gen 0 0 = true := by rw [Z0j]; simp [hq]
  clear hq
  go_enter Tryz.func41, Tryz.ntmps41
  go_wp2_with fail
  go_ret
  refine ⟨Z0s ?_, qL⟩
  rw [HX.out, Bool.eq_iff_iff]
  simp
 ·have HX : Hid (Bt.Z1X q l = (Bt.Z0w q && decide (0 ≤ l) && decide (l ≤ 8))) := hid (by simp [Bt.Z1X, hq])
  have hp : peq q.line q.gen 0 0 = false := by rw [Z0j]; simp [hq]
  clear hq
  rcases hv : Bt.Z0w q with _ | _
  all_goals
   have HV := hid hv
   clear hv
   go_enter Tryz.func41, Tryz.ntmps41
   go_wp2_with (go_at_call 75; refine (Z0E _ _ _).mono ?_; rintro e w1 ⟨rfl, hb⟩; rw [HV.out]; ((obtain ⟨hc1, hf1, hs1⟩ := qR hb); (try have := qN0 w w1)))
   all_goals go_ret
  ·exact ⟨Z0s (by rw [HX.out, HV.out]; rfl), qL⟩
  all_goals
   refine ⟨Z0s ?_, qL⟩
   rw [HX.out, HV.out]
   go_light
   first | (simp [*]; done) | (simp; omega)
def ZbG (p : Bt.Page) (w : World) (e : Ending) (w' : World) : Prop :=
 (match Bt.Z1p p with
 | none => e = .returned (.tuple #[.agg Bt.nilP.cells, .int .i64 0, .int .i64 14])
 | some (q, l) => e = .returned (.tuple #[.agg q.cells, .int .i64 l, .int .i64 0])) ∧ Below w.heap.size w w'
theorem Z35 (p : Bt.Page) (hp : p.Ok) (hl : p.line = 96) (w : World) (hg : NoneAt w) : Calls Tryz.prog 15 #[.agg p.cells] w (ZbG p w) := by
 have Hg := hid hg
 obtain ⟨g0, g1, gl⟩ := hg
 have hpd := hp.d0
 have bl : (p.line != 96) = false := by simp [hl]
 have e5 : IntKind.u32.wrap p.d0 = p.d0 % 4294967296 := by rw [IntKind.wrap_u32]
 have e6 : IntKind.i64.wrap (p.d0 / 4294967296) = p.d0 / 4294967296 := IntWalk.i64_in _ (by omega)
 have hq : Bt.unpack (p.d0 % 4294967296) = ⟨p.d0 % 256, p.d0 % 4294967296 / 256⟩ := by unfold Bt.unpack; congr 1; omega
 rcases hv : Bt.Z1X (Bt.unpack (p.d0 % 4294967296)) (p.d0 / 4294967296) with _ | _
 ·have HX : Hid (Bt.Z1p p = none) := hid (by simp [Bt.Z1p, hv])
  rw [hq] at hv
  have HV := hid hv
  clear hv hq hl
  unfold Bt.Page.cells
  go_enter Tryz.func15, Tryz.ntmps15
  go_wp2_with fail
  refine qB (w.heap.size + 1) fun hSt => ?_
  refine qS [0, 1, 2, 3, 5, 6, 7, 8, 9] ?_
  iterate 9 (refine qT ?_; simp only [Act.put, qY])
  refine Z00.done ?_
  refine qH 4 fun K hK => ?_
  go_simp
  go_at_call 40; refine (Z3g _ (by omega) (by omega) _).mono ?_; rintro e w1 ⟨rfl, hb⟩; ((obtain ⟨hc1, hf1, hs1⟩ := qR hb); (try have := qN0 w w1); (try have := qN1 w w1))
  go_wp2_with fail
  refine hK.out _ _ (SteadyBut.of qL) (fun hHeld => ?_)
  clear hK K
  refine qH 10 fun K hK => ?_
  go_simp
  refine hK.out _ _ qE (fun hHeld => ?_)
  clear hK K
  refine qS [11] ?_
  refine qT ?_; simp only [Act.put, qY]
  refine Z00.done ?_
  refine qD ?_ _
  go_wp2_with fail
  go_at_call 41; refine (Z3T ⟨p.d0 % 256, p.d0 % 4294967296 / 256⟩ _ _ ?hng).mono ?_
  case hng => exact Hg.out.below qL
  rintro e w2 ⟨rfl, hb2⟩; rw [HV.out]; ((obtain ⟨hc2, hf2, hs2⟩ := qR hb2); (try have := qN0 w w2); (try have := qN1 w w2))
  have gl1 : 0 < w1.heap.size := by omega
  have gl2 : 0 < w2.heap.size := by omega
  go_wp2_with fail
  have B := ((Z0R w (t := 27) (cs := #[.int .i64 0, .int .i64 0])).drew.kept hb)
  have B2 := (B.all2 (.int .i64 (p.d0 % 256)) (.int .i64 (p.d0 % 4294967296 / 256))).kept hb2
  (refine bodyPost_ret (Z0W rfl _ _ (w.heap.size + 1) _ _ _ rfl (by have B := B2; exact qK) Tryz.underlying27 rfl (by kernel_rfl)) rfl ⟨?_, ?_⟩)
  ·rw [HX.out, set2]; rfl
  ·exact qL
 ·have HX : Hid (Bt.Z1p p = some (⟨p.d0 % 256, p.d0 % 4294967296 / 256⟩, p.d0 / 4294967296)) := hid (by rw [hq] at hv; simp [Bt.Z1p, hq, hv])
  rw [hq] at hv
  have HV := hid hv
  clear hv hq hl
  unfold Bt.Page.cells
  go_enter Tryz.func15, Tryz.ntmps15
  go_wp2_with fail
  refine qB (w.heap.size + 1) fun hSt => ?_
  refine qS [0, 1, 2, 3, 5, 6, 7, 8, 9] ?_
  iterate 9 (refine qT ?_; simp only [Act.put, qY])
  refine Z00.done ?_
  refine qH 4 fun K hK => ?_
  go_simp
  go_at_call 40; refine (Z3g _ (by omega) (by omega) _).mono ?_; rintro e w1 ⟨rfl, hb⟩; ((obtain ⟨hc1, hf1, hs1⟩ := qR hb); (try have := qN0 w w1); (try have := qN1 w w1))
  go_wp2_with fail
  refine hK.out _ _ (SteadyBut.of qL) (fun hHeld => ?_)
  clear hK K
  refine qH 10 fun K hK => ?_
  go_simp
  refine hK.out _ _ qE (fun hHeld => ?_)
  clear hK K
  refine qS [11] ?_
  refine qT ?_; simp only [Act.put, qY]
  refine Z00.done ?_
  refine qD ?_ _
  go_wp2_with fail
  go_at_call 41; refine (Z3T ⟨p.d0 % 256, p.d0 % 4294967296 / 256⟩ _ _ ?hng).mono ?_
  case hng => exact Hg.out.below qL
  rintro e w2 ⟨rfl, hb2⟩; rw [HV.out]; ((obtain ⟨hc2, hf2, hs2⟩ := qR hb2); (try have := qN0 w w2); (try have := qN1 w w2))
  have gl1 : 0 < w1.heap.size := by omega
  have gl2 : 0 < w2.heap.size := by omega
  go_wp2_with fail
  have B := ((Z0R w (t := 27) (cs := #[.int .i64 0, .int .i64 0])).drew.kept hb)
  have B2 := (B.all2 (.int .i64 (p.d0 % 256)) (.int .i64 (p.d0 % 4294967296 / 256))).kept hb2
  (refine bodyPost_ret (Z0W rfl _ _ (w.heap.size + 1) _ _ _ rfl (by have B := B2; exact qK) Tryz.underlying27 rfl (by kernel_rfl)) rfl ⟨?_, ?_⟩)
  ·rw [HX.out, set2]; rfl
  ·exact qL
theorem Z9D (q : Bt.Ptr) (l : Int) (hl : 0 ≤ l ∧ l < 4294967296) : bits .or .u64 (Bt.pack q) (l * 4294967296) = Bt.pack q + l * 4294967296 := Z3G (Bt.pack q) l (Z1G q) hl
theorem Z2B (p : Bt.Page) (q : Bt.Ptr) (l : Int) (hl : p.line = 96) (hv : Bt.Z1X q l = true) (w : World) (hg : NoneAt w) :
 Calls Tryz.prog 17 #[.agg p.cells, .agg q.cells, .int .i64 l] w fun e w' => e = .returned (.tuple #[.agg (Bt.Z0Y p q l).cells, .int .i64 0]) ∧ Below w.heap.size w w' := by
 have Hg := hid hg
 have bl : (p.line != 96) = false := by simp [hl]
 have hlv : 0 ≤ l ∧ l ≤ 8 := by
  unfold Bt.Z1X at hv
  split at hv
  ·simp at hv; omega
  ·simp at hv; omega
 have hpk := Z1G q
 have e1 := Z9D q l (by omega)
 have HV := hid hv
 clear hv hl
 unfold Bt.Page.cells
 have hqc : q.cells = #[.int .i64 q.line, .int .i64 q.gen] := rfl
 rw [hqc]
 clear hqc
 go_enter Tryz.func17, Tryz.ntmps17
 go_wp2_with fail
 go_at_call 41; refine (Z3T q _ _ ?hng).mono ?_
 case hng => exact Hg.out.below qL
 rintro e w1 ⟨rfl, hb⟩; rw [HV.out]; ((obtain ⟨hc1, hf1, hs1⟩ := qR hb); (try have := qN0 w w1); (try have := qN1 w w1); (try have := qN2 w w1))
 go_wp2_with fail
 go_at_call 44; refine (Z2C q.line q.gen _).mono ?_; rintro e w2 ⟨rfl, hb2⟩; ((obtain ⟨hc2, hf2, hs2⟩ := qR hb2); (try have := qN0 w w2); (try have := qN1 w w2); (try have := qN2 w w2))
 have hx : ∀ u, (w2.setCell ⟨w.heap.size, 2, none⟩ u).cell? ⟨w.heap.size, 2, none⟩ = some u := fun u => (((((made1 w (t := 25) (cs := p.cells)).alloc _).alloc _).kept hb).kept hb2).put 2 u |>.cell 2
 go_wp2_with fail
 have B := ((Z2S w (t := 25) (cs := Bt.Z0l.cells)).kept hb).kept hb2
 rw [Z0x] at B
 (refine bodyPost_ret (Z0K rfl _ _ (w.heap.size + 1 + 1) _ _ _ rfl (by exact qK) Tryz.underlying25 rfl (by kernel_rfl)) rfl ⟨?_, ?_⟩)
 ·rw [set9]
  have a2 : IntKind.u64.wrap (Bt.pack ⟨q.line, q.gen⟩) = Bt.pack q := by show IntKind.u64.wrap (Bt.pack q) = _; rw [IntKind.wrap_u64]; omega
  rw [a2, e1]
  rfl
 ·exact qL
theorem Z4C {p q : Bt.Page} (hp : p.Ok) (h : Bt.allocate p 4 0 = (q, 0)) : q.Ok ∧ Bt.Z0w (Bt.at_ q) = true ∧ q.line = p.line ∧ q.head = p.head ∧ q.d0 = 4 + (Bt.Z0u p.d0 + 1) * 256 := by
 unfold Bt.allocate at h
 have hg : 0 ≤ Bt.Z0u p.d0 ∧ Bt.Z0u p.d0 < 16777216 := by unfold Bt.Z0u; omega
 split at h
 ·simp at h
 ·split at h
  ·simp at h
  ·split at h
   ·simp at h
   ·split at h
    ·simp at h
    ·rename_i h1 h2 h3 h4
     simp only [Prod.mk.injEq, and_true] at h
     subst h
     have hd : Bt.Z1v 4 (Bt.Z0u p.d0 + 1) 0 = 4 + (Bt.Z0u p.d0 + 1) * 256 := by unfold Bt.Z1v; omega
     have h5 : Bt.Z0u (4 + (Bt.Z0u p.d0 + 1) * 256) = Bt.Z0u p.d0 + 1 := by
      generalize Bt.Z0u p.d0 = t at *
      unfold Bt.Z0u
      omega
     refine ⟨⟨hp.head, ?_, ?_, ?_, ?_, ?_, ?_, ?_⟩, ?_, rfl, rfl, hd⟩
     ·show (0 : Int) ≤ Bt.Z1v 4 (Bt.Z0u p.d0 + 1) 0 ∧ Bt.Z1v 4 (Bt.Z0u p.d0 + 1) 0 < 18446744073709551616
      rw [hd]; omega
     all_goals first | (show (0 : Int) ≤ 0 ∧ (0 : Int) < 18446744073709551616; omega) | skip
     show Bt.Z0w ⟨p.line, Bt.Z0u (Bt.Z1v 4 (Bt.Z0u p.d0 + 1) 0)⟩ = true
     rw [hd, h5]
     simp only [Bt.Z0w, Bool.and_eq_true, decide_eq_true_eq]
     refine ⟨⟨?_, by omega⟩, by omega⟩
     simpa using fun e => h1 (Or.inl e)
def Z1w (e : Bt.Entry) : Bt.Node := ⟨0, true, false, Bt.Z08, Bt.nilP, [e]⟩
theorem Z8m (A : Nat → Prop) (op : Bt.Op) (known : List Bt.Page) (vf vk : Value) (s : Bt.St) (b : Nat) (e : Bt.Entry) (w : World) (h : IsRun A op known vf vk s b w) (hA : ∀ c, A c → c < w.heap.size)
 (hrp : s.rootPage.Ok) (hlk : Bt.locked s.rootPage = false) (hf : op.fresh = []) :
 Calls Tryz.prog 85 #[.pointer (some ⟨b, 0, none⟩), .agg e.cells] w (Z0y A op known vf vk (s.plant op e) b (.tuple #[]) w) := by
 have HX : Hid (s.plant op e = (s.fresh op []).1) := hid (by simp [Bt.St.plant, hlk, Bt.St.fresh, hf])
 have HY : Hid ((s.fresh op []).2 = none) := hid (by simp [Bt.St.fresh, hf])
 have HR := hid h
 have HF := hid hf
 have HRP := hid hrp
 have HLK := hid hlk
 have hlt := h.lt
 have hlt1 : b < w.heap.size + 1 := by omega
 obtain ⟨vn, vw, ve, vc, hc⟩ := h.cells
 have k25 : w.cell? ⟨b, 25, none⟩ = some (.int .i64 s.rootPage.line) := hc 25
 have k26 : w.cell? ⟨b, 26, none⟩ = some (.int .u64 s.rootPage.head) := hc 26
 have k27 : w.cell? ⟨b, 27, none⟩ = some (.int .u64 s.rootPage.d0) := hc 27
 have k28 : w.cell? ⟨b, 28, none⟩ = some (.int .u64 s.rootPage.d1) := hc 28
 have k29 : w.cell? ⟨b, 29, none⟩ = some (.int .u64 s.rootPage.d2) := hc 29
 have k30 : w.cell? ⟨b, 30, none⟩ = some (.int .u64 s.rootPage.d3) := hc 30
 have k31 : w.cell? ⟨b, 31, none⟩ = some (.int .u64 s.rootPage.d4) := hc 31
 have k32 : w.cell? ⟨b, 32, none⟩ = some (.int .u64 s.rootPage.d5) := hc 32
 have k33 : w.cell? ⟨b, 33, none⟩ = some (.int .u64 s.rootPage.d6) := hc 33
 clear h hc hf hrp hlk
 unfold Bt.Entry.cells
 go_enter Tryz.func85, Tryz.ntmps85
 go_wp2_with fail
 go_at_call 80; refine (Z1y s.rootPage HRP.out _).mono ?_; rintro e w1 ⟨rfl, hb⟩; rw [HLK.out]; ((obtain ⟨hc1, hf1, hs1⟩ := qR hb); (try have := qN0 w w1); (try have := qN1 w w1))
 have HB := hid hb
 go_wp2_with fail
 go_at_call 93; refine (Z47 A op known vf vk s b _ [] _ ?hrun ?hlow HF.out).mono ?_
 case hrun => exact HR.out.below qL
 case hlow => exact fun c hc => by have := hA c hc; omega
 rintro e w2 ⟨hrun2, ho2, rfl⟩
 rw [HY.out]
 rw [HY.out] at hrun2
 have HR2 := hid (show IsRun (New A _) op known vf vk _ b w2 from hrun2)
 clear hrun2
 ((obtain ⟨hc2, hf2, hs2⟩ := qO ho2); (try have := qN0 w w2); (try have := qN1 w w2); (try have := qN0 w1 w2))
 simp only [Option.getD_none, Option.isSome_none, Z0x]
 go_wp2_with fail
 refine bodyPost_ret (results_none rfl _ _ _) rfl ⟨rfl, ?_, qV⟩
 rw [HX.out]
 refine IsRun.alloc (IsRun.imp HR2.out (fun c hc => ?_)) _ |>.below qL
 rcases hc with h1 | h1
 ·exact .inl h1
 ·exact .inr (by omega)
end Go.Proofs.YtjmpekanlmepmaaGreatDoor
