/- Package btree: a node is looked at. -/
import Derived.Test.YtjmpekanlmepmaaGreatDoorNN15
import Derived.Test.YtjmpekanlmepmaaGreatDoorNN04
import Derived.Deep.DeepCutAuto
set_option linter.all false
set_option maxRecDepth 20000
set_option maxHeartbeats 8000000
open Go.Lib (hid)
namespace Go.Proofs.YtjmpekanlmepmaaGreatDoor
open Go.RowKit
def lockFn (locks : Bool) : Value := if locks then .func (.func 32) #[] #[] else .func (.func 105) #[] #[]
def foundCells (p : Bt.Page) (n : Bt.Node) (v : Value) : Array Value :=
 #[.int .i64 p.line, .int .u64 p.head, .int .u64 p.d0, .int .u64 p.d1, .int .u64 p.d2, .int .u64 p.d3, .int .u64 p.d4, .int .u64 p.d5, .int .u64 p.d6,
  .int .i64 n.level, .bool n.leftmost, .bool n.dead, .int .u32 n.high, .int .i64 n.right.line, .int .i64 n.right.gen, v]
def LookRes (A : Nat → Prop) (op : Bt.Op) (known : List Bt.Page) (vf vk : Value) (b : Nat) (res : Bt.St × Option (Bt.Page × Bt.Node)) (w : World) (e : Ending) (w' : World) : Prop :=
 IsRun (match res.2 with | none => New A w | some _ => A) op known vf vk res.1 b w' ∧ Over b w w' ∧
 match res.2 with
 | none => e = .returned (.tuple #[.agg (foundCells Bt.zeroPage Bt.zeroNode (.slice none 0 0)), .bool false])
 | some (p, n) => ∃ v, e = .returned (.tuple #[.agg (foundCells p n v), .bool true]) ∧ w'.ownsRow w.heap.size 69 3 v n.entries.length (entCells n.entries)
def LookCut (L : Bt.Look) (w0 : World) (s8 s9 s10 : Value) (wx : World) : Prop :=
 ∃ g : Nat, s8 = .pointer (some ⟨g, 0, none⟩) ∧ w0.heap.size ≤ g ∧ Blk wx g 25 L.page.cells ∧ s9 = .bool L.have_ ∧ s10 = .int .i64 L.code ∧ Below w0.heap.size w0 wx
theorem IsRun.cell {A : Nat → Prop} {op : Bt.Op} {known : List Bt.Page} {vf vk : Value} {s : Bt.St} {b g : Nat} {w : World} (h : IsRun A op known vf vk s b w) (hg : b < g) (hA : ¬ A g) (i : Nat) (u : Value) : IsRun A op known vf vk s b (w.setCell ⟨g, i, none⟩ u) :=
 h.set (p := ⟨g, i, none⟩) hg hA u
theorem IsRun.put16 {A : Nat → Prop} {op : Bt.Op} {known : List Bt.Page} {vf vk : Value} {s : Bt.St} {b g : Nat} {w : World} (h : IsRun A op known vf vk s b w) (hg : b < g) (hA : ¬ A g) (v0 v1 v2 v3 v4 v5 v6 v7 v8 v9 v10 v11 v12 v13 v14 v15 : Value) :
 IsRun A op known vf vk s b ((((((((((((((((w.setCell ⟨g, 0, none⟩ v0).setCell ⟨g, 1, none⟩ v1).setCell ⟨g, 2, none⟩ v2).setCell ⟨g, 3, none⟩ v3).setCell ⟨g, 4, none⟩ v4).setCell ⟨g, 5, none⟩ v5).setCell ⟨g, 6, none⟩ v6).setCell ⟨g, 7, none⟩ v7).setCell ⟨g, 8, none⟩ v8).setCell ⟨g, 9, none⟩ v9).setCell ⟨g, 10, none⟩ v10).setCell ⟨g, 11, none⟩ v11).setCell ⟨g, 12, none⟩ v12).setCell ⟨g, 13, none⟩ v13).setCell ⟨g, 14, none⟩ v14).setCell ⟨g, 15, none⟩ v15) := ((((((((((((((((h.cell hg hA 0 v0).cell hg hA 1 v1).cell hg hA 2 v2).cell hg hA 3 v3).cell hg hA 4 v4).cell hg hA 5 v5).cell hg hA 6 v6).cell hg hA 7 v7).cell hg hA 8 v8).cell hg hA 9 v9).cell hg hA 10 v10).cell hg hA 11 v11).cell hg hA 12 v12).cell hg hA 13 v13).cell hg hA 14 v14).cell hg hA 15 v15)
theorem own_put16 {w : World} {base n size g : Nat} {e : TypeId} {v : Value} {xs : List Value} (h : w.ownsRow base e size v n xs) (hg : v.ownBlock ≠ some g) (v0 v1 v2 v3 v4 v5 v6 v7 v8 v9 v10 v11 v12 v13 v14 v15 : Value) : ((((((((((((((((w.setCell ⟨g, 0, none⟩ v0).setCell ⟨g, 1, none⟩ v1).setCell ⟨g, 2, none⟩ v2).setCell ⟨g, 3, none⟩ v3).setCell ⟨g, 4, none⟩ v4).setCell ⟨g, 5, none⟩ v5).setCell ⟨g, 6, none⟩ v6).setCell ⟨g, 7, none⟩ v7).setCell ⟨g, 8, none⟩ v8).setCell ⟨g, 9, none⟩ v9).setCell ⟨g, 10, none⟩ v10).setCell ⟨g, 11, none⟩ v11).setCell ⟨g, 12, none⟩ v12).setCell ⟨g, 13, none⟩ v13).setCell ⟨g, 14, none⟩ v14).setCell ⟨g, 15, none⟩ v15).ownsRow base e size v n xs := (own_set (own_set (own_set (own_set (own_set (own_set (own_set (own_set (own_set (own_set (own_set (own_set (own_set (own_set (own_set (own_set h (p := ⟨g, 0, none⟩) hg v0) (p := ⟨g, 1, none⟩) hg v1) (p := ⟨g, 2, none⟩) hg v2) (p := ⟨g, 3, none⟩) hg v3) (p := ⟨g, 4, none⟩) hg v4) (p := ⟨g, 5, none⟩) hg v5) (p := ⟨g, 6, none⟩) hg v6) (p := ⟨g, 7, none⟩) hg v7) (p := ⟨g, 8, none⟩) hg v8) (p := ⟨g, 9, none⟩) hg v9) (p := ⟨g, 10, none⟩) hg v10) (p := ⟨g, 11, none⟩) hg v11) (p := ⟨g, 12, none⟩) hg v12) (p := ⟨g, 13, none⟩) hg v13) (p := ⟨g, 14, none⟩) hg v14) (p := ⟨g, 15, none⟩) hg v15)
theorem own_base {w : World} {base base' n size : Nat} {e : TypeId} {v : Value} {xs : List Value} (h : w.ownsRow base e size v n xs) (hb : base' ≤ base) : w.ownsRow base' e size v n xs := by
 refine ⟨h.1, ?_⟩
 rcases h.2 with h1 | ⟨c, cap, cur, hv, hbase, hr⟩
 ·exact .inl h1
 ·exact .inr ⟨c, cap, cur, hv, by omega, hr⟩
theorem own_not {w : World} {base n size g : Nat} {e : TypeId} {v : Value} {xs : List Value} (h : w.ownsRow base e size v n xs) (hg : g < base) : v.ownBlock ≠ some g := fun e => by
 have := own_row_ge h g e
 omega
theorem lookup_found_ok {known : List Bt.Page} {q : Bt.Ptr} {k : Int} {l : Bool} {page : Bt.Page} (h : Bt.lookup known q k l = .found page) : page ∈ known := by
 unfold Bt.lookup at h
 split at h
 ·split at h
  ·cases h
  ·rename_i p hp
   split at h
   ·cases h
   ·split at h
    ·cases h
    ·split at h
     ·cases h
     ·injection h with h
      subst h
      exact (latest_mem hp).1
 ·cases h
theorem lookup_code {known : List Bt.Page} {q : Bt.Ptr} {k c : Int} {l : Bool} (h : Bt.lookup known q k l = .bad c) : 0 < c := by
 unfold Bt.lookup at h
 split at h
 ·split at h
  ·cases h
  ·split at h
   ·injection h with h; omega
   ·split at h
    ·injection h with h; omega
    ·split at h
     ·injection h with h; omega
     ·cases h
 ·injection h with h; omega
theorem look_peek (A : Nat → Prop) (op : Bt.Op) (known : List Bt.Page) (vf vk : Value) (s : Bt.St) (b : Nat) (q : Bt.Ptr) (w : World) (h : IsRun A op known vf vk s b w) (hA : ∀ c, A c → c < w.heap.size) :
 Calls Tryz.prog 92 #[.pointer (some ⟨b, 0, none⟩), .agg q.cells, lockFn false] w (LookRes A op known vf vk b (s.look known q false) w) := by
 have HR := hid h
 have hlt := h.lt
 have k8 : w.cell? ⟨b, 8, none⟩ = some vk := by obtain ⟨vn, vw, ve, vc, hr, _⟩ := h; exact hr.blk.cell 8
 have HK : Hid (PgRow w vk known) := hid (by obtain ⟨vn, vw, ve, vc, hr, _⟩ := h; exact hr.known)
 have hlt1 : b < w.heap.size + 1 := by omega
 have hlt2 : b < w.heap.size + 1 + 1 := by omega
 clear h
 unfold Bt.Ptr.cells lockFn
 go_enter Tryz.func92, Tryz.ntmps92
 go_wp2_with fail
 go_cut [8, 9, 10] (LookCut (Bt.lookup known q 4 false) ((w.alloc (.cells #[.int .i64 q.line, .int .i64 q.gen] 27)).alloc (.cells #[.int .i64 0, .int .u64 0, .int .u64 0, .int .u64 0, .int .u64 0, .int .u64 0, .int .u64 0, .int .u64 0, .int .u64 0, .int .i64 0, .bool false, .bool false, .int .u32 0, .int .i64 0, .int .i64 0, .slice none 0 0] 145)))
 case first =>
  refine qA fun hSt => ?_
  refine qS [0, 1, 2, 3, 4, 5] ?_
  iterate 6 (refine qT ?_; simp only [Act.put, qY])
  refine TakeSeq.done ?_
  refine wpAnyH_ready (rs := [6, 11]) (by kernel_rfl) (by simp) ?_
  refine AllReadyH.cons rfl (fun K hK => ?_) (AllReadyH.cons rfl (fun K hK => ?_) (AllReadyH.nil))
  ·skip
   rw [if_pos (by rfl)]
   go_simp
   go_at_call 105; refine (Peek_any known vk q _ _ ?hpg).mono ?_; (case hpg => exact HK.out.below qL); rintro e w1 ⟨rfl, hb⟩; simp only [Bt.Page.cells]; ((obtain ⟨hc1, hf1, hs1⟩ := qR hb); (try have := qN0 w w1); (try have := qN1 w w1))
   go_wp2_with fail
   refine hK.out _ _ (SteadyAll.of qL) (fun hHeld => ?_)
   clear hK K
   refine qS [7, 8, 9, 10] ?_
   iterate 4 (refine qT ?_; simp only [Act.put, qY])
   refine TakeSeq.done ?_
   refine qH 11 fun K hK => ?_
   go_simp
   refine hK.out _ _ (SteadyAll.of qL) (fun hHeld => ?_)
   clear hK K
   refine qH 12 fun K hK => ?_
   go_simp
   refine hK.out _ _ (SteadyAll.of qL) (fun hHeld => ?_)
   clear hK K
   refine qS [13, 14] ?_
   iterate 2 (refine qT ?_; simp only [Act.put, qY])
   refine TakeSeq.done ?_
   refine qD ?_ _
   go_wp2_with fail
   go_meet
   exact ⟨_, rfl, by simp; omega, Blk.made _ _ _, rfl, rfl, qL⟩
  ·skip
   rw [if_pos (by rfl)]
   go_simp
   refine hK.out _ _ (SteadyAll.of qL) (fun hHeld => ?_)
   clear hK K
   refine qH 6 fun K hK => ?_
   go_simp
   go_at_call 105; refine (Peek_any known vk q _ _ ?hpg2).mono ?_; (case hpg2 => exact HK.out.below qL); rintro e w1 ⟨rfl, hb⟩; simp only [Bt.Page.cells]; ((obtain ⟨hc1, hf1, hs1⟩ := qR hb); (try have := qN0 w w1); (try have := qN1 w w1))
   go_wp2_with fail
   refine hK.out _ _ (SteadyAll.of qL) (fun hHeld => ?_)
   clear hK K
   refine qS [7, 8, 9, 10] ?_
   iterate 4 (refine qT ?_; simp only [Act.put, qY])
   refine TakeSeq.done ?_
   refine qH 12 fun K hK => ?_
   go_simp
   refine hK.out _ _ (SteadyAll.of qL) (fun hHeld => ?_)
   clear hK K
   refine qS [13, 14] ?_
   iterate 2 (refine qT ?_; simp only [Act.put, qY])
   refine TakeSeq.done ?_
   refine qD ?_ _
   go_wp2_with fail
   have BN := ((made33 w (t := 25) (cs := #[.int .i64 0, .int .u64 0, .int .u64 0, .int .u64 0, .int .u64 0, .int .u64 0, .int .u64 0, .int .u64 0, .int .u64 0])).drew).kept hb
   go_meet
   exact ⟨_, rfl, by simp, BN.all9 _ _ _ _ _ _ _ _ _, rfl, rfl, qL⟩
 case rest =>
  obtain ⟨g, rfl, hg, BG, rfl, rfl, hbc⟩ := hcut
  have HBG := hid BG
  have HBC := hid hbc
  clear BG
  ((obtain ⟨hc5, hf5, hs5⟩ := qR hbc); (try have := qN0 w wc); (try have := qN1 w wc))
  have hzb : b < wc.heap.size := by omega
  have HRC := hid (HR.out.below (w' := wc) qL)
  have HNA : Hid (¬ New A wc (w.heap.size + 1)) := hid (by
   rintro (h1 | h1)
   ·have := hA _ h1; omega
   ·omega)
  have HIM : Hid (∀ c, New A wc c → New A w c) := hid (fun c hc => by
   rcases hc with h1 | h1
   ·exact .inl h1
   ·exact .inr (by omega))
  rcases hL : Bt.lookup known q 4 false with page | _ | c
  ·have HP := hid (HK.out.ok page (lookup_found_ok hL))
   have HLL := hid hL
   have e1 : (Bt.Look.found page).code = 0 := rfl
   have e2 : (Bt.Look.found page).have_ = true := rfl
   have kg : ∀ i, wc.cell? ⟨g, i, none⟩ = (#[.int .i64 page.line, .int .u64 page.head, .int .u64 page.d0, .int .u64 page.d1, .int .u64 page.d2, .int .u64 page.d3, .int .u64 page.d4, .int .u64 page.d5, .int .u64 page.d6] : Array Value)[i]? := by
    have := HBG.out.cell
    rw [hL] at this
    exact this
   have hgw : g < wc.heap.size := HBG.out.lt
   rw [e1, e2]
   clear hL e1 e2
   have HNW : Hid (NoneAt wc) := hid (by obtain ⟨vn, vw, ve, vc, hr, _⟩ := HRC.out; exact hr.none)
   go_wp2_with fail
   go_at_call 28; refine (ReadNode_any page HP.out _ HNW.out).mono ?_
   rintro e w2 (⟨hrn, rfl, hb2⟩ | ⟨v, hrn, rfl, hown, hb2⟩)
   ·have HX : Hid (s.look known q false = (s.fail 14 [], none)) := hid (by simp only [Bt.St.look, HLL.out, hrn])
    clear hrn
    ((obtain ⟨hc2, hf2, hs2⟩ := qR hb2); (try have := qN0 w w2); (try have := qN1 w w2); (try have := qN0 wc w2))
    have hg2 : g < w2.heap.size := by omega
    simp only [nodeCells]
    go_wp2_with fail
    go_at_call 81; refine (fail_none A op known vf vk s b 14 _ ?hrun).mono ?_
    case hrun => exact HRC.out.below qL
    rintro e w3 ⟨rfl, hrun3, ho3⟩
    have HR3 := hid hrun3
    clear hrun3
    ((obtain ⟨hc3, hf3, hs3⟩ := qO ho3); (try have := qN0 w w3); (try have := qN1 w w3); (try have := qN0 wc w3))
    go_wp2_with fail
    have BF := ((((made22 w (o := .cells #[.int .i64 q.line, .int .i64 q.gen] 27) (t := 145) (cs := #[.int .i64 0, .int .u64 0, .int .u64 0, .int .u64 0, .int .u64 0, .int .u64 0, .int .u64 0, .int .u64 0, .int .u64 0, .int .i64 0, .bool false, .bool false, .int .u32 0, .int .i64 0, .int .i64 0, .slice none 0 0])).kept HBC.out).kept hb2).alloc _).grown ho3 (by simp; omega)
    refine bodyPost_ret (results_bt rfl _ _ (w.heap.size + 1) _ _ _ rfl (by have B := BF; exact qK) Tryz.underlying145 rfl (by kernel_rfl)) rfl ?_
    rw [HX.out]
    have hna : ¬ New A (w2.alloc (.cells #[.int .i64 Bt.zeroNode.level, .bool Bt.zeroNode.leftmost, .bool Bt.zeroNode.dead, .int .u32 Bt.zeroNode.high, .int .i64 Bt.zeroNode.right.line, .int .i64 Bt.zeroNode.right.gen, .slice none 0 0] 73)) (w.heap.size + 1) := by
     rintro (h1 | h1)
     ·have := hA _ h1; omega
     ·simp at h1; omega
    refine ⟨(HR3.out.put16 (by omega) hna _ _ _ _ _ _ _ _ _ _ _ _ _ _ _ _).imp (fun c hc => by
     rcases hc with h1 | h1
     ·exact .inl h1
     ·exact .inr (by simp at h1; omega)), qV, ?_⟩
    rw [set16]
    rfl
   ·have HX : Hid (s.look known q false = (s, some (page, page.node))) := hid (by simp only [Bt.St.look, HLL.out, hrn])
    have HOWN := hid hown
    have hsv := qSt hown
    clear hrn hown
    ((obtain ⟨hc2, hf2, hs2⟩ := qR hb2); (try have := qN0 w w2); (try have := qN1 w w2); (try have := qN0 wc w2))
    have hg2 : g < w2.heap.size := by omega
    simp only [nodeCells]
    go_wp2_with fail
    have BF := ((made22 w (o := .cells #[.int .i64 q.line, .int .i64 q.gen] 27) (t := 145) (cs := #[.int .i64 0, .int .u64 0, .int .u64 0, .int .u64 0, .int .u64 0, .int .u64 0, .int .u64 0, .int .u64 0, .int .u64 0, .int .i64 0, .bool false, .bool false, .int .u32 0, .int .i64 0, .int .i64 0, .slice none 0 0])).kept HBC.out).kept hb2
    refine bodyPost_ret (results_bt rfl _ _ (w.heap.size + 1) _ _ _ rfl (by have B := BF; exact qK) Tryz.underlying145 rfl (by kernel_rfl)) rfl ?_
    rw [HX.out]
    have hna : ¬ A (w.heap.size + 1) := fun h1 => by have := hA _ h1; omega
    refine ⟨(((HRC.out.below hb2).put16 (by omega) hna _ _ _ _ _ _ _ _ _ _ _ _ _ _ _ _).below (below_alloc (Below.refl _ _) _)), qV, v, ?_, own_below (own_put16 (own_base HOWN.out (by omega)) (own_not HOWN.out (by omega)) _ _ _ _ _ _ _ _ _ _ _ _ _ _ _ _) (below_alloc (Below.refl _ _) _)⟩
    rw [set16]
    rfl
  ·have HX : Hid (s.look known q false = (s.wait q.line, none)) := hid (by simp only [Bt.St.look, hL])
   have e1 : Bt.Look.missing.code = 0 := rfl
   have e2 : Bt.Look.missing.have_ = false := rfl
   rw [e1, e2]
   clear hL e1 e2
   go_wp2_with fail
   go_at_call 79; refine (wait_any A op known vf vk s b q.line _ HRC.out).mono ?_
   rintro e w2 ⟨rfl, hrun2, ho2⟩
   have HR2 := hid hrun2
   clear hrun2
   ((obtain ⟨hc2, hf2, hs2⟩ := qO ho2); (try have := qN0 w w2); (try have := qN1 w w2); (try have := qN0 wc w2))
   go_wp2_with fail
   have BF := ((made22 w (o := .cells #[.int .i64 q.line, .int .i64 q.gen] 27) (t := 145) (cs := #[.int .i64 0, .int .u64 0, .int .u64 0, .int .u64 0, .int .u64 0, .int .u64 0, .int .u64 0, .int .u64 0, .int .u64 0, .int .i64 0, .bool false, .bool false, .int .u32 0, .int .i64 0, .int .i64 0, .slice none 0 0])).kept HBC.out).grown ho2 (by simp; omega)
   refine bodyPost_ret (results_bt rfl _ _ (w.heap.size + 1) _ _ _ rfl (by have B := BF; exact qK) Tryz.underlying145 rfl (by kernel_rfl)) rfl ?_
   rw [HX.out]
   refine ⟨(HR2.out.put16 (by omega) HNA.out _ _ _ _ _ _ _ _ _ _ _ _ _ _ _ _).imp HIM.out, qV, ?_⟩
   rw [set16]
   rfl
  ·have hc := lookup_code hL
   have bc : (c != 0) = true := by simp; omega
   have HX : Hid (s.look known q false = (s.fail c [], none)) := hid (by simp only [Bt.St.look, hL])
   have e1 : (Bt.Look.bad c).code = c := rfl
   rw [e1]
   clear hL hc e1
   go_wp2_with fail
   go_at_call 81; refine (fail_none A op known vf vk s b c _ HRC.out).mono ?_
   rintro e w2 ⟨rfl, hrun2, ho2⟩
   have HR2 := hid hrun2
   clear hrun2
   ((obtain ⟨hc2, hf2, hs2⟩ := qO ho2); (try have := qN0 w w2); (try have := qN1 w w2); (try have := qN0 wc w2))
   go_wp2_with fail
   have BF := ((made22 w (o := .cells #[.int .i64 q.line, .int .i64 q.gen] 27) (t := 145) (cs := #[.int .i64 0, .int .u64 0, .int .u64 0, .int .u64 0, .int .u64 0, .int .u64 0, .int .u64 0, .int .u64 0, .int .u64 0, .int .i64 0, .bool false, .bool false, .int .u32 0, .int .i64 0, .int .i64 0, .slice none 0 0])).kept HBC.out).grown ho2 (by simp; omega)
   refine bodyPost_ret (results_bt rfl _ _ (w.heap.size + 1) _ _ _ rfl (by have B := BF; exact qK) Tryz.underlying145 rfl (by kernel_rfl)) rfl ?_
   rw [HX.out]
   refine ⟨(HR2.out.put16 (by omega) HNA.out _ _ _ _ _ _ _ _ _ _ _ _ _ _ _ _).imp HIM.out, qV, ?_⟩
   rw [set16]
   rfl
end Go.Proofs.YtjmpekanlmepmaaGreatDoor
