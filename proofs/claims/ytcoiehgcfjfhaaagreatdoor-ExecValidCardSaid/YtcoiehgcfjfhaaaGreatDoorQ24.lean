/- hashindex.Next of an insertion into an empty index, where no page is at hand. -/
import Derived.Test.YtcoiehgcfjfhaaaGreatDoorQ22
import Derived.Test.YtcoiehgcfjfhaaaGreatDoorQ23
import Derived.Test.YtcoiehgcfjfhaaaGreatDoorQ10
set_option linter.all false
set_option maxRecDepth 20000
set_option maxHeartbeats 8000000
open Go.Lib (hid)
namespace Go.Proofs.YtcoiehgcfjfhaaaGreatDoor
open Go.RowKit
theorem hiValidInsert (w : World) : Calls Tryz.prog 199 #[.agg #[.int .i64 2, .int .u32 5, .int .i64 105, .int .i64 1, .slice none 0 0]] w fun e w' => e = .returned (.bool true) ∧ Below w.heap.size w w' := by
  have HV := hid (fun W => validP_any 105 (by omega) W)
  go_enter Tryz.func199, Tryz.ntmps199
  go_wp2_with fail
  go_at_call 136; refine (HV.out _).mono ?_; rintro e w1 ⟨rfl, hb1⟩; ((obtain ⟨hc1, hf1, hs1⟩ := qR hb1); (try have := qN0 w w1))
  go_wp2_with fail
  refine bodyPost_ret (results_tmp rfl _ _ _) rfl ⟨rfl, qL⟩
theorem hiNextLimit (ks : List Bt.Page) (hlat : Bt.latest ks 96 = some zRootP) (vk : Value) (w : World) (hn : HNone w) (hp : PgRow w vk ks) :
    Calls Tryz.prog 156 #[.agg #[.int .i64 2, .int .u32 5, .int .i64 105, .int .i64 1, .slice none 0 0], vk] w fun e w' =>
      e = .returned (.tuple #[.slice none 0 0, .slice none 0 0, .agg (hoCells 18 false (.slice none 0 0) 2), .bool true]) ∧ Below w.heap.size w w' := by
  have HV := hid (fun W => hiValidInsert W)
  have HF := hid (fun r vk W h1 h2 => hiInsert_limit r 5 105 1 vk W h1 h2)
  have HR := hid (fun r vf vk W h1 h2 h3 h4 => hiReadRootRun ks hlat r 2 5 105 1 (.inr rfl) vf vk W h1 h2 h3 h4)
  have HS := hid (fun p c W => hiSort0 p c W)
  have HW := hid (And.intro hn hp)
  obtain ⟨pv, cv, rfl⟩ := hp.slice
  obtain ⟨nv, hnv⟩ : ∃ n, ks.length = n := ⟨_, rfl⟩
  rw [hnv] at HW ⊢
  have hgl := hn.lt
  clear hp hnv hn hlat
  unfold cmpHi at HS
  go_enter Tryz.func156, Tryz.ntmps156
  go_wp2_with fail
  go_at_call 199; refine (HV.out _).mono ?_; rintro e w1 ⟨rfl, hb1⟩; ((obtain ⟨hc1, hf1, hs1⟩ := qR hb1); (try have := qN0 w w1); (try have z1_w_1 := qN1 w w1))
  go_wp2_with fail
  have hbX : Below w.heap.size w (w1.alloc (.cells (hrCells 2 5 105 1 (.slice none 0 0) (.slice pv nv cv) (.slice none 0 0) 0 false (.slice none 0 0) 0 0 0) 337)) := qL
  have hne : 2 ≠ w1.heap.size := by omega
  go_at_call 200
  refine (HR.out w1.heap.size _ _ _ (HW.out.1.below hbX) (Blk.made w1 337 (hrCells 2 5 105 1 (.slice none 0 0) (.slice pv nv cv) (.slice none 0 0) 0 false (.slice none 0 0) 0 0 0)) (HW.out.2.below hbX) hne).mono ?_
  rintro e w2 ⟨rfl, B2, ho2⟩
  have hr : w.heap.size + 1 < w1.heap.size := z1_w_1
  have hb12 : Below w1.heap.size w1 w2 := below_grown (below_alloc (Below.refl w1.heap.size w1) _) ho2 (fun j hj => by cases hj; exact Nat.le_refl _)
  have hbw2 : Below w.heap.size w w2 := below_grown hbX ho2 (fun j hj => by cases hj; omega)
  have KO := (((Blk.made w 228 #[.int .i64 2, .int .u32 5, .int .i64 105, .int .i64 1, .slice none 0 0]).alloc (.cells (hoCells 0 false (.slice none 0 0) 0) 224)).kept hb1).kept hb12
  have KT := ((Blk.made' (w := w.alloc (.cells #[.int .i64 2, .int .u32 5, .int .i64 105, .int .i64 1, .slice none 0 0] 228)) (t := 224) (cs := hoCells 0 false (.slice none 0 0) 0) rfl).kept hb1).kept hb12
  rw [size_alloc] at KT
  have lr2 := B2.lt
  obtain ⟨r, hr'⟩ : ∃ r, w1.heap.size = r := ⟨_, rfl⟩
  rw [hr'] at B2 lr2 ho2 hr hne ⊢
  have H2 := hid (And.intro KO (And.intro KT (And.intro B2 hbw2)))
  have ko := KO.cell
  have lo := KO.lt
  clear KO KT B2 hbw2 hb12 ho2 hbX hc1 hf1 hs1 hb1 HR HV hr'
  go_wp2_with fail
  go_at_call 202
  refine (HF.out r _ _ H2.out.2.2.1 (HW.out.1.below H2.out.2.2.2)).mono ?_
  rintro e w3 ⟨rfl, B3, ho3⟩
  have hbw3 : Below w.heap.size w w3 := below_grown H2.out.2.2.2 ho3 (fun j hj => by cases hj; omega)
  have KT3 := blk_over H2.out.2.1 ho3 (by omega)
  have H3 := hid (And.intro B3 (And.intro trivial (And.intro hbw3 KT3)))
  have k3 := B3.cell
  have l3 := B3.lt
  have hs3 : w2.heap.size ≤ w3.heap.size := ho3.size
  unfold hrCells at k3
  clear B3 hbw3 KT3 ho3 ko
  go_wp2_with fail
  go_at_call 147; refine (HS.out _ _ _).mono ?_; rintro e w4 ⟨rfl, hb4⟩; ((obtain ⟨hc4, hf4, hs4⟩ := qR hb4); (try have := qN0 w3 w4))
  have B4 := H3.out.1.kept hb4
  have T4 := H3.out.2.2.2.kept hb4
  have hbw4 : Below w.heap.size w w4 := by have h := H3.out.2.2.1; exact qL
  have lr4 : r < w4.heap.size := B4.lt
  have lt4 : w.heap.size + 1 < w4.heap.size := T4.lt
  have lt3 := H3.out.2.2.2.lt
  have kt := H3.out.2.2.2.cell
  have ft := H3.out.2.2.2.free
  unfold hoCells at kt
  have hneR : w.heap.size + 1 ≠ r := by omega
  have H4 := hid (And.intro B4 (And.intro trivial (And.intro T4 hbw4)))
  clear B4 T4 hbw4 hb4
  go_wp2_with fail
  refine qB (w.heap.size + 1) fun hSt => ?_
  refine qS [0, 1, 2, 3, 4, 5, 6, 7, 8, 9] ?_
  iterate 10 (refine qT ?_; simp only [Act.put, qY])
  refine TakeSeq.done ?_
  refine qH 10 fun K hK => ?_
  go_simp
  refine hK.out _ _ ((by repeat (first | with_reducible exact sb_self _ _ | with_reducible refine sb_drew ?_ | with_reducible refine SteadyBut.set ?_ _ _))) (fun hHeld => ?_)
  clear hK K
  refine qS [11] ?_
  refine qT ?_; simp only [Act.put, qY]
  refine TakeSeq.done ?_
  refine qD ?_ _
  go_wp2_with fail
  have hl : w.heap.size ≤ w.heap.size + 1 := by omega
  have T5 := H4.out.2.2.1
  have hb5 := H4.out.2.2.2
  refine bodyPost_ret (results_ttbt rfl _ _ (w.heap.size + 1) _ _ _ rfl (Blk.cast (((((((((((T5.put 0 _).put 1 _).put 2 _).put 3 _).put 4 _).put 5 _).put 6 _).put 7 _).put 8 _).put 9 _).put 10 _).drew rfl) Tryz.underlying224 rfl (by kernel_rfl)) rfl ⟨rfl, (((((((((((hb5.setCell hl _).setCell hl _).setCell hl _).setCell hl _).setCell hl _).setCell hl _).setCell hl _).setCell hl _).setCell hl _).setCell hl _).setCell hl _).drew⟩
theorem own_far11 {w : World} {base n size x : Nat} {e : TypeId} {v : Value} {xs : List Value} (h : w.ownsRow base e size v n xs) (hne : v.ownBlock ≠ some x) {v0 v1 v2 v3 v4 v5 v6 v7 v8 v9 v10 : Value} : ((((((((((((w.setCell ⟨x, 0, none⟩ v0).setCell ⟨x, 1, none⟩ v1).setCell ⟨x, 2, none⟩ v2).setCell ⟨x, 3, none⟩ v3).setCell ⟨x, 4, none⟩ v4).setCell ⟨x, 5, none⟩ v5).setCell ⟨x, 6, none⟩ v6).setCell ⟨x, 7, none⟩ v7).setCell ⟨x, 8, none⟩ v8).setCell ⟨x, 9, none⟩ v9).setCell ⟨x, 10, none⟩ v10).drew).ownsRow base e size v n xs := by
  refine h.kept (row := some x) (Over.drew (Over.put (Over.put (Over.put (Over.put (Over.put (Over.put (Over.put (Over.put (Over.put (Over.put (Over.put (Over.refl x w) 0 v0) 1 v1) 2 v2) 3 v3) 4 v4) 5 v5) 6 v6) 7 v7) 8 v8) 9 v9) 10 v10)) (.inr hne)
theorem hiInsertTwo (r f cf : Nat) (vk : Value) (w : World) (B : Blk w r 337 (hr2 f cf vk (.slice none 0 0))) (hf : PgRow w (.slice (some ⟨f, 0, none⟩) 2 cf) [freeP 106, freeP 107]) (hn : HNone w) (hnr : 2 < r) :
    Calls Tryz.prog 202 #[.pointer (some ⟨r, 0, none⟩)] w fun e w' => ∃ g c, e = .returned (.tuple #[]) ∧ Blk w' r 337 (hrCells 2 5 105 1 (.slice (some ⟨f, 0, none⟩) 2 cf) vk (.slice (some ⟨g, 0, none⟩) 3 c) 0 true (.slice none 0 0) 0 96 256) ∧ w'.ownsRow (r + 1) 75 9 (.slice (some ⟨g, 0, none⟩) 3 c) 3 (pageCells [bktPage, dirPage, rootPage2]) ∧ Below r w w' := by
  have HA := hid (hiInsertFirst r f cf vk w.drew B.drew (hf.below (Below.refl _ _).drew) (hn.below (Below.refl _ _).drew) hnr)
  obtain ⟨c0, c1, lt⟩ := hn
  have eq := eql_ptr
  have e1 : peq 0 0 0 0 = true := rfl
  have kc := B.cell
  have lc := B.lt
  clear B hf
  unfold hr2 hrCells at kc
  go_enter Tryz.func202, Tryz.ntmps202
  go_wp2_with fail
  go_region
  go_wp2_with fail
  go_at_call 259; refine HA.out.mono ?_; rintro e w1 ⟨g, c, rfl, B1, O1, hb1⟩
  have hb' : Below r w w1 := ((Below.refl _ _).drew).trans hb1
  have HX := hid (And.intro B1 (And.intro O1 hb'))
  clear B1 O1 hb' hb1
  go_wp2_with fail
  refine bodyPost_ret (results_none rfl _ _ _) rfl ⟨g, c, rfl, HX.out.1, HX.out.2.1, HX.out.2.2⟩
theorem hiValidTwo (f cf : Nat) (w : World) : Calls Tryz.prog 199 #[.agg #[.int .i64 2, .int .u32 5, .int .i64 105, .int .i64 1, .slice (some ⟨f, 0, none⟩) 2 cf]] w fun e w' => e = .returned (.bool true) ∧ Below w.heap.size w w' := by
  have HV := hid (fun W => validP_any 105 (by omega) W)
  go_enter Tryz.func199, Tryz.ntmps199
  go_wp2_with fail
  go_at_call 136; refine (HV.out _).mono ?_; rintro e w1 ⟨rfl, hb1⟩; ((obtain ⟨hc1, hf1, hs1⟩ := qR hb1); (try have := qN0 w w1))
  go_wp2_with fail
  refine bodyPost_ret (results_tmp rfl _ _ _) rfl ⟨rfl, qL⟩
theorem hiNextTwo (ks : List Bt.Page) (hlat : Bt.latest ks 96 = some zRootP) (f cf : Nat) (vk : Value) (w : World) (hn : HNone w) (hp : PgRow w vk ks) (hf : PgRow w (.slice (some ⟨f, 0, none⟩) 2 cf) [freeP 106, freeP 107]) :
    Calls Tryz.prog 156 #[.agg #[.int .i64 2, .int .u32 5, .int .i64 105, .int .i64 1, .slice (some ⟨f, 0, none⟩) 2 cf], vk] w fun e w' =>
      ∃ g c, e = .returned (.tuple #[.slice none 0 0, .slice (some ⟨g, 0, none⟩) 3 c, .agg (hoCells 0 true (.slice none 0 0) 0), .bool true]) ∧ w'.ownsRow w.heap.size 75 9 (.slice (some ⟨g, 0, none⟩) 3 c) 3 (pageCells [rootPage2, bktPage, dirPage]) ∧ Below w.heap.size w w' := by
  have HV := hid (fun W => hiValidTwo f cf W)
  have HF := hid (fun r vk W h1 h2 h3 h4 => hiInsertTwo r f cf vk W h1 h2 h3 h4)
  have HR := hid (fun r vf vk W h1 h2 h3 h4 => hiReadRootRun ks hlat r 2 5 105 1 (.inr rfl) vf vk W h1 h2 h3 h4)
  have HS := hid (fun g c W h => hiSort3 g c W h)
  have HW := hid (And.intro hn (And.intro hp hf))
  obtain ⟨pv, cv, rfl⟩ := hp.slice
  obtain ⟨nv, hnv⟩ : ∃ n, ks.length = n := ⟨_, rfl⟩
  rw [hnv] at HW ⊢
  have hgl := hn.lt
  clear hp hf hnv hn hlat
  unfold cmpHi at HS
  go_enter Tryz.func156, Tryz.ntmps156
  go_wp2_with fail
  go_at_call 199; refine (HV.out _).mono ?_; rintro e w1 ⟨rfl, hb1⟩; ((obtain ⟨hc1, hf1, hs1⟩ := qR hb1); (try have := qN0 w w1); (try have z1_w_1 := qN1 w w1))
  go_wp2_with fail
  have hbX : Below w.heap.size w (w1.alloc (.cells (hrCells 2 5 105 1 (.slice (some ⟨f, 0, none⟩) 2 cf) (.slice pv nv cv) (.slice none 0 0) 0 false (.slice none 0 0) 0 0 0) 337)) := qL
  have hne : 2 ≠ w1.heap.size := by omega
  go_at_call 200
  refine (HR.out w1.heap.size _ _ _ (HW.out.1.below hbX) (Blk.made w1 337 (hrCells 2 5 105 1 (.slice (some ⟨f, 0, none⟩) 2 cf) (.slice pv nv cv) (.slice none 0 0) 0 false (.slice none 0 0) 0 0 0)) (HW.out.2.1.below hbX) hne).mono ?_
  rintro e w2 ⟨rfl, B2, ho2⟩
  have hr : w.heap.size + 1 < w1.heap.size := z1_w_1
  have hb12 : Below w1.heap.size w1 w2 := below_grown (below_alloc (Below.refl w1.heap.size w1) _) ho2 (fun j hj => by cases hj; exact Nat.le_refl _)
  have hbw2 : Below w.heap.size w w2 := below_grown hbX ho2 (fun j hj => by cases hj; omega)
  have KO := (((Blk.made w 228 #[.int .i64 2, .int .u32 5, .int .i64 105, .int .i64 1, .slice (some ⟨f, 0, none⟩) 2 cf]).alloc (.cells (hoCells 0 false (.slice none 0 0) 0) 224)).kept hb1).kept hb12
  have KT := ((Blk.made' (w := w.alloc (.cells #[.int .i64 2, .int .u32 5, .int .i64 105, .int .i64 1, .slice (some ⟨f, 0, none⟩) 2 cf] 228)) (t := 224) (cs := hoCells 0 false (.slice none 0 0) 0) rfl).kept hb1).kept hb12
  rw [size_alloc] at KT
  have lr2 := B2.lt
  obtain ⟨r, hr'⟩ : ∃ r, w1.heap.size = r := ⟨_, rfl⟩
  rw [hr'] at B2 lr2 ho2 hr hne ⊢
  have H2 := hid (And.intro KO (And.intro KT (And.intro B2 hbw2)))
  have ko := KO.cell
  have lo := KO.lt
  clear KO KT B2 hbw2 hb12 ho2 hbX hc1 hf1 hs1 hb1 HR HV hr'
  go_wp2_with fail
  go_at_call 202
  refine (HF.out r _ _ H2.out.2.2.1 (HW.out.2.2.below H2.out.2.2.2) (HW.out.1.below H2.out.2.2.2) (by omega)).mono ?_
  rintro e w3 ⟨g, c, rfl, B3, O3, hb3⟩
  have hbw3 : Below w.heap.size w w3 := H2.out.2.2.2.trans (hb3.mono (by omega))
  have KT3 : Blk w3 (w.heap.size + 1) 224 (hoCells 0 false (.slice none 0 0) 0) := (hb3.block _ (by omega)).trans H2.out.2.1
  have H3 := hid (And.intro B3 (And.intro O3 (And.intro hbw3 KT3)))
  have k3 := B3.cell
  have l3 := B3.lt
  have hs3 : w2.heap.size ≤ w3.heap.size := hb3.size
  unfold hrCells at k3
  clear B3 hbw3 KT3 hb3 O3 ko
  go_wp2_with fail
  go_at_call 147; refine (HS.out g c _ (PRow.of_own H3.out.2.1)).mono ?_; rintro e w4 ⟨rfl, P4, ho4⟩
  have hgr : r < g := by have := own_row_ge H3.out.2.1 g rfl; omega
  have B4 := blk_over H3.out.1 ho4 (by omega)
  have T4 := blk_over H3.out.2.2.2 ho4 (by omega)
  have hbw4 : Below w.heap.size w w4 := below_grown H3.out.2.2.1 ho4 (fun j hj => by cases hj; omega)
  have O4 := own_lower P4.own (show w.heap.size ≤ g by omega)
  have lr4 : r < w4.heap.size := B4.lt
  have lt4 : w.heap.size + 1 < w4.heap.size := T4.lt
  have k4 := B4.cell
  have kt := T4.cell
  have ft := T4.free
  unfold hrCells at k4
  unfold hoCells at kt
  clear k3 l3
  have hneR : w.heap.size + 1 ≠ r := by omega
  have H4 := hid (And.intro B4 (And.intro O4 (And.intro T4 hbw4)))
  clear B4 T4 hbw4 O4 P4 ho4
  go_wp2_with fail
  refine qB (w.heap.size + 1) fun hSt => ?_
  refine qS [0, 1, 2, 3, 4, 5, 6, 7, 8, 9] ?_
  iterate 10 (refine qT ?_; simp only [Act.put, qY])
  refine TakeSeq.done ?_
  refine qH 10 fun K hK => ?_
  go_simp
  refine hK.out _ _ ((by repeat (first | with_reducible exact sb_self _ _ | with_reducible refine sb_drew ?_ | with_reducible refine SteadyBut.set ?_ _ _))) (fun hHeld => ?_)
  clear hK K
  refine qS [11] ?_
  refine qT ?_; simp only [Act.put, qY]
  refine TakeSeq.done ?_
  refine qD ?_ _
  go_wp2_with fail
  have hl : w.heap.size ≤ w.heap.size + 1 := by omega
  have T5 := H4.out.2.2.1
  have hb5 := H4.out.2.2.2
  refine bodyPost_ret (results_ttbt rfl _ _ (w.heap.size + 1) _ _ _ rfl (Blk.cast (((((((((((T5.put 0 _).put 1 _).put 2 _).put 3 _).put 4 _).put 5 _).put 6 _).put 7 _).put 8 _).put 9 _).put 10 _).drew rfl) Tryz.underlying224 rfl (by kernel_rfl)) rfl ⟨g, c, rfl, ?_, (((((((((((hb5.setCell hl _).setCell hl _).setCell hl _).setCell hl _).setCell hl _).setCell hl _).setCell hl _).setCell hl _).setCell hl _).setCell hl _).setCell hl _).drew⟩
  have O5 := H4.out.2.1
  exact own_far11 O5 (by simp [Value.ownBlock]; omega)
def exCells (vp va vk vw : Value) (m : Nat) (res : Value) : Array Value :=
  #[.int .i64 0, .int .i64 1, .int .i64 256, vp, va, .bool false, .int .u64 0, .int .u64 0, .int .u64 0, .int .u64 0, .int .u64 0, .int .u64 0, vk, vw, .map (some m), .slice none 0 0,
    .int .i64 0, .int .i64 0, .int .i64 0, res, .slice none 0 0, .bool false, .bool false, .bool false, .bool false, .bool false]
def POk (l : List Bt.Page) : Prop := l.length ≤ 400 ∧ (∀ p ∈ l, p.Ok) ∧ ∀ p ∈ l, 0 ≤ p.line ∧ p.line < 1000
structure ExAt (r m : Nat) (vp va vk vw : Value) (K W : List Bt.Page) (n : Nat) (D : DataW Value) (w : World) : Prop where
  blk : Blk w r 82 (exCells vp va vk vw m (.slice none 0 0))
  known : PgRow w vk K
  far : ∀ b a c, vk = .slice (some ⟨b, 0, none⟩) a c → b ≠ r ∧ b ≠ m
  writ : w.ownsRow 0 75 9 vw W.length (pageCells W)
  rel : w.ownsMap Tryz.prog 3 heldR m n D
  hn : HNone w
  nr : 2 ≠ r
  nm : 2 ≠ m
structure ExFr (r m : Nat) (w w' : World) : Prop where
  os : w'.os = w.os
  tape : w'.tape = w.tape
  output : w'.output = w.output
  size : w.heap.size ≤ w'.heap.size
  block : ∀ b, b < w.heap.size → b ≠ r → b ≠ m → w'.heap[b]? = w.heap[b]?
theorem ExFr.of_below {r m : Nat} {w w' : World} (h : Below w.heap.size w w') : ExFr r m w w' := ⟨h.os, h.tape, h.output, h.size, fun b hb _ _ => h.block b hb⟩
theorem ExFr.of_over {r m : Nat} {w w' : World} (h : Over r w w') : ExFr r m w w' := ⟨h.os, h.tape, h.output, h.size, fun b hb hr _ => h.block b hb (by simpa using hr)⟩
theorem ExFr.of_map {r m : Nat} {w w' : World} (h : Over m w w') : ExFr r m w w' := ⟨h.os, h.tape, h.output, h.size, fun b hb _ hm => h.block b hb (by simpa using hm)⟩
theorem ExFr.trans {r m : Nat} {a b c : World} (h1 : ExFr r m a b) (h2 : ExFr r m b c) : ExFr r m a c :=
  ⟨h2.os.trans h1.os, h2.tape.trans h1.tape, h2.output.trans h1.output, Nat.le_trans h1.size h2.size, fun k hk hr hm => (h2.block k (Nat.lt_of_lt_of_le hk h1.size) hr hm).trans (h1.block k hk hr hm)⟩
theorem ExFr.blk {r m b : Nat} {w w' : World} {t : TypeId} {cs : Array Value} (h : ExFr r m w w') (hB : Blk w b t cs) (hr : b ≠ r) (hm : b ≠ m) : Blk w' b t cs := (h.block b hB.lt hr hm).trans hB
theorem ExAt.below {r m : Nat} {vp va vk vw : Value} {K W : List Bt.Page} {n : Nat} {D : DataW Value} {w w' : World} (h : ExAt r m vp va vk vw K W n D w) (hb : Below w.heap.size w w') : ExAt r m vp va vk vw K W n D w' :=
  ⟨h.blk.kept hb, h.known.below hb, h.far, own_below h.writ hb, ownsMap_below h.rel hb h.rel.lt, h.hn.below hb, h.nr, h.nm⟩
theorem pgrow_own {w : World} {base : Nat} {v : Value} {l : List Bt.Page} (h : w.ownsRow base 75 9 v l.length (pageCells l)) (hok : ∀ p ∈ l, p.Ok) (hl : l.length ≤ maxLen) : PgRow w v l := by
  rcases Nat.eq_zero_or_pos l.length with h0 | h0
  · refine ⟨hok, hl, ?_⟩
    have e := List.length_eq_zero_iff.1 h0
    rcases h.2 with ⟨h1, _⟩ | ⟨g, cap, cur, hv, _, hh, _⟩
    · exact .inl ⟨h1, e⟩
    · exact .inr ⟨g, cap, hv, (Array.getElem?_eq_some_iff.1 hh).1, fun i p hp => by rw [e] at hp; simp at hp⟩
  · exact PgRow.of_row h rfl h0 hok hl
theorem pgrow_frame {w w' : World} {v : Value} {l : List Bt.Page} (h : PgRow w v l) (hs : w.heap.size ≤ w'.heap.size) (hb : ∀ b n c, v = .slice (some ⟨b, 0, none⟩) n c → b < w.heap.size → w'.heap[b]? = w.heap[b]?) : PgRow w' v l := by
  refine ⟨h.ok, h.len, ?_⟩
  rcases h.form with h1 | ⟨b, cap, hv, hlt, hc⟩
  · exact .inl h1
  · exact .inr ⟨b, cap, hv, Nat.lt_of_lt_of_le hlt hs, fun i q hi j u hu => (World.cell?_of_block (a := ⟨b, i * 9 + j, none⟩) (hb b _ _ hv hlt)).trans (hc i q hi j u hu)⟩
theorem HNone.frame {w w' : World} (h : HNone w) (hs : w.heap.size ≤ w'.heap.size) (hb : w'.heap[2]? = w.heap[2]?) : HNone w' :=
  ⟨(World.cell?_of_block (a := ⟨2, 0, none⟩) hb).trans h.c0, (World.cell?_of_block (a := ⟨2, 1, none⟩) hb).trans h.c1, Nat.lt_of_lt_of_le h.lt hs⟩
theorem ExAt.wrow {r m : Nat} {vp va vk vw : Value} {K W : List Bt.Page} {n : Nat} {D : DataW Value} {w : World} (h : ExAt r m vp va vk vw K W n D w) (hW : POk W) : PgRow w vw W := pgrow_own h.writ hW.2.1 (by have := hW.1; unfold maxLen; omega)
theorem POk.merge {K W : List Bt.Page} (hK : POk K) (hW : POk W) : K.length + W.length ≤ 1000 ∧ ∀ p ∈ K ++ W, 0 ≤ p.line ∧ p.line < 1000 :=
  ⟨by have := hK.1; have := hW.1; omega, fun p hp => (List.mem_append.1 hp).elim (hK.2.2 p) (hW.2.2 p)⟩
theorem exView (r m : Nat) (vp va vk vw : Value) (K W : List Bt.Page) (n : Nat) (D : DataW Value) (w : World) (h : ExAt r m vp va vk vw K W n D w) (hK : POk K) (hW : POk W) :
    Calls Tryz.prog 94 #[.pointer (some ⟨r, 0, none⟩)] w fun e w' => ∃ v, e = .returned v ∧ PgRow w' v (Rf.merge K W) ∧ Below w.heap.size w w' := by
  have HM := hid (merge_ok K W vk vw w.drew (h.known.below (Below.refl _ _).drew) ((h.wrow hW).below (Below.refl _ _).drew) (hK.merge hW).1 (hK.merge hW).2)
  have kr := h.blk.cell
  have lr := h.blk.lt
  obtain ⟨pk, ck, rfl⟩ := h.known.slice
  obtain ⟨pw, cw, rfl⟩ := (h.wrow hW).slice
  clear h hK hW
  unfold exCells at kr
  go_enter Tryz.func94, Tryz.ntmps94
  go_wp2_with fail
  refine qA fun hSt => ?_
  refine qS [0, 1, 2, 3, 4, 5, 6, 7] ?_
  iterate 8 (refine qT ?_; simp only [Act.put, qY])
  refine TakeSeq.done ?_
  refine qH 8 fun K hK => ?_
  go_simp
  go_at_call 150; refine HM.out.mono ?_; rintro e w1 ⟨v, rfl, hp, ho, hb⟩
  go_wp2_with fail
  refine hK.out _ _ (SteadyAll.of qL) (fun hHeld => ?_)
  clear hK K
  refine qS [9] ?_
  refine qT ?_; simp only [Act.put, qY]
  refine TakeSeq.done ?_
  refine qD ?_ _
  have hb1 : Below w.heap.size w w1 := (Below.refl _ _).drew.trans hb
  have HX := hid (And.intro hp hb1)
  clear hp ho hb hb1
  go_wp2_with fail
  refine bodyPost_ret (results_tmp rfl _ _ _) rfl ⟨v, rfl, HX.out.1, HX.out.2⟩
theorem exWrite (r m : Nat) (vp va vk vw : Value) (K W P : List Bt.Page) (n : Nat) (D : DataW Value) (vq : Value) (w : World) (h : ExAt r m vp va vk vw K W n D w) (hW : POk W) (hP : POk P) (hq : PgRow w vq P) :
    Calls Tryz.prog 95 #[.pointer (some ⟨r, 0, none⟩), vq] w fun e w' => e = .returned (.tuple #[]) ∧ (∃ vw', ExAt r m vp va vk vw' K (Rf.merge W P) n D w') ∧ ExFr r m w w' := by
  have HM := hid (merge_ok W P vw vq w (h.wrow hW) hq (hW.merge hP).1 (hW.merge hP).2)
  have HX := hid h
  have kr := h.blk.cell
  have lr := h.blk.lt
  obtain ⟨pw, cw, rfl⟩ := (h.wrow hW).slice
  obtain ⟨pq, cq, rfl⟩ := hq.slice
  clear h hW hP hq
  unfold exCells at kr
  go_enter Tryz.func95, Tryz.ntmps95
  go_wp2_with fail
  go_at_call 150; refine HM.out.mono ?_; rintro e w1 ⟨v, rfl, hp, ho, hb⟩
  have H1 := hid (And.intro (HX.out.below hb) (And.intro ho hb))
  obtain ⟨pv, cv, rfl⟩ := own_shape ho
  clear hp ho hb
  have kr := H1.out.1.blk.cell
  have fr := H1.out.1.blk.free
  have lr := H1.out.1.blk.lt
  unfold exCells at kr
  go_wp2_with fail
  have hx := H1.out.1
  have hO : Over r w1 (w1.setCell ⟨r, 13, none⟩ (.slice pv (Rf.merge W P).length cv)) := (Over.refl _ _).put 13 _
  refine bodyPost_end (results_none rfl _ _ _) rfl ⟨rfl, ⟨.slice pv (Rf.merge W P).length cv, ?_⟩, (ExFr.of_below H1.out.2.2).trans (ExFr.of_over hO)⟩
  refine ⟨Blk.cast (hx.blk.put 13 _) (by kernel_rfl), ?_, hx.far, ?_, ?_, ?_, hx.nr, hx.nm⟩
  · exact pgrow_frame hx.known hO.size (fun b n c hv hlt => hO.block b hlt (by have := (hx.far b n c hv).1; simpa using this))
  · exact (own_lower H1.out.2.1 (Nat.zero_le _)).kept hO (.inr (blk_ne_row hx.blk H1.out.2.1 (by decide)))
  · exact hx.rel.kept hO (fun e => map_ne hx.rel hx.blk (by cases e; rfl))
  · exact hx.hn.frame hO.size (hO.block _ hx.hn.lt (by have := hx.nr; simpa using this))
theorem exRely0 (r : Nat) (p : Option Addr) (c : Nat) (w : World) : Calls Tryz.prog 96 #[.pointer (some ⟨r, 0, none⟩), .slice p 0 c] w fun e w' => e = .returned (.tuple #[]) ∧ Below w.heap.size w w' := by
  go_enter Tryz.func96, Tryz.ntmps96
  go_wp2_with fail
  refine wp_loop_rounds 1 ?_
  rw [rounds_succ]
  go_wp2_with fail
  refine bodyPost_end (results_none rfl _ _ _) rfl ⟨rfl, qL⟩
def relD : DataW Value := DataW.put (.map []) (.int .i64 96) (.held (.bool true))
theorem exRely1 (r m : Nat) (vp va vk vw : Value) (K W : List Bt.Page) (g : Nat) (w : World) (h : ExAt r m vp va vk vw K W 0 (.map []) w) (hg : Blk w g 3 #[.int .i64 96]) :
    Calls Tryz.prog 96 #[.pointer (some ⟨r, 0, none⟩), .slice (some ⟨g, 0, none⟩) 1 1] w fun e w' => e = .returned (.tuple #[]) ∧ ExAt r m vp va vk vw K W 1 relD w' ∧ ExFr r m w w' := by
  have kr := h.blk.cell
  have lr := h.blk.lt
  have kg := hg.cell 0
  have lg := hg.lt
  have HX := hid h
  have HR := hid h.rel
  have hk0 : Hid (keyOf Tryz.prog 3 (.int .i64 96) = some (.int .i64 96)) := hid (Maps.keyOf_int_mk Tryz.underlying3 (by decide))
  clear h hg
  unfold exCells at kr
  go_enter Tryz.func96, Tryz.ntmps96
  go_wp2_with fail
  refine wp_loop_rounds 2 ?_
  rw [rounds_succ]
  go_wp2_with (at_mapUpdate; refine halt ?_)
  refine unhalt ?_
  refine wpList_mapUpdate_own _ rfl _ _ _ 80 rfl 3 4 law_int Tryz.underlying80 heldR m 0 _ rfl HR.out (by unfold maxLen; omega) _ _ _ rfl rfl hk0.out (.held (.bool true)) [] rfl ?_
  intro w1 how1 hg1
  have H1 := hid (And.intro how1 hg1)
  clear how1 hg1
  go_wp2_with fail
  rw [rounds_succ]
  go_wp2_with fail
  have hx := HX.out
  have hO : Over m w w1 := H1.out.2
  refine bodyPost_end (results_none rfl _ _ _) rfl ⟨rfl, ⟨?_, ?_, hx.far, ?_, H1.out.1, ?_, hx.nr, hx.nm⟩, ExFr.of_map hO⟩
  · exact blk_over hx.blk hO (map_ne hx.rel hx.blk)
  · exact pgrow_frame hx.known hO.size (fun b n c hv hlt => hO.block b hlt (by have := (hx.far b n c hv).2; simpa using this))
  · exact hx.writ.kept hO (.inr (map_ne_row hx.rel hx.writ))
  · exact hx.hn.frame hO.size (hO.block _ hx.hn.lt (by have := hx.nm; simpa using this))
end Go.Proofs.YtcoiehgcfjfhaaaGreatDoor
