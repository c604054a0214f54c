/- bodegaref19: ReadHeader of the first segment's page, ownNode. -/
import Derived.Test.YtcoiehgcfjfhaaaGreatDoorQ13
import Derived.Test.YtcoiehgcfjfhaaaGreatDoorQ02
import Derived.Test.YtcoiehgcfjfhaaaGreatDoorQ04
import Derived.Test.YtcoiehgcfjfhaaaGreatDoorQ10
set_option linter.all false
set_option maxRecDepth 20000
set_option maxHeartbeats 8000000
open Go.Lib (hid)
namespace Go.Proofs.YtcoiehgcfjfhaaaGreatDoor
open Go.RowKit
theorem results_bbt {P : Program} {fn : Func} {p q u : Tmp} {ty ty2 : TypeId} (h : fn.results = #[.cell p ty, .cell q ty2, .tmp u]) (tmps : Array Value) (w : World) (b b2 : Nat) (t t2 : TypeId) (cs cs2 : Array Value) (hp : tmps.getD p undef = .pointer (some ⟨b, 0, none⟩)) (hq : tmps.getD q undef = .pointer (some ⟨b2, 0, none⟩))
    (hb : Blk w b t cs) (hb2 : Blk w b2 t2 cs2) (d : TypeDesc) (hu : P.underlying ty = some d) (hd : (match d with | .struct _ | .array _ _ => true | _ => false) = true) (hi : (P.info? ty).map (·.size) = some cs.size) (d2 : TypeDesc) (hu2 : P.underlying ty2 = some d2) (hd2 : (match d2 with | .struct _ | .array _ _ => true | _ => false) = true) (hi2 : (P.info? ty2).map (·.size) = some cs2.size) :
    (results fn tmps).run P w = .ok (.tuple #[.agg cs, .agg cs2, tmps.getD u undef]) w := by
  have e : (results fn tmps).run P w = ((asAddr (tmps.getD p undef)).run P w).andThen fun a w₁ => ((loadVar ty a).run P w₁).andThen fun v w₂ => ((asAddr (tmps.getD q undef)).run P w₂).andThen fun a2 w₃ => ((loadVar ty2 a2).run P w₃).andThen fun v2 w₄ => .ok (.tuple #[v, v2, tmps.getD u undef]) w₄ := by
    simp only [results, h]
    simp [Sem.run_bind, Result.andThen]
  rw [e, hp, hq]
  simp [asAddr, Result.andThen, run_loadVar_row w b t ty cs (0, 0) d hb hu hd hi, run_loadVar_row w b2 t2 ty2 cs2 (0, 0) d2 hb2 hu2 hd2 hi2]
theorem refClient_0 (w : World) : Calls Tryz.prog 40 #[.int .i64 0, .int .i64 256] w fun e w' => e = .returned (.bool true) ∧ w = w' := by
  go_enter Tryz.func40, Tryz.ntmps40
  go_wp2
  refine bodyPost_ret (results_tmp rfl _ _ _) rfl ⟨rfl, rfl⟩
theorem refIsHeader_104 (w : World) : Calls Tryz.prog 80 #[.int .i64 104] w fun e w' => e = .returned (.bool true) ∧ w = w' := by
  have HH := hid (fun W => refHeaderLine_any 0 W)
  go_enter Tryz.func80, Tryz.ntmps80
  go_wp2_with fail
  refine wp_loop_rounds 1 ?_
  rw [rounds_succ]
  go_wp2_with fail
  go_at_call 45; refine (HH.out _).mono ?_; rintro e w1 ⟨rfl, hw⟩; obtain rfl := hw
  have e1 : segLine 0 = 104 := rfl
  rw [e1]
  go_wp2_with fail
  refine bodyPost_ret (results_tmp rfl _ _ _) rfl ⟨rfl, rfl⟩
theorem refReadHeader_104 (head : Int) (w : World) : Calls Tryz.prog 48 #[.agg (⟨104, head, 0, 0, 0, 0, 0, 0, 0⟩ : Bt.Page).cells] w fun e w' => e = .returned (.tuple #[.agg #[.int .i64 (-1), .int .u32 0], .int .i64 0]) ∧ Below w.heap.size w w' := by
  have HH := hid (fun W => refIsHeader_104 W)
  unfold Bt.Page.cells
  go_enter Tryz.func48, Tryz.ntmps48
  go_wp2_with fail
  go_at_call 80; refine (HH.out _).mono ?_; rintro e w1 ⟨rfl, hw⟩; obtain rfl := hw
  go_wp2_with fail
  refine wp_loop_rounds 6 ?_
  rw [rounds_succ]
  go_wp2_with fail
  rw [rounds_succ]
  go_wp2_with fail
  rw [rounds_succ]
  go_wp2_with fail
  rw [rounds_succ]
  go_wp2_with fail
  rw [rounds_succ]
  go_wp2_with fail
  rw [rounds_succ]
  go_wp2_with fail
  simp [bodyPost, results, Tryz.results48, go_sem]
  exact qL
theorem refOwnNode_ok (known : List Bt.Page) (v : Value) (c line head segs inc : Int) (w : World) (hk : PgRow w v known) (hsm : known.length ≤ 1000000) (hc : 0 ≤ c ∧ c < 6) (hl : line = 98 + c) (hs : 0 ≤ segs ∧ segs ≤ 511) (hi : 0 ≤ inc ∧ inc ≤ 59)
    (hf : Bt.latest known line = some (ownPage line head segs inc)) (hlk : Bt.locked (ownPage line head segs inc) = false) (hok : (ownPage line head segs inc).Ok) :
    Calls Tryz.prog 43 #[v, .int .i64 c] w fun e w' => e = .returned (.tuple #[.agg (ownPage line head segs inc).cells, .agg (ownCells segs inc), .int .i64 0]) ∧ Below w.heap.size w w' := by
  have wc : IntKind.i64.wrap (98 + c) = line := by rw [IntKind.wrap_i64]; omega
  have hfp : foundPage known line = ownPage line head segs inc := by simp [foundPage, hf]
  have HF : Hid (∀ W, Below w.heap.size w W → Calls Tryz.prog 46 #[v, .int .i64 line] W fun e w' => e = .returned (.tuple #[.agg (ownPage line head segs inc).cells, .bool true]) ∧ Below W.heap.size W w') := hid (fun W hb => by
    have h := refLatest_any known v line W (hk.below hb) hsm
    rw [hfp, hf] at h
    exact h)
  have HLK : Hid (∀ W, Calls Tryz.prog 47 #[.agg (ownPage line head segs inc).cells] W fun e w' => e = .returned (.bool false) ∧ Below W.heap.size W w') := hid (fun W => by
    have h := refLocked_any _ hok W
    rw [hlk] at h
    exact h)
  have HRN := hid (fun W => refReadNode_own line head segs inc (by omega) (by omega) hs hi W)
  obtain ⟨pv, cv, rfl⟩ := hk.shape
  clear hk hf hfp hlk hok hl hs hi hc
  unfold Bt.Page.cells ownPage at HF HLK HRN ⊢
  unfold ownCells at HRN ⊢
  simp only at HF HLK HRN ⊢
  go_enter Tryz.func43, Tryz.ntmps43
  go_wp2_with fail
  go_at_call 46; refine (HF.out _ qL).mono ?_; rintro e w1 ⟨rfl, hb⟩; ((obtain ⟨hc1, hf1, hs1⟩ := qR hb); (try have := qN0 w w1); (try have := qN1 w w1); (try have := qN2 w w1))
  go_wp2_with fail
  go_at_call 47; refine (HLK.out _).mono ?_; rintro e w2 ⟨rfl, hb2⟩; ((obtain ⟨hc2, hf2, hs2⟩ := qR hb2); (try have := qN0 w w2); (try have := qN1 w w2); (try have := qN2 w w2); (try have := qN0 w1 w2); (try have := qN1 w1 w2))
  go_wp2_with fail
  go_at_call 79; refine (HRN.out _).mono ?_; rintro e w3 ⟨rfl, hb3⟩; ((obtain ⟨hc3, hf3, hs3⟩ := qR hb3); (try have := qN0 w w3); (try have := qN1 w w3); (try have := qN2 w w3); (try have := qN0 w1 w3); (try have := qN1 w1 w3); (try have := qN0 w2 w3))
  go_wp2_with fail
  have BA : Blk (w3.alloc (.cells #[.bool false, .int .u32 0, .int .u32 segs, .int .i64 inc, .int .i64 0, .int .i64 0, .int .u32 0, .int .i64 0, .int .i64 0, .int .u32 0, .int .i64 0, .int .i64 0, .int .u32 0, .int .i64 0, .int .i64 0, .int .u32 0] 121)) w.heap.size 75 _ := ((((((Blk.made w _ _).alloc _).kept hb).alloc _).kept hb2).kept hb3).alloc _
  have BB : Blk (w3.alloc (.cells #[.bool false, .int .u32 0, .int .u32 segs, .int .i64 inc, .int .i64 0, .int .i64 0, .int .u32 0, .int .i64 0, .int .i64 0, .int .u32 0, .int .i64 0, .int .i64 0, .int .u32 0, .int .i64 0, .int .i64 0, .int .u32 0] 121)) (w.heap.size + 1) 121 _ := (((((Blk.made' (w := w.alloc _) (by simp)).kept hb).alloc _).kept hb2).kept hb3).alloc _
  have BP : Blk (w3.alloc (.cells #[.bool false, .int .u32 0, .int .u32 segs, .int .i64 inc, .int .i64 0, .int .i64 0, .int .u32 0, .int .i64 0, .int .i64 0, .int .u32 0, .int .i64 0, .int .i64 0, .int .u32 0, .int .i64 0, .int .i64 0, .int .u32 0] 121)) w1.heap.size 75 _ := (((Blk.made w1 _ _).kept hb2).kept hb3).alloc _
  have hbw : Below w.heap.size w (w3.alloc (.cells #[.bool false, .int .u32 0, .int .u32 segs, .int .i64 inc, .int .i64 0, .int .i64 0, .int .u32 0, .int .i64 0, .int .i64 0, .int .u32 0, .int .i64 0, .int .i64 0, .int .u32 0, .int .i64 0, .int .i64 0, .int .u32 0] 121)) := qL
  have BN := Blk.made w3 121 #[.bool false, .int .u32 0, .int .u32 segs, .int .i64 inc, .int .i64 0, .int .i64 0, .int .u32 0, .int .i64 0, .int .i64 0, .int .u32 0, .int .i64 0, .int .i64 0, .int .u32 0, .int .i64 0, .int .i64 0, .int .u32 0]
  have hlt1 : w1.heap.size < w3.heap.size := by omega
  generalize (w3.alloc (.cells #[.bool false, .int .u32 0, .int .u32 segs, .int .i64 inc, .int .i64 0, .int .i64 0, .int .u32 0, .int .i64 0, .int .i64 0, .int .u32 0, .int .i64 0, .int .i64 0, .int .u32 0, .int .i64 0, .int .i64 0, .int .u32 0] 121)) = wx at BA BB BP BN hbw ⊢
  have ka := BA.cell
  have fa := BA.free
  have kb := BB.cell
  have fb := BB.free
  have kp := BP.cell
  have kn := BN.cell
  have HA := hid (And.intro BA (And.intro BB hbw))
  have la := BA.lt
  have lb := BB.lt
  have q1 : (w.heap.size = w1.heap.size) = False := eq_false (by omega)
  have q2 : (w.heap.size + 1 = w1.heap.size) = False := eq_false (by omega)
  have q3 : (w.heap.size = w3.heap.size) = False := eq_false (by omega)
  have q4 : (w.heap.size + 1 = w3.heap.size) = False := eq_false (by omega)
  clear BA BB BP BN hb hb2 hb3 hbw hc1 hc2 hc3 hf1 hf2 hf3
  go_region
  go_wp2_with fail
  have BA := HA.out.1
  have BB := HA.out.2.1
  have hbw := HA.out.2.2
  refine bodyPost_ret (results_bbt rfl _ _ w.heap.size (w.heap.size + 1) 75 121 #[.int .i64 line, .int .u64 head, .int .u64 0, .int .u64 segs, .int .u64 inc, .int .u64 0, .int .u64 0, .int .u64 0, .int .u64 0] #[.bool false, .int .u32 0, .int .u32 segs, .int .i64 inc, .int .i64 0, .int .i64 0, .int .u32 0, .int .i64 0, .int .i64 0, .int .u32 0, .int .i64 0, .int .i64 0, .int .u32 0, .int .i64 0, .int .i64 0, .int .u32 0] rfl rfl ?hA ?hB _ Tryz.underlying75 rfl (by kernel_rfl) _ Tryz.underlying121 rfl (by kernel_rfl)) rfl ⟨rfl, ?_⟩
  case hA =>
    refine Blk.cast (by have B := BA; exact qK) ?_
    simp only [List.setIfInBounds_toArray, List.set_cons_zero, List.set_cons_succ]
  case hB =>
    refine Blk.cast (by have B := BB; exact qK) ?_
    simp only [List.setIfInBounds_toArray, List.set_cons_zero, List.set_cons_succ]
  exact qL
theorem segIsClient_0 (w : World) : Calls Tryz.prog 209 #[.int .i64 0] w fun e w' => e = .returned (.bool true) ∧ w = w' := by
  go_enter Tryz.func209, Tryz.ntmps209
  go_wp2
  refine bodyPost_ret (results_tmp rfl _ _ _) rfl ⟨rfl, rfl⟩
theorem segIsSize_256 (w : World) : Calls Tryz.prog 210 #[.int .i64 256] w fun e w' => e = .returned (.bool true) ∧ w = w' := by
  go_enter Tryz.func210, Tryz.ntmps210
  go_wp2
  refine bodyPost_ret (results_tmp rfl _ _ _) rfl ⟨rfl, rfl⟩
theorem segCount_256 (w : World) : Calls Tryz.prog 213 #[.int .i64 256] w fun e w' => e = .returned (.int .i64 9) ∧ w = w' := by
  go_enter Tryz.func213, Tryz.ntmps213
  go_wp2_with fail
  go_at_call 210; refine (segIsSize_256 _).mono ?_; rintro e w1 ⟨rfl, hw⟩; obtain rfl := hw
  go_wp2_with fail
  refine bodyPost_ret (results_tmp rfl _ _ _) rfl ⟨rfl, rfl⟩
theorem segHeaderLine_0 (w : World) : Calls Tryz.prog 218 #[.int .i64 0] w fun e w' => e = .returned (.int .i64 104) ∧ w = w' := by
  go_enter Tryz.func218, Tryz.ntmps218
  go_wp2_with fail
  refine bodyPost_ret (results_tmp rfl _ _ _) rfl ⟨rfl, rfl⟩
theorem segIsHeader_104 (w : World) : Calls Tryz.prog 273 #[.int .i64 104] w fun e w' => e = .returned (.bool true) ∧ w = w' := by
  go_enter Tryz.func273, Tryz.ntmps273
  go_wp2_with fail
  refine bodyPost_ret (results_tmp rfl _ _ _) rfl ⟨rfl, rfl⟩
theorem segIsNode_98 (w : World) : Calls Tryz.prog 91 #[.int .i64 98] w fun e w' => e = .returned (.bool true) ∧ w = w' := by
  go_enter Tryz.func91, Tryz.ntmps91
  go_wp2_with fail
  refine bodyPost_ret (results_tmp rfl _ _ _) rfl ⟨rfl, rfl⟩
theorem segUnpackRetired_0 (w : World) : Calls Tryz.prog 92 #[.int .u64 0] w fun e w' => e = .returned (.tuple #[.agg #[.int .i64 0, .int .i64 0, .int .u32 0], .bool true]) ∧ Below w.heap.size w w' := by
  go_enter Tryz.func92, Tryz.ntmps92
  go_wp2_with fail
  simp [bodyPost, results, Tryz.results92, go_sem]
  exact qL
theorem segReadNode_1 (head : Int) (w : World) : Calls Tryz.prog 63 #[.agg (ownPage 98 head 1 1).cells] w fun e w' => e = .returned (.tuple #[.agg (ownCells 1 1), .int .i64 0]) ∧ Below w.heap.size w w' := by
  have HO := hid (fun W => segIsNode_98 W)
  have HU := hid (fun W => segUnpackRetired_0 W)
  unfold Bt.Page.cells ownPage
  go_enter Tryz.func63, Tryz.ntmps63
  go_wp2_with fail
  go_at_call 91; refine (HO.out _).mono ?_; rintro e w1 ⟨rfl, hw⟩; obtain rfl := hw
  go_wp2_with fail
  have KP : Blk (((w.alloc (.cells #[.int .i64 98, .int .u64 head, .int .u64 0, .int .u64 1, .int .u64 1, .int .u64 0, .int .u64 0, .int .u64 0, .int .u64 0] 75)).alloc (.cells #[.bool false, .int .u32 0, .int .u32 0, .int .i64 0, .int .i64 0, .int .i64 0, .int .u32 0, .int .i64 0, .int .i64 0, .int .u32 0, .int .i64 0, .int .i64 0, .int .u32 0, .int .i64 0, .int .i64 0, .int .u32 0] 159)).alloc (.cells #[.bool false, .int .u32 0, .int .u32 1, .int .i64 1, .int .i64 0, .int .i64 0, .int .u32 0, .int .i64 0, .int .i64 0, .int .u32 0, .int .i64 0, .int .i64 0, .int .u32 0, .int .i64 0, .int .i64 0, .int .u32 0] 159)) w.heap.size 75 #[.int .i64 98, .int .u64 head, .int .u64 0, .int .u64 1, .int .u64 1, .int .u64 0, .int .u64 0, .int .u64 0, .int .u64 0] := ((Blk.made w _ _).alloc _).alloc _
  have KZ : Blk (((w.alloc (.cells #[.int .i64 98, .int .u64 head, .int .u64 0, .int .u64 1, .int .u64 1, .int .u64 0, .int .u64 0, .int .u64 0, .int .u64 0] 75)).alloc (.cells #[.bool false, .int .u32 0, .int .u32 0, .int .i64 0, .int .i64 0, .int .i64 0, .int .u32 0, .int .i64 0, .int .i64 0, .int .u32 0, .int .i64 0, .int .i64 0, .int .u32 0, .int .i64 0, .int .i64 0, .int .u32 0] 159)).alloc (.cells #[.bool false, .int .u32 0, .int .u32 1, .int .i64 1, .int .i64 0, .int .i64 0, .int .u32 0, .int .i64 0, .int .i64 0, .int .u32 0, .int .i64 0, .int .i64 0, .int .u32 0, .int .i64 0, .int .i64 0, .int .u32 0] 159)) (w.heap.size + 1) 159 #[.bool false, .int .u32 0, .int .u32 0, .int .i64 0, .int .i64 0, .int .i64 0, .int .u32 0, .int .i64 0, .int .i64 0, .int .u32 0, .int .i64 0, .int .i64 0, .int .u32 0, .int .i64 0, .int .i64 0, .int .u32 0] := (Blk.made' (by simp)).alloc _
  have KN : Blk (((w.alloc (.cells #[.int .i64 98, .int .u64 head, .int .u64 0, .int .u64 1, .int .u64 1, .int .u64 0, .int .u64 0, .int .u64 0, .int .u64 0] 75)).alloc (.cells #[.bool false, .int .u32 0, .int .u32 0, .int .i64 0, .int .i64 0, .int .i64 0, .int .u32 0, .int .i64 0, .int .i64 0, .int .u32 0, .int .i64 0, .int .i64 0, .int .u32 0, .int .i64 0, .int .i64 0, .int .u32 0] 159)).alloc (.cells #[.bool false, .int .u32 0, .int .u32 1, .int .i64 1, .int .i64 0, .int .i64 0, .int .u32 0, .int .i64 0, .int .i64 0, .int .u32 0, .int .i64 0, .int .i64 0, .int .u32 0, .int .i64 0, .int .i64 0, .int .u32 0] 159)) (w.heap.size + 1 + 1) 159 #[.bool false, .int .u32 0, .int .u32 1, .int .i64 1, .int .i64 0, .int .i64 0, .int .u32 0, .int .i64 0, .int .i64 0, .int .u32 0, .int .i64 0, .int .i64 0, .int .u32 0, .int .i64 0, .int .i64 0, .int .u32 0] := Blk.made' (by simp)
  have hbX : Below w.heap.size w (((w.alloc (.cells #[.int .i64 98, .int .u64 head, .int .u64 0, .int .u64 1, .int .u64 1, .int .u64 0, .int .u64 0, .int .u64 0, .int .u64 0] 75)).alloc (.cells #[.bool false, .int .u32 0, .int .u32 0, .int .i64 0, .int .i64 0, .int .i64 0, .int .u32 0, .int .i64 0, .int .i64 0, .int .u32 0, .int .i64 0, .int .i64 0, .int .u32 0, .int .i64 0, .int .i64 0, .int .u32 0] 159)).alloc (.cells #[.bool false, .int .u32 0, .int .u32 1, .int .i64 1, .int .i64 0, .int .i64 0, .int .u32 0, .int .i64 0, .int .i64 0, .int .u32 0, .int .i64 0, .int .i64 0, .int .u32 0, .int .i64 0, .int .i64 0, .int .u32 0] 159)) := qL
  have HX := hid (And.intro KP (And.intro KZ (And.intro KN hbX)))
  obtain ⟨wx, hwx⟩ : ∃ wx, (((w.alloc (.cells #[.int .i64 98, .int .u64 head, .int .u64 0, .int .u64 1, .int .u64 1, .int .u64 0, .int .u64 0, .int .u64 0, .int .u64 0] 75)).alloc (.cells #[.bool false, .int .u32 0, .int .u32 0, .int .i64 0, .int .i64 0, .int .i64 0, .int .u32 0, .int .i64 0, .int .i64 0, .int .u32 0, .int .i64 0, .int .i64 0, .int .u32 0, .int .i64 0, .int .i64 0, .int .u32 0] 159)).alloc (.cells #[.bool false, .int .u32 0, .int .u32 1, .int .i64 1, .int .i64 0, .int .i64 0, .int .u32 0, .int .i64 0, .int .i64 0, .int .u32 0, .int .i64 0, .int .i64 0, .int .u32 0, .int .i64 0, .int .i64 0, .int .u32 0] 159)) = wx := ⟨_, rfl⟩
  rw [hwx] at HX ⊢
  clear KP KZ KN hbX hwx
  go_loopw [50] (fun i wr => ∃ k : Nat, i = .int .i64 k ∧ k ≤ 4 ∧ Hid (Blk wr w.heap.size 75 #[.int .i64 98, .int .u64 head, .int .u64 0, .int .u64 1, .int .u64 1, .int .u64 0, .int .u64 0, .int .u64 0, .int .u64 0] ∧ Blk wr (w.heap.size + 1) 159 #[.bool false, .int .u32 0, .int .u32 0, .int .i64 0, .int .i64 0, .int .i64 0, .int .u32 0, .int .i64 0, .int .i64 0, .int .u32 0, .int .i64 0, .int .i64 0, .int .u32 0, .int .i64 0, .int .i64 0, .int .u32 0] ∧ Blk wr (w.heap.size + 1 + 1) 159 #[.bool false, .int .u32 0, .int .u32 1, .int .i64 1, .int .i64 0, .int .i64 0, .int .u32 0, .int .i64 0, .int .i64 0, .int .u32 0, .int .i64 0, .int .i64 0, .int .u32 0, .int .i64 0, .int .i64 0, .int .u32 0] ∧ Below w.heap.size w wr)) (fun i _ => (4 - intOf i).toNat)
  case atStart => exact ⟨0, rfl, by omega, HX⟩
  case round =>
    obtain ⟨k, rfl, hk, HR⟩ := hrel
    obtain ⟨w3, hw3⟩ : ∃ w3, w3 = wr := ⟨_, rfl⟩
    subst hw3
    have kp := HR.out.1.cell
    have kz := HR.out.2.1.cell
    have fz := HR.out.2.1.free
    have kn := HR.out.2.2.1.cell
    have fn := HR.out.2.2.1.free
    have ln := HR.out.2.2.1.lt
    have lz := HR.out.2.1.lt
    have lp := HR.out.1.lt
    rcases (by omega : k = 0 ∨ k = 1 ∨ k = 2 ∨ k = 3 ∨ k = 4) with rfl | rfl | rfl | rfl | rfl
    iterate 4 focus (
      go_wp2_with fail
      go_at_call 92; refine (HU.out _).mono ?_; rintro e w4 ⟨rfl, hb4⟩; ((obtain ⟨hc4, hf4, hs4⟩ := qR hb4); (try have := qN0 w3 w4))
      have hr4 : w.heap.size + 1 + 1 < w4.heap.size := by omega
      go_wp2_with fail
      have B1 := HR.out.1.kept hb4
      have B2 := HR.out.2.1.kept hb4
      have B3 := HR.out.2.2.1.kept hb4
      have hbr := HR.out.2.2.2
      refine ⟨⟨_, rfl, by decide, hid ⟨?_, ?_, ?_, ?_⟩⟩, by simp [intOf]⟩
      · (repeat (first | with_reducible exact B1 | with_reducible apply Blk.put | with_reducible apply Blk.alloc | (with_reducible apply Blk.aside; (case hp => first | (simp; done) | (simp; omega))) | with_reducible apply Blk.drew))
      · (repeat (first | with_reducible exact B2 | with_reducible apply Blk.put | with_reducible apply Blk.alloc | (with_reducible apply Blk.aside; (case hp => first | (simp; done) | (simp; omega))) | with_reducible apply Blk.drew))
      · apply Blk.cast
        · (repeat (first | with_reducible exact B3 | with_reducible apply Blk.put | with_reducible apply Blk.alloc | (with_reducible apply Blk.aside; (case hp => first | (simp; done) | (simp; omega))) | with_reducible apply Blk.drew))
        · kernel_rfl
      · exact qL)
    go_wp2_with fail
    have B2 := HR.out.2.1
    have hb5 := HR.out.2.2.2
    have hl : w.heap.size ≤ w.heap.size + 1 := by omega
    refine bodyPost_ret (results_bt rfl _ _ (w.heap.size + 1) _ _ _ rfl (Blk.cast ((((((((((((((((B2.put 0 _).put 1 _).put 2 _).put 3 _).put 4 _).put 5 _).put 6 _).put 7 _).put 8 _).put 9 _).put 10 _).put 11 _).put 12 _).put 13 _).put 14 _).put 15 _) (by kernel_rfl)) Tryz.underlying159 rfl (by kernel_rfl)) rfl ⟨rfl, ((((((((((((((((hb5.setCell hl _).setCell hl _).setCell hl _).setCell hl _).setCell hl _).setCell hl _).setCell hl _).setCell hl _).setCell hl _).setCell hl _).setCell hl _).setCell hl _).setCell hl _).setCell hl _).setCell hl _).setCell hl _)⟩
theorem segZeros1 (w : World) : Calls Tryz.prog 316 #[.int .u64 0] w fun e w' => e = .returned (.bool false) ∧ w = w' := by
  go_enter Tryz.func316, Tryz.ntmps316
  go_wp2
  refine bodyPost_ret (results_tmp rfl _ _ _) rfl ⟨rfl, rfl⟩
theorem segIndexZeros (b o c : Nat) (w : World) (h : ∀ i, i < 5 → w.cell? ⟨b, o + i, none⟩ = some (.int .u64 0)) :
    Calls Tryz.prog 320 #[.slice (some ⟨b, o, none⟩) 5 c, .func (.func 316) #[] #[]] w fun e w' => e = .returned (.int .i64 (-1)) ∧ w = w' := by
  have HZ := hid (fun W => segZeros1 W)
  have c0 := h 0 (by omega)
  have c1 := h 1 (by omega)
  have c2 := h 2 (by omega)
  have c3 := h 3 (by omega)
  have c4 := h 4 (by omega)
  rw [Nat.add_zero] at c0
  clear h
  go_enter Tryz.func320, Tryz.ntmps320
  go_wp2_with fail
  refine wp_loop_rounds 6 ?_
  iterate 5
    rw [rounds_succ]
    go_wp2_with fail
    go_at_call 316; refine (HZ.out _).mono ?_; rintro e w1 ⟨rfl, hw⟩; obtain rfl := hw
    go_wp2_with fail
  rw [rounds_succ]
  go_wp2_with fail
  refine bodyPost_ret (results_tmp rfl _ _ _) rfl ⟨rfl, rfl⟩
theorem segZeros_5 (b o c : Nat) (w : World) (h : ∀ i, i < 5 → w.cell? ⟨b, o + i, none⟩ = some (.int .u64 0)) :
    Calls Tryz.prog 300 #[.slice (some ⟨b, o, none⟩) 5 c] w fun e w' => e = .returned (.bool true) ∧ w = w' := by
  have HI := hid (segIndexZeros b o c w h)
  have HC : Hid (Calls Tryz.prog 315 #[.slice (some ⟨b, o, none⟩) 5 c, .func (.func 316) #[] #[]] w fun e w' => e = .returned (.bool false) ∧ w = w') := hid (by
    clear h
    go_enter Tryz.func315, Tryz.ntmps315
    go_wp2_with fail
    go_at_call 320; refine HI.out.mono ?_; rintro e w1 ⟨rfl, hw⟩; obtain rfl := hw
    go_wp2_with fail
    refine bodyPost_ret (results_tmp rfl _ _ _) rfl ⟨rfl, rfl⟩)
  clear h
  go_enter Tryz.func300, Tryz.ntmps300
  go_wp2_with fail
  go_at_call 315; refine HC.out.mono ?_; rintro e w1 ⟨rfl, hw⟩; obtain rfl := hw
  go_wp2_with fail
  refine bodyPost_ret (results_tmp rfl _ _ _) rfl ⟨rfl, rfl⟩
def hdrPage (h u : Int) : Bt.Page := ⟨104, h, 1, u, 0, 0, 0, 0, 0⟩
theorem segReadHeader (h u : Int) (hu : u = 0 ∨ u = 2 ∨ u = 14) (w : World) : Calls Tryz.prog 271 #[.agg (hdrPage h u).cells] w fun e w' => e = .returned (.tuple #[.agg #[.int .i64 0, .int .u32 u], .int .i64 0]) ∧ Below w.heap.size w w' := by
  have HO := hid (fun W => segIsHeader_104 W)
  have HZ := hid (fun b o c W h => segZeros_5 b o c W h)
  have a0 : bits BinOp.andNot IntKind.u64 0 65534 = 0 := by kernel_rfl
  have a1 : bits BinOp.andNot IntKind.u64 2 65534 = 0 := by kernel_rfl
  have a2 : bits BinOp.andNot IntKind.u64 14 65534 = 0 := by kernel_rfl
  have a3 : bits BinOp.andNot IntKind.u64 30 65534 = 0 := by kernel_rfl
  unfold Bt.Page.cells hdrPage
  rcases hu with rfl | rfl | rfl
  all_goals
    go_enter Tryz.func271, Tryz.ntmps271
    go_wp2_with fail
    go_at_call 273; refine (HO.out _).mono ?_; rintro e w1 ⟨rfl, hw⟩; obtain rfl := hw
    go_wp2_with fail
    go_at_call 300; refine (HZ.out _ _ _ _ ?hz).mono ?_
    case hz =>
      intro i hi
      rcases (by omega : i = 0 ∨ i = 1 ∨ i = 2 ∨ i = 3 ∨ i = 4) with rfl | rfl | rfl | rfl | rfl <;> exact (((Blk.made w _ _).alloc _).cell _).trans rfl
    rintro e w1 ⟨rfl, hw⟩; obtain rfl := hw
    go_wp2_with fail
    refine bodyPost_ret (results_bt rfl _ _ (w.heap.size + 1) _ _ _ rfl (Blk.made' (by simp)) Tryz.underlying344 rfl (by kernel_rfl)) rfl ⟨rfl, qL⟩
theorem segWriteHeader (p : Bt.Page) (hl : p.line = 104) (u : Int) (hu : u = 2 ∨ u = 14 ∨ u = 30) (w : World) : Calls Tryz.prog 219 #[.agg p.cells, .agg #[.int .i64 0, .int .u32 u]] w fun e w' => e = .returned (.tuple #[.agg (hdrPage p.head u).cells, .int .i64 0]) ∧ Below w.heap.size w w' := by
  have HO := hid (fun W => segIsHeader_104 W)
  obtain ⟨line, head, d0, d1, d2, d3, d4, d5, d6⟩ := p
  simp only at hl
  subst hl
  have a0 : bits BinOp.andNot IntKind.u32 0 65534 = 0 := by kernel_rfl
  have a1 : bits BinOp.andNot IntKind.u32 2 65534 = 0 := by kernel_rfl
  have a2 : bits BinOp.andNot IntKind.u32 14 65534 = 0 := by kernel_rfl
  have a3 : bits BinOp.andNot IntKind.u32 30 65534 = 0 := by kernel_rfl
  unfold Bt.Page.cells hdrPage
  rcases hu with rfl | rfl | rfl
  all_goals
    go_enter Tryz.func219, Tryz.ntmps219
    go_wp2_with fail
    go_at_call 273; refine (HO.out _).mono ?_; rintro e w1 ⟨rfl, hw⟩; obtain rfl := hw
    go_wp2_with fail
    refine bodyPost_ret (results_bt rfl _ _ (w.heap.size + 1 + 1) _ _ _ rfl (Blk.made' (by simp)) Tryz.underlying75 rfl (by kernel_rfl)) rfl ⟨rfl, qL⟩
theorem results_bbtt {P : Program} {fn : Func} {p q u u2 : Tmp} {ty ty2 : TypeId} (h : fn.results = #[.cell p ty, .cell q ty2, .tmp u, .tmp u2]) (tmps : Array Value) (w : World) (b b2 : Nat) (t t2 : TypeId) (cs cs2 : Array Value) (hp : tmps.getD p undef = .pointer (some ⟨b, 0, none⟩)) (hq : tmps.getD q undef = .pointer (some ⟨b2, 0, none⟩))
    (hb : Blk w b t cs) (hb2 : Blk w b2 t2 cs2) (d : TypeDesc) (hu : P.underlying ty = some d) (hd : (match d with | .struct _ | .array _ _ => true | _ => false) = true) (hi : (P.info? ty).map (·.size) = some cs.size) (d2 : TypeDesc) (hu2 : P.underlying ty2 = some d2) (hd2 : (match d2 with | .struct _ | .array _ _ => true | _ => false) = true) (hi2 : (P.info? ty2).map (·.size) = some cs2.size) :
    (results fn tmps).run P w = .ok (.tuple #[.agg cs, .agg cs2, tmps.getD u undef, tmps.getD u2 undef]) w := by
  have e : (results fn tmps).run P w = ((asAddr (tmps.getD p undef)).run P w).andThen fun a w₁ => ((loadVar ty a).run P w₁).andThen fun v w₂ => ((asAddr (tmps.getD q undef)).run P w₂).andThen fun a2 w₃ => ((loadVar ty2 a2).run P w₃).andThen fun v2 w₄ => .ok (.tuple #[v, v2, tmps.getD u undef, tmps.getD u2 undef]) w₄ := by
    simp only [results, h]
    simp [Sem.run_bind, Result.andThen]
  rw [e, hp, hq]
  simp [asAddr, Result.andThen, run_loadVar_row w b t ty cs (0, 0) d hb hu hd hi, run_loadVar_row w b2 t2 ty2 cs2 (0, 0) d2 hb2 hu2 hd2 hi2]
theorem wp_name {P : Program} {c : Code} {Q : Exit → Act → World → Prop} {a : Act} {X : World} (F : World → Prop) (hF : F X) (h : ∀ wx, Hid (F wx) → Code.wp P c Q a wx) : Code.wp P c Q a X := h X (hid hF)
theorem segNode (ks : List Bt.Page) (h : Int) (hh : h % 256 = 0 ∧ 0 ≤ h ∧ h < 18446744073709551616) (hlat : Bt.latest ks 98 = some (ownPage 98 h 1 1)) (vk : Value) (w : World) (hp : PgRow w vk ks) :
    Calls Tryz.prog 211 #[vk, .int .i64 0] w fun e w' => e = .returned (.tuple #[.agg (ownPage 98 h 1 1).cells, .agg (ownCells 1 1), .bool true, .int .i64 0]) ∧ Below w.heap.size w w' := by
  have HLA : Hid (∀ W, Below w.heap.size w W → Calls Tryz.prog 60 #[vk, .int .i64 98] W fun e w' => e = .returned (.tuple #[.agg (ownPage 98 h 1 1).cells, .bool true]) ∧ Below W.heap.size W w') := hid (fun W hb => by
    have h := Latest_any ks vk 98 W (hp.below hb)
    rw [hlat] at h
    exact h)
  have HLK : Hid (∀ W, Calls Tryz.prog 62 #[.agg (ownPage 98 h 1 1).cells] W fun e w' => e = .returned (.bool false) ∧ Below W.heap.size W w') := hid (fun W => by
    have h1 := Locked_any (ownPage 98 h 1 1) ⟨hh.2, by simp [ownPage], by simp [ownPage], by simp [ownPage], by simp [ownPage], by simp [ownPage], by simp [ownPage], by simp [ownPage]⟩ W
    rw [show Bt.locked (ownPage 98 h 1 1) = false by simp [Bt.locked, ownPage, hh.1]] at h1
    exact h1)
  have HRN := hid (fun W => segReadNode_1 h W)
  obtain ⟨pv, cv, rfl⟩ := hp.slice
  obtain ⟨nv, hnv⟩ : ∃ n, ks.length = n := ⟨_, rfl⟩
  rw [hnv] at HLA ⊢
  clear hp hnv hlat hh
  unfold ownPage Bt.Page.cells at HLA HLK HRN ⊢
  unfold ownCells at HRN ⊢
  simp only at HLA HLK HRN ⊢
  go_enter Tryz.func211, Tryz.ntmps211
  go_wp2_with fail
  go_at_call 60; refine (HLA.out _ qL).mono ?_; rintro e w1 ⟨rfl, hb1⟩; ((obtain ⟨hc1, hf1, hs1⟩ := qR hb1); (try have z1_w_0 := qN0 w w1); (try have z1_w_1 := qN1 w w1))
  have KP := ((Blk.made w 75 #[.int .i64 0, .int .u64 0, .int .u64 0, .int .u64 0, .int .u64 0, .int .u64 0, .int .u64 0, .int .u64 0, .int .u64 0]).alloc (.cells #[.bool false, .int .u32 0, .int .u32 0, .int .i64 0, .int .i64 0, .int .i64 0, .int .u32 0, .int .i64 0, .int .i64 0, .int .u32 0, .int .i64 0, .int .i64 0, .int .u32 0, .int .i64 0, .int .i64 0, .int .u32 0] 159)).kept hb1
  have KZ := (Blk.made' (w := w.alloc (.cells #[.int .i64 0, .int .u64 0, .int .u64 0, .int .u64 0, .int .u64 0, .int .u64 0, .int .u64 0, .int .u64 0, .int .u64 0] 75)) (t := 159) (cs := #[.bool false, .int .u32 0, .int .u32 0, .int .i64 0, .int .i64 0, .int .i64 0, .int .u32 0, .int .i64 0, .int .i64 0, .int .u32 0, .int .i64 0, .int .i64 0, .int .u32 0, .int .i64 0, .int .i64 0, .int .u32 0]) rfl).kept hb1
  rw [size_alloc] at KZ
  have HK := hid (And.intro KP KZ)
  clear KP KZ
  go_upto_region 2 with (fail)
  refine wp_name (fun W => Blk W w.heap.size 75 #[.int .i64 98, .int .u64 h, .int .u64 0, .int .u64 1, .int .u64 1, .int .u64 0, .int .u64 0, .int .u64 0, .int .u64 0] ∧ Blk W (w.heap.size + 1) 159 #[.bool false, .int .u32 0, .int .u32 0, .int .i64 0, .int .i64 0, .int .i64 0, .int .u32 0, .int .i64 0, .int .i64 0, .int .u32 0, .int .i64 0, .int .i64 0, .int .u32 0, .int .i64 0, .int .i64 0, .int .u32 0] ∧ Below w.heap.size w W) ⟨?_, ?_, qL⟩ (fun wx HX => ?_)
  · apply Blk.cast
    · have B := HK.out.1
      (repeat (first | with_reducible exact B | with_reducible apply Blk.put | with_reducible apply Blk.alloc | (with_reducible apply Blk.aside; (case hp => first | (simp; done) | (simp; omega))) | with_reducible apply Blk.drew))
    · kernel_rfl
  · have B := HK.out.2
    (repeat (first | with_reducible exact B | with_reducible apply Blk.put | with_reducible apply Blk.alloc | (with_reducible apply Blk.aside; (case hp => first | (simp; done) | (simp; omega))) | with_reducible apply Blk.drew))
  clear HK hb1 hc1 hf1 hs1 z1_w_0 z1_w_1
  have kp := HX.out.1.cell
  have fp := HX.out.1.free
  have kz := HX.out.2.1.cell
  have fz := HX.out.2.1.free
  have lz := HX.out.2.1.lt
  have lp := HX.out.1.lt
  go_wp2_with fail
  go_at_call 62; refine (HLK.out _).mono ?_; rintro e w2 ⟨rfl, hb2⟩; ((obtain ⟨hc2, hf2, hs2⟩ := qR hb2); (try have := qN0 w w2); (try have := qN1 w w2); (try have := qN0 wx w2))
  go_wp2_with fail
  go_at_call 63; refine (HRN.out _).mono ?_; rintro e w3 ⟨rfl, hb3⟩; ((obtain ⟨hc3, hf3, hs3⟩ := qR hb3); (try have := qN0 w w3); (try have := qN1 w w3); (try have := qN0 w2 w3))
  go_upto_region 7 with (fail)
  refine wp_name (fun W => Blk W w.heap.size 75 #[.int .i64 98, .int .u64 h, .int .u64 0, .int .u64 1, .int .u64 1, .int .u64 0, .int .u64 0, .int .u64 0, .int .u64 0] ∧ Blk W (w.heap.size + 1) 159 #[.bool false, .int .u32 0, .int .u32 1, .int .i64 1, .int .i64 0, .int .i64 0, .int .u32 0, .int .i64 0, .int .i64 0, .int .u32 0, .int .i64 0, .int .i64 0, .int .u32 0, .int .i64 0, .int .i64 0, .int .u32 0] ∧ Below w.heap.size w W) ⟨?_, ?_, ?_⟩ (fun wy HY => ?_)
  · have B := (HX.out.1.kept hb2).kept hb3
    (repeat (first | with_reducible exact B | with_reducible apply Blk.put | with_reducible apply Blk.alloc | (with_reducible apply Blk.aside; (case hp => first | (simp; done) | (simp; omega))) | with_reducible apply Blk.drew))
  · apply Blk.cast
    · have B := (HX.out.2.1.kept hb2).kept hb3
      (repeat (first | with_reducible exact B | with_reducible apply Blk.put | with_reducible apply Blk.alloc | (with_reducible apply Blk.aside; (case hp => first | (simp; done) | (simp; omega))) | with_reducible apply Blk.drew))
    · kernel_rfl
  · have hbx := HX.out.2.2
    exact qL
  clear HX hb2 hc2 hf2 hs2 hb3 hc3 hf3 hs3 kp fp kz fz lz lp
  have kp := HY.out.1.cell
  have fp := HY.out.1.free
  have kz := HY.out.2.1.cell
  have fz := HY.out.2.1.free
  have lz := HY.out.2.1.lt
  have lp := HY.out.1.lt
  go_region
  go_wp2_with fail
  have BP := HY.out.1
  have BN := HY.out.2.1
  have hbw := HY.out.2.2
  refine bodyPost_ret (results_bbtt rfl _ _ w.heap.size (w.heap.size + 1) 75 159 #[.int .i64 98, .int .u64 h, .int .u64 0, .int .u64 1, .int .u64 1, .int .u64 0, .int .u64 0, .int .u64 0, .int .u64 0] #[.bool false, .int .u32 0, .int .u32 1, .int .i64 1, .int .i64 0, .int .i64 0, .int .u32 0, .int .i64 0, .int .i64 0, .int .u32 0, .int .i64 0, .int .i64 0, .int .u32 0, .int .i64 0, .int .i64 0, .int .u32 0] rfl rfl ?_ ?_ _ Tryz.underlying75 rfl (by kernel_rfl) _ Tryz.underlying159 rfl (by kernel_rfl)) rfl ⟨rfl, qL⟩
  · apply Blk.cast
    · (repeat (first | with_reducible exact BP | with_reducible apply Blk.put | with_reducible apply Blk.alloc | (with_reducible apply Blk.aside; (case hp => first | (simp; done) | (simp; omega))) | with_reducible apply Blk.drew))
    · kernel_rfl
  · apply Blk.cast
    · (repeat (first | with_reducible exact BN | with_reducible apply Blk.put | with_reducible apply Blk.alloc | (with_reducible apply Blk.aside; (case hp => first | (simp; done) | (simp; omega))) | with_reducible apply Blk.drew))
    · kernel_rfl
end Go.Proofs.YtcoiehgcfjfhaaaGreatDoor
