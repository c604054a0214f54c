/- bodegahand.Pick, bodegaheap.Key for whatever number. -/
import Derived.Test.YtcoiehgcfjfhaaaGreatDoorQ13
import Derived.Test.YtcoiehgcfjfhaaaGreatDoorQ14
import Derived.Test.YtcoiehgcfjfhaaaGreatDoorQ05
import Derived.Deep.CutBlock
import Derived.Deep.DeepCutAuto
import Derived.Deep.CutRange
import Derived.Test.YtcoiehgcfjfhaaaGreatDoorQ18
set_option linter.all false
set_option maxRecDepth 20000
set_option maxHeartbeats 8000000
open Go.Lib (hid)
namespace Go.Proofs.YtcoiehgcfjfhaaaGreatDoor
open Go.RowKit
theorem Pick_big (n k : Int) (hn : -9223372036854775808 ≤ n ∧ n ≤ 9223372036854775807) (hk : 1 ≤ k ∧ k ≤ 1000000000000) (w : World) : Calls Tryz.prog 5 #[.int .i64 n, .int .i64 k] w fun e w' => e = .returned (.int .i64 (pick n k)) ∧ w = w' := by
  have b1 : decide (k < 1) = false := by simp; omega
  have b2 : (k == 0) = false := by simp; omega
  have h1 := Int.tmod_lt_of_pos n (show 0 < k by omega)
  have h2 := Int.lt_tmod_of_pos n (show 0 < k by omega)
  have w1 : wrap64 (n.tmod k + k) = n.tmod k + k := by unfold wrap64; omega
  have w2 : wrap64 (n.tmod k) = n.tmod k := by unfold wrap64; omega
  have e1 : (n.tmod k + k).tmod k = n % k := by
    rw [Int.tmod_eq_emod_of_nonneg (by omega), Int.add_emod_right, tmod_emod_self]
  have h3 := Int.emod_lt_of_pos n (show 0 < k by omega)
  have h4 := Int.emod_nonneg n (show k ≠ 0 by omega)
  go_enter Tryz.func5, Tryz.ntmps5
  go_wp2
  go_ret
  refine ⟨ret_int ?_, rfl⟩
  unfold pick
  first | exact e1 | (rw [e1]; done) | (simp [*]; done)
theorem pick_range (n k : Int) (hk : 1 ≤ k) : 0 ≤ pick n k ∧ pick n k < k := ⟨Int.emod_nonneg n (by omega), Int.emod_lt_of_pos n (by omega)⟩
def KeyPost (w : World) (e : Ending) (w' : World) : Prop := (∃ x, e = .returned (.int .u32 x) ∧ 1 ≤ x ∧ x ≤ 4294967294) ∧ w = w'
theorem key_ok (n : Int) (hn : i64ok n) (w : World) : Calls Tryz.prog 22 #[.int .i64 n] w (KeyPost w) := by
  have HP := hid (fun k (hk : 1 ≤ k ∧ k ≤ 1000000000000) W => Pick_big n k hn hk W)
  have h50 := pick_range n 50 (by omega)
  have hmx := pick_range n 4294967294 (by omega)
  have h40 := pick_range n 40 (by omega)
  obtain ⟨p50, hp50⟩ : ∃ x, pick n 50 = x := ⟨_, rfl⟩
  obtain ⟨pmx, hpmx⟩ : ∃ x, pick n 4294967294 = x := ⟨_, rfl⟩
  obtain ⟨p40, hp40⟩ : ∃ x, pick n 40 = x := ⟨_, rfl⟩
  have H50 : Hid (∀ W, Calls Tryz.prog 5 #[.int .i64 n, .int .i64 50] W fun e w' => e = .returned (.int .i64 p50) ∧ W = w') := hid (fun W => by have h := HP.out 50 (by omega) W; rwa [hp50] at h)
  have HMX : Hid (∀ W, Calls Tryz.prog 5 #[.int .i64 n, .int .i64 4294967294] W fun e w' => e = .returned (.int .i64 pmx) ∧ W = w') := hid (fun W => by have h := HP.out 4294967294 (by omega) W; rwa [hpmx] at h)
  have H40 : Hid (∀ W, Calls Tryz.prog 5 #[.int .i64 n, .int .i64 40] W fun e w' => e = .returned (.int .i64 p40) ∧ W = w') := hid (fun W => by have h := HP.out 40 (by omega) W; rwa [hp40] at h)
  rw [hp50] at h50
  rw [hpmx] at hmx
  rw [hp40] at h40
  have HR := hid (And.intro hmx h40)
  have wm : IntKind.u32.wrap pmx = pmx := by rw [IntKind.wrap_u32]; omega
  have wm1 : IntKind.u32.wrap (pmx + 1) = pmx + 1 := by rw [IntKind.wrap_u32]; omega
  have w4 : IntKind.u32.wrap p40 = p40 := by rw [IntKind.wrap_u32]; omega
  have w41 : IntKind.u32.wrap (p40 + 1) = p40 + 1 := by rw [IntKind.wrap_u32]; omega
  clear hp50 hpmx hp40 h50 hmx h40
  cases c : decide (47 ≤ p50)
  · go_enter Tryz.func22, Tryz.ntmps22
    go_wp2_with fail
    go_at_call 5; refine (H50.out _).mono ?_; rintro e w1 ⟨rfl, rfl⟩
    go_wp2_with fail
    go_at_call 5; refine (H40.out _).mono ?_; rintro e w1 ⟨rfl, rfl⟩
    go_wp2_with fail
    exact bodyPost_ret (results_tmp rfl _ _ _) rfl ⟨⟨p40 + 1, rfl, by have := HR.out; omega, by have := HR.out; omega⟩, rfl⟩
  · go_enter Tryz.func22, Tryz.ntmps22
    go_wp2_with fail
    go_at_call 5; refine (H50.out _).mono ?_; rintro e w1 ⟨rfl, rfl⟩
    go_wp2_with fail
    go_at_call 5; refine (HMX.out _).mono ?_; rintro e w1 ⟨rfl, rfl⟩
    go_wp2_with fail
    exact bodyPost_ret (results_tmp rfl _ _ _) rfl ⟨⟨pmx + 1, rfl, by have := HR.out; omega, by have := HR.out; omega⟩, rfl⟩
structure Ln where
  kind : Int
  key : Int
  last : Int
  col : Int
  op : Int
  limit : Int
  a : Int
  b : Int
  c : Int
  deriving Inhabited
def Ln.arr (l : Ln) : Array Value := #[.int .i64 l.kind, .int .i64 l.key, .int .i64 l.last, .int .i64 l.col, .int .i64 l.op, .int .i64 l.limit, .int .i64 l.a, .int .i64 l.b, .int .i64 l.c]
structure Ln.Typed (l : Ln) : Prop where
  kind : i64ok l.kind
  key : i64ok l.key
  last : i64ok l.last
  col : i64ok l.col
  op : i64ok l.op
  limit : i64ok l.limit
  a : i64ok l.a
  b : i64ok l.b
  c : i64ok l.c
def StmtPost (w : World) (e : Ending) (w' : World) : Prop := (∃ s : Sq.St, e = .returned (.agg s.arr) ∧ s.Typed) ∧ Below w.heap.size w w'
structure SmAt (l : Ln) (w : World) (s : Sq.St) (wx : World) : Prop where
  prm : Blk wx w.heap.size 57 l.arr
  res : Blk wx (w.heap.size + 1) 54 (Sq.zero 0).arr
  stm : Blk wx (w.heap.size + 1 + 1) 54 s.arr
  size : wx.heap.size = w.heap.size + 1 + 1 + 1
  below : Below w.heap.size w wx
structure SmCd (l : Ln) (w : World) (s : Sq.St) (c o v : Int) (wx : World) : Prop where
  prm : Blk wx w.heap.size 57 l.arr
  res : Blk wx (w.heap.size + 1) 54 (Sq.zero 0).arr
  stm : Blk wx (w.heap.size + 1 + 1) 54 s.arr
  cond : Blk wx (w.heap.size + 1 + 1 + 1) 52 #[.int .i64 c, .int .i64 o, .int .i64 v]
  below : Below w.heap.size w wx
theorem statement_ok (l : Ln) (hl : l.Typed) (w : World) : Calls Tryz.prog 11 #[.agg l.arr] w (StmtPost w) := by
  obtain ⟨k9, hk9⟩ : ∃ x, pick l.kind 9 = x := ⟨_, rfl⟩
  have rk9 := pick_range l.kind 9 (by omega)
  have Hk9 : Hid (∀ W, Calls Tryz.prog 5 #[.int .i64 l.kind, .int .i64 9] W fun e w' => e = .returned (.int .i64 k9) ∧ W = w') := hid (fun W => by have h := Pick_big l.kind 9 hl.kind (by omega) W; rwa [hk9] at h)
  rw [hk9] at rk9
  clear hk9
  obtain ⟨c3, hc3⟩ : ∃ x, pick l.col 3 = x := ⟨_, rfl⟩
  have rc3 := pick_range l.col 3 (by omega)
  have Hc3 : Hid (∀ W, Calls Tryz.prog 5 #[.int .i64 l.col, .int .i64 3] W fun e w' => e = .returned (.int .i64 c3) ∧ W = w') := hid (fun W => by have h := Pick_big l.col 3 hl.col (by omega) W; rwa [hc3] at h)
  rw [hc3] at rc3
  clear hc3
  obtain ⟨o7, ho7⟩ : ∃ x, pick l.op 7 = x := ⟨_, rfl⟩
  have ro7 := pick_range l.op 7 (by omega)
  have Ho7 : Hid (∀ W, Calls Tryz.prog 5 #[.int .i64 l.op, .int .i64 7] W fun e w' => e = .returned (.int .i64 o7) ∧ W = w') := hid (fun W => by have h := Pick_big l.op 7 hl.op (by omega) W; rwa [ho7] at h)
  rw [ho7] at ro7
  clear ho7
  obtain ⟨m12, hm12⟩ : ∃ x, pick l.limit 12 = x := ⟨_, rfl⟩
  have rm12 := pick_range l.limit 12 (by omega)
  have Hm12 : Hid (∀ W, Calls Tryz.prog 5 #[.int .i64 l.limit, .int .i64 12] W fun e w' => e = .returned (.int .i64 m12) ∧ W = w') := hid (fun W => by have h := Pick_big l.limit 12 hl.limit (by omega) W; rwa [hm12] at h)
  rw [hm12] at rm12
  clear hm12
  obtain ⟨m3, hm3⟩ : ∃ x, pick l.limit 3 = x := ⟨_, rfl⟩
  have rm3 := pick_range l.limit 3 (by omega)
  have Hm3 : Hid (∀ W, Calls Tryz.prog 5 #[.int .i64 l.limit, .int .i64 3] W fun e w' => e = .returned (.int .i64 m3) ∧ W = w') := hid (fun W => by have h := Pick_big l.limit 3 hl.limit (by omega) W; rwa [hm3] at h)
  rw [hm3] at rm3
  clear hm3
  have HK1 := hid (fun W => key_ok l.key hl.key W)
  have HK2 := hid (fun W => key_ok l.last hl.last W)
  unfold KeyPost at HK1 HK2
  have HL := hid hl
  have HRG := hid (And.intro rk9 (And.intro rc3 (And.intro ro7 (And.intro rm12 rm3))))
  obtain ⟨K, hK⟩ : ∃ K, 1 + k9 = K := ⟨_, rfl⟩
  have w9 : IntKind.i64.wrap (1 + k9) = K := by rw [IntKind.wrap_i64]; omega
  have HKR : Hid (1 ≤ K ∧ K ≤ 9) := hid (by omega)
  unfold Ln.arr
  clear hl rk9 rc3 ro7 rm12 rm3 hK
  go_enter Tryz.func11, Tryz.ntmps11
  go_upto_region 1 with (fail)
  go_cut [3] from 6 to 13 (fun t wx => ∃ x, t = .pointer (some ⟨w.heap.size + 1 + 1, 0, none⟩) ∧ (0 ≤ x ∧ x ≤ 4294967295) ∧ Hid (SmAt l w ⟨K, x, 0, 0, 0, 0, 0, 0, 0, 0, 0, 0⟩ wx))
  case first =>
    go_upto_region 1 with (fail)
    refine qA fun hSt => ?_
    refine qS [0, 1, 4, 5] ?_
    iterate 4 (refine qT ?_; simp only [Act.put, qY])
    refine TakeSeq.done ?_
    refine wpAnyH_ready (rs := [2, 8]) (by kernel_rfl) (by simp) ?_
    refine AllReadyH.cons rfl (fun K hK => ?_) (AllReadyH.cons rfl (fun K hK => ?_) (AllReadyH.nil))
    · skip
      rw [if_pos (by rfl)]
      go_simp
      go_at_call 5; refine (Hk9.out _).mono ?_; rintro e w9 ⟨rfl, rfl⟩
      go_wp2_with fail
      refine hK.out _ _ (SteadyAll.of qL) (fun hHeld => ?_)
      clear hK K
      refine qS [3] ?_
      refine qT ?_; simp only [Act.put, qY]
      refine TakeSeq.done ?_
      refine wpAnyH_ready (rs := [6, 8]) (by kernel_rfl) (by simp) ?_
      refine AllReadyH.cons rfl (fun K hK => ?_) (AllReadyH.cons rfl (fun K hK => ?_) (AllReadyH.nil))
      · skip
        rw [if_pos (by rfl)]
        go_simp
        go_at_call 22; refine (HK1.out _).mono ?_; rintro e w9 ⟨⟨x, rfl, x1, x2⟩, rfl⟩
        go_wp2_with fail
        refine hK.out _ _ (SteadyAll.of qL) (fun hHeld => ?_)
        clear hK K
        refine qS [7] ?_
        refine qT ?_; simp only [Act.put, qY]
        refine TakeSeq.done ?_
        refine qH 8 fun K hK => ?_
        go_simp
        refine hK.out _ _ (SteadyAll.of qL) (fun hHeld => ?_)
        clear hK K
        refine qH 9 fun K hK => ?_
        go_simp
        refine hK.out _ _ (SteadyAll.of qL) (fun hHeld => ?_)
        clear hK K
        refine qD ?_ _
        go_wp2_with fail
        go_meet
        exact ⟨x, rfl, ⟨by omega, by omega⟩, hid ⟨(((Blk.made w _ _).alloc _).alloc _).drew, ((Blk.made' (by simp)).alloc _).drew, (Blk.made' (by simp)).drew, by simp, qL⟩⟩
      · skip
        rw [if_pos (by rfl)]
        go_simp
        refine hK.out _ _ (SteadyAll.of qL) (fun hHeld => ?_)
        clear hK K
        refine qH 6 fun K hK => ?_
        go_simp
        go_at_call 22; refine (HK1.out _).mono ?_; rintro e w9 ⟨⟨x, rfl, x1, x2⟩, rfl⟩
        go_wp2_with fail
        refine hK.out _ _ (SteadyAll.of qL) (fun hHeld => ?_)
        clear hK K
        refine qS [7] ?_
        refine qT ?_; simp only [Act.put, qY]
        refine TakeSeq.done ?_
        refine qH 9 fun K hK => ?_
        go_simp
        refine hK.out _ _ (SteadyAll.of qL) (fun hHeld => ?_)
        clear hK K
        refine qD ?_ _
        go_wp2_with fail
        go_meet
        exact ⟨x, rfl, ⟨by omega, by omega⟩, hid ⟨(((Blk.made w _ _).alloc _).alloc _).drew, ((Blk.made' (by simp)).alloc _).drew, (Blk.made' (by simp)).drew, by simp, qL⟩⟩
    · skip
      rw [if_pos (by rfl)]
      go_simp
      refine hK.out _ _ (SteadyAll.of qL) (fun hHeld => ?_)
      clear hK K
      refine qH 2 fun K hK => ?_
      go_simp
      go_at_call 5; refine (Hk9.out _).mono ?_; rintro e w9 ⟨rfl, rfl⟩
      go_wp2_with fail
      refine hK.out _ _ (SteadyAll.of qL) (fun hHeld => ?_)
      clear hK K
      refine qS [3] ?_
      refine qT ?_; simp only [Act.put, qY]
      refine TakeSeq.done ?_
      refine qH 6 fun K hK => ?_
      go_simp
      go_at_call 22; refine (HK1.out _).mono ?_; rintro e w9 ⟨⟨x, rfl, x1, x2⟩, rfl⟩
      go_wp2_with fail
      refine hK.out _ _ (SteadyAll.of qL) (fun hHeld => ?_)
      clear hK K
      refine qS [7] ?_
      refine qT ?_; simp only [Act.put, qY]
      refine TakeSeq.done ?_
      refine qH 9 fun K hK => ?_
      go_simp
      refine hK.out _ _ (SteadyAll.of qL) (fun hHeld => ?_)
      clear hK K
      refine qD ?_ _
      go_wp2_with fail
      go_meet
      exact ⟨x, rfl, ⟨by omega, by omega⟩, hid ⟨(((Blk.made w _ _).alloc _).alloc _).drew, ((Blk.made' (by simp)).alloc _).drew, (Blk.made' (by simp)).drew, by simp, qL⟩⟩
  case rest =>
    obtain ⟨x, rfl, hx, HA⟩ := hcut
    obtain ⟨wA, hwA⟩ : ∃ wA, wA = wc := ⟨_, rfl⟩
    subst hwA
    have kp := HA.out.prm.cell
    have lp := HA.out.prm.lt
    have hsz := HA.out.size
    unfold Ln.arr at kp
    go_upto_region 2 with (fail)
    go_cut [4] from 14 to 22 (fun t wx => t = .pointer (some ⟨w.heap.size + 1 + 1 + 1, 0, none⟩) ∧ Hid (SmCd l w ⟨K, x, 0, 0, 0, 0, 0, 0, 0, 0, 0, 0⟩ c3 o7 l.b wx))
    case first =>
      go_upto_region 2 with (fail)
      refine qA fun hSt => ?_
      refine qS [0, 1, 3, 4, 6, 7] ?_
      iterate 6 (refine qT ?_; simp only [Act.put, qY])
      refine TakeSeq.done ?_
      refine wpAnyH_ready (rs := [2, 9]) (by kernel_rfl) (by simp) ?_
      refine AllReadyH.cons rfl (fun K hK => ?_) (AllReadyH.cons rfl (fun K hK => ?_) (AllReadyH.nil))
      · skip
        rw [if_pos (by rfl)]
        go_simp
        go_at_call 5; refine (Hc3.out _).mono ?_; rintro e w9 ⟨rfl, rfl⟩
        go_wp2_with fail
        refine hK.out _ _ (SteadyAll.of qL) (fun hHeld => ?_)
        clear hK K
        refine wpAnyH_ready (rs := [5, 9]) (by kernel_rfl) (by simp) ?_
        refine AllReadyH.cons rfl (fun K hK => ?_) (AllReadyH.cons rfl (fun K hK => ?_) (AllReadyH.nil))
        · skip
          rw [if_pos (by rfl)]
          go_simp
          go_at_call 5; refine (Ho7.out _).mono ?_; rintro e w9 ⟨rfl, rfl⟩
          go_wp2_with fail
          refine hK.out _ _ (SteadyAll.of qL) (fun hHeld => ?_)
          clear hK K
          refine qS [8] ?_
          refine qT ?_; simp only [Act.put, qY]
          refine TakeSeq.done ?_
          refine qH 9 fun K hK => ?_
          go_simp
          refine hK.out _ _ (SteadyAll.of qL) (fun hHeld => ?_)
          clear hK K
          refine qH 10 fun K hK => ?_
          go_simp
          refine hK.out _ _ (SteadyAll.of qL) (fun hHeld => ?_)
          clear hK K
          refine qD ?_ _
          go_wp2_with fail
          go_meet
          exact ⟨rfl, hid ⟨(HA.out.prm.drew).alloc _, (HA.out.res.drew).alloc _, (HA.out.stm.drew).alloc _, Blk.made' (by first | omega | (show w.heap.size + 1 + 1 + 1 = wA.heap.size; omega)), by have hb := HA.out.below; exact qL⟩⟩
        · skip
          rw [if_pos (by rfl)]
          go_simp
          refine hK.out _ _ (SteadyAll.of qL) (fun hHeld => ?_)
          clear hK K
          refine qH 5 fun K hK => ?_
          go_simp
          go_at_call 5; refine (Ho7.out _).mono ?_; rintro e w9 ⟨rfl, rfl⟩
          go_wp2_with fail
          refine hK.out _ _ (SteadyAll.of qL) (fun hHeld => ?_)
          clear hK K
          refine qS [8] ?_
          refine qT ?_; simp only [Act.put, qY]
          refine TakeSeq.done ?_
          refine qH 10 fun K hK => ?_
          go_simp
          refine hK.out _ _ (SteadyAll.of qL) (fun hHeld => ?_)
          clear hK K
          refine qD ?_ _
          go_wp2_with fail
          go_meet
          exact ⟨rfl, hid ⟨(HA.out.prm.drew).alloc _, (HA.out.res.drew).alloc _, (HA.out.stm.drew).alloc _, Blk.made' (by first | omega | (show w.heap.size + 1 + 1 + 1 = wA.heap.size; omega)), by have hb := HA.out.below; exact qL⟩⟩
      · skip
        rw [if_pos (by rfl)]
        go_simp
        refine hK.out _ _ (SteadyAll.of qL) (fun hHeld => ?_)
        clear hK K
        refine qH 2 fun K hK => ?_
        go_simp
        go_at_call 5; refine (Hc3.out _).mono ?_; rintro e w9 ⟨rfl, rfl⟩
        go_wp2_with fail
        refine hK.out _ _ (SteadyAll.of qL) (fun hHeld => ?_)
        clear hK K
        refine qH 5 fun K hK => ?_
        go_simp
        go_at_call 5; refine (Ho7.out _).mono ?_; rintro e w9 ⟨rfl, rfl⟩
        go_wp2_with fail
        refine hK.out _ _ (SteadyAll.of qL) (fun hHeld => ?_)
        clear hK K
        refine qS [8] ?_
        refine qT ?_; simp only [Act.put, qY]
        refine TakeSeq.done ?_
        refine qH 10 fun K hK => ?_
        go_simp
        refine hK.out _ _ (SteadyAll.of qL) (fun hHeld => ?_)
        clear hK K
        refine qD ?_ _
        go_wp2_with fail
        go_meet
        exact ⟨rfl, hid ⟨(HA.out.prm.drew).alloc _, (HA.out.res.drew).alloc _, (HA.out.stm.drew).alloc _, Blk.made' (by first | omega | (show w.heap.size + 1 + 1 + 1 = wA.heap.size; omega)), by have hb := HA.out.below; exact qL⟩⟩
    case rest =>
      obtain ⟨rfl, HB⟩ := hcut
      obtain ⟨wB, hwB⟩ : ∃ wB, wB = wc := ⟨_, rfl⟩
      subst hwB
      have kp := HB.out.prm.cell
      have lp := HB.out.prm.lt
      have kc := HB.out.cond.cell
      have fc := HB.out.cond.free
      have lc := HB.out.cond.lt
      unfold Ln.arr at kp
      obtain ⟨z, hz⟩ : ∃ z, (o7 == 0) = z := ⟨_, rfl⟩
      go_upto_region 3 with (fail)
      go_cut [25] from 23 to 25 (fun c wx => c = .bool z ∧ wx = wB)
      case first =>
        go_wp2_with fail
        go_meet
        exact ⟨rfl, rfl⟩
      case rest =>
      obtain ⟨rfl, hw⟩ := hcut
      have hw2 := hw.symm
      clear hw
      subst hw2
      clear hz
      go_step
      go_cut [] from 25 to 26 (fun wx => ∃ c o v, (i64ok c ∧ i64ok o ∧ i64ok v) ∧ Hid (SmCd l w ⟨K, x, 0, 0, 0, 0, 0, 0, 0, 0, 0, 0⟩ c o v wx))
      case first =>
        cases z
        · go_wp2_with fail
          go_meet
          exact ⟨c3, o7, l.b, ⟨by have := HRG.out; unfold i64ok; omega, by have := HRG.out; unfold i64ok; omega, HL.out.b⟩, HB⟩
        · go_wp2_with fail
          go_meet
          have hb := HB.out.below
          have B1 := HB.out.prm
          have B2 := HB.out.res
          have B3 := HB.out.stm
          have B4 := HB.out.cond
          exact ⟨0, 0, 0, ⟨by unfold i64ok; omega, by unfold i64ok; omega, by unfold i64ok; omega⟩, hid ⟨by (have B := B1; exact qK), by (have B := B2; exact qK), by (have B := B3; exact qK), (((B4.put 0 _).put 1 _).put 2 _), qL⟩⟩
      case rest =>
      obtain ⟨c, o, v, hcov, HC⟩ := hcut
      obtain ⟨wC, hwC⟩ : ∃ wC, wC = wc := ⟨_, rfl⟩
      subst hwC
      have HCOV := hid hcov
      clear hcov kp kc fc lc lp
      have kp := HC.out.prm.cell
      have lp := HC.out.prm.lt
      have kc := HC.out.cond.cell
      have fc := HC.out.cond.free
      have lc := HC.out.cond.lt
      have ks := HC.out.stm.cell
      have fs := HC.out.stm.free
      have ls := HC.out.stm.lt
      have kr := HC.out.res.cell
      have fr := HC.out.res.free
      have lr := HC.out.res.lt
      unfold Ln.arr at kp
      unfold Sq.St.arr at ks kr
      unfold Sq.zero at kr
      simp only at ks kr
      go_wp2_with fail
      go_at_call 22; refine (HK2.out _).mono ?_; rintro e w9 ⟨⟨y, rfl, y1, y2⟩, rfl⟩
      obtain ⟨yx, hyx⟩ : ∃ b, decide (y < x) = b := ⟨_, rfl⟩
      go_upto_region 6 with (fail)
      go_cut [33] from 30 to 33 (fun c wx => c = .bool yx ∧ wx = wC)
      case first =>
        go_wp2_with fail
        go_meet
        exact ⟨rfl, rfl⟩
      case rest =>
      obtain ⟨rfl, hw⟩ := hcut
      have hw2 := hw.symm
      clear hw
      subst hw2
      clear hyx
      go_step
      go_cut [5] from 33 to 35 (fun t wx => ∃ q, t = .int .u32 q ∧ (0 ≤ q ∧ q ≤ 4294967295) ∧ wx = wC)
      case first =>
        cases yx
        · go_wp2_with fail
          go_meet
          exact ⟨y, rfl, ⟨by omega, by omega⟩, rfl⟩
        · go_wp2_with fail
          go_meet
          exact ⟨x, rfl, ⟨by omega, by omega⟩, rfl⟩
      case rest =>
      obtain ⟨q, rfl, hq, hw⟩ := hcut
      have hw2 := hw.symm
      clear hw
      subst hw2
      have HQ := hid (And.intro hq hx)
      clear hq hx y1 y2
      have hk9 := HKR.out
      clear w9
      rcases (by omega : K = 1 ∨ K = 2 ∨ K = 3 ∨ K = 4 ∨ K = 5 ∨ K = 6 ∨ K = 7 ∨ K = 8 ∨ K = 9) with rfl | rfl | rfl | rfl | rfl | rfl | rfl | rfl | rfl
      · go_wp2_with fail
        have hb := HC.out.below
        have B2 := HC.out.res
        refine bodyPost_ret (results_b rfl _ _ (w.heap.size + 1) _ (Sq.St.arr ⟨1, x, 0, l.a, l.b, l.c, 0, 0, 0, 0, 0, 0⟩) _ rfl (Blk.cast (by have B := B2; exact qK) (by kernel_rfl)) Tryz.underlying54 rfl (by kernel_rfl)) rfl ⟨⟨⟨1, x, 0, l.a, l.b, l.c, 0, 0, 0, 0, 0, 0⟩, rfl, ⟨(show i64ok 1 by unfold i64ok; omega), HQ.out.2, (show (0 : Int) ≤ 0 ∧ (0 : Int) ≤ 4294967295 by omega), HL.out.a, HL.out.b, HL.out.c, (show i64ok 0 by unfold i64ok; omega), (show i64ok 0 by unfold i64ok; omega), (show i64ok 0 by unfold i64ok; omega), (show i64ok 0 by unfold i64ok; omega), (show i64ok 0 by unfold i64ok; omega), (show i64ok 0 by unfold i64ok; omega)⟩⟩, ?_⟩
        exact qL
      · go_upto_region 13 with (fail)
        refine qB (w.heap.size + 1 + 1) fun hSt => ?_
        refine qS [0, 1, 3, 4] ?_
        iterate 4 (refine qT ?_; simp only [Act.put, qY])
        refine TakeSeq.done ?_
        refine qH 2 fun K hK => ?_
        go_simp
        go_at_call 5; refine (Hc3.out _).mono ?_; rintro e w9 ⟨rfl, rfl⟩
        go_wp2_with fail
        refine hK.out _ _ (SteadyBut.of qL) (fun hHeld => ?_)
        clear hK K
        refine qS [5] ?_
        refine qT ?_; simp only [Act.put, qY]
        refine TakeSeq.done ?_
        refine qH 6 fun K hK => ?_
        go_simp
        refine hK.out _ _ ((by repeat (first | with_reducible exact sb_self _ _ | with_reducible refine sb_drew ?_ | with_reducible refine SteadyBut.set ?_ _ _))) (fun hHeld => ?_)
        clear hK K
        refine qS [7] ?_
        refine qT ?_; simp only [Act.put, qY]
        refine TakeSeq.done ?_
        refine qH 8 fun K hK => ?_
        go_simp
        refine hK.out _ _ ((by repeat (first | with_reducible exact sb_self _ _ | with_reducible refine sb_drew ?_ | with_reducible refine SteadyBut.set ?_ _ _))) (fun hHeld => ?_)
        clear hK K
        refine qD ?_ _
        go_wp2_with fail
        have hb := HC.out.below
        have B2 := HC.out.res
        refine bodyPost_ret (results_b rfl _ _ (w.heap.size + 1) _ (Sq.St.arr ⟨2, x, 0, 0, 0, 0, c3, l.a, 0, 0, 0, 0⟩) _ rfl (Blk.cast (by have B := B2; exact qK) (by kernel_rfl)) Tryz.underlying54 rfl (by kernel_rfl)) rfl ⟨⟨⟨2, x, 0, 0, 0, 0, c3, l.a, 0, 0, 0, 0⟩, rfl, ⟨(show i64ok 2 by unfold i64ok; omega), HQ.out.2, (show (0 : Int) ≤ 0 ∧ (0 : Int) ≤ 4294967295 by omega), (show i64ok 0 by unfold i64ok; omega), (show i64ok 0 by unfold i64ok; omega), (show i64ok 0 by unfold i64ok; omega), (show i64ok c3 by have := HRG.out; unfold i64ok; omega), HL.out.a, (show i64ok 0 by unfold i64ok; omega), (show i64ok 0 by unfold i64ok; omega), (show i64ok 0 by unfold i64ok; omega), (show i64ok 0 by unfold i64ok; omega)⟩⟩, ?_⟩
        exact qL
      · go_upto_region 13 with (fail)
        refine qB (w.heap.size + 1 + 1) fun hSt => ?_
        refine qS [0, 1, 3, 4] ?_
        iterate 4 (refine qT ?_; simp only [Act.put, qY])
        refine TakeSeq.done ?_
        refine qH 2 fun K hK => ?_
        go_simp
        go_at_call 5; refine (Hc3.out _).mono ?_; rintro e w9 ⟨rfl, rfl⟩
        go_wp2_with fail
        refine hK.out _ _ (SteadyBut.of qL) (fun hHeld => ?_)
        clear hK K
        refine qS [5] ?_
        refine qT ?_; simp only [Act.put, qY]
        refine TakeSeq.done ?_
        refine qH 6 fun K hK => ?_
        go_simp
        refine hK.out _ _ ((by repeat (first | with_reducible exact sb_self _ _ | with_reducible refine sb_drew ?_ | with_reducible refine SteadyBut.set ?_ _ _))) (fun hHeld => ?_)
        clear hK K
        refine qS [7] ?_
        refine qT ?_; simp only [Act.put, qY]
        refine TakeSeq.done ?_
        refine qH 8 fun K hK => ?_
        go_simp
        refine hK.out _ _ ((by repeat (first | with_reducible exact sb_self _ _ | with_reducible refine sb_drew ?_ | with_reducible refine SteadyBut.set ?_ _ _))) (fun hHeld => ?_)
        clear hK K
        refine qD ?_ _
        go_wp2_with fail
        have hb := HC.out.below
        have B2 := HC.out.res
        refine bodyPost_ret (results_b rfl _ _ (w.heap.size + 1) _ (Sq.St.arr ⟨3, x, 0, 0, 0, 0, c3, l.a, 0, 0, 0, 0⟩) _ rfl (Blk.cast (by have B := B2; exact qK) (by kernel_rfl)) Tryz.underlying54 rfl (by kernel_rfl)) rfl ⟨⟨⟨3, x, 0, 0, 0, 0, c3, l.a, 0, 0, 0, 0⟩, rfl, ⟨(show i64ok 3 by unfold i64ok; omega), HQ.out.2, (show (0 : Int) ≤ 0 ∧ (0 : Int) ≤ 4294967295 by omega), (show i64ok 0 by unfold i64ok; omega), (show i64ok 0 by unfold i64ok; omega), (show i64ok 0 by unfold i64ok; omega), (show i64ok c3 by have := HRG.out; unfold i64ok; omega), HL.out.a, (show i64ok 0 by unfold i64ok; omega), (show i64ok 0 by unfold i64ok; omega), (show i64ok 0 by unfold i64ok; omega), (show i64ok 0 by unfold i64ok; omega)⟩⟩, ?_⟩
        exact qL
      · go_wp2_with fail
        have hb := HC.out.below
        have B2 := HC.out.res
        refine bodyPost_ret (results_b rfl _ _ (w.heap.size + 1) _ (Sq.St.arr ⟨4, x, 0, 0, 0, 0, 0, 0, 0, 0, 0, 0⟩) _ rfl (Blk.cast (by have B := B2; exact qK) (by kernel_rfl)) Tryz.underlying54 rfl (by kernel_rfl)) rfl ⟨⟨⟨4, x, 0, 0, 0, 0, 0, 0, 0, 0, 0, 0⟩, rfl, ⟨(show i64ok 4 by unfold i64ok; omega), HQ.out.2, (show (0 : Int) ≤ 0 ∧ (0 : Int) ≤ 4294967295 by omega), (show i64ok 0 by unfold i64ok; omega), (show i64ok 0 by unfold i64ok; omega), (show i64ok 0 by unfold i64ok; omega), (show i64ok 0 by unfold i64ok; omega), (show i64ok 0 by unfold i64ok; omega), (show i64ok 0 by unfold i64ok; omega), (show i64ok 0 by unfold i64ok; omega), (show i64ok 0 by unfold i64ok; omega), (show i64ok 0 by unfold i64ok; omega)⟩⟩, ?_⟩
        exact qL
      · go_wp2_with fail
        have hb := HC.out.below
        have B2 := HC.out.res
        refine bodyPost_ret (results_b rfl _ _ (w.heap.size + 1) _ (Sq.St.arr ⟨5, x, 0, 0, 0, 0, 0, 0, 0, 0, 0, 0⟩) _ rfl (Blk.cast (by have B := B2; exact qK) (by kernel_rfl)) Tryz.underlying54 rfl (by kernel_rfl)) rfl ⟨⟨⟨5, x, 0, 0, 0, 0, 0, 0, 0, 0, 0, 0⟩, rfl, ⟨(show i64ok 5 by unfold i64ok; omega), HQ.out.2, (show (0 : Int) ≤ 0 ∧ (0 : Int) ≤ 4294967295 by omega), (show i64ok 0 by unfold i64ok; omega), (show i64ok 0 by unfold i64ok; omega), (show i64ok 0 by unfold i64ok; omega), (show i64ok 0 by unfold i64ok; omega), (show i64ok 0 by unfold i64ok; omega), (show i64ok 0 by unfold i64ok; omega), (show i64ok 0 by unfold i64ok; omega), (show i64ok 0 by unfold i64ok; omega), (show i64ok 0 by unfold i64ok; omega)⟩⟩, ?_⟩
        exact qL
      · go_upto_region 15 with (fail)
        refine qB (w.heap.size + 1 + 1) fun hSt => ?_
        refine qS [0, 1, 2, 3, 5] ?_
        iterate 5 (refine qT ?_; simp only [Act.put, qY])
        refine TakeSeq.done ?_
        refine qH 4 fun K hK => ?_
        go_simp
        go_at_call 5; refine (Hm12.out _).mono ?_; rintro e w9 ⟨rfl, rfl⟩
        go_wp2_with fail
        refine hK.out _ _ (SteadyBut.of qL) (fun hHeld => ?_)
        clear hK K
        refine qH 6 fun K hK => ?_
        go_simp
        refine hK.out _ _ ((by repeat (first | with_reducible exact sb_self _ _ | with_reducible refine sb_drew ?_ | with_reducible refine SteadyBut.set ?_ _ _))) (fun hHeld => ?_)
        clear hK K
        refine qS [7] ?_
        refine qT ?_; simp only [Act.put, qY]
        refine TakeSeq.done ?_
        refine qH 8 fun K hK => ?_
        go_simp
        refine hK.out _ _ ((by repeat (first | with_reducible exact sb_self _ _ | with_reducible refine sb_drew ?_ | with_reducible refine SteadyBut.set ?_ _ _))) (fun hHeld => ?_)
        clear hK K
        refine qS [9] ?_
        refine qT ?_; simp only [Act.put, qY]
        refine TakeSeq.done ?_
        refine qH 10 fun K hK => ?_
        go_simp
        refine hK.out _ _ ((by repeat (first | with_reducible exact sb_self _ _ | with_reducible refine sb_drew ?_ | with_reducible refine SteadyBut.set ?_ _ _))) (fun hHeld => ?_)
        clear hK K
        refine qD ?_ _
        go_wp2_with fail
        have hb := HC.out.below
        have B2 := HC.out.res
        refine bodyPost_ret (results_b rfl _ _ (w.heap.size + 1) _ (Sq.St.arr ⟨6, x, q, 0, 0, 0, 0, 0, c, o, v, m12⟩) _ rfl (Blk.cast (by have B := B2; exact qK) (by kernel_rfl)) Tryz.underlying54 rfl (by kernel_rfl)) rfl ⟨⟨⟨6, x, q, 0, 0, 0, 0, 0, c, o, v, m12⟩, rfl, ⟨(show i64ok 6 by unfold i64ok; omega), HQ.out.2, HQ.out.1, (show i64ok 0 by unfold i64ok; omega), (show i64ok 0 by unfold i64ok; omega), (show i64ok 0 by unfold i64ok; omega), (show i64ok 0 by unfold i64ok; omega), (show i64ok 0 by unfold i64ok; omega), HCOV.out.1, HCOV.out.2.1, HCOV.out.2.2, (show i64ok m12 by have := HRG.out; unfold i64ok; omega)⟩⟩, ?_⟩
        exact qL
      · go_upto_region 17 with (fail)
        refine qB (w.heap.size + 1 + 1) fun hSt => ?_
        refine qS [0, 1, 2] ?_
        iterate 3 (refine qT ?_; simp only [Act.put, qY])
        refine TakeSeq.done ?_
        refine qH 3 fun K hK => ?_
        go_simp
        refine hK.out _ _ ((by repeat (first | with_reducible exact sb_self _ _ | with_reducible refine sb_drew ?_ | with_reducible refine SteadyBut.set ?_ _ _))) (fun hHeld => ?_)
        clear hK K
        refine qS [4] ?_
        refine qT ?_; simp only [Act.put, qY]
        refine TakeSeq.done ?_
        refine qH 5 fun K hK => ?_
        go_simp
        refine hK.out _ _ ((by repeat (first | with_reducible exact sb_self _ _ | with_reducible refine sb_drew ?_ | with_reducible refine SteadyBut.set ?_ _ _))) (fun hHeld => ?_)
        clear hK K
        refine qD ?_ _
        go_wp2_with fail
        have hb := HC.out.below
        have B2 := HC.out.res
        refine bodyPost_ret (results_b rfl _ _ (w.heap.size + 1) _ (Sq.St.arr ⟨7, x, q, 0, 0, 0, 0, 0, c, o, v, 0⟩) _ rfl (Blk.cast (by have B := B2; exact qK) (by kernel_rfl)) Tryz.underlying54 rfl (by kernel_rfl)) rfl ⟨⟨⟨7, x, q, 0, 0, 0, 0, 0, c, o, v, 0⟩, rfl, ⟨(show i64ok 7 by unfold i64ok; omega), HQ.out.2, HQ.out.1, (show i64ok 0 by unfold i64ok; omega), (show i64ok 0 by unfold i64ok; omega), (show i64ok 0 by unfold i64ok; omega), (show i64ok 0 by unfold i64ok; omega), (show i64ok 0 by unfold i64ok; omega), HCOV.out.1, HCOV.out.2.1, HCOV.out.2.2, (show i64ok 0 by unfold i64ok; omega)⟩⟩, ?_⟩
        exact qL
      · go_upto_region 19 with (fail)
        refine qB (w.heap.size + 1 + 1) fun hSt => ?_
        refine qS [0, 1, 2, 3, 5] ?_
        iterate 5 (refine qT ?_; simp only [Act.put, qY])
        refine TakeSeq.done ?_
        refine qH 4 fun K hK => ?_
        go_simp
        go_at_call 5; refine (Hm3.out _).mono ?_; rintro e w9 ⟨rfl, rfl⟩
        go_wp2_with fail
        refine hK.out _ _ (SteadyBut.of qL) (fun hHeld => ?_)
        clear hK K
        refine qH 6 fun K hK => ?_
        go_simp
        refine hK.out _ _ ((by repeat (first | with_reducible exact sb_self _ _ | with_reducible refine sb_drew ?_ | with_reducible refine SteadyBut.set ?_ _ _))) (fun hHeld => ?_)
        clear hK K
        refine qS [7] ?_
        refine qT ?_; simp only [Act.put, qY]
        refine TakeSeq.done ?_
        refine qH 8 fun K hK => ?_
        go_simp
        refine hK.out _ _ ((by repeat (first | with_reducible exact sb_self _ _ | with_reducible refine sb_drew ?_ | with_reducible refine SteadyBut.set ?_ _ _))) (fun hHeld => ?_)
        clear hK K
        refine qS [9] ?_
        refine qT ?_; simp only [Act.put, qY]
        refine TakeSeq.done ?_
        refine qH 10 fun K hK => ?_
        go_simp
        refine hK.out _ _ ((by repeat (first | with_reducible exact sb_self _ _ | with_reducible refine sb_drew ?_ | with_reducible refine SteadyBut.set ?_ _ _))) (fun hHeld => ?_)
        clear hK K
        refine qD ?_ _
        go_wp2_with fail
        have hb := HC.out.below
        have B2 := HC.out.res
        refine bodyPost_ret (results_b rfl _ _ (w.heap.size + 1) _ (Sq.St.arr ⟨8, x, q, 0, 0, 0, m3, 0, c, o, v, 0⟩) _ rfl (Blk.cast (by have B := B2; exact qK) (by kernel_rfl)) Tryz.underlying54 rfl (by kernel_rfl)) rfl ⟨⟨⟨8, x, q, 0, 0, 0, m3, 0, c, o, v, 0⟩, rfl, ⟨(show i64ok 8 by unfold i64ok; omega), HQ.out.2, HQ.out.1, (show i64ok 0 by unfold i64ok; omega), (show i64ok 0 by unfold i64ok; omega), (show i64ok 0 by unfold i64ok; omega), (show i64ok m3 by have := HRG.out; unfold i64ok; omega), (show i64ok 0 by unfold i64ok; omega), HCOV.out.1, HCOV.out.2.1, HCOV.out.2.2, (show i64ok 0 by unfold i64ok; omega)⟩⟩, ?_⟩
        exact qL
      · cases zo : (o == 0)
        · go_wp2_with fail
          have hb := HC.out.below
          have B2 := HC.out.res
          refine bodyPost_ret (results_b rfl _ _ (w.heap.size + 1) _ (Sq.St.arr ⟨9, x, 0, 0, 0, 0, 0, 0, c, o, v, 0⟩) _ rfl (Blk.cast (by have B := B2; exact qK) (by kernel_rfl)) Tryz.underlying54 rfl (by kernel_rfl)) rfl ⟨⟨⟨9, x, 0, 0, 0, 0, 0, 0, c, o, v, 0⟩, rfl, ⟨(show i64ok 9 by unfold i64ok; omega), HQ.out.2, (show (0 : Int) ≤ 0 ∧ (0 : Int) ≤ 4294967295 by omega), (show i64ok 0 by unfold i64ok; omega), (show i64ok 0 by unfold i64ok; omega), (show i64ok 0 by unfold i64ok; omega), (show i64ok 0 by unfold i64ok; omega), (show i64ok 0 by unfold i64ok; omega), HCOV.out.1, HCOV.out.2.1, HCOV.out.2.2, (show i64ok 0 by unfold i64ok; omega)⟩⟩, ?_⟩
          exact qL
        · go_wp2_with fail
          have hb := HC.out.below
          have B2 := HC.out.res
          refine bodyPost_ret (results_b rfl _ _ (w.heap.size + 1) _ (Sq.St.arr ⟨9, x, 0, 0, 0, 0, 0, 0, c, 6, v, 0⟩) _ rfl (Blk.cast (by have B := B2; exact qK) (by kernel_rfl)) Tryz.underlying54 rfl (by kernel_rfl)) rfl ⟨⟨⟨9, x, 0, 0, 0, 0, 0, 0, c, 6, v, 0⟩, rfl, ⟨(show i64ok 9 by unfold i64ok; omega), HQ.out.2, (show (0 : Int) ≤ 0 ∧ (0 : Int) ≤ 4294967295 by omega), (show i64ok 0 by unfold i64ok; omega), (show i64ok 0 by unfold i64ok; omega), (show i64ok 0 by unfold i64ok; omega), (show i64ok 0 by unfold i64ok; omega), (show i64ok 0 by unfold i64ok; omega), HCOV.out.1, (show i64ok 6 by unfold i64ok; omega), HCOV.out.2.2, (show i64ok 0 by unfold i64ok; omega)⟩⟩, ?_⟩
          exact qL
def epochPage (head e : Int) : Bt.Page := ⟨97, head, e, 0, 0, 0, 0, 0, 0⟩
def badCells (code blocker : Int) : Array Value := #[.slice none 0 0, .slice none 0 0, .int .i64 code, .int .u32 0, .int .i64 blocker, .slice none 0 0, .slice none 0 0, .bool true, .bool false]
theorem badEpoch_ok (code blocker : Int) (w : World) : Calls Tryz.prog 128 #[.int .i64 code, .int .i64 blocker] w fun e w' => e = .returned (.agg (badCells code blocker)) ∧ Below w.heap.size w w' := by
  unfold badCells
  go_enter Tryz.func128, Tryz.ntmps128
  go_wp2_with fail
  refine bodyPost_ret (results_b rfl _ _ w.heap.size _ _ _ rfl (by repeat (first | exact Blk.made _ _ _ | refine Blk.cast (Blk.put ?_ _ _) rfl)) Tryz.underlying201 rfl (by kernel_rfl)) rfl ⟨rfl, qL⟩
theorem refReadEpoch_ok (head ep : Int) (h : 0 ≤ ep ∧ ep < 4294967296) (w : World) : Calls Tryz.prog 129 #[.agg (epochPage head ep).cells] w fun e w' => e = .returned (.tuple #[.int .u32 ep, .int .i64 0]) ∧ Below w.heap.size w w' := by
  have b1 : decide (4294967296 ≤ ep) = false := by simp; omega
  have e3 : IntKind.u32.wrap ep = ep := by rw [IntKind.wrap_u32]; omega
  unfold Bt.Page.cells epochPage
  go_enter Tryz.func129, Tryz.ntmps129
  go_wp2_with fail
  refine wp_loop_rounds 7 ?_
  rw [rounds_succ]
  go_wp2_with fail
  rw [rounds_succ]
  go_wp2_with fail
  rw [rounds_succ]
  go_wp2_with fail
  rw [rounds_succ]
  go_wp2_with fail
  rw [rounds_succ]
  go_wp2_with fail
  rw [rounds_succ]
  go_wp2_with fail
  rw [rounds_succ]
  go_wp2_with fail
  simp [bodyPost, results, Tryz.results129, go_sem]
  exact qL
theorem refWriteEpoch_ok (p : Bt.Page) (ep : Int) (hl : p.line = 97) (h : 0 ≤ ep ∧ ep < 4294967296) (w : World) : Calls Tryz.prog 173 #[.agg p.cells, .int .u32 ep] w fun e w' => e = .returned (.tuple #[.agg (epochPage p.head ep).cells, .int .i64 0]) ∧ Below w.heap.size w w' := by
  have e3 : IntKind.u64.wrap ep = ep := by rw [IntKind.wrap_u64]; omega
  obtain ⟨line, head, x0, x1, x2, x3, x4, x5, x6⟩ := p
  simp only at hl ⊢
  subst hl
  unfold Bt.Page.cells epochPage
  go_enter Tryz.func173, Tryz.ntmps173
  go_wp2_with fail
  simp [bodyPost, results, Tryz.results173, go_sem]
  exact qL
theorem epochArgs3 (w : World) : Calls Tryz.prog 127 #[.agg #[.int .i64 3, .int .i64 0, .int .i64 0, .int .i64 0, .int .i64 0, .slice none 0 0]] w fun e w' => e = .returned (.bool true) ∧ Below w.heap.size w w' := by
  go_enter Tryz.func127, Tryz.ntmps127
  go_wp2_with fail
  refine bodyPost_ret (results_tmp rfl _ _ _) rfl ⟨rfl, qL⟩
theorem epochArgs5 (w : World) : Calls Tryz.prog 127 #[.agg #[.int .i64 5, .int .i64 0, .int .i64 0, .int .i64 256, .int .i64 0, .slice none 0 0]] w fun e w' => e = .returned (.bool true) ∧ Below w.heap.size w w' := by
  go_enter Tryz.func127, Tryz.ntmps127
  go_wp2_with fail
  refine bodyPost_ret (results_tmp rfl _ _ _) rfl ⟨rfl, qL⟩
def AdvPost (h0 ep : Int) (w : World) (e : Ending) (w' : World) : Prop :=
  ∃ vw pc nc cc, e = .returned (.agg #[.slice none 0 0, vw, .int .i64 0, .int .u32 ep, .int .i64 (-1), .slice none 0 0, .slice pc nc cc, .bool true, .bool false]) ∧ PgRow w' vw [epochPage h0 ep] ∧ (∃ b c, vw = .slice (some ⟨b, 0, none⟩) 1 c ∧ w.heap.size ≤ b) ∧ Below w.heap.size w w'
def ownLines (k : Nat) : List Int := (List.range k).map (fun s : Nat => 98 + (s : Int))
theorem ownLines_succ (k : Nat) : intCells (ownLines (k + 1)) = intCells (ownLines k) ++ [.int .i64 (98 + k)] := by
  simp [ownLines, intCells, List.range_succ]
theorem refAdvance_ok (ps : List Bt.Page) (v : Value) (ep h0 : Int) (g cap : Nat) (w : World) (hk : PgRow w v ps) (hsm : ps.length ≤ 1000000) (hlat : Bt.latest ps 97 = some (epochPage h0 ep)) (hep : 0 ≤ ep ∧ ep + 1 < 4294967295) (hh0 : 0 ≤ h0 ∧ h0 < 18446744073709551616) (hg : g < w.heap.size)
    (hc : ∀ c : Nat, c < 6 → w.cell? ⟨g, c * 16, none⟩ = some (.bool false)) :
    Calls Tryz.prog 130 #[.int .u32 ep, .slice (some ⟨g, 0, none⟩) 6 cap, v] w (AdvPost h0 (ep + 1) w) := by
  obtain ⟨i0, hi, hz0, hz1, hz2⟩ := info_parts infoInt
  have fE : foundPage ps 97 = epochPage h0 ep := by simp [foundPage, hlat]
  have HLT : Hid (∀ W, Below w.heap.size w W → Calls Tryz.prog 46 #[v, .int .i64 97] W fun e w' => e = .returned (.tuple #[.agg (epochPage h0 ep).cells, .bool true]) ∧ Below W.heap.size W w') := hid (fun W hb => by
    have h := refLatest_any ps v 97 W (hk.below hb) hsm
    rw [fE, hlat] at h
    exact h)
  have HWE := hid (fun W => refWriteEpoch_ok (epochPage h0 ep) (ep + 1) rfl (by omega) W)
  have HC := hid hc
  have hok : (epochPage h0 (ep + 1)).Ok := ⟨hh0, by simp [epochPage]; omega, by simp [epochPage], by simp [epochPage], by simp [epochPage], by simp [epochPage], by simp [epochPage], by simp [epochPage]⟩
  have HOK := hid hok
  obtain ⟨pv, cv, rfl⟩ := hk.shape
  obtain ⟨nv, hnv⟩ : ∃ n, ps.length = n := ⟨_, rfl⟩
  rw [hnv] at HLT ⊢
  have b9 : decide (ep = 4294967295) = false := by simp; omega
  have e3 : IntKind.u32.wrap (ep + 1) = ep + 1 := by rw [IntKind.wrap_u32]; omega
  clear hk hlat fE hnv hc hok hh0
  unfold epochPage at HLT HWE
  unfold Bt.Page.cells at HLT HWE
  simp only at HLT HWE
  go_enter Tryz.func130, Tryz.ntmps130
  go_wp2_with fail
  obtain ⟨wx, hwx⟩ : ∃ wx, w.alloc (.cells #[.slice none 0 0, .slice none 0 0, .int .i64 0, .int .u32 0, .int .i64 0, .slice none 0 0, .slice none 0 0, .bool false, .bool false] 201) = wx := ⟨_, rfl⟩
  have BS : Blk wx w.heap.size 201 #[.slice none 0 0, .slice none 0 0, .int .i64 0, .int .u32 0, .int .i64 0, .slice none 0 0, .slice none 0 0, .bool false, .bool false] := by rw [← hwx]; exact Blk.made w _ _
  have hbx : Below w.heap.size w wx := by rw [← hwx]; exact qL
  have ex : wx.heap.size = w.heap.size + 1 := by rw [← hwx]; simp
  rw [hwx]
  have HX := hid (And.intro BS hbx)
  clear hwx BS hbx
  go_loopw [7, 8] (fun x y wr => ∃ (k : Nat), y = .int .i64 k ∧ k ≤ 6 ∧ Hid (wr.ownsRow wx.heap.size 3 1 x k (intCells (ownLines k)) ∧ Below wx.heap.size wx wr)) (fun _ y _ => (6 - intOf y).toNat)
  case atStart => exact ⟨0, rfl, by omega, hid ⟨World.ownsRow_nil _ _ _ _, Below.refl _ _⟩⟩
  case round =>
    obtain ⟨k, rfl, hk, HR⟩ := hrel
    have hsr : wx.heap.size ≤ wr.heap.size := HR.out.2.size
    have hbr : Below w.heap.size w wr := by have h1 := HX.out.2; have h2 := HR.out.2; exact qL
    by_cases hk2 : k < 6
    · have b1 : decide ((k : Int) < 6) = true := by simp; omega
      have j2 : decide ((k : Int) < 0) = false := by simp
      have j4 : (0 : Int) ≤ k := by omega
      have j5 : (k : Int) < 6 := by omega
      have hgr : g < wr.heap.size := by omega
      have kc : wr.cell? ⟨g, k * 16, none⟩ = some (.bool false) := by rw [hbr.cell (p := ⟨g, k * 16, none⟩) hg]; exact HC.out k hk2
      clear hbr
      go_wp2_with (at_builtin; refine halt ?_)
      refine unhalt ?_
      refine wpList_append_mine rfl (.tmp 35) (.tmp 38) 23 rfl wx.heap.size 3 i0 _ 1 8 Tryz.underlying23 hi hz0 hz1 hz2 rfl (by decide) _ k (intCells (ownLines k)) rfl
        (own_below HR.out.1 (below_alloc (Below.refl _ _) _)) ⟨wr.heap.size, 0, none⟩ 1 1
        [.int .i64 (98 + k)] rfl rfl (one_news (u := .int .i64 (98 + k)) ((Blk.made wr _ _).cell 0)) (by intro u hu; simp at hu; subst hu; rfl) (by omega) (by unfold maxLen; omega) (by omega) (by simp; omega) ?_
      intro g3 cap3 w3 hown3 hg3
      have hL3 : Below wx.heap.size wx w3 := below_grown (w := wx) (by have hbw := HR.out.2; exact qL) hg3 (fun j hj => by have := own_row_ge HR.out.1 j hj; omega)
      rw [← ownLines_succ] at hown3
      have H3 := hid (And.intro hown3 hL3)
      clear hown3 hL3 hg3
      go_wp2_with fail
      refine ⟨⟨k + 1, by simp, by omega, H3⟩, by simp [intOf]; omega⟩
    · have b1 : decide ((k : Int) < 6) = false := by simp; omega
      obtain rfl : k = 6 := by omega
      have KS := (HX.out.1.kept HR.out.2)
      obtain ⟨g7, c7, rfl⟩ : ∃ g c, u7 = .slice (some ⟨g, 0, none⟩) 6 c := by
        rcases HR.out.1.2 with ⟨_, h0⟩ | ⟨g, c, cur, h, _⟩
        · simp at h0
        · exact ⟨g, c, h⟩
      have HB := hid (And.intro hbr KS)
      clear hbr KS
      go_wp2_with fail
      go_at_call 46; refine (HLT.out _ HB.out.1).mono ?_; rintro e w4 ⟨rfl, hb4⟩; ((obtain ⟨hc4, hf4, hs4⟩ := qR hb4); (try have := qN0 wr w4))
      go_wp2_with fail
      go_at_call 173; refine (HWE.out _).mono ?_; rintro e w5 ⟨rfl, hb5⟩; ((obtain ⟨hc5, hf5, hs5⟩ := qR hb5); (try have := qN0 wr w5); (try have := qN0 w4 w5))
      have KS := ((HB.out.2.kept hb4).alloc _).kept hb5
      have hbr : Below w.heap.size w w5 := by have := HB.out.1; exact qL
      have ks := KS.cell
      have fs := KS.free
      have hls := KS.lt
      have H9 := hid (And.intro hbr KS)
      clear KS hbr hb4 hb5
      go_wp2_with fail
      refine bodyPost_ret (results_b rfl _ _ w.heap.size _ _ _ rfl (Blk.cast (((((((((((H9.out.2.put 0 _).put 1 _).put 2 _).put 3 _).put 4 _).put 5 _).put 6 _).put 7 _).put 8 _).alloc _).alloc _) rfl) Tryz.underlying201 rfl (by kernel_rfl)) rfl ⟨_, _, _, _, rfl, ?_, ⟨_, _, rfl, ?_⟩, ?_⟩
      · exact PgRow.of_blk (l := [epochPage h0 (ep + 1)]) (Blk.made' (by simp)) rfl (by intro p hp; rw [List.mem_singleton] at hp; subst hp; exact HOK.out) (by simp [maxLen])
      · have := H9.out.1.size; omega
      · have h1 := (((((((((H9.out.1.setCell (p := ⟨w.heap.size, 0, none⟩) (Nat.le_refl _) (.slice none 0 0)).setCell (p := ⟨w.heap.size, 1, none⟩) (Nat.le_refl _) (.slice (some ⟨w5.heap.size + 1, 0, none⟩) 1 1)).setCell (p := ⟨w.heap.size, 2, none⟩) (Nat.le_refl _) (.int .i64 0)).setCell (p := ⟨w.heap.size, 3, none⟩) (Nat.le_refl _) (.int .u32 (ep + 1))).setCell (p := ⟨w.heap.size, 4, none⟩) (Nat.le_refl _) (.int .i64 (-1))).setCell (p := ⟨w.heap.size, 5, none⟩) (Nat.le_refl _) (.slice none 0 0)).setCell (p := ⟨w.heap.size, 6, none⟩) (Nat.le_refl _) (.slice (some ⟨g7, 0, none⟩) 6 c7)).setCell (p := ⟨w.heap.size, 7, none⟩) (Nat.le_refl _) (.bool true)).setCell (p := ⟨w.heap.size, 8, none⟩) (Nat.le_refl _) (.bool false))
        exact below_alloc (below_alloc h1 _) _
end Go.Proofs.YtcoiehgcfjfhaaaGreatDoor
