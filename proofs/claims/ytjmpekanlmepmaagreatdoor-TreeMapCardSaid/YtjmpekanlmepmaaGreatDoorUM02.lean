/- bodegalaw24.TreeMap: the walk. -/
import Derived.Test.YtjmpekanlmepmaaGreatDoorB46
import Derived.Test.YtjmpekanlmepmaaGreatDoorUM01
set_option linter.all false
namespace Go.Proofs.YtjmpekanlmepmaaGreatDoor
open Go.RowKit
def MapLoop (x P cap n : Nat) (w0 : World) (i : Value) (wr : World) : Prop :=
 ∃ k : Nat, k ≤ n ∧ i = .int .i64 k ∧ Hid (∃ ps nx es T, PlayAt x P cap k w0 wr ps nx es T)
def RightLoop (x P cap n : Nat) (w0 : World) (i : Value) (wr : World) : Prop :=
 ∃ k : Nat, 1 ≤ k ∧ k ≤ 41 ∧ i = .int .u32 k ∧ Hid (∃ ps nx es T, PlayAt x P cap n w0 wr ps nx es T)
set_option maxRecDepth 10000 in
set_option maxHeartbeats 4000000 in
theorem map_walk (pl pa : Option Addr) (cl ca : Nat) (ms : List Mv) (asks : List Int) (w : World) (hn : NoneAt w) (hl : MvRow w pl ms) (ha : IntsRow w pa asks) (hlong : ms.length ≤ 9223372036854775807) (alen : asks.length ≤ 9223372036854775807) :
 Calls Tryz.prog 4 #[.slice pl ms.length cl, .slice pa asks.length ca] w fun e w' => e = .returned (.bool true) ∧ Below w.heap.size w w' := by
 have HN := Lib.hid hn
 have HL := Lib.hid hl
 have HA := Lib.hid ha
 clear hn hl ha
 by_cases h70 : 70 < ms.length
 · have b1 : decide ((70 : Int) < (ms.length : Int)) = true := by simp; omega
   have b2 : decide (70 < ms.length) = true := by simp; omega
   clear h70 hlong alen
   go_enter Tryz.func4, Tryz.ntmps4
   go_wp2_with fail
   go_at_call 21; refine (awake_any _ HN.out).mono ?_
   rintro e1 w1 ⟨rfl, hb1⟩
   go_wp2_with fail
   exact bodyPost_ret (results_tmp rfl _ _ _) rfl ⟨rfl, qL⟩
 have b1 : decide ((70 : Int) < (ms.length : Int)) = false := by simp; omega
 have b2 : decide (70 < ms.length) = false := by simp; omega
 by_cases h10 : 10 < asks.length
 · have d1 : decide ((10 : Int) < (asks.length : Int)) = true := by simp; omega
   have d2 : decide (10 < asks.length) = true := by simp; omega
   clear h70 h10 hlong alen
   go_enter Tryz.func4, Tryz.ntmps4
   go_wp2_with fail
   go_at_call 21; refine (awake_any _ HN.out).mono ?_
   rintro e1 w1 ⟨rfl, hb1⟩
   go_wp2_with fail
   exact bodyPost_ret (results_tmp rfl _ _ _) rfl ⟨rfl, qL⟩
 have d1 : decide ((10 : Int) < (asks.length : Int)) = false := by simp; omega
 have d2 : decide (10 < asks.length) = false := by simp; omega
 have hm70 : ms.length ≤ 70 := by omega
 have ha10 : asks.length ≤ 10 := by omega
 clear h70 h10 hlong alen
 go_enter Tryz.func4, Tryz.ntmps4
 go_wp2_with fail
 go_at_call 21; refine (awake_any _ HN.out).mono ?_
 rintro e1 w1 ⟨rfl, hb1⟩
 have HB1 := Lib.hid hb1
 go_wp2_with fail
 go_at_call 22; refine (begin_any _).mono ?_
 rintro e0 w0 ⟨x, P, cap, rfl, hwP, hPx, hbx, hox, hb0⟩
 have hz1 := Below.size hb1
 have hgl := HN.out.lt
 have HP0 : Hid (∃ ps nx es T, PlayAt x P cap 0 w w0 ps nx es T) := Lib.hid ⟨pg0, 105, [], [], Bt.Inv.start, ⟨0, 0, Nat.le_refl _, Bt.Cnt.start⟩, IxG.start hbx hox hPx (by omega) ((HN.out.below hb1).below hb0), qL, by omega⟩
 clear hbx hox hb0 hb1 hz1 hgl
 go_wp2_with fail
 go_loopw [6] (fun i wr => MapLoop x P cap ms.length w i wr) (fun i _ => ((ms.length : Int) - intOf i).toNat)
 case atStart => exact ⟨0, Nat.zero_le _, rfl, HP0⟩
 case round =>
  obtain ⟨k, hk, rfl, HQ⟩ := hrel
  clear HP0
  by_cases hk2 : k < ms.length
  · obtain ⟨ps, nx, es, T, hs⟩ := HQ.out
    obtain ⟨ins, K, hi1, hi2⟩ := hs.cnt
    obtain ⟨m, hm⟩ : ∃ m, ms[k]? = some m := ⟨_, List.getElem?_eq_getElem hk2⟩
    obtain ⟨r1, r2, r3⟩ := HL.out.rng m (List.mem_of_getElem? hm)
    obtain ⟨ps', nx', es', T', hmv, hdo⟩ := do_any hs.inv hi2 (by omega) (x := x) (P := P) (cap := cap) (G := k) (by omega) m.kind m.key m.level (k : Int) r1 r2 r3 ⟨by omega, by omega⟩
    have hform : ∃ b o, pl = some ⟨b, o, none⟩ ∧ b < w.heap.size ∧ ∀ i m, ms[i]? = some m → w.cell? ⟨b, o + i * 3, none⟩ = some (.int .i64 m.kind) ∧ w.cell? ⟨b, o + i * 3 + 1, none⟩ = some (.int .i64 m.key) ∧ w.cell? ⟨b, o + i * 3 + 2, none⟩ = some (.int .i64 m.level) := by
     rcases HL.out.form with h0 | h0
     · rw [h0] at hk2; simp at hk2
     · exact h0
    obtain ⟨bl, ol, rfl, hbl, hcl⟩ := hform
    obtain ⟨q0, q1, q2⟩ := hcl k m hm
    have c0 : wr.cell? ⟨bl, ol + k * 3, none⟩ = some (.int .i64 m.kind) := (hs.below.cell (p := ⟨bl, ol + k * 3, none⟩) hbl).trans q0
    have c1 : wr.cell? ⟨bl, ol + k * 3 + 1, none⟩ = some (.int .i64 m.key) := (hs.below.cell (p := ⟨bl, ol + k * 3 + 1, none⟩) hbl).trans q1
    have c2 : wr.cell? ⟨bl, ol + k * 3 + 2, none⟩ = some (.int .i64 m.level) := (hs.below.cell (p := ⟨bl, ol + k * 3 + 2, none⟩) hbl).trans q2
    have HDO := Lib.hid hdo
    have HS := Lib.hid hs
    have HMV := Lib.hid hmv
    have hpl := hmv.len hs.inv
    have HPL := Lib.hid hpl
    have hMs : w.heap.size ≤ wr.heap.size := hs.below.size
    have hMP : w.heap.size ≤ P := hs.low
    have kx0 : wr.cell? ⟨x, 0, none⟩ = some (.slice (some ⟨P, 0, none⟩) ps.length cap) := by obtain ⟨_, _, _, ho, _⟩ := hs.ix; exact ho.blk.cell 0
    have hxw : x < wr.heap.size := by obtain ⟨_, _, _, ho, _⟩ := hs.ix; exact ho.blk.lt
    have bk : decide ((k : Int) < ms.length) = true := by simp; omega
    have bk0 : (0 : Int) ≤ k := by omega
    have bk1 : (k : Int) < ms.length := by omega
    have wk1 : IntKind.i64.wrap ((k : Int) + 1) = (k : Int) + 1 := by rw [IntKind.wrap_i64]; omega
    clear hs hdo hmv hpl hcl q0 q1 q2 hm hi1 hi2 r1 r2 r3
    by_cases hz : asks.length = 0
    · have z1 : decide ((0 : Int) < (asks.length : Int)) = false := by rw [hz]; rfl
      have z2 : decide (0 < asks.length) = false := by rw [hz]; rfl
      clear hz
      go_wp2_with fail
      refine wp_region_held_drew (S := SteadyIx x w.heap.size wr) (by kernel_rfl) (SteadyIx.of hxw hMs qL) ?_
      intro hSt
      refine qS [0, 1, 2, 3, 4, 5] ?_
      iterate 6 (refine qT ?_; simp only [Act.put, qY])
      refine TakeSeq.done ?_
      refine qH 6 fun K hK => ?_
      go_simp
      go_at_call 23; refine (HDO.out _ ?hix).mono ?_; (case hix => exact HS.out.ix.over qL); rintro e2 w2 ⟨rfl, hix2, hf2⟩; have HIX2 := Lib.hid hix2; have HF2 := Lib.hid ((FrameP.of_below (show Below wr.heap.size wr _ from qL)).trans hf2); clear hix2 hf2
      go_wp2_with fail
      refine hK.out _ _ (SteadyIx.after HS.out.ix HIX2.out HPL.out HF2.out hMP hMs) (fun hHeld => ?_)
      clear hK K
      refine qS [7, 8, 9, 10, 11, 12, 13, 14, 15, 16, 17, 18, 19, 20, 21, 22, 23, 24, 25, 26, 27, 28, 29] ?_
      iterate 23 (refine qT ?_; simp only [Act.put, qY])
      refine TakeSeq.done ?_
      refine qD ?_ _
      go_wp2_with fail
      refine ⟨⟨k + 1, by omega, by rw [show ((k : Int) + 1) = ((k + 1 : Nat) : Int) by omega], Lib.hid ⟨ps', nx', es', T', (HS.out.moved HMV.out HIX2.out HF2.out).over qL⟩⟩, by simp [intOf]; omega⟩
    · have z1 : decide ((0 : Int) < (asks.length : Int)) = true := decide_eq_true (by omega)
      have hne : ¬ asks = [] := fun e => hz (by rw [e]; rfl)
      have z2 : decide (0 < asks.length) = true := decide_eq_true (by omega)
      obtain ⟨r, hr⟩ : ∃ r, r = k % asks.length := ⟨_, rfl⟩
      have hr2 : r < asks.length := by rw [hr]; exact Nat.mod_lt _ (by omega)
      have hrem : (k : Int).tmod (asks.length : Int) = (r : Int) := by rw [hr, Int.tmod_eq_emod_of_nonneg (by omega)]; exact (Int.natCast_emod _ _).symm
      have hwr : IntKind.i64.wrap (r : Int) = (r : Int) := by rw [IntKind.wrap_i64]; omega
      have hr0 : (0 : Int) ≤ r := by omega
      have hr1 : (r : Int) < asks.length := by omega
      obtain ⟨a, ha⟩ : ∃ a, asks[r]? = some a := ⟨_, List.getElem?_eq_getElem hr2⟩
      have HRA := Lib.hid (HA.out.rng a (List.mem_of_getElem? ha))
      have hforma : ∃ b o, pa = some ⟨b, o, none⟩ ∧ b < w.heap.size ∧ ∀ (i : Nat) (a : Int), asks[i]? = some a → w.cell? ⟨b, o + i, none⟩ = some (.int .i64 a) := by
       rcases HA.out.form with h0 | h0
       · rw [h0] at hr2; simp at hr2
       · exact h0
      obtain ⟨ba, oa, rfl, hba, hca⟩ := hforma
      have ca0 : wr.cell? ⟨ba, oa + r, none⟩ = some (.int .i64 a) := (HS.out.below.cell (p := ⟨ba, oa + r, none⟩) hba).trans (hca r a ha)
      have HKR := Lib.hid (keyOf_range a)
      clear hz hr ha hca
      go_wp2_with fail
      refine wp_region_held_drew (S := SteadyIx x w.heap.size wr) (by kernel_rfl) (SteadyIx.of hxw hMs qL) ?_
      intro hSt
      refine qS [0, 1, 2, 3, 4, 5] ?_
      iterate 6 (refine qT ?_; simp only [Act.put, qY])
      refine TakeSeq.done ?_
      refine qH 6 fun K hK => ?_
      go_simp
      go_at_call 23; refine (HDO.out _ ?hix).mono ?_; (case hix => exact HS.out.ix.over qL); rintro e2 w2 ⟨rfl, hix2, hf2⟩; have HIX2 := Lib.hid hix2; have HF2 := Lib.hid ((FrameP.of_below (show Below wr.heap.size wr _ from qL)).trans hf2); clear hix2 hf2
      go_wp2_with fail
      refine hK.out _ _ (SteadyIx.after HS.out.ix HIX2.out HPL.out HF2.out hMP hMs) (fun hHeld => ?_)
      clear hK K
      refine qS [7, 8, 9, 10, 11, 12, 13, 14, 15, 16, 17, 18, 19, 20, 22, 23, 24, 25] ?_
      iterate 18 (refine qT ?_; simp only [Act.put, qY])
      refine TakeSeq.done ?_
      refine qH 21 fun K hK => ?_
      go_simp
      go_at_call 25; refine (Key_any a HRA.out _).mono ?_; rintro e3 w3 ⟨rfl, hw3⟩; obtain rfl := hw3.symm; clear hw3
      go_wp2_with fail
      refine hK.out _ _ (SteadyIx.after HS.out.ix HIX2.out HPL.out HF2.out hMP hMs) (fun hHeld => ?_)
      clear hK K
      refine qH 26 fun K hK => ?_
      go_simp
      go_at_call 24; refine (show Calls Tryz.prog _ _ _ _ from HPL.out ▸ right_ix HMV.out.inv (keyOf a) HKR.out.1 HKR.out.2 _ HIX2.out).mono ?_; rintro e3 w3 ⟨rfl, hb3⟩; have HB3 := Lib.hid hb3; clear hb3
      go_wp2_with fail
      refine hK.out _ _ (SteadyIx.after HS.out.ix (HIX2.out.over HB3.out) HPL.out (HF2.out.trans (.of_below HB3.out)) hMP hMs) (fun hHeld => ?_)
      clear hK K
      refine qS [27, 28, 29] ?_
      iterate 3 (refine qT ?_; simp only [Act.put, qY])
      refine TakeSeq.done ?_
      refine qD ?_ _
      go_wp2_with fail
      refine ⟨⟨k + 1, by omega, by rw [show ((k : Int) + 1) = ((k + 1 : Nat) : Int) by omega], Lib.hid ⟨ps', nx', es', T', ((HS.out.moved HMV.out HIX2.out HF2.out).over HB3.out).over qL⟩⟩, by simp [intOf]; omega⟩
  · have bk : decide ((k : Int) < ms.length) = false := by simp; omega
    have hkl : k = ms.length := by omega
    have HQ2 : Hid (∃ ps nx es T, PlayAt x P cap ms.length w wr ps nx es T) := Lib.hid (hkl ▸ HQ.out)
    clear hkl HQ
    go_wp2_with fail
    go_loopw [7] (fun i wr2 => RightLoop x P cap ms.length w i wr2) (fun i _ => (41 - intOf i).toNat)
    case atStart => exact ⟨1, by omega, by omega, rfl, HQ2⟩
    case round =>
     obtain ⟨j, hj1, hj2, rfl, HQ3⟩ := hrel
     rename World => wq
     obtain ⟨ps, nx, es, T, hs⟩ := HQ3.out
     by_cases hj3 : j ≤ 40
     · have bj : decide ((j : Int) ≤ 40) = true := by simp; omega
       have wj : IntKind.u32.wrap ((j : Int) + 1) = (j : Int) + 1 := by rw [IntKind.wrap_u32]; omega
       have kx0 : wq.cell? ⟨x, 0, none⟩ = some (.slice (some ⟨P, 0, none⟩) ps.length cap) := by obtain ⟨_, _, _, ho, _⟩ := hs.ix; exact ho.blk.cell 0
       have HS := Lib.hid hs
       clear hs
       go_wp2_with fail
       go_at_call 24; refine (right_ix HS.out.inv (j : Int) (by omega) (by unfold Bt.maxKey; omega) _ (HS.out.ix.over qL)).mono ?_
       rintro e2 w2 ⟨rfl, hb2⟩
       have HB2 := Lib.hid hb2
       clear hb2
       go_wp2_with fail
       refine ⟨⟨j + 1, by omega, by omega, by rw [show ((j : Int) + 1) = ((j + 1 : Nat) : Int) by omega], Lib.hid ⟨ps, nx, es, T, (HS.out.over (by have hb2 := HB2.out; exact qL))⟩⟩, by simp [intOf]; omega⟩
     · have bj : decide ((j : Int) ≤ 40) = false := by simp; omega
       have HS := Lib.hid hs
       clear hs
       go_wp2_with fail
       exact bodyPost_ret (results_tmp rfl _ _ _) rfl ⟨rfl, by have hb := HS.out.below; exact qL⟩
end Go.Proofs.YtjmpekanlmepmaaGreatDoor
