/- Package logrec: a record is valid. Package logrec: the body of a record. -/
import Derived.Test.YtoidjgongafnkaaGreatDoorQc
set_option linter.unusedVariables false
set_option linter.unusedSimpArgs false
set_option linter.unusedSectionVars false
set_option linter.constructorNameAsVariable false
namespace Go.Proofs.YtoidjgongafnkaaGreatDoor
open Go.RowKit

set_option maxRecDepth 10000 in
theorem pgIndex_none (n g cap lo c : Nat) (lines : Int) (hn : n ≤ 12) (hl : 96 + (n : Int) ≤ lines) (w : World) (hown : w.ownsRow lo 36 9 (.slice (some ⟨g, 0, none⟩) n cap) n (pgCells n)) (hc : w.cell? ⟨c, 0, none⟩ = some (.int .i64 lines)) (hlt : c < w.heap.size) :
    Calls Tryz.prog 116 #[.slice (some ⟨g, 0, none⟩) n cap, .func (.func 63) #[] #[.pointer (some ⟨c, 0, none⟩)]] w
      fun e w' => e = .returned (.int .i64 (-1)) ∧ Below w.heap.size w w' := by
  have HC : Hid (∀ k, k < n → ∀ j, j < 9 → w.cell? ⟨g, k * 9 + j, none⟩ = (pgVals (96 + (k : Int)))[j]?) := Lib.hid (fun k hk j hj => pg_cell hown k hk j hj)
  have HG := Lib.hid (own_lt hown).2
  have HL := Lib.hid hc
  clear hown hc
  go_enter Tryz.func116, Tryz.ntmps116
  go_wp2_with fail
  go_loopw [8] (fun i wr => ∃ k : Nat, k ≤ n ∧ i = .int .i64 k ∧ Hid (Below w.heap.size w wr)) (fun i _ => ((n : Int) - intOf i).toNat)
  case atStart => exact ⟨0, by omega, rfl, Lib.hid (Below.refl _ _)⟩
  case round =>
    obtain ⟨k, hk, rfl, H⟩ := hrel
    by_cases hk2 : k < n
    · have b1 : decide ((k : Int) < n) = true := by simp; omega
      have bk0 : (0 : Int) ≤ k := by omega
      have bk1 : (k : Int) < n := by omega
      have c0 : wr.cell? ⟨g, k * 9, none⟩ = some (.int .i64 (96 + (k : Int))) := (H.out.cell (p := ⟨g, k * 9, none⟩) HG.out).trans (HC.out k (by assumption) 0 (by omega))
      have c1 : wr.cell? ⟨g, k * 9 + 1, none⟩ = some (.int .u64 256) := (H.out.cell (p := ⟨g, k * 9 + 1, none⟩) HG.out).trans (HC.out k (by assumption) 1 (by omega))
      have c2 : wr.cell? ⟨g, k * 9 + 2, none⟩ = some (.int .u64 0) := (H.out.cell (p := ⟨g, k * 9 + 2, none⟩) HG.out).trans (HC.out k (by assumption) 2 (by omega))
      have c3 : wr.cell? ⟨g, k * 9 + 3, none⟩ = some (.int .u64 0) := (H.out.cell (p := ⟨g, k * 9 + 3, none⟩) HG.out).trans (HC.out k (by assumption) 3 (by omega))
      have c4 : wr.cell? ⟨g, k * 9 + 4, none⟩ = some (.int .u64 0) := (H.out.cell (p := ⟨g, k * 9 + 4, none⟩) HG.out).trans (HC.out k (by assumption) 4 (by omega))
      have c5 : wr.cell? ⟨g, k * 9 + 5, none⟩ = some (.int .u64 0) := (H.out.cell (p := ⟨g, k * 9 + 5, none⟩) HG.out).trans (HC.out k (by assumption) 5 (by omega))
      have c6 : wr.cell? ⟨g, k * 9 + 6, none⟩ = some (.int .u64 0) := (H.out.cell (p := ⟨g, k * 9 + 6, none⟩) HG.out).trans (HC.out k (by assumption) 6 (by omega))
      have c7 : wr.cell? ⟨g, k * 9 + 7, none⟩ = some (.int .u64 0) := (H.out.cell (p := ⟨g, k * 9 + 7, none⟩) HG.out).trans (HC.out k (by assumption) 7 (by omega))
      have c8 : wr.cell? ⟨g, k * 9 + 8, none⟩ = some (.int .u64 0) := (H.out.cell (p := ⟨g, k * 9 + 8, none⟩) HG.out).trans (HC.out k (by assumption) 8 (by omega))
      go_wp2_with fail
      go_at_call 63
      refine (inLines_ok (96 + (k : Int)) lines (by omega) (by omega) c wr ((H.out.cell (p := ⟨c, 0, none⟩) hlt).trans HL.out) (Nat.lt_of_lt_of_le hlt H.out.size)).mono ?_
      rintro e w1 ⟨rfl, hb⟩
      have HB := Lib.hid (below_step H.out hb)
      clear hb
      go_wp2_with fail
      exact ⟨⟨k + 1, by omega, by simp, HB⟩, by simp [intOf]; omega⟩
    · have b1 : decide ((k : Int) < n) = false := by simp; omega
      go_wp2_with fail
      refine bodyPost_ret (results_tmp rfl _ _ _) rfl ⟨rfl, H.out⟩

theorem pgContains_none (n g cap lo c : Nat) (lines : Int) (hn : n ≤ 12) (hl : 96 + (n : Int) ≤ lines) (w : World) (hown : w.ownsRow lo 36 9 (.slice (some ⟨g, 0, none⟩) n cap) n (pgCells n)) (hc : w.cell? ⟨c, 0, none⟩ = some (.int .i64 lines)) (hlt : c < w.heap.size) :
    Calls Tryz.prog 62 #[.slice (some ⟨g, 0, none⟩) n cap, .func (.func 63) #[] #[.pointer (some ⟨c, 0, none⟩)]] w
      fun e w' => e = .returned (.bool false) ∧ Below w.heap.size w w' := by
  go_enter Tryz.func62, Tryz.ntmps62
  go_wp2_with fail
  go_at_call 116
  refine (pgIndex_none n g cap lo c lines hn hl _ hown hc hlt).mono ?_
  rintro e w1 ⟨rfl, hb⟩
  go_wp2_with fail
  refine bodyPost_ret (results_tmp rfl _ _ _) rfl ⟨rfl, hb⟩

def RvA (n : Nat) (w : World) (i : Value) (wr : World) : Prop := ∃ k : Nat, k ≤ n ∧ i = .int .i64 k ∧ Hid (Below w.heap.size w wr)

set_option maxRecDepth 10000 in
set_option maxHeartbeats 1000000 in
theorem recValid_ok (n g cap lo : Nat) (lines : Int) (h1 : 1 ≤ n) (hn : n ≤ 12) (hl : 96 + (n : Int) ≤ lines) (hl0 : 98 ≤ lines) (hl1 : lines ≤ 256) (w : World) (hown : w.ownsRow lo 36 9 (.slice (some ⟨g, 0, none⟩) n cap) n (pgCells n)) :
    Calls Tryz.prog 34 #[.agg #[.int .i64 1, .slice (some ⟨g, 0, none⟩) n cap], .int .i64 lines] w
      fun e w' => e = .returned (.int .i64 0) ∧ Below w.heap.size w w' := by
  have hmf : ∀ (fn : Fn) (first cap : Array Value) (w : World), (Instr.makeFunc fn first cap).run Tryz.prog w = .ok (.func fn first cap) w := fun _ _ _ _ => rfl
  have HO := Lib.hid hown
  have HC : Hid (∀ k, k < n → ∀ j, j < 9 → w.cell? ⟨g, k * 9 + j, none⟩ = (pgVals (96 + (k : Int)))[j]?) := Lib.hid (fun k hk j hj => pg_cell hown k hk j hj)
  have HG := Lib.hid (own_lt hown).2
  clear hown
  have b2 : decide ((n : Int) < 1) = false := by simp; omega
  have b3 : decide ((12 : Int) < n) = false := by simp; omega
  go_enter Tryz.func34, Tryz.ntmps34
  go_wp2_with fail
  go_at_call 61
  refine (recLines lines hl0 hl1 _).mono ?_
  rintro e w1 ⟨rfl, rfl⟩
  go_wp2_with fail
  go_at_call 62
  refine (pgContains_none n g cap lo (w.heap.size + 1) lines hn hl _ (own_below (own_below HO.out (below_alloc (Below.refl _ _) _)) (below_alloc (Below.refl _ _) _)) ((Blk.made' (by simp)).cell 0) (by simp)).mono ?_
  rintro e W ⟨rfl, hb⟩
  have B1 := (made12 w (t := 113) (cs := #[.int .i64 1, .slice (some ⟨g, 0, none⟩) n cap]) (o := .cells #[.int .i64 lines] 3)).kept hb
  have HW : Hid (∀ wr, Below W.heap.size W wr → wr.cell? ⟨w.heap.size, 1, none⟩ = some (.slice (some ⟨g, 0, none⟩) n cap)) := Lib.hid (fun wr h => (h.cell (p := ⟨w.heap.size, 1, none⟩) B1.lt).trans (B1.cell 1))
  have hbw : Below w.heap.size w W := by (repeat (first | with_reducible exact Below.refl _ _ | with_reducible assumption | with_reducible refine Below.setCell ?_ (by first | (simp; done) | (simp; omega)) _ | with_reducible refine below_alloc ?_ _ | with_reducible refine below_drewN ?_ _ | with_reducible refine Below.drew ?_ | with_reducible refine below_step ?_ (by assumption)))
  have HBW := Lib.hid hbw
  have HGW : Hid (g < W.heap.size) := Lib.hid (Nat.lt_of_lt_of_le HG.out hbw.size)
  have HCW : Hid (∀ k, k < n → ∀ j, j < 9 → W.cell? ⟨g, k * 9 + j, none⟩ = (pgVals (96 + (k : Int)))[j]?) := Lib.hid (fun k hk j hj => (hbw.cell (p := ⟨g, k * 9 + j, none⟩) HG.out).trans (HC.out k hk j hj))
  have HXW : Hid (w.heap.size < W.heap.size) := Lib.hid B1.lt
  have x1 := HW.out W (Below.refl _ _)
  clear B1 hb hbw
  go_wp2_with fail
  go_loopw [44] (fun i wr => RvA n W i wr) (fun i _ => ((n : Int) - intOf i).toNat)
  case atStart => exact ⟨0, by omega, rfl, Lib.hid (Below.refl _ _)⟩
  case round =>
    obtain ⟨k, hk, rfl, H⟩ := hrel
    by_cases hk2 : k < n
    · have b1 : decide ((k : Int) < n) = true := by simp; omega
      have bk0 : (0 : Int) ≤ k := by omega
      have bk1 : (k : Int) < n := by omega
      have y1 := HW.out wr H.out
      rcases k with _ | m
      · clear b1 bk0 bk1
        have bk1 : (0 : Int) < n := by omega
        have c0 : wr.cell? ⟨g, 0, none⟩ = some (.int .i64 96) := (H.out.cell (p := ⟨g, 0, none⟩) HGW.out).trans (HCW.out 0 (by assumption) 0 (by omega))
        have c1 : wr.cell? ⟨g, 1, none⟩ = some (.int .u64 256) := (H.out.cell (p := ⟨g, 1, none⟩) HGW.out).trans (HCW.out 0 (by assumption) 1 (by omega))
        have c2 : wr.cell? ⟨g, 2, none⟩ = some (.int .u64 0) := (H.out.cell (p := ⟨g, 2, none⟩) HGW.out).trans (HCW.out 0 (by assumption) 2 (by omega))
        have c3 : wr.cell? ⟨g, 3, none⟩ = some (.int .u64 0) := (H.out.cell (p := ⟨g, 3, none⟩) HGW.out).trans (HCW.out 0 (by assumption) 3 (by omega))
        have c4 : wr.cell? ⟨g, 4, none⟩ = some (.int .u64 0) := (H.out.cell (p := ⟨g, 4, none⟩) HGW.out).trans (HCW.out 0 (by assumption) 4 (by omega))
        have c5 : wr.cell? ⟨g, 5, none⟩ = some (.int .u64 0) := (H.out.cell (p := ⟨g, 5, none⟩) HGW.out).trans (HCW.out 0 (by assumption) 5 (by omega))
        have c6 : wr.cell? ⟨g, 6, none⟩ = some (.int .u64 0) := (H.out.cell (p := ⟨g, 6, none⟩) HGW.out).trans (HCW.out 0 (by assumption) 6 (by omega))
        have c7 : wr.cell? ⟨g, 7, none⟩ = some (.int .u64 0) := (H.out.cell (p := ⟨g, 7, none⟩) HGW.out).trans (HCW.out 0 (by assumption) 7 (by omega))
        have c8 : wr.cell? ⟨g, 8, none⟩ = some (.int .u64 0) := (H.out.cell (p := ⟨g, 8, none⟩) HGW.out).trans (HCW.out 0 (by assumption) 8 (by omega))
        go_wp2_with fail
        go_quiet (fail)
        go_wp2_with fail
        have hb2 : Below W.heap.size W wr := H.out
        exact ⟨⟨1, by omega, rfl, Lib.hid (by (repeat (first | with_reducible exact Below.refl _ _ | with_reducible assumption | with_reducible refine Below.setCell ?_ (by first | (simp; done) | (simp; omega)) _ | with_reducible refine below_alloc ?_ _ | with_reducible refine below_drewN ?_ _ | with_reducible refine Below.drew ?_ | with_reducible refine below_step ?_ (by assumption))))⟩, by simp [intOf]; omega⟩
      · have e1 : ((m + 1 : Nat) : Int) - 1 = (m : Int) := by omega
        have b4 : decide ((0 : Int) < ((m + 1 : Nat) : Int)) = true := decide_eq_true (by omega)
        have b5 : decide (96 + ((m + 1 : Nat) : Int) ≤ 96 + (m : Int)) = false := decide_eq_false (by omega)
        have bm0 : (0 : Int) ≤ m := by omega
        have bm1 : (m : Int) < n := by omega
        have c0 : wr.cell? ⟨g, (m + 1) * 9, none⟩ = some (.int .i64 (96 + ((m + 1) : Int))) := (H.out.cell (p := ⟨g, (m + 1) * 9, none⟩) HGW.out).trans (HCW.out (m + 1) (by assumption) 0 (by omega))
        have c1 : wr.cell? ⟨g, (m + 1) * 9 + 1, none⟩ = some (.int .u64 256) := (H.out.cell (p := ⟨g, (m + 1) * 9 + 1, none⟩) HGW.out).trans (HCW.out (m + 1) (by assumption) 1 (by omega))
        have c2 : wr.cell? ⟨g, (m + 1) * 9 + 2, none⟩ = some (.int .u64 0) := (H.out.cell (p := ⟨g, (m + 1) * 9 + 2, none⟩) HGW.out).trans (HCW.out (m + 1) (by assumption) 2 (by omega))
        have c3 : wr.cell? ⟨g, (m + 1) * 9 + 3, none⟩ = some (.int .u64 0) := (H.out.cell (p := ⟨g, (m + 1) * 9 + 3, none⟩) HGW.out).trans (HCW.out (m + 1) (by assumption) 3 (by omega))
        have c4 : wr.cell? ⟨g, (m + 1) * 9 + 4, none⟩ = some (.int .u64 0) := (H.out.cell (p := ⟨g, (m + 1) * 9 + 4, none⟩) HGW.out).trans (HCW.out (m + 1) (by assumption) 4 (by omega))
        have c5 : wr.cell? ⟨g, (m + 1) * 9 + 5, none⟩ = some (.int .u64 0) := (H.out.cell (p := ⟨g, (m + 1) * 9 + 5, none⟩) HGW.out).trans (HCW.out (m + 1) (by assumption) 5 (by omega))
        have c6 : wr.cell? ⟨g, (m + 1) * 9 + 6, none⟩ = some (.int .u64 0) := (H.out.cell (p := ⟨g, (m + 1) * 9 + 6, none⟩) HGW.out).trans (HCW.out (m + 1) (by assumption) 6 (by omega))
        have c7 : wr.cell? ⟨g, (m + 1) * 9 + 7, none⟩ = some (.int .u64 0) := (H.out.cell (p := ⟨g, (m + 1) * 9 + 7, none⟩) HGW.out).trans (HCW.out (m + 1) (by assumption) 7 (by omega))
        have c8 : wr.cell? ⟨g, (m + 1) * 9 + 8, none⟩ = some (.int .u64 0) := (H.out.cell (p := ⟨g, (m + 1) * 9 + 8, none⟩) HGW.out).trans (HCW.out (m + 1) (by assumption) 8 (by omega))
        have d0 : wr.cell? ⟨g, m * 9, none⟩ = some (.int .i64 (96 + (m : Int))) := (H.out.cell (p := ⟨g, m * 9, none⟩) HGW.out).trans (HCW.out m (by omega) 0 (by omega))
        have gw : g < wr.heap.size := Nat.lt_of_lt_of_le HGW.out H.out.size
        have xw : w.heap.size < wr.heap.size := Nat.lt_of_lt_of_le HXW.out H.out.size
        go_wp2_with fail
        go_quiet (fail)
        go_wp2_with fail
        have hb2 : Below W.heap.size W wr := H.out
        exact ⟨⟨m + 1 + 1, by omega, by simp, Lib.hid (by (repeat (first | with_reducible exact Below.refl _ _ | with_reducible assumption | with_reducible refine Below.setCell ?_ (by first | (simp; done) | (simp; omega)) _ | with_reducible refine below_alloc ?_ _ | with_reducible refine below_drewN ?_ _ | with_reducible refine Below.drew ?_ | with_reducible refine below_step ?_ (by assumption))))⟩, by simp [intOf]; omega⟩
    · have b1 : decide ((k : Int) < n) = false := by simp; omega
      have y1 := HW.out wr H.out
      obtain ⟨wo, rfl⟩ : ∃ wo : World, wo = wr := ⟨_, rfl⟩
      go_wp2_with fail
      go_loopw [67] (fun i wr => RvA n W i wr) (fun i _ => ((n : Int) - intOf i).toNat)
      case atStart => exact ⟨0, by omega, rfl, H⟩
      case round =>
        clear y1 b1 H
        obtain ⟨k, hk, rfl, H⟩ := hrel
        have y1 := HW.out wr H.out
        by_cases hk2 : k < n
        · have b1 : decide ((k : Int) < n) = true := by simp; omega
          have bk0 : (0 : Int) ≤ k := by omega
          have bk1 : (k : Int) < n := by omega
          have c0 : wr.cell? ⟨g, k * 9, none⟩ = some (.int .i64 (96 + (k : Int))) := (H.out.cell (p := ⟨g, k * 9, none⟩) HGW.out).trans (HCW.out k (by assumption) 0 (by omega))
          have c1 : wr.cell? ⟨g, k * 9 + 1, none⟩ = some (.int .u64 256) := (H.out.cell (p := ⟨g, k * 9 + 1, none⟩) HGW.out).trans (HCW.out k (by assumption) 1 (by omega))
          have c2 : wr.cell? ⟨g, k * 9 + 2, none⟩ = some (.int .u64 0) := (H.out.cell (p := ⟨g, k * 9 + 2, none⟩) HGW.out).trans (HCW.out k (by assumption) 2 (by omega))
          have c3 : wr.cell? ⟨g, k * 9 + 3, none⟩ = some (.int .u64 0) := (H.out.cell (p := ⟨g, k * 9 + 3, none⟩) HGW.out).trans (HCW.out k (by assumption) 3 (by omega))
          have c4 : wr.cell? ⟨g, k * 9 + 4, none⟩ = some (.int .u64 0) := (H.out.cell (p := ⟨g, k * 9 + 4, none⟩) HGW.out).trans (HCW.out k (by assumption) 4 (by omega))
          have c5 : wr.cell? ⟨g, k * 9 + 5, none⟩ = some (.int .u64 0) := (H.out.cell (p := ⟨g, k * 9 + 5, none⟩) HGW.out).trans (HCW.out k (by assumption) 5 (by omega))
          have c6 : wr.cell? ⟨g, k * 9 + 6, none⟩ = some (.int .u64 0) := (H.out.cell (p := ⟨g, k * 9 + 6, none⟩) HGW.out).trans (HCW.out k (by assumption) 6 (by omega))
          have c7 : wr.cell? ⟨g, k * 9 + 7, none⟩ = some (.int .u64 0) := (H.out.cell (p := ⟨g, k * 9 + 7, none⟩) HGW.out).trans (HCW.out k (by assumption) 7 (by omega))
          have c8 : wr.cell? ⟨g, k * 9 + 8, none⟩ = some (.int .u64 0) := (H.out.cell (p := ⟨g, k * 9 + 8, none⟩) HGW.out).trans (HCW.out k (by assumption) 8 (by omega))
          go_wp2_with (first | (go_at_call 64; refine (next256 _).mono ?_; rintro e w1 ⟨rfl, rfl⟩) | (go_at_call 37; refine (unlocked256 _).mono ?_; rintro e w1 ⟨rfl, rfl⟩))
          have hb2 : Below W.heap.size W wr := H.out
          exact ⟨⟨k + 1, by omega, by simp, Lib.hid (by (repeat (first | with_reducible exact Below.refl _ _ | with_reducible assumption | with_reducible refine Below.setCell ?_ (by first | (simp; done) | (simp; omega)) _ | with_reducible refine below_alloc ?_ _ | with_reducible refine below_drewN ?_ _ | with_reducible refine Below.drew ?_ | with_reducible refine below_step ?_ (by assumption))))⟩, by simp [intOf]; omega⟩
        · have b1 : decide ((k : Int) < n) = false := by simp; omega
          go_wp2_with fail
          refine bodyPost_ret (results_tmp rfl _ _ _) rfl ⟨rfl, below_step HBW.out H.out⟩
end Go.Proofs.YtoidjgongafnkaaGreatDoor
namespace Go.Proofs.YtoidjgongafnkaaGreatDoor
open Go.RowKit

/-- The body's words as far as k pages. -/
def headWords (n k : Nat) : List Int := [1, (n : Int)] ++ (List.range k).flatMap (fun (i : Nat) => [(96 : Int) + (i : Int), 256, 0, 0, 0, 0, 0, 0, 0])
theorem headWords_succ (n k : Nat) : headWords n (k + 1) = headWords n k ++ [(96 : Int) + (k : Int), 256] ++ [0, 0, 0, 0, 0, 0, 0] := by
  unfold headWords
  rw [flat_succ]
  simp
theorem headWords_len (n k : Nat) : (headWords n k).length = 2 + 9 * k := by
  induction k with
  | zero => rfl
  | succ k ih => rw [headWords_succ]; simp only [List.length_append, ih]; simp; omega
theorem u64s_append (a b : List Int) : u64s (a ++ b) = u64s a ++ u64s b := by simp [u64s]
/-- The body under way. -/
def BodyLoop (n : Nat) (W : World) (v i : Value) (wr : World) : Prop :=
  ∃ k : Nat, k ≤ n ∧ i = .int .i64 k ∧ Hid (wr.ownsRow W.heap.size 33 1 v (2 + 9 * k) (u64s (headWords n k)) ∧ Below W.heap.size W wr)

set_option maxRecDepth 10000 in
set_option maxHeartbeats 1000000 in
theorem recBody_ok (n g cap lo : Nat) (h1 : 1 ≤ n) (hn : n ≤ 10) (w : World) (hown : w.ownsRow lo 36 9 (.slice (some ⟨g, 0, none⟩) n cap) n (pgCells n)) :
    Calls Tryz.prog 68 #[.agg #[.int .i64 1, .slice (some ⟨g, 0, none⟩) n cap]] w
      fun e w' => ∃ v c, e = .returned v ∧ WordsAt w' w.heap.size v (Cm.bodyWords n c) ∧ Below w.heap.size w w' := by
  obtain ⟨i0, hi, hz0, hz1, hz2⟩ := info_parts infoU64
  have HO := Lib.hid hown
  have HC : Hid (∀ k, k < n → ∀ j, j < 9 → w.cell? ⟨g, k * 9 + j, none⟩ = (pgVals (96 + (k : Int)))[j]?) := Lib.hid (fun k hk j hj => pg_cell hown k hk j hj)
  have HG := Lib.hid (own_lt hown).2
  clear hown
  go_enter Tryz.func68, Tryz.ntmps68
  go_wp2_with fail
  go_at_call 34
  refine (recValid_ok n g cap lo 256 h1 (by omega) (by omega) (by omega) (by omega) _ (own_below HO.out (below_alloc (Below.refl _ _) _))).mono ?_
  rintro e w1 ⟨rfl, hb⟩
  have B1 := (made1 w (t := 113) (cs := #[.int .i64 1, .slice (some ⟨g, 0, none⟩) n cap])).kept hb
  have x0 : w1.cell? ⟨w.heap.size, 0, none⟩ = some (.int .i64 1) := B1.cell 0
  have x1 : w1.cell? ⟨w.heap.size, 1, none⟩ = some (.slice (some ⟨g, 0, none⟩) n cap) := B1.cell 1
  have hlt1 : w.heap.size < w1.heap.size := B1.lt
  have HB1 := Lib.hid (show Below w.heap.size w w1 by (repeat (first | with_reducible exact Below.refl _ _ | with_reducible assumption | with_reducible refine Below.setCell ?_ (by first | (simp; done) | (simp; omega)) _ | with_reducible refine below_alloc ?_ _ | with_reducible refine below_drewN ?_ _ | with_reducible refine Below.drew ?_ | with_reducible refine below_step ?_ (by assumption))))
  clear hb B1
  go_wp2_with fail
  have HG1 : Hid (g < w1.heap.size) := Lib.hid (Nat.lt_of_lt_of_le HG.out HB1.out.size)
  have HC1 : Hid (∀ k, k < n → ∀ j, j < 9 → w1.cell? ⟨g, k * 9 + j, none⟩ = (pgVals (96 + (k : Int)))[j]?) := Lib.hid (fun k hk j hj => (HB1.out.cell (p := ⟨g, k * 9 + j, none⟩) HG.out).trans (HC.out k hk j hj))
  go_loopw [3, 20] (fun v i wr => BodyLoop n w1 v i wr) (fun _ i _ => ((n : Int) - intOf i).toNat)
  case atStart =>
    refine ⟨0, by omega, rfl, Lib.hid ⟨?_, by (repeat (first | with_reducible exact Below.refl _ _ | with_reducible assumption | with_reducible refine Below.setCell ?_ (by first | (simp; done) | (simp; omega)) _ | with_reducible refine below_alloc ?_ _ | with_reducible refine below_drewN ?_ _ | with_reducible refine Below.drew ?_ | with_reducible refine below_step ?_ (by assumption)))⟩⟩
    have := World.ownsRow_lit (base := w1.heap.size) (size := 1) (e := 33) w1 #[.int .u64 1, .int .u64 n] 2 (Nat.le_refl _) (by unfold maxLen; omega) rfl
    exact own_cast this rfl (by simp [u64s, headWords])
  case round =>
    obtain ⟨k, hk, rfl, H⟩ := hrel
    have HL := Lib.hid H.out.2
    by_cases hk2 : k < n
    · have b1 : decide ((k : Int) < n) = true := by simp; omega
      have bk0 : (0 : Int) ≤ k := by omega
      have bk1 : (k : Int) < n := by omega
      have c0 : wr.cell? ⟨g, k * 9, none⟩ = some (.int .i64 (96 + (k : Int))) := (HL.out.cell (p := ⟨g, k * 9, none⟩) HG1.out).trans (HC1.out k (by assumption) 0 (by omega))
      have c1 : wr.cell? ⟨g, k * 9 + 1, none⟩ = some (.int .u64 256) := (HL.out.cell (p := ⟨g, k * 9 + 1, none⟩) HG1.out).trans (HC1.out k (by assumption) 1 (by omega))
      have c2 : wr.cell? ⟨g, k * 9 + 2, none⟩ = some (.int .u64 0) := (HL.out.cell (p := ⟨g, k * 9 + 2, none⟩) HG1.out).trans (HC1.out k (by assumption) 2 (by omega))
      have c3 : wr.cell? ⟨g, k * 9 + 3, none⟩ = some (.int .u64 0) := (HL.out.cell (p := ⟨g, k * 9 + 3, none⟩) HG1.out).trans (HC1.out k (by assumption) 3 (by omega))
      have c4 : wr.cell? ⟨g, k * 9 + 4, none⟩ = some (.int .u64 0) := (HL.out.cell (p := ⟨g, k * 9 + 4, none⟩) HG1.out).trans (HC1.out k (by assumption) 4 (by omega))
      have c5 : wr.cell? ⟨g, k * 9 + 5, none⟩ = some (.int .u64 0) := (HL.out.cell (p := ⟨g, k * 9 + 5, none⟩) HG1.out).trans (HC1.out k (by assumption) 5 (by omega))
      have c6 : wr.cell? ⟨g, k * 9 + 6, none⟩ = some (.int .u64 0) := (HL.out.cell (p := ⟨g, k * 9 + 6, none⟩) HG1.out).trans (HC1.out k (by assumption) 6 (by omega))
      have c7 : wr.cell? ⟨g, k * 9 + 7, none⟩ = some (.int .u64 0) := (HL.out.cell (p := ⟨g, k * 9 + 7, none⟩) HG1.out).trans (HC1.out k (by assumption) 7 (by omega))
      have c8 : wr.cell? ⟨g, k * 9 + 8, none⟩ = some (.int .u64 0) := (HL.out.cell (p := ⟨g, k * 9 + 8, none⟩) HG1.out).trans (HC1.out k (by assumption) 8 (by omega))
      go_wp2_with (at_builtin; refine halt ?_)
      refine unhalt ?_
      have HP := made12 wr (t := 36) (cs := pgVals (96 + (k : Int))) (o := .cells #[.int .u64 (96 + (k : Int)), .int .u64 256] 33)
      have HLit : Blk ((wr.alloc (.cells (pgVals (96 + (k : Int))) 36)).alloc (.cells #[.int .u64 (96 + (k : Int)), .int .u64 256] 33)) (wr.heap.size + 1) 33 #[.int .u64 (96 + (k : Int)), .int .u64 256] := Blk.made' (by simp)
      have hwl := HL.out.size
      refine wpList_append_mine rfl (.tmp 24) (.tmp 30) 59 rfl w1.heap.size 33 i0 _ 1 8 Tryz.underlying59 hi hz0 hz1 hz2 rfl (by decide) _ (2 + 9 * k) (u64s (headWords n k)) rfl
        (own_below (own_below H.out.1 (below_alloc (Below.refl _ _) _)) (below_alloc (Below.refl _ _) _)) ⟨wr.heap.size + 1, 0, none⟩ 2 2 [.int .u64 (96 + (k : Int)), .int .u64 256] rfl rfl (lit_news (o := 0) HLit)
        (by intro u hu; simp at hu; rcases hu with rfl | rfl <;> rfl) (by omega) (by unfold maxLen; omega) (by omega) (by simp; omega) ?_
      intro g3 cap3 w3 hown3 hg3
      have hp3 := HP.grown hg3 (fun e => by have := own_lt' H.out.1 _ e.symm; omega)
      have hb3 : Below w1.heap.size w1 w3 := below_grown (w := w1) (w1 := (wr.alloc _).alloc _) (by have := HL.out; (repeat (first | with_reducible exact Below.refl _ _ | with_reducible assumption | with_reducible refine Below.setCell ?_ (by first | (simp; done) | (simp; omega)) _ | with_reducible refine below_alloc ?_ _ | with_reducible refine below_drewN ?_ _ | with_reducible refine Below.drew ?_ | with_reducible refine below_step ?_ (by assumption)))) hg3 (fun j hj => own_row_ge H.out.1 j hj)
      have HP3 := Lib.hid hp3
      have HO3 := Lib.hid hown3
      have HB3 := Lib.hid hb3
      clear hp3 hown3 hg3 hb3 HP HLit
      go_wp2_with (at_builtin; refine halt ?_)
      refine unhalt ?_
      have hw3 := HB3.out.size
      refine wpList_append_mine rfl (.tmp 32) (.tmp 34) 59 rfl w1.heap.size 33 i0 _ 1 8 Tryz.underlying59 hi hz0 hz1 hz2 rfl (by decide) (.slice (some ⟨g3, 0, none⟩) (2 + 9 * k + 2) cap3) (2 + 9 * k + 2) (u64s (headWords n k) ++ [.int .u64 (96 + (k : Int)), .int .u64 256]) rfl
        HO3.out ⟨wr.heap.size, 2, none⟩ 7 7 [.int .u64 0, .int .u64 0, .int .u64 0, .int .u64 0, .int .u64 0, .int .u64 0, .int .u64 0] rfl rfl (lit_news (o := 2) HP3.out)
        (by intro u hu; simp at hu; subst hu; rfl) (by omega) (by unfold maxLen; omega) (by omega) (by omega) ?_
      intro g4 cap4 w4 hown4 hg4
      have hb4 : Below w1.heap.size w1 w4 := below_grown (w := w1) (w1 := w3) HB3.out hg4 (fun j hj => own_row_ge HO3.out j hj)
      have H4 : Hid (w4.ownsRow w1.heap.size 33 1 (.slice (some ⟨g4, 0, none⟩) (2 + 9 * k + 2 + 7) cap4) (2 + 9 * (k + 1)) (u64s (headWords n (k + 1))) ∧ Below w1.heap.size w1 w4) := Lib.hid ⟨own_cast hown4 (by omega) (by rw [headWords_succ]; simp [u64s]), hb4⟩
      clear hown4 hg4 hb4
      go_wp2_with fail
      exact ⟨⟨k + 1, by omega, by simp, H4⟩, by simp [intOf]; omega⟩
    · have b1 : decide ((k : Int) < n) = false := by simp; omega
      obtain rfl : k = n := by omega
      have HWd : Hid (WordsAt wr w1.heap.size _ (headWords k k)) := Lib.hid (RowAt.cast (RowAt.of_own H.out.1) (by rw [headWords_len]) rfl)
      go_wp2_with fail
      go_at_call 121
      refine (crcWords_any _ w1.heap.size (headWords k k) (by rw [headWords_len]; omega) (by rw [headWords_len]; omega) _ HWd.out).mono ?_
      rintro e w2 ⟨c, rfl, hb2⟩
      have HO2 := Lib.hid (own_below H.out.1 hb2)
      have HB2 := Lib.hid (below_step HL.out hb2)
      clear hb2
      go_wp2_with (at_builtin; refine halt ?_)
      refine unhalt ?_
      have hw2 := HB2.out.size
      refine wpList_append_mine rfl (.tmp 37) (.tmp 40) 59 rfl w1.heap.size 33 i0 _ 1 8 Tryz.underlying59 hi hz0 hz1 hz2 rfl (by decide) _ (2 + 9 * k) (u64s (headWords k k)) rfl
        (own_below HO2.out (below_alloc (Below.refl _ _) _)) ⟨w2.heap.size, 0, none⟩ 1 1 [.int .u64 c] rfl rfl (lit_news (o := 0) (cs := #[.int .u64 c]) (Blk.made _ _ _))
        (by intro u hu; simp at hu; subst hu; rfl) (by omega) (by unfold maxLen; omega) (by omega) (by simp; omega) ?_
      intro g4 cap4 w4 hown4 hg4
      have hb4 : Below w1.heap.size w1 w4 := below_grown (w := w1) (w1 := w2.alloc _) (by have := HB2.out; (repeat (first | with_reducible exact Below.refl _ _ | with_reducible assumption | with_reducible refine Below.setCell ?_ (by first | (simp; done) | (simp; omega)) _ | with_reducible refine below_alloc ?_ _ | with_reducible refine below_drewN ?_ _ | with_reducible refine Below.drew ?_ | with_reducible refine below_step ?_ (by assumption)))) hg4 (fun j hj => own_row_ge HO2.out j hj)
      have hbw := below_step HB1.out hb4
      go_wp2_with fail
      refine bodyPost_ret (results_tmp rfl _ _ _) rfl ⟨_, c, rfl, ?_, hbw⟩
      refine RowAt.cast (RowAt.of_own (own_base hown4 (Nat.le_of_lt hlt1))) ?_ ?_
      · have := headWords_len k k
        simp only [Cm.bodyWords, List.length_append]
        simp only [headWords, List.length_append] at this
        simp only [List.length_cons, List.length_nil] at this ⊢
        omega
      · simp [Cm.bodyWords, headWords, u64s]
end Go.Proofs.YtoidjgongafnkaaGreatDoor
