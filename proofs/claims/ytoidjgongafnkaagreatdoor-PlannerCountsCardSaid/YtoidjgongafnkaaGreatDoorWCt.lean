/- Package commit: the mark. -/
import Derived.Test.YtoidjgongafnkaaGreatDoorWCs
set_option linter.unusedVariables false
set_option linter.unusedSimpArgs false
set_option linter.unusedSectionVars false
set_option linter.constructorNameAsVariable false
namespace Go.Proofs.YtoidjgongafnkaaGreatDoor
open Go.RowKit

set_option maxRecDepth 10000 in
set_option maxHeartbeats 1000000 in
theorem cMark_ok (lo lo2 c t m r k : Nat) (vm vr vw : Value) (gs : List (List (List Int))) (w : World) (hc : CAt w lo2 c t m r k vm vr vw) (ht : TkAt w t lo gs none) (hlo : True) (hlw : lo ≤ w.heap.size) (hlw2 : lo2 ≤ w.heap.size)
    (hf : Fits (logAsk 48 m k [6]) gs) :
    Calls Tryz.prog 41 #[.pointer (some ⟨c, 0, none⟩)] w (FnPost t lo (logAsk 48 m k [6]) gs w) := by
  have k0 : w.cell? ⟨c, 0, none⟩ = some (.int .i64 0) := hc.blk.cell 0
  have k1 : w.cell? ⟨c, 1, none⟩ = some (.int .i64 1) := hc.blk.cell 1
  have HC := Lib.hid hc
  have HT := Lib.hid (And.intro ht hf)
  have lc := hc.blk.lt
  clear hc ht hf
  go_enter Tryz.func41, Tryz.ntmps41
  go_wp2_with (first | (go_at_call 74; refine (mark1 _).mono ?_; rintro e w1 ⟨rfl, rfl⟩) | (go_at_call 75; refine (layMark0 _).mono ?_; rintro e w1 ⟨rfl, rfl⟩) | (go_at_call 66; refine halt ?_))
  refine unhalt ?_
  generalize hW : World.alloc _ (.cells #[.int .u64 6] _) = W
  have BR : Blk W w.heap.size 43 #[.int .i64 0, .int .i64 0] := by rw [← hW]; exact (Blk.made w _ _).alloc _
  have BS : Blk W (w.heap.size + 1) 33 #[.int .u64 6] := by rw [← hW]; exact Blk.made' (by simp)
  have hbW : Below w.heap.size w W := by rw [← hW]; (repeat (first | with_reducible exact Below.refl _ _ | with_reducible assumption | with_reducible refine Below.setCell ?_ (by first | (simp; done) | (simp; omega)) _ | with_reducible refine below_alloc ?_ _ | with_reducible refine below_drewN ?_ _ | with_reducible refine Below.drew ?_ | with_reducible refine below_step ?_ (by assumption)))
  refine (log_ok lo lo2 c t m r k 48 _ _ _ 2 [6] (some ⟨w.heap.size + 1, 0, none⟩) 1 gs (by omega) W (HC.out.below hbW) (HT.out.1.below hbW) hlo (Nat.le_trans hlw hbW.size)
    (fun h0 => ⟨RowAt.lit (cs := [.int .u64 6]) BS (by omega) rfl, by simp, by simp⟩) _ (fun h0 => rfl) ⟨_, _, _, rfl⟩ HT.out.2).mono ?_
  rintro e w4 ⟨rfl, htk, ho⟩
  obtain ⟨ok, hok⟩ : ∃ ok, ok = goOn (logAsk 48 m k [6]) gs := ⟨_, rfl⟩
  rw [← hok]
  have HOK := Lib.hid hok
  have BR4 := BR.grown ho (fun e => by injection e with e; have := HT.out.1.lt; omega)
  have ho4 : Over t w w4 := (Over.of_below hbW).trans ho
  have HY := Lib.hid (And.intro BR4 (And.intro htk ho4))
  have k4 := BR4.cell
  have f4 := BR4.free
  clear BR4 ho4 htk ho hok BR BS hbW hW k0 k1
  go_wp2_with fail
  have hx := HY.out
  have ho2 : Over t w ((w4.setCell ⟨w.heap.size, 0, none⟩ (.int .i64 0)).setCell ⟨w.heap.size, 1, none⟩ (.int .i64 0)) := (hx.2.2.own (by simp) _).own (by simp) _
  have ho3 : Over w.heap.size w4 ((w4.setCell ⟨w.heap.size, 0, none⟩ (.int .i64 0)).setCell ⟨w.heap.size, 1, none⟩ (.int .i64 0)) := by (repeat (first | with_reducible exact Over.refl _ _ | with_reducible assumption | with_reducible refine Over.put ?_ _ _ | with_reducible refine Over.alloc ?_ _ | with_reducible refine Over.drew ?_ | with_reducible refine Over.own ?_ (by first | (simp; done) | (simp; omega)) _ | with_reducible refine Over.trans ?_ (by assumption) | with_reducible refine Over.then_below ?_ (by assumption)))
  refine bodyPost_ret (results_bt rfl _ _ w.heap.size _ _ _ rfl (Blk.all2 hx.1 _ _) Tryz.underlying43 rfl (by kernel_rfl)) rfl
    ⟨by rw [← HOK.out]; rfl, hx.2.1.over ho3 hx.1 (by decide) (by decide) (by decide) (by decide) (by decide), ho2⟩
end Go.Proofs.YtoidjgongafnkaaGreatDoor
