/- Package commit: the steps, one after the other. -/
import Derived.Test.YtoidjgongafnkaaGreatDoorWCy
import Derived.Test.YtoidjgongafnkaaGreatDoorWCt
import Derived.Test.YtoidjgongafnkaaGreatDoorWCz
set_option linter.unusedVariables false
set_option linter.unusedSimpArgs false
set_option linter.unusedSectionVars false
set_option linter.constructorNameAsVariable false
namespace Go.Proofs.YtoidjgongafnkaaGreatDoor
open Go.RowKit

/-- The five batches. -/
def fiveAsks (m k r : Nat) (ck : Int) : List (List Cm.Vb) := [logAsk 56 (m + 1) k (Cm.bodyWords k ck), lockAsk k r, logAsk 48 (m + 1) k [6], bkAsk k m, finAsk k]
/-- What is left of the completions, and which batch is waited for. -/
def goAll : List (List Cm.Vb) → List (List (List Int)) → List (List (List Int)) × Option (List Cm.Vb)
  | [], gs => (gs, none)
  | l :: ls, gs => if goOn l gs then goAll ls (goGs l gs) else (goGs l gs, some l)
def FitsAll : List (List Cm.Vb) → List (List (List Int)) → Prop
  | [], _ => True
  | l :: ls, gs => Fits l gs ∧ (goOn l gs = true → FitsAll ls (goGs l gs))
def RunPost (t lo m k r : Nat) (gs : List (List (List Int))) (w : World) (e : Ending) (w' : World) : Prop :=
  ∃ ck, (∃ o : Int, e = .returned (.agg #[.int .i64 0, .int .i64 o]) ∧ ((goAll (fiveAsks m k r ck) gs).2 = none → o = 3)) ∧ TkAt w' t lo (goAll (fiveAsks m k r ck) gs).1 (goAll (fiveAsks m k r ck) gs).2 ∧ Over t w w'
def RunCk (m k r : Nat) (ck : Int) (j : Nat) (gs gsj : List (List (List Int))) : Prop :=
  goAll (fiveAsks m k r ck) gs = goAll ((fiveAsks m k r ck).drop j) gsj ∧ FitsAll ((fiveAsks m k r ck).drop j) gsj
def RunAt (m k r j : Nat) (gs gsj : List (List (List Int))) : Prop := j = 0 ∧ gsj = gs ∨ 1 ≤ j ∧ ∃ ck, RunCk m k r ck j gs gsj
def RunLoop (t lo m k r : Nat) (gs : List (List (List Int))) (W : World) (iv : Value) (wr : World) : Prop :=
  ∃ j : Nat, j ≤ 5 ∧ iv = .int .i64 j ∧ Hid (∃ gsj, RunAt m k r j gs gsj ∧ TkAt wr t lo gsj none ∧ Over t W wr)
theorem RunCk.step {m k r j : Nat} {ck : Int} {gs gsj : List (List (List Int))} {l : List Cm.Vb} (h : RunCk m k r ck j gs gsj) (hd : (fiveAsks m k r ck).drop j = l :: (fiveAsks m k r ck).drop (j + 1)) (hok : goOn l gsj = true) : RunAt m k r (j + 1) gs (goGs l gsj) := by
  obtain ⟨h1, h2⟩ := h
  rw [hd] at h1 h2
  exact .inr ⟨by omega, ck, by rw [h1]; simp [goAll, hok], h2.2 hok⟩
theorem RunCk.stop {m k r j : Nat} {ck : Int} {gs gsj : List (List (List Int))} {l : List Cm.Vb} (h : RunCk m k r ck j gs gsj) (hd : (fiveAsks m k r ck).drop j = l :: (fiveAsks m k r ck).drop (j + 1)) (hok : goOn l gsj = false) : goAll (fiveAsks m k r ck) gs = (goGs l gsj, some l) := by
  rw [h.1, hd]
  simp [goAll, hok]
theorem RunCk.fit {m k r j : Nat} {ck : Int} {gs gsj : List (List (List Int))} {l : List Cm.Vb} (h : RunCk m k r ck j gs gsj) (hd : (fiveAsks m k r ck).drop j = l :: (fiveAsks m k r ck).drop (j + 1)) : Fits l gsj := by
  have := h.2
  rw [hd] at this
  exact this.1
theorem goPd_on {l : List Cm.Vb} {gs : List (List (List Int))} (h : goOn l gs = true) : goPd l gs = none := by simp [goPd, h]
theorem goPd_off {l : List Cm.Vb} {gs : List (List (List Int))} (h : goOn l gs = false) : goPd l gs = some l := by simp [goPd, h]

set_option maxRecDepth 10000 in
set_option maxHeartbeats 4000000 in
theorem cRun_ok (lo lo2 c t m r k : Nat) (vm vr vw : Value) (gs : List (List (List Int))) (w : World) (hc : CAt w lo2 c t (m + 1) r k vm vr vw) (ht : TkAt w t lo gs none) (hlo : True) (hlw : lo ≤ w.heap.size) (hlw2 : lo2 ≤ w.heap.size)
    (hf : ∀ ck, FitsAll (fiveAsks m k r ck) gs) :
    Calls Tryz.prog 19 #[.pointer (some ⟨c, 0, none⟩)] w (RunPost t lo m k r gs w) := by
  have hmf : ∀ (fn : Fn) (first cap : Array Value) (w : World), (Instr.makeFunc fn first cap).run Tryz.prog w = .ok (.func fn first cap) w := fun _ _ _ _ => rfl
  have HC := Lib.hid hc
  have HT := Lib.hid (And.intro ht hf)
  clear hc ht hf
  go_enter Tryz.func19, Tryz.ntmps19
  go_wp2_with fail
  have BR : Blk ((w.alloc (.cells #[.int .i64 0, .int .i64 0] 43)).alloc (.cells #[.func (.func 39) #[.pointer (some ⟨c, 0, none⟩)] #[], .func (.func 40) #[.pointer (some ⟨c, 0, none⟩)] #[], .func (.func 41) #[.pointer (some ⟨c, 0, none⟩)] #[], .func (.func 42) #[.pointer (some ⟨c, 0, none⟩)] #[], .func (.func 43) #[.pointer (some ⟨c, 0, none⟩)] #[]] 120)) w.heap.size 43 #[.int .i64 0, .int .i64 0] := (Blk.made w _ _).alloc _
  have BF : Blk ((w.alloc (.cells #[.int .i64 0, .int .i64 0] 43)).alloc (.cells #[.func (.func 39) #[.pointer (some ⟨c, 0, none⟩)] #[], .func (.func 40) #[.pointer (some ⟨c, 0, none⟩)] #[], .func (.func 41) #[.pointer (some ⟨c, 0, none⟩)] #[], .func (.func 42) #[.pointer (some ⟨c, 0, none⟩)] #[], .func (.func 43) #[.pointer (some ⟨c, 0, none⟩)] #[]] 120)) (w.heap.size + 1) 120 #[.func (.func 39) #[.pointer (some ⟨c, 0, none⟩)] #[], .func (.func 40) #[.pointer (some ⟨c, 0, none⟩)] #[], .func (.func 41) #[.pointer (some ⟨c, 0, none⟩)] #[], .func (.func 42) #[.pointer (some ⟨c, 0, none⟩)] #[], .func (.func 43) #[.pointer (some ⟨c, 0, none⟩)] #[]] := Blk.made' (by simp)
  have hbW : Below w.heap.size w ((w.alloc (.cells #[.int .i64 0, .int .i64 0] 43)).alloc (.cells #[.func (.func 39) #[.pointer (some ⟨c, 0, none⟩)] #[], .func (.func 40) #[.pointer (some ⟨c, 0, none⟩)] #[], .func (.func 41) #[.pointer (some ⟨c, 0, none⟩)] #[], .func (.func 42) #[.pointer (some ⟨c, 0, none⟩)] #[], .func (.func 43) #[.pointer (some ⟨c, 0, none⟩)] #[]] 120)) := by (repeat (first | with_reducible exact Below.refl _ _ | with_reducible assumption | with_reducible refine Below.setCell ?_ (by first | (simp; done) | (simp; omega)) _ | with_reducible refine below_alloc ?_ _ | with_reducible refine below_drewN ?_ _ | with_reducible refine Below.drew ?_ | with_reducible refine below_step ?_ (by assumption)))
  generalize hW : World.alloc (World.alloc w _) _ = W at *
  clear hW
  have hlt := HT.out.1.lt
  have HCW := Lib.hid (HC.out.below hbW)
  have hlwW : lo ≤ W.heap.size := Nat.le_trans hlw hbW.size
  have hlw2W : lo2 ≤ W.heap.size := Nat.le_trans hlw2 hbW.size
  have HB := Lib.hid (And.intro BR (And.intro BF hbW))
  have HTW := Lib.hid (HT.out.1.below hbW)
  clear BR BF hbW
  go_loopw [19] (fun iv wr => RunLoop t lo m k r gs W iv wr) (fun iv _ => ((5 : Int) - intOf iv).toNat)
  case atStart => exact ⟨0, by omega, rfl, Lib.hid ⟨gs, .inl ⟨rfl, rfl⟩, HTW.out, Over.refl _ _⟩⟩
  case round =>
    obtain ⟨j, hj5, rfl, H⟩ := hrel
    obtain ⟨gsj, hra, htk, ho⟩ := H.out
    have HR := Lib.hid (And.intro hra (And.intro htk ho))
    have BR := HB.out.1.grown ho (fun e => by injection e with e; omega)
    have BF := HB.out.2.1.grown ho (fun e => by injection e with e; omega)
    have kf := BF.cell
    have lf := BF.lt
    have kr := BR.cell
    have fr := BR.free
    have hsz := ho.size
    have HC2 : Hid (CAt wr lo2 c t (m + 1) r k vm vr vw ∧ lo ≤ wr.heap.size ∧ lo2 ≤ wr.heap.size) := Lib.hid ⟨HCW.out.over ho HTW.out, by omega, by omega⟩
    have HBR := Lib.hid BR
    clear hra htk ho BR BF H
    by_cases hj2 : j < 5
    · have hcs : j = 0 ∨ j = 1 ∨ j = 2 ∨ j = 3 ∨ j = 4 := by omega
      rcases hcs with rfl | rfl | rfl | rfl | rfl
      · go_wp2_with fail
        go_at_call 39
        obtain ⟨hra, htk, ho⟩ := HR.out
        obtain rfl : gs = gsj := by
          rcases hra with ⟨_, h⟩ | ⟨h, _⟩
          · exact h.symm
          · omega
        refine (cBody_ok lo lo2 c t (m + 1) r k vm vr vw gs wr HC2.out.1 htk hlo HC2.out.2.1 HC2.out.2.2 (fun ck => (HT.out.2 ck).1)).mono ?_
        rintro e w1 ⟨ck, rfl, htk1, ho1⟩
        have HCK : Hid (RunCk m k r ck 0 gs gs) := Lib.hid ⟨rfl, HT.out.2 ck⟩
        obtain ⟨ok, hok⟩ : ∃ ok, ok = goOn (logAsk 56 (m + 1) k (Cm.bodyWords k ck)) gs := ⟨_, rfl⟩
        rw [← hok]
        have HOK := Lib.hid hok
        have BR1 := HBR.out.grown ho1 (fun e => by injection e with e; omega)
        have how : Over t W w1 := ho.trans ho1
        have HX := Lib.hid (And.intro BR1 (And.intro htk1 how))
        have k1 := BR1.cell
        have f1 := BR1.free
        have l1 := BR1.lt
        clear hra htk ho hok BR1 htk1 ho1 how kr fr kf lf
        rcases ok with _ | _
        · go_wp2_with fail
          have hx := HX.out
          have ho2 : Over t w (((w1.setCell ⟨w.heap.size, 0, none⟩ (.int .i64 0)).setCell ⟨w.heap.size, 1, none⟩ (.int .i64 0)).alloc (.cells #[.int .i64 0, .int .i64 0] 43)) := (((((Over.of_below HB.out.2.2).trans hx.2.2).own (by simp) _).own (by simp) _).alloc _)
          have ho3 : Over w.heap.size w1 (((w1.setCell ⟨w.heap.size, 0, none⟩ (.int .i64 0)).setCell ⟨w.heap.size, 1, none⟩ (.int .i64 0)).alloc (.cells #[.int .i64 0, .int .i64 0] 43)) := by (repeat (first | with_reducible exact Over.refl _ _ | with_reducible assumption | with_reducible refine Over.put ?_ _ _ | with_reducible refine Over.alloc ?_ _ | with_reducible refine Over.drew ?_ | with_reducible refine Over.own ?_ (by first | (simp; done) | (simp; omega)) _ | with_reducible refine Over.trans ?_ (by assumption) | with_reducible refine Over.then_below ?_ (by assumption)))
          have h6 := HCK.out.stop rfl HOK.out.symm
          refine bodyPost_ret (results_b rfl _ _ w.heap.size _ _ _ rfl ((Blk.all2 hx.1 _ _).alloc _) Tryz.underlying43 rfl (by kernel_rfl)) rfl ⟨ck, ⟨0, rfl, fun h => by rw [h6] at h; simp at h⟩, ?_, ho2⟩
          rw [h6]
          have := hx.2.1.over ho3 hx.1 (by decide) (by decide) (by decide) (by decide) (by decide)
          rw [goPd_off HOK.out.symm] at this
          exact this
        · have HN : Hid (∃ gsj, RunAt m k r (0 + 1) gs gsj ∧ TkAt (w1.alloc (.cells #[.int .i64 0, .int .i64 0] 43)) t lo gsj none ∧ Over t W (w1.alloc (.cells #[.int .i64 0, .int .i64 0] 43))) := Lib.hid (by
            have hx := HX.out
            have h1 := hx.2.1.below (below_alloc (Below.refl _ _) (.cells #[.int .i64 0, .int .i64 0] 43))
            rw [goPd_on HOK.out.symm] at h1
            exact ⟨_, HCK.out.step rfl HOK.out.symm, h1, hx.2.2.alloc _⟩)
          go_wp2_with fail
          exact ⟨⟨0 + 1, by omega, rfl, HN⟩, by simp [intOf]⟩
      · go_wp2_with fail
        go_at_call 40
        obtain ⟨hra, htk, ho⟩ := HR.out
        obtain ⟨ck, hck⟩ : ∃ ck, RunCk m k r ck 1 gs gsj := by
          rcases hra with ⟨h, _⟩ | ⟨_, h⟩
          · omega
          · exact h
        have HCK := Lib.hid hck
        clear hck
        refine (cLock_ok lo lo2 c t (m + 1) r k vm vr vw gsj wr HC2.out.1 htk hlo HC2.out.2.1 HC2.out.2.2 (HCK.out.fit rfl)).mono ?_
        rintro e w1 ⟨rfl, htk1, ho1⟩
        obtain ⟨ok, hok⟩ : ∃ ok, ok = goOn (lockAsk k r) gsj := ⟨_, rfl⟩
        rw [← hok]
        have HOK := Lib.hid hok
        have BR1 := HBR.out.grown ho1 (fun e => by injection e with e; omega)
        have how : Over t W w1 := ho.trans ho1
        have HX := Lib.hid (And.intro BR1 (And.intro htk1 how))
        have k1 := BR1.cell
        have f1 := BR1.free
        have l1 := BR1.lt
        clear hra htk ho hok BR1 htk1 ho1 how kr fr kf lf
        rcases ok with _ | _
        · go_wp2_with fail
          have hx := HX.out
          have ho2 : Over t w (((w1.setCell ⟨w.heap.size, 0, none⟩ (.int .i64 0)).setCell ⟨w.heap.size, 1, none⟩ (.int .i64 0)).alloc (.cells #[.int .i64 0, .int .i64 0] 43)) := (((((Over.of_below HB.out.2.2).trans hx.2.2).own (by simp) _).own (by simp) _).alloc _)
          have ho3 : Over w.heap.size w1 (((w1.setCell ⟨w.heap.size, 0, none⟩ (.int .i64 0)).setCell ⟨w.heap.size, 1, none⟩ (.int .i64 0)).alloc (.cells #[.int .i64 0, .int .i64 0] 43)) := by (repeat (first | with_reducible exact Over.refl _ _ | with_reducible assumption | with_reducible refine Over.put ?_ _ _ | with_reducible refine Over.alloc ?_ _ | with_reducible refine Over.drew ?_ | with_reducible refine Over.own ?_ (by first | (simp; done) | (simp; omega)) _ | with_reducible refine Over.trans ?_ (by assumption) | with_reducible refine Over.then_below ?_ (by assumption)))
          have h6 := HCK.out.stop rfl HOK.out.symm
          refine bodyPost_ret (results_b rfl _ _ w.heap.size _ _ _ rfl ((Blk.all2 hx.1 _ _).alloc _) Tryz.underlying43 rfl (by kernel_rfl)) rfl ⟨ck, ⟨0, rfl, fun h => by rw [h6] at h; simp at h⟩, ?_, ho2⟩
          rw [h6]
          have := hx.2.1.over ho3 hx.1 (by decide) (by decide) (by decide) (by decide) (by decide)
          rw [goPd_off HOK.out.symm] at this
          exact this
        · have HN : Hid (∃ gsj, RunAt m k r (1 + 1) gs gsj ∧ TkAt (w1.alloc (.cells #[.int .i64 0, .int .i64 0] 43)) t lo gsj none ∧ Over t W (w1.alloc (.cells #[.int .i64 0, .int .i64 0] 43))) := Lib.hid (by
            have hx := HX.out
            have h1 := hx.2.1.below (below_alloc (Below.refl _ _) (.cells #[.int .i64 0, .int .i64 0] 43))
            rw [goPd_on HOK.out.symm] at h1
            exact ⟨_, HCK.out.step rfl HOK.out.symm, h1, hx.2.2.alloc _⟩)
          go_wp2_with fail
          exact ⟨⟨1 + 1, by omega, rfl, HN⟩, by simp [intOf]⟩
      · go_wp2_with fail
        go_at_call 41
        obtain ⟨hra, htk, ho⟩ := HR.out
        obtain ⟨ck, hck⟩ : ∃ ck, RunCk m k r ck 2 gs gsj := by
          rcases hra with ⟨h, _⟩ | ⟨_, h⟩
          · omega
          · exact h
        have HCK := Lib.hid hck
        clear hck
        refine (cMark_ok lo lo2 c t (m + 1) r k vm vr vw gsj wr HC2.out.1 htk hlo HC2.out.2.1 HC2.out.2.2 (HCK.out.fit rfl)).mono ?_
        rintro e w1 ⟨rfl, htk1, ho1⟩
        obtain ⟨ok, hok⟩ : ∃ ok, ok = goOn (logAsk 48 (m + 1) k [6]) gsj := ⟨_, rfl⟩
        rw [← hok]
        have HOK := Lib.hid hok
        have BR1 := HBR.out.grown ho1 (fun e => by injection e with e; omega)
        have how : Over t W w1 := ho.trans ho1
        have HX := Lib.hid (And.intro BR1 (And.intro htk1 how))
        have k1 := BR1.cell
        have f1 := BR1.free
        have l1 := BR1.lt
        clear hra htk ho hok BR1 htk1 ho1 how kr fr kf lf
        rcases ok with _ | _
        · go_wp2_with fail
          have hx := HX.out
          have ho2 : Over t w (((w1.setCell ⟨w.heap.size, 0, none⟩ (.int .i64 0)).setCell ⟨w.heap.size, 1, none⟩ (.int .i64 0)).alloc (.cells #[.int .i64 0, .int .i64 0] 43)) := (((((Over.of_below HB.out.2.2).trans hx.2.2).own (by simp) _).own (by simp) _).alloc _)
          have ho3 : Over w.heap.size w1 (((w1.setCell ⟨w.heap.size, 0, none⟩ (.int .i64 0)).setCell ⟨w.heap.size, 1, none⟩ (.int .i64 0)).alloc (.cells #[.int .i64 0, .int .i64 0] 43)) := by (repeat (first | with_reducible exact Over.refl _ _ | with_reducible assumption | with_reducible refine Over.put ?_ _ _ | with_reducible refine Over.alloc ?_ _ | with_reducible refine Over.drew ?_ | with_reducible refine Over.own ?_ (by first | (simp; done) | (simp; omega)) _ | with_reducible refine Over.trans ?_ (by assumption) | with_reducible refine Over.then_below ?_ (by assumption)))
          have h6 := HCK.out.stop rfl HOK.out.symm
          refine bodyPost_ret (results_b rfl _ _ w.heap.size _ _ _ rfl ((Blk.all2 hx.1 _ _).alloc _) Tryz.underlying43 rfl (by kernel_rfl)) rfl ⟨ck, ⟨0, rfl, fun h => by rw [h6] at h; simp at h⟩, ?_, ho2⟩
          rw [h6]
          have := hx.2.1.over ho3 hx.1 (by decide) (by decide) (by decide) (by decide) (by decide)
          rw [goPd_off HOK.out.symm] at this
          exact this
        · have HN : Hid (∃ gsj, RunAt m k r (2 + 1) gs gsj ∧ TkAt (w1.alloc (.cells #[.int .i64 0, .int .i64 0] 43)) t lo gsj none ∧ Over t W (w1.alloc (.cells #[.int .i64 0, .int .i64 0] 43))) := Lib.hid (by
            have hx := HX.out
            have h1 := hx.2.1.below (below_alloc (Below.refl _ _) (.cells #[.int .i64 0, .int .i64 0] 43))
            rw [goPd_on HOK.out.symm] at h1
            exact ⟨_, HCK.out.step rfl HOK.out.symm, h1, hx.2.2.alloc _⟩)
          go_wp2_with fail
          exact ⟨⟨2 + 1, by omega, rfl, HN⟩, by simp [intOf]⟩
      · go_wp2_with fail
        go_at_call 42
        obtain ⟨hra, htk, ho⟩ := HR.out
        obtain ⟨ck, hck⟩ : ∃ ck, RunCk m k r ck 3 gs gsj := by
          rcases hra with ⟨h, _⟩ | ⟨_, h⟩
          · omega
          · exact h
        have HCK := Lib.hid hck
        clear hck
        refine (cBackups_ok lo lo2 c t m r k vm vr vw gsj wr HC2.out.1 htk hlo HC2.out.2.1 HC2.out.2.2 (HCK.out.fit rfl)).mono ?_
        rintro e w1 ⟨rfl, htk1, ho1⟩
        obtain ⟨ok, hok⟩ : ∃ ok, ok = goOn (bkAsk k m) gsj := ⟨_, rfl⟩
        rw [← hok]
        have HOK := Lib.hid hok
        have BR1 := HBR.out.grown ho1 (fun e => by injection e with e; omega)
        have how : Over t W w1 := ho.trans ho1
        have HX := Lib.hid (And.intro BR1 (And.intro htk1 how))
        have k1 := BR1.cell
        have f1 := BR1.free
        have l1 := BR1.lt
        clear hra htk ho hok BR1 htk1 ho1 how kr fr kf lf
        rcases ok with _ | _
        · go_wp2_with fail
          have hx := HX.out
          have ho2 : Over t w (((w1.setCell ⟨w.heap.size, 0, none⟩ (.int .i64 0)).setCell ⟨w.heap.size, 1, none⟩ (.int .i64 0)).alloc (.cells #[.int .i64 0, .int .i64 0] 43)) := (((((Over.of_below HB.out.2.2).trans hx.2.2).own (by simp) _).own (by simp) _).alloc _)
          have ho3 : Over w.heap.size w1 (((w1.setCell ⟨w.heap.size, 0, none⟩ (.int .i64 0)).setCell ⟨w.heap.size, 1, none⟩ (.int .i64 0)).alloc (.cells #[.int .i64 0, .int .i64 0] 43)) := by (repeat (first | with_reducible exact Over.refl _ _ | with_reducible assumption | with_reducible refine Over.put ?_ _ _ | with_reducible refine Over.alloc ?_ _ | with_reducible refine Over.drew ?_ | with_reducible refine Over.own ?_ (by first | (simp; done) | (simp; omega)) _ | with_reducible refine Over.trans ?_ (by assumption) | with_reducible refine Over.then_below ?_ (by assumption)))
          have h6 := HCK.out.stop rfl HOK.out.symm
          refine bodyPost_ret (results_b rfl _ _ w.heap.size _ _ _ rfl ((Blk.all2 hx.1 _ _).alloc _) Tryz.underlying43 rfl (by kernel_rfl)) rfl ⟨ck, ⟨0, rfl, fun h => by rw [h6] at h; simp at h⟩, ?_, ho2⟩
          rw [h6]
          have := hx.2.1.over ho3 hx.1 (by decide) (by decide) (by decide) (by decide) (by decide)
          rw [goPd_off HOK.out.symm] at this
          exact this
        · have HN : Hid (∃ gsj, RunAt m k r (3 + 1) gs gsj ∧ TkAt (w1.alloc (.cells #[.int .i64 0, .int .i64 0] 43)) t lo gsj none ∧ Over t W (w1.alloc (.cells #[.int .i64 0, .int .i64 0] 43))) := Lib.hid (by
            have hx := HX.out
            have h1 := hx.2.1.below (below_alloc (Below.refl _ _) (.cells #[.int .i64 0, .int .i64 0] 43))
            rw [goPd_on HOK.out.symm] at h1
            exact ⟨_, HCK.out.step rfl HOK.out.symm, h1, hx.2.2.alloc _⟩)
          go_wp2_with fail
          exact ⟨⟨3 + 1, by omega, rfl, HN⟩, by simp [intOf]⟩
      · go_wp2_with fail
        go_at_call 43
        obtain ⟨hra, htk, ho⟩ := HR.out
        obtain ⟨ck, hck⟩ : ∃ ck, RunCk m k r ck 4 gs gsj := by
          rcases hra with ⟨h, _⟩ | ⟨_, h⟩
          · omega
          · exact h
        have HCK := Lib.hid hck
        clear hck
        refine (cFinish_ok lo lo2 c t (m + 1) r k vm vr vw gsj wr HC2.out.1 htk hlo HC2.out.2.1 HC2.out.2.2 (HCK.out.fit rfl)).mono ?_
        rintro e w1 ⟨rfl, htk1, ho1⟩
        obtain ⟨ok, hok⟩ : ∃ ok, ok = goOn (finAsk k) gsj := ⟨_, rfl⟩
        rw [← hok]
        have HOK := Lib.hid hok
        have BR1 := HBR.out.grown ho1 (fun e => by injection e with e; omega)
        have how : Over t W w1 := ho.trans ho1
        have HX := Lib.hid (And.intro BR1 (And.intro htk1 how))
        have k1 := BR1.cell
        have f1 := BR1.free
        have l1 := BR1.lt
        clear hra htk ho hok BR1 htk1 ho1 how kr fr kf lf
        rcases ok with _ | _
        · go_wp2_with fail
          have hx := HX.out
          have ho2 : Over t w (((w1.setCell ⟨w.heap.size, 0, none⟩ (.int .i64 0)).setCell ⟨w.heap.size, 1, none⟩ (.int .i64 0)).alloc (.cells #[.int .i64 0, .int .i64 0] 43)) := (((((Over.of_below HB.out.2.2).trans hx.2.2).own (by simp) _).own (by simp) _).alloc _)
          have ho3 : Over w.heap.size w1 (((w1.setCell ⟨w.heap.size, 0, none⟩ (.int .i64 0)).setCell ⟨w.heap.size, 1, none⟩ (.int .i64 0)).alloc (.cells #[.int .i64 0, .int .i64 0] 43)) := by (repeat (first | with_reducible exact Over.refl _ _ | with_reducible assumption | with_reducible refine Over.put ?_ _ _ | with_reducible refine Over.alloc ?_ _ | with_reducible refine Over.drew ?_ | with_reducible refine Over.own ?_ (by first | (simp; done) | (simp; omega)) _ | with_reducible refine Over.trans ?_ (by assumption) | with_reducible refine Over.then_below ?_ (by assumption)))
          have h6 := HCK.out.stop rfl HOK.out.symm
          refine bodyPost_ret (results_b rfl _ _ w.heap.size _ _ _ rfl ((Blk.all2 hx.1 _ _).alloc _) Tryz.underlying43 rfl (by kernel_rfl)) rfl ⟨ck, ⟨0, rfl, fun h => by rw [h6] at h; simp at h⟩, ?_, ho2⟩
          rw [h6]
          have := hx.2.1.over ho3 hx.1 (by decide) (by decide) (by decide) (by decide) (by decide)
          rw [goPd_off HOK.out.symm] at this
          exact this
        · have HN : Hid (∃ gsj, RunAt m k r (4 + 1) gs gsj ∧ TkAt (w1.alloc (.cells #[.int .i64 0, .int .i64 0] 43)) t lo gsj none ∧ Over t W (w1.alloc (.cells #[.int .i64 0, .int .i64 0] 43))) := Lib.hid (by
            have hx := HX.out
            have h1 := hx.2.1.below (below_alloc (Below.refl _ _) (.cells #[.int .i64 0, .int .i64 0] 43))
            rw [goPd_on HOK.out.symm] at h1
            exact ⟨_, HCK.out.step rfl HOK.out.symm, h1, hx.2.2.alloc _⟩)
          go_wp2_with fail
          exact ⟨⟨4 + 1, by omega, rfl, HN⟩, by simp [intOf]⟩
    · obtain rfl : j = 5 := by omega
      go_wp2_with fail
      obtain ⟨h5, htk, ho⟩ := HR.out
      have ho2 : Over t w ((wr.setCell ⟨w.heap.size, 0, none⟩ (.int .i64 0)).setCell ⟨w.heap.size, 1, none⟩ (.int .i64 3)) := (((Over.of_below HB.out.2.2).trans ho).own (by simp) _).own (by simp) _
      have ho3 : Over w.heap.size wr ((wr.setCell ⟨w.heap.size, 0, none⟩ (.int .i64 0)).setCell ⟨w.heap.size, 1, none⟩ (.int .i64 3)) := by (repeat (first | with_reducible exact Over.refl _ _ | with_reducible assumption | with_reducible refine Over.put ?_ _ _ | with_reducible refine Over.alloc ?_ _ | with_reducible refine Over.drew ?_ | with_reducible refine Over.own ?_ (by first | (simp; done) | (simp; omega)) _ | with_reducible refine Over.trans ?_ (by assumption) | with_reducible refine Over.then_below ?_ (by assumption)))
      rcases h5 with ⟨h, _⟩ | ⟨_, ck, h5, _⟩
      · omega
      have h6 : goAll (fiveAsks m k r ck) gs = (gsj, none) := by rw [h5]; rfl
      refine bodyPost_ret (results_b rfl _ _ w.heap.size _ _ _ rfl (Blk.all2 HBR.out _ _) Tryz.underlying43 rfl (by kernel_rfl)) rfl ⟨ck, ⟨3, rfl, fun _ => rfl⟩, by rw [h6]; exact htk.over ho3 HBR.out (by decide) (by decide) (by decide) (by decide) (by decide), ho2⟩
end Go.Proofs.YtoidjgongafnkaaGreatDoor
