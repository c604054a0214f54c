/- executor.Next where no page is known: whatever job: an invalid one ends with ErrArg, a valid one waits. -/
import Derived.Test.YtcoiehgcfjfhaaaGreatDoorQ32
import Derived.Test.YtcoiehgcfjfhaaaGreatDoorQ11
import Derived.Test.YtcoiehgcfjfhaaaGreatDoorQ12
import Derived.Deep.CutBlock
import Derived.Deep.DeepCutAuto
import Derived.Deep.CutRange
import Derived.Test.YtcoiehgcfjfhaaaGreatDoorQ13
import Derived.Test.YtcoiehgcfjfhaaaGreatDoorQ14
set_option linter.all false
set_option maxRecDepth 20000
set_option maxHeartbeats 8000000
open Go.Lib (hid)
namespace Go.Proofs.YtcoiehgcfjfhaaaGreatDoor
open Go.RowKit
def outN (code : Int) : Array Value := #[.int .i64 code, .int .i64 0, .int .i64 0, .slice none 0 0, .slice none 0 0, .bool false, .bool false, .bool false, .bool false]
def NextSays (ok : Bool) (e : Ending) : Prop :=
  (ok = false ∧ e = .returned (.tuple #[.slice none 0 0, .slice none 0 0, .agg (outN 1), .bool true])) ∨ ∃ g c, ok = true ∧ e = .returned (.tuple #[.slice (some ⟨g, 0, none⟩) 1 c, .slice none 0 0, .agg (outN 0), .bool false])
theorem gNext (j : Jb) (p pa : Option Addr) (c ca n na : Nat) (hn : j.prog.length = n) (hna : j.acc.length = na) (hnm : n ≤ maxLen) (hnam : na ≤ maxLen) (w : World) (hno : NoneAt w) (hr : StmRow w p j.prog) (ha : AskRow w pa j.acc) :
    Calls Tryz.prog 10 #[.agg (j.cells (.slice p n c) (.slice pa na ca)), .slice none 0 0] w fun e w' => NextSays j.ok e ∧ Below w.heap.size w w' := by
  obtain ⟨ok, hok⟩ : ∃ b, j.ok = b := ⟨_, rfl⟩
  obtain ⟨cd, hcd⟩ : ∃ x, okCode ok = x := ⟨_, rfl⟩
  have HVV : Hid (∀ W, Below w.heap.size w W → Calls Tryz.prog 9 #[.agg (j.cells (.slice p n c) (.slice pa na ca))] W fun e w' => e = .returned (.int .i64 cd) ∧ Below W.heap.size W w') := hid (fun W hb => by
    have h := exValid j p pa c ca n na hn hna hnm hnam W (hr.below hb) (ha.below hb)
    unfold VjPost at h
    rwa [hok, hcd] at h)
  have hmm := @run_makeMap Tryz.prog
  have HJ := hid (And.intro hn (And.intro hna (And.intro hno (And.intro hr (And.intro ha (And.intro hok hcd))))))
  rw [hok]
  clear hn hna hno hr ha hok hnm hnam
  unfold Jb.cells at HVV ⊢
  cases ok
  · have hc1 : cd = 1 := hcd.symm
    subst hc1
    clear HJ hcd
    go_enter Tryz.func10, Tryz.ntmps10
    go_upto_region 1 with (fail)
    refine wp_name (fun W' => Blk W' w.heap.size 28 (j.cells (.slice p n c) (.slice pa na ca)) ∧ Blk W' (w.heap.size + 1) 45 (outN 0) ∧ Below w.heap.size w W') ⟨(Blk.made w _ _).alloc _, Blk.made' (by simp), qL⟩ (fun w1 H1 => ?_)
    have kj := H1.out.1.cell
    have lj := H1.out.1.lt
    unfold Jb.cells at kj
    go_wp2_with fail
    go_at_call 9; refine (HVV.out _ H1.out.2.2).mono ?_; rintro e w2 ⟨rfl, hb2⟩
    have BO := H1.out.2.1.kept hb2
    have ko := BO.cell
    have fo := BO.free
    have lo := BO.lt
    have H2 := hid (And.intro BO (below_step H1.out.2.2 hb2))
    unfold outN at ko
    clear BO hb2 kj lj
    go_wp2_with fail
    have hbb := H2.out.2
    have hll : w.heap.size ≤ w.heap.size + 1 := by omega
    exact bodyPost_ret (results_ttbt rfl _ _ (w.heap.size + 1) _ _ _ rfl (Blk.cast (((((((((H2.out.1.put 0 _).put 1 _).put 2 _).put 3 _).put 4 _).put 5 _).put 6 _).put 7 _).put 8 _) (by kernel_rfl)) Tryz.underlying45 rfl (by kernel_rfl)) rfl ⟨.inl ⟨rfl, rfl⟩, (((((((((hbb.setCell hll _).setCell hll _).setCell hll _).setCell hll _).setCell hll _).setCell hll _).setCell hll _).setCell hll _).setCell hll _)⟩
  · have hc0 : cd = 0 := hcd.symm
    subst hc0
    clear hcd
    have hjok := HJ.out.2.2.2.2.2.1
    have hgood : j.head = true ∧ (1 ≤ n ∧ n ≤ 8) ∧ na = n ∧ ∀ s ∈ j.prog, s.valid = true := by
      simp only [Jb.ok, Sq.good, Bool.and_eq_true, decide_eq_true_eq, List.all_eq_true] at hjok
      obtain ⟨⟨⟨h1, ⟨h2, h3⟩, h4⟩, h5⟩, _⟩ := hjok
      have e1 := HJ.out.1
      have e2 := HJ.out.2.1
      exact ⟨h1, by omega, by omega, h4⟩
    obtain ⟨hhead, hn8, hnan, hval⟩ := hgood
    subst hnan
    have hcl : 0 ≤ j.client ∧ j.client ≤ 5 := by
      simp only [Jb.head, Bool.and_eq_true, Bool.not_eq_true', decide_eq_false_iff_not] at hhead
      omega
    obtain ⟨s, hs⟩ : ∃ s, j.prog[0]? = some s := ⟨_, List.getElem?_eq_getElem (by have := HJ.out.1; omega)⟩
    obtain ⟨a, has⟩ : ∃ a, j.acc[0]? = some a := ⟨_, List.getElem?_eq_getElem (by have := HJ.out.2.1; omega)⟩
    obtain ⟨ob, oo, hp, holt, hoc⟩ : ∃ b o, p = some ⟨b, o, none⟩ ∧ b < w.heap.size ∧ ∀ (i : Nat) u, s.arr[i]? = some u → w.cell? ⟨b, o + i, none⟩ = some u := by
      rcases HJ.out.2.2.2.1.row with h | ⟨b, o, h1, h2, h3⟩
      · have := HJ.out.1; rw [h] at this; simp at this; omega
      · exact ⟨b, o, h1, h2, fun i u hu => by have := h3 0 s hs i u hu; simpa using this⟩
    obtain ⟨ab, ao, hpa, halt, hac⟩ : ∃ b o, pa = some ⟨b, o, none⟩ ∧ b < w.heap.size ∧ w.cell? ⟨b, o, none⟩ = some (.int .i64 a) := by
      rcases HJ.out.2.2.2.2.1.row with h | ⟨b, o, h1, h2, h3⟩
      · have := HJ.out.2.1; rw [h] at this; simp at this; omega
      · exact ⟨b, o, h1, h2, by have := h3 0 a has; simpa using this⟩
    subst hp hpa
    have hsv := hval s (List.mem_of_getElem? hs)
    have HEX : Hid (∀ r m W, Below w.heap.size w W → w.heap.size ≤ r → Blk W r 82 (gCells j (.slice (some ⟨ob, oo, none⟩) na c) (.slice (some ⟨ab, ao, none⟩) na ca) m (.slice none 0 0)) → Calls Tryz.prog 19 #[.pointer (some ⟨r, 0, none⟩)] W (GWait r j (.slice (some ⟨ob, oo, none⟩) na c) (.slice (some ⟨ab, ao, none⟩) na ca) m (.bool false) W)) := hid (fun r m W hb hrge hB =>
      gExecute r j ob oo c na ab ao ca na m s a hn8 (by omega) hsv hcl W (HJ.out.2.2.1.below hb) (by have := HJ.out.2.2.1.lt; omega) (by omega) (by omega) (fun i u hu => (hb.cell (p := ⟨ob, oo + i, none⟩) holt).trans (hoc i u hu)) ((hb.cell (p := ⟨ab, ao, none⟩) halt).trans hac) hB)
    clear hjok hhead hval hcl hoc hac hs has HJ hsv
    go_enter Tryz.func10, Tryz.ntmps10
    go_upto_region 1 with (fail)
    refine wp_name (fun W' => Blk W' w.heap.size 28 (j.cells (.slice (some ⟨ob, oo, none⟩) na c) (.slice (some ⟨ab, ao, none⟩) na ca)) ∧ Blk W' (w.heap.size + 1) 45 (outN 0) ∧ Below w.heap.size w W') ⟨(Blk.made w _ _).alloc _, Blk.made' (by simp), qL⟩ (fun w1 H1 => ?_)
    have kj := H1.out.1.cell
    have lj := H1.out.1.lt
    unfold Jb.cells at kj
    go_wp2_with fail
    go_at_call 9; refine (HVV.out _ H1.out.2.2).mono ?_; rintro e w2 ⟨rfl, hb2⟩
    have H2 := hid (And.intro (H1.out.1.kept hb2) (And.intro (H1.out.2.1.kept hb2) (below_step H1.out.2.2 hb2)))
    clear kj lj hb2 H1
    have kj := H2.out.1.cell
    have lj := H2.out.1.lt
    have lo := H2.out.2.1.lt
    unfold Jb.cells at kj
    go_upto_region 5 with (fail)
    have hbm : Below w2.heap.size w2 (w2.alloc (.map #[] 0)) := below_alloc (Below.refl _ _) _
    have hbr : Below (w2.alloc (.map #[] 0)).heap.size (w2.alloc (.map #[] 0)) ((w2.alloc (.map #[] 0)).alloc (.cells (gCells j (.slice (some ⟨ob, oo, none⟩) na c) (.slice (some ⟨ab, ao, none⟩) na ca) w2.heap.size (.slice none 0 0)) 82)) := below_alloc (Below.refl _ _) _
    have hbw := hbm.trans (hbr.mono hbm.size)
    have hbww := H2.out.2.2.trans (hbw.mono H2.out.2.2.size)
    have hsz := H2.out.2.2.size
    refine wp_name (fun W' => Blk W' (w2.heap.size + 1) 82 (gCells j (.slice (some ⟨ob, oo, none⟩) na c) (.slice (some ⟨ab, ao, none⟩) na ca) w2.heap.size (.slice none 0 0)) ∧ Blk W' (w.heap.size + 1) 45 (outN 0) ∧ Below w.heap.size w W') ⟨Blk.made' (by simp), H2.out.2.1.kept hbw, hbww⟩ (fun w3 H3 => ?_)
    clear hbm hbr hbw hbww kj lj
    obtain ⟨r, hr⟩ : ∃ r, w2.heap.size + 1 = r := ⟨_, rfl⟩
    have hOm : w.heap.size + 1 < r := by omega
    rw [hr] at H3 ⊢
    go_wp2_with fail
    go_at_call 19
    refine (HEX.out r _ _ H3.out.2.2 (by omega) H3.out.1).mono ?_
    rintro e w4 ⟨rfl, ⟨g, cg, hg⟩, ho4⟩
    have BO := blk_over H3.out.2.1 ho4 (by omega)
    have ko := BO.cell
    have fo := BO.free
    have lo4 := BO.lt
    have kg := hg.cell
    have lg := hg.lt
    have H4 := hid (And.intro BO (over_below ((Over.of_below (b := r) H3.out.2.2).trans ho4) (by omega)))
    unfold outN at ko
    unfold gCells at kg
    clear BO hg ho4
    go_wp2_with fail
    have hbb := H4.out.2
    have hll : w.heap.size ≤ w.heap.size + 1 := by omega
    exact bodyPost_ret (results_ttbt rfl _ _ (w.heap.size + 1) _ _ _ rfl (Blk.cast (((((((((H4.out.1.put 0 _).put 1 _).put 2 _).put 3 _).put 4 _).put 5 _).put 6 _).put 7 _).put 8 _) (by kernel_rfl)) Tryz.underlying45 rfl (by kernel_rfl)) rfl ⟨.inr ⟨g, cg, rfl, rfl⟩, (((((((((hbb.setCell hll _).setCell hll _).setCell hll _).setCell hll _).setCell hll _).setCell hll _).setCell hll _).setCell hll _).setCell hll _)⟩
def inB (n lo hi : Int) : Bool := decide (lo ≤ n) && decide (n ≤ hi)
theorem refIn (n lo hi : Int) (w : World) : Calls Tryz.prog 24 #[.int .i64 n, .int .i64 lo, .int .i64 hi] w fun e w' => e = .returned (.bool (inB n lo hi)) ∧ w = w' := by
  unfold inB
  by_cases h1 : lo ≤ n
  · have b1 : decide (lo ≤ n) = true := by simpa using h1
    cases b2 : decide (n ≤ hi) <;>
      (go_enter Tryz.func24, Tryz.ntmps24; go_wp2_with fail; exact bodyPost_ret (results_tmp rfl _ _ _) rfl ⟨by simp [b1], rfl⟩)
  · have b1 : decide (lo ≤ n) = false := by simpa using h1
    go_enter Tryz.func24, Tryz.ntmps24
    go_wp2_with fail
    exact bodyPost_ret (results_tmp rfl _ _ _) rfl ⟨by simp [b1], rfl⟩
theorem refWrites (s : Sq.St) (w : World) : Calls Tryz.prog 13 #[.agg s.arr] w fun e w' => e = .returned (.bool s.wr) ∧ Below w.heap.size w w' := by
  have HI : Hid (∀ W, Calls Tryz.prog 24 #[.int .i64 s.kind, .int .i64 1, .int .i64 4] W fun e w' => e = .returned (.bool s.wr) ∧ W = w') := hid (fun W => refIn s.kind 1 4 W)
  unfold Sq.St.arr
  go_enter Tryz.func13, Tryz.ntmps13
  go_wp2_with fail
  go_at_call 24
  refine (HI.out _).mono ?_
  rintro e w1 ⟨rfl, rfl⟩
  go_wp2_with fail
  exact bodyPost_ret (results_tmp rfl _ _ _) rfl ⟨rfl, qL⟩
def Sq.St.only (s : Sq.St) : Sq.St := (Sq.parts s.kind.toNat).foldl s.keep (Sq.zero s.kind)
def PlainPost (s : Sq.St) (w : World) (e : Ending) (w' : World) : Prop := e = .returned (.agg s.only.arr) ∧ Below w.heap.size w w'
theorem refPlain1 (s : Sq.St) (h : s.kind = 1) (w : World) : Calls Tryz.prog 39 #[.agg s.arr] w (PlainPost s w) := by
  obtain ⟨k, key, last, c0, c1, c2, col, value, wcol, wop, wval, limit⟩ := s
  simp only at h
  subst h
  unfold Sq.St.arr PlainPost
  simp only
  go_enter Tryz.func39, Tryz.ntmps39
  go_wp2_with fail
  simp [bodyPost, results, Tryz.results39, go_sem, Sq.St.only, Sq.parts, Sq.St.keep, Sq.zero, Sq.St.arr]
  exact qL
theorem refPlain2 (s : Sq.St) (h : s.kind = 2) (w : World) : Calls Tryz.prog 39 #[.agg s.arr] w (PlainPost s w) := by
  obtain ⟨k, key, last, c0, c1, c2, col, value, wcol, wop, wval, limit⟩ := s
  simp only at h
  subst h
  unfold Sq.St.arr PlainPost
  simp only
  go_enter Tryz.func39, Tryz.ntmps39
  go_wp2_with fail
  go_region
  go_wp2_with fail
  simp [bodyPost, results, Tryz.results39, go_sem, Sq.St.only, Sq.parts, Sq.St.keep, Sq.zero, Sq.St.arr]
  exact qL
theorem refPlain3 (s : Sq.St) (h : s.kind = 3) (w : World) : Calls Tryz.prog 39 #[.agg s.arr] w (PlainPost s w) := by
  obtain ⟨k, key, last, c0, c1, c2, col, value, wcol, wop, wval, limit⟩ := s
  simp only at h
  subst h
  unfold Sq.St.arr PlainPost
  simp only
  go_enter Tryz.func39, Tryz.ntmps39
  go_wp2_with fail
  go_region
  go_wp2_with fail
  simp [bodyPost, results, Tryz.results39, go_sem, Sq.St.only, Sq.parts, Sq.St.keep, Sq.zero, Sq.St.arr]
  exact qL
theorem refPlain4 (s : Sq.St) (h : s.kind = 4) (w : World) : Calls Tryz.prog 39 #[.agg s.arr] w (PlainPost s w) := by
  obtain ⟨k, key, last, c0, c1, c2, col, value, wcol, wop, wval, limit⟩ := s
  simp only at h
  subst h
  unfold Sq.St.arr PlainPost
  simp only
  go_enter Tryz.func39, Tryz.ntmps39
  go_wp2_with fail
  simp [bodyPost, results, Tryz.results39, go_sem, Sq.St.only, Sq.parts, Sq.St.keep, Sq.zero, Sq.St.arr]
  exact qL
theorem refPlain5 (s : Sq.St) (h : s.kind = 5) (w : World) : Calls Tryz.prog 39 #[.agg s.arr] w (PlainPost s w) := by
  obtain ⟨k, key, last, c0, c1, c2, col, value, wcol, wop, wval, limit⟩ := s
  simp only at h
  subst h
  unfold Sq.St.arr PlainPost
  simp only
  go_enter Tryz.func39, Tryz.ntmps39
  go_wp2_with fail
  simp [bodyPost, results, Tryz.results39, go_sem, Sq.St.only, Sq.parts, Sq.St.keep, Sq.zero, Sq.St.arr]
  exact qL
theorem refPlain6 (s : Sq.St) (h : s.kind = 6) (w : World) : Calls Tryz.prog 39 #[.agg s.arr] w (PlainPost s w) := by
  obtain ⟨k, key, last, c0, c1, c2, col, value, wcol, wop, wval, limit⟩ := s
  simp only at h
  subst h
  unfold Sq.St.arr PlainPost
  simp only
  go_enter Tryz.func39, Tryz.ntmps39
  go_wp2_with fail
  go_region
  go_wp2_with fail
  simp [bodyPost, results, Tryz.results39, go_sem, Sq.St.only, Sq.parts, Sq.St.keep, Sq.zero, Sq.St.arr]
  exact qL
theorem refPlain7 (s : Sq.St) (h : s.kind = 7) (w : World) : Calls Tryz.prog 39 #[.agg s.arr] w (PlainPost s w) := by
  obtain ⟨k, key, last, c0, c1, c2, col, value, wcol, wop, wval, limit⟩ := s
  simp only at h
  subst h
  unfold Sq.St.arr PlainPost
  simp only
  go_enter Tryz.func39, Tryz.ntmps39
  go_wp2_with fail
  go_region
  go_wp2_with fail
  simp [bodyPost, results, Tryz.results39, go_sem, Sq.St.only, Sq.parts, Sq.St.keep, Sq.zero, Sq.St.arr]
  exact qL
theorem refPlain8 (s : Sq.St) (h : s.kind = 8) (w : World) : Calls Tryz.prog 39 #[.agg s.arr] w (PlainPost s w) := by
  obtain ⟨k, key, last, c0, c1, c2, col, value, wcol, wop, wval, limit⟩ := s
  simp only at h
  subst h
  unfold Sq.St.arr PlainPost
  simp only
  go_enter Tryz.func39, Tryz.ntmps39
  go_wp2_with fail
  go_region
  go_wp2_with fail
  simp [bodyPost, results, Tryz.results39, go_sem, Sq.St.only, Sq.parts, Sq.St.keep, Sq.zero, Sq.St.arr]
  exact qL
theorem refPlain9 (s : Sq.St) (h : s.kind = 9) (w : World) : Calls Tryz.prog 39 #[.agg s.arr] w (PlainPost s w) := by
  obtain ⟨k, key, last, c0, c1, c2, col, value, wcol, wop, wval, limit⟩ := s
  simp only at h
  subst h
  unfold Sq.St.arr PlainPost
  simp only
  go_enter Tryz.func39, Tryz.ntmps39
  go_wp2_with fail
  simp [bodyPost, results, Tryz.results39, go_sem, Sq.St.only, Sq.parts, Sq.St.keep, Sq.zero, Sq.St.arr]
  exact qL
theorem refPlain (s : Sq.St) (h1 : 1 ≤ s.kind) (h9 : s.kind ≤ 9) (w : World) : Calls Tryz.prog 39 #[.agg s.arr] w (PlainPost s w) := by
  rcases (by omega : s.kind = 1 ∨ s.kind = 2 ∨ s.kind = 3 ∨ s.kind = 4 ∨ s.kind = 5 ∨ s.kind = 6 ∨ s.kind = 7 ∨ s.kind = 8 ∨ s.kind = 9) with h | h | h | h | h | h | h | h | h
  · exact refPlain1 s h w
  · exact refPlain2 s h w
  · exact refPlain3 s h w
  · exact refPlain4 s h w
  · exact refPlain5 s h w
  · exact refPlain6 s h w
  · exact refPlain7 s h w
  · exact refPlain8 s h w
  · exact refPlain9 s h w
def VsPost (s : Sq.St) (w : World) (e : Ending) (w' : World) : Prop := e = .returned (.bool s.refValid) ∧ Below w.heap.size w w'
theorem neq_cond29 (a b c : Int) (w : World) : (binOp .neq 60 (.agg #[.int .i64 a, .int .i64 b, .int .i64 c]) (.agg #[.int .i64 0, .int .i64 0, .int .i64 0])).run Tryz.prog w = .ok (.bool (!(decide (a = 0) && decide (b = 0) && decide (c = 0)))) w := by
  simp [go_sem]
  by_cases h1 : a = 0 <;> by_cases h2 : b = 0 <;> by_cases h3 : c = 0 <;> simp [h1, h2, h3]
def Sq.St.head (s : Sq.St) : Bool := decide (1 ≤ s.kind) && decide (s.kind ≤ 9) && decide (1 ≤ s.key) && decide (s.key ≤ Sq.maxKey) && s.only.same s
theorem Sq.St.refValid_false1 (s : Sq.St) (h : s.head = false) : s.refValid = false := by
  unfold Sq.St.head Sq.St.only at h
  unfold Sq.St.refValid
  simp [h]
theorem refVs_kind (s : Sq.St) (hk : ¬(1 ≤ s.kind ∧ s.kind ≤ 9)) (w : World) : Calls Tryz.prog 23 #[.agg s.arr] w (VsPost s w) := by
  have HF : Hid (s.refValid = false) := hid (s.refValid_false1 (by simp [Sq.St.head]; omega))
  have e19 : inB s.kind 1 9 = false := by simp [inB]; omega
  have HI : Hid (∀ W, Calls Tryz.prog 24 #[.int .i64 s.kind, .int .i64 1, .int .i64 9] W fun e w' => e = .returned (.bool false) ∧ W = w') := hid (fun W => by have h := refIn s.kind 1 9 W; rwa [e19] at h)
  clear hk e19
  unfold VsPost
  rw [HF.out]
  unfold Sq.St.arr
  go_enter Tryz.func23, Tryz.ntmps23
  go_wp2_with fail
  refine qA fun hSt => ?_
  refine qS [0, 1] ?_
  iterate 2 (refine qT ?_; simp only [Act.put, qY])
  refine TakeSeq.done ?_
  refine qH 2 fun K hK => ?_
  go_simp
  go_at_call 24; refine (HI.out _).mono ?_; rintro e w1 ⟨rfl, rfl⟩
  go_wp2_with fail
  refine hK.out _ _ (SteadyAll.of qL) (fun hHeld => ?_)
  clear hK K
  refine qS [3, 4, 5, 6, 7, 8, 9, 10, 11, 12, 13, 14, 15, 16, 17, 18, 19] ?_
  iterate 17 (refine qT ?_; simp only [Act.put, qY])
  refine TakeSeq.done ?_
  refine qD ?_ _
  go_wp2_with fail
  exact bodyPost_ret (results_tmp rfl _ _ _) rfl ⟨rfl, qL⟩
theorem refVs_key (s : Sq.St) (hk : 1 ≤ s.kind ∧ s.kind ≤ 9) (c : Bool) (k1 : decide (s.key < 1) = c) (k2 : c = false → decide (4294967294 < s.key) = true) (w : World) : Calls Tryz.prog 23 #[.agg s.arr] w (VsPost s w) := by
  have HF : Hid (s.refValid = false) := hid (s.refValid_false1 (by
    rw [Bool.eq_false_iff]
    intro hc
    simp only [Sq.St.head, Bool.and_eq_true, decide_eq_true_eq] at hc
    have h1 := hc.1.1.2
    have h2 := hc.1.2
    unfold Sq.maxKey at h2
    cases c
    · have := of_decide_eq_true (k2 rfl); omega
    · have := of_decide_eq_true k1; omega))
  have e19 : inB s.kind 1 9 = true := by simp [inB]; omega
  have HI : Hid (∀ W, Calls Tryz.prog 24 #[.int .i64 s.kind, .int .i64 1, .int .i64 9] W fun e w' => e = .returned (.bool true) ∧ W = w') := hid (fun W => by have h := refIn s.kind 1 9 W; rwa [e19] at h)
  clear hk e19
  unfold VsPost
  rw [HF.out]
  unfold Sq.St.arr
  cases c
  · have k2 := k2 rfl
    go_enter Tryz.func23, Tryz.ntmps23
    go_wp2_with fail
    refine qA fun hSt => ?_
    refine qS [0, 1] ?_
    iterate 2 (refine qT ?_; simp only [Act.put, qY])
    refine TakeSeq.done ?_
    refine qH 2 fun K hK => ?_
    go_simp
    go_at_call 24; refine (HI.out _).mono ?_; rintro e w1 ⟨rfl, rfl⟩
    go_wp2_with fail
    refine hK.out _ _ (SteadyAll.of qL) (fun hHeld => ?_)
    clear hK K
    refine qS [3, 4, 5, 6, 7, 8, 9, 10, 11, 12, 13, 14, 15, 16, 17, 18, 19] ?_
    iterate 17 (refine qT ?_; simp only [Act.put, qY])
    refine TakeSeq.done ?_
    refine qD ?_ _
    go_wp2_with fail
    exact bodyPost_ret (results_tmp rfl _ _ _) rfl ⟨rfl, qL⟩
  · clear k2
    go_enter Tryz.func23, Tryz.ntmps23
    go_wp2_with fail
    refine qA fun hSt => ?_
    refine qS [0, 1] ?_
    iterate 2 (refine qT ?_; simp only [Act.put, qY])
    refine TakeSeq.done ?_
    refine qH 2 fun K hK => ?_
    go_simp
    go_at_call 24; refine (HI.out _).mono ?_; rintro e w1 ⟨rfl, rfl⟩
    go_wp2_with fail
    refine hK.out _ _ (SteadyAll.of qL) (fun hHeld => ?_)
    clear hK K
    refine qS [3, 4, 5, 6, 7, 8, 9, 10, 11, 12, 13, 14, 15, 16, 17, 18, 19] ?_
    iterate 17 (refine qT ?_; simp only [Act.put, qY])
    refine TakeSeq.done ?_
    refine qD ?_ _
    go_wp2_with fail
    exact bodyPost_ret (results_tmp rfl _ _ _) rfl ⟨rfl, qL⟩
def Sq.St.tA (s : Sq.St) : Bool := !inB s.kind 6 8 || (!decide (s.last < s.key) && !decide (4294967294 < s.last))
def Sq.St.tB (s : Sq.St) : Bool := inB s.col 0 2 && inB s.wcol 0 2 && inB s.wop 0 6 && inB s.limit 0 64
def Sq.St.tC (s : Sq.St) : Bool := !decide (s.wop = 0) || s.bare
def Sq.St.tD (s : Sq.St) : Bool := !decide (s.kind = 9) || decide (0 < s.wop)
theorem Sq.St.refValid_eq (s : Sq.St) (hk : 1 ≤ s.kind ∧ s.kind ≤ 9) (k1 : decide (s.key < 1) = false) (k2 : decide (4294967294 < s.key) = false) : s.refValid = (s.same s.only && s.tA && s.tB && s.tC && s.tD) := by
  have hs : (s.only.same s) = (s.same s.only) := by
    rw [Bool.eq_iff_iff, Sq.St.same_iff, Sq.St.same_iff]
    exact eq_comm
  have e1 : decide (1 ≤ s.kind) = true := by simp [hk.1]
  have e2 : decide (s.kind ≤ 9) = true := by simp [hk.2]
  have e3 : decide (1 ≤ s.key) = true := by simp at k1; simp; omega
  have e4 : decide (s.key ≤ Sq.maxKey) = true := decide_eq_true (by have := of_decide_eq_false k2; unfold Sq.maxKey; omega)
  have e5 : (!decide (s.last < s.key)) = decide (s.key ≤ s.last) := by rw [← decide_not]; congr 1; simp
  have e6 : (!decide (4294967294 < s.last)) = decide (s.last ≤ Sq.maxKey) := by rw [← decide_not]; congr 1; simp [Sq.maxKey]
  unfold Sq.St.tA Sq.St.tB Sq.St.tC Sq.St.tD
  rw [← hs, e5, e6]
  unfold Sq.St.refValid
  rw [e1, e2, e3, e4]
  simp only [Bool.true_and, inB, Sq.St.only, Bool.and_assoc]
theorem refVs_rest (s : Sq.St) (hk : 1 ≤ s.kind ∧ s.kind ≤ 9) (k1 : decide (s.key < 1) = false) (k2 : decide (4294967294 < s.key) = false) (w : World) : Calls Tryz.prog 23 #[.agg s.arr] w (VsPost s w) := by
  have HQ := hid (s.refValid_eq hk k1 k2)
  have e19 : inB s.kind 1 9 = true := by simp [inB]; omega
  have HI : Hid (∀ W, Calls Tryz.prog 24 #[.int .i64 s.kind, .int .i64 1, .int .i64 9] W fun e w' => e = .returned (.bool true) ∧ W = w') := hid (fun W => by have h := refIn s.kind 1 9 W; rwa [e19] at h)
  obtain ⟨p, hv⟩ : ∃ p, s.only = p := ⟨_, rfl⟩
  obtain ⟨q, hq⟩ : ∃ q, s.same s.only = q := ⟨_, rfl⟩
  have HP : Hid (∀ W, Calls Tryz.prog 39 #[.agg s.arr] W fun e w' => e = .returned (.agg p.arr) ∧ Below W.heap.size W w') := hid (fun W => by have h := refPlain s hk.1 hk.2 W; unfold PlainPost at h; rwa [hv] at h)
  have ne : ∀ W, (binOp .neq 62 (.agg s.arr) (.agg p.arr)).run Tryz.prog W = .ok (.bool (!q)) W := fun W => by rw [← hv, neq_stmt, hq]
  rw [hq] at HQ
  clear hk e19 hv hq
  unfold VsPost
  unfold Sq.St.arr at HP ne ⊢
  have HIN := hid (fun n lo hi W => refIn n lo hi W)
  cases q
  · have e0 : s.refValid = false := HQ.out
    have HF := hid e0
    clear e0 HQ
    go_enter Tryz.func23, Tryz.ntmps23
    go_wp2_with fail
    refine qA fun hSt => ?_
    refine qS [0, 1] ?_
    iterate 2 (refine qT ?_; simp only [Act.put, qY])
    refine TakeSeq.done ?_
    refine qH 2 fun K hK => ?_
    go_simp
    go_at_call 24; refine (HI.out _).mono ?_; rintro e w9 ⟨rfl, rfl⟩
    go_wp2_with fail
    refine hK.out _ _ (SteadyAll.of qL) (fun hHeld => ?_)
    clear hK K
    refine qS [3, 4, 5, 6, 7, 8, 9, 10, 11, 12, 13, 14, 15, 16] ?_
    iterate 14 (refine qT ?_; simp only [Act.put, qY])
    refine TakeSeq.done ?_
    refine qH 17 fun K hK => ?_
    go_simp
    go_at_call 39; refine (HP.out _).mono ?_; rintro e w1 ⟨rfl, hb⟩; ((obtain ⟨hc1, hf1, hs1⟩ := qR hb); (try have := qN0 w w1))
    go_wp2_with fail
    refine hK.out _ _ (SteadyAll.of qL) (fun hHeld => ?_)
    clear hK K
    refine qS [18, 19] ?_
    iterate 2 (refine qT ?_; simp only [Act.put, qY])
    refine TakeSeq.done ?_
    refine qD ?_ _
    go_wp2_with fail
    exact bodyPost_ret (results_tmp rfl _ _ _) rfl ⟨by rw [HF.out]; rfl, qL⟩
  · go_enter Tryz.func23, Tryz.ntmps23
    go_wp2_with fail
    refine qA fun hSt => ?_
    refine qS [0, 1] ?_
    iterate 2 (refine qT ?_; simp only [Act.put, qY])
    refine TakeSeq.done ?_
    refine qH 2 fun K hK => ?_
    go_simp
    go_at_call 24; refine (HI.out _).mono ?_; rintro e w9 ⟨rfl, rfl⟩
    go_wp2_with fail
    refine hK.out _ _ (SteadyAll.of qL) (fun hHeld => ?_)
    clear hK K
    refine qS [3, 4, 5, 6, 7, 8, 9, 10, 11, 12, 13, 14, 15, 16] ?_
    iterate 14 (refine qT ?_; simp only [Act.put, qY])
    refine TakeSeq.done ?_
    refine qH 17 fun K hK => ?_
    go_simp
    go_at_call 39; refine (HP.out _).mono ?_; rintro e w1 ⟨rfl, hb⟩; ((obtain ⟨hc1, hf1, hs1⟩ := qR hb); (try have := qN0 w w1))
    go_wp2_with fail
    refine hK.out _ _ (SteadyAll.of qL) (fun hHeld => ?_)
    clear hK K
    refine qS [18, 19] ?_
    iterate 2 (refine qT ?_; simp only [Act.put, qY])
    refine TakeSeq.done ?_
    refine qD ?_ _
    have hbw : Below w.heap.size w w1 := qL
    have BS : Blk w1 w.heap.size 62 #[.int .i64 s.kind, .int .u32 s.key, .int .u32 s.last, .int .i64 s.c0, .int .i64 s.c1, .int .i64 s.c2, .int .i64 s.col, .int .i64 s.value, .int .i64 s.wcol, .int .i64 s.wop, .int .i64 s.wval, .int .i64 s.limit] := ((Blk.made w _ _).drew).kept hb
    have kS := BS.cell
    have lS := BS.lt
    have HBW := hid hbw
    clear hbw BS hb hc1 hf1 ne HP HI k1 k2
    obtain ⟨tA, hA⟩ : ∃ a, s.tA = a := ⟨_, rfl⟩
    obtain ⟨tB, hB⟩ : ∃ a, s.tB = a := ⟨_, rfl⟩
    obtain ⟨tC, hC⟩ : ∃ a, s.tC = a := ⟨_, rfl⟩
    obtain ⟨tD, hD⟩ : ∃ a, s.tD = a := ⟨_, rfl⟩
    rw [hA, hB, hC, hD] at HQ
    have HT := hid (And.intro hA (And.intro hB (And.intro hC hD)))
    clear hA hB hC hD
    go_upto_region 3 with (fail)
    go_cut [37] from 23 to 37 (fun c wx => c = .bool (!tA) ∧ wx = w1)
    case first =>
      obtain ⟨m, hm⟩ : ∃ m, inB s.kind 6 8 = m := ⟨_, rfl⟩
      have H6 : Hid (∀ W, Calls Tryz.prog 24 #[.int .i64 s.kind, .int .i64 6, .int .i64 8] W fun e w' => e = .returned (.bool m) ∧ W = w') := hid (fun W => by have h := HIN.out s.kind 6 8 W; rwa [hm] at h)
      have HM : Hid (tA = (!m || (!decide (s.last < s.key) && !decide (4294967294 < s.last)))) := hid (by rw [← HT.out.1, ← hm]; rfl)
      clear hm HQ HT
      cases m
      · have HM2 : Hid (tA = true) := hid HM.out
        clear HM
        go_wp2_with fail
        go_at_call 24; refine (H6.out _).mono ?_; rintro e w2 ⟨rfl, rfl⟩
        go_wp2_with fail
        go_meet
        exact ⟨by rw [HM2.out]; rfl, rfl⟩
      · cases l1 : decide (s.last < s.key)
        · rw [l1] at HM
          cases l2 : decide (4294967294 < s.last)
          · rw [l2] at HM
            go_wp2_with fail
            go_at_call 24; refine (H6.out _).mono ?_; rintro e w2 ⟨rfl, rfl⟩
            go_wp2_with fail
            go_meet
            exact ⟨by rw [HM.out]; rfl, rfl⟩
          · rw [l2] at HM
            go_wp2_with fail
            go_at_call 24; refine (H6.out _).mono ?_; rintro e w2 ⟨rfl, rfl⟩
            go_wp2_with fail
            go_meet
            exact ⟨by rw [HM.out]; rfl, rfl⟩
        · rw [l1] at HM
          go_wp2_with fail
          go_at_call 24; refine (H6.out _).mono ?_; rintro e w2 ⟨rfl, rfl⟩
          go_wp2_with fail
          go_meet
          exact ⟨by rw [HM.out]; rfl, rfl⟩
    case rest =>
      obtain ⟨rfl, rfl⟩ := hcut
      cases tA
      · have e0 : s.refValid = false := HQ.out
        have HF := hid e0
        clear e0
        go_wp2_with fail
        exact bodyPost_ret (results_tmp rfl _ _ _) rfl ⟨by rw [HF.out]; rfl, HBW.out⟩
      · go_upto_region 5 with (fail)
        go_cut [61] from 38 to 61 (fun c wx => c = .bool (!tB) ∧ wx = wc)
        case first =>
          obtain ⟨m1, hm1⟩ : ∃ m, inB s.col 0 2 = m := ⟨_, rfl⟩
          obtain ⟨m2, hm2⟩ : ∃ m, inB s.wcol 0 2 = m := ⟨_, rfl⟩
          obtain ⟨m3, hm3⟩ : ∃ m, inB s.wop 0 6 = m := ⟨_, rfl⟩
          obtain ⟨m4, hm4⟩ : ∃ m, inB s.limit 0 64 = m := ⟨_, rfl⟩
          have H1 : Hid (∀ W, Calls Tryz.prog 24 #[.int .i64 s.col, .int .i64 0, .int .i64 2] W fun e w' => e = .returned (.bool m1) ∧ W = w') := hid (fun W => by have h := HIN.out s.col 0 2 W; rwa [hm1] at h)
          have H2 : Hid (∀ W, Calls Tryz.prog 24 #[.int .i64 s.wcol, .int .i64 0, .int .i64 2] W fun e w' => e = .returned (.bool m2) ∧ W = w') := hid (fun W => by have h := HIN.out s.wcol 0 2 W; rwa [hm2] at h)
          have H3 : Hid (∀ W, Calls Tryz.prog 24 #[.int .i64 s.wop, .int .i64 0, .int .i64 6] W fun e w' => e = .returned (.bool m3) ∧ W = w') := hid (fun W => by have h := HIN.out s.wop 0 6 W; rwa [hm3] at h)
          have H4 : Hid (∀ W, Calls Tryz.prog 24 #[.int .i64 s.limit, .int .i64 0, .int .i64 64] W fun e w' => e = .returned (.bool m4) ∧ W = w') := hid (fun W => by have h := HIN.out s.limit 0 64 W; rwa [hm4] at h)
          have HM : Hid (tB = (m1 && m2 && m3 && m4)) := hid (by rw [← HT.out.2.1, ← hm1, ← hm2, ← hm3, ← hm4]; rfl)
          clear hm1 hm2 hm3 hm4 HQ HT
          cases m1
          · go_wp2_with fail
            go_at_call 24; refine (H1.out _).mono ?_; rintro e w2 ⟨rfl, rfl⟩
            go_wp2_with fail
            go_meet
            exact ⟨by rw [HM.out]; rfl, rfl⟩
          · cases m2
            · go_wp2_with fail
              go_at_call 24; refine (H1.out _).mono ?_; rintro e w2 ⟨rfl, rfl⟩
              go_wp2_with fail
              go_at_call 24; refine (H2.out _).mono ?_; rintro e w2 ⟨rfl, rfl⟩
              go_wp2_with fail
              go_meet
              exact ⟨by rw [HM.out]; rfl, rfl⟩
            · cases m3
              · go_wp2_with fail
                go_at_call 24; refine (H1.out _).mono ?_; rintro e w2 ⟨rfl, rfl⟩
                go_wp2_with fail
                go_at_call 24; refine (H2.out _).mono ?_; rintro e w2 ⟨rfl, rfl⟩
                go_wp2_with fail
                go_at_call 24; refine (H3.out _).mono ?_; rintro e w2 ⟨rfl, rfl⟩
                go_wp2_with fail
                go_meet
                exact ⟨by rw [HM.out]; rfl, rfl⟩
              · go_wp2_with fail
                go_at_call 24; refine (H1.out _).mono ?_; rintro e w2 ⟨rfl, rfl⟩
                go_wp2_with fail
                go_at_call 24; refine (H2.out _).mono ?_; rintro e w2 ⟨rfl, rfl⟩
                go_wp2_with fail
                go_at_call 24; refine (H3.out _).mono ?_; rintro e w2 ⟨rfl, rfl⟩
                go_wp2_with fail
                go_at_call 24; refine (H4.out _).mono ?_; rintro e w2 ⟨rfl, rfl⟩
                cases m4
                · go_wp2_with fail
                  go_meet
                  exact ⟨by rw [HM.out]; rfl, rfl⟩
                · go_wp2_with fail
                  go_meet
                  exact ⟨by rw [HM.out]; rfl, rfl⟩
        case rest =>
          obtain ⟨rfl, rfl⟩ := hcut
          cases tB
          · have e0 : s.refValid = false := HQ.out
            have HF := hid e0
            clear e0
            go_wp2_with fail
            exact bodyPost_ret (results_tmp rfl _ _ _) rfl ⟨by rw [HF.out]; rfl, HBW.out⟩
          · go_upto_region 7 with (fail)
            go_cut [71] from 62 to 71 (fun c wx => c = .bool (!tC) ∧ wx = wc)
            case first =>
              obtain ⟨z, hz⟩ : ∃ m, s.bare = m := ⟨_, rfl⟩
              have ne : ∀ W, (binOp .neq 60 (.agg #[.int .i64 s.wcol, .int .i64 s.wop, .int .i64 s.wval]) (.agg #[.int .i64 0, .int .i64 0, .int .i64 0])).run Tryz.prog W = .ok (.bool (!z)) W := fun W => by rw [neq_cond29, ← hz]; rfl
              have HM : Hid (tC = (!(s.wop == 0) || z)) := hid (by rw [← HT.out.2.2.1, ← hz]; rfl)
              clear hz HQ HT
              cases hw : (s.wop == 0)
              · rw [hw] at HM
                clear ne
                go_wp2_with fail
                go_meet
                exact ⟨by rw [HM.out]; rfl, rfl⟩
              · rw [hw] at HM
                go_wp2_with fail
                go_meet
                exact ⟨by rw [HM.out]; rfl, rfl⟩
            case rest =>
              obtain ⟨rfl, rfl⟩ := hcut
              cases tC
              · have e0 : s.refValid = false := HQ.out
                have HF := hid e0
                clear e0
                go_wp2_with fail
                exact bodyPost_ret (results_tmp rfl _ _ _) rfl ⟨by rw [HF.out]; rfl, HBW.out⟩
              · have HF : Hid (s.refValid = ((s.kind != 9) || decide (0 < s.wop))) := hid (by rw [HQ.out, ← HT.out.2.2.2]; rfl)
                clear HQ HT
                cases h9 : (s.kind != 9)
                · rw [h9] at HF
                  go_wp2_with fail
                  exact bodyPost_ret (results_tmp rfl _ _ _) rfl ⟨by rw [HF.out]; rfl, HBW.out⟩
                · rw [h9] at HF
                  go_wp2_with fail
                  exact bodyPost_ret (results_tmp rfl _ _ _) rfl ⟨by rw [HF.out]; rfl, HBW.out⟩
theorem refValidStatement (s : Sq.St) (w : World) : Calls Tryz.prog 23 #[.agg s.arr] w (VsPost s w) := by
  by_cases hk : 1 ≤ s.kind ∧ s.kind ≤ 9
  · cases k1 : decide (s.key < 1)
    · cases k2 : decide (4294967294 < s.key)
      · exact refVs_rest s hk k1 k2 w
      · exact refVs_key s hk false k1 (fun _ => k2) w
    · exact refVs_key s hk true k1 (fun h => by cases h) w
  · exact refVs_kind s hk w
def VpPost (l : List Sq.St) (w : World) (e : Ending) (w' : World) : Prop := e = .returned (.bool (Sq.good l)) ∧ Below w.heap.size w w'
theorem all_valid (l : List Sq.St) : l.all Sq.St.valid = l.all Sq.St.refValid := by
  congr 1
  funext s
  exact Sq.valid_ref s
theorem refValidProgram (p : Option Addr) (c n : Nat) (l : List Sq.St) (hl : l.length = n) (hn : n ≤ maxLen) (w : World) (hr : StmRow w p l) : Calls Tryz.prog 12 #[.slice p n c] w (VpPost l w) := by
  by_cases h : n < 1 ∨ 8 < n
  · have HG : Hid (Sq.good l = false) := hid (by
      unfold Sq.good
      rcases h with h | h
      · rw [decide_eq_false (by omega)]; rfl
      · rw [decide_eq_false (p := l.length ≤ 8) (by omega)]; simp)
    obtain ⟨cc, hc⟩ : ∃ b, decide ((n : Int) < 1) = b := ⟨_, rfl⟩
    have hc2 : cc = false → decide (8 < (n : Int)) = true := fun h => by subst h; have := of_decide_eq_false hc; simp; omega
    clear hl hn h hr
    cases cc
    · have hc2 := hc2 rfl
      go_enter Tryz.func12, Tryz.ntmps12
      go_wp2_with fail
      exact bodyPost_ret (results_tmp rfl _ _ _) rfl ⟨by rw [HG.out]; rfl, qL⟩
    · clear hc2
      go_enter Tryz.func12, Tryz.ntmps12
      go_wp2_with fail
      exact bodyPost_ret (results_tmp rfl _ _ _) rfl ⟨by rw [HG.out]; rfl, qL⟩
  · obtain ⟨b, o, hp, hlt, hc⟩ : ∃ b o, p = some ⟨b, o, none⟩ ∧ b < w.heap.size ∧ ∀ (i : Nat) s, l[i]? = some s → ∀ (j : Nat) u, s.arr[j]? = some u → w.cell? ⟨b, o + i * 12 + j, none⟩ = some u := by
      rcases hr.row with h0 | h0
      · subst h0; simp at hl; omega
      · exact h0
    subst hp
    have n1 : decide ((n : Int) < 1) = false := by simp; omega
    have n8 : decide (8 < (n : Int)) = false := by simp; omega
    have hn8 : 1 ≤ n ∧ n ≤ 8 := by omega
    have HL := hid (And.intro hl hc)
    have HV := hid (fun s W => refValidStatement s W)
    clear hl hr hc h
    go_enter Tryz.func12, Tryz.ntmps12
    go_wp2_with fail
    go_loopw [3] (fun i wr => ∃ (k : Nat), i = .int .i64 k ∧ k ≤ n ∧ Hid ((l.take k).all Sq.St.refValid = true ∧ Below w.heap.size w wr)) (fun i _ => ((n : Int) - intOf i).toNat)
    case atStart => exact ⟨0, rfl, by omega, hid ⟨by simp, Below.refl _ _⟩⟩
    case round =>
      obtain ⟨k, rfl, hkn, HR⟩ := hrel
      obtain ⟨w2, hw2⟩ : ∃ w2, w2 = wr := ⟨_, rfl⟩
      subst hw2
      by_cases hk : k < n
      · have b1 : decide ((k : Int) < n) = true := by simp; omega
        have wk : IntKind.i64.wrap ((k : Int) + 1) = (k : Int) + 1 := by rw [IntKind.wrap_i64]; omega
        have k4 : decide ((k : Int) < 0) = false := by simp
        have k5 : (0 : Int) ≤ k := by omega
        have k6 : (k : Int) < n := by omega
        obtain ⟨s, hs⟩ : ∃ s, l[k]? = some s := ⟨_, List.getElem?_eq_getElem (by have := HL.out.1; omega)⟩
        have hcs : ∀ (j : Nat) u, s.arr[j]? = some u → w2.cell? ⟨b, o + k * 12 + j, none⟩ = some u := fun j u hu => (HR.out.2.cell (p := ⟨b, o + k * 12 + j, none⟩) hlt).trans (HL.out.2 k s hs j u hu)
        have d0 : w2.cell? ⟨b, o + k * 12, none⟩ = some (.int .i64 s.kind) := hcs 0 _ rfl
        have d1 : w2.cell? ⟨b, o + k * 12 + 1, none⟩ = some (.int .u32 s.key) := hcs 1 _ rfl
        have d2 : w2.cell? ⟨b, o + k * 12 + 2, none⟩ = some (.int .u32 s.last) := hcs 2 _ rfl
        have d3 : w2.cell? ⟨b, o + k * 12 + 3, none⟩ = some (.int .i64 s.c0) := hcs 3 _ rfl
        have d4 : w2.cell? ⟨b, o + k * 12 + 4, none⟩ = some (.int .i64 s.c1) := hcs 4 _ rfl
        have d5 : w2.cell? ⟨b, o + k * 12 + 5, none⟩ = some (.int .i64 s.c2) := hcs 5 _ rfl
        have d6 : w2.cell? ⟨b, o + k * 12 + 6, none⟩ = some (.int .i64 s.col) := hcs 6 _ rfl
        have d7 : w2.cell? ⟨b, o + k * 12 + 7, none⟩ = some (.int .i64 s.value) := hcs 7 _ rfl
        have d8 : w2.cell? ⟨b, o + k * 12 + 8, none⟩ = some (.int .i64 s.wcol) := hcs 8 _ rfl
        have d9 : w2.cell? ⟨b, o + k * 12 + 9, none⟩ = some (.int .i64 s.wop) := hcs 9 _ rfl
        have d10 : w2.cell? ⟨b, o + k * 12 + 10, none⟩ = some (.int .i64 s.wval) := hcs 10 _ rfl
        have d11 : w2.cell? ⟨b, o + k * 12 + 11, none⟩ = some (.int .i64 s.limit) := hcs 11 _ rfl
        have hob : b < w2.heap.size := Nat.lt_of_lt_of_le hlt HR.out.2.size
        obtain ⟨ok, hok⟩ : ∃ v, s.refValid = v := ⟨_, rfl⟩
        have HVS : Hid (∀ W, Calls Tryz.prog 23 #[.agg #[.int .i64 s.kind, .int .u32 s.key, .int .u32 s.last, .int .i64 s.c0, .int .i64 s.c1, .int .i64 s.c2, .int .i64 s.col, .int .i64 s.value, .int .i64 s.wcol, .int .i64 s.wop, .int .i64 s.wval, .int .i64 s.limit]] W fun e w' => e = .returned (.bool ok) ∧ Below W.heap.size W w') := hid (fun W => by have h := HV.out s W; unfold VsPost at h; rw [hok] at h; exact h)
        have HS := hid (And.intro hs hok)
        clear hcs hs hok
        go_wp2_with fail
        go_at_call 23
        refine (HVS.out _).mono ?_
        rintro e w3 ⟨rfl, hb3⟩
        have HB := hid (below_step HR.out.2 hb3)
        clear hb3 d0 d1 d2 d3 d4 d5 d6 d7 d8 d9 d10 d11
        cases ok
        · have HG : Hid (Sq.good l = false) := hid (by
            have h : l.all Sq.St.refValid = false := by rw [List.all_eq_false]; exact ⟨s, List.mem_of_getElem? HS.out.1, by simp [HS.out.2]⟩
            unfold Sq.good
            rw [all_valid, h, Bool.and_false])
          go_wp2_with fail
          exact bodyPost_ret (results_tmp rfl _ _ _) rfl ⟨by rw [HG.out]; rfl, HB.out⟩
        · go_wp2_with fail
          exact ⟨⟨k + 1, by simp, by omega, hid ⟨(by
            obtain ⟨hlt', he⟩ := List.getElem?_eq_some_iff.1 HS.out.1
            rw [List.take_succ_eq_append_getElem hlt', List.all_append, HR.out.1, he]
            simp [HS.out.2]), HB.out⟩⟩, by simp [intOf]; omega⟩
      · have b1 : decide ((k : Int) < n) = false := by simp; omega
        obtain rfl : k = n := by omega
        have HG : Hid (Sq.good l = true) := hid (by
          have h := HR.out.1
          rw [List.take_of_length_le (by have := HL.out.1; omega)] at h
          have h1 := HL.out.1
          unfold Sq.good
          rw [all_valid, h, h1]
          simp
          omega)
        go_wp2_with fail
        exact bodyPost_ret (results_tmp rfl _ _ _) rfl ⟨by rw [HG.out]; rfl, HR.out.2⟩
def refFit (s : Sq.St) (a : Int) (snap : Bool) : Bool := !(((decide (6 ≤ s.kind) && decide (s.kind ≤ 8)) != (a == 3)) || decide (a < 1) || decide (3 < a) || (snap && s.wr))
theorem refFit_eq (s : Sq.St) (a : Int) (snap : Bool) : s.fit a snap = refFit s a snap := by
  unfold Sq.St.fit refFit Sq.St.range
  obtain ⟨x, hx⟩ : ∃ x, (snap && s.wr) = x := ⟨_, rfl⟩
  rw [hx]
  by_cases hr : 6 ≤ s.kind ∧ s.kind ≤ 8
  · have e1 : (s.kind == 6 || s.kind == 7 || s.kind == 8) = true := by
      rcases (by omega : s.kind = 6 ∨ s.kind = 7 ∨ s.kind = 8) with h | h | h <;> simp [h]
    rw [e1, decide_eq_true hr.1, decide_eq_true hr.2]
    by_cases h3 : a = 3
    · subst h3; cases x <;> rfl
    · have e2 : (a == 3) = false := by simpa using h3
      have e3 : (a != 3) = true := by simpa using h3
      rw [e2, e3]; cases x <;> rfl
  · have e1 : (s.kind == 6 || s.kind == 7 || s.kind == 8) = false := by
      rw [Bool.eq_false_iff]
      intro h
      simp at h
      omega
    have e0 : (decide (6 ≤ s.kind) && decide (s.kind ≤ 8)) = false := by
      rw [Bool.eq_false_iff]
      intro h
      simp at h
      omega
    rw [e1, e0]
    by_cases h1 : a = 1
    · subst h1; cases x <;> rfl
    · by_cases h2 : a = 2
      · subst h2; cases x <;> rfl
      · have f1 : (a == 1) = false := by simpa using h1
        have f2 : (a == 2) = false := by simpa using h2
        rw [f1, f2]
        by_cases h3 : a = 3
        · subst h3; cases x <;> rfl
        · have f3 : (a == 3) = false := by simpa using h3
          rw [f3]
          by_cases h4 : a < 1
          · rw [decide_eq_true h4]; cases x <;> rfl
          · rw [decide_eq_false h4, decide_eq_true (p := 3 < a) (by omega)]; cases x <;> rfl
def VrPost (j : Jb) (w : World) (e : Ending) (w' : World) : Prop := e = .returned (.bool j.ok) ∧ Below w.heap.size w w'
theorem refValidJob (j : Jb) (p pa : Option Addr) (c ca n na : Nat) (hn : j.prog.length = n) (hna : j.acc.length = na) (hnm : n ≤ maxLen) (hnam : na ≤ maxLen) (w : World) (hr : StmRow w p j.prog) (ha : AskRow w pa j.acc) :
    Calls Tryz.prog 6 #[.agg (j.cells (.slice p n c) (.slice pa na ca))] w (VrPost j w) := by
  obtain ⟨gd, hgd⟩ : ∃ b, Sq.good j.prog = b := ⟨_, rfl⟩
  have HVP : Hid (∀ W, Below w.heap.size w W → Calls Tryz.prog 12 #[.slice p n c] W fun e w' => e = .returned (.bool gd) ∧ Below W.heap.size W w') := hid (fun W hb => by
    have h := refValidProgram p c n j.prog hn hnm W (hr.below hb)
    unfold VpPost at h
    rwa [hgd] at h)
  have HWR := hid (fun s W => refWrites s W)
  have HJ := hid (And.intro hn (And.intro hna (And.intro hr ha)))
  obtain ⟨HH, hHH⟩ : ∃ b, j.head = b := ⟨_, rfl⟩
  have HOKe : Hid (j.ok = (HH && gd && decide (na = n) && fits j.prog j.acc j.snap)) := hid (by unfold Jb.ok; rw [hgd, hn, hna, hHH])
  have HHD := hid hHH
  have HGD := hid hgd
  clear hn hna hr ha hgd hHH
  obtain ⟨jc, js, jl, jp, ja, jn, v0, v1, v2, v3, v4, v5⟩ := j
  unfold Jb.cells
  simp only at HOKe HHD HJ HGD ⊢
  go_enter Tryz.func6, Tryz.ntmps6
  go_upto_region 1 with (fail)
  refine wp_name (fun W' => Blk W' w.heap.size 39 #[.int .i64 jc, .int .i64 js, .int .i64 jl, .slice p n c, .slice pa na ca, .bool jn, .int .u64 v0, .int .u64 v1, .int .u64 v2, .int .u64 v3, .int .u64 v4, .int .u64 v5] ∧ Below w.heap.size w W') ⟨Blk.made w _ _, qL⟩ (fun w0 HB => ?_)
  have kj := HB.out.1.cell
  have lj := HB.out.1.lt
  go_cut [33] from 6 to 33 (fun c wx => c = .bool (!HH) ∧ wx = w0)
  case first =>
    cases t0 : decide (jc < 0)
    · cases t1 : decide (6 ≤ jc)
      · cases t2 : decide (js < 1)
        · cases t3 : decide (1073741824 ≤ js)
          · cases t4 : decide (jl < 104)
            · cases t5 : decide (256 < jl)
              · have HE : Hid (HH = true) := hid (by rw [← HHD.out]; simp only [Jb.head, t0, t1, t2, t3, t4, t5]; rfl)
                clear HHD HOKe
                go_wp2_with fail
                go_meet
                exact ⟨by rw [HE.out]; rfl, rfl⟩
              · have HE : Hid (HH = false) := hid (by rw [← HHD.out]; simp only [Jb.head, t0, t1, t2, t3, t4, t5]; simp)
                clear HHD HOKe
                go_wp2_with fail
                go_meet
                exact ⟨by rw [HE.out]; rfl, rfl⟩
            · have HE : Hid (HH = false) := hid (by rw [← HHD.out]; simp only [Jb.head, t0, t1, t2, t3, t4]; simp)
              clear HHD HOKe
              go_wp2_with fail
              go_meet
              exact ⟨by rw [HE.out]; rfl, rfl⟩
          · have HE : Hid (HH = false) := hid (by rw [← HHD.out]; simp only [Jb.head, t0, t1, t2, t3]; simp)
            clear HHD HOKe
            go_wp2_with fail
            go_meet
            exact ⟨by rw [HE.out]; rfl, rfl⟩
        · have HE : Hid (HH = false) := hid (by rw [← HHD.out]; simp only [Jb.head, t0, t1, t2]; simp)
          clear HHD HOKe
          go_wp2_with fail
          go_meet
          exact ⟨by rw [HE.out]; rfl, rfl⟩
      · have HE : Hid (HH = false) := hid (by rw [← HHD.out]; simp only [Jb.head, t0, t1]; simp)
        clear HHD HOKe
        go_wp2_with fail
        go_meet
        exact ⟨by rw [HE.out]; rfl, rfl⟩
    · have HE : Hid (HH = false) := hid (by rw [← HHD.out]; simp only [Jb.head, t0]; simp)
      clear HHD HOKe
      go_wp2_with fail
      go_meet
      exact ⟨by rw [HE.out]; rfl, rfl⟩
  case rest =>
    obtain ⟨rfl, hw⟩ := hcut
    have hw2 := hw.symm
    clear hw
    subst hw2
    cases HH
    · have HF : Hid (Jb.ok ⟨jc, js, jl, jp, ja, jn, v0, v1, v2, v3, v4, v5⟩ = false) := hid (by rw [HOKe.out]; rfl)
      go_wp2_with fail
      exact bodyPost_ret (results_tmp rfl _ _ _) rfl ⟨by rw [HF.out]; rfl, HB.out.2⟩
    · cases gd
      · have HF : Hid (Jb.ok ⟨jc, js, jl, jp, ja, jn, v0, v1, v2, v3, v4, v5⟩ = false) := hid (by rw [HOKe.out]; rfl)
        go_wp2_with fail
        go_at_call 12
        refine (HVP.out _ HB.out.2).mono ?_
        rintro e w1 ⟨rfl, hb1⟩
        have HB1 := hid (below_step HB.out.2 hb1)
        clear hb1
        go_wp2_with fail
        exact bodyPost_ret (results_tmp rfl _ _ _) rfl ⟨by rw [HF.out]; rfl, HB1.out⟩
      · cases tn : ((na : Int) != n)
        rotate_left 1
        · have hq : ¬(na = n) := by simp at tn; omega
          have HF : Hid (Jb.ok ⟨jc, js, jl, jp, ja, jn, v0, v1, v2, v3, v4, v5⟩ = false) := hid (by rw [HOKe.out, decide_eq_false hq]; rfl)
          clear hq
          go_wp2_with fail
          go_at_call 12
          refine (HVP.out _ HB.out.2).mono ?_
          rintro e w1 ⟨rfl, hb1⟩
          ((obtain ⟨hc1, hf1, hs1⟩ := qR hb1); (try have := qN0 w0 w1))
          have HB1 := hid (below_step HB.out.2 hb1)
          clear hb1
          go_wp2_with fail
          exact bodyPost_ret (results_tmp rfl _ _ _) rfl ⟨by rw [HF.out]; rfl, HB1.out⟩
        · have hna : na = n := by simp at tn; omega
          subst hna
          have hn8 : 1 ≤ na ∧ na ≤ 8 := by
            have h2 := HGD.out
            have h3 := HJ.out.1
            simp only [Sq.good, Bool.and_eq_true, decide_eq_true_eq] at h2
            omega
          have HOK2 : Hid (Jb.ok ⟨jc, js, jl, jp, ja, jn, v0, v1, v2, v3, v4, v5⟩ = fits jp ja jn) := hid (by rw [HOKe.out, decide_eq_true rfl]; rfl)
          obtain ⟨ob, oo, hp, holt, hoc⟩ : ∃ b o, p = some ⟨b, o, none⟩ ∧ b < w.heap.size ∧ ∀ (i : Nat) s, jp[i]? = some s → ∀ (j : Nat) u, s.arr[j]? = some u → w.cell? ⟨b, o + i * 12 + j, none⟩ = some u := by
            rcases HJ.out.2.2.1.row with h | h
            · subst h; have := HJ.out.1; simp at this; omega
            · exact h
          obtain ⟨ab, ao, hpa, halt, hac⟩ : ∃ b o, pa = some ⟨b, o, none⟩ ∧ b < w.heap.size ∧ ∀ (i : Nat) (a : Int), ja[i]? = some a → w.cell? ⟨b, o + i, none⟩ = some (.int .i64 a) := by
            rcases HJ.out.2.2.2.row with h | h
            · subst h; have := HJ.out.2.1; simp at this; omega
            · exact h
          subst hp hpa
          have HC := hid (And.intro hoc hac)
          clear hoc hac HOKe
          go_wp2_with fail
          go_at_call 12
          refine (HVP.out _ HB.out.2).mono ?_
          rintro e w1 ⟨rfl, hb1⟩
          ((obtain ⟨hc1, hf1, hs1⟩ := qR hb1); (try have := qN0 w0 w1))
          have HB1 : Hid (Below w.heap.size w w1 ∧ Blk w1 w.heap.size 39 #[.int .i64 jc, .int .i64 js, .int .i64 jl, .slice (some ⟨ob, oo, none⟩) na c, .slice (some ⟨ab, ao, none⟩) na ca, .bool jn, .int .u64 v0, .int .u64 v1, .int .u64 v2, .int .u64 v3, .int .u64 v4, .int .u64 v5]) := hid ⟨below_step HB.out.2 hb1, HB.out.1.kept hb1⟩
          clear hb1
          go_wp2_with fail
          go_loopw [3] (fun i wr => ∃ (k : Nat), i = .int .i64 k ∧ k ≤ na ∧ Hid (fits (jp.take k) (ja.take k) jn = true ∧ Below w1.heap.size w1 wr)) (fun i _ => ((na : Int) - intOf i).toNat)
          case atStart => exact ⟨0, rfl, by omega, hid ⟨by simp [fits], Below.refl _ _⟩⟩
          case round =>
            obtain ⟨k, rfl, hkn, HR⟩ := hrel
            obtain ⟨w2, hw2⟩ : ∃ w2, w2 = wr := ⟨_, rfl⟩
            subst hw2
            have hwb : Below w.heap.size w w2 := by have h1 := HB1.out.1; have h2 := HR.out.2; exact qL
            have BJ2 := HB1.out.2.kept HR.out.2
            have kj2 := BJ2.cell
            have lj2 := BJ2.lt
            clear BJ2 kj
            by_cases hk : k < na
            · have b1 : decide ((k : Int) < na) = true := by simp; omega
              have wk : IntKind.i64.wrap ((k : Int) + 1) = (k : Int) + 1 := by rw [IntKind.wrap_i64]; omega
              have k4 : decide ((k : Int) < 0) = false := by simp
              have k5 : (0 : Int) ≤ k := by omega
              have k6 : (k : Int) < na := by omega
              obtain ⟨s, hs⟩ : ∃ s, jp[k]? = some s := ⟨_, List.getElem?_eq_getElem (by have := HJ.out.1; omega)⟩
              obtain ⟨a, has⟩ : ∃ a, ja[k]? = some a := ⟨_, List.getElem?_eq_getElem (by have := HJ.out.2.1; omega)⟩
              have hcs : ∀ (j : Nat) u, s.arr[j]? = some u → w2.cell? ⟨ob, oo + k * 12 + j, none⟩ = some u := fun j u hu => (hwb.cell (p := ⟨ob, oo + k * 12 + j, none⟩) holt).trans (HC.out.1 k s hs j u hu)
              have ca0 : w2.cell? ⟨ab, ao + k, none⟩ = some (.int .i64 a) := (hwb.cell (p := ⟨ab, ao + k, none⟩) halt).trans (HC.out.2 k a has)
              have d0 : w2.cell? ⟨ob, oo + k * 12, none⟩ = some (.int .i64 s.kind) := hcs 0 _ rfl
              have d1 : w2.cell? ⟨ob, oo + k * 12 + 1, none⟩ = some (.int .u32 s.key) := hcs 1 _ rfl
              have d2 : w2.cell? ⟨ob, oo + k * 12 + 2, none⟩ = some (.int .u32 s.last) := hcs 2 _ rfl
              have d3 : w2.cell? ⟨ob, oo + k * 12 + 3, none⟩ = some (.int .i64 s.c0) := hcs 3 _ rfl
              have d4 : w2.cell? ⟨ob, oo + k * 12 + 4, none⟩ = some (.int .i64 s.c1) := hcs 4 _ rfl
              have d5 : w2.cell? ⟨ob, oo + k * 12 + 5, none⟩ = some (.int .i64 s.c2) := hcs 5 _ rfl
              have d6 : w2.cell? ⟨ob, oo + k * 12 + 6, none⟩ = some (.int .i64 s.col) := hcs 6 _ rfl
              have d7 : w2.cell? ⟨ob, oo + k * 12 + 7, none⟩ = some (.int .i64 s.value) := hcs 7 _ rfl
              have d8 : w2.cell? ⟨ob, oo + k * 12 + 8, none⟩ = some (.int .i64 s.wcol) := hcs 8 _ rfl
              have d9 : w2.cell? ⟨ob, oo + k * 12 + 9, none⟩ = some (.int .i64 s.wop) := hcs 9 _ rfl
              have d10 : w2.cell? ⟨ob, oo + k * 12 + 10, none⟩ = some (.int .i64 s.wval) := hcs 10 _ rfl
              have d11 : w2.cell? ⟨ob, oo + k * 12 + 11, none⟩ = some (.int .i64 s.limit) := hcs 11 _ rfl
              have hob : ob < w2.heap.size := Nat.lt_of_lt_of_le holt hwb.size
              have hab : ab < w2.heap.size := Nat.lt_of_lt_of_le halt hwb.size
              obtain ⟨sc, hsc⟩ : ∃ b, (decide (6 ≤ s.kind) && decide (s.kind ≤ 8)) = b := ⟨_, rfl⟩
              obtain ⟨wr2, hwr2⟩ : ∃ b, s.wr = b := ⟨_, rfl⟩
              obtain ⟨ft, hft⟩ : ∃ b, s.fit a jn = b := ⟨_, rfl⟩
              have HWT : Hid (∀ W, Calls Tryz.prog 13 #[.agg #[.int .i64 s.kind, .int .u32 s.key, .int .u32 s.last, .int .i64 s.c0, .int .i64 s.c1, .int .i64 s.c2, .int .i64 s.col, .int .i64 s.value, .int .i64 s.wcol, .int .i64 s.wop, .int .i64 s.wval, .int .i64 s.limit]] W fun e w' => e = .returned (.bool wr2) ∧ Below W.heap.size W w') := hid (fun W => by have h := HWR.out s W; rwa [hwr2] at h)
              have HFT : Hid (ft = !((sc != (a == 3)) || decide (a < 1) || decide (3 < a) || (jn && wr2))) := hid (by rw [← hft, refFit_eq, ← hsc, ← hwr2]; rfl)
              have HS := hid (And.intro hs (And.intro has hft))
              have HSC := hid hsc
              clear hcs hsc hwr2 hft hs has
              go_upto_region 9 with (fail)
              go_cut [5] from 59 to 66 (fun c wx => c = .bool sc ∧ wx = w2.alloc (.cells #[.int .i64 s.kind, .int .u32 s.key, .int .u32 s.last, .int .i64 s.c0, .int .i64 s.c1, .int .i64 s.c2, .int .i64 s.col, .int .i64 s.value, .int .i64 s.wcol, .int .i64 s.wop, .int .i64 s.wval, .int .i64 s.limit] 62))
              case first =>
                cases r6 : decide (6 ≤ s.kind)
                · have HE : Hid (sc = false) := hid (by rw [← HSC.out, r6]; rfl)
                  go_wp2_with fail
                  go_meet
                  exact ⟨by rw [HE.out], rfl⟩
                · cases r8 : decide (s.kind ≤ 8)
                  · have HE : Hid (sc = false) := hid (by rw [← HSC.out, r6, r8]; rfl)
                    go_wp2_with fail
                    go_meet
                    exact ⟨by rw [HE.out], rfl⟩
                  · have HE : Hid (sc = true) := hid (by rw [← HSC.out, r6, r8]; rfl)
                    go_wp2_with fail
                    go_meet
                    exact ⟨by rw [HE.out], rfl⟩
              case rest =>
                obtain ⟨rfl, rfl⟩ := hcut
                clear d0 d1 d2 d3 d4 d5 d6 d7 d8 d9 d10 d11
                go_upto_region 10 with (fail)
                go_cut [98] from 67 to 98 (fun c wx => c = .bool (!ft) ∧ Below w2.heap.size w2 wx)
                case first =>
                  cases sc
                  · cases a3 : (a == 3)
                    · cases l1 : decide (a < 1)
                      · cases g3 : decide (3 < a)
                        · cases jn
                          · have HE : Hid (ft = true) := hid (by rw [HFT.out]; simp only [a3, l1, g3]; rfl)
                            clear HFT HSC
                            go_wp2_with fail
                            go_meet
                            exact ⟨by rw [HE.out]; rfl, qL⟩
                          · have HE : Hid (ft = !wr2) := hid (by rw [HFT.out]; simp only [a3, l1, g3]; cases wr2 <;> rfl)
                            clear HFT HSC
                            go_wp2_with fail
                            go_at_call 13
                            refine (HWT.out _).mono ?_
                            rintro e w3 ⟨rfl, hb3⟩
                            clear kj2
                            go_wp2_with fail
                            go_meet
                            exact ⟨by rw [HE.out, Bool.not_not], qL⟩
                        · have HE : Hid (ft = false) := hid (by rw [HFT.out]; simp only [a3, l1, g3]; rfl)
                          clear HFT HSC
                          go_wp2_with fail
                          go_meet
                          exact ⟨by rw [HE.out]; rfl, qL⟩
                      · have HE : Hid (ft = false) := hid (by rw [HFT.out]; simp only [a3, l1]; rfl)
                        clear HFT HSC
                        go_wp2_with fail
                        go_meet
                        exact ⟨by rw [HE.out]; rfl, qL⟩
                    · have HE : Hid (ft = false) := hid (by rw [HFT.out]; simp only [a3]; rfl)
                      clear HFT HSC
                      go_wp2_with fail
                      go_meet
                      exact ⟨by rw [HE.out]; rfl, qL⟩
                  · cases a3 : (a == 3)
                    · have HE : Hid (ft = false) := hid (by rw [HFT.out]; simp only [a3]; rfl)
                      clear HFT HSC
                      go_wp2_with fail
                      go_meet
                      exact ⟨by rw [HE.out]; rfl, qL⟩
                    · obtain rfl : a = 3 := by simpa using a3
                      cases jn
                      · have HE : Hid (ft = true) := hid (by rw [HFT.out]; rfl)
                        clear HFT HSC
                        go_wp2_with fail
                        go_meet
                        exact ⟨by rw [HE.out]; rfl, qL⟩
                      · have HE : Hid (ft = !wr2) := hid (by rw [HFT.out]; cases wr2 <;> rfl)
                        clear HFT HSC
                        go_wp2_with fail
                        go_at_call 13
                        refine (HWT.out _).mono ?_
                        rintro e w3 ⟨rfl, hb3⟩
                        clear kj2
                        go_wp2_with fail
                        go_meet
                        exact ⟨by rw [HE.out, Bool.not_not], qL⟩
                case rest =>
                  obtain ⟨rfl, hbc⟩ := hcut
                  have HBC := hid (And.intro (below_step hwb hbc) (below_step HR.out.2 hbc))
                  clear hbc
                  cases ft
                  · have HF : Hid (Jb.ok ⟨jc, js, jl, jp, ja, jn, v0, v1, v2, v3, v4, v5⟩ = false) := hid (by rw [HOK2.out, fits_false jn jp ja k s a HS.out.1 HS.out.2.1 HS.out.2.2])
                    go_wp2_with fail
                    exact bodyPost_ret (results_tmp rfl _ _ _) rfl ⟨by rw [HF.out]; rfl, HBC.out.1⟩
                  · go_wp2_with fail
                    exact ⟨⟨k + 1, by simp, by omega, hid ⟨by rw [fits_take jn jp ja k s a HS.out.1 HS.out.2.1, HR.out.1, HS.out.2.2]; rfl, HBC.out.2⟩⟩, by simp [intOf]; omega⟩
            · have b1 : decide ((k : Int) < na) = false := by simp; omega
              obtain rfl : k = na := by omega
              have HG : Hid (Jb.ok ⟨jc, js, jl, jp, ja, jn, v0, v1, v2, v3, v4, v5⟩ = true) := hid (by
                have h := HR.out.1
                rw [List.take_of_length_le (by have := HJ.out.1; omega), List.take_of_length_le (by have := HJ.out.2.1; omega)] at h
                rw [HOK2.out, h])
              go_wp2_with fail
              exact bodyPost_ret (results_tmp rfl _ _ _) rfl ⟨by rw [HG.out]; rfl, hwb⟩
end Go.Proofs.YtcoiehgcfjfhaaaGreatDoor
