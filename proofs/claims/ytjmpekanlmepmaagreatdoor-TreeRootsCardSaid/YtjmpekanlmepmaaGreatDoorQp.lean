/- From a walk that leaves everything below its own blocks alone to the row's post: shared by all laws of this seat. A page and a pointer among a law's arguments; the package's nil pointer, out of the row's 'laid'. The package's nil pointer, out of the row's 'laid'; an argument without memory reads as before. -/
import Derived.Test.YtjmpekanlmepmaaGreatDoorCards
import Derived.Test.YtjmpekanlmepmaaGreatDoorTie
import Derived.Test.YtjmpekanlmepmaaGreatDoorQa
import Derived.ProofKit
import Derived.OpenShut
import Derived.Deep.DeepHandedRow
import Derived.Lib.LaidTab
import Derived.Test.YtjmpekanlmepmaaGreatDoorQd
import Derived.Lib.SmallJoins
import Derived.Deep.Strs
import Derived.Carry
set_option linter.unusedVariables false
set_option linter.unusedSimpArgs false
set_option linter.unusedSectionVars false
set_option linter.constructorNameAsVariable false
namespace Go.Proofs.YtjmpekanlmepmaaGreatDoor
open Go.ChangeShapes Go.WideShapes Go.ChangeAt Go.RowKit

theorem own_knob : ownKnob Tryz.prog.godebug = none := by kernel_rfl

theorem arr1 {args : Array Value} {a : Value} (h : args.toList = [a]) : args = #[a] := Array.toList_inj.1 h
theorem arr2 {args : Array Value} {a b : Value} (h : args.toList = [a, b]) : args = #[a, b] := Array.toList_inj.1 h
theorem arr3 {args : Array Value} {a b c : Value} (h : args.toList = [a, b, c]) : args = #[a, b, c] := Array.toList_inj.1 h
theorem arr4 {args : Array Value} {a b c d : Value} (h : args.toList = [a, b, c, d]) : args = #[a, b, c, d] := Array.toList_inj.1 h

section
variable {H : Type} {enc : TypeId × Value → H} {P : Program}
/-- The row's post where the call leaves all that was there as it was. -/
theorem post_of_below {f : Func} {s : ChangeSpec} {apart fresh handsOn again : Bool} {W W' : World} {args : Array Value} {v : Value} {ds gs : List (DataW H)} {before pa pv : List MemPlace}
    (hW : DataW.Whole enc P f.params.toList s.vars apart W args.toList ds gs before)
    (hres : ∀ (b : Nat) (sp : Nat → Bool) (hd : Bool), DataW.TrodAll enc P W' b sp hd f.resultTypes.toList (v.resultList f.resultTypes.size) (s.fn H (ds ++ gs)).results [])
    (hargs : ∀ sp : Nat → Bool, (∀ p ∈ before, sp p.block = true) → DataW.TrodAll enc P W' 0 sp true f.params.toList args.toList (s.fn H (ds ++ gs)).args pa)
    (hvars : ∀ sp : Nat → Bool, (∀ p ∈ before, sp p.block = true) → DataW.TrodVars enc P W' sp s.vars (s.fn H (ds ++ gs)).vars pv)
    (hps : before = pa ++ pv) (hb : Below W.heap.size W W')
    (hok : ∀ (j : Nat) (t : TypeId) (r : Value), f.resultTypes[j]? = some t → (v.resultList f.resultTypes.size)[j]? = some r → Value.okWide P W' .any 0 t r) :
    s.post enc P f apart fresh handsOn again W args v W' := by
  have hold : ∀ p ∈ before, (fun b => decide (b < W.heap.size)) p.block = true := fun p hp => by simpa using hW.lt p hp
  have hwhole := hW
  obtain ⟨_, _, _, _, _, hz, hn⟩ := hwhole
  refine ⟨ds, gs, before, [], pa, pv, hW, hres _ _ _, hargs _ hold, hvars _ hold, World.keptBut_mono (fun p hp => ⟨hp, Or.inr (by rw [hps, List.mem_append] at hp; exact hp)⟩) (hb.frame (· ∈ before)), fun _ => ?_⟩
  refine ⟨hok, _, _, ([] ++ pa) ++ pv, ⟨[] ++ pa, pv, trodAll_append (hargs _ (fun _ _ => rfl)) (hres _ _ _), hvars _ (fun _ _ => rfl), rfl, ?_, ?_⟩, fun p hp _ => by rw [hps]; simpa using hp⟩
  · intro b off hp
    have hin : MemPlace.cell b off ∈ before := by rw [hps]; simpa using hp
    rw [hb.frozen (hW.lt _ hin)]
    exact hz b off hin
  · intro ha
    have h := hn ha
    rw [hps] at h
    simpa using h
end

end Go.Proofs.YtjmpekanlmepmaaGreatDoor
namespace Go.Proofs.YtjmpekanlmepmaaGreatDoor
open Go.ChangeShapes Go.WideShapes Go.ChangeAt Go.RowKit

theorem arr9 {cs : Array Value} (h : cs.size = 9) : ∃ c0 c1 c2 c3 c4 c5 c6 c7 c8, cs = #[c0, c1, c2, c3, c4, c5, c6, c7, c8] := by
  obtain ⟨l⟩ := cs
  match l, h with
  | [c0, c1, c2, c3, c4, c5, c6, c7, c8], _ => exact ⟨c0, c1, c2, c3, c4, c5, c6, c7, c8, rfl⟩
theorem cInt : Tryz.prog.cellsOf 3 = 1 := by kernel_rfl
theorem cWord : Tryz.prog.cellsOf 22 = 1 := by kernel_rfl
theorem cWords : Tryz.prog.cellsOf 23 = 7 := by kernel_rfl
theorem cPage : Tryz.prog.cellsOf 25 = 9 := by kernel_rfl
section
variable {H : Type} {enc : TypeId × Value → H} {w : World} {base : Nat} {spare : Nat → Bool} {held : Bool}
set_option maxRecDepth 100000
theorem open_ptr {r : Reach} {b0 : Nat} {v : Value} {d : DataW H} {p : List MemPlace} (hv : Value.okWide Tryz.prog w r b0 27 v) (h : DataW.Trod enc Tryz.prog w base spare held 27 v d p) :
    ∃ q : Bt.Ptr, v = .agg q.cells ∧ p = [] ∧ (-9223372036854775808 ≤ q.line ∧ q.line ≤ 9223372036854775807) ∧ (-9223372036854775808 ≤ q.gen ∧ q.gen ≤ 9223372036854775807) := by
  obtain ⟨v0, v1, y0, y1, n, rfl, rfl, rfl, h0, h1⟩ := Go.Joins.open_agg2 Tryz.underlying27 (by kernel_rfl) (by kernel_rfl) hv h
  obtain ⟨a, e0, rfl, wa⟩ := DataW.trod_int Tryz.underlying3 h0
  obtain ⟨b, e1, rfl, wb⟩ := DataW.trod_int Tryz.underlying3 h1
  simp only [List.cons.injEq, and_true] at e0 e1
  subst e0; subst e1
  exact ⟨⟨a, b⟩, rfl, rfl, bounds_i64 wa, bounds_i64 wb⟩

theorem open_page {r : Reach} {b0 : Nat} {v : Value} {d : DataW H} {p : List MemPlace} (hv : Value.okWide Tryz.prog w r b0 25 v) (h : DataW.Trod enc Tryz.prog w base spare held 25 v d p) :
    ∃ q : Bt.Page, v = .agg q.cells ∧ p = [] ∧ q.Ok ∧ (-9223372036854775808 ≤ q.line ∧ q.line ≤ 9223372036854775807) := by
  obtain ⟨cs, rfl, hsz⟩ := okWide_struct Tryz.underlying25 hv
  obtain ⟨fuel, hf⟩ := h
  obtain ⟨y0, y1, y2, n, hx, hl, h0, h1, h2⟩ := Go.Deep.trod_struct3 Tryz.underlying25 hf
  obtain ⟨a, e0, rfl, wa⟩ := DataW.trod_int Tryz.underlying3 h0
  obtain ⟨b, e1, rfl, wb⟩ := DataW.trod_int Tryz.underlying22 h1
  obtain ⟨c0, c1, c2, c3, c4, c5, c6, c7, c8, rfl⟩ := arr9 (hsz.trans cPage)
  obtain ⟨xs, m, _, rfl, hl2, hlen, hel⟩ := DataW.trod_array Tryz.underlying23 h2
  rw [cInt] at e0
  rw [cWord] at e1
  rw [cWords] at hel
  simp only [cWord, Value.cells] at hel
  have one : ∀ i (h : i < 7) (c : Value), ((List.take 7 [c2, c3, c4, c5, c6, c7, c8]).drop (i * 1)).take 1 = [c] → ∃ z, c = .int .u64 z ∧ (0 ≤ z ∧ z < 18446744073709551616) ∧ ∃ y, xs[i]? = some y ∧ y.2 = [] := by
    intro i h c hc
    have h3 := hel i h
    have h4 : xs[i]? = some (xs[i]'(by omega)) := List.getElem?_eq_getElem (by omega)
    rw [h4] at h3
    obtain ⟨z, ez, hy, wz⟩ := DataW.trod_int Tryz.underlying22 h3
    have ez' : [c] = [Value.int .u64 z] := hc.symm.trans ez
    simp only [List.cons.injEq, and_true] at ez'
    have := bounds_u64 wz
    exact ⟨z, ez', by omega, _, h4, by rw [hy]⟩
  obtain ⟨d0, rfl, w0, y0, hy0, z0⟩ := one 0 (by omega) c2 rfl
  obtain ⟨d1, rfl, w1, y1, hy1, z1⟩ := one 1 (by omega) c3 rfl
  obtain ⟨d2, rfl, w2, y2, hy2, z2⟩ := one 2 (by omega) c4 rfl
  obtain ⟨d3, rfl, w3, y3, hy3, z3⟩ := one 3 (by omega) c5 rfl
  obtain ⟨d4, rfl, w4, y4, hy4, z4⟩ := one 4 (by omega) c6 rfl
  obtain ⟨d5, rfl, w5, y5, hy5, z5⟩ := one 5 (by omega) c7 rfl
  obtain ⟨d6, rfl, w6, y6, hy6, z6⟩ := one 6 (by omega) c8 rfl
  have e0' : [c0] = [Value.int .i64 a] := e0
  have e1' : [c1] = [Value.int .u64 b] := e1
  simp only [List.cons.injEq, and_true] at e0' e1'
  subst e0'; subst e1'
  simp only [Prod.mk.injEq] at hx
  have hxs : xs.flatMap (·.2) = [] := by
    rw [List.flatMap_eq_nil_iff]
    intro y hy
    obtain ⟨i, hi, rfl⟩ := List.mem_iff_getElem.1 hy
    have hi7 : i < 7 := by omega
    match i, hi7 with
    | 0, _ => rw [List.getElem?_eq_getElem (by omega)] at hy0; rw [Option.some.inj hy0]; exact z0
    | 1, _ => rw [List.getElem?_eq_getElem (by omega)] at hy1; rw [Option.some.inj hy1]; exact z1
    | 2, _ => rw [List.getElem?_eq_getElem (by omega)] at hy2; rw [Option.some.inj hy2]; exact z2
    | 3, _ => rw [List.getElem?_eq_getElem (by omega)] at hy3; rw [Option.some.inj hy3]; exact z3
    | 4, _ => rw [List.getElem?_eq_getElem (by omega)] at hy4; rw [Option.some.inj hy4]; exact z4
    | 5, _ => rw [List.getElem?_eq_getElem (by omega)] at hy5; rw [Option.some.inj hy5]; exact z5
    | 6, _ => rw [List.getElem?_eq_getElem (by omega)] at hy6; rw [Option.some.inj hy6]; exact z6
  have wb' := bounds_u64 wb
  exact ⟨⟨a, b, d0, d1, d2, d3, d4, d5, d6⟩, rfl, by rw [hx.2]; simpa using hxs, ⟨by show 0 ≤ b ∧ b < _; omega, w0, w1, w2, w3, w4, w5, w6⟩, bounds_i64 wa⟩
end
end Go.Proofs.YtjmpekanlmepmaaGreatDoor
namespace Go.Proofs.YtjmpekanlmepmaaGreatDoor
open Go.ChangeShapes Go.WideShapes Go.ChangeAt Go.RowKit

set_option maxRecDepth 100000
theorem gNone : Tryz.prog.globalNamed "bodega/btree.none" = some 0 := by kernel_rfl
theorem gNoneType : (Tryz.prog.globals[0]?).map (·.type) = some 27 := by kernel_rfl
theorem none_at (W : World) (h : laidMetH Tryz.prog [("bodega/btree.none", Rows.laid_bodega_btree_none)] W) : NoneAt W := by
  have h' : laidMet Tryz.prog [("bodega/btree.none", Rows.laid_bodega_btree_none)] W := h
  obtain ⟨ps, ⟨g, t, cs, fuel, p, q, hg, ht, hvar, hd, _, _⟩, _⟩ := h'
  obtain rfl := Option.some.inj (gNone.symm.trans hg)
  obtain rfl := Option.some.inj (gNoneType.symm.trans ht)
  obtain ⟨y0, y1, n, hx, hl, h0, h1⟩ := Go.ChangeShapes.trod_struct2 Tryz.underlying27 hd
  obtain ⟨a, e0, rfl, _⟩ := DataW.trod_int Tryz.underlying3 h0
  obtain ⟨b, e1, rfl, _⟩ := DataW.trod_int Tryz.underlying3 h1
  simp only [Rows.laid_bodega_btree_none, Prod.mk.injEq, DataW.agg.injEq, List.cons.injEq, DataW.lit.injEq, Lit.int.injEq, true_and, and_true] at hx
  obtain ⟨⟨rfl, rfl⟩, _⟩ := hx
  rw [cInt] at e0 e1
  have c0 : cs[0]? = some (.int .i64 0) := by
    have := congrArg (·[0]?) e0
    simpa [List.getElem?_take, List.getElem?_drop] using this
  have c1 : cs[1]? = some (.int .i64 0) := by
    have := congrArg (·[0]?) e1
    simpa [List.getElem?_take, List.getElem?_drop] using this
  have k0 : W.cell? ⟨0, 0, none⟩ = some (.int .i64 0) := (World.var?_cell hg hvar 0).trans c0
  have k1 : W.cell? ⟨0, 1, none⟩ = some (.int .i64 0) := (World.var?_cell hg hvar 1).trans c1
  exact ⟨k0, k1, World.block_lt_of_cell? _ _ k0⟩

theorem laidOutA : laidOutB Tryz.prog = true := by kernel_rfl
theorem reads_same {H : Type} {enc : TypeId × Value → H} {t : TypeId} (hr : Tryz.prog.readableRec t = true) (hrow : t < Tryz.prog.types.size) {W W' : World} {v : Value} {d : DataW H} (h : DataW.Trod enc Tryz.prog W 0 (fun _ => true) true t v d []) (sp : Nat → Bool) :
    DataW.Trod enc Tryz.prog W' 0 sp true t v d [] :=
  WideElems.Trod_stays laidOutA hr hrow h (fun x hx => by cases hx) (fun x hx => by cases hx)
end Go.Proofs.YtjmpekanlmepmaaGreatDoor
