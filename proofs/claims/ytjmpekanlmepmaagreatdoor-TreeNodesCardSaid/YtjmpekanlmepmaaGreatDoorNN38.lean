/- For every page, node and number the program reads and writes nodes as the document says; no condition beside what the card lists. -/
import Derived.Test.YtjmpekanlmepmaaGreatDoorNN19
import Derived.Test.YtjmpekanlmepmaaGreatDoorNN37
import Derived.Test.YtjmpekanlmepmaaGreatDoorNN36
set_option linter.all false
set_option maxRecDepth 20000
set_option maxHeartbeats 8000000
namespace Go.Proofs.YtjmpekanlmepmaaGreatDoor.treeNodes
open Go.ChangeShapes Go.WideShapes Go.ChangeAt Go.RowKit
set_option maxRecDepth 100000 in
theorem contract (H : Type) (enc : TypeId × Value → H) (W : World) (base : Nat) (args : Array Value) (ds gs : List (DataW H)) (before : List MemPlace)
 (hval : ∀ (j : Nat) t v, Tryz.f12.params[j]? = some t → args[j]? = some v → Value.okWide Tryz.prog W .any base t v)
 (hW : DataW.Whole enc Tryz.prog Tryz.f12.params.toList Rows.treeNodesSpec.vars false W args.toList ds gs before) (hlaid : laidMetH Tryz.prog Rows.treeNodesRow.laid W) :
 Calls Tryz.prog 12 args W fun e W' => ∃ v, e = .returned v ∧ Rows.treeNodesSpec.post enc Tryz.prog Tryz.f12 false true false false W args v W' := by
 have hn : NoneAt W := none_at W hlaid
 have hW' := hW
 obtain ⟨p, q, hA0, hV, rfl, hfz, hnd⟩ := hW
 have hA : DataW.TrodAll enc Tryz.prog W 0 (fun _ => true) true Tryz.f12.params.toList args.toList ds p := hA0
 rw [Tryz.params12] at hA hval
 obtain ⟨v0, vs0, d0, ds0, p0, q0, hargs, rfl, rfl, h0, r0⟩ := trodAll_cons hA
 obtain ⟨v1, vs1, d1, ds1, p1, q1, rfl, rfl, rfl, h1, r1⟩ := trodAll_cons r0
 obtain ⟨v2, vs2, d2, ds2, p2, q2, rfl, rfl, rfl, h2, r2⟩ := trodAll_cons r1
 obtain ⟨rfl, rfl, rfl⟩ := trodAll_nil r2
 obtain rfl : args = #[v0, v1, v2] := arr3 hargs
 obtain ⟨rfl, rfl⟩ := trodVars_none hV
 obtain ⟨pg, rfl, rfl, hpo, _⟩ := open_page (hval 0 25 v0 rfl rfl) h0
 obtain ⟨nd, s, rfl, he, hto, hhigh, hlev, hrl, hrg⟩ := open_node (hval 1 73 v1 rfl rfl) h1
 obtain ⟨k, rfl, rfl, rfl, w2⟩ := open_int Tryz.underlying3 (hval 2 3 v2 rfl rfl) h2
 clear hA0
 have hlt := hW'.lt
 have hlong : nd.entries.length ≤ 9223372036854775807 := by
  rcases he.2 with h3 | h3
  ·rw [h3]; simp
  ·have := h3.len; unfold maxLen at this; omega
 refine (nodes_walk pg hpo nd s k hlev hrl hrg hhigh (bounds_i64 w2) W hn he hto hlong).mono fun e W' ⟨he', hb⟩ => ?_
 subst he'
 exact ⟨_, rfl, post_of_below (pa := [] ++ (p1 ++ ([] ++ []))) (pv := []) hW' (fun _ _ _ => trodAll_cons_mk (shut_bool Tryz.underlying4 _) trodAll_mk0)
  (fun sp hs => trodAll_cons_mk (reads_same (by kernel_rfl) (of_decide_eq_true (by kernel_rfl)) h0 sp) (trodAll_cons_mk (reads_anew (by kernel_rfl) (of_decide_eq_true (by kernel_rfl)) h1 hb (fun x hx => hlt x (by simp [hx])) (fun x hx => hs x (by simp [hx]))) (trodAll_cons_mk (shut_int Tryz.underlying3 w2) trodAll_mk0))) (fun _ _ => rfl) (by simp)
  hb (ok_one (by kernel_rfl) rfl (okWide_bool_mk Tryz.underlying4 _))⟩
def zp : Value := .agg #[.int .i64 0, .int .u64 0, .int .u64 0, .int .u64 0, .int .u64 0, .int .u64 0, .int .u64 0, .int .u64 0, .int .u64 0]
def zq : Value := .agg #[.int .i64 0, .bool false, .bool false, .int .u32 0, .int .i64 0, .int .i64 0, .slice none 0 0]
noncomputable def laidWorld (os : Os) : World := World.holding Tryz.prog os ⟨#[], #[], []⟩
theorem laid_met (os : Os) : laidMet Tryz.prog Rows.treeNodesRow.laid ((laidWorld os).forCall (fun _ _ => 0) ⟨#[], #[zp, zq, .int .i64 0], []⟩).memory :=
 laidMet_of_run' 8 (by kernel_rfl) (by kernel_rfl)
theorem reads (os : Os) {H : Type} (enc : TypeId × Value → H) : ∃ places, DataW.whole enc Tryz.prog ((laidWorld os).forCall (fun _ _ => 0) ⟨#[], #[zp, zq, .int .i64 0], []⟩).memory Tryz.f12.params.toList Rows.treeNodesSpec.vars false #[zp, zq, Value.int .i64 0].toList 8 =
 some ([.agg [.lit (.int .i64 0), .lit (.int .u64 0), .agg [.lit (.int .u64 0), .lit (.int .u64 0), .lit (.int .u64 0), .lit (.int .u64 0), .lit (.int .u64 0), .lit (.int .u64 0), .lit (.int .u64 0)]], .agg [.lit (.int .i64 0), .lit (.bool false), .lit (.bool false), .lit (.int .u32 0), .agg [.lit (.int .i64 0), .lit (.int .i64 0)], .nil], .lit (.int .i64 0)], [], places) :=
 ⟨[], by kernel_rfl⟩
set_option maxRecDepth 100000 in
theorem lifted (os : Os) (started : os.Started) (H : Type) (enc : TypeId × Value → H) (F : Stop.Interp) :
 ReturnsInHanded {} Tryz.checked os 12 .any ((OpenSpec.ofChange Rows.treeNodesSpec).preRow enc Tryz.prog Tryz.f12 Rows.treeNodesRow.domain false Rows.treeNodesRow.laid) (((OpenSpec.ofChange Rows.treeNodesSpec).at F).post enc Tryz.prog Tryz.f12 false true false false) := by
 obtain ⟨places, hx⟩ := reads os enc
 refine returnsInHanded_of_row (C := Tryz.checked) (s := OpenSpec.ofChange Rows.treeNodesSpec) own_knob started (by kernel_rfl) Tryz.func12
  (witness_row_at (enc := enc) (C := Tryz.checked) false (laidWorld os) #[zp, zq, .int .i64 0] rfl (by kernel_rfl) (by kernel_rfl) (by kernel_rfl)
   (OpenSpec.preRow_of_cond 8 hx (by kernel_rfl) (fun k hk => by cases hk) (by kernel_rfl) (laid_met os))) ?_
 intro W base args ds gs before hval hW _ _ _ hlaid _ _
 exact contract H enc W base args ds gs before hval hW hlaid
theorem said : Rows.TreeNodesSaid :=
 OpenClaim.holds_of_cond 12 Tryz.f12 rfl rfl rfl rfl rfl rfl rfl ⟨rfl, rfl, rfl, rfl, rfl⟩ rfl rfl rfl rfl rfl (by kernel_rfl) Tryz.func12 (by kernel_rfl)
  (of_decide_eq_true (by kernel_rfl)) (by unfold Func.isWrapper; first | (rw [if_pos (by decide +kernel)]; kernel_rfl) | (rw [if_neg (by decide +kernel)]; exact ⟨rfl, rfl⟩))
  (fun os started H enc _ F => by rw [OpenClaim.pre_eq_preRow]; exact lifted os started H enc F)
theorem plain (f : FuncId) (fn : Func) (hf : Tryz.pinned.checked.prog.funcNamed "bodega/bodegalaw24.TreeNodes" = some f) (hfn : Tryz.pinned.checked.prog.funcs[f]? = some fn) :
 false = Tryz.pinned.checked.prog.looks [] ∧ ∀ (j : Nat) t, fn.params[j]? = some t → Tryz.pinned.checked.prog.wantsStandIn t = false := by
 obtain rfl : f = 12 := Option.some.inj ((show Tryz.prog.funcNamed "bodega/bodegalaw24.TreeNodes" = some 12 by kernel_rfl).symm.trans hf) |>.symm
 obtain rfl : fn = Tryz.f12 := (Option.some.inj (Tryz.func12.symm.trans hfn)).symm
 refine ⟨by kernel_rfl, fun j t ht => ?_⟩
 rw [Tryz.params12] at ht
 have hm : t ∈ #[25, 73, 3] := Array.mem_of_getElem? ht
 have ht2 : t = 25 ∨ t = 73 ∨ t = 3 := by simpa using hm
 rcases ht2 with rfl | rfl | rfl
 ·exact (show Tryz.prog.wantsStandIn 25 = false by kernel_rfl)
 ·exact (show Tryz.prog.wantsStandIn 73 = false by kernel_rfl)
 ·exact (show Tryz.prog.wantsStandIn 3 = false by kernel_rfl)
theorem card : Rows.TreeNodesCardSaid :=
 Claim7.holds_tied_plain_at .later [] _ _ _ _ said (fun _ h => by cases h) (by kernel_rfl) (fun _ h => by cases h) treeNodes_row_tie rfl ⟨rfl, rfl⟩ (by kernel_rfl) rfl plain (by kernel_rfl)
#print axioms card
end Go.Proofs.YtjmpekanlmepmaaGreatDoor.treeNodes
