/- From a walk that leaves everything below its own blocks alone to the row's post: shared by all laws of this seat. -/
import Derived.Test.YtcoiehgcfjfhaaaGreatDoorCards
import Derived.Test.YtcoiehgcfjfhaaaGreatDoorTie
import Derived.Test.YtcoiehgcfjfhaaaGreatDoorQ01
import Derived.ProofKit
import Derived.OpenShut
import Derived.Deep.DeepHandedRow
import Derived.Lib.LaidTab
import Derived.Test.YtcoiehgcfjfhaaaGreatDoorQ03
import Derived.Lib.SmallJoins
import Derived.Deep.Strs
set_option linter.all false
set_option maxRecDepth 20000
set_option maxHeartbeats 8000000
namespace Go.Proofs.YtcoiehgcfjfhaaaGreatDoor
open Go.ChangeShapes Go.WideShapes Go.ChangeAt Go.RowKit
theorem own_knob : ownKnob Tryz.prog.godebug = none := by kernel_rfl
theorem arr4 {args : Array Value} {a b c d : Value} (h : args.toList = [a, b, c, d]) : args = #[a, b, c, d] := Array.toList_inj.1 h
section
variable {H : Type} {enc : TypeId × Value → H} {P : Program}
theorem post_of_below {f : Func} {s : ChangeSpec} {apart fresh handsOn again : Bool} {W W' : World} {args : Array Value} {v : Value} {ds gs : List (DataW H)} {before pa pv : List MemPlace}
    (hW : DataW.Whole enc P f.params.toList s.vars apart W args.toList ds gs before)
    (hres : ∀ (b : Nat) (sp : Nat → Bool) (hd : Bool), DataW.TrodAll enc P W' b sp hd f.resultTypes.toList (v.resultList f.resultTypes.size) (s.fn H (ds ++ gs)).results [])
    (hargs : ∀ sp : Nat → Bool, (∀ p ∈ before, sp p.block = true) → DataW.TrodAll enc P W' 0 sp true f.params.toList args.toList (s.fn H (ds ++ gs)).args pa)
    (hvars : ∀ sp : Nat → Bool, (∀ p ∈ before, sp p.block = true) → DataW.TrodVars enc P W' sp s.vars (s.fn H (ds ++ gs)).vars pv)
    (hps : before = pa ++ pv) (hb : Below W.heap.size W W')
    (hok : ∀ (j : Nat) (t : TypeId) (r : Value), f.resultTypes[j]? = some t → (v.resultList f.resultTypes.size)[j]? = some r → Value.okWide P W' .any 0 t r) :
    s.post enc P f apart fresh handsOn again W args v W' := by
  have hold : ∀ p ∈ before, (fun b => decide (b < W.heap.size)) p.block = true := fun p hp => by simpa using hW.lt p hp
  have hwhole := hW
  obtain ⟨_, _, _, _, _, hz, hn⟩ := hwhole
  refine ⟨ds, gs, before, [], pa, pv, hW, hres _ _ _, hargs _ hold, hvars _ hold, World.keptBut_mono (fun p hp => ⟨hp, Or.inr (by rw [hps, List.mem_append] at hp; exact hp)⟩) (hb.frame (· ∈ before)), fun _ => ?_⟩
  refine ⟨hok, _, _, ([] ++ pa) ++ pv, ⟨[] ++ pa, pv, trodAll_append (hargs _ (fun _ _ => rfl)) (hres _ _ _), hvars _ (fun _ _ => rfl), rfl, ?_, ?_⟩, fun p hp _ => by rw [hps]; simpa using hp⟩
  · intro b off hp
    have hin : MemPlace.cell b off ∈ before := by rw [hps]; simpa using hp
    rw [hb.frozen (hW.lt _ hin)]
    exact hz b off hin
  · intro ha
    have h := hn ha
    rw [hps] at h
    simpa using h
end
end Go.Proofs.YtcoiehgcfjfhaaaGreatDoor
namespace Go.Proofs.YtcoiehgcfjfhaaaGreatDoor
open Go.ChangeShapes Go.WideShapes Go.ChangeAt Go.RowKit
theorem cInt : Tryz.prog.cellsOf 3 = 1 := by kernel_rfl
theorem cWord : Tryz.prog.cellsOf 24 = 1 := by kernel_rfl
section
variable {H : Type} {enc : TypeId × Value → H} {w : World} {base : Nat} {spare : Nat → Bool} {held : Bool}
set_option maxRecDepth 100000
end
end Go.Proofs.YtcoiehgcfjfhaaaGreatDoor
