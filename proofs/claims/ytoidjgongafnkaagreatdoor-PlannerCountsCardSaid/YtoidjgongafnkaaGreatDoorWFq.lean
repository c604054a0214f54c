/- The plain law: the batches of a commit are played with good replies, in each of the hundred cases. -/
import Derived.Test.YtoidjgongafnkaaGreatDoorQb
set_option linter.unusedVariables false
set_option linter.unusedSimpArgs false
set_option linter.unusedSectionVars false
set_option linter.constructorNameAsVariable false
namespace Go.Proofs.YtoidjgongafnkaaGreatDoor

namespace Cm
def Vb.okb (v : Vb) : Bool := (decide (v.kind = 1) || decide (v.kind = 2) || decide (v.kind = 3)) && (decide (v.kind ≠ 1) || decide (1 ≤ v.n)) && decide (1 ≤ v.count) && decide (v.count ≤ 100) && decide (32 ≤ v.at_) && decide (v.at_ + v.count ≤ 864) && decide (v.node < 5) && decide (v.words.length ≤ 100)
def Pend.okb (k : Nat) (x : Pend) : Bool := x.v.okb && decide (x.got.length ≤ 100) && decide (x.slot < k)
def St.okb (s : St) : Bool := s.q.all fun l => decide (l.length ≤ 100) && l.all (Pend.okb s.done.length)
/-- Step by step, each state in bounds. -/
def St.play2 : Nat → St → Option St
  | 0, _ => none
  | f + 1, s => if s.okb then (if s.waiting = 0 then some s else match s.first with | some n => (match s.stepAt n with | some s' => St.play2 f s' | none => none) | none => none) else none
def plays2 : St → List (List Vb) → Bool
  | _, [] => true
  | s, l :: ls => decide (l.length ≤ 100) && !l.isEmpty && l.all (fun v => v.okb && decide (v.node < s.q.length)) && s.q.all List.isEmpty && match (s.post l).play2 400 with
    | some s' => (s'.done == l.map (fun v => some (reply v))) && plays2 { s' with done := [] } ls
    | none => false
def caseOk2 (m w r : Nat) (c cons : Int) : Bool := plays2 (start m cons) (asks m w r c)
end Cm

set_option maxRecDepth 100000 in
set_option maxHeartbeats 4000000 in
theorem case_one (w r : Nat) (c cons : Int) (hw : w ≤ 4) (hr : r ≤ 4) : Cm.caseOk2 1 w r c cons = true := by
  rcases (by omega : w = 0 ∨ w = 1 ∨ w = 2 ∨ w = 3 ∨ w = 4) with rfl | rfl | rfl | rfl | rfl <;> rcases (by omega : r = 0 ∨ r = 1 ∨ r = 2 ∨ r = 3 ∨ r = 4) with rfl | rfl | rfl | rfl | rfl <;> kernel_rfl
set_option maxRecDepth 100000 in
set_option maxHeartbeats 4000000 in
theorem case_two (w r : Nat) (c cons : Int) (hw : w ≤ 4) (hr : r ≤ 4) : Cm.caseOk2 2 w r c cons = true := by
  rcases (by omega : w = 0 ∨ w = 1 ∨ w = 2 ∨ w = 3 ∨ w = 4) with rfl | rfl | rfl | rfl | rfl <;> rcases (by omega : r = 0 ∨ r = 1 ∨ r = 2 ∨ r = 3 ∨ r = 4) with rfl | rfl | rfl | rfl | rfl <;> kernel_rfl
set_option maxRecDepth 100000 in
set_option maxHeartbeats 4000000 in
theorem case_three (w r : Nat) (c cons : Int) (hw : w ≤ 4) (hr : r ≤ 4) : Cm.caseOk2 3 w r c cons = true := by
  rcases (by omega : w = 0 ∨ w = 1 ∨ w = 2 ∨ w = 3 ∨ w = 4) with rfl | rfl | rfl | rfl | rfl <;> rcases (by omega : r = 0 ∨ r = 1 ∨ r = 2 ∨ r = 3 ∨ r = 4) with rfl | rfl | rfl | rfl | rfl <;> kernel_rfl
set_option maxRecDepth 100000 in
set_option maxHeartbeats 4000000 in
theorem case_four (w r : Nat) (c cons : Int) (hw : w ≤ 4) (hr : r ≤ 4) : Cm.caseOk2 4 w r c cons = true := by
  rcases (by omega : w = 0 ∨ w = 1 ∨ w = 2 ∨ w = 3 ∨ w = 4) with rfl | rfl | rfl | rfl | rfl <;> rcases (by omega : r = 0 ∨ r = 1 ∨ r = 2 ∨ r = 3 ∨ r = 4) with rfl | rfl | rfl | rfl | rfl <;> kernel_rfl
theorem case_all (m w r : Nat) (c cons : Int) (hm : m < 4) (hw : w ≤ 4) (hr : r ≤ 4) : Cm.caseOk2 (m + 1) w r c cons = true := by
  rcases (by omega : m = 0 ∨ m = 1 ∨ m = 2 ∨ m = 3) with rfl | rfl | rfl | rfl
  · exact case_one w r c cons hw hr
  · exact case_two w r c cons hw hr
  · exact case_three w r c cons hw hr
  · exact case_four w r c cons hw hr
end Go.Proofs.YtoidjgongafnkaaGreatDoor
