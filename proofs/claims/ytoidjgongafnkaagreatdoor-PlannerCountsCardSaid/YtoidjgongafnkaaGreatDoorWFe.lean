/- The reference's fabric: one step of it; what is plain of it. -/
import Derived.Test.YtoidjgongafnkaaGreatDoorWFd
import Derived.Test.YtoidjgongafnkaaGreatDoorQj
import Derived.Test.YtoidjgongafnkaaGreatDoorQi
import Derived.Test.YtoidjgongafnkaaGreatDoorWEg
set_option linter.unusedVariables false
set_option linter.unusedSimpArgs false
set_option linter.unusedSectionVars false
set_option linter.constructorNameAsVariable false
namespace Go.Proofs.YtoidjgongafnkaaGreatDoor
open Go.RowKit

theorem pieces_in (f : Nat) : ∀ (a l i : Nat) (pc : Nat × Nat), (Cm.pieces f a l)[i]? = some pc → a ≤ pc.1 ∧ 1 ≤ pc.2 ∧ pc.1 + pc.2 ≤ a + l := by
  induction f with
  | zero => intro a l i pc h; simp [Cm.pieces] at h
  | succ f ih =>
    intro a l i pc h
    rcases l with _ | l
    · simp [Cm.pieces] at h
    · rw [pieces_step _ _ _ (by omega)] at h
      rcases i with _ | i
      · simp only [List.getElem?_cons_zero, Option.some.injEq] at h
        subst h
        dsimp only
        omega
      · rw [List.getElem?_cons_succ] at h
        obtain ⟨h1, h2, h3⟩ := ih _ _ _ _ h
        omega
theorem Cm.St.stepAt_some {s s' : Cm.St} {n : Nat} (h : s.stepAt n = some s') : ∃ x rest m pc, s.q[n]? = some (x :: rest) ∧ s.mem[n]? = some m ∧ x.v.pieces[x.exec]? = some pc ∧ x.v.served m = true ∧
    ((x.exec + 1 < x.v.pieces.length ∧ s' = { s with mem := s.mem.set n (x.v.exec m pc).2, q := s.q.set n (stepNext x (x.v.exec m pc).1 :: rest) }) ∨
     (¬ x.exec + 1 < x.v.pieces.length ∧ s' = { mem := s.mem.set n (x.v.exec m pc).2, q := s.q.set n rest, done := s.done.set x.slot (some (x.got ++ (x.v.exec m pc).1)) })) := by
  unfold Cm.St.stepAt at h
  split at h
  · rename_i x rest m hq hm
    split at h
    · rename_i pc hpc
      split at h
      · rename_i hsv
        refine ⟨x, rest, m, pc, hq, hm, hpc, hsv, ?_⟩
        simp only at h
        split at h
        · rename_i hlt
          exact .inl ⟨hlt, by simpa [stepNext] using h.symm⟩
        · rename_i hlt
          exact .inr ⟨hlt, by simpa using h.symm⟩
      · simp at h
    · simp at h
  · simp at h
/-- The fabric while a batch is under way. -/
structure Geo.On (g : Geo) (w : World) (B dn hv cd ch : Nat) (s : Cm.St) : Prop where
  at_ : g.At w B
  client : g.Client w true (.slice (some ⟨dn, 0, none⟩) s.done.length cd) (.slice (some ⟨hv, 0, none⟩) s.done.length ch)
  pairs : g.Pairs w B s.q
  mems : g.Mems w s.mem
  done : DnAt w B dn hv cd ch s.done
theorem Geo.On.below {g : Geo} {w w' : World} {B dn hv cd ch : Nat} {s : Cm.St} (h : g.On w B dn hv cd ch s) (hb : Below w.heap.size w w') : g.On w' B dn hv cd ch s :=
  ⟨h.at_.below hb, h.client.below hb, h.pairs.below hb, h.mems.below hb, h.done.below hb⟩
def stepS (g : Geo) (dn hv k : Nat) : Prop := k = g.pr ∨ k ∈ g.mb ∨ k = dn ∨ k = hv
def FStep (g : Geo) (B dn hv cd ch : Nat) (s' : Cm.St) (w : World) (e : Ending) (w' : World) : Prop :=
  e = .returned (.bool true) ∧ g.On w' B dn hv cd ch s' ∧ Mod (stepS g dn hv) w w'
end Go.Proofs.YtoidjgongafnkaaGreatDoor
