/- The plain law: which batch the conversation asks for. The batches of a commit: their lengths and replies do not depend on the checksum; the cost is what they are. -/
import Derived.Test.YtoidjgongafnkaaGreatDoorWDb
import Derived.Test.YtoidjgongafnkaaGreatDoorWEa
import Derived.Test.YtoidjgongafnkaaGreatDoorWFq
import Derived.Test.YtoidjgongafnkaaGreatDoorWFr
set_option linter.unusedVariables false
set_option linter.unusedSimpArgs false
set_option linter.unusedSectionVars false
set_option linter.constructorNameAsVariable false
namespace Go.Proofs.YtoidjgongafnkaaGreatDoor

theorem Cm.Vb.okb_ok {v : Cm.Vb} (h : v.okb = true) : v.Ok ∧ v.node < 5 ∧ v.words.length ≤ 100 := by
  simp only [Cm.Vb.okb, Bool.and_eq_true, Bool.or_eq_true, decide_eq_true_eq] at h
  obtain ⟨⟨⟨⟨⟨⟨⟨h1, h2⟩, h3⟩, h4⟩, h5⟩, h6⟩, h7⟩, h8⟩ := h
  refine ⟨⟨?_, fun e => ?_, h3, h4, h5, h6⟩, h7, h8⟩
  · rcases h1 with (h1 | h1) | h1
    · exact .inl h1
    · exact .inr (.inl h1)
    · exact .inr (.inr h1)
  · rcases h2 with h2 | h2
    · exact absurd e h2
    · exact h2

/-- The batches with something in them. -/
def some_ (L : List (List Cm.Vb)) : List (List Cm.Vb) := L.filter fun l => !l.isEmpty
def replies (L : List (List Cm.Vb)) : List (List (List Int)) := L.map fun l => l.map Cm.reply
theorem goAll_take (L : List (List Cm.Vb)) : ∀ i, i ≤ (some_ L).length → goAll L ((replies (some_ L)).take i) = ([], (some_ L)[i]?) ∧ FitsAll L ((replies (some_ L)).take i) := by
  induction L with
  | nil => intro i hi; simp [some_] at hi; subst hi; simp [goAll, FitsAll, replies, some_]
  | cons l ls ih =>
    intro i hi
    rcases l with _ | ⟨x, l⟩
    · have e : some_ ([] :: ls) = some_ ls := by simp [some_]
      rw [e] at hi ⊢
      obtain ⟨h1, h2⟩ := ih i hi
      refine ⟨?_, fun h => absurd rfl h, fun _ => ?_⟩
      · simp only [goAll, goOn, goGs, List.isEmpty_nil, Bool.true_or, if_true]
        exact h1
      · simp only [goGs, List.isEmpty_nil, if_true]
        exact h2
    · have e : some_ ((x :: l) :: ls) = (x :: l) :: some_ ls := by simp [some_]
      rw [e] at hi ⊢
      rcases i with _ | i
      · refine ⟨by simp [goAll, goOn, goGs, replies], fun _ g gs' h => by simp at h, fun h => by simp [goOn, replies] at h⟩
      · obtain ⟨h1, h2⟩ := ih i (by simpa using hi)
        have e2 : (replies ((x :: l) :: some_ ls)).take (i + 1) = (x :: l).map Cm.reply :: (replies (some_ ls)).take i := by simp [replies]
        rw [e2]
        refine ⟨?_, fun _ g gs' h => ?_, fun _ => ?_⟩
        · simp only [goAll, goOn, goGs, List.isEmpty_cons, Bool.not_false, Bool.or_true, if_true, List.tail_cons]
          simpa using h1
        · simp only [List.cons.injEq] at h
          exact h.1.symm
        · simpa [goGs] using h2

theorem asks_some (m k r : Nat) (ck : Int) : some_ (fiveAsks m k r ck) = Cm.asks (m + 1) k r ck := by
  unfold some_ Cm.asks
  congr 1
end Go.Proofs.YtoidjgongafnkaaGreatDoor
namespace Go.Proofs.YtoidjgongafnkaaGreatDoor

theorem asks_shape (m k r : Nat) : (∃ L, ∀ c, Cm.asks (m + 1) k r c = L) ∨ (∃ L, ∀ c, Cm.asks (m + 1) k r c = Cm.askBody (m + 1) k c :: L) := by
  rcases k with _ | k
  · exact .inl ⟨_, fun c => rfl⟩
  · refine .inr ⟨([Cm.askLock (k + 1) r, Cm.askMark (m + 1), Cm.askBackups (m + 1) (k + 1), Cm.askFinish (k + 1)] : List (List Cm.Vb)).filter (fun l => !l.isEmpty), fun c => ?_⟩
    unfold Cm.asks Cm.steps
    rw [if_neg (Nat.succ_ne_zero k), if_neg (Nat.succ_ne_zero k), if_neg (Nat.succ_ne_zero k), List.filter_cons_of_pos (by simp [Cm.askBody])]
theorem asks_drop (m k r i : Nat) (c c' : Int) : (Cm.asks (m + 1) k r c).drop (i + 1) = (Cm.asks (m + 1) k r c').drop (i + 1) := by
  rcases asks_shape m k r with ⟨L, h⟩ | ⟨L, h⟩
  · rw [h, h]
  · rw [h, h, List.drop_succ_cons, List.drop_succ_cons]
theorem body_reply (m k : Nat) (c : Int) : (Cm.askBody m k c).map Cm.reply = (List.range m).map fun _ => [] := by simp [Cm.askBody, Cm.reply]
theorem asks_replies (m k r : Nat) (c c' : Int) : replies (Cm.asks (m + 1) k r c) = replies (Cm.asks (m + 1) k r c') := by
  rcases asks_shape m k r with ⟨L, h⟩ | ⟨L, h⟩
  · rw [h, h]
  · rw [h, h]
    simp only [replies, List.map_cons, body_reply]
def lens (L : List (List Cm.Vb)) : List Nat := L.map List.length
theorem asks_lens (m k r : Nat) (c c' : Int) : lens (Cm.asks (m + 1) k r c) = lens (Cm.asks (m + 1) k r c') := by
  rcases asks_shape m k r with ⟨L, h⟩ | ⟨L, h⟩
  · rw [h, h]
  · rw [h, h]
    simp [lens, Cm.askBody]
theorem asks_length (m k r : Nat) (c c' : Int) : (Cm.asks (m + 1) k r c).length = (Cm.asks (m + 1) k r c').length := by
  have := congrArg List.length (asks_lens m k r c c')
  simpa [lens] using this
theorem asks_five (m k r : Nat) (c : Int) : (Cm.asks m k r c).length ≤ 5 := by
  unfold Cm.asks Cm.steps
  exact Nat.le_trans (List.length_filter_le _ _) (by simp)
theorem cost_trips (m k r : Nat) (hm : m < 4) (hk : k ≤ 4) (hr : r ≤ 4) : costT ((m + 1 : Nat) : Int) r k = ((Cm.asks (m + 1) k r 0).length : Nat) := by
  rcases (by omega : m = 0 ∨ m = 1 ∨ m = 2 ∨ m = 3) with rfl | rfl | rfl | rfl <;> rcases (by omega : k = 0 ∨ k = 1 ∨ k = 2 ∨ k = 3 ∨ k = 4) with rfl | rfl | rfl | rfl | rfl <;> rcases (by omega : r = 0 ∨ r = 1 ∨ r = 2 ∨ r = 3 ∨ r = 4) with rfl | rfl | rfl | rfl | rfl <;> kernel_rfl
theorem cost_verbs (m k r : Nat) (hm : m < 4) (hk : k ≤ 4) (hr : r ≤ 4) : costV ((m + 1 : Nat) : Int) r k = ((lens (Cm.asks (m + 1) k r 0)).sum : Nat) := by
  rcases (by omega : m = 0 ∨ m = 1 ∨ m = 2 ∨ m = 3) with rfl | rfl | rfl | rfl <;> rcases (by omega : k = 0 ∨ k = 1 ∨ k = 2 ∨ k = 3 ∨ k = 4) with rfl | rfl | rfl | rfl | rfl <;> rcases (by omega : r = 0 ∨ r = 1 ∨ r = 2 ∨ r = 3 ∨ r = 4) with rfl | rfl | rfl | rfl | rfl <;> kernel_rfl
theorem lens_small (m k r : Nat) (hm : m < 4) (hk : k ≤ 4) (hr : r ≤ 4) : (lens (Cm.asks (m + 1) k r 0)).sum ≤ 500 := by
  refine of_decide_eq_true ?_
  rcases (by omega : m = 0 ∨ m = 1 ∨ m = 2 ∨ m = 3) with rfl | rfl | rfl | rfl <;> rcases (by omega : k = 0 ∨ k = 1 ∨ k = 2 ∨ k = 3 ∨ k = 4) with rfl | rfl | rfl | rfl | rfl <;> rcases (by omega : r = 0 ∨ r = 1 ∨ r = 2 ∨ r = 3 ∨ r = 4) with rfl | rfl | rfl | rfl | rfl <;> kernel_rfl
theorem take_sum (l : List Nat) (n : Nat) : (l.take n).sum ≤ l.sum := by
  have h : l.sum = (l.take n ++ l.drop n).sum := by rw [List.take_append_drop]
  rw [h, List.sum_append]
  omega
/-- What one batch's play tells of the rest. -/
theorem plays2_cons {s : Cm.St} {l : List Cm.Vb} {ls : List (List Cm.Vb)} (h : Cm.plays2 s (l :: ls) = true) : l.length ≤ 100 ∧ 1 ≤ l.length ∧ (∀ x ∈ l, x.okb = true ∧ x.node < s.q.length) ∧ (∀ q ∈ s.q, q = []) ∧
    ∃ s', (s.post l).play2 400 = some s' ∧ s'.done = l.map (fun v => some (Cm.reply v)) ∧ Cm.plays2 { s' with done := [] } ls = true := by
  unfold Cm.plays2 at h
  simp only [Bool.and_eq_true, decide_eq_true_eq, List.all_eq_true, Bool.not_eq_true', List.isEmpty_iff] at h
  obtain ⟨⟨⟨⟨h1, h2⟩, h3⟩, h4⟩, h5⟩ := h
  refine ⟨h1, ?_, h3, h4, ?_⟩
  · rcases l with _ | ⟨a, l⟩
    · simp at h2
    · simp
  · split at h5
    · rename_i s' hs'
      simp only [Bool.and_eq_true, beq_iff_eq] at h5
      exact ⟨s', hs', h5.1, h5.2⟩
    · simp at h5
end Go.Proofs.YtoidjgongafnkaaGreatDoor
