/- An index: insert, remove, raise (plain Lean). -/
import Derived.Test.YtjmpekanlmepmaaGreatDoorBB03
set_option linter.all false
set_option maxRecDepth 20000
set_option maxHeartbeats 8000000
namespace Go.Proofs.YtjmpekanlmepmaaGreatDoor.Bt
theorem Z8A {es : List Entry} {k : Int} {e : Entry} : Z0h es (child es k) e ≠ es := fun h => by
 have := congrArg List.length h
 rw [Z3v] at this
 omega
theorem Fits.insert {n : Node} {low k : Int} {to : Ptr} (hn : n.valid = true) (hlev : n.level = 0) (hr : Z09 low n.entries = true) (hlow : low < k) (hk : k ≤ n.high) (hk2 : k ≤ Z0e) (hno : Z0T n.entries k = false) (hto : Z0w to = true) :
 Fits n low (Z0h n.entries (child n.entries k) ⟨k, to⟩) := by
 obtain ⟨a1, a2, a3, a4, a5, a6, a7, a8, a9, a10, a11⟩ := Node.valid_parts hn
 exact ⟨Z6O hr hlow hno hto, Z4H a8 hk, fun h => by omega, fun h => Z4H (a11 h) hk2⟩
theorem Inv.insertThere {ps : List Page} {nx : Int} {es : List Entry} {T : List (List Cell)} (h : Inv ps nx es T) {op : Op} (hkd : op.kind = 2) (hk : 1 ≤ op.key) (hk2 : op.key ≤ Z0e) (hto : Z0w op.to = true) (hthere : Z0T es op.key = true) :
 ∃ o, next op ps = ⟨[], [], o, true⟩ ∧ o.code = 17 ∧ o.check.length = 1 := by
 have hv : op.isValid = true := by unfold Op.isValid; simp [hkd, isKey, hk, hk2, hto]
 have hgo : (S0 ps T).go op ps = (S0 ps T).insert op ps := by unfold St.go; rw [if_neg (by omega), if_pos hkd]
 rw [h.step hv, hgo]
 have hT : T ≠ [] := fun e => by subst e; rw [← h.holds] at hthere; cases hthere
 obtain ⟨pre, A, l, n, R, hs, i1, i3, i3b, i4, i5, i5b, i6, i6b, i6c, i7, i8, i9, i10, i11, i12, i13⟩ := h.leaf hT hk (by unfold Z0e at hk2; unfold Z08; omega)
 obtain ⟨q1, q2, q3, q4, q5⟩ := Z37 (m := n.entries) i10 i11
 rw [← i9] at q1 q2 q3
 have hroot : ¬ (S0 ps T).root = nilP := fun e => hT (h.rootNil.1 e)
 have hline : (pg ps l).line = l := i6.line
 have e1 : (S0 ps T).insert op ps = (after hs (T.length : Int) (S0 ps T)).fail 17 [l] := by
  unfold St.insert
  rw [if_neg hroot, i7 _ rfl]
  simp only
  rw [if_pos (by rw [← q2]; exact hthere), hline]
 rw [e1, Z1q rfl]
 exact ⟨_, rfl, rfl, rfl⟩
def Turns (w : Nat) (op : Op) (ps : List Page) (nx : Int) (es' : List Entry) (T : List (List Cell)) (o : Out) : Prop :=
 ∃ ws nx' T', Z6I op ps nx ws o nx' ∧ nx' ≤ nx + 1 ∧ Commits ps ws ∧ Inv (Z0J ps ws) nx' es' T' ∧ Kept ps (Z0J ps ws) T T' ∧ Evo nx (nx' - nx) w 0 T T'
def Z7U (Q : Int → List (List Cell) → Prop) (w : Nat) (op : Op) (ps : List Page) (nx : Int) (es' : List Entry) (T : List (List Cell)) (o : Out) : Prop :=
 ∃ ws nx' T', Z6I op ps nx ws o nx' ∧ nx' ≤ nx + 1 ∧ Commits ps ws ∧ Inv (Z0J ps ws) nx' es' T' ∧ Kept ps (Z0J ps ws) T T' ∧ Evo nx (nx' - nx) w 0 T T' ∧ Q nx' T'
theorem Turns.toP {w : Nat} {op : Op} {ps : List Page} {nx : Int} {es' : List Entry} {T : List (List Cell)} {o : Out} (h : Turns w op ps nx es' T o) : Z7U (fun _ _ => True) w op ps nx es' T o := by
 obtain ⟨ws, nx', T', h1, h2, h3, h4, h5, h6⟩ := h
 exact ⟨ws, nx', T', h1, h2, h3, h4, h5, h6, trivial⟩
theorem Inv.insertNew {ps : List Page} {nx : Int} {es : List Entry} {T : List (List Cell)} (h : Inv ps nx es T) (hnx : nx < 256) {op : Op} (hkd : op.kind = 2) (hop : op.fresh = []) (hk : 1 ≤ op.key) (hk2 : op.key ≤ Z0e) (hto : Z0w op.to = true) (hno : Z0T es op.key = false) :
 ∃ o, Turns 1 op ps nx (Z0h es (child es op.key) ⟨op.key, op.to⟩) T o ∧ o.code = 0 ∧ o.done = true := by
 have hv : op.isValid = true := by unfold Op.isValid; simp [hkd, isKey, hk, hk2, hto]
 have hv2 : ({ op with fresh := [pg ps nx] } : Op).isValid = true := by unfold Op.isValid; simp [hkd, isKey, hk, hk2, hto]
 have hgo : (S0 ps T).go op ps = (S0 ps T).insert op ps := by unfold St.go; rw [if_neg (by omega), if_pos hkd]
 have hgo2 : (S0 ps T).go { op with fresh := [pg ps nx] } ps = (S0 ps T).insert { op with fresh := [pg ps nx] } ps := by unfold St.go; rw [if_neg (by show ¬ op.kind = 1; omega), if_pos hkd]
 have n1 := h.step hv
 have n2 := h.step hv2
 rw [hgo] at n1
 rw [hgo2] at n2
 obtain ⟨r1, r2, r3, r4, r5⟩ := h.rootHere
 by_cases hT : T = []
 ·subst hT
  have hes : es = [] := by rw [← h.holds]; rfl
  subst hes
  have hg : Good (Z2H ⟨op.key, op.to⟩) := ⟨(Tree.plant (e := ⟨op.key, op.to⟩) (new := nx) ⟨by show 0 < op.key; omega, hk2⟩ hto).levels.1.valid (nx, Z2H ⟨op.key, op.to⟩) (by simp), Int.le_refl _⟩
  have hw := h.Z0Y (T' := [[(nx, Z2H ⟨op.key, op.to⟩)]]) (es' := [⟨op.key, op.to⟩]) hnx hg (Tree.plant ⟨by show 0 < op.key; omega, hk2⟩ hto) (fun c hc => by simp [flat] at hc; exact .inl hc) rfl (by simp) rfl
  have hkp := Kept.Z0Y (T' := [[(nx, Z2H ⟨op.key, op.to⟩)]]) h hnx hg (by simp [flat]) 0 (by omega)
  have hplant : ∀ o : Op, (S0 ps []).insert o ps = (S0 ps []).plant o ⟨o.key, o.to⟩ := fun o => by unfold St.insert; rw [if_pos (show (S0 ps []).root = nilP from rfl)]
  have hf1 : (S0 ps []).plant op ⟨op.key, op.to⟩ = ({ S0 ps [] with out := { (S0 ps []).out with fresh := 1 } } : St).fail 18 [] := by
   unfold St.plant
   rw [if_neg (by show ¬ locked (pg ps 96) = true; rw [r2]; simp), Z5s _ _ hop]
  have hf2 : (S0 ps []).plant { op with fresh := [pg ps nx] } ⟨op.key, op.to⟩ = (S0 ps []).finish [Bt.Z0Y (pg ps 96) (ptr nx) 0, (Z2H ⟨op.key, op.to⟩).fill (Z1g (pg ps nx))] [] := by
   unfold St.plant
   rw [if_neg (by show ¬ locked (pg ps 96) = true; rw [r2]; simp), h.fresh_some hnx _ _ _ (by simp)]
   obtain ⟨ha, hb⟩ := h.alloc hnx
   have hat : at_ (Z1g (pg ps nx)) = ptr nx := by simp [at_, ptr, hb.gen, hb.line]
   simp only
   rw [hat]
   rfl
  rw [hplant, hf1, Z1q (s := ({ S0 ps [] with out := { (S0 ps []).out with fresh := 1 } } : St)) rfl] at n1
  rw [hplant, hf2, Z3f (s := S0 ps []) rfl] at n2
  obtain ⟨ha, hb⟩ := h.alloc hnx
  have hbd := h.bound
  rw [Z3z (by show (pg ps 96).line < (pg ps nx).line; have h7 : (pg ps nx).line = nx := hb.line; omega)] at n2
  refine ⟨_, ⟨_, nx + 1, _, .inr ⟨_, n1, rfl, rfl, hnx, n2, rfl⟩, Int.le_refl _, hw.2, hw.1, hkp, by rw [show nx + 1 - nx = 1 by omega]; exact Evo.plant⟩, rfl, rfl⟩
 ·obtain ⟨pre, A, l, n, R, hs, i1, i3, i3b, i4, i5, i5b, i6, i6b, i6c, i7, i8, i9, i10, i11, i12, i13⟩ := h.leaf hT hk (by unfold Z0e at hk2; unfold Z08; omega)
  obtain ⟨q1, q2, q3, q4, q5⟩ := Z37 (m := n.entries) i10 i11
  rw [← i9] at q1 q2 q3 q4
  have hroot : ¬ (S0 ps T).root = nilP := fun e => hT (h.rootNil.1 e)
  have hline : (pg ps l).line = l := i6.line
  have hno' : Z0T n.entries op.key = false := by rw [← q2]; exact hno
  have hins : ∀ o : Op, o.key = op.key → o.to = op.to → (S0 ps T).insert o ps = (after hs (T.length : Int) (S0 ps T)).store o (pg ps l) n (Z0h n.entries (child n.entries op.key) ⟨op.key, op.to⟩) [] := fun o e1 e2 => by
   unfold St.insert
   rw [if_neg hroot, e1, i7 _ rfl]
   simp only
   rw [if_neg (by rw [hno']; simp), e2]
  rw [hins op rfl rfl] at n1
  rw [hins { op with fresh := [pg ps nx] } rfl rfl] at n2
  have hgn := i6.good
  obtain ⟨T', ws, nx', s1, s2, s3, s4, s5, s6⟩ := h.store (es' := Z0h es (child es op.key) ⟨op.key, op.to⟩) hnx i1 i4 (Fits.insert hgn.valid i5b i12 i3 i5 hk2 hno' hto) i3b (by rw [Z3v]; omega) Z8A (fun lo t hp => by cases hp) ⟨fun _ => q4 _, fun hp => absurd rfl hp⟩ op hop (after hs (T.length : Int) (S0 ps T)) rfl rfl [] (by simp; omega)
  have hevo : Evo nx (nx' - nx) 1 0 T T' := by
   rw [i1]
   rcases s5 with ⟨e, en, _⟩ | ⟨e1, e2, z1, z2, z3, z4, z5, z6, z7, z8⟩
   ·rw [e, en, Int.sub_self]; exact Evo.leaf i4 (by rw [Z3v]; omega)
   ·rw [z8, z6, show nx + 1 - nx = 1 by omega]; exact Evo.leafSplit i4 z2 z3 z4 z5
  rcases s6 with ⟨c1, c2, c3⟩ | ⟨o1, c1, c2, c3, c4, c5⟩ | c1
  ·rw [c1, c2] at n1
   exact ⟨_, ⟨ws, nx', T', .inl ⟨n1, c3⟩, s1, s2, s3, s4, hevo⟩, rfl, rfl⟩
  ·rw [c1] at n1
   rw [c5] at n2
   exact ⟨_, ⟨ws, nx', T', .inr ⟨o1, n1, (c2 c3).1, (c2 c3).2, hnx, n2, c4⟩, s1, s2, s3, s4, hevo⟩, rfl, rfl⟩
  ·exact absurd rfl c1
theorem Inv.removeNone {ps : List Page} {nx : Int} {es : List Entry} {T : List (List Cell)} (h : Inv ps nx es T) {op : Op} (hkd : op.kind = 3) (hk : 1 ≤ op.key) (hk2 : op.key ≤ Z0e) (hno : Z0T es op.key = false) :
 ∃ o, next op ps = ⟨[], [], o, true⟩ ∧ o.code = 16 ∧ o.check.length = 1 := by
 have hv : op.isValid = true := by unfold Op.isValid; simp [hkd, isKey, hk, hk2]
 have hgo : (S0 ps T).go op ps = (S0 ps T).remove op ps := by unfold St.go; rw [if_neg (by omega), if_neg (by omega), if_pos hkd]
 rw [h.step hv, hgo]
 obtain ⟨r1, r2, r3, r4, r5⟩ := h.rootHere
 by_cases hT : T = []
 ·subst hT
  have e1 : (S0 ps []).remove op ps = (S0 ps []).fail 16 [96] := by
   unfold St.remove St.noTree
   rw [if_pos (show (S0 ps []).root = nilP from rfl), if_neg (by show ¬ locked (pg ps 96) = true; rw [r2]; simp)]
  rw [e1, Z1q rfl]
  exact ⟨_, rfl, rfl, rfl⟩
 ·obtain ⟨pre, A, l, n, R, hs, i1, i3, i3b, i4, i5, i5b, i6, i6b, i6c, i7, i8, i9, i10, i11, i12, i13⟩ := h.leaf hT hk (by unfold Z0e at hk2; unfold Z08; omega)
  obtain ⟨q1, q2, q3, q4, q5⟩ := Z37 (m := n.entries) i10 i11
  rw [← i9] at q2
  have hroot : ¬ (S0 ps T).root = nilP := fun e => hT (h.rootNil.1 e)
  have hline : (pg ps l).line = l := i6.line
  have e1 : (S0 ps T).remove op ps = (after hs (T.length : Int) (S0 ps T)).fail 16 [l] := by
   unfold St.remove
   rw [if_neg hroot, i7 _ rfl]
   simp only
   rw [if_neg (by rw [← q2, hno]; simp), hline]
  rw [e1, Z1q rfl]
  exact ⟨_, rfl, rfl, rfl⟩
theorem Inv.removeThere {ps : List Page} {nx : Int} {es : List Entry} {T : List (List Cell)} (h : Inv ps nx es T) (hnx : nx < 256) {op : Op} (hkd : op.kind = 3) (hop : op.fresh = []) (hk : 1 ≤ op.key) (hk2 : op.key ≤ Z0e) (hthere : Z0T es op.key = true) :
 ∃ o ws T', next op ps = ⟨[], ws, o, true⟩ ∧ Commits ps ws ∧ Inv (Z0J ps ws) nx (Z0B es (child es op.key)) T' ∧ Kept ps (Z0J ps ws) T T' ∧ o.code = 0 ∧ o.done = true ∧ o.to = (es.getD (child es op.key) default).to ∧
  ∃ pre A l n R, Z05 0 A < op.key ∧ op.key ≤ n.high ∧ n.dead = false ∧ T = pre ++ [A ++ (l, n) :: R] ∧ T' = pre ++ [A ++ (l, { n with entries := Z0B n.entries (child n.entries op.key) }) :: R] ∧ (Z0B n.entries (child n.entries op.key)).length + 1 = n.entries.length := by
 have hv : op.isValid = true := by unfold Op.isValid; simp [hkd, isKey, hk, hk2]
 have hgo : (S0 ps T).go op ps = (S0 ps T).remove op ps := by unfold St.go; rw [if_neg (by omega), if_neg (by omega), if_pos hkd]
 rw [h.step hv, hgo]
 have hT : T ≠ [] := fun e => by subst e; rw [← h.holds] at hthere; cases hthere
 obtain ⟨pre, A, l, n, R, hs, i1, i3, i3b, i4, i5, i5b, i6, i6b, i6c, i7, i8, i9, i10, i11, i12, i13⟩ := h.leaf hT hk (by unfold Z0e at hk2; unfold Z08; omega)
 obtain ⟨q1, q2, q3, q4, q5⟩ := Z37 (m := n.entries) i10 i11
 rw [← i9] at q1 q2 q3 q5
 have hroot : ¬ (S0 ps T).root = nilP := fun e => hT (h.rootNil.1 e)
 have hline : (pg ps l).line = l := i6.line
 have hth' : Z0T n.entries op.key = true := by rw [← q2]; exact hthere
 obtain ⟨a, e, b, z1, z2, z3, z4, z5⟩ := Z69 hth'
 have hgn := i6.good
 obtain ⟨a1, a2, a3, a4, a5, a6, a7, a8, a9, a10, a11⟩ := Node.valid_parts hgn.valid
 have hlen : (Z0B n.entries (child n.entries op.key)).length + 1 = n.entries.length := by rw [z5, z1]; simp; omega
 have hf : Fits n (Z05 0 A) (Z0B n.entries (child n.entries op.key)) := by
  rw [z5]
  have hr := i12
  rw [z1] at hr
  have hl8 : Z03 (a ++ e :: b) ≤ n.high := by rw [← z1]; exact a8
  have hl11 : Z03 (a ++ e :: b) ≤ Z0e := by rw [← z1]; exact a11 i5b
  exact ⟨Z53 hr, Z4I hr hl8 (by omega), fun h => by omega, fun _ => Z4I hr hl11 (by decide)⟩
 have e1 : (S0 ps T).remove op ps = ({ after hs (T.length : Int) (S0 ps T) with out := { (after hs (T.length : Int) (S0 ps T)).out with to := (n.entries.getD (child n.entries op.key) default).to } } : St).store op (pg ps l) n (Z0B n.entries (child n.entries op.key)) [] := by
  unfold St.remove
  rw [if_neg hroot, i7 _ rfl]
  simp only
  rw [if_pos hth']
 obtain ⟨T', ws, nx', s1, s2, s3, s4, s5, s6⟩ := h.store (es' := Z0B es (child es op.key)) hnx i1 i4 hf i3b (by omega) (fun e => by have := congrArg List.length e; omega) (fun lo t hp => by cases hp) ⟨fun _ => q5 hth', fun hp => absurd rfl hp⟩ op hop
  ({ after hs (T.length : Int) (S0 ps T) with out := { (after hs (T.length : Int) (S0 ps T)).out with to := (n.entries.getD (child n.entries op.key) default).to } } : St) rfl rfl [] (by simp; omega)
 have hfit : T' = pre ++ [A ++ (l, { n with entries := Z0B n.entries (child n.entries op.key) }) :: R] ∧ nx' = nx := by
  rcases s5 with ⟨e, e2, _⟩ | ⟨e1, e2, z1, z2, z3, z4, z5, z6, z7, z8⟩
  ·exact ⟨e, e2⟩
  ·exfalso
   have := congrArg List.length z1
   simp at this
   omega
 rw [e1]
 rcases s6 with ⟨c1, c2, c3⟩ | ⟨o1, c1, c2, c3, c4, c5⟩ | c1
 ·rw [c1, c2]
  refine ⟨_, ws, T', rfl, s2, hfit.2 ▸ s3, s4, rfl, rfl, ?_, pre, A, l, n, R, i3, i5, i4, i1, hfit.1, hlen⟩
  rw [q3 _ hth']; rfl
 ·exfalso; rw [hfit.2] at c4; omega
 ·exact absurd rfl c1
theorem Inv.raise {ps : List Page} {nx : Int} {es : List Entry} {T : List (List Cell)} (h : Inv ps nx es T) (hnx : nx < 256) (hsm : T.length ≤ 8) {op : Op} (hkd : op.kind = 6) (hop : op.fresh = []) :
 (T = [] ∧ ∃ o, next op ps = ⟨[], [], o, true⟩ ∧ o.code = 16) ∨ (∃ c t, T = [c] :: t ∧ ∃ o, next op ps = ⟨[], [], o, true⟩ ∧ o.code = 0 ∧ o.found = true ∧ o.done = false) ∨
  ∃ x y r t o, T = (x :: y :: r) :: t ∧ Z7U (fun _ T' => T' = [(nx, Z2D ((t.length : Int) + 1) x.2.high (ptr x.1) (ptr y.1))] :: (x :: y :: r) :: t) 0 op ps nx es T o ∧ o.code = 0 ∧ o.done = true ∧ o.found = false := by
 have hv : op.isValid = true := by unfold Op.isValid; simp [hkd]
 have hv2 : ({ op with fresh := [pg ps nx] } : Op).isValid = true := by unfold Op.isValid; simp [hkd]
 have hg : ∀ o : Op, o.kind = 6 → (S0 ps T).go o ps = (S0 ps T).raise o ps := fun o ho => by unfold St.go; rw [if_neg (by omega), if_neg (by omega), if_neg (by omega), if_neg (by omega), if_neg (by omega), if_pos ho]
 have n1 := h.step hv
 have n2 := h.step hv2
 rw [hg op hkd] at n1
 rw [hg { op with fresh := [pg ps nx] } hkd] at n2
 obtain ⟨r1, r2, r3, r4, r5⟩ := h.rootHere
 by_cases hT : T = []
 ·left
  subst hT
  refine ⟨rfl, ?_⟩
  have e1 : (S0 ps []).raise op ps = (S0 ps []).fail 16 [] := by unfold St.raise; rw [if_pos (show (S0 ps []).root = nilP from rfl)]
  rw [n1, e1, Z1q rfl]
  exact ⟨_, rfl, rfl⟩
 ·right
  have hroot : ¬ (S0 ps T).root = nilP := fun e => hT (h.rootNil.1 e)
  obtain ⟨up, t, rfl⟩ : ∃ up t, T = up :: t := by
   cases T with
   | nil => exact absurd rfl hT
   | cons up t => exact ⟨up, t, rfl⟩
  have hlv := h.tree.levels.1
  obtain ⟨⟨l, n⟩, r, rfl⟩ : ∃ c r, up = c :: r := by
   cases up with
   | nil => exact absurd rfl hlv.ne
   | cons c r => exact ⟨c, r, rfl⟩
  have hm : (l, n) ∈ flat (((l, n) :: r) :: t) := by simp [flat]
  have hse : Sees ps l n := h.sees (l, n) hm
  have hrg : 105 ≤ l ∧ l < nx := h.range (l, n) hm
  have hlook : ∀ b, (S0 ps (((l, n) :: r) :: t)).look ps (S0 ps (((l, n) :: r) :: t)).root b = (S0 ps (((l, n) :: r) :: t), some (pg ps l, n)) := fun b => hse.look _ b
  have hch := hlv.chain.1
  cases r with
  | nil =>
    left
    refine ⟨(l, n), t, rfl, ?_⟩
    have hnr : n.right = nilP := hch
    have e1 : (S0 ps ([(l, n)] :: t)).raise op ps = { S0 ps ([(l, n)] :: t) with out := { (S0 ps ([(l, n)] :: t)).out with found := true } } := by
     unfold St.raise
     rw [if_neg hroot, hlook]
     simp only
     rw [if_pos hnr]
    rw [n1, e1]
    exact ⟨_, rfl, rfl, rfl, rfl⟩
  | cons y r =>
    right
    have hnr : n.right = ptr y.1 := hch
    have hyv : Z0w (ptr y.1) = true := (h.sees y (by simp [flat])).valid
    have hnn : ¬ n.right = nilP := fun e => by rw [hnr] at e; rw [e, Z2T] at hyv; cases hyv
    have hlev : n.level = (t.length : Int) := hlv.level (l, n) (by simp)
    have hl8 : ¬ n.level = 8 := by simp only [List.length_cons] at hsm; omega
    have hfresh : nx ∉ lines (((l, n) :: y :: r) :: t) := fun hc => by
     obtain ⟨c, hc, e⟩ := List.mem_map.1 hc
     have := h.range c hc
     omega
    have ht := Tree.raise (new := nx) h.tree (by simp only [List.length_cons] at hsm; omega) hfresh (fun c hc => (h.sees c hc).valid)
    have hgd : Good (Z2D ((t.length : Int) + 1) n.high (ptr l) (ptr y.1)) := ⟨ht.levels.1.valid (nx, Z2D ((t.length : Int) + 1) n.high (ptr l) (ptr y.1)) (by simp), Int.le_refl _⟩
    have hw := h.Z0Y (es' := es) hnx hgd ht (fun c hc => by simp only [Z16, List.mem_append, List.mem_cons, List.not_mem_nil, or_false] at hc ⊢; rcases hc with hc | hc; exact .inl hc; exact .inr hc) rfl (by simp only [List.length_cons] at hsm ⊢; omega) (by rw [← h.holds]; simp [Z2A, List.getLastD_eq_getLast?])
    have hkp := Kept.Z0Y (T' := [(nx, Z2D ((t.length : Int) + 1) n.high (ptr l) (ptr y.1))] :: ((l, n) :: y :: r) :: t) h hnx hgd (by simp [flat]) (((([(nx, Z2D ((t.length : Int) + 1) n.high (ptr l) (ptr y.1))] :: ((l, n) :: y :: r) :: t : List (List Cell)).length - 1 : Nat)) : Int) (by simp only [List.length_cons] at hsm ⊢; omega)
    have hf1 : (S0 ps (((l, n) :: y :: r) :: t)).raise op ps = ({ S0 ps (((l, n) :: y :: r) :: t) with out := { (S0 ps (((l, n) :: y :: r) :: t)).out with fresh := 1 } } : St).fail 18 [] := by
     unfold St.raise
     rw [if_neg hroot, hlook]
     simp only
     rw [if_neg hnn, if_neg hl8, Z5s _ _ hop]
    have hline : (pg ps l).line = l := hse.line
    obtain ⟨ha, hb⟩ := h.alloc hnx
    have hat : at_ (Z1g (pg ps nx)) = ptr nx := by simp [at_, ptr, hb.gen, hb.line]
    have hf2 : (S0 ps (((l, n) :: y :: r) :: t)).raise { op with fresh := [pg ps nx] } ps = (S0 ps (((l, n) :: y :: r) :: t)).finish [Bt.Z0Y (pg ps 96) (ptr nx) (((([(nx, Z2D ((t.length : Int) + 1) n.high (ptr l) (ptr y.1))] :: ((l, n) :: y :: r) :: t : List (List Cell)).length - 1 : Nat)) : Int), (Z2D ((t.length : Int) + 1) n.high (ptr l) (ptr y.1)).fill (Z1g (pg ps nx))] [l] := by
     unfold St.raise
     rw [if_neg hroot, hlook]
     simp only
     rw [if_neg hnn, if_neg hl8, h.fresh_some hnx _ _ _ (by rw [hline]; simp; omega)]
     simp only
     rw [hat, hline, hlev, hnr]
     have e : (((([(nx, Z2D ((t.length : Int) + 1) n.high (ptr l) (ptr y.1))] :: ((l, n) :: y :: r) :: t : List (List Cell)).length - 1 : Nat)) : Int) = (t.length : Int) + 1 := by simp
     rw [e]
     rfl
    rw [hf1, Z1q (s := ({ S0 ps (((l, n) :: y :: r) :: t) with out := { (S0 ps (((l, n) :: y :: r) :: t)).out with fresh := 1 } } : St)) rfl] at n1
    rw [hf2, Z3f (s := S0 ps (((l, n) :: y :: r) :: t)) rfl] at n2
    have hbd := h.bound
    rw [Z3z (by show (pg ps 96).line < (pg ps nx).line; have h7 : (pg ps nx).line = nx := hb.line; omega)] at n2
    exact ⟨(l, n), y, r, t, _, rfl, ⟨_, nx + 1, _, .inr ⟨_, n1, rfl, rfl, hnx, n2, rfl⟩, Int.le_refl _, hw.2, hw.1, hkp, by rw [show nx + 1 - nx = 1 by omega]; exact Evo.raise, rfl⟩, rfl, rfl, rfl⟩
theorem Z7m (a b : List Entry) (e : Entry) (k : Int) (p q : Ptr) : setTo (Z0h (a ++ e :: b) a.length ⟨k, p⟩) (a.length + 1) q = a ++ ⟨k, p⟩ :: ⟨e.key, q⟩ :: b := by
 have h1 : Z0h (a ++ e :: b) a.length ⟨k, p⟩ = (a ++ [⟨k, p⟩]) ++ e :: b := by simp [Z0h, List.take_left, List.drop_left]
 have h2 : ∀ (u : List Entry) (v : List Entry), setTo (u ++ e :: v) u.length q = u ++ ⟨e.key, q⟩ :: v := fun u v => by
  unfold setTo
  rw [List.modify_eq_take_cons_drop (by simp)]
  have h3 : (u ++ e :: v)[u.length]'(by simp) = e := by simp
  have h4 : List.drop (u.length + 1) (u ++ e :: v) = v := by
   rw [show u ++ e :: v = (u ++ [e]) ++ v by simp, show u.length + 1 = (u ++ [e]).length by simp, List.drop_left]
  rw [h3, h4, List.take_left]
 rw [h1, show a.length + 1 = (a ++ [(⟨k, p⟩ : Entry)]).length by simp, h2]
 simp
theorem Z3X {p : Int} {a b : List Entry} {e : Entry} (h : Z09 p (a ++ e :: b) = true) : (∀ g ∈ a, g.key ≤ Z1l p a) ∧ Z1l p a < e.key ∧ ∀ g ∈ b, e.key < g.key := by
 rw [Z0C] at h
 have h2 := h.2
 simp only [Z09, Bool.and_eq_true, decide_eq_true_eq] at h2
 exact ⟨(Z5a h.1).2, h2.1.1, fun g hg => (Z3B h2.2 g hg).1⟩
structure PostAt (T : List (List Cell)) (lev : Nat) (key : Int) (pre post : List (List Cell)) (A R lo a' b' : List Cell) (l : Int) (n : Node) (a b : List Entry) (e : Entry) (x : Cell) : Prop where
 tree : T = pre ++ (A ++ (l, n) :: R) :: lo :: post
 len : post.length = lev
 ents : n.entries = a ++ e :: b
 left : ∀ g ∈ a, g.key < key
 here : key ≤ e.key
 low : lo = a' ++ x :: b'
 to : e.to = ptr x.1
 live : x.2.dead = false
 over : Z05 0 A < key
theorem Inv.post {ps : List Page} {nx : Int} {es : List Entry} {T : List (List Cell)} (h : Inv ps nx es T) (hnx : nx < 256) {op : Op} (hkd : op.kind = 5) (hop : op.fresh = []) (hk : 1 ≤ op.key) (hk2 : op.key ≤ Z08) {lev : Nat} (hlev : op.level = (lev : Int)) (hl8 : lev < 8) :
 (T.length ≤ lev + 1 ∧ ∃ o, next op ps = ⟨[], [], o, true⟩ ∧ o.code = 16) ∨
  ∃ pre post A R lo a' b' l n a b e x, PostAt T lev op.key pre post A R lo a' b' l n a b e x ∧
   ((e.key ≤ x.2.high ∧ ∃ o, next op ps = ⟨[], [], o, true⟩ ∧ o.code = 0 ∧ o.found = true ∧ o.done = false) ∨ (x.2.high < e.key ∧ ∃ o, Z7U (fun _ T' => ∃ lv', T' = pre ++ lv' :: lo :: post ∧ (Bt.ents lv').length = (Bt.ents (A ++ (l, n) :: R)).length + 1 ∧ Z14 lv' nilP = Z14 (A ++ (l, n) :: R) nilP) 0 op ps nx es T o ∧ o.code = 0 ∧ o.done = true ∧ o.found = false)) := by
 have hva : ∀ fr, ({ op with fresh := fr } : Op).isValid = true := fun fr => by unfold Op.isValid; simp [hkd, hk, hlev]; omega
 have hv : op.isValid = true := hva op.fresh
 have hg : ∀ o : Op, o.kind = 5 → (S0 ps T).go o ps = (S0 ps T).post o ps := fun o ho => by unfold St.go; rw [if_neg (by omega), if_neg (by omega), if_neg (by omega), if_neg (by omega), if_pos ho]
 have n1 := h.step hv
 have n2 := h.step (hva [pg ps nx])
 rw [hg op hkd] at n1
 rw [hg { op with fresh := [pg ps nx] } hkd] at n2
 by_cases hT : T = []
 ·left
  subst hT
  refine ⟨by simp, ?_⟩
  have e1 : (S0 ps []).post op ps = (S0 ps []).fail 16 [] := by unfold St.post; rw [if_pos (show (S0 ps []).root = nilP from rfl)]
  rw [n1, e1, Z1q rfl]
  exact ⟨_, rfl, rfl⟩
 have hroot : ¬ (S0 ps T).root = nilP := fun e => hT (h.rootNil.1 e)
 by_cases hsh : T.length ≤ lev + 1
 ·left
  refine ⟨hsh, ?_⟩
  have e1 : (S0 ps T).post op ps = (S0 ps T).fail 16 [] := by
   unfold St.post
   rw [if_neg hroot, hlev, show (lev : Int) + 1 = ((lev + 1 : Nat) : Int) by omega, h.absent hsh hT _ _ rfl]
  rw [n1, e1, Z1q rfl]
  exact ⟨_, rfl, rfl⟩
 right
 obtain ⟨pre, A, l, n, R, post, hs, i1, i2, i3, i4, i5, i6, i7, i8, i9⟩ := h.descend (lev := lev + 1) (by omega) hk hk2
 obtain ⟨lo, post, rfl⟩ : ∃ lo p, post = lo :: p := by
  cases post with
  | nil => simp at i2
  | cons lo p => exact ⟨lo, p, rfl⟩
 have hlp : post.length = lev := by simpa using i2
 have hlevels : Levels ((A ++ (l, n) :: R) :: lo :: post) := (i1 ▸ h.tree.levels).append
 have hlinks : Links ((A ++ (l, n) :: R) :: lo :: post) := (i1 ▸ h.tree.links).append
 have hnp : ¬ (l, n).2.passes op.key := fun hp => by
  rcases hp with hp | hp
  ·rw [i4] at hp; cases hp
  ·have : n.high < op.key := hp
   omega
 obtain ⟨a, e, b, a', x, b', z1, z2, z3, z4, z5, z6, z7, z8, z9, z10⟩ := Levels.down hlevels hlinks (by omega) rfl i3 hnp
 have hlvU := hlevels.1
 have hlvL := hlevels.2.1
 have hse : Sees ps l n := h.sees (l, n) i6
 have hxm : x ∈ flat T := by rw [i1, z5]; simp [flat]
 have hsx : Sees ps x.1 x.2 := h.sees x hxm
 have hrx := h.range x hxm
 have hrg : 105 ≤ l ∧ l < nx := h.range (l, n) i6
 have hgn : Good n := hse.good
 obtain ⟨a1, a2, a3, a4, a5, a6, a7, a8, a9, a10, a11⟩ := Node.valid_parts hgn.valid
 have hRu := hlvU.risingEnts
 have hz1 : n.entries = a ++ e :: b := z1
 have hEu : ents (A ++ (l, n) :: R) = (ents A ++ a) ++ e :: (b ++ ents R) := by rw [Z0I, Z0N, show (l, n).2.entries = n.entries from rfl, hz1]; simp
 rw [hEu] at hRu
 have hmid := Z3X hRu
 have hq : Z1l 0 (ents A ++ a) = Z05 0 a' := by rw [Z43]; exact z8.symm
 have hpost : ∀ (o : Op), o.key = op.key → o.level = op.level → (S0 ps T).post o ps =
  (if e.key ≤ x.2.high then { after hs (T.length : Int) (S0 ps T) with out := { (after hs (T.length : Int) (S0 ps T)).out with found := true } }
   else if 0 < a.length ∧ x.2.high ≤ ((a ++ e :: b).getD (a.length - 1) default).key then (after hs (T.length : Int) (S0 ps T)).fail 14 []
   else (after hs (T.length : Int) (S0 ps T)).store o (pg ps l) n (setTo (Z0h (a ++ e :: b) a.length ⟨x.2.high, e.to⟩) (a.length + 1) x.2.right) [x.1]) := fun o e1 e2 => by
  unfold St.post
  rw [if_neg hroot, e1, e2, hlev, show (lev : Int) + 1 = ((lev + 1 : Nat) : Int) by omega, i7 _ rfl]
  simp only
  have hc : child n.entries op.key = a.length := z2.symm
  have hgd : n.entries.getD a.length default = e := by rw [hz1]; simp [List.getD_eq_getElem?_getD, List.getElem?_append_right]
  rw [hc, hgd, z6, hsx.look]
  simp only
  rw [if_neg (by rw [show x.2.level = (post.length : Int) from hlvL.level x (by rw [z5]; simp)]; omega), if_neg (by rw [z7]; simp), hsx.line, hz1]
 have hat : PostAt T lev op.key pre post A R lo a' b' l n a b e x := ⟨i1, hlp, hz1, z10, z4, z5, z6, z7, i3⟩
 refine ⟨pre, post, A, R, lo, a', b', l, n, a, b, e, x, hat, ?_⟩
 by_cases hfound : e.key ≤ x.2.high
 ·left
  refine ⟨hfound, ?_⟩
  rw [n1, hpost op rfl rfl, if_pos hfound]
  exact ⟨_, rfl, rfl, rfl, rfl⟩
 right
 have hxe : x.2.high < e.key := by omega
 refine ⟨hxe, ?_⟩
 -- the right neighbour
 have hek : e.key ≤ n.high := by have := Z2j a4 e (by rw [hz1]; simp); omega
 have hgnh := hgn.high
 obtain ⟨y, b'', rfl⟩ : ∃ y r, b' = y :: r := by
  cases b' with
  | cons y r => exact ⟨y, r, rfl⟩
  | nil =>
    exfalso
    have hch0 := hlvL.chain
    rw [z5] at hch0
    have hch := (Chain.append.1 hch0).2.1
    have hxv := Node.valid_parts (hlvL.valid x (by rw [z5]; simp))
    have h1 : x.2.right = nilP := hch
    have h2 : x.2.high = Z08 := hxv.2.2.2.2.2.2.1.2 h1
    omega
 have hxy : x.2.right = ptr y.1 := by
  have hch0 := hlvL.chain
  rw [z5] at hch0
  exact (Chain.append.1 hch0).2.1
 have hlx := Rise.at_low (z5 ▸ hlvL.rise) z7
 have hyl : y.2.dead = false := by
  cases post with
  | cons c t => exact hlvL.live (by simp only [List.length_cons]; omega) y (by rw [z5]; simp)
  | nil =>
    cases hyd : y.2.dead with
    | false => rfl
    | true =>
      exfalso
      have hD := Deads.get (pre := pre) (by have := h.tree.deads; rw [i1] at this; exact this)
      rw [z5, Dead.append] at hD
      have hD2 := hD.2
      simp only [Dead, z7, hyd, if_true] at hD2
      obtain ⟨⟨g, hg, hgk⟩, _⟩ := hD2
      rw [hEu] at hg
      rcases List.mem_append.1 hg with hg | hg
      ·have h1 := hmid.1 g hg
       rw [hq] at h1
       have := hlx.1
       omega
      ·rcases List.mem_cons.1 hg with rfl | hg
       ·omega
       ·have := hmid.2.2 g hg; omega
 have hym : y ∈ flat T := by rw [i1, z5]; simp [flat]
 have hyv : Z0w (ptr y.1) = true := (h.sees y hym).valid
 have hxv : Z0w (ptr x.1) = true := hsx.valid
 have hprev : ¬ (0 < a.length ∧ x.2.high ≤ ((a ++ e :: b).getD (a.length - 1) default).key) := by
  rintro ⟨hpos, hle⟩
  obtain ⟨g, hg⟩ : ∃ g, a[a.length - 1]? = some g := ⟨_, List.getElem?_eq_getElem (by omega)⟩
  have hgd : (a ++ e :: b).getD (a.length - 1) default = g := by
   rw [List.getD_eq_getElem?_getD, List.getElem?_append_left (by omega), hg]; rfl
  rw [hgd] at hle
  have h1 := hmid.1 g (List.mem_append_right _ (List.mem_of_getElem? hg))
  rw [hq] at h1
  have := hlx.1
  omega
 obtain ⟨ns, hns⟩ : ∃ ns, ns = a ++ ⟨x.2.high, e.to⟩ :: ⟨e.key, ptr y.1⟩ :: b := ⟨_, rfl⟩
 have hst : setTo (Z0h (a ++ e :: b) a.length ⟨x.2.high, e.to⟩) (a.length + 1) x.2.right = ns := by rw [Z7m, hxy, hns]
 rw [hpost op rfl rfl, if_neg hfound, if_neg hprev, hst] at n1
 rw [hpost { op with fresh := [pg ps nx] } rfl rfl, if_neg hfound, if_neg hprev, hst] at n2
 have hlowA : 0 ≤ Z05 0 A := (Rise.append.1 hlvU.rise).1.low.1
 have hlA : Z1l 0 (ents A) = Z05 0 A := Level.Z1l (l := (((lo :: post).length : Nat) : Int)) (by simp only [List.length_cons]; omega) (fun c hc => hlvU.valid c (by simp [hc])) (fun c hc => hlvU.level c (by simp [hc])) 0
 have hqa : Z1l (Z05 0 A) a = Z05 0 a' := by rw [z8, hlA]
 have hnl : n.level = ((post.length : Nat) : Int) + 1 := by have := hlvU.level (l, n) (by simp); simpa using this
 have hrn : Z09 (Z05 0 A) (a ++ e :: b) = true := by
  have h1 : Z09 0 (a ++ e :: b) = true := hz1 ▸ a4
  have h2 := (Rise.at_low hlvU.rise i4).2
  exact Z3j h1 (fun g hg => h2 g (by show g ∈ n.entries; rw [hz1]; exact hg))
 have hrn2 := Z0C.1 hrn
 have hrn3 := hrn2.2
 simp only [Z09, Bool.and_eq_true, decide_eq_true_eq] at hrn3
 have hlast : Z03 ns = Z03 n.entries := by
  rw [hns, hz1, Z1n a (by simp), Z1n a (by simp)]
  cases b with
  | nil => rfl
  | cons g b => rfl
 have hfits : Fits n (Z05 0 A) ns := by
  refine ⟨?_, by rw [hlast]; exact a8, fun hl => by rw [hlast]; exact a10 hl, fun hl => by rw [hlast]; exact a11 hl⟩
  rw [hns]
  refine Z0C.2 ⟨hrn2.1, ?_⟩
  simp only [Z09, Bool.and_eq_true, decide_eq_true_eq]
  rw [hqa]
  exact ⟨⟨hlx.1, by rw [z6]; exact hxv⟩, ⟨hxe, hyv⟩, hrn3.2⟩
 have hnslen : ns.length = n.entries.length + 1 := by rw [hns, hz1]; simp; omega
 have hnames : Names lo 0 (ents A ++ (ns ++ ents R)) := by
  have hN : Names lo 0 (ents (A ++ (l, n) :: R)) := hlinks.1
  rw [hEu, Names.append] at hN
  rw [hns, show ents A ++ ((a ++ ⟨x.2.high, e.to⟩ :: ⟨e.key, ptr y.1⟩ :: b) ++ ents R) = (ents A ++ a) ++ (⟨x.2.high, e.to⟩ :: ⟨e.key, ptr y.1⟩ :: (b ++ ents R)) by simp]
  refine Names.append.2 ⟨hN.1, ?_, ?_, hN.2.2⟩
  ·exact hN.2.1
  ·refine ⟨a' ++ [x], y, b'', by rw [z5]; simp, rfl, hyl, ?_⟩
   rw [Z0S, Z1A _ z7]
 have hkeys : ∀ g ∈ n.entries, ∃ g' ∈ ns, g'.key = g.key := fun g hg => by
  rw [hz1] at hg
  rw [hns]
  rcases List.mem_append.1 hg with hg | hg
  ·exact ⟨g, by simp [hg], rfl⟩
  ·rcases List.mem_cons.1 hg with rfl | hg
   ·exact ⟨⟨g.key, ptr y.1⟩, by simp, rfl⟩
   ·exact ⟨g, by simp [hg], rfl⟩
 obtain ⟨T', ws, nx', s1, s2, s3, s4, s5, s6⟩ := h.store (es' := es) hnx i1 i4 hfits hlowA (by omega) (fun e => by have := congrArg List.length e; omega) (fun lo' t hp => by
  simp only [List.cons.injEq] at hp
  obtain ⟨rfl, rfl⟩ := hp
  exact ⟨hnames, hkeys⟩) ⟨fun hp => (by cases hp), fun _ => rfl⟩ op hop (after hs (T.length : Int) (S0 ps T)) rfl rfl [x.1] (by simp; omega)
 have hxlo : x ∈ lo := by rw [z5]; simp
 have hylo : y ∈ lo := by rw [z5]; simp
 have hevo : Evo nx (nx' - nx) 0 0 T T' := by
  rw [i1]
  rcases s5 with ⟨e1, en, _⟩ | ⟨e1, e2, w1, w2, w3, w4, w5, w6, w7, w8⟩
  ·rw [e1, hns, en, Int.sub_self]; exact Evo.post hz1 z6 hxlo hxy hylo hyl hxe
  ·rw [w8, w6, show nx + 1 - nx = 1 by omega]; exact Evo.postSplit hz1 z6 hxlo hxy hylo hyl hxe (hns ▸ w1) w2 w3 w4 w5
 have hQ : ∃ lv', T' = pre ++ lv' :: lo :: post ∧ (Bt.ents lv').length = (Bt.ents (A ++ (l, n) :: R)).length + 1 ∧ Z14 lv' nilP = Z14 (A ++ (l, n) :: R) nilP := by
  have hE : (Bt.ents (A ++ (l, n) :: R)).length = (Bt.ents A).length + (n.entries.length + (Bt.ents R).length) := by rw [Z0I, Z0N]; simp
  rcases s5 with ⟨e1, _⟩ | ⟨e1, e2, w1, _, _, _, _, _, _, w8⟩
  ·refine ⟨_, e1, ?_, by rw [Z21, Z21]; rfl⟩
   rw [hE, Z0I, Z0N]
   simp only [List.length_append]
   rw [hnslen]; omega
  ·refine ⟨_, w8, ?_, by rw [Z21, Z21]; rfl⟩
   have := congrArg List.length w1
   rw [hnslen, List.length_append] at this
   rw [hE, Z0I, Z0N, Z0N]
   simp only [List.length_append, Z0o, Z0p]
   omega
 rcases s6 with ⟨c1, c2, c3⟩ | ⟨o1, c1, c2, c3, c4, c5⟩ | c1
 ·rw [c1, c2] at n1
  exact ⟨_, ⟨ws, nx', T', .inl ⟨n1, c3⟩, s1, s2, s3, s4, hevo, hQ⟩, rfl, rfl, rfl⟩
 ·rw [c1] at n1
  rw [c5] at n2
  exact ⟨_, ⟨ws, nx', T', .inr ⟨o1, n1, (c2 c3).1, (c2 c3).2, hnx, n2, c4⟩, s1, s2, s3, s4, hevo, hQ⟩, rfl, rfl, rfl⟩
 ·exact absurd rfl c1
theorem Inv.writePair {ps : List Page} {nx : Int} {es es' : List Entry} {T T' : List (List Cell)} (h : Inv ps nx es T) {l k : Int} {n n' m m' : Node} (hs : Sees ps l n) (hs2 : Sees ps k m) (hl : 105 ≤ l ∧ l < nx) (hk : 105 ≤ k ∧ k < nx) (hlk : l < k) (hg : Good n') (hg2 : Good m') (ht : Tree T')
 (hf : ∀ c ∈ flat T', c = (l, n') ∨ c = (k, m') ∨ (c ∈ flat T ∧ c.1 ≠ l ∧ c.1 ≠ k)) (hr : Z1i T' = Z1i T) (hlen : T'.length = T.length) (he : Z2A T' = es') (hm1 : (l, n') ∈ flat T') (hn1 : (l, n') ∉ flat T) (hm2 : (k, m') ∈ flat T') (hn2 : (k, m') ∉ flat T) :
 Inv (Z0J ps [n'.fill (pg ps l), m'.fill (pg ps k)]) nx es' T' ∧ Commits ps [n'.fill (pg ps l), m'.fill (pg ps k)] ∧ Kept ps (Z0J ps [n'.fill (pg ps l), m'.fill (pg ps k)]) T T' := by
 have hb := hs.blank h.ix
 have hb2 := hs2.blank h.ix
 obtain ⟨h1, h2, h3⟩ := hb.put h.ix hg
 obtain ⟨k1, k2, k3⟩ := hb2.put h1 hg2
 have hbd := h.bound
 have hpg : ∀ l', 96 ≤ l' → l' ≠ l → l' ≠ k → latest (Z0J ps [n'.fill (pg ps l), m'.fill (pg ps k)]) l' = latest ps l' := fun l' a b c => (k3 l' a c).trans (h3 l' a b)
 refine ⟨⟨k1, ht, fun c hc => ?_, fun c hc => ?_, hbd, fun l' a b => ?_, ?_, he⟩, Commits.pair ⟨by show 96 ≤ (pg ps l).line; rw [hs.line]; omega, by show (pg ps l).line < 256; rw [hs.line]; omega, hg.fill_ok hb.ok, by show (pg ps l).head = (pg ps (pg ps l).line).head; rw [hs.line]⟩
  ⟨by show 96 ≤ (pg ps k).line; rw [hs2.line]; omega, by show (pg ps k).line < 256; rw [hs2.line]; omega, hg2.fill_ok hb2.ok, by show (pg ps k).head = (pg ps (pg ps k).line).head; rw [hs2.line]⟩ (by show (pg ps l).line < (pg ps k).line; rw [hs.line, hs2.line]; exact hlk), fun l' hl' hkk => ?_⟩
 ·rcases hf c hc with rfl | rfl | ⟨hc, hne, hne2⟩
  ·exact h2.congr (k3 l (by omega) (by omega))
  ·exact k2
  ·have := h.range c hc
   exact (h.sees c hc).congr (hpg c.1 (by omega) hne hne2)
 ·rcases hf c hc with rfl | rfl | ⟨hc, hne⟩
  ·exact hl
  ·exact hk
  ·exact h.range c hc
 ·rw [Z54 (hpg l' (by omega) (by omega) (by omega))]; exact h.fresh l' a b
 ·rw [Z54 (hpg 96 (by omega) (by omega) (by omega)), hr, hlen]; exact h.root
 ·exact hpg l' (by omega) (fun e => by subst e; exact hn1 (hkk n' hm1)) (fun e => by subst e; exact hn2 (hkk m' hm2))
theorem Z7o (pre : List (List Cell)) {A R : List Cell} {l : Int} {n n' : Node} {ms M : List Cell} : Z1i (pre ++ [A ++ ((l, n') :: ms ++ R)]) = Z1i (pre ++ [A ++ ((l, n) :: M ++ R)]) := Z4i pre []
theorem Z5A (pre : List (List Cell)) {U V lo lo' : List Cell} {l : Int} {n n' : Node} : Z1i (pre ++ [U ++ (l, n') :: V, lo']) = Z1i (pre ++ [U ++ (l, n) :: V, lo]) := by
 cases pre with
 | nil => cases U <;> rfl
 | cons c pre => cases c <;> rfl
structure Quiet (op : Op) (ps : List Page) (o : Out) : Prop where
 next : next op ps = ⟨[], [], o, true⟩
theorem Inv.kill {ps : List Page} {nx : Int} {es : List Entry} {T : List (List Cell)} (h : Inv ps nx es T) {op : Op} (hkd : op.kind = 7) (hk : 1 ≤ op.key) (hk2 : op.key ≤ Z0e) :
 (∃ o, next op ps = ⟨[], [], o, true⟩ ∧ (o.code = 16 ∧ o.done = false ∨ o.code = 7 ∧ o.done = false ∨ (o.code = 0 ∧ o.found = true ∧ o.done = false))) ∨
  ∃ o ws T', next op ps = ⟨[], ws, o, true⟩ ∧ Commits ps ws ∧ Inv (Z0J ps ws) nx es T' ∧ Kept ps (Z0J ps ws) T T' ∧ o.code = 0 ∧ o.done = true ∧ o.found = false ∧
   ∃ pre U V A R lp l p n es1 es2 e f, T = pre ++ [U ++ ((lp, p) :: V), A ++ ((l, n) :: R)] ∧ Z05 0 A < op.key ∧ op.key ≤ n.high ∧ n.dead = false ∧ n.entries = [] ∧ p.entries = es1 ++ e :: f :: es2 ∧ e.to = ptr l ∧ e.key = n.high ∧
    T' = pre ++ [U ++ ((lp, { p with entries := es1 ++ f :: es2 }) :: V), A ++ ((l, { n with dead := true }) :: R)] := by
 have hv : op.isValid = true := by unfold Op.isValid; simp [hkd, isKey, hk, hk2]
 have hgo : (S0 ps T).go op ps = (S0 ps T).kill op ps := by unfold St.go; rw [if_neg (by omega), if_neg (by omega), if_neg (by omega), if_neg (by omega), if_neg (by omega), if_neg (by omega), if_pos hkd]
 rw [h.step hv, hgo]
 by_cases hT : T = []
 ·left
  subst hT
  have e1 : (S0 ps []).kill op ps = (S0 ps []).fail 16 [] := by unfold St.kill; rw [if_pos (show (S0 ps []).root = nilP from rfl)]
  rw [e1, Z1q rfl]
  exact ⟨_, rfl, .inl ⟨rfl, rfl⟩⟩
 have hroot : ¬ (S0 ps T).root = nilP := fun e => hT (h.rootNil.1 e)
 have hkm : op.key ≤ Z08 := by unfold Z0e at hk2; unfold Z08; omega
 obtain ⟨pre, A, l, n, R, hs, i1, i3, i3b, i4, i5, i5b, i6, i6b, i6c, i7, i8, i9, i10, i11, i12, i13⟩ := h.leaf hT hk hkm
 have hline : (pg ps l).line = l := i6.line
 by_cases hq : 0 < n.entries.length ∨ n.leftmost = true ∨ n.right = nilP
 ·left
  have e1 : (S0 ps T).kill op ps = { after hs (T.length : Int) (S0 ps T) with out := { (after hs (T.length : Int) (S0 ps T)).out with found := true } } := by
   unfold St.kill
   rw [if_neg hroot, i7 _ rfl]
   simp only
   rw [if_pos hq]
  rw [e1]
  exact ⟨_, rfl, .inr (.inr ⟨rfl, rfl, rfl⟩)⟩
 by_cases hT1 : T.length ≤ 1
 ·left
  have e1 : (S0 ps T).kill op ps = (after hs (T.length : Int) (S0 ps T)).fail 7 [] := by
   unfold St.kill
   rw [if_neg hroot, i7 _ rfl]
   simp only
   rw [if_neg hq, show (1 : Int) = ((1 : Nat) : Int) by rfl, h.absent hT1 hT _ (after hs (T.length : Int) (S0 ps T)) rfl]
  rw [e1, Z1q rfl]
  exact ⟨_, rfl, .inr (.inl ⟨rfl, rfl⟩)⟩
 obtain ⟨pre2, U, lp, p, V, post, hs2, j1, j2, j3, j4, j5, j6, j7, j8, j9⟩ := h.descend (lev := 1) (by omega) hk hkm
 obtain ⟨lo, rfl⟩ : ∃ lo, post = [lo] := List.length_eq_one_iff.1 j2
 have hlo : lo = A ++ (l, n) :: R ∧ pre = pre2 ++ [U ++ (lp, p) :: V] := by
  have h1 : pre ++ [A ++ (l, n) :: R] = (pre2 ++ [U ++ (lp, p) :: V]) ++ [lo] := by rw [← i1, j1]; simp
  have h2 := List.append_inj' h1 rfl
  exact ⟨(by simpa using h2.2.symm), h2.1⟩
 obtain ⟨rfl, rfl⟩ := hlo
 have hTe : T = pre2 ++ [U ++ (lp, p) :: V, A ++ (l, n) :: R] := j1
 have hsp : Sees ps lp p := h.sees (lp, p) j6
 have hrp : 105 ≤ lp ∧ lp < nx := h.range (lp, p) j6
 have hdesc2 := j7 (after hs (T.length : Int) (S0 ps T)) rfl
 have hkill : (S0 ps T).kill op ps =
  (let t := after hs2 (T.length : Int) (after hs (T.length : Int) (S0 ps T))
   if (p.entries.getD (child p.entries op.key) default).to ≠ at_ (pg ps l) ∨ (p.entries.getD (child p.entries op.key) default).key ≠ n.high then t.fail 7 []
   else if child p.entries op.key + 1 = p.entries.length then { t with out := { t.out with found := true } }
   else t.finish [({ n with dead := true } : Node).fill (pg ps l), ({ p with entries := Z0B p.entries (child p.entries op.key) } : Node).fill (pg ps lp)] []) := by
  unfold St.kill
  rw [if_neg hroot, i7 _ rfl]
  simp only
  rw [if_neg hq]
  have e := hdesc2
  rw [show ((1 : Nat) : Int) = 1 from rfl] at e
  rw [e]
 rw [hkill]
 by_cases hc : (p.entries.getD (child p.entries op.key) default).to ≠ at_ (pg ps l) ∨ (p.entries.getD (child p.entries op.key) default).key ≠ n.high
 ·left
  simp only
  rw [if_pos hc, Z1q rfl]
  exact ⟨_, rfl, .inr (.inl ⟨rfl, rfl⟩)⟩
 by_cases hlast : child p.entries op.key + 1 = p.entries.length
 ·left
  simp only
  rw [if_neg hc, if_pos hlast]
  exact ⟨_, rfl, .inr (.inr ⟨rfl, rfl, rfl⟩)⟩
 right
 simp only
 rw [if_neg hc, if_neg hlast]
 have hto : (p.entries.getD (child p.entries op.key) default).to = at_ (pg ps l) := by
  by_cases hx : (p.entries.getD (child p.entries op.key) default).to = at_ (pg ps l)
  ·exact hx
  ·exact absurd (.inl hx) hc
 have hkey : (p.entries.getD (child p.entries op.key) default).key = n.high := by
  by_cases hx : (p.entries.getD (child p.entries op.key) default).key = n.high
  ·exact hx
  ·exact absurd (.inr hx) hc
 rw [i6.at] at hto
 -- the entry and the one behind it
 have hlevels : Levels ((U ++ (lp, p) :: V) :: [A ++ (l, n) :: R]) := (hTe ▸ h.tree.levels).append
 have hlinks : Links ((U ++ (lp, p) :: V) :: [A ++ (l, n) :: R]) := (hTe ▸ h.tree.links).append
 have hlvU := hlevels.1
 have hlvL := hlevels.2.1
 have hgp : Good p := hsp.good
 have hgn : Good n := i6.good
 obtain ⟨a1, a2, a3, a4, a5, a6, a7, a8, a9, a10, a11⟩ := Node.valid_parts hgp.valid
 have hlevp : p.level = 1 := by have := hlvU.level (lp, p) (by simp); simpa using this
 have hkh : op.key ≤ Z03 p.entries := by rw [a10 (by omega)]; exact j5
 obtain ⟨es1, e, es2, z1, z2, z3, z4, z5⟩ := Z5v (by omega) hkh
 have hge : p.entries.getD (child p.entries op.key) default = e := by rw [List.getD_eq_getElem?_getD, z5]; rfl
 rw [hge] at hto hkey
 obtain ⟨f, es2, rfl⟩ : ∃ f r, es2 = f :: r := by
  cases es2 with
  | cons f r => exact ⟨f, r, rfl⟩
  | nil => exfalso; apply hlast; rw [← z2, z1]; simp
 have hdel : Z0B p.entries (child p.entries op.key) = es1 ++ f :: es2 := by
  rw [← z2, z1]
  unfold Z0B
  rw [List.take_left, show es1 ++ e :: f :: es2 = (es1 ++ [e]) ++ f :: es2 by simp, show es1.length + 1 = (es1 ++ [e]).length by simp, List.drop_left]
 rw [hdel]
 have hempty : n.entries = [] := by
  cases hn : n.entries with
  | nil => rfl
  | cons x y => exact absurd (.inl (by rw [hn]; simp)) hq
 have hlm : n.leftmost = false := by
  cases hn : n.leftmost with
  | false => rfl
  | true => exact absurd (.inr (.inl hn)) hq
 have hnr : n.right ≠ nilP := fun e => hq (.inr (.inr e))
 have ht := Tree.kill (hTe ▸ h.tree) i4 hlm hempty hnr z1 hto hkey
 have hlvU' := ht.level
 have hlvL' : Level ((([] : List (List Cell)).length : Nat) : Int) (A ++ ((l, { n with dead := true }) :: R)) := Tree.level (pre := pre2 ++ [U ++ ((lp, { p with entries := es1 ++ f :: es2 }) :: V)]) (by simpa using ht)
 have hg1 : Good ({ n with dead := true } : Node) := ⟨hlvL'.valid (l, { n with dead := true }) (by simp), hgn.high⟩
 have hg2 : Good ({ p with entries := es1 ++ f :: es2 } : Node) := ⟨hlvU'.valid (lp, { p with entries := es1 ++ f :: es2 }) (by simp), hgp.high⟩
 have hflat : flat T = (flat pre2 ++ U) ++ ([(lp, p)] ++ (V ++ (A ++ ([(l, n)] ++ R)))) := by rw [hTe]; simp [Z0P, Z16, flat]
 have hflat' : ∀ (p' n' : Node), flat (pre2 ++ [U ++ ((lp, p') :: V), A ++ ((l, n') :: R)]) = (flat pre2 ++ U) ++ ([(lp, p')] ++ (V ++ (A ++ ([(l, n')] ++ R)))) := fun p' n' => by simp [Z0P, Z16, flat]
 have hnd := h.tree.nodup
 rw [lines, hflat] at hnd
 obtain ⟨o1, o2⟩ := Z41 hnd
 have hnd2 : ((flat pre2 ++ U ++ [(lp, p)] ++ V ++ A ++ ([(l, n)] ++ R)).map (·.1)).Nodup := by simpa using hnd
 obtain ⟨o3, o4⟩ := Z41 hnd2
 have hllp : lp ≠ l := o3 (lp, p) (by simp)
 have hnot1 : ∀ m, m ≠ n → (l, m) ∉ flat T := fun m hm hc => by
  rw [hflat] at hc
  simp only [List.mem_append, List.mem_singleton] at hc
  rcases hc with (hc | hc) | hc | hc | hc | hc | hc
  ·exact o3 (l, m) (by simp [hc]) rfl
  ·exact o3 (l, m) (by simp [hc]) rfl
  ·simp at hc; exact hllp hc.1.symm
  ·exact o3 (l, m) (by simp [hc]) rfl
  ·exact o3 (l, m) (by simp [hc]) rfl
  ·simp at hc; exact hm hc
  ·exact o4 (l, m) hc rfl
 have hnot2 : ∀ m, m ≠ p → (lp, m) ∉ flat T := fun m hm hc => by
  rw [hflat] at hc
  simp only [List.mem_append, List.mem_singleton] at hc
  rcases hc with (hc | hc) | hc | hc | hc | hc | hc
  ·exact o1 (lp, m) (by simp [hc]) rfl
  ·exact o1 (lp, m) (by simp [hc]) rfl
  ·simp at hc; exact hm hc
  ·exact o2 (lp, m) (by simp [hc]) rfl
  ·exact o2 (lp, m) (by simp [hc]) rfl
  ·simp at hc; exact hllp hc.1
  ·exact o2 (lp, m) (by simp [hc]) rfl
 have hnn : ({ n with dead := true } : Node) ≠ n := fun e => by
  have h1 := congrArg Node.dead e
  rw [i4] at h1; cases h1
 have hpp : ({ p with entries := es1 ++ f :: es2 } : Node) ≠ p := fun e => by
  have h1 := congrArg (fun n => n.entries.length) e
  simp only [z1, List.length_append, List.length_cons] at h1
  omega
 have hm1 : (l, ({ n with dead := true } : Node)) ∈ flat (pre2 ++ [U ++ ((lp, { p with entries := es1 ++ f :: es2 }) :: V), A ++ ((l, { n with dead := true }) :: R)]) := by simp [flat]
 have hm2 : (lp, ({ p with entries := es1 ++ f :: es2 } : Node)) ∈ flat (pre2 ++ [U ++ ((lp, { p with entries := es1 ++ f :: es2 }) :: V), A ++ ((l, { n with dead := true }) :: R)]) := by simp [flat]
 have hf : ∀ c ∈ flat (pre2 ++ [U ++ ((lp, ({ p with entries := es1 ++ f :: es2 } : Node)) :: V), A ++ ((l, ({ n with dead := true } : Node)) :: R)]), c = (l, ({ n with dead := true } : Node)) ∨ c = (lp, ({ p with entries := es1 ++ f :: es2 } : Node)) ∨ (c ∈ flat T ∧ c.1 ≠ l ∧ c.1 ≠ lp) := fun c hc => by
  rw [hflat'] at hc
  rw [hflat]
  simp only [List.mem_append, List.mem_singleton] at hc ⊢
  rcases hc with (hc | hc) | hc | hc | hc | hc | hc
  ·exact .inr (.inr ⟨.inl (.inl hc), o3 c (by simp [hc]), o1 c (by simp [hc])⟩)
  ·exact .inr (.inr ⟨.inl (.inr hc), o3 c (by simp [hc]), o1 c (by simp [hc])⟩)
  ·exact .inr (.inl hc)
  ·exact .inr (.inr ⟨.inr (.inr (.inl hc)), o3 c (by simp [hc]), o2 c (by simp [hc])⟩)
  ·exact .inr (.inr ⟨.inr (.inr (.inr (.inl hc))), o3 c (by simp [hc]), o2 c (by simp [hc])⟩)
  ·exact .inl hc
  ·exact .inr (.inr ⟨.inr (.inr (.inr (.inr (.inr hc)))), o4 c hc, o2 c (by simp [hc])⟩)
 have hents : Z2A (pre2 ++ [U ++ ((lp, ({ p with entries := es1 ++ f :: es2 } : Node)) :: V), A ++ ((l, ({ n with dead := true } : Node)) :: R)]) = es := by
  rw [← h.holds, hTe]
  rw [show pre2 ++ [U ++ ((lp, ({ p with entries := es1 ++ f :: es2 } : Node)) :: V), A ++ ((l, ({ n with dead := true } : Node)) :: R)] = (pre2 ++ [U ++ ((lp, ({ p with entries := es1 ++ f :: es2 } : Node)) :: V)]) ++ [A ++ ((l, ({ n with dead := true } : Node)) :: R)] by simp]
  rw [show pre2 ++ [U ++ (lp, p) :: V, A ++ (l, n) :: R] = (pre2 ++ [U ++ (lp, p) :: V]) ++ [A ++ (l, n) :: R] by simp, Z2f, Z2f]
  simp [Z0I, Z0N]
 have hres : ∃ pre U V A R lp l p n es1 es2 e f, T = pre ++ [U ++ ((lp, p) :: V), A ++ ((l, n) :: R)] ∧ Z05 0 A < op.key ∧ op.key ≤ n.high ∧ n.dead = false ∧ n.entries = [] ∧ p.entries = es1 ++ e :: f :: es2 ∧ e.to = ptr l ∧ e.key = n.high ∧
  (pre2 ++ [U ++ ((lp, ({ p with entries := es1 ++ f :: es2 } : Node)) :: V), A ++ ((l, ({ n with dead := true } : Node)) :: R)] = pre2 ++ [U ++ ((lp, ({ p with entries := es1 ++ f :: es2 } : Node)) :: V), A ++ ((l, ({ n with dead := true } : Node)) :: R)]) := ⟨pre2, U, V, A, R, lp, l, p, n, es1, es2, e, f, hTe, i3, i5, i4, hempty, z1, hto, hkey, rfl⟩
 rw [Z3f rfl]
 rcases Int.lt_or_gt_of_ne hllp with hlt | hlt
 ·obtain ⟨w1, w2, w3⟩ := h.writePair hsp i6 hrp ⟨i6b, i6c⟩ hlt hg2 hg1 ht (fun c hc => by
    rcases hf c hc with h1 | h1 | ⟨h1, h2, h3⟩
    ·exact .inr (.inl h1)
    ·exact .inl h1
    ·exact .inr (.inr ⟨h1, h3, h2⟩)) (by rw [hTe]; exact Z5A _) (by rw [hTe]; simp) hents hm2 (hnot2 _ hpp) hm1 (hnot1 _ hnn)
  have hsort : Z1T [({ n with dead := true } : Node).fill (pg ps l), ({ p with entries := es1 ++ f :: es2 } : Node).fill (pg ps lp)] = [({ p with entries := es1 ++ f :: es2 } : Node).fill (pg ps lp), ({ n with dead := true } : Node).fill (pg ps l)] := by
   simp only [Z1T]
   rw [if_pos]
   show (pg ps lp).line < (pg ps l).line
   rw [hsp.line, hline]; exact hlt
  rw [hsort]
  exact ⟨_, _, _, rfl, w2, w1, w3, rfl, rfl, rfl, pre2, U, V, A, R, lp, l, p, n, es1, es2, e, f, hTe, i3, i5, i4, hempty, z1, hto, hkey, rfl⟩
 ·obtain ⟨w1, w2, w3⟩ := h.writePair i6 hsp ⟨i6b, i6c⟩ hrp hlt hg1 hg2 ht hf (by rw [hTe]; exact Z5A _) (by rw [hTe]; simp) hents hm1 (hnot1 _ hnn) hm2 (hnot2 _ hpp)
  rw [Z3z (by show (pg ps l).line < (pg ps lp).line; rw [hsp.line, hline]; exact hlt)]
  exact ⟨_, _, _, rfl, w2, w1, w3, rfl, rfl, rfl, pre2, U, V, A, R, lp, l, p, n, es1, es2, e, f, hTe, i3, i5, i4, hempty, z1, hto, hkey, rfl⟩
theorem Inv.unlink {ps : List Page} {nx : Int} {es : List Entry} {T : List (List Cell)} (h : Inv ps nx es T) {op : Op} (hkd : op.kind = 8) (hk : 1 ≤ op.key) (hk2 : op.key ≤ Z0e) :
 (∃ o, next op ps = ⟨[], [], o, true⟩ ∧ (o.code = 16 ∧ o.done = false ∨ (o.code = 0 ∧ o.found = true ∧ o.done = false)) ∧
  (T ≠ [] → ∃ pre A l n R, T = pre ++ [A ++ (l, n) :: R] ∧ Z05 0 A < op.key ∧ op.key ≤ n.high ∧ n.dead = false ∧ ∀ c r, R = c :: r → c.2.dead = false)) ∨
  ∃ o ws T', next op ps = ⟨[], ws, o, true⟩ ∧ Commits ps ws ∧ Inv (Z0J ps ws) nx es T' ∧ Kept ps (Z0J ps ws) T T' ∧ o.code = 0 ∧ o.done = true ∧ o.found = false ∧
   ∃ pre A R l k n m, T = pre ++ [A ++ ((l, n) :: (k, m) :: R)] ∧ Z05 0 A < op.key ∧ op.key ≤ n.high ∧ n.dead = false ∧ m.dead = true ∧ T' = pre ++ [A ++ ((l, { n with right := m.right }) :: R)] ∧ o.to = ptr k := by
 have hv : op.isValid = true := by unfold Op.isValid; simp [hkd, isKey, hk, hk2]
 have hgo : (S0 ps T).go op ps = (S0 ps T).unlink op ps := by unfold St.go; rw [if_neg (by omega), if_neg (by omega), if_neg (by omega), if_neg (by omega), if_neg (by omega), if_neg (by omega), if_neg (by omega)]
 rw [h.step hv, hgo]
 by_cases hT : T = []
 ·left
  subst hT
  have e1 : (S0 ps []).unlink op ps = (S0 ps []).fail 16 [] := by unfold St.unlink; rw [if_pos (show (S0 ps []).root = nilP from rfl)]
  rw [e1, Z1q rfl]
  exact ⟨_, rfl, .inl ⟨rfl, rfl⟩, fun hT => absurd rfl hT⟩
 have hroot : ¬ (S0 ps T).root = nilP := fun e => hT (h.rootNil.1 e)
 have hkm : op.key ≤ Z08 := by unfold Z0e at hk2; unfold Z08; omega
 obtain ⟨pre, A, l, n, R, hs, i1, i3, i3b, i4, i5, i5b, i6, i6b, i6c, i7, i8, i9, i10, i11, i12, i13⟩ := h.leaf hT hk hkm
 have hline : (pg ps l).line = l := i6.line
 have hlv : Level ((([] : List (List Cell)).length : Nat) : Int) (A ++ (l, n) :: R) := Tree.level (pre := pre) (i1 ▸ h.tree)
 have hch : n.right = Z14 R nilP := (Chain.append.1 hlv.chain).2.1
 cases R with
 | nil =>
   left
   have hnr : n.right = nilP := hch
   have e1 : (S0 ps T).unlink op ps = { after hs (T.length : Int) (S0 ps T) with out := { (after hs (T.length : Int) (S0 ps T)).out with found := true } } := by
    unfold St.unlink
    rw [if_neg hroot, i7 _ rfl]
    simp only
    rw [if_pos hnr]
   rw [e1]
   exact ⟨_, rfl, .inr ⟨rfl, rfl, rfl⟩, fun _ => ⟨pre, A, l, n, [], i1, i3, i5, i4, fun c r hc => by cases hc⟩⟩
 | cons c R =>
   obtain ⟨k, m⟩ := c
   have hnr : n.right = ptr k := hch
   have hkm2 : (k, m) ∈ flat T := by rw [i1]; simp [flat]
   have hsk : Sees ps k m := h.sees (k, m) hkm2
   have hnn : ¬ n.right = nilP := fun e => by have := hsk.valid; rw [← hnr, e, Z2T] at this; cases this
   have hml : m.level = 0 := hlv.level (k, m) (by simp)
   cases hmd : m.dead with
   | false =>
     left
     have e1 : (S0 ps T).unlink op ps = { after hs (T.length : Int) (S0 ps T) with out := { (after hs (T.length : Int) (S0 ps T)).out with found := true } } := by
      unfold St.unlink
      rw [if_neg hroot, i7 _ rfl]
      simp only
      rw [if_neg hnn, hnr, hsk.look]
      simp only
      rw [if_neg (by rw [hml]; simp), if_pos hmd]
     rw [e1]
     exact ⟨_, rfl, .inr ⟨rfl, rfl, rfl⟩, fun _ => ⟨pre, A, l, n, (k, m) :: R, i1, i3, i5, i4, fun c r hc => by simp only [List.cons.injEq] at hc; rw [← hc.1]; exact hmd⟩⟩
   | true =>
     right
     have e1 : (S0 ps T).unlink op ps = ({ after hs (T.length : Int) (S0 ps T) with out := { (after hs (T.length : Int) (S0 ps T)).out with to := n.right } } : St).finish [({ n with right := m.right } : Node).fill (pg ps l)] [k] := by
      unfold St.unlink
      rw [if_neg hroot, i7 _ rfl]
      simp only
      rw [if_neg hnn]
      rw [show (after hs (T.length : Int) (S0 ps T)).look ps n.right true = (after hs (T.length : Int) (S0 ps T), some (pg ps k, m)) by rw [hnr]; exact hsk.look _ _]
      simp only
      rw [if_neg (by rw [hml]; simp), if_neg (by rw [hmd]; simp), hsk.line]
     have ht := Tree.unlink (i1 ▸ h.tree) i4 hmd
     have hlv' := ht.level
     have hgn : Good n := i6.good
     have hg : Good ({ n with right := m.right } : Node) := ⟨hlv'.valid (l, { n with right := m.right }) (by simp), hgn.high⟩
     have hflat : flat T = (flat pre ++ A) ++ ([(l, n)] ++ ((k, m) :: R)) := by rw [i1]; simp [Z0P, Z16, flat]
     have hflat' : flat (pre ++ [A ++ ((l, ({ n with right := m.right } : Node)) :: R)]) = (flat pre ++ A) ++ ([(l, { n with right := m.right })] ++ R) := by simp [Z0P, Z16, flat]
     have hnd := h.tree.nodup
     rw [lines, hflat] at hnd
     obtain ⟨o1, o2⟩ := Z41 hnd
     have hne : ({ n with right := m.right } : Node) ≠ n := fun e => by
      have h1 : m.right = n.right := by have := congrArg Node.right e; exact this
      rw [hnr] at h1
      have h2 : m.right = Z14 R nilP := (Chain.append.1 hlv.chain).2.2.1
      cases R with
      | nil =>
        have h3 : m.right = nilP := h2
        have h4 := hsk.valid
        rw [← h1, h3, Z2T] at h4
        cases h4
      | cons z R =>
        have h3 : m.right = ptr z.1 := h2
        have h4 := Z8k (h3.symm.trans h1)
        have h5 := h.tree.nodup
        rw [lines, hflat] at h5
        simp only [List.map_append, List.map_cons, List.map_nil] at h5
        have h6 := (List.nodup_append.1 (List.nodup_append.1 h5).2.1).2.1
        have h7 := (List.nodup_cons.1 h6).1
        apply h7
        rw [← h4]; simp
     have hm' : (l, ({ n with right := m.right } : Node)) ∈ flat (pre ++ [A ++ ((l, ({ n with right := m.right } : Node)) :: R)]) := by simp [flat]
     have hnot : (l, ({ n with right := m.right } : Node)) ∉ flat T := fun hc => by
      rw [hflat] at hc
      rcases List.mem_append.1 hc with hc | hc
      ·exact o1 _ hc rfl
      ·rcases List.mem_append.1 hc with hc | hc
       ·simp only [List.mem_singleton, Prod.mk.injEq, true_and] at hc; exact hne hc
       ·exact o2 _ hc rfl
     have hw := h.write (es' := es) i6 ⟨i6b, i6c⟩ hg ht (fun c hc => by
      rw [hflat'] at hc
      rw [hflat]
      simp only [List.mem_append, List.mem_singleton] at hc ⊢
      rcases hc with hc | hc | hc
      ·exact .inr ⟨.inl hc, o1 c (List.mem_append.2 hc)⟩
      ·exact .inl hc
      ·exact .inr ⟨.inr (.inr (List.mem_cons_of_mem _ hc)), o2 c (List.mem_cons_of_mem _ hc)⟩) (by rw [i1]; exact Z7o (ms := []) (M := [(k, m)]) pre) (by rw [i1]; simp) (by
       rw [← h.holds, i1, Z2f, Z2f]
       have hmv := Node.valid_parts hsk.good.valid
       have hme : m.entries = [] := (hmv.2.2.2.2.2.2.2.2.1 hmd).2.1
       simp [Z0I, Z0N, hme]) ⟨hm', fun hc => absurd hc hnot⟩
     have hkp := Kept.write h i6 hg hm' hnot
     have ed := Z3f (s := ({ after hs (T.length : Int) (S0 ps T) with out := { (after hs (T.length : Int) (S0 ps T)).out with to := n.right } } : St)) rfl [({ n with right := m.right } : Node).fill (pg ps l)] [k]
     rw [e1, ed]
     exact ⟨_, _, _, rfl, hw.2, hw.1, hkp, rfl, rfl, rfl, pre, A, R, l, k, n, m, i1, i3, i5, i4, hmd, rfl, hnr⟩
end Go.Proofs.YtjmpekanlmepmaaGreatDoor.Bt
