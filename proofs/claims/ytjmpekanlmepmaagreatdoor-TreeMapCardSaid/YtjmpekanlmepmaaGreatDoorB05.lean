/- An index: kill, unlink (plain Lean). -/
import Derived.Test.YtjmpekanlmepmaaGreatDoorB04
import Derived.Test.YtjmpekanlmepmaaGreatDoorB01
set_option linter.all false
namespace Go.Proofs.YtjmpekanlmepmaaGreatDoor.Bt
/-- Two nodes are written. -/
theorem Inv.writePair {ps : List Page} {nx : Int} {es es' : List Entry} {T T' : List (List Cell)} (h : Inv ps nx es T) {l k : Int} {n n' m m' : Node} (hs : Sees ps l n) (hs2 : Sees ps k m) (hl : 105 ≤ l ∧ l < nx) (hk : 105 ≤ k ∧ k < nx) (hlk : l < k) (hg : Good n') (hg2 : Good m') (ht : Tree T')
 (hf : ∀ c ∈ flat T', c = (l, n') ∨ c = (k, m') ∨ (c ∈ flat T ∧ c.1 ≠ l ∧ c.1 ≠ k)) (hr : rootPtr T' = rootPtr T) (hlen : T'.length = T.length) (he : leafEnts T' = es') (hm1 : (l, n') ∈ flat T') (hn1 : (l, n') ∉ flat T) (hm2 : (k, m') ∈ flat T') (hn2 : (k, m') ∉ flat T) :
 Inv (putPages ps [n'.fill (pg ps l), m'.fill (pg ps k)]) nx es' T' ∧ Commits ps [n'.fill (pg ps l), m'.fill (pg ps k)] ∧ Kept ps (putPages ps [n'.fill (pg ps l), m'.fill (pg ps k)]) T T' := by
 have hb := hs.blank h.ix
 have hb2 := hs2.blank h.ix
 obtain ⟨h1, h2, h3⟩ := hb.put h.ix hg
 obtain ⟨k1, k2, k3⟩ := hb2.put h1 hg2
 have hbd := h.bound
 have hpg : ∀ l', 96 ≤ l' → l' ≠ l → l' ≠ k → latest (putPages ps [n'.fill (pg ps l), m'.fill (pg ps k)]) l' = latest ps l' := fun l' a b c => (k3 l' a c).trans (h3 l' a b)
 refine ⟨⟨k1, ht, fun c hc => ?_, fun c hc => ?_, hbd, fun l' a b => ?_, ?_, he⟩, Commits.pair ⟨by show 96 ≤ (pg ps l).line; rw [hs.line]; omega, by show (pg ps l).line < 256; rw [hs.line]; omega, hg.fill_ok hb.ok, by show (pg ps l).head = (pg ps (pg ps l).line).head; rw [hs.line]⟩
  ⟨by show 96 ≤ (pg ps k).line; rw [hs2.line]; omega, by show (pg ps k).line < 256; rw [hs2.line]; omega, hg2.fill_ok hb2.ok, by show (pg ps k).head = (pg ps (pg ps k).line).head; rw [hs2.line]⟩ (by show (pg ps l).line < (pg ps k).line; rw [hs.line, hs2.line]; exact hlk), fun l' hl' hkk => ?_⟩
 · rcases hf c hc with rfl | rfl | ⟨hc, hne, hne2⟩
   · exact h2.congr (k3 l (by omega) (by omega))
   · exact k2
   · have := h.range c hc
     exact (h.sees c hc).congr (hpg c.1 (by omega) hne hne2)
 · rcases hf c hc with rfl | rfl | ⟨hc, hne⟩
   · exact hl
   · exact hk
   · exact h.range c hc
 · rw [pg_congr (hpg l' (by omega) (by omega) (by omega))]; exact h.fresh l' a b
 · rw [pg_congr (hpg 96 (by omega) (by omega) (by omega)), hr, hlen]; exact h.root
 · exact hpg l' (by omega) (fun e => by subst e; exact hn1 (hkk n' hm1)) (fun e => by subst e; exact hn2 (hkk m' hm2))
theorem rootPtr_last (pre : List (List Cell)) {A R : List Cell} {l : Int} {n n' : Node} {ms M : List Cell} : rootPtr (pre ++ [A ++ ((l, n') :: ms ++ R)]) = rootPtr (pre ++ [A ++ ((l, n) :: M ++ R)]) := rootPtr_swap pre []
theorem rootPtr_pair (pre : List (List Cell)) {U V lo lo' : List Cell} {l : Int} {n n' : Node} : rootPtr (pre ++ [U ++ (l, n') :: V, lo']) = rootPtr (pre ++ [U ++ (l, n) :: V, lo]) := by
 cases pre with
 | nil => cases U <;> rfl
 | cons c pre => cases c <;> rfl
/-- A page that is only read. -/
structure Quiet (op : Op) (ps : List Page) (o : Out) : Prop where
 next : next op ps = ⟨[], [], o, true⟩
theorem Inv.kill {ps : List Page} {nx : Int} {es : List Entry} {T : List (List Cell)} (h : Inv ps nx es T) {op : Op} (hkd : op.kind = 7) (hk : 1 ≤ op.key) (hk2 : op.key ≤ maxKey) :
 (∃ o, next op ps = ⟨[], [], o, true⟩ ∧ (o.code = 16 ∧ o.done = false ∨ o.code = 7 ∧ o.done = false ∨ (o.code = 0 ∧ o.found = true ∧ o.done = false))) ∨
  ∃ o ws T', next op ps = ⟨[], ws, o, true⟩ ∧ Commits ps ws ∧ Inv (putPages ps ws) nx es T' ∧ Kept ps (putPages ps ws) T T' ∧ o.code = 0 ∧ o.done = true ∧ o.found = false ∧
   ∃ pre U V A R lp l p n es1 es2 e f, T = pre ++ [U ++ ((lp, p) :: V), A ++ ((l, n) :: R)] ∧ lowAfter 0 A < op.key ∧ op.key ≤ n.high ∧ n.dead = false ∧ n.entries = [] ∧ p.entries = es1 ++ e :: f :: es2 ∧ e.to = ptr l ∧ e.key = n.high ∧
    T' = pre ++ [U ++ ((lp, { p with entries := es1 ++ f :: es2 }) :: V), A ++ ((l, { n with dead := true }) :: R)] := by
 have hv : op.isValid = true := by unfold Op.isValid; simp [hkd, isKey, hk, hk2]
 have hgo : (S0 ps T).go op ps = (S0 ps T).kill op ps := by unfold St.go; rw [if_neg (by omega), if_neg (by omega), if_neg (by omega), if_neg (by omega), if_neg (by omega), if_neg (by omega), if_pos hkd]
 rw [h.step hv, hgo]
 by_cases hT : T = []
 · left
   subst hT
   have e1 : (S0 ps []).kill op ps = (S0 ps []).fail 16 [] := by unfold St.kill; rw [if_pos (show (S0 ps []).root = nilP from rfl)]
   rw [e1, close_fail rfl]
   exact ⟨_, rfl, .inl ⟨rfl, rfl⟩⟩
 have hroot : ¬ (S0 ps T).root = nilP := fun e => hT (h.rootNil.1 e)
 have hkm : op.key ≤ maxHigh := by unfold maxKey at hk2; unfold maxHigh; omega
 obtain ⟨pre, A, l, n, R, hs, i1, i3, i3b, i4, i5, i5b, i6, i6b, i6c, i7, i8, i9, i10, i11, i12, i13⟩ := h.leaf hT hk hkm
 have hline : (pg ps l).line = l := i6.line
 by_cases hq : 0 < n.entries.length ∨ n.leftmost = true ∨ n.right = nilP
 · left
   have e1 : (S0 ps T).kill op ps = { after hs (T.length : Int) (S0 ps T) with out := { (after hs (T.length : Int) (S0 ps T)).out with found := true } } := by
    unfold St.kill
    rw [if_neg hroot, i7 _ rfl]
    simp only
    rw [if_pos hq]
   rw [e1]
   exact ⟨_, rfl, .inr (.inr ⟨rfl, rfl, rfl⟩)⟩
 by_cases hT1 : T.length ≤ 1
 · left
   have e1 : (S0 ps T).kill op ps = (after hs (T.length : Int) (S0 ps T)).fail 7 [] := by
    unfold St.kill
    rw [if_neg hroot, i7 _ rfl]
    simp only
    rw [if_neg hq, show (1 : Int) = ((1 : Nat) : Int) by rfl, h.absent hT1 hT _ (after hs (T.length : Int) (S0 ps T)) rfl]
   rw [e1, close_fail rfl]
   exact ⟨_, rfl, .inr (.inl ⟨rfl, rfl⟩)⟩
 obtain ⟨pre2, U, lp, p, V, post, hs2, j1, j2, j3, j4, j5, j6, j7, j8, j9⟩ := h.descend (lev := 1) (by omega) hk hkm
 obtain ⟨lo, rfl⟩ : ∃ lo, post = [lo] := List.length_eq_one_iff.1 j2
 have hlo : lo = A ++ (l, n) :: R ∧ pre = pre2 ++ [U ++ (lp, p) :: V] := by
  have h1 : pre ++ [A ++ (l, n) :: R] = (pre2 ++ [U ++ (lp, p) :: V]) ++ [lo] := by rw [← i1, j1]; simp
  have h2 := List.append_inj' h1 rfl
  exact ⟨(by simpa using h2.2.symm), h2.1⟩
 obtain ⟨rfl, rfl⟩ := hlo
 have hTe : T = pre2 ++ [U ++ (lp, p) :: V, A ++ (l, n) :: R] := j1
 have hsp : Sees ps lp p := h.sees (lp, p) j6
 have hrp : 105 ≤ lp ∧ lp < nx := h.range (lp, p) j6
 have hdesc2 := j7 (after hs (T.length : Int) (S0 ps T)) rfl
 have hkill : (S0 ps T).kill op ps =
  (let t := after hs2 (T.length : Int) (after hs (T.length : Int) (S0 ps T))
   if (p.entries.getD (child p.entries op.key) default).to ≠ at_ (pg ps l) ∨ (p.entries.getD (child p.entries op.key) default).key ≠ n.high then t.fail 7 []
   else if child p.entries op.key + 1 = p.entries.length then { t with out := { t.out with found := true } }
   else t.finish [({ n with dead := true } : Node).fill (pg ps l), ({ p with entries := deleteAt p.entries (child p.entries op.key) } : Node).fill (pg ps lp)] []) := by
  unfold St.kill
  rw [if_neg hroot, i7 _ rfl]
  simp only
  rw [if_neg hq]
  have e := hdesc2
  rw [show ((1 : Nat) : Int) = 1 from rfl] at e
  rw [e]
 rw [hkill]
 by_cases hc : (p.entries.getD (child p.entries op.key) default).to ≠ at_ (pg ps l) ∨ (p.entries.getD (child p.entries op.key) default).key ≠ n.high
 · left
   simp only
   rw [if_pos hc, close_fail rfl]
   exact ⟨_, rfl, .inr (.inl ⟨rfl, rfl⟩)⟩
 by_cases hlast : child p.entries op.key + 1 = p.entries.length
 · left
   simp only
   rw [if_neg hc, if_pos hlast]
   exact ⟨_, rfl, .inr (.inr ⟨rfl, rfl, rfl⟩)⟩
 right
 simp only
 rw [if_neg hc, if_neg hlast]
 have hto : (p.entries.getD (child p.entries op.key) default).to = at_ (pg ps l) := by
  by_cases hx : (p.entries.getD (child p.entries op.key) default).to = at_ (pg ps l)
  · exact hx
  · exact absurd (.inl hx) hc
 have hkey : (p.entries.getD (child p.entries op.key) default).key = n.high := by
  by_cases hx : (p.entries.getD (child p.entries op.key) default).key = n.high
  · exact hx
  · exact absurd (.inr hx) hc
 rw [i6.at] at hto
 -- the entry and the one behind it
 have hlevels : Levels ((U ++ (lp, p) :: V) :: [A ++ (l, n) :: R]) := (hTe ▸ h.tree.levels).append
 have hlinks : Links ((U ++ (lp, p) :: V) :: [A ++ (l, n) :: R]) := (hTe ▸ h.tree.links).append
 have hlvU := hlevels.1
 have hlvL := hlevels.2.1
 have hgp : Good p := hsp.good
 have hgn : Good n := i6.good
 obtain ⟨a1, a2, a3, a4, a5, a6, a7, a8, a9, a10, a11⟩ := Node.valid_parts hgp.valid
 have hlevp : p.level = 1 := by have := hlvU.level (lp, p) (by simp); simpa using this
 have hkh : op.key ≤ lastKey p.entries := by rw [a10 (by omega)]; exact j5
 obtain ⟨es1, e, es2, z1, z2, z3, z4, z5⟩ := child_some (by omega) hkh
 have hge : p.entries.getD (child p.entries op.key) default = e := by rw [List.getD_eq_getElem?_getD, z5]; rfl
 rw [hge] at hto hkey
 obtain ⟨f, es2, rfl⟩ : ∃ f r, es2 = f :: r := by
  cases es2 with
  | cons f r => exact ⟨f, r, rfl⟩
  | nil => exfalso; apply hlast; rw [← z2, z1]; simp
 have hdel : deleteAt p.entries (child p.entries op.key) = es1 ++ f :: es2 := by
  rw [← z2, z1]
  unfold deleteAt
  rw [List.take_left, show es1 ++ e :: f :: es2 = (es1 ++ [e]) ++ f :: es2 by simp, show es1.length + 1 = (es1 ++ [e]).length by simp, List.drop_left]
 rw [hdel]
 have hempty : n.entries = [] := by
  cases hn : n.entries with
  | nil => rfl
  | cons x y => exact absurd (.inl (by rw [hn]; simp)) hq
 have hlm : n.leftmost = false := by
  cases hn : n.leftmost with
  | false => rfl
  | true => exact absurd (.inr (.inl hn)) hq
 have hnr : n.right ≠ nilP := fun e => hq (.inr (.inr e))
 have ht := Tree.kill (hTe ▸ h.tree) i4 hlm hempty hnr z1 hto hkey
 have hlvU' := ht.level
 have hlvL' : Level ((([] : List (List Cell)).length : Nat) : Int) (A ++ ((l, { n with dead := true }) :: R)) := Tree.level (pre := pre2 ++ [U ++ ((lp, { p with entries := es1 ++ f :: es2 }) :: V)]) (by simpa using ht)
 have hg1 : Good ({ n with dead := true } : Node) := ⟨hlvL'.valid (l, { n with dead := true }) (by simp), hgn.high⟩
 have hg2 : Good ({ p with entries := es1 ++ f :: es2 } : Node) := ⟨hlvU'.valid (lp, { p with entries := es1 ++ f :: es2 }) (by simp), hgp.high⟩
 have hflat : flat T = (flat pre2 ++ U) ++ ([(lp, p)] ++ (V ++ (A ++ ([(l, n)] ++ R)))) := by rw [hTe]; simp [flat_append, flat_cons, flat]
 have hflat' : ∀ (p' n' : Node), flat (pre2 ++ [U ++ ((lp, p') :: V), A ++ ((l, n') :: R)]) = (flat pre2 ++ U) ++ ([(lp, p')] ++ (V ++ (A ++ ([(l, n')] ++ R)))) := fun p' n' => by simp [flat_append, flat_cons, flat]
 have hnd := h.tree.nodup
 rw [lines, hflat] at hnd
 obtain ⟨o1, o2⟩ := other_lines hnd
 have hnd2 : ((flat pre2 ++ U ++ [(lp, p)] ++ V ++ A ++ ([(l, n)] ++ R)).map (·.1)).Nodup := by simpa using hnd
 obtain ⟨o3, o4⟩ := other_lines hnd2
 have hllp : lp ≠ l := o3 (lp, p) (by simp)
 have hnot1 : ∀ m, m ≠ n → (l, m) ∉ flat T := fun m hm hc => by
  rw [hflat] at hc
  simp only [List.mem_append, List.mem_singleton] at hc
  rcases hc with (hc | hc) | hc | hc | hc | hc | hc
  · exact o3 (l, m) (by simp [hc]) rfl
  · exact o3 (l, m) (by simp [hc]) rfl
  · simp at hc; exact hllp hc.1.symm
  · exact o3 (l, m) (by simp [hc]) rfl
  · exact o3 (l, m) (by simp [hc]) rfl
  · simp at hc; exact hm hc
  · exact o4 (l, m) hc rfl
 have hnot2 : ∀ m, m ≠ p → (lp, m) ∉ flat T := fun m hm hc => by
  rw [hflat] at hc
  simp only [List.mem_append, List.mem_singleton] at hc
  rcases hc with (hc | hc) | hc | hc | hc | hc | hc
  · exact o1 (lp, m) (by simp [hc]) rfl
  · exact o1 (lp, m) (by simp [hc]) rfl
  · simp at hc; exact hm hc
  · exact o2 (lp, m) (by simp [hc]) rfl
  · exact o2 (lp, m) (by simp [hc]) rfl
  · simp at hc; exact hllp hc.1
  · exact o2 (lp, m) (by simp [hc]) rfl
 have hnn : ({ n with dead := true } : Node) ≠ n := fun e => by
  have h1 := congrArg Node.dead e
  rw [i4] at h1; cases h1
 have hpp : ({ p with entries := es1 ++ f :: es2 } : Node) ≠ p := fun e => by
  have h1 := congrArg (fun n => n.entries.length) e
  simp only [z1, List.length_append, List.length_cons] at h1
  omega
 have hm1 : (l, ({ n with dead := true } : Node)) ∈ flat (pre2 ++ [U ++ ((lp, { p with entries := es1 ++ f :: es2 }) :: V), A ++ ((l, { n with dead := true }) :: R)]) := by simp [flat]
 have hm2 : (lp, ({ p with entries := es1 ++ f :: es2 } : Node)) ∈ flat (pre2 ++ [U ++ ((lp, { p with entries := es1 ++ f :: es2 }) :: V), A ++ ((l, { n with dead := true }) :: R)]) := by simp [flat]
 have hf : ∀ c ∈ flat (pre2 ++ [U ++ ((lp, ({ p with entries := es1 ++ f :: es2 } : Node)) :: V), A ++ ((l, ({ n with dead := true } : Node)) :: R)]), c = (l, ({ n with dead := true } : Node)) ∨ c = (lp, ({ p with entries := es1 ++ f :: es2 } : Node)) ∨ (c ∈ flat T ∧ c.1 ≠ l ∧ c.1 ≠ lp) := fun c hc => by
  rw [hflat'] at hc
  rw [hflat]
  simp only [List.mem_append, List.mem_singleton] at hc ⊢
  rcases hc with (hc | hc) | hc | hc | hc | hc | hc
  · exact .inr (.inr ⟨.inl (.inl hc), o3 c (by simp [hc]), o1 c (by simp [hc])⟩)
  · exact .inr (.inr ⟨.inl (.inr hc), o3 c (by simp [hc]), o1 c (by simp [hc])⟩)
  · exact .inr (.inl hc)
  · exact .inr (.inr ⟨.inr (.inr (.inl hc)), o3 c (by simp [hc]), o2 c (by simp [hc])⟩)
  · exact .inr (.inr ⟨.inr (.inr (.inr (.inl hc))), o3 c (by simp [hc]), o2 c (by simp [hc])⟩)
  · exact .inl hc
  · exact .inr (.inr ⟨.inr (.inr (.inr (.inr (.inr hc)))), o4 c hc, o2 c (by simp [hc])⟩)
 have hents : leafEnts (pre2 ++ [U ++ ((lp, ({ p with entries := es1 ++ f :: es2 } : Node)) :: V), A ++ ((l, ({ n with dead := true } : Node)) :: R)]) = es := by
  rw [← h.holds, hTe]
  rw [show pre2 ++ [U ++ ((lp, ({ p with entries := es1 ++ f :: es2 } : Node)) :: V), A ++ ((l, ({ n with dead := true } : Node)) :: R)] = (pre2 ++ [U ++ ((lp, ({ p with entries := es1 ++ f :: es2 } : Node)) :: V)]) ++ [A ++ ((l, ({ n with dead := true } : Node)) :: R)] by simp]
  rw [show pre2 ++ [U ++ (lp, p) :: V, A ++ (l, n) :: R] = (pre2 ++ [U ++ (lp, p) :: V]) ++ [A ++ (l, n) :: R] by simp, leafEnts_leaf, leafEnts_leaf]
  simp [ents_append, ents_cons]
 have hres : ∃ pre U V A R lp l p n es1 es2 e f, T = pre ++ [U ++ ((lp, p) :: V), A ++ ((l, n) :: R)] ∧ lowAfter 0 A < op.key ∧ op.key ≤ n.high ∧ n.dead = false ∧ n.entries = [] ∧ p.entries = es1 ++ e :: f :: es2 ∧ e.to = ptr l ∧ e.key = n.high ∧
  (pre2 ++ [U ++ ((lp, ({ p with entries := es1 ++ f :: es2 } : Node)) :: V), A ++ ((l, ({ n with dead := true } : Node)) :: R)] = pre2 ++ [U ++ ((lp, ({ p with entries := es1 ++ f :: es2 } : Node)) :: V), A ++ ((l, ({ n with dead := true } : Node)) :: R)]) := ⟨pre2, U, V, A, R, lp, l, p, n, es1, es2, e, f, hTe, i3, i5, i4, hempty, z1, hto, hkey, rfl⟩
 rw [close_done rfl]
 rcases Int.lt_or_gt_of_ne hllp with hlt | hlt
 · obtain ⟨w1, w2, w3⟩ := h.writePair hsp i6 hrp ⟨i6b, i6c⟩ hlt hg2 hg1 ht (fun c hc => by
     rcases hf c hc with h1 | h1 | ⟨h1, h2, h3⟩
     · exact .inr (.inl h1)
     · exact .inl h1
     · exact .inr (.inr ⟨h1, h3, h2⟩)) (by rw [hTe]; exact rootPtr_pair _) (by rw [hTe]; simp) hents hm2 (hnot2 _ hpp) hm1 (hnot1 _ hnn)
   have hsort : sortPages [({ n with dead := true } : Node).fill (pg ps l), ({ p with entries := es1 ++ f :: es2 } : Node).fill (pg ps lp)] = [({ p with entries := es1 ++ f :: es2 } : Node).fill (pg ps lp), ({ n with dead := true } : Node).fill (pg ps l)] := by
    simp only [sortPages]
    rw [if_pos]
    show (pg ps lp).line < (pg ps l).line
    rw [hsp.line, hline]; exact hlt
   rw [hsort]
   exact ⟨_, _, _, rfl, w2, w1, w3, rfl, rfl, rfl, pre2, U, V, A, R, lp, l, p, n, es1, es2, e, f, hTe, i3, i5, i4, hempty, z1, hto, hkey, rfl⟩
 · obtain ⟨w1, w2, w3⟩ := h.writePair i6 hsp ⟨i6b, i6c⟩ hrp hlt hg1 hg2 ht hf (by rw [hTe]; exact rootPtr_pair _) (by rw [hTe]; simp) hents hm1 (hnot1 _ hnn) hm2 (hnot2 _ hpp)
   rw [sortPages_lt (by show (pg ps l).line < (pg ps lp).line; rw [hsp.line, hline]; exact hlt)]
   exact ⟨_, _, _, rfl, w2, w1, w3, rfl, rfl, rfl, pre2, U, V, A, R, lp, l, p, n, es1, es2, e, f, hTe, i3, i5, i4, hempty, z1, hto, hkey, rfl⟩
theorem Inv.unlink {ps : List Page} {nx : Int} {es : List Entry} {T : List (List Cell)} (h : Inv ps nx es T) {op : Op} (hkd : op.kind = 8) (hk : 1 ≤ op.key) (hk2 : op.key ≤ maxKey) :
 (∃ o, next op ps = ⟨[], [], o, true⟩ ∧ (o.code = 16 ∧ o.done = false ∨ (o.code = 0 ∧ o.found = true ∧ o.done = false)) ∧
  (T ≠ [] → ∃ pre A l n R, T = pre ++ [A ++ (l, n) :: R] ∧ lowAfter 0 A < op.key ∧ op.key ≤ n.high ∧ n.dead = false ∧ ∀ c r, R = c :: r → c.2.dead = false)) ∨
  ∃ o ws T', next op ps = ⟨[], ws, o, true⟩ ∧ Commits ps ws ∧ Inv (putPages ps ws) nx es T' ∧ Kept ps (putPages ps ws) T T' ∧ o.code = 0 ∧ o.done = true ∧ o.found = false ∧
   ∃ pre A R l k n m, T = pre ++ [A ++ ((l, n) :: (k, m) :: R)] ∧ lowAfter 0 A < op.key ∧ op.key ≤ n.high ∧ n.dead = false ∧ m.dead = true ∧ T' = pre ++ [A ++ ((l, { n with right := m.right }) :: R)] ∧ o.to = ptr k := by
 have hv : op.isValid = true := by unfold Op.isValid; simp [hkd, isKey, hk, hk2]
 have hgo : (S0 ps T).go op ps = (S0 ps T).unlink op ps := by unfold St.go; rw [if_neg (by omega), if_neg (by omega), if_neg (by omega), if_neg (by omega), if_neg (by omega), if_neg (by omega), if_neg (by omega)]
 rw [h.step hv, hgo]
 by_cases hT : T = []
 · left
   subst hT
   have e1 : (S0 ps []).unlink op ps = (S0 ps []).fail 16 [] := by unfold St.unlink; rw [if_pos (show (S0 ps []).root = nilP from rfl)]
   rw [e1, close_fail rfl]
   exact ⟨_, rfl, .inl ⟨rfl, rfl⟩, fun hT => absurd rfl hT⟩
 have hroot : ¬ (S0 ps T).root = nilP := fun e => hT (h.rootNil.1 e)
 have hkm : op.key ≤ maxHigh := by unfold maxKey at hk2; unfold maxHigh; omega
 obtain ⟨pre, A, l, n, R, hs, i1, i3, i3b, i4, i5, i5b, i6, i6b, i6c, i7, i8, i9, i10, i11, i12, i13⟩ := h.leaf hT hk hkm
 have hline : (pg ps l).line = l := i6.line
 have hlv : Level ((([] : List (List Cell)).length : Nat) : Int) (A ++ (l, n) :: R) := Tree.level (pre := pre) (i1 ▸ h.tree)
 have hch : n.right = headPtr R nilP := (Chain.append.1 hlv.chain).2.1
 cases R with
 | nil =>
   left
   have hnr : n.right = nilP := hch
   have e1 : (S0 ps T).unlink op ps = { after hs (T.length : Int) (S0 ps T) with out := { (after hs (T.length : Int) (S0 ps T)).out with found := true } } := by
    unfold St.unlink
    rw [if_neg hroot, i7 _ rfl]
    simp only
    rw [if_pos hnr]
   rw [e1]
   exact ⟨_, rfl, .inr ⟨rfl, rfl, rfl⟩, fun _ => ⟨pre, A, l, n, [], i1, i3, i5, i4, fun c r hc => by cases hc⟩⟩
 | cons c R =>
   obtain ⟨k, m⟩ := c
   have hnr : n.right = ptr k := hch
   have hkm2 : (k, m) ∈ flat T := by rw [i1]; simp [flat]
   have hsk : Sees ps k m := h.sees (k, m) hkm2
   have hnn : ¬ n.right = nilP := fun e => by have := hsk.valid; rw [← hnr, e, validP_nil] at this; cases this
   have hml : m.level = 0 := hlv.level (k, m) (by simp)
   cases hmd : m.dead with
   | false =>
     left
     have e1 : (S0 ps T).unlink op ps = { after hs (T.length : Int) (S0 ps T) with out := { (after hs (T.length : Int) (S0 ps T)).out with found := true } } := by
      unfold St.unlink
      rw [if_neg hroot, i7 _ rfl]
      simp only
      rw [if_neg hnn, hnr, hsk.look]
      simp only
      rw [if_neg (by rw [hml]; simp), if_pos hmd]
     rw [e1]
     exact ⟨_, rfl, .inr ⟨rfl, rfl, rfl⟩, fun _ => ⟨pre, A, l, n, (k, m) :: R, i1, i3, i5, i4, fun c r hc => by simp only [List.cons.injEq] at hc; rw [← hc.1]; exact hmd⟩⟩
   | true =>
     right
     have e1 : (S0 ps T).unlink op ps = ({ after hs (T.length : Int) (S0 ps T) with out := { (after hs (T.length : Int) (S0 ps T)).out with to := n.right } } : St).finish [({ n with right := m.right } : Node).fill (pg ps l)] [k] := by
      unfold St.unlink
      rw [if_neg hroot, i7 _ rfl]
      simp only
      rw [if_neg hnn]
      rw [show (after hs (T.length : Int) (S0 ps T)).look ps n.right true = (after hs (T.length : Int) (S0 ps T), some (pg ps k, m)) by rw [hnr]; exact hsk.look _ _]
      simp only
      rw [if_neg (by rw [hml]; simp), if_neg (by rw [hmd]; simp), hsk.line]
     have ht := Tree.unlink (i1 ▸ h.tree) i4 hmd
     have hlv' := ht.level
     have hgn : Good n := i6.good
     have hg : Good ({ n with right := m.right } : Node) := ⟨hlv'.valid (l, { n with right := m.right }) (by simp), hgn.high⟩
     have hflat : flat T = (flat pre ++ A) ++ ([(l, n)] ++ ((k, m) :: R)) := by rw [i1]; simp [flat_append, flat_cons, flat]
     have hflat' : flat (pre ++ [A ++ ((l, ({ n with right := m.right } : Node)) :: R)]) = (flat pre ++ A) ++ ([(l, { n with right := m.right })] ++ R) := by simp [flat_append, flat_cons, flat]
     have hnd := h.tree.nodup
     rw [lines, hflat] at hnd
     obtain ⟨o1, o2⟩ := other_lines hnd
     have hne : ({ n with right := m.right } : Node) ≠ n := fun e => by
      have h1 : m.right = n.right := by have := congrArg Node.right e; exact this
      rw [hnr] at h1
      have h2 : m.right = headPtr R nilP := (Chain.append.1 hlv.chain).2.2.1
      cases R with
      | nil =>
        have h3 : m.right = nilP := h2
        have h4 := hsk.valid
        rw [← h1, h3, validP_nil] at h4
        cases h4
      | cons z R =>
        have h3 : m.right = ptr z.1 := h2
        have h4 := ptr_inj (h3.symm.trans h1)
        have h5 := h.tree.nodup
        rw [lines, hflat] at h5
        simp only [List.map_append, List.map_cons, List.map_nil] at h5
        have h6 := (List.nodup_append.1 (List.nodup_append.1 h5).2.1).2.1
        have h7 := (List.nodup_cons.1 h6).1
        apply h7
        rw [← h4]; simp
     have hm' : (l, ({ n with right := m.right } : Node)) ∈ flat (pre ++ [A ++ ((l, ({ n with right := m.right } : Node)) :: R)]) := by simp [flat]
     have hnot : (l, ({ n with right := m.right } : Node)) ∉ flat T := fun hc => by
      rw [hflat] at hc
      rcases List.mem_append.1 hc with hc | hc
      · exact o1 _ hc rfl
      · rcases List.mem_append.1 hc with hc | hc
        · simp only [List.mem_singleton, Prod.mk.injEq, true_and] at hc; exact hne hc
        · exact o2 _ hc rfl
     have hw := h.write (es' := es) i6 ⟨i6b, i6c⟩ hg ht (fun c hc => by
      rw [hflat'] at hc
      rw [hflat]
      simp only [List.mem_append, List.mem_singleton] at hc ⊢
      rcases hc with hc | hc | hc
      · exact .inr ⟨.inl hc, o1 c (List.mem_append.2 hc)⟩
      · exact .inl hc
      · exact .inr ⟨.inr (.inr (List.mem_cons_of_mem _ hc)), o2 c (List.mem_cons_of_mem _ hc)⟩) (by rw [i1]; exact rootPtr_last (ms := []) (M := [(k, m)]) pre) (by rw [i1]; simp) (by
        rw [← h.holds, i1, leafEnts_leaf, leafEnts_leaf]
        have hmv := Node.valid_parts hsk.good.valid
        have hme : m.entries = [] := (hmv.2.2.2.2.2.2.2.2.1 hmd).2.1
        simp [ents_append, ents_cons, hme]) ⟨hm', fun hc => absurd hc hnot⟩
     have hkp := Kept.write h i6 hg hm' hnot
     have ed := close_done (s := ({ after hs (T.length : Int) (S0 ps T) with out := { (after hs (T.length : Int) (S0 ps T)).out with to := n.right } } : St)) rfl [({ n with right := m.right } : Node).fill (pg ps l)] [k]
     rw [e1, ed]
     exact ⟨_, _, _, rfl, hw.2, hw.1, hkp, rfl, rfl, rfl, pre, A, R, l, k, n, m, i1, i3, i5, i4, hmd, rfl, hnr⟩
end Go.Proofs.YtjmpekanlmepmaaGreatDoor.Bt
namespace Go.Proofs.YtjmpekanlmepmaaGreatDoor.Bt
theorem scanTake_append (lo hi limit : Int) (acc a b : List Entry) : scanTake lo hi limit acc (a ++ b) = scanTake lo hi limit (scanTake lo hi limit acc a) b := by
 induction a generalizing acc with
 | nil => rfl
 | cons e a ih =>
   simp only [List.cons_append, scanTake]
   split <;> exact ih _
theorem scanTake_skip {lo hi limit : Int} {acc a : List Entry} (h : ∀ e ∈ a, e.key < lo ∨ hi < e.key) : scanTake lo hi limit acc a = acc := by
 induction a with
 | nil => rfl
 | cons e a ih =>
   have := h e (by simp)
   simp only [scanTake]
   rw [if_neg (by rintro ⟨h1, h2, _⟩; rcases this with h3 | h3 <;> omega)]
   exact ih (fun x hx => h x (by simp [hx]))
theorem scanTake_full {lo hi limit : Int} {acc a : List Entry} (h : limit ≤ acc.length) : scanTake lo hi limit acc a = acc := by
 induction a with
 | nil => rfl
 | cons e a ih =>
   simp only [scanTake]
   rw [if_neg (by rintro ⟨_, _, h3⟩; omega)]
   exact ih
theorem scanTake_le {lo hi limit : Int} {acc a : List Entry} (h : (acc.length : Int) ≤ limit) : ((scanTake lo hi limit acc a).length : Int) ≤ limit := by
 induction a generalizing acc with
 | nil => exact h
 | cons e a ih =>
   simp only [scanTake]
   split
   · rename_i hc
     exact ih (by simp; omega)
   · exact ih h
theorem sortInts_ne {l : List Int} (h : l ≠ []) : sortInts l ≠ [] := by
 cases l with
 | nil => exact absurd rfl h
 | cons x l =>
   simp only [sortInts]
   cases sortInts l with
   | nil => simp [insertSorted]
   | cons y r => simp only [insertSorted]; split <;> simp
theorem compact_ne {l : List Int} (h : l ≠ []) : compact l ≠ [] := by
 induction l with
 | nil => exact absurd rfl h
 | cons x l ih =>
   cases l with
   | nil => simp [compact]
   | cons y l =>
     simp only [compact]
     split
     · exact ih (by simp)
     · simp
theorem ents_above {p : Int} {R : List Cell} (hr : Rise p R) (hv : ∀ c ∈ R, c.2.valid = true) : ∀ x ∈ ents R, p < x.key := by
 induction R generalizing p with
 | nil => intro x hx; cases hx
 | cons c R ih =>
   intro x hx
   have hvc := Node.valid_parts (hv c (by simp))
   simp only [Rise] at hr
   rw [ents_cons, List.mem_append] at hx
   split at hr
   · rename_i hd
     rcases hx with hx | hx
     · have := (hvc.2.2.2.2.2.2.2.2.1 hd).2.1; rw [this] at hx; cases hx
     · exact ih hr (fun y hy => hv y (by simp [hy])) x hx
   · rcases hx with hx | hx
     · exact hr.2.1 x hx
     · have := ih hr.2.2 (fun y hy => hv y (by simp [hy])) x hx
       have := hr.1
       omega
structure Scanned (op : Op) (s r : St) (acc es : List Entry) : Prop where
 need : r.need = s.need
 writes : r.writes = s.writes
 ended : r.ended = s.ended
 code : r.out.code = 0
 ents : r.out.entries = scanTake op.key op.last op.limit acc es
 more : r.out.more = decide (((scanTake op.key op.last op.limit acc es).length : Int) = op.limit)
 check : r.out.check ≠ []
theorem scanFrom_chain {ps : List Page} (op : Op) (R : List Cell) : ∀ (l : Int) (n : Node) (p : Int) (fuel : Nat) (s : St) (moves : Int) (acc : List Entry) (check : List Int),
 Chain ((l, n) :: R) nilP → (∀ c ∈ (l, n) :: R, Sees ps c.1 c.2) → (∀ c ∈ (l, n) :: R, c.2.level = 0) → Rise p ((l, n) :: R) → op.last ≤ maxKey → R.length < fuel → moves + R.length ≤ 256 → (acc.length : Int) ≤ op.limit →
 Scanned op s (scanFrom op ps fuel s moves acc check (pg ps l) n) acc (n.entries ++ ents R) := by
 induction R with
 | nil =>
   intro l n p fuel s moves acc check hc hs hl hr hlast hfu hmv hacc
   obtain ⟨f, rfl⟩ : ∃ f, fuel = f + 1 := ⟨fuel - 1, by omega⟩
   have hsn : Sees ps l n := hs (l, n) (by simp)
   obtain ⟨a1, a2, a3, a4, a5, a6, a7, a8, a9, a10, a11⟩ := Node.valid_parts hsn.good.valid
   have hnr : n.right = nilP := hc.1
   have hd : n.dead = false := by
    cases hd : n.dead with
    | false => rfl
    | true => exact absurd hnr (a9 hd).2.2.2
   have hhi : n.high = maxHigh := a7.2 hnr
   have hst : op.last ≤ n.high := by rw [hhi]; unfold maxKey at hlast; unfold maxHigh; omega
   simp only [scanFrom]
   rw [if_neg (by rw [hd]; simp), if_neg (by rw [hsn.free]; simp)]
   rw [if_pos (.inr hst)]
   rw [ents_nil, List.append_nil]
   exact ⟨rfl, rfl, rfl, rfl, rfl, rfl, compact_ne (sortInts_ne (by simp))⟩
 | cons d R ih =>
   intro l n p fuel s moves acc check hc hs hl hr hlast hfu hmv hacc
   obtain ⟨f, rfl⟩ : ∃ f, fuel = f + 1 := ⟨fuel - 1, by omega⟩
   obtain ⟨k, m⟩ := d
   have hsn : Sees ps l n := hs (l, n) (by simp)
   have hsm : Sees ps k m := hs (k, m) (by simp)
   have hnr : n.right = ptr k := hc.1
   have hln : n.level = 0 := hl (l, n) (by simp)
   have hlm : m.level = 0 := hl (k, m) (by simp)
   have hnb : ∀ t : St, t.neighbour ps n = (t, some (pg ps k, m)) := fun t => by
    unfold St.neighbour
    rw [hnr, hsm.look]
    simp only
    rw [if_neg (by rw [hln, hlm]; simp)]
   simp only [List.length_cons] at hfu hmv
   obtain ⟨a1, a2, a3, a4, a5, a6, a7, a8, a9, a10, a11⟩ := Node.valid_parts hsn.good.valid
   have go : ∀ (t : St) (acc' : List Entry) (check' : List Int) (q : Int), Rise q ((k, m) :: R) → (acc'.length : Int) ≤ op.limit → Scanned op t (scanFrom op ps f t (moves + 1) acc' check' (pg ps k) m) acc' (m.entries ++ ents R) := fun t acc' check' q hq hacc' =>
    ih k m q f t (moves + 1) acc' check' hc.2 (fun c hc => hs c (List.mem_cons_of_mem _ hc)) (fun c hc => hl c (List.mem_cons_of_mem _ hc)) hq hlast (by omega) (by omega) hacc'
   simp only [scanFrom]
   have hents : n.entries ++ ents ((k, m) :: R) = n.entries ++ (m.entries ++ ents R) := rfl
   rw [hents]
   simp only [Rise] at hr
   cases hd : n.dead with
   | true =>
     rw [if_pos rfl, if_neg (by omega)]
     rw [if_pos hd] at hr
     simp only [hnb]
     have hne : n.entries = [] := (a9 hd).2.1
     have h1 := go ({ s with out := { s.out with hops := s.out.hops + 1, dead := s.out.dead || true } } : St) acc check p hr hacc
     rw [hne, List.nil_append]
     exact ⟨h1.need, h1.writes, h1.ended, h1.code, h1.ents, h1.more, h1.check⟩
   | false =>
     rw [if_neg (by simp), if_neg (by rw [hsn.free]; simp)]
     rw [if_neg (by rw [hd]; simp)] at hr
     have hacc' : ((scanTake op.key op.last op.limit acc n.entries).length : Int) ≤ op.limit := scanTake_le hacc
     by_cases hstop : decide (((scanTake op.key op.last op.limit acc n.entries).length : Int) = op.limit) = true ∨ op.last ≤ n.high
     · rw [if_pos hstop]
       have hrest : scanTake op.key op.last op.limit (scanTake op.key op.last op.limit acc n.entries) (m.entries ++ ents R) = scanTake op.key op.last op.limit acc n.entries := by
        rcases hstop with h1 | h1
        · have h2 : ((scanTake op.key op.last op.limit acc n.entries).length : Int) = op.limit := by simpa using h1
          exact scanTake_full (by omega)
        · refine scanTake_skip fun e he => .inr ?_
          have := ents_above (p := n.high) (R := (k, m) :: R) hr.2.2 (fun c hc => (hs c (List.mem_cons_of_mem _ hc)).good.valid) e he
          omega
       refine ⟨rfl, rfl, rfl, rfl, ?_, ?_, compact_ne (sortInts_ne (by simp))⟩
       · rw [scanTake_append, hrest]; rfl
       · rw [scanTake_append, hrest]; rfl
     · rw [if_neg hstop, if_neg (by omega)]
       simp only [hnb]
       have h1 := go ({ s with out := { s.out with more := decide (((scanTake op.key op.last op.limit acc n.entries).length : Int) = op.limit), hops := s.out.hops + 1, dead := s.out.dead || false } } : St) (scanTake op.key op.last op.limit acc n.entries) (check ++ [(pg ps l).line]) n.high hr.2.2 hacc'
       refine ⟨h1.need, h1.writes, h1.ended, h1.code, ?_, ?_, h1.check⟩
       · rw [scanTake_append]; exact h1.ents
       · rw [scanTake_append]; exact h1.more
theorem Inv.scan {ps : List Page} {nx : Int} {es : List Entry} {T : List (List Cell)} (h : Inv ps nx es T) {op : Op} (hkd : op.kind = 4) (hk : 1 ≤ op.key) (hkl : op.key ≤ op.last) (hk2 : op.last ≤ maxKey) (hlim : 1 ≤ op.limit ∧ op.limit ≤ 64) :
 ∃ o, next op ps = ⟨[], [], o, true⟩ ∧ o.code = 0 ∧ o.entries = scanTake op.key op.last op.limit [] es ∧ o.more = decide (((scanTake op.key op.last op.limit [] es).length : Int) = op.limit) ∧ o.check ≠ [] := by
 have hv : op.isValid = true := by unfold Op.isValid; simp [hkd, isKey, hk, hk2, hkl, hlim]; omega
 have hgo : (S0 ps T).go op ps = (S0 ps T).scan op ps := by unfold St.go; rw [if_neg (by omega), if_neg (by omega), if_neg (by omega), if_pos hkd]
 obtain ⟨h1, h2, h3, h4, h5⟩ := h.rootHere
 rw [h.step hv, hgo]
 by_cases hT : T = []
 · subst hT
   have hes : es = [] := by rw [← h.holds]; rfl
   have e1 : (S0 ps []).scan op ps = (S0 ps []).fail 0 [96] := by
    unfold St.scan St.noTree
    rw [if_pos (show (S0 ps []).root = nilP from rfl), if_neg (by show ¬ locked (pg ps 96) = true; rw [h2]; simp)]
   rw [e1, close_fail rfl, hes]
   refine ⟨_, rfl, rfl, rfl, ?_, by show [96] ≠ []; simp⟩
   show false = decide (((0 : Nat) : Int) = op.limit)
   rw [eq_comm, decide_eq_false_iff_not]; omega
 · obtain ⟨pre, A, l, n, R, hs, i1, i3, i3b, i4, i5, i5b, i6, i6b, i6c, i7, i8, i9, i10, i11, i12, i13⟩ := h.leaf hT hk (by unfold maxKey at hk2; unfold maxHigh; omega)
   have hroot : ¬ (S0 ps T).root = nilP := fun e => hT (h.rootNil.1 e)
   have hlv : Level ((([] : List (List Cell)).length : Nat) : Int) (A ++ (l, n) :: R) := Tree.level (pre := pre) (i1 ▸ h.tree)
   have e1 : (S0 ps T).scan op ps = scanFrom op ps 257 (after hs (T.length : Int) (S0 ps T)) 0 [] [] (pg ps l) n := by
    unfold St.scan
    rw [if_neg hroot, i7 _ rfl]
   have hsm := h.small
   have hRl : R.length ≤ 151 := by
    rw [i1] at hsm
    simp [flat] at hsm
    omega
   have hsc := scanFrom_chain (ps := ps) op R l n (lowAfter 0 A) 257 (after hs (T.length : Int) (S0 ps T)) 0 [] [] (Chain.append.1 hlv.chain).2 (fun c hc => h.sees c (by rw [i1]; simp only [flat_append, List.mem_append]; right; simp only [flat_cons, List.mem_append, List.mem_cons] at hc ⊢; exact .inl (.inr hc))) (fun c hc => hlv.level c (by simp only [List.mem_append]; exact .inr hc)) (Rise.append.1 hlv.rise).2 hk2 (by omega) (by omega) (by simp; omega)
   rw [e1]
   obtain ⟨b1, b2, b3, b4, b5, b6, b7⟩ := hsc
   have hes : scanTake op.key op.last op.limit [] es = scanTake op.key op.last op.limit [] (n.entries ++ ents R) := by
    rw [i9, scanTake_append, scanTake_skip (a := ents A) (fun e he => .inl (i10 e he))]
   have hclose : (scanFrom op ps 257 (after hs (T.length : Int) (S0 ps T)) 0 [] [] (pg ps l) n).close = ⟨[], [], (scanFrom op ps 257 (after hs (T.length : Int) (S0 ps T)) 0 [] [] (pg ps l) n).out, true⟩ := by
    unfold St.close
    rw [if_neg (by rw [b1]; show ¬ ([] : List Int) ≠ []; simp), b2, if_pos (by rw [b3]; rfl)]
    rfl
   refine ⟨_, hclose, b4, by rw [hes]; exact b5, by rw [hes]; exact b6, b7⟩
end Go.Proofs.YtjmpekanlmepmaaGreatDoor.Bt
namespace Go.Proofs.YtjmpekanlmepmaaGreatDoor.Bt
def phi (c : List Cell) : Nat := (c.map (fun x => x.2.entries.length - 3)).sum
def live (c : List Cell) : Nat := (c.map (fun x => if x.2.dead then 0 else 1)).sum
theorem phi_append (a b : List Cell) : phi (a ++ b) = phi a + phi b := by simp [phi]
theorem phi_cons (x : Cell) (b : List Cell) : phi (x :: b) = (x.2.entries.length - 3) + phi b := by simp [phi]
theorem live_append (a b : List Cell) : live (a ++ b) = live a + live b := by simp [live]
theorem live_cons (x : Cell) (b : List Cell) : live (x :: b) = (if x.2.dead then 0 else 1) + live b := by simp [live]
theorem live_le (c : List Cell) : live c ≤ c.length := by
 induction c with
 | nil => simp [live]
 | cons x c ih => rw [live_cons]; simp only [List.length_cons]; split <;> omega
/-- On the inner levels: each split took three new entries. -/
def InnerCnt (K : Nat) : List (List Cell) → Prop
 | c :: d :: t => 3 * c.length + phi c ≤ (ents c).length + (if t = [] then K else 0) + 1 ∧ InnerCnt K (d :: t)
 | _ => True
theorem InnerCnt.append {K : Nat} {pre post : List (List Cell)} (h : InnerCnt K (pre ++ post)) : InnerCnt K post := by
 induction pre with
 | nil => exact h
 | cons c pre ih =>
   apply ih
   cases hp : pre ++ post with
   | nil => trivial
   | cons d t =>
     rw [List.cons_append, hp] at h
     exact h.2
/-- The last level does not count. -/
theorem InnerCnt.last {K : Nat} {pre : List (List Cell)} {lo lo' : List Cell} (h : InnerCnt K (pre ++ [lo])) : InnerCnt K (pre ++ [lo']) := by
 induction pre with
 | nil => trivial
 | cons c pre ih =>
   cases pre with
   | nil => exact ⟨h.1, trivial⟩
   | cons d pre =>
     refine ⟨?_, ih h.2⟩
     have := h.1
     simpa using this
theorem InnerCnt.inner {K : Nat} {pre post : List (List Cell)} {c c' d : List Cell} (h : InnerCnt K (pre ++ c :: d :: post)) (hc : 3 * c'.length + phi c' + (ents c).length ≤ 3 * c.length + phi c + (ents c').length) : InnerCnt K (pre ++ c' :: d :: post) := by
 induction pre with
 | nil =>
   refine ⟨?_, h.2⟩
   have := h.1
   omega
 | cons x pre ih =>
   cases pre with
   | nil => exact ⟨by have := h.1; simpa using this, ih h.2⟩
   | cons y pre => exact ⟨by have := h.1; simpa using this, ih h.2⟩
/-- A leaf dies. -/
theorem InnerCnt.kill {K : Nat} {pre : List (List Cell)} {c c' lo lo' : List Cell} (h : InnerCnt K (pre ++ [c, lo])) (hc : 3 * c'.length + phi c' + (ents c).length ≤ 3 * c.length + phi c + (ents c').length + 1) : InnerCnt (K + 1) (pre ++ [c', lo']) := by
 induction pre with
 | nil =>
   refine ⟨?_, trivial⟩
   have := h.1
   simp only [if_true] at this ⊢
   omega
 | cons x pre ih =>
   cases pre with
   | nil => exact ⟨by have := h.1; simpa using this, ih h.2⟩
   | cons y pre => exact ⟨by have := h.1; simpa using this, ih h.2⟩
def innerLen (T : List (List Cell)) : Nat := (flat T.dropLast).length
theorem innerLen_last (pre : List (List Cell)) (lo : List Cell) : innerLen (pre ++ [lo]) = (flat pre).length := by simp [innerLen]
theorem innerLen_cons (c d : List Cell) (t : List (List Cell)) : innerLen (c :: d :: t) = c.length + innerLen (d :: t) := by simp [innerLen, flat_cons]
theorem innerLen_mid (pre post : List (List Cell)) (c d : List Cell) : innerLen (pre ++ c :: d :: post) = (flat pre).length + c.length + innerLen (d :: post) := by
 induction pre with
 | nil => simp [innerLen_cons, flat]
 | cons x pre ih =>
   rw [List.cons_append]
   cases hp : pre ++ c :: d :: post with
   | nil => simp at hp
   | cons y t =>
     rw [innerLen_cons, ← hp, ih, flat_cons, List.length_append]; omega
structure Cnt (T : List (List Cell)) (nx : Int) (ins K : Nat) : Prop where
 inner : InnerCnt K T
 made : nx = 105 + ((live (T.getLastD []) + K + innerLen T : Nat) : Int)
 leaf : T ≠ [] → 3 * (live (T.getLastD []) + K) + phi (T.getLastD []) ≤ ins + 3
 empty : T = [] → K = 0
theorem getLastD_leaf (pre : List (List Cell)) (lo : List Cell) : (pre ++ [lo]).getLastD [] = lo := by simp
theorem getLastD_inner (pre post : List (List Cell)) (c d : List Cell) : (pre ++ c :: d :: post).getLastD [] = (d :: post).getLastD [] := by
 induction pre with
 | nil => simp [List.getLastD_eq_getLast?]
 | cons x pre ih =>
   rw [← ih]
   cases pre <;> simp [List.getLastD_eq_getLast?]
theorem Evo.cnt {d : Int} {w k : Nat} {T T' : List (List Cell)} (he : Evo d w k T T') {nx : Int} {ins K : Nat} (h : Cnt T nx ins K) : Cnt T' (nx + d) (ins + w) (K + k) := by
 cases he with
 | same => simpa using h
 | @plant e new =>
   have hk := h.empty rfl
   subst hk
   have hm := h.made
   refine ⟨trivial, ?_, fun _ => ?_, fun h => by cases h⟩
   · simp [live, innerLen, flat, firstLeaf] at hm ⊢; omega
   · simp [live, phi, firstLeaf]
 | @raise x y r t new =>
   refine ⟨⟨?_, h.inner⟩, ?_, fun _ => ?_, fun h => by cases h⟩
   · simp [phi, newRoot, ents]
   · rw [h.made, innerLen_cons]
     have e : ([(new, newRoot ((t.length : Int) + 1) x.2.high (ptr x.1) (ptr y.1))] :: (x :: y :: r) :: t).getLastD [] = ((x :: y :: r) :: t).getLastD [] := by simp [List.getLastD_eq_getLast?]
     rw [e]
     simp only [List.length_cons, List.length_nil]
     omega
   · have e : ([(new, newRoot ((t.length : Int) + 1) x.2.high (ptr x.1) (ptr y.1))] :: (x :: y :: r) :: t).getLastD [] = ((x :: y :: r) :: t).getLastD [] := by simp [List.getLastD_eq_getLast?]
     rw [e]
     exact h.leaf (by simp)
 | @leaf pre A R l n es hd hl =>
   have h1 := h.leaf (by simp)
   have h2 := h.made
   rw [getLastD_leaf, live_append, live_cons, phi_append, phi_cons] at h1
   rw [getLastD_leaf, live_append, live_cons, innerLen_last] at h2
   refine ⟨h.inner.last, ?_, fun _ => ?_, fun h => by simp at h⟩
   · rw [getLastD_leaf, live_append, live_cons, innerLen_last]
     simp only [hd] at h2 ⊢
     omega
   · rw [getLastD_leaf, live_append, live_cons, phi_append, phi_cons]
     simp only [hd] at h1 ⊢
     omega
 | @leafSplit pre A R l new n e1 e2 hd h5 h1 h2 h3 =>
   have k1 := h.leaf (by simp)
   have k2 := h.made
   rw [getLastD_leaf, live_append, live_cons, phi_append, phi_cons] at k1
   rw [getLastD_leaf, live_append, live_cons, innerLen_last] at k2
   have d1 : (lowerHalf n new e1 (lastKey e1)).dead = false := hd
   have d2 : (upperHalf n e2).dead = false := rfl
   have l1 : (lowerHalf n new e1 (lastKey e1)).entries.length = 3 := h1
   have l2 : (upperHalf n e2).entries.length = 3 := h2
   refine ⟨h.inner.last, ?_, fun _ => ?_, fun h => by simp at h⟩
   · rw [getLastD_leaf, live_append, live_cons, live_cons, innerLen_last]
     simp only [hd, d1, d2, if_false, Bool.false_eq_true] at k2 ⊢
     omega
   · rw [getLastD_leaf, live_append, live_cons, live_cons, phi_append, phi_cons, phi_cons]
     simp only [hd, d1, d2, l1, l2, h5, if_false, Bool.false_eq_true] at k1 ⊢
     omega
 | @post pre post A R lo l n a b e x y hn ht hx hr hy hyd hlt =>
   have k2 := h.made
   rw [getLastD_inner, innerLen_mid] at k2
   refine ⟨h.inner.inner ?_, ?_, fun _ => ?_, fun h => by simp at h⟩
   · simp only [List.length_append, List.length_cons, phi_append, phi_cons, ents_append, ents_cons, hn]
     omega
   · rw [getLastD_inner, innerLen_mid]
     simp only [List.length_append, List.length_cons] at k2 ⊢
     omega
   · have k1 := h.leaf (by simp)
     rw [getLastD_inner] at k1 ⊢
     exact k1
 | @postSplit pre post A R lo l new n a b e1 e2 e x y hn ht hx hr hy hyd hlt hns h5 h1 h2 h3 =>
   have k2 := h.made
   rw [getLastD_inner, innerLen_mid] at k2
   have l1 : (lowerHalf n new e1 (lastKey e1)).entries = e1 := rfl
   have l2 : (upperHalf n e2).entries = e2 := rfl
   refine ⟨h.inner.inner ?_, ?_, fun _ => ?_, fun h => by simp at h⟩
   · have h6 : a.length + b.length + 1 = 5 := by rw [hn] at h5; simp at h5; omega
     simp only [List.length_append, List.length_cons, phi_append, phi_cons, ents_append, ents_cons, l1, l2, h1, h2, h5]
     omega
   · rw [getLastD_inner, innerLen_mid]
     simp only [List.length_append, List.length_cons] at k2 ⊢
     omega
   · have k1 := h.leaf (by simp)
     rw [getLastD_inner] at k1 ⊢
     exact k1
 | @kill pre U V A R lp l p n es1 es2 e f hd hn hp hto hkey =>
   have k1 := h.leaf (by simp)
   have k2 := h.made
   have e1 : ∀ (x y : List Cell), pre ++ [x, y] = (pre ++ [x]) ++ [y] := fun x y => by simp
   rw [e1, getLastD_leaf, innerLen_last, live_append, live_cons] at k2
   rw [e1, getLastD_leaf, live_append, live_cons, phi_append, phi_cons] at k1
   refine ⟨h.inner.kill ?_, ?_, fun _ => ?_, fun h => by simp at h⟩
   · simp only [List.length_append, List.length_cons, phi_append, phi_cons, ents_append, ents_cons, hp]
     omega
   · rw [e1, getLastD_leaf, innerLen_last, live_append, live_cons]
     simp only [hd, flat_append, flat_cons, List.length_append, List.length_cons, if_true, if_false, Bool.false_eq_true] at k2 ⊢
     omega
   · rw [e1, getLastD_leaf, live_append, live_cons, phi_append, phi_cons]
     simp only [hd, if_true, if_false, Bool.false_eq_true] at k1 ⊢
     omega
 | @unlink pre A R l k n m hd hm =>
   have k1 := h.leaf (by simp)
   have k2 := h.made
   rw [getLastD_leaf, live_append, live_cons, live_cons, phi_append, phi_cons, phi_cons] at k1
   rw [getLastD_leaf, live_append, live_cons, live_cons, innerLen_last] at k2
   refine ⟨h.inner.last, ?_, fun _ => ?_, fun h => by simp at h⟩
   · rw [getLastD_leaf, live_append, live_cons, innerLen_last]
     simp only [hd, hm, if_true, if_false, Bool.false_eq_true] at k2 ⊢
     omega
   · rw [getLastD_leaf, live_append, live_cons, phi_append, phi_cons]
     simp only [hd, hm, if_true, if_false, Bool.false_eq_true] at k1 ⊢
     omega
/-- Each entry names another node that is alive. -/
theorem Names.count {lo : List Cell} (hr : Rise 0 lo) : ∀ (es : List Entry) (p : Int), risingFrom p es = true → Names lo p es → ∀ a r, lo = a ++ r → (∀ a' t a'', a = a' ++ t :: a'' → t.2.dead = false → lowAfter 0 a' < p) → es.length ≤ live r := by
 intro es
 induction es with
 | nil => intro _ _ _ _ _ _ _; simp
 | cons e es ih =>
   intro p hrs hn a r hlo hC
   simp only [risingFrom, Bool.and_eq_true, decide_eq_true_eq] at hrs
   obtain ⟨⟨a1, t, b1, q1, q2, q3, q4⟩, hn2⟩ := hn
   -- the place lies behind a
   obtain ⟨r1, h1, h2⟩ : ∃ r1, a1 = a ++ r1 ∧ r = r1 ++ t :: b1 := by
    rw [q1] at hlo
    rcases List.append_eq_append_iff.1 hlo with ⟨a', e1, e2⟩ | ⟨a', e1, e2⟩
    · cases a' with
      | nil => exact ⟨[], by simpa using e1.symm, by simpa using e2.symm⟩
      | cons x a' =>
        exfalso
        simp only [List.cons_append, List.cons.injEq] at e2
        have := hC a1 x a' e1 (by rw [← e2.1]; exact q3)
        omega
    · exact ⟨a', e1, e2⟩
   have h3 := ih e.key hrs.2 hn2 (a1 ++ [t]) b1 (by rw [q1]; simp) (fun a' t' a'' he ht => by
    have hle : lowAfter 0 a' ≤ p := by
     have hra : Rise 0 (a1 ++ [t]) := (Rise.append.1 (show Rise 0 ((a1 ++ [t]) ++ b1) by rw [q1] at hr; simpa using hr)).1
     rcases List.eq_nil_or_concat a'' with rfl | ⟨a3, z, rfl⟩
     · have := List.append_inj' (show a1 ++ [t] = a' ++ [t'] by simpa using he) rfl
       rw [← this.1]; omega
     · have h5 : a1 = a' ++ t' :: a3 := by
         have : a1 ++ [t] = (a' ++ t' :: a3) ++ [z] := by simpa using he
         exact (List.append_inj' this rfl).1
       have h6 : Rise 0 a1 := (Rise.append.1 hra).1
       rw [h5] at h6
       have := lowAfter_mono h6
       rw [← h5] at this
       omega
    omega)
   rw [h2, live_append, live_cons, if_neg (by rw [q3]; simp)]
   simp only [List.length_cons]
   omega
theorem Levels.ents_le {up lo : List Cell} {t : List (List Cell)} (h : Levels (up :: lo :: t)) (hn : Links (up :: lo :: t)) : (ents up).length ≤ live lo :=
 Names.count h.2.1.rise (ents up) 0 h.1.risingEnts hn.1 [] lo rfl (fun a' t a'' he _ => by simp at he)
/-- Not more than four levels, and pages enough. -/
theorem Cnt.bound {T : List (List Cell)} {nx : Int} {ins K : Nat} (h : Cnt T nx ins K) (ht : Tree T) (hi : ins ≤ 76) : T.length ≤ 4 ∧ nx ≤ 144 := by
 by_cases hT : T = []
 · subst hT
   have h1 := h.made
   have h2 := h.empty rfl
   subst h2
   simp [live, innerLen, flat] at h1 ⊢
   omega
 have h0 := h.leaf hT
 have hm := h.made
 -- one level above another
 have adj : ∀ (c d : List Cell) (t : List (List Cell)), Levels (c :: d :: t) → Links (c :: d :: t) → InnerCnt K (c :: d :: t) → 3 * c.length ≤ (if t = [] then live d + K else d.length) + 1 ∧ 1 ≤ c.length := by
  intro c d t hl hn hi
  have h1 := hl.ents_le hn
  have h2 := hi.1
  have h3 := live_le d
  have h4 : 1 ≤ c.length := List.length_pos_iff.2 hl.1.ne
  refine ⟨?_, h4⟩
  split
  · rename_i ht; rw [if_pos ht] at h2; omega
  · rename_i ht; rw [if_neg ht] at h2; omega
 obtain ⟨pre, lo, rfl⟩ : ∃ pre lo, T = pre ++ [lo] := by
  rcases List.eq_nil_or_concat T with h | ⟨a, b, h⟩
  · exact absurd h hT
  · exact ⟨a, b, by simpa using h⟩
 rw [getLastD_leaf] at h0 hm
 rw [innerLen_last] at hm
 have hlv := ht.levels
 have hln := ht.links
 have hin := h.inner
 rcases List.eq_nil_or_concat pre with rfl | ⟨pre1, u1, rfl⟩
 · simp [flat] at hm ⊢; omega
 simp only [List.concat_eq_append, List.append_assoc, List.cons_append, List.nil_append] at hlv hln hin hm ⊢
 have c1 := adj u1 lo [] hlv.append hln.append hin.append
 rw [if_pos rfl] at c1
 rcases List.eq_nil_or_concat pre1 with rfl | ⟨pre2, u2, rfl⟩
 · simp [flat] at hm ⊢; omega
 simp only [List.concat_eq_append, List.append_assoc, List.cons_append, List.nil_append] at hlv hln hin hm ⊢
 have c2 := adj u2 u1 [lo] hlv.append hln.append hin.append
 rw [if_neg (by simp)] at c2
 rcases List.eq_nil_or_concat pre2 with rfl | ⟨pre3, u3, rfl⟩
 · simp [flat] at hm ⊢; omega
 simp only [List.concat_eq_append, List.append_assoc, List.cons_append, List.nil_append] at hlv hln hin hm ⊢
 have c3 := adj u3 u2 [u1, lo] hlv.append hln.append hin.append
 rw [if_neg (by simp)] at c3
 rcases List.eq_nil_or_concat pre3 with rfl | ⟨pre4, u4, rfl⟩
 · simp [flat] at hm ⊢; omega
 simp only [List.concat_eq_append, List.append_assoc, List.cons_append, List.nil_append] at hlv hln hin hm ⊢
 have c4 := adj u4 u3 [u2, u1, lo] hlv.append hln.append hin.append
 rw [if_neg (by simp)] at c4
 exfalso
 omega
/-- Where no leaf has died: at least twice as many nodes on each level as on the one above. -/
theorem Cnt.low {T : List (List Cell)} {nx : Int} {ins : Nat} (h : Cnt T nx ins 0) (ht : Tree T) (hT : T ≠ []) : 2 ^ (T.length - 1) ≤ (T.getLastD []).length := by
 have key : ∀ T : List (List Cell), T ≠ [] → Levels T → Links T → InnerCnt 0 T → 2 ^ (T.length - 1) * (T.headD []).length ≤ (T.getLastD []).length := by
  intro T
  induction T with
  | nil => intro h; exact absurd rfl h
  | cons c t ih =>
    intro _ hl hn hi
    cases t with
    | nil => simp
    | cons d t =>
      have h1 := ih (by simp) hl.2 hn.tail hi.2
      have h2 := hl.ents_le hn
      have h3 := live_le d
      have h4 := hi.1
      have h5 : 1 ≤ c.length := List.length_pos_iff.2 hl.1.ne
      have h6 : 2 * c.length ≤ d.length := by
       have : (if t = [] then 0 else 0) = 0 := by split <;> rfl
       rw [this] at h4
       omega
      simp only [List.length_cons, Nat.add_sub_cancel, List.headD_cons] at h1 ⊢
      have e : (c :: d :: t).getLastD [] = (d :: t).getLastD [] := by simp [List.getLastD_eq_getLast?]
      rw [e]
      refine Nat.le_trans ?_ h1
      rw [Nat.pow_succ, Nat.mul_assoc]
      exact Nat.mul_le_mul_left _ h6
 have h1 := key T hT ht.levels ht.links h.inner
 have h2 : 1 ≤ (T.headD []).length := by
  cases T with
  | nil => exact absurd rfl hT
  | cons c t => exact List.length_pos_iff.2 ht.levels.ne
 exact Nat.le_trans (Nat.le_mul_of_pos_right _ h2) h1
end Go.Proofs.YtjmpekanlmepmaaGreatDoor.Bt
namespace Go.Proofs.YtjmpekanlmepmaaGreatDoor.Bt
/-- From a node: so many steps at most are to come; where the descent ends. -/
inductive Goes (known : List Page) (level k height : Int) : Nat → St → Page → Node → St → Walk → Prop
 | here {s : St} {p : Page} {n : Node} : ¬ n.passes k → n.level = level → locked p = false → Goes known level k height 0 s p n { s with ended := true, out := { s.out with height := height } } (.at_ p n)
 | right {N : Nat} {s t : St} {p p' : Page} {n n' : Node} {wk : Walk} : n.passes k → (s.hop n).look known n.right false = (s.hop n, some (p', n')) → n'.level = n.level → Goes known level k height N (s.hop n) p' n' t wk → Goes known level k height (N + 1) s p n t wk
 | rightStop {s s' : St} {p : Page} {n : Node} : n.passes k → (s.hop n).look known n.right false = (s', none) → Goes known level k height 1 s p n s' .stopped
 | down {N : Nat} {s t : St} {p p' : Page} {n n' : Node} {e : Entry} {wk : Walk} : ¬ n.passes k → n.level ≠ level → n.entries[child n.entries k]? = some e → s.look known e.to false = (s, some (p', n')) → n'.level = n.level - 1 → Goes known level k height N s p' n' t wk → Goes known level k height (N + 1) s p n t wk
 | downStop {s s' : St} {p : Page} {n : Node} {e : Entry} : ¬ n.passes k → n.level ≠ level → n.entries[child n.entries k]? = some e → s.look known e.to false = (s', none) → Goes known level k height 1 s p n s' .stopped
theorem Goes.descend {known : List Page} {level k height : Int} {N : Nat} {s t : St} {p : Page} {n : Node} {wk : Walk} (h : Goes known level k height N s p n t wk) (fuel : Nat) (hf : N < fuel) (moves : Int) (hm : moves + N ≤ 256) : descendFrom known level k height fuel s moves p n = (t, wk) := by
 induction h generalizing fuel moves with
 | here h1 h2 h3 =>
   obtain ⟨f, rfl⟩ : ∃ f, fuel = f + 1 := ⟨fuel - 1, by omega⟩
   unfold descendFrom
   rw [if_neg h1, if_pos h2, if_neg (by rw [h3]; simp)]
 | right h1 h2 h3 _ ih =>
   obtain ⟨f, rfl⟩ : ∃ f, fuel = f + 1 := ⟨fuel - 1, by omega⟩
   unfold descendFrom St.neighbour
   rw [if_pos h1, if_neg (by omega), h2]
   simp only
   rw [if_neg (by rw [h3]; simp)]
   exact ih f (by omega) (moves + 1) (by omega)
 | rightStop h1 h2 =>
   obtain ⟨f, rfl⟩ : ∃ f, fuel = f + 1 := ⟨fuel - 1, by omega⟩
   unfold descendFrom St.neighbour
   rw [if_pos h1, if_neg (by omega), h2]
 | down h1 h2 h3 h4 h5 _ ih =>
   obtain ⟨f, rfl⟩ : ∃ f, fuel = f + 1 := ⟨fuel - 1, by omega⟩
   unfold descendFrom
   rw [if_neg h1, if_neg h2, h3]
   simp only
   rw [h4]
   simp only
   rw [if_neg (by rw [h5]; simp)]
   exact ih f (by omega) moves (by omega)
 | downStop h1 h2 h3 h4 =>
   obtain ⟨f, rfl⟩ : ∃ f, fuel = f + 1 := ⟨fuel - 1, by omega⟩
   unfold descendFrom
   rw [if_neg h1, if_neg h2, h3]
   simp only
   rw [h4]
theorem Walks.goes {known : List Page} {lev k height : Int} {c e : Cell} {hs : List Node} {l : List Cell} (h : Walks lev k c hs l e) (hk : ∀ x ∈ c :: l, Sees known x.1 x.2) (s : St) :
 Goes known lev k height l.length s (pg known c.1) c.2 { hs.foldl St.hop s with ended := true, out := { (hs.foldl St.hop s).out with height := height } } (.at_ (pg known e.1) e.2) := by
 induction h generalizing s with
 | @here c h1 h2 => exact .here h1 h2 (hk c (by simp)).free
 | @right c d e hs l h1 h2 h3 _ ih =>
   exact .right h1 (by rw [h2]; exact (hk d (by simp)).look _ _) h3 (ih (fun x hx => hk x (by simp only [List.mem_cons] at hx ⊢; exact .inr hx)) (s.hop c.2))
 | @down c d e x hs l h1 h2 h3 h4 h5 _ ih =>
   exact .down h1 h2 h3 (by rw [h4]; exact (hk d (by simp)).look _ _) h5 (ih (fun x hx => hk x (by simp only [List.mem_cons] at hx ⊢; exact .inr hx)) s)
/-- A descent from the root. -/
inductive Dives (known : List Page) (level k : Int) (s : St) : St → Walk → Prop
 | stop {s' : St} : s.look known s.root false = (s', none) → Dives known level k s s' .stopped
 | absent {p : Page} {n : Node} : s.look known s.root false = (s, some (p, n)) → n.level < level → Dives known level k s s .absent
 | goes {p : Page} {n : Node} {N : Nat} {t : St} {wk : Walk} : s.look known s.root false = (s, some (p, n)) → ¬ n.level < level → N ≤ 256 → Goes known level k (n.level + 1) N s p n t wk → Dives known level k s t wk
theorem Dives.descend {known : List Page} {level k : Int} {s t : St} {wk : Walk} (h : Dives known level k s t wk) : s.descend known level k = (t, wk) := by
 unfold St.descend
 cases h with
 | stop h => rw [h]
 | absent h h2 => rw [h]; simp only; rw [if_pos h2]
 | goes h h2 h3 h4 => rw [h]; simp only; rw [if_neg h2]; exact h4.descend _ (by omega) 0 (by omega)
/-- What a walk has come to. -/
def Walk.got : Walk → Option (Page × Node)
 | .at_ p n => some (p, n)
 | _ => none
def Walk.isAbsent : Walk → Bool
 | .absent => true
 | _ => false
end Go.Proofs.YtjmpekanlmepmaaGreatDoor.Bt
namespace Go.Proofs.YtjmpekanlmepmaaGreatDoor.Bt
/-- A search on a level of the tree comes to the node that covers the key: the steps. -/
theorem Inv.dives {ps : List Page} {nx : Int} {es : List Entry} {T : List (List Cell)} (h : Inv ps nx es T) {lev : Nat} (hlev : lev < T.length) {k : Int} (hk : 1 ≤ k) (hk2 : k ≤ maxHigh) :
 ∃ pre A l n R post hs, T = pre ++ (A ++ (l, n) :: R) :: post ∧ post.length = lev ∧ lowAfter 0 A < k ∧ n.dead = false ∧ k ≤ n.high ∧ (l, n) ∈ flat T ∧ hs.length ≤ 256 ∧
  (∀ s : St, s.root = rootPtr T → Dives ps (lev : Int) k s (after hs (T.length : Int) s) (.at_ (pg ps l) n)) := by
 obtain ⟨pre, A, l, n, R, post, hs, i1, i2, i3, i4, i5, i6, i7, i8, c, r, t, L, rfl, i9, i10⟩ := h.descend hlev hk hk2
 have hcl : c.2.level = (t.length : Int) := h.tree.levels.1.level c (by simp)
 have hops := i9.hops
 have hlen := i10.length_le
 have hsm := h.small
 simp only [List.length_cons] at hlen hlev
 refine ⟨pre, A, l, n, R, post, hs, i1, i2, i3, i4, i5, i6, by rw [hcl] at hops; omega, fun s hs' => ?_⟩
 have hlook : s.look ps s.root false = (s, some (pg ps c.1, c.2)) := by
  rw [hs']
  exact (h.sees c (by simp [flat])).look s false
 have hg := i9.goes (known := ps) (height := c.2.level + 1) (fun x hx => h.sees x (i10.subset hx)) s
 rw [after_eq, hcl] at hg
 have hh : ((((c :: r) :: t).length : Nat) : Int) = (t.length : Int) + 1 := by simp
 rw [hh]
 exact Dives.goes (N := L.length) hlook (by rw [hcl]; omega) (by omega) (by rw [hcl]; exact hg)
theorem Inv.divesAbsent {ps : List Page} {nx : Int} {es : List Entry} {T : List (List Cell)} (h : Inv ps nx es T) {lev : Nat} (hlev : T.length ≤ lev) (hne : T ≠ []) (k : Int) (s : St) (hs : s.root = rootPtr T) : Dives ps (lev : Int) k s s .absent := by
 have tg60 := trivial
 exact wG8
theorem after_hops (hs : List Node) (height : Int) (s : St) : (after hs height s).out.hops = s.out.hops + hs.length := rfl
/-- The place of a key is at a live node's entries. -/
theorem Inv.rootHas {ps : List Page} {nx : Int} {es : List Entry} {T : List (List Cell)} (h : Inv ps nx es T) (hT : T ≠ []) : ∃ c r t, T = (c :: r) :: t ∧ rootPtr T = ptr c.1 ∧ c.2.level = (t.length : Int) := by
 obtain ⟨up, t, rfl⟩ : ∃ up t, T = up :: t := by
  cases T with
  | nil => exact absurd rfl hT
  | cons up t => exact ⟨up, t, rfl⟩
 have hl := h.tree.levels
 obtain ⟨c, r, rfl⟩ : ∃ c r, up = c :: r := by
  cases up with
  | nil => exact absurd rfl hl.ne
  | cons c r => exact ⟨c, r, rfl⟩
 exact ⟨c, r, t, rfl, rfl, hl.1.level c (by simp)⟩
end Go.Proofs.YtjmpekanlmepmaaGreatDoor.Bt
