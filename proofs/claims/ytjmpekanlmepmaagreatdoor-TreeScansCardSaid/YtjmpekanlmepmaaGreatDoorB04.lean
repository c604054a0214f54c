/- An index: what the step function does on it: insert and remove (plain Lean). -/
import Derived.Test.YtjmpekanlmepmaaGreatDoorB03
set_option linter.all false
namespace Go.Proofs.YtjmpekanlmepmaaGreatDoor.Bt
theorem flat_swap (pre post : List (List Cell)) (A M R : List Cell) : flat (pre ++ (A ++ (M ++ R)) :: post) = (flat pre ++ A) ++ (M ++ (R ++ flat post)) := by simp [flat_append, flat_cons]
/-- Other places have other lines. -/
theorem other_lines {X Y : List Cell} {l : Int} {n : Node} (h : ((X ++ ([(l, n)] ++ Y)).map (·.1)).Nodup) : (∀ c ∈ X, c.1 ≠ l) ∧ ∀ c ∈ Y, c.1 ≠ l := by
 simp only [List.map_append, List.map_cons, List.map_nil] at h
 obtain ⟨_, h2, h3⟩ := List.nodup_append.1 h
 refine ⟨fun c hc e => h3 c.1 (List.mem_map_of_mem hc) l (by simp) e, fun c hc e => ?_⟩
 have h4 := (List.nodup_cons.1 h2).1
 apply h4
 rw [← e]
 exact List.mem_map_of_mem hc
theorem rootPtr_swap (pre post : List (List Cell)) {A R : List Cell} {l : Int} {n n' : Node} {ms : List Cell} {M : List Cell} : rootPtr (pre ++ (A ++ ((l, n') :: ms ++ R)) :: post) = rootPtr (pre ++ (A ++ ((l, n) :: M ++ R)) :: post) := by
 cases pre with
 | nil => cases A <;> rfl
 | cons c pre => cases c <;> rfl
theorem leafEnts_swap (pre : List (List Cell)) (A M R : List Cell) : leafEnts (pre ++ [A ++ (M ++ R)]) = ents A ++ (ents M ++ ents R) := by
 rw [leafEnts_leaf, ents_append, ents_append]
/-- One node is written. -/
theorem Inv.write {ps : List Page} {nx : Int} {es es' : List Entry} {T T' : List (List Cell)} (h : Inv ps nx es T) {l : Int} {n n' : Node} (hs : Sees ps l n) (hl : 105 ≤ l ∧ l < nx) (hg : Good n') (ht : Tree T') (hf : ∀ c ∈ flat T', c = (l, n') ∨ (c ∈ flat T ∧ c.1 ≠ l))
 (hr : rootPtr T' = rootPtr T) (hlen : T'.length = T.length) (he : leafEnts T' = es') (hm : (l, n') ∈ flat T' ∧ ((l, n') ∈ flat T → n' = n)) :
 Inv (putPages ps [n'.fill (pg ps l)]) nx es' T' ∧ Commits ps [n'.fill (pg ps l)] := by
 have hb := hs.blank h.ix
 obtain ⟨h1, h2, h3⟩ := hb.put h.ix hg
 have hbd := h.bound
 have hpg : ∀ l', 96 ≤ l' → l' ≠ l → pg (putPages ps [n'.fill (pg ps l)]) l' = pg ps l' := fun l' a b => pg_congr (h3 l' a b)
 refine ⟨⟨h1, ht, fun c hc => ?_, fun c hc => ?_, h.bound, fun l' a b => ?_, ?_, he⟩, Commits.one ⟨by show 96 ≤ (pg ps l).line; rw [hs.line]; omega, by show (pg ps l).line < 256; rw [hs.line]; omega, hg.fill_ok hb.ok, by show (pg ps l).head = (pg ps (pg ps l).line).head; rw [hs.line]⟩⟩
 · rcases hf c hc with rfl | ⟨hc, hne⟩
   · exact h2
   · have := h.range c hc
     exact (h.sees c hc).congr (h3 c.1 (by omega) hne)
 · rcases hf c hc with rfl | ⟨hc, hne⟩
   · exact hl
   · exact h.range c hc
 · rw [hpg l' (by omega) (by omega)]; exact h.fresh l' a b
 · rw [hpg 96 (by omega) (by omega), hr, hlen]; exact h.root
/-- Pages of nodes that did not change. -/
theorem Kept.write {ps : List Page} {nx : Int} {es : List Entry} {T T' : List (List Cell)} (h : Inv ps nx es T) {l : Int} {n n' : Node} (hs : Sees ps l n) (hg : Good n') (hmem : (l, n') ∈ flat T') (hnot : (l, n') ∉ flat T) :
 Kept ps (putPages ps [n'.fill (pg ps l)]) T T' := by
 intro l' hl' hk
 obtain ⟨h1, h2, h3⟩ := (hs.blank h.ix).put h.ix hg
 refine h3 l' (by omega) (fun e => ?_)
 subst e
 exact hnot (hk n' hmem)
/-- A node is written, and another one to a fresh page. -/
theorem Inv.write2 {ps : List Page} {nx : Int} {es es' : List Entry} {T T' : List (List Cell)} (h : Inv ps nx es T) (hnx : nx < 256) {l : Int} {n n1 n2 : Node} (hs : Sees ps l n) (hl : 105 ≤ l ∧ l < nx) (hg1 : Good n1) (hg2 : Good n2) (ht : Tree T')
 (hf : ∀ c ∈ flat T', c = (l, n1) ∨ c = (nx, n2) ∨ (c ∈ flat T ∧ c.1 ≠ l)) (hr : rootPtr T' = rootPtr T) (hlen : T'.length = T.length) (he : leafEnts T' = es') :
 Inv (putPages ps [n1.fill (pg ps l), n2.fill (freshPage (pg ps nx))]) (nx + 1) es' T' ∧ Commits ps [n1.fill (pg ps l), n2.fill (freshPage (pg ps nx))] := by
 obtain ⟨ha, hb2⟩ := h.alloc hnx
 have hb := hs.blank h.ix
 obtain ⟨h1, h2, h3⟩ := hb.put h.ix hg1
 obtain ⟨k1, k2, k3⟩ := hb2.put h1 hg2
 have hbd := h.bound
 have hpl : (pg ps nx).line = nx := hb2.line
 have hpg : ∀ l', 96 ≤ l' → l' ≠ l → l' ≠ nx → pg (putPages ps [n1.fill (pg ps l), n2.fill (freshPage (pg ps nx))]) l' = pg ps l' := fun l' a b c => pg_congr ((k3 l' a c).trans (h3 l' a b))
 refine ⟨⟨k1, ht, fun c hc => ?_, fun c hc => ?_, by omega, fun l' a b => ?_, ?_, he⟩, Commits.pair ⟨by show 96 ≤ (pg ps l).line; rw [hs.line]; omega, by show (pg ps l).line < 256; rw [hs.line]; omega, hg1.fill_ok hb.ok, by show (pg ps l).head = (pg ps (pg ps l).line).head; rw [hs.line]⟩
  ⟨by show 96 ≤ (pg ps nx).line; omega, by show (pg ps nx).line < 256; omega, hg2.fill_ok hb2.ok, by show (pg ps nx).head = (pg ps (pg ps nx).line).head; rw [hpl]⟩ (by show (pg ps l).line < (pg ps nx).line; rw [hs.line, hpl]; omega)⟩
 · rcases hf c hc with rfl | rfl | ⟨hc, hne⟩
   · exact h2.congr (k3 l (by omega) (by omega))
   · exact k2
   · have := h.range c hc
     exact ((h.sees c hc).congr (h3 c.1 (by omega) hne)).congr (k3 c.1 (by omega) (by omega))
 · rcases hf c hc with rfl | rfl | ⟨hc, hne⟩
   · show 105 ≤ l ∧ l < nx + 1; omega
   · show 105 ≤ nx ∧ nx < nx + 1; omega
   · have := h.range c hc; omega
 · rw [hpg l' (by omega) (by omega) (by omega)]; exact h.fresh l' (by omega) b
 · rw [hpg 96 (by omega) (by omega) (by omega), hr, hlen]; exact h.root
theorem Kept.write2 {ps : List Page} {nx : Int} {es : List Entry} {T T' : List (List Cell)} (h : Inv ps nx es T) (hnx : nx < 256) {l : Int} {n n1 n2 : Node} (hs : Sees ps l n) (hg1 : Good n1) (hg2 : Good n2) (hm1 : (l, n1) ∈ flat T') (hn1 : (l, n1) ∉ flat T) (hm2 : (nx, n2) ∈ flat T') :
 Kept ps (putPages ps [n1.fill (pg ps l), n2.fill (freshPage (pg ps nx))]) T T' := by
 intro l' hl' hk
 obtain ⟨ha, hb2⟩ := h.alloc hnx
 obtain ⟨h1, h2, h3⟩ := (hs.blank h.ix).put h.ix hg1
 obtain ⟨k1, k2, k3⟩ := hb2.put h1 hg2
 refine (k3 l' (by omega) (fun e => ?_)).trans (h3 l' (by omega) (fun e => ?_))
 · subst e
   have := h.range _ (hk n2 hm2)
   simp at this
 · subst e
   exact hn1 (hk n1 hm1)
/-- The root page and a fresh page are written. -/
theorem Inv.writeRoot {ps : List Page} {nx : Int} {es es' : List Entry} {T T' : List (List Cell)} (h : Inv ps nx es T) (hnx : nx < 256) {n : Node} (hg : Good n) (ht : Tree T') (hf : ∀ c ∈ flat T', c = (nx, n) ∨ c ∈ flat T)
 (hr : rootPtr T' = ptr nx) (hlev : T'.length - 1 ≤ 8) (he : leafEnts T' = es') :
 Inv (putPages ps [Bt.writeRoot (pg ps 96) (ptr nx) ((T'.length - 1 : Nat) : Int), n.fill (freshPage (pg ps nx))]) (nx + 1) es' T' ∧ Commits ps [Bt.writeRoot (pg ps 96) (ptr nx) ((T'.length - 1 : Nat) : Int), n.fill (freshPage (pg ps nx))] := by
 obtain ⟨ha, hb2⟩ := h.alloc hnx
 obtain ⟨r1, r2, r3, r4, r5⟩ := h.rootHere
 have hbd := h.bound
 have hpl : (pg ps nx).line = nx := hb2.line
 have hvp : validP (ptr nx) = true := validP_ptr (by omega) hnx
 have hpk := pack_lt (ptr nx)
 obtain ⟨R, hR⟩ : ∃ R, R = Bt.writeRoot (pg ps 96) (ptr nx) ((T'.length - 1 : Nat) : Int) := ⟨_, rfl⟩
 have hRl : R.line = 96 := by rw [hR]; exact r3
 have hRo : R.Ok := by
  rw [hR]
  exact ⟨r4.head, by show 0 ≤ pack (ptr nx) + ((T'.length - 1 : Nat) : Int) * 4294967296 ∧ pack (ptr nx) + ((T'.length - 1 : Nat) : Int) * 4294967296 < 18446744073709551616; omega, r4.d1, r4.d2, r4.d3, r4.d4, r4.d5, r4.d6⟩
 have hRf : R.head % 256 = 0 := by rw [hR]; exact r5
 have hix := h.ix.put (p := R) (by omega) (by omega) hRo hRf
 have hlat := fun l' hl' => h.ix.latest_put (p := R) (by omega) (by omega) hRo hRf l' hl'
 obtain ⟨k1, k2, k3⟩ := hb2.put hix hg
 have hlast : ∀ l', 96 ≤ l' → l' ≠ 96 → l' ≠ nx → latest (putPages ps [R, n.fill (freshPage (pg ps nx))]) l' = latest ps l' := fun l' a b c => by
  refine (k3 l' a c).trans ?_
  rw [hlat l' a, if_neg (by rw [hRl]; exact b)]
 have hpg96 : pg (putPages ps [R, n.fill (freshPage (pg ps nx))]) 96 = raised R := by
  have e : latest (putPages ps [R, n.fill (freshPage (pg ps nx))]) 96 = some (raised R) := by
   refine (k3 96 (by omega) (by omega)).trans ?_
   rw [hlat 96 (by omega), if_pos hRl.symm]
  show (latest (putPages ps [R, n.fill (freshPage (pg ps nx))]) 96).getD zeroPage = raised R
  rw [e]; rfl
 rw [← hR]
 refine ⟨⟨k1, ht, fun c hc => ?_, fun c hc => ?_, by omega, fun l' a b => ?_, ?_, he⟩, Commits.pair ⟨by omega, by omega, hRo, by rw [hRl, hR]; rfl⟩
  ⟨by show 96 ≤ (pg ps nx).line; omega, by show (pg ps nx).line < 256; omega, hg.fill_ok hb2.ok, by show (pg ps nx).head = (pg ps (pg ps nx).line).head; rw [hpl]⟩ (by show R.line < (pg ps nx).line; omega)⟩
 · rcases hf c hc with rfl | hc
   · exact k2
   · have := h.range c hc
     exact (h.sees c hc).congr (hlast c.1 (by omega) (by omega) (by omega))
 · rcases hf c hc with rfl | hc
   · show 105 ≤ nx ∧ nx < nx + 1; omega
   · have := h.range c hc; omega
 · rw [pg_congr (hlast l' (by omega) (by omega) (by omega))]; exact h.fresh l' (by omega) b
 · rw [hpg96, hr]
   have e : (raised R).d0 = pack (ptr nx) + ((T'.length - 1 : Nat) : Int) * 4294967296 := by rw [hR]; rfl
   unfold readRoot
   rw [e]
   have e1 : (pack (ptr nx) + ((T'.length - 1 : Nat) : Int) * 4294967296) % 4294967296 = pack (ptr nx) := by omega
   have e2 : (pack (ptr nx) + ((T'.length - 1 : Nat) : Int) * 4294967296) / 4294967296 = ((T'.length - 1 : Nat) : Int) := by omega
   rw [e1, e2, unpack_pack (.inr hvp), if_pos]
   unfold validRoot
   rw [if_neg (fun e => by have := validP_nil; rw [← e, hvp] at this; cases this), hvp]
   simp; omega
theorem Kept.writeRoot {ps : List Page} {nx : Int} {es : List Entry} {T T' : List (List Cell)} (h : Inv ps nx es T) (hnx : nx < 256) {n : Node} (hg : Good n) (hm : (nx, n) ∈ flat T') (lev : Int) (hlev : 0 ≤ lev ∧ lev ≤ 8) :
 Kept ps (putPages ps [Bt.writeRoot (pg ps 96) (ptr nx) lev, n.fill (freshPage (pg ps nx))]) T T' := by
 intro l' hl' hk
 obtain ⟨ha, hb2⟩ := h.alloc hnx
 obtain ⟨r1, r2, r3, r4, r5⟩ := h.rootHere
 have hpk := pack_lt (ptr nx)
 obtain ⟨R, hR⟩ : ∃ R, R = Bt.writeRoot (pg ps 96) (ptr nx) lev := ⟨_, rfl⟩
 have hRl : R.line = 96 := by rw [hR]; exact r3
 have hRo : R.Ok := by
  rw [hR]
  exact ⟨r4.head, by show 0 ≤ pack (ptr nx) + lev * 4294967296 ∧ pack (ptr nx) + lev * 4294967296 < 18446744073709551616; omega, r4.d1, r4.d2, r4.d3, r4.d4, r4.d5, r4.d6⟩
 have hRf : R.head % 256 = 0 := by rw [hR]; exact r5
 have hix := h.ix.put (p := R) (by omega) (by omega) hRo hRf
 have hlat := fun l' hl' => h.ix.latest_put (p := R) (by omega) (by omega) hRo hRf l' hl'
 obtain ⟨k1, k2, k3⟩ := hb2.put hix hg
 rw [← hR]
 refine (k3 l' (by omega) (fun e => ?_)).trans ?_
 · subst e
   have := h.range _ (hk n hm)
   simp at this
 · rw [hlat l' (by omega), if_neg (by omega)]
/-! ### operations that may need a fresh page -/
def RunsTo (op : Op) (ps : List Page) (nx : Int) (ws : List Page) (o : Out) (nx' : Int) : Prop :=
 (next op ps = ⟨[], ws, o, true⟩ ∧ nx' = nx) ∨ ∃ o1, next op ps = ⟨[], [], o1, true⟩ ∧ o1.code = 18 ∧ o1.fresh = 1 ∧ nx < 256 ∧ next { op with fresh := [pg ps nx] } ps = ⟨[], ws, o, true⟩ ∧ nx' = nx + 1
theorem fresh_none (s : St) {op : Op} (taken : List Int) (h : op.fresh = []) : s.fresh op taken = (({ s with out := { s.out with fresh := 1 } } : St).fail 18 [], none) := by unfold St.fresh; rw [h]
theorem Inv.fresh_some {ps : List Page} {nx : Int} {es : List Entry} {T : List (List Cell)} (h : Inv ps nx es T) (hnx : nx < 256) (s : St) (op : Op) (taken : List Int) (ht : nx ∉ taken) : s.fresh { op with fresh := [pg ps nx] } taken = (s, some (freshPage (pg ps nx))) := by
 obtain ⟨ha, hb⟩ := h.alloc hnx
 unfold St.fresh
 simp only [ha]
 rw [if_neg]
 rintro (h | h)
 · exact h rfl
 · rw [hb.line] at h; exact ht h
theorem close_done {s : St} (hn : s.need = []) (ws : List Page) (check : List Int) : (s.finish ws check).close = ⟨[], sortPages ws, if s.ended then (s.finish ws check).out else { (s.finish ws check).out with hops := 0, height := 0, dead := false, unposted := false }, true⟩ := by
 unfold St.close
 rw [if_neg (by show ¬ s.need ≠ []; rw [hn]; simp)]
 rfl
theorem sortPages_lt {p q : Page} (h : p.line < q.line) : sortPages [p, q] = [p, q] := by simp [sortPages]; omega
/-- A node's entries are stored: it fits, or it is split. -/
theorem Inv.store {ps : List Page} {nx : Int} {es es' : List Entry} {T : List (List Cell)} (h : Inv ps nx es T) (hnx : nx < 256) {pre post : List (List Cell)} {A R : List Cell} {l : Int} {n : Node} {ns : List Entry} (hT : T = pre ++ (A ++ (l, n) :: R) :: post)
 (hd : n.dead = false) (hf : Fits n (lowAfter 0 A) ns) (h0 : 0 ≤ lowAfter 0 A) (hlen : ns.length ≤ n.entries.length + 1) (hne : ns ≠ n.entries) (hlow : ∀ lo t, post = lo :: t → Names lo 0 (ents A ++ (ns ++ ents R)) ∧ ∀ e ∈ n.entries, ∃ e' ∈ ns, e'.key = e.key)
 (hes : (post = [] → es' = ents A ++ (ns ++ ents R)) ∧ (post ≠ [] → es' = es)) (op : Op) (hop : op.fresh = []) (s : St) (hs : s.need = []) (hend : s.ended = true) (check : List Int) (hck : nx ∉ check ++ [l]) :
 ∃ T' ws nx', nx' ≤ nx + 1 ∧ Commits ps ws ∧ Inv (putPages ps ws) nx' es' T' ∧ Kept ps (putPages ps ws) T T' ∧
  ((T' = pre ++ (A ++ (l, { n with entries := ns }) :: R) :: post ∧ nx' = nx ∧ ws = [({ n with entries := ns } : Node).fill (pg ps l)] ∧ ns.length ≤ 5) ∨
   (∃ e1 e2, ns = e1 ++ e2 ∧ n.entries.length = 5 ∧ e1.length = 3 ∧ e2.length = 3 ∧ lastKey e1 < n.high ∧ nx' = nx + 1 ∧ ws = [(lowerHalf n nx e1 (lastKey e1)).fill (pg ps l), (upperHalf n e2).fill (freshPage (pg ps nx))] ∧ T' = pre ++ (A ++ (l, lowerHalf n nx e1 (lastKey e1)) :: (nx, upperHalf n e2) :: R) :: post)) ∧
  ((s.store op (pg ps l) n ns check).close = ⟨[], ws, (s.store op (pg ps l) n ns check).out, true⟩ ∧ (s.store op (pg ps l) n ns check).out = (s.finish ws check).out ∧ nx' = nx ∨
   (∃ o1, (s.store op (pg ps l) n ns check).close = ⟨[], [], o1, true⟩ ∧ (s.writes = [] → o1.code = 18 ∧ o1.fresh = 1) ∧ s.writes = [] ∧ nx' = nx + 1 ∧
    (s.store { op with fresh := [pg ps nx] } (pg ps l) n ns check).close = ⟨[], ws, (({ s with out := { s.out with split := true } } : St).finish ws check).out, true⟩) ∨ s.writes ≠ []) := by
 subst hT
 have hm : (l, n) ∈ flat (pre ++ (A ++ (l, n) :: R) :: post) := by simp [flat]
 have hse : Sees ps l n := h.sees (l, n) hm
 have hrg : 105 ≤ l ∧ l < nx := h.range (l, n) hm
 have hgn := hse.good
 have hnr := hgn.range
 have hnd := h.tree.nodup
 rw [show A ++ (l, n) :: R = A ++ ([(l, n)] ++ R) by simp, lines, flat_swap] at hnd
 obtain ⟨ho1, ho2⟩ := other_lines hnd
 have hln := hse.line
 have hnot : ∀ m, m ≠ n → (l, m) ∉ flat (pre ++ (A ++ (l, n) :: R) :: post) := fun m hmn hc => by
  rw [show A ++ (l, n) :: R = A ++ ([(l, n)] ++ R) by simp, flat_swap] at hc
  simp only [List.mem_append, List.mem_singleton] at hc
  rcases hc with hc | hc | hc
  · exact ho1 (l, m) (by simpa using hc) rfl
  · simp at hc; exact hmn hc
  · exact ho2 (l, m) (by simpa using hc) rfl
 have hfl : ∀ c ∈ flat pre ++ A, c ∈ flat (pre ++ (A ++ (l, n) :: R) :: post) := fun c hc => by
  rw [show A ++ (l, n) :: R = A ++ ([(l, n)] ++ R) by simp, flat_swap]; exact List.mem_append_left _ hc
 have hfr : ∀ c ∈ R ++ flat post, c ∈ flat (pre ++ (A ++ (l, n) :: R) :: post) := fun c hc => by
  rw [show A ++ (l, n) :: R = A ++ ([(l, n)] ++ R) by simp, flat_swap]; exact List.mem_append_right _ (List.mem_append_right _ hc)
 have hleaf : ∀ M : List Cell, ents M = ns → leafEnts (pre ++ (A ++ (M ++ R)) :: post) = es' := fun M hM => by
  cases post with
  | nil => rw [leafEnts_swap, hM, hes.1 rfl]
  | cons lo t =>
    rw [hes.2 (by simp), ← h.holds]
    simp [leafEnts, List.getLastD_eq_getLast?]
 by_cases h5 : ns.length ≤ 5
 · have hv := hf.valid hgn.valid hd h0 h5
   have hg : Good { n with entries := ns } := ⟨hv, hgn.high⟩
   have ht := h.tree.entries hd hf h0 h5 hlow
   have hnn : ({ n with entries := ns } : Node) ≠ n := fun e => hne (by have := congrArg Node.entries e; exact this)
   have hm' : (l, ({ n with entries := ns } : Node)) ∈ flat (pre ++ (A ++ (l, { n with entries := ns }) :: R) :: post) := by simp [flat]
   have hw := h.write (es' := es') hse ⟨hrg.1, hrg.2⟩ hg ht (fun c hc => by
    rw [show A ++ (l, ({ n with entries := ns } : Node)) :: R = A ++ ([(l, { n with entries := ns })] ++ R) by simp, flat_swap] at hc
    simp only [List.mem_append, List.mem_singleton] at hc
    rcases hc with hc | hc | hc
    · exact .inr ⟨hfl c (by simpa using hc), ho1 c (by simpa using hc)⟩
    · exact .inl hc
    · exact .inr ⟨hfr c (by simpa using hc), ho2 c (by simpa using hc)⟩) (rootPtr_swap (ms := []) (M := []) pre post) (by simp) (hleaf [(l, { n with entries := ns })] (by simp [ents])) ⟨hm', fun hc => absurd hc (hnot _ hnn)⟩
   refine ⟨_, _, nx, by omega, hw.2, hw.1, Kept.write h hse hg hm' (hnot _ hnn), .inl ⟨rfl, rfl, rfl, h5⟩, .inl ⟨?_, ?_, rfl⟩⟩
   · have e : s.store op (pg ps l) n ns check = s.finish [({ n with entries := ns } : Node).fill (pg ps l)] check := by unfold St.store; rw [if_pos h5]
     rw [e, close_done hs, if_pos hend]; rfl
   · have e : s.store op (pg ps l) n ns check = s.finish [({ n with entries := ns } : Node).fill (pg ps l)] check := by unfold St.store; rw [if_pos h5]
     rw [e]
 · have hnl := (Node.valid_parts hgn.valid).2.2.1
   have h6 : ns.length = 6 := by omega
   have h5n : n.entries.length = 5 := by omega
   obtain ⟨e1, he1⟩ : ∃ e1, e1 = ns.take 3 := ⟨_, rfl⟩
   obtain ⟨e2, he2⟩ : ∃ e2, e2 = ns.drop 3 := ⟨_, rfl⟩
   have hns : ns = e1 ++ e2 := by rw [he1, he2, List.take_append_drop]
   have hl1 : e1.length = 3 := by rw [he1, List.length_take]; omega
   have hl2 : e2.length = 3 := by rw [he2, List.length_drop]; omega
   have hn1 : e1 ≠ [] := fun e => by rw [e] at hl1; simp at hl1
   have hn2 : e2 ≠ [] := fun e => by rw [e] at hl2; simp at hl2
   have hnew : validP (ptr nx) = true := validP_ptr (by have := h.bound; omega) hnx
   have hfresh : nx ∉ lines (pre ++ (A ++ (l, n) :: R) :: post) := fun hc => by
    obtain ⟨c, hc, e⟩ := List.mem_map.1 hc
    have := h.range c hc
    omega
   have ht := h.tree.split (new := nx) (e1 := e1) (e2 := e2) hd (hns ▸ hf) h0 hn1 hn2 (by omega) (by omega) hnew hfresh hgn.high (by rw [← hns]; exact hlow)
   have hlv := h.tree.level
   have hr12 := risingFrom_append.1 (hns ▸ hf.rise)
   have hk1 : lastOr (lowAfter 0 A) e1 = lastKey e1 := lastOr_last _ _ hn1
   have hlt : lastKey e1 < n.high := by
    have h1 := rising_last hr12.2 hn2
    rw [hk1] at h1
    have h2 := hf.le
    rw [hns, lastKey_append_ne e1 hn2] at h2
    omega
   have hlv' := ht.level
   have hg1 : Good (lowerHalf n nx e1 (lastKey e1)) := ⟨hlv'.valid (l, lowerHalf n nx e1 (lastKey e1)) (by simp), by show lastKey e1 ≤ maxHigh; have h9 : n.high ≤ maxHigh := hgn.high; omega⟩
   have hg2 : Good (upperHalf n e2) := ⟨hlv'.valid (nx, upperHalf n e2) (by simp), hgn.high⟩
   have hhn : lowerHalf n nx e1 (lastKey e1) ≠ n := fun e => by
    have := congrArg Node.high e
    have : lastKey e1 = n.high := this
    omega
   have hm1 : (l, lowerHalf n nx e1 (lastKey e1)) ∈ flat (pre ++ (A ++ (l, lowerHalf n nx e1 (lastKey e1)) :: (nx, upperHalf n e2) :: R) :: post) := by simp [flat]
   have hm2 : (nx, upperHalf n e2) ∈ flat (pre ++ (A ++ (l, lowerHalf n nx e1 (lastKey e1)) :: (nx, upperHalf n e2) :: R) :: post) := by simp [flat]
   have hw := h.write2 (es' := es') hnx hse ⟨hrg.1, hrg.2⟩ hg1 hg2 ht (fun c hc => by
    rw [show A ++ (l, lowerHalf n nx e1 (lastKey e1)) :: (nx, upperHalf n e2) :: R = A ++ ([(l, lowerHalf n nx e1 (lastKey e1)), (nx, upperHalf n e2)] ++ R) by simp, flat_swap] at hc
    simp only [List.mem_append, List.mem_cons, List.not_mem_nil, or_false] at hc
    rcases hc with hc | (hc | hc) | hc
    · exact .inr (.inr ⟨hfl c (by simpa using hc), ho1 c (by simpa using hc)⟩)
    · exact .inl hc
    · exact .inr (.inl hc)
    · exact .inr (.inr ⟨hfr c (by simpa using hc), ho2 c (by simpa using hc)⟩)) (rootPtr_swap (ms := [(nx, upperHalf n e2)]) (M := []) pre post) (by simp) (hleaf [(l, lowerHalf n nx e1 (lastKey e1)), (nx, upperHalf n e2)] (by simp [ents, lowerHalf, upperHalf, hns]))
   refine ⟨_, _, nx + 1, by omega, hw.2, hw.1, Kept.write2 h hnx hse hg1 hg2 hm1 (hnot _ hhn) hm2, .inr ⟨e1, e2, hns, h5n, hl1, hl2, hlt, rfl, rfl, rfl⟩, .inr ?_⟩
   by_cases hsw : s.writes = []
   · left
     have e : s.store op (pg ps l) n ns check = ({ s with out := { s.out with fresh := 1 } } : St).fail 18 [] := by
      unfold St.store; rw [if_neg h5, fresh_none _ _ hop]
     have ec := close_fail (s := ({ s with out := { s.out with fresh := 1 } } : St)) hs 18 []
     rw [if_pos (show ({ s with out := { s.out with fresh := 1 } } : St).ended = true from hend), show sortPages ({ s with out := { s.out with fresh := 1 } } : St).writes = [] by show sortPages s.writes = []; rw [hsw]; rfl] at ec
     refine ⟨_, by rw [e]; exact ec, fun _ => ⟨rfl, rfl⟩, hsw, rfl, ?_⟩
     have hk3 : (ns.getD 2 default).key = lastKey e1 := by
      rw [he1]
      match ns, h6 with
      | [a, b, c, d, e, f], _ => rfl
     have e' : s.store { op with fresh := [pg ps nx] } (pg ps l) n ns check = ({ s with out := { s.out with split := true } } : St).finish [(lowerHalf n nx e1 (lastKey e1)).fill (pg ps l), (upperHalf n e2).fill (freshPage (pg ps nx))] check := by
      unfold St.store
      rw [if_neg h5, h.fresh_some hnx _ _ _ (by rw [hln]; exact hck)]
      simp only
      rw [hk3, ← he1, ← he2]
      have hat : at_ (freshPage (pg ps nx)) = ptr nx := by
       obtain ⟨ha, hb⟩ := h.alloc hnx
       simp [at_, ptr, hb.gen, hb.line]
      rw [hat]
      rfl
     have ed := close_done (s := ({ s with out := { s.out with split := true } } : St)) hs [(lowerHalf n nx e1 (lastKey e1)).fill (pg ps l), (upperHalf n e2).fill (freshPage (pg ps nx))] check
     obtain ⟨ha, hb⟩ := h.alloc hnx
     rw [if_pos (show ({ s with out := { s.out with split := true } } : St).ended = true from hend)] at ed
     rw [e']
     refine ed.trans ?_
     rw [sortPages_lt (by show (pg ps l).line < (pg ps nx).line; rw [hln]; have := hb.line; have h7 : (pg ps nx).line = nx := this; rw [h7]; exact hrg.2)]
   · right; exact hsw
end Go.Proofs.YtjmpekanlmepmaaGreatDoor.Bt
namespace Go.Proofs.YtjmpekanlmepmaaGreatDoor.Bt
theorem insertAt_ne {es : List Entry} {k : Int} {e : Entry} : insertAt es (child es k) e ≠ es := fun h => by
 have := congrArg List.length h
 rw [insertAt_length] at this
 omega
theorem Fits.insert {n : Node} {low k : Int} {to : Ptr} (hn : n.valid = true) (hlev : n.level = 0) (hr : risingFrom low n.entries = true) (hlow : low < k) (hk : k ≤ n.high) (hk2 : k ≤ maxKey) (hno : hasKey n.entries k = false) (hto : validP to = true) :
 Fits n low (insertAt n.entries (child n.entries k) ⟨k, to⟩) := by
 obtain ⟨a1, a2, a3, a4, a5, a6, a7, a8, a9, a10, a11⟩ := Node.valid_parts hn
 exact ⟨rising_insert hr hlow hno hto, lastKey_insert a8 hk, fun h => by omega, fun h => lastKey_insert (a11 h) hk2⟩
theorem Inv.insertThere {ps : List Page} {nx : Int} {es : List Entry} {T : List (List Cell)} (h : Inv ps nx es T) {op : Op} (hkd : op.kind = 2) (hk : 1 ≤ op.key) (hk2 : op.key ≤ maxKey) (hto : validP op.to = true) (hthere : hasKey es op.key = true) :
 ∃ o, next op ps = ⟨[], [], o, true⟩ ∧ o.code = 17 ∧ o.check.length = 1 := by
 have hv : op.isValid = true := by unfold Op.isValid; simp [hkd, isKey, hk, hk2, hto]
 have hgo : (S0 ps T).go op ps = (S0 ps T).insert op ps := by unfold St.go; rw [if_neg (by omega), if_pos hkd]
 rw [h.step hv, hgo]
 have hT : T ≠ [] := fun e => by subst e; rw [← h.holds] at hthere; cases hthere
 obtain ⟨pre, A, l, n, R, hs, i1, i3, i3b, i4, i5, i5b, i6, i6b, i6c, i7, i8, i9, i10, i11, i12, i13⟩ := h.leaf hT hk (by unfold maxKey at hk2; unfold maxHigh; omega)
 obtain ⟨q1, q2, q3, q4, q5⟩ := place_split (m := n.entries) i10 i11
 rw [← i9] at q1 q2 q3
 have hroot : ¬ (S0 ps T).root = nilP := fun e => hT (h.rootNil.1 e)
 have hline : (pg ps l).line = l := i6.line
 have e1 : (S0 ps T).insert op ps = (after hs (T.length : Int) (S0 ps T)).fail 17 [l] := by
  unfold St.insert
  rw [if_neg hroot, i7 _ rfl]
  simp only
  rw [if_pos (by rw [← q2]; exact hthere), hline]
 rw [e1, close_fail rfl]
 exact ⟨_, rfl, rfl, rfl⟩
/-- What an operation that changes the tree comes to. -/
def Turns (w : Nat) (op : Op) (ps : List Page) (nx : Int) (es' : List Entry) (T : List (List Cell)) (o : Out) : Prop :=
 ∃ ws nx' T', RunsTo op ps nx ws o nx' ∧ nx' ≤ nx + 1 ∧ Commits ps ws ∧ Inv (putPages ps ws) nx' es' T' ∧ Kept ps (putPages ps ws) T T' ∧ Evo (nx' - nx) w 0 T T'
/-- The same, with what is known of the tree that comes of it. -/
def TurnsP (Q : Int → List (List Cell) → Prop) (w : Nat) (op : Op) (ps : List Page) (nx : Int) (es' : List Entry) (T : List (List Cell)) (o : Out) : Prop :=
 ∃ ws nx' T', RunsTo op ps nx ws o nx' ∧ nx' ≤ nx + 1 ∧ Commits ps ws ∧ Inv (putPages ps ws) nx' es' T' ∧ Kept ps (putPages ps ws) T T' ∧ Evo (nx' - nx) w 0 T T' ∧ Q nx' T'
theorem Turns.toP {w : Nat} {op : Op} {ps : List Page} {nx : Int} {es' : List Entry} {T : List (List Cell)} {o : Out} (h : Turns w op ps nx es' T o) : TurnsP (fun _ _ => True) w op ps nx es' T o := by
 obtain ⟨ws, nx', T', h1, h2, h3, h4, h5, h6⟩ := h
 exact ⟨ws, nx', T', h1, h2, h3, h4, h5, h6, trivial⟩
theorem Inv.insertNew {ps : List Page} {nx : Int} {es : List Entry} {T : List (List Cell)} (h : Inv ps nx es T) (hnx : nx < 256) {op : Op} (hkd : op.kind = 2) (hop : op.fresh = []) (hk : 1 ≤ op.key) (hk2 : op.key ≤ maxKey) (hto : validP op.to = true) (hno : hasKey es op.key = false) :
 ∃ o, Turns 1 op ps nx (insertAt es (child es op.key) ⟨op.key, op.to⟩) T o ∧ o.code = 0 ∧ o.done = true := by
 have hv : op.isValid = true := by unfold Op.isValid; simp [hkd, isKey, hk, hk2, hto]
 have hv2 : ({ op with fresh := [pg ps nx] } : Op).isValid = true := by unfold Op.isValid; simp [hkd, isKey, hk, hk2, hto]
 have hgo : (S0 ps T).go op ps = (S0 ps T).insert op ps := by unfold St.go; rw [if_neg (by omega), if_pos hkd]
 have hgo2 : (S0 ps T).go { op with fresh := [pg ps nx] } ps = (S0 ps T).insert { op with fresh := [pg ps nx] } ps := by unfold St.go; rw [if_neg (by show ¬ op.kind = 1; omega), if_pos hkd]
 have n1 := h.step hv
 have n2 := h.step hv2
 rw [hgo] at n1
 rw [hgo2] at n2
 obtain ⟨r1, r2, r3, r4, r5⟩ := h.rootHere
 by_cases hT : T = []
 · subst hT
   have hes : es = [] := by rw [← h.holds]; rfl
   subst hes
   have hg : Good (firstLeaf ⟨op.key, op.to⟩) := ⟨(Tree.plant (e := ⟨op.key, op.to⟩) (new := nx) ⟨by show 0 < op.key; omega, hk2⟩ hto).levels.1.valid (nx, firstLeaf ⟨op.key, op.to⟩) (by simp), Int.le_refl _⟩
   have hw := h.writeRoot (T' := [[(nx, firstLeaf ⟨op.key, op.to⟩)]]) (es' := [⟨op.key, op.to⟩]) hnx hg (Tree.plant ⟨by show 0 < op.key; omega, hk2⟩ hto) (fun c hc => by simp [flat] at hc; exact .inl hc) rfl (by simp) rfl
   have hkp := Kept.writeRoot (T' := [[(nx, firstLeaf ⟨op.key, op.to⟩)]]) h hnx hg (by simp [flat]) 0 (by omega)
   have hplant : ∀ o : Op, (S0 ps []).insert o ps = (S0 ps []).plant o ⟨o.key, o.to⟩ := fun o => by unfold St.insert; rw [if_pos (show (S0 ps []).root = nilP from rfl)]
   have hf1 : (S0 ps []).plant op ⟨op.key, op.to⟩ = ({ S0 ps [] with out := { (S0 ps []).out with fresh := 1 } } : St).fail 18 [] := by
    unfold St.plant
    rw [if_neg (by show ¬ locked (pg ps 96) = true; rw [r2]; simp), fresh_none _ _ hop]
   have hf2 : (S0 ps []).plant { op with fresh := [pg ps nx] } ⟨op.key, op.to⟩ = (S0 ps []).finish [Bt.writeRoot (pg ps 96) (ptr nx) 0, (firstLeaf ⟨op.key, op.to⟩).fill (freshPage (pg ps nx))] [] := by
    unfold St.plant
    rw [if_neg (by show ¬ locked (pg ps 96) = true; rw [r2]; simp), h.fresh_some hnx _ _ _ (by simp)]
    obtain ⟨ha, hb⟩ := h.alloc hnx
    have hat : at_ (freshPage (pg ps nx)) = ptr nx := by simp [at_, ptr, hb.gen, hb.line]
    simp only
    rw [hat]
    rfl
   rw [hplant, hf1, close_fail (s := ({ S0 ps [] with out := { (S0 ps []).out with fresh := 1 } } : St)) rfl] at n1
   rw [hplant, hf2, close_done (s := S0 ps []) rfl] at n2
   obtain ⟨ha, hb⟩ := h.alloc hnx
   have hbd := h.bound
   rw [sortPages_lt (by show (pg ps 96).line < (pg ps nx).line; have h7 : (pg ps nx).line = nx := hb.line; omega)] at n2
   refine ⟨_, ⟨_, nx + 1, _, .inr ⟨_, n1, rfl, rfl, hnx, n2, rfl⟩, Int.le_refl _, hw.2, hw.1, hkp, by rw [show nx + 1 - nx = 1 by omega]; exact Evo.plant⟩, rfl, rfl⟩
 · obtain ⟨pre, A, l, n, R, hs, i1, i3, i3b, i4, i5, i5b, i6, i6b, i6c, i7, i8, i9, i10, i11, i12, i13⟩ := h.leaf hT hk (by unfold maxKey at hk2; unfold maxHigh; omega)
   obtain ⟨q1, q2, q3, q4, q5⟩ := place_split (m := n.entries) i10 i11
   rw [← i9] at q1 q2 q3 q4
   have hroot : ¬ (S0 ps T).root = nilP := fun e => hT (h.rootNil.1 e)
   have hline : (pg ps l).line = l := i6.line
   have hno' : hasKey n.entries op.key = false := by rw [← q2]; exact hno
   have hins : ∀ o : Op, o.key = op.key → o.to = op.to → (S0 ps T).insert o ps = (after hs (T.length : Int) (S0 ps T)).store o (pg ps l) n (insertAt n.entries (child n.entries op.key) ⟨op.key, op.to⟩) [] := fun o e1 e2 => by
    unfold St.insert
    rw [if_neg hroot, e1, i7 _ rfl]
    simp only
    rw [if_neg (by rw [hno']; simp), e2]
   rw [hins op rfl rfl] at n1
   rw [hins { op with fresh := [pg ps nx] } rfl rfl] at n2
   have hgn := i6.good
   obtain ⟨T', ws, nx', s1, s2, s3, s4, s5, s6⟩ := h.store (es' := insertAt es (child es op.key) ⟨op.key, op.to⟩) hnx i1 i4 (Fits.insert hgn.valid i5b i12 i3 i5 hk2 hno' hto) i3b (by rw [insertAt_length]; omega) insertAt_ne (fun lo t hp => by cases hp) ⟨fun _ => q4 _, fun hp => absurd rfl hp⟩ op hop (after hs (T.length : Int) (S0 ps T)) rfl rfl [] (by simp; omega)
   have hevo : Evo (nx' - nx) 1 0 T T' := by
    rw [i1]
    rcases s5 with ⟨e, en, _⟩ | ⟨e1, e2, z1, z2, z3, z4, z5, z6, z7, z8⟩
    · rw [e, en, Int.sub_self]; exact Evo.leaf i4 (by rw [insertAt_length]; omega)
    · rw [z8, z6, show nx + 1 - nx = 1 by omega]; exact Evo.leafSplit i4 z2 z3 z4 z5
   rcases s6 with ⟨c1, c2, c3⟩ | ⟨o1, c1, c2, c3, c4, c5⟩ | c1
   · rw [c1, c2] at n1
     exact ⟨_, ⟨ws, nx', T', .inl ⟨n1, c3⟩, s1, s2, s3, s4, hevo⟩, rfl, rfl⟩
   · rw [c1] at n1
     rw [c5] at n2
     exact ⟨_, ⟨ws, nx', T', .inr ⟨o1, n1, (c2 c3).1, (c2 c3).2, hnx, n2, c4⟩, s1, s2, s3, s4, hevo⟩, rfl, rfl⟩
   · exact absurd rfl c1
/-! ### remove -/
theorem Inv.removeNone {ps : List Page} {nx : Int} {es : List Entry} {T : List (List Cell)} (h : Inv ps nx es T) {op : Op} (hkd : op.kind = 3) (hk : 1 ≤ op.key) (hk2 : op.key ≤ maxKey) (hno : hasKey es op.key = false) :
 ∃ o, next op ps = ⟨[], [], o, true⟩ ∧ o.code = 16 ∧ o.check.length = 1 := by
 have hv : op.isValid = true := by unfold Op.isValid; simp [hkd, isKey, hk, hk2]
 have hgo : (S0 ps T).go op ps = (S0 ps T).remove op ps := by unfold St.go; rw [if_neg (by omega), if_neg (by omega), if_pos hkd]
 rw [h.step hv, hgo]
 obtain ⟨r1, r2, r3, r4, r5⟩ := h.rootHere
 by_cases hT : T = []
 · subst hT
   have e1 : (S0 ps []).remove op ps = (S0 ps []).fail 16 [96] := by
    unfold St.remove St.noTree
    rw [if_pos (show (S0 ps []).root = nilP from rfl), if_neg (by show ¬ locked (pg ps 96) = true; rw [r2]; simp)]
   rw [e1, close_fail rfl]
   exact ⟨_, rfl, rfl, rfl⟩
 · obtain ⟨pre, A, l, n, R, hs, i1, i3, i3b, i4, i5, i5b, i6, i6b, i6c, i7, i8, i9, i10, i11, i12, i13⟩ := h.leaf hT hk (by unfold maxKey at hk2; unfold maxHigh; omega)
   obtain ⟨q1, q2, q3, q4, q5⟩ := place_split (m := n.entries) i10 i11
   rw [← i9] at q2
   have hroot : ¬ (S0 ps T).root = nilP := fun e => hT (h.rootNil.1 e)
   have hline : (pg ps l).line = l := i6.line
   have e1 : (S0 ps T).remove op ps = (after hs (T.length : Int) (S0 ps T)).fail 16 [l] := by
    unfold St.remove
    rw [if_neg hroot, i7 _ rfl]
    simp only
    rw [if_neg (by rw [← q2, hno]; simp), hline]
   rw [e1, close_fail rfl]
   exact ⟨_, rfl, rfl, rfl⟩
theorem Inv.removeThere {ps : List Page} {nx : Int} {es : List Entry} {T : List (List Cell)} (h : Inv ps nx es T) (hnx : nx < 256) {op : Op} (hkd : op.kind = 3) (hop : op.fresh = []) (hk : 1 ≤ op.key) (hk2 : op.key ≤ maxKey) (hthere : hasKey es op.key = true) :
 ∃ o ws T', next op ps = ⟨[], ws, o, true⟩ ∧ Commits ps ws ∧ Inv (putPages ps ws) nx (deleteAt es (child es op.key)) T' ∧ Kept ps (putPages ps ws) T T' ∧ o.code = 0 ∧ o.done = true ∧ o.to = (es.getD (child es op.key) default).to ∧
  ∃ pre A l n R, lowAfter 0 A < op.key ∧ op.key ≤ n.high ∧ n.dead = false ∧ T = pre ++ [A ++ (l, n) :: R] ∧ T' = pre ++ [A ++ (l, { n with entries := deleteAt n.entries (child n.entries op.key) }) :: R] ∧ (deleteAt n.entries (child n.entries op.key)).length + 1 = n.entries.length := by
 have hv : op.isValid = true := by unfold Op.isValid; simp [hkd, isKey, hk, hk2]
 have hgo : (S0 ps T).go op ps = (S0 ps T).remove op ps := by unfold St.go; rw [if_neg (by omega), if_neg (by omega), if_pos hkd]
 rw [h.step hv, hgo]
 have hT : T ≠ [] := fun e => by subst e; rw [← h.holds] at hthere; cases hthere
 obtain ⟨pre, A, l, n, R, hs, i1, i3, i3b, i4, i5, i5b, i6, i6b, i6c, i7, i8, i9, i10, i11, i12, i13⟩ := h.leaf hT hk (by unfold maxKey at hk2; unfold maxHigh; omega)
 obtain ⟨q1, q2, q3, q4, q5⟩ := place_split (m := n.entries) i10 i11
 rw [← i9] at q1 q2 q3 q5
 have hroot : ¬ (S0 ps T).root = nilP := fun e => hT (h.rootNil.1 e)
 have hline : (pg ps l).line = l := i6.line
 have hth' : hasKey n.entries op.key = true := by rw [← q2]; exact hthere
 obtain ⟨a, e, b, z1, z2, z3, z4, z5⟩ := hasKey_true hth'
 have hgn := i6.good
 obtain ⟨a1, a2, a3, a4, a5, a6, a7, a8, a9, a10, a11⟩ := Node.valid_parts hgn.valid
 have hlen : (deleteAt n.entries (child n.entries op.key)).length + 1 = n.entries.length := by rw [z5, z1]; simp; omega
 have hf : Fits n (lowAfter 0 A) (deleteAt n.entries (child n.entries op.key)) := by
  rw [z5]
  have hr := i12
  rw [z1] at hr
  have hl8 : lastKey (a ++ e :: b) ≤ n.high := by rw [← z1]; exact a8
  have hl11 : lastKey (a ++ e :: b) ≤ maxKey := by rw [← z1]; exact a11 i5b
  exact ⟨rising_delete hr, lastKey_delete hr hl8 (by omega), fun h => by omega, fun _ => lastKey_delete hr hl11 (by decide)⟩
 have e1 : (S0 ps T).remove op ps = ({ after hs (T.length : Int) (S0 ps T) with out := { (after hs (T.length : Int) (S0 ps T)).out with to := (n.entries.getD (child n.entries op.key) default).to } } : St).store op (pg ps l) n (deleteAt n.entries (child n.entries op.key)) [] := by
  unfold St.remove
  rw [if_neg hroot, i7 _ rfl]
  simp only
  rw [if_pos hth']
 obtain ⟨T', ws, nx', s1, s2, s3, s4, s5, s6⟩ := h.store (es' := deleteAt es (child es op.key)) hnx i1 i4 hf i3b (by omega) (fun e => by have := congrArg List.length e; omega) (fun lo t hp => by cases hp) ⟨fun _ => q5 hth', fun hp => absurd rfl hp⟩ op hop
  ({ after hs (T.length : Int) (S0 ps T) with out := { (after hs (T.length : Int) (S0 ps T)).out with to := (n.entries.getD (child n.entries op.key) default).to } } : St) rfl rfl [] (by simp; omega)
 have hfit : T' = pre ++ [A ++ (l, { n with entries := deleteAt n.entries (child n.entries op.key) }) :: R] ∧ nx' = nx := by
  rcases s5 with ⟨e, e2, _⟩ | ⟨e1, e2, z1, z2, z3, z4, z5, z6, z7, z8⟩
  · exact ⟨e, e2⟩
  · exfalso
    have := congrArg List.length z1
    simp at this
    omega
 rw [e1]
 rcases s6 with ⟨c1, c2, c3⟩ | ⟨o1, c1, c2, c3, c4, c5⟩ | c1
 · rw [c1, c2]
   refine ⟨_, ws, T', rfl, s2, hfit.2 ▸ s3, s4, rfl, rfl, ?_, pre, A, l, n, R, i3, i5, i4, i1, hfit.1, hlen⟩
   rw [q3 _ hth']; rfl
 · exfalso; rw [hfit.2] at c4; omega
 · exact absurd rfl c1
/-! ### raise -/
theorem Inv.raise {ps : List Page} {nx : Int} {es : List Entry} {T : List (List Cell)} (h : Inv ps nx es T) (hnx : nx < 256) (hsm : T.length ≤ 8) {op : Op} (hkd : op.kind = 6) (hop : op.fresh = []) :
 (T = [] ∧ ∃ o, next op ps = ⟨[], [], o, true⟩ ∧ o.code = 16) ∨ (∃ c t, T = [c] :: t ∧ ∃ o, next op ps = ⟨[], [], o, true⟩ ∧ o.code = 0 ∧ o.found = true ∧ o.done = false) ∨
  ∃ x y r t o, T = (x :: y :: r) :: t ∧ TurnsP (fun _ T' => T' = [(nx, newRoot ((t.length : Int) + 1) x.2.high (ptr x.1) (ptr y.1))] :: (x :: y :: r) :: t) 0 op ps nx es T o ∧ o.code = 0 ∧ o.done = true ∧ o.found = false := by
 have hv : op.isValid = true := by unfold Op.isValid; simp [hkd]
 have hv2 : ({ op with fresh := [pg ps nx] } : Op).isValid = true := by unfold Op.isValid; simp [hkd]
 have hg : ∀ o : Op, o.kind = 6 → (S0 ps T).go o ps = (S0 ps T).raise o ps := fun o ho => by unfold St.go; rw [if_neg (by omega), if_neg (by omega), if_neg (by omega), if_neg (by omega), if_neg (by omega), if_pos ho]
 have n1 := h.step hv
 have n2 := h.step hv2
 rw [hg op hkd] at n1
 rw [hg { op with fresh := [pg ps nx] } hkd] at n2
 obtain ⟨r1, r2, r3, r4, r5⟩ := h.rootHere
 by_cases hT : T = []
 · left
   subst hT
   refine ⟨rfl, ?_⟩
   have e1 : (S0 ps []).raise op ps = (S0 ps []).fail 16 [] := by unfold St.raise; rw [if_pos (show (S0 ps []).root = nilP from rfl)]
   rw [n1, e1, close_fail rfl]
   exact ⟨_, rfl, rfl⟩
 · right
   have hroot : ¬ (S0 ps T).root = nilP := fun e => hT (h.rootNil.1 e)
   obtain ⟨up, t, rfl⟩ : ∃ up t, T = up :: t := by
    cases T with
    | nil => exact absurd rfl hT
    | cons up t => exact ⟨up, t, rfl⟩
   have hlv := h.tree.levels.1
   obtain ⟨⟨l, n⟩, r, rfl⟩ : ∃ c r, up = c :: r := by
    cases up with
    | nil => exact absurd rfl hlv.ne
    | cons c r => exact ⟨c, r, rfl⟩
   have hm : (l, n) ∈ flat (((l, n) :: r) :: t) := by simp [flat]
   have hse : Sees ps l n := h.sees (l, n) hm
   have hrg : 105 ≤ l ∧ l < nx := h.range (l, n) hm
   have hlook : ∀ b, (S0 ps (((l, n) :: r) :: t)).look ps (S0 ps (((l, n) :: r) :: t)).root b = (S0 ps (((l, n) :: r) :: t), some (pg ps l, n)) := fun b => hse.look _ b
   have hch := hlv.chain.1
   cases r with
   | nil =>
     left
     refine ⟨(l, n), t, rfl, ?_⟩
     have hnr : n.right = nilP := hch
     have e1 : (S0 ps ([(l, n)] :: t)).raise op ps = { S0 ps ([(l, n)] :: t) with out := { (S0 ps ([(l, n)] :: t)).out with found := true } } := by
      unfold St.raise
      rw [if_neg hroot, hlook]
      simp only
      rw [if_pos hnr]
     rw [n1, e1]
     exact ⟨_, rfl, rfl, rfl, rfl⟩
   | cons y r =>
     right
     have hnr : n.right = ptr y.1 := hch
     have hyv : validP (ptr y.1) = true := (h.sees y (by simp [flat])).valid
     have hnn : ¬ n.right = nilP := fun e => by rw [hnr] at e; rw [e, validP_nil] at hyv; cases hyv
     have hlev : n.level = (t.length : Int) := hlv.level (l, n) (by simp)
     have hl8 : ¬ n.level = 8 := by simp only [List.length_cons] at hsm; omega
     have hfresh : nx ∉ lines (((l, n) :: y :: r) :: t) := fun hc => by
      obtain ⟨c, hc, e⟩ := List.mem_map.1 hc
      have := h.range c hc
      omega
     have ht := Tree.raise (new := nx) h.tree (by simp only [List.length_cons] at hsm; omega) hfresh (fun c hc => (h.sees c hc).valid)
     have hgd : Good (newRoot ((t.length : Int) + 1) n.high (ptr l) (ptr y.1)) := ⟨ht.levels.1.valid (nx, newRoot ((t.length : Int) + 1) n.high (ptr l) (ptr y.1)) (by simp), Int.le_refl _⟩
     have hw := h.writeRoot (es' := es) hnx hgd ht (fun c hc => by simp only [flat_cons, List.mem_append, List.mem_cons, List.not_mem_nil, or_false] at hc ⊢; rcases hc with hc | hc; exact .inl hc; exact .inr hc) rfl (by simp only [List.length_cons] at hsm ⊢; omega) (by rw [← h.holds]; simp [leafEnts, List.getLastD_eq_getLast?])
     have hkp := Kept.writeRoot (T' := [(nx, newRoot ((t.length : Int) + 1) n.high (ptr l) (ptr y.1))] :: ((l, n) :: y :: r) :: t) h hnx hgd (by simp [flat]) (((([(nx, newRoot ((t.length : Int) + 1) n.high (ptr l) (ptr y.1))] :: ((l, n) :: y :: r) :: t : List (List Cell)).length - 1 : Nat)) : Int) (by simp only [List.length_cons] at hsm ⊢; omega)
     have hf1 : (S0 ps (((l, n) :: y :: r) :: t)).raise op ps = ({ S0 ps (((l, n) :: y :: r) :: t) with out := { (S0 ps (((l, n) :: y :: r) :: t)).out with fresh := 1 } } : St).fail 18 [] := by
      unfold St.raise
      rw [if_neg hroot, hlook]
      simp only
      rw [if_neg hnn, if_neg hl8, fresh_none _ _ hop]
     have hline : (pg ps l).line = l := hse.line
     obtain ⟨ha, hb⟩ := h.alloc hnx
     have hat : at_ (freshPage (pg ps nx)) = ptr nx := by simp [at_, ptr, hb.gen, hb.line]
     have hf2 : (S0 ps (((l, n) :: y :: r) :: t)).raise { op with fresh := [pg ps nx] } ps = (S0 ps (((l, n) :: y :: r) :: t)).finish [Bt.writeRoot (pg ps 96) (ptr nx) (((([(nx, newRoot ((t.length : Int) + 1) n.high (ptr l) (ptr y.1))] :: ((l, n) :: y :: r) :: t : List (List Cell)).length - 1 : Nat)) : Int), (newRoot ((t.length : Int) + 1) n.high (ptr l) (ptr y.1)).fill (freshPage (pg ps nx))] [l] := by
      unfold St.raise
      rw [if_neg hroot, hlook]
      simp only
      rw [if_neg hnn, if_neg hl8, h.fresh_some hnx _ _ _ (by rw [hline]; simp; omega)]
      simp only
      rw [hat, hline, hlev, hnr]
      have e : (((([(nx, newRoot ((t.length : Int) + 1) n.high (ptr l) (ptr y.1))] :: ((l, n) :: y :: r) :: t : List (List Cell)).length - 1 : Nat)) : Int) = (t.length : Int) + 1 := by simp
      rw [e]
      rfl
     rw [hf1, close_fail (s := ({ S0 ps (((l, n) :: y :: r) :: t) with out := { (S0 ps (((l, n) :: y :: r) :: t)).out with fresh := 1 } } : St)) rfl] at n1
     rw [hf2, close_done (s := S0 ps (((l, n) :: y :: r) :: t)) rfl] at n2
     have hbd := h.bound
     rw [sortPages_lt (by show (pg ps 96).line < (pg ps nx).line; have h7 : (pg ps nx).line = nx := hb.line; omega)] at n2
     exact ⟨(l, n), y, r, t, _, rfl, ⟨_, nx + 1, _, .inr ⟨_, n1, rfl, rfl, hnx, n2, rfl⟩, Int.le_refl _, hw.2, hw.1, hkp, by rw [show nx + 1 - nx = 1 by omega]; exact Evo.raise, rfl⟩, rfl, rfl, rfl⟩
end Go.Proofs.YtjmpekanlmepmaaGreatDoor.Bt
namespace Go.Proofs.YtjmpekanlmepmaaGreatDoor.Bt
theorem setTo_insert (a b : List Entry) (e : Entry) (k : Int) (p q : Ptr) : setTo (insertAt (a ++ e :: b) a.length ⟨k, p⟩) (a.length + 1) q = a ++ ⟨k, p⟩ :: ⟨e.key, q⟩ :: b := by
 have h1 : insertAt (a ++ e :: b) a.length ⟨k, p⟩ = (a ++ [⟨k, p⟩]) ++ e :: b := by simp [insertAt, List.take_left, List.drop_left]
 have h2 : ∀ (u : List Entry) (v : List Entry), setTo (u ++ e :: v) u.length q = u ++ ⟨e.key, q⟩ :: v := fun u v => by
  unfold setTo
  rw [List.modify_eq_take_cons_drop (by simp)]
  have h3 : (u ++ e :: v)[u.length]'(by simp) = e := by simp
  have h4 : List.drop (u.length + 1) (u ++ e :: v) = v := by
   rw [show u ++ e :: v = (u ++ [e]) ++ v by simp, show u.length + 1 = (u ++ [e]).length by simp, List.drop_left]
  rw [h3, h4, List.take_left]
 rw [h1, show a.length + 1 = (a ++ [(⟨k, p⟩ : Entry)]).length by simp, h2]
 simp
theorem rising_mem_le {p : Int} {a b : List Entry} {e : Entry} (h : risingFrom p (a ++ e :: b) = true) : (∀ g ∈ a, g.key ≤ lastOr p a) ∧ lastOr p a < e.key ∧ ∀ g ∈ b, e.key < g.key := by
 rw [risingFrom_append] at h
 have h2 := h.2
 simp only [risingFrom, Bool.and_eq_true, decide_eq_true_eq] at h2
 exact ⟨(lastOr_ge h.1).2, h2.1.1, fun g hg => (rising_valid h2.2 g hg).1⟩
/-- What a Post comes to: where it looks. -/
structure PostAt (T : List (List Cell)) (lev : Nat) (key : Int) (pre post : List (List Cell)) (A R lo a' b' : List Cell) (l : Int) (n : Node) (a b : List Entry) (e : Entry) (x : Cell) : Prop where
 tree : T = pre ++ (A ++ (l, n) :: R) :: lo :: post
 len : post.length = lev
 ents : n.entries = a ++ e :: b
 left : ∀ g ∈ a, g.key < key
 here : key ≤ e.key
 low : lo = a' ++ x :: b'
 to : e.to = ptr x.1
 live : x.2.dead = false
 over : lowAfter 0 A < key
theorem Inv.post {ps : List Page} {nx : Int} {es : List Entry} {T : List (List Cell)} (h : Inv ps nx es T) (hnx : nx < 256) {op : Op} (hkd : op.kind = 5) (hop : op.fresh = []) (hk : 1 ≤ op.key) (hk2 : op.key ≤ maxHigh) {lev : Nat} (hlev : op.level = (lev : Int)) (hl8 : lev < 8) :
 (T.length ≤ lev + 1 ∧ ∃ o, next op ps = ⟨[], [], o, true⟩ ∧ o.code = 16) ∨
  ∃ pre post A R lo a' b' l n a b e x, PostAt T lev op.key pre post A R lo a' b' l n a b e x ∧
   ((e.key ≤ x.2.high ∧ ∃ o, next op ps = ⟨[], [], o, true⟩ ∧ o.code = 0 ∧ o.found = true ∧ o.done = false) ∨ (x.2.high < e.key ∧ ∃ o, TurnsP (fun _ T' => ∃ lv', T' = pre ++ lv' :: lo :: post ∧ (Bt.ents lv').length = (Bt.ents (A ++ (l, n) :: R)).length + 1 ∧ headPtr lv' nilP = headPtr (A ++ (l, n) :: R) nilP) 0 op ps nx es T o ∧ o.code = 0 ∧ o.done = true ∧ o.found = false)) := by
 have hva : ∀ fr, ({ op with fresh := fr } : Op).isValid = true := fun fr => by unfold Op.isValid; simp [hkd, hk, hlev]; omega
 have hv : op.isValid = true := hva op.fresh
 have hg : ∀ o : Op, o.kind = 5 → (S0 ps T).go o ps = (S0 ps T).post o ps := fun o ho => by unfold St.go; rw [if_neg (by omega), if_neg (by omega), if_neg (by omega), if_neg (by omega), if_pos ho]
 have n1 := h.step hv
 have n2 := h.step (hva [pg ps nx])
 rw [hg op hkd] at n1
 rw [hg { op with fresh := [pg ps nx] } hkd] at n2
 by_cases hT : T = []
 · left
   subst hT
   refine ⟨by simp, ?_⟩
   have e1 : (S0 ps []).post op ps = (S0 ps []).fail 16 [] := by unfold St.post; rw [if_pos (show (S0 ps []).root = nilP from rfl)]
   rw [n1, e1, close_fail rfl]
   exact ⟨_, rfl, rfl⟩
 have hroot : ¬ (S0 ps T).root = nilP := fun e => hT (h.rootNil.1 e)
 by_cases hsh : T.length ≤ lev + 1
 · left
   refine ⟨hsh, ?_⟩
   have e1 : (S0 ps T).post op ps = (S0 ps T).fail 16 [] := by
    unfold St.post
    rw [if_neg hroot, hlev, show (lev : Int) + 1 = ((lev + 1 : Nat) : Int) by omega, h.absent hsh hT _ _ rfl]
   rw [n1, e1, close_fail rfl]
   exact ⟨_, rfl, rfl⟩
 right
 obtain ⟨pre, A, l, n, R, post, hs, i1, i2, i3, i4, i5, i6, i7, i8, i9⟩ := h.descend (lev := lev + 1) (by omega) hk hk2
 obtain ⟨lo, post, rfl⟩ : ∃ lo p, post = lo :: p := by
  cases post with
  | nil => simp at i2
  | cons lo p => exact ⟨lo, p, rfl⟩
 have hlp : post.length = lev := by simpa using i2
 have hlevels : Levels ((A ++ (l, n) :: R) :: lo :: post) := (i1 ▸ h.tree.levels).append
 have hlinks : Links ((A ++ (l, n) :: R) :: lo :: post) := (i1 ▸ h.tree.links).append
 have hnp : ¬ (l, n).2.passes op.key := fun hp => by
  rcases hp with hp | hp
  · rw [i4] at hp; cases hp
  · have : n.high < op.key := hp
    omega
 obtain ⟨a, e, b, a', x, b', z1, z2, z3, z4, z5, z6, z7, z8, z9, z10⟩ := Levels.down hlevels hlinks (by omega) rfl i3 hnp
 have hlvU := hlevels.1
 have hlvL := hlevels.2.1
 have hse : Sees ps l n := h.sees (l, n) i6
 have hxm : x ∈ flat T := by rw [i1, z5]; simp [flat]
 have hsx : Sees ps x.1 x.2 := h.sees x hxm
 have hrx := h.range x hxm
 have hrg : 105 ≤ l ∧ l < nx := h.range (l, n) i6
 have hgn : Good n := hse.good
 obtain ⟨a1, a2, a3, a4, a5, a6, a7, a8, a9, a10, a11⟩ := Node.valid_parts hgn.valid
 have hRu := hlvU.risingEnts
 have hz1 : n.entries = a ++ e :: b := z1
 have hEu : ents (A ++ (l, n) :: R) = (ents A ++ a) ++ e :: (b ++ ents R) := by rw [ents_append, ents_cons, show (l, n).2.entries = n.entries from rfl, hz1]; simp
 rw [hEu] at hRu
 have hmid := rising_mem_le hRu
 have hq : lastOr 0 (ents A ++ a) = lowAfter 0 a' := by rw [lastOr_append]; exact z8.symm
 have hpost : ∀ (o : Op), o.key = op.key → o.level = op.level → (S0 ps T).post o ps =
  (if e.key ≤ x.2.high then { after hs (T.length : Int) (S0 ps T) with out := { (after hs (T.length : Int) (S0 ps T)).out with found := true } }
   else if 0 < a.length ∧ x.2.high ≤ ((a ++ e :: b).getD (a.length - 1) default).key then (after hs (T.length : Int) (S0 ps T)).fail 14 []
   else (after hs (T.length : Int) (S0 ps T)).store o (pg ps l) n (setTo (insertAt (a ++ e :: b) a.length ⟨x.2.high, e.to⟩) (a.length + 1) x.2.right) [x.1]) := fun o e1 e2 => by
  unfold St.post
  rw [if_neg hroot, e1, e2, hlev, show (lev : Int) + 1 = ((lev + 1 : Nat) : Int) by omega, i7 _ rfl]
  simp only
  have hc : child n.entries op.key = a.length := z2.symm
  have hgd : n.entries.getD a.length default = e := by rw [hz1]; simp [List.getD_eq_getElem?_getD, List.getElem?_append_right]
  rw [hc, hgd, z6, hsx.look]
  simp only
  rw [if_neg (by rw [show x.2.level = (post.length : Int) from hlvL.level x (by rw [z5]; simp)]; omega), if_neg (by rw [z7]; simp), hsx.line, hz1]
 have hat : PostAt T lev op.key pre post A R lo a' b' l n a b e x := ⟨i1, hlp, hz1, z10, z4, z5, z6, z7, i3⟩
 refine ⟨pre, post, A, R, lo, a', b', l, n, a, b, e, x, hat, ?_⟩
 by_cases hfound : e.key ≤ x.2.high
 · left
   refine ⟨hfound, ?_⟩
   rw [n1, hpost op rfl rfl, if_pos hfound]
   exact ⟨_, rfl, rfl, rfl, rfl⟩
 right
 have hxe : x.2.high < e.key := by omega
 refine ⟨hxe, ?_⟩
 -- the right neighbour
 have hek : e.key ≤ n.high := by have := rising_le_last a4 e (by rw [hz1]; simp); omega
 have hgnh := hgn.high
 obtain ⟨y, b'', rfl⟩ : ∃ y r, b' = y :: r := by
  cases b' with
  | cons y r => exact ⟨y, r, rfl⟩
  | nil =>
    exfalso
    have hch0 := hlvL.chain
    rw [z5] at hch0
    have hch := (Chain.append.1 hch0).2.1
    have hxv := Node.valid_parts (hlvL.valid x (by rw [z5]; simp))
    have h1 : x.2.right = nilP := hch
    have h2 : x.2.high = maxHigh := hxv.2.2.2.2.2.2.1.2 h1
    omega
 have hxy : x.2.right = ptr y.1 := by
  have hch0 := hlvL.chain
  rw [z5] at hch0
  exact (Chain.append.1 hch0).2.1
 have hlx := Rise.at_low (z5 ▸ hlvL.rise) z7
 have hyl : y.2.dead = false := by
  cases post with
  | cons c t => exact hlvL.live (by simp only [List.length_cons]; omega) y (by rw [z5]; simp)
  | nil =>
    cases hyd : y.2.dead with
    | false => rfl
    | true =>
      exfalso
      have hD := Deads.get (pre := pre) (by have := h.tree.deads; rw [i1] at this; exact this)
      rw [z5, Dead.append] at hD
      have hD2 := hD.2
      simp only [Dead, z7, hyd, if_true] at hD2
      obtain ⟨⟨g, hg, hgk⟩, _⟩ := hD2
      rw [hEu] at hg
      rcases List.mem_append.1 hg with hg | hg
      · have h1 := hmid.1 g hg
        rw [hq] at h1
        have := hlx.1
        omega
      · rcases List.mem_cons.1 hg with rfl | hg
        · omega
        · have := hmid.2.2 g hg; omega
 have hym : y ∈ flat T := by rw [i1, z5]; simp [flat]
 have hyv : validP (ptr y.1) = true := (h.sees y hym).valid
 have hxv : validP (ptr x.1) = true := hsx.valid
 have hprev : ¬ (0 < a.length ∧ x.2.high ≤ ((a ++ e :: b).getD (a.length - 1) default).key) := by
  rintro ⟨hpos, hle⟩
  obtain ⟨g, hg⟩ : ∃ g, a[a.length - 1]? = some g := ⟨_, List.getElem?_eq_getElem (by omega)⟩
  have hgd : (a ++ e :: b).getD (a.length - 1) default = g := by
   rw [List.getD_eq_getElem?_getD, List.getElem?_append_left (by omega), hg]; rfl
  rw [hgd] at hle
  have h1 := hmid.1 g (List.mem_append_right _ (List.mem_of_getElem? hg))
  rw [hq] at h1
  have := hlx.1
  omega
 obtain ⟨ns, hns⟩ : ∃ ns, ns = a ++ ⟨x.2.high, e.to⟩ :: ⟨e.key, ptr y.1⟩ :: b := ⟨_, rfl⟩
 have hst : setTo (insertAt (a ++ e :: b) a.length ⟨x.2.high, e.to⟩) (a.length + 1) x.2.right = ns := by rw [setTo_insert, hxy, hns]
 rw [hpost op rfl rfl, if_neg hfound, if_neg hprev, hst] at n1
 rw [hpost { op with fresh := [pg ps nx] } rfl rfl, if_neg hfound, if_neg hprev, hst] at n2
 have hlowA : 0 ≤ lowAfter 0 A := (Rise.append.1 hlvU.rise).1.low.1
 have hlA : lastOr 0 (ents A) = lowAfter 0 A := Level.lastOr (l := (((lo :: post).length : Nat) : Int)) (by simp only [List.length_cons]; omega) (fun c hc => hlvU.valid c (by simp [hc])) (fun c hc => hlvU.level c (by simp [hc])) 0
 have hqa : lastOr (lowAfter 0 A) a = lowAfter 0 a' := by rw [z8, hlA]
 have hnl : n.level = ((post.length : Nat) : Int) + 1 := by have := hlvU.level (l, n) (by simp); simpa using this
 have hrn : risingFrom (lowAfter 0 A) (a ++ e :: b) = true := by
  have h1 : risingFrom 0 (a ++ e :: b) = true := hz1 ▸ a4
  have h2 := (Rise.at_low hlvU.rise i4).2
  exact risingFrom_more h1 (fun g hg => h2 g (by show g ∈ n.entries; rw [hz1]; exact hg))
 have hrn2 := risingFrom_append.1 hrn
 have hrn3 := hrn2.2
 simp only [risingFrom, Bool.and_eq_true, decide_eq_true_eq] at hrn3
 have hlast : lastKey ns = lastKey n.entries := by
  rw [hns, hz1, lastKey_append_ne a (by simp), lastKey_append_ne a (by simp)]
  cases b with
  | nil => rfl
  | cons g b => rfl
 have hfits : Fits n (lowAfter 0 A) ns := by
  refine ⟨?_, by rw [hlast]; exact a8, fun hl => by rw [hlast]; exact a10 hl, fun hl => by rw [hlast]; exact a11 hl⟩
  rw [hns]
  refine risingFrom_append.2 ⟨hrn2.1, ?_⟩
  simp only [risingFrom, Bool.and_eq_true, decide_eq_true_eq]
  rw [hqa]
  exact ⟨⟨hlx.1, by rw [z6]; exact hxv⟩, ⟨hxe, hyv⟩, hrn3.2⟩
 have hnslen : ns.length = n.entries.length + 1 := by rw [hns, hz1]; simp; omega
 have hnames : Names lo 0 (ents A ++ (ns ++ ents R)) := by
  have hN : Names lo 0 (ents (A ++ (l, n) :: R)) := hlinks.1
  rw [hEu, Names.append] at hN
  rw [hns, show ents A ++ ((a ++ ⟨x.2.high, e.to⟩ :: ⟨e.key, ptr y.1⟩ :: b) ++ ents R) = (ents A ++ a) ++ (⟨x.2.high, e.to⟩ :: ⟨e.key, ptr y.1⟩ :: (b ++ ents R)) by simp]
  refine Names.append.2 ⟨hN.1, ?_, ?_, hN.2.2⟩
  · exact hN.2.1
  · refine ⟨a' ++ [x], y, b'', by rw [z5]; simp, rfl, hyl, ?_⟩
    rw [lowAfter_append, lowAfter_live _ z7]
 have hkeys : ∀ g ∈ n.entries, ∃ g' ∈ ns, g'.key = g.key := fun g hg => by
  rw [hz1] at hg
  rw [hns]
  rcases List.mem_append.1 hg with hg | hg
  · exact ⟨g, by simp [hg], rfl⟩
  · rcases List.mem_cons.1 hg with rfl | hg
    · exact ⟨⟨g.key, ptr y.1⟩, by simp, rfl⟩
    · exact ⟨g, by simp [hg], rfl⟩
 obtain ⟨T', ws, nx', s1, s2, s3, s4, s5, s6⟩ := h.store (es' := es) hnx i1 i4 hfits hlowA (by omega) (fun e => by have := congrArg List.length e; omega) (fun lo' t hp => by
  simp only [List.cons.injEq] at hp
  obtain ⟨rfl, rfl⟩ := hp
  exact ⟨hnames, hkeys⟩) ⟨fun hp => (by cases hp), fun _ => rfl⟩ op hop (after hs (T.length : Int) (S0 ps T)) rfl rfl [x.1] (by simp; omega)
 have hxlo : x ∈ lo := by rw [z5]; simp
 have hylo : y ∈ lo := by rw [z5]; simp
 have hevo : Evo (nx' - nx) 0 0 T T' := by
  rw [i1]
  rcases s5 with ⟨e1, en, _⟩ | ⟨e1, e2, w1, w2, w3, w4, w5, w6, w7, w8⟩
  · rw [e1, hns, en, Int.sub_self]; exact Evo.post hz1 z6 hxlo hxy hylo hyl hxe
  · rw [w8, w6, show nx + 1 - nx = 1 by omega]; exact Evo.postSplit hz1 z6 hxlo hxy hylo hyl hxe (hns ▸ w1) w2 w3 w4 w5
 have hQ : ∃ lv', T' = pre ++ lv' :: lo :: post ∧ (Bt.ents lv').length = (Bt.ents (A ++ (l, n) :: R)).length + 1 ∧ headPtr lv' nilP = headPtr (A ++ (l, n) :: R) nilP := by
  have hE : (Bt.ents (A ++ (l, n) :: R)).length = (Bt.ents A).length + (n.entries.length + (Bt.ents R).length) := by rw [ents_append, ents_cons]; simp
  rcases s5 with ⟨e1, _⟩ | ⟨e1, e2, w1, _, _, _, _, _, _, w8⟩
  · refine ⟨_, e1, ?_, by rw [headPtr_append, headPtr_append]; rfl⟩
    rw [hE, ents_append, ents_cons]
    simp only [List.length_append]
    rw [hnslen]; omega
  · refine ⟨_, w8, ?_, by rw [headPtr_append, headPtr_append]; rfl⟩
    have := congrArg List.length w1
    rw [hnslen, List.length_append] at this
    rw [hE, ents_append, ents_cons, ents_cons]
    simp only [List.length_append, lowerHalf, upperHalf]
    omega
 rcases s6 with ⟨c1, c2, c3⟩ | ⟨o1, c1, c2, c3, c4, c5⟩ | c1
 · rw [c1, c2] at n1
   exact ⟨_, ⟨ws, nx', T', .inl ⟨n1, c3⟩, s1, s2, s3, s4, hevo, hQ⟩, rfl, rfl, rfl⟩
 · rw [c1] at n1
   rw [c5] at n2
   exact ⟨_, ⟨ws, nx', T', .inr ⟨o1, n1, (c2 c3).1, (c2 c3).2, hnx, n2, c4⟩, s1, s2, s3, s4, hevo, hQ⟩, rfl, rfl, rfl⟩
 · exact absurd rfl c1
end Go.Proofs.YtjmpekanlmepmaaGreatDoor.Bt
