/- The step function on an index, by what the plain model says. The example of chapter 24, in the plain model: six inserts and a Raise. The example of chapter 24: the operations that need a fresh page. bodegalaw24.awake: the example of chapter 24. -/
import Derived.Test.YtjmpekanlmepmaaGreatDoorWN4
import Derived.Test.YtjmpekanlmepmaaGreatDoorWI9
import Derived.Test.YtjmpekanlmepmaaGreatDoorQj
import Derived.Test.YtjmpekanlmepmaaGreatDoorWI6
import Derived.Test.YtjmpekanlmepmaaGreatDoorWI7
import Derived.Test.YtjmpekanlmepmaaGreatDoorWI11
import Derived.Test.YtjmpekanlmepmaaGreatDoorQq
import Derived.Test.YtjmpekanlmepmaaGreatDoorWJ3
import Derived.Test.YtjmpekanlmepmaaGreatDoorWJ6
import Derived.Test.YtjmpekanlmepmaaGreatDoorWL5
import Derived.Test.YtjmpekanlmepmaaGreatDoorQl
set_option linter.unusedVariables false
set_option linter.unusedSimpArgs false
set_option linter.unusedSectionVars false
set_option linter.constructorNameAsVariable false
namespace Go.Proofs.YtjmpekanlmepmaaGreatDoor
open Go.RowKit

abbrev St0 (p : Bt.Page) (q : Bt.Ptr) : Bt.St := { ({} : Bt.St) with rootPage := p, root := q }
/-- What the step function hands back of a run's result. -/
def outOf (s : Bt.St) : Bt.Out := if s.ended then s.out else { s.out with hops := 0, height := 0, dead := false, unposted := false }
/-- The step function over these pages, with this operation, yields this. -/
def Steps (op : Bt.Op) (known : List Bt.Page) (fa ka : Option Addr) (fn fc kn kc : Nat) (ws : List Bt.Page) (o : Bt.Out) (w : World) : Prop :=
  PgRow w (.slice fa fn fc) op.fresh → PgRow w (.slice ka kn kc) known → NoneAt w → Calls Tryz.prog 27 #[.agg (opCells op (.slice fa fn fc)), .slice ka kn kc] w (NextPost ws o w)

/-- What is known of the root page. -/
structure RootIs (known : List Bt.Page) (p : Bt.Page) (q : Bt.Ptr) (lv : Int) : Prop where
  here : Bt.latest known 96 = some p
  free : Bt.locked p = false
  read : Bt.readRoot p = some (q, lv)
theorem latest_in {known : List Bt.Page} {l : Int} {p : Bt.Page} (h : Bt.latest known l = some p) : p ∈ known ∧ p.line = l := by
  unfold Bt.latest at h
  refine ⟨by simpa using List.mem_of_find?_eq_some h, by simpa using List.find?_some h⟩

theorem steps_insert (op : Bt.Op) (known : List Bt.Page) (fa ka : Option Addr) (fn fc kn kc : Nat) (w : World) (hkind : op.kind = 2) (hv : Bt.isKey op.key = true) (hto : Bt.validP op.to = true) {p : Bt.Page} {q : Bt.Ptr} {lv : Int} (hR : RootIs known p q lv)
    (hneed : ((St0 p q).insert op known).need = []) (hsort : Sorted2 ((St0 p q).insert op known).writes)
    (HM : ∀ b w', IsRun (fun _ => False) op known (.slice fa fn fc) (.slice ka kn kc) (St0 p q) b w' → p.Ok →
      Calls Tryz.prog 52 #[.pointer (some ⟨b, 0, none⟩)] w' (RunPost (fun _ => False) op known (.slice fa fn fc) (.slice ka kn kc) ((St0 p q).insert op known) b (.tuple #[]) w')) :
    Steps op known fa ka fn fc kn kc ((St0 p q).insert op known).writes (outOf ((St0 p q).insert op known)) w := by
  intro hf hk hn
  have hpo := hk.ok p (latest_in hR.here).1
  refine next_insert op known fa ka fn fc kn kc w hf hk hn hkind hv hto p q lv hR.here hR.free hR.read _ hneed hsort _ (fun he => ?_) (fun he => ?_) (Lib.hid (fun b w' h => HM b w' h hpo))
  · unfold outOf; rw [he]; rfl
  · unfold outOf; rw [he]; rfl
theorem steps_raise (op : Bt.Op) (known : List Bt.Page) (fa ka : Option Addr) (fn fc kn kc : Nat) (w : World) (hkind : op.kind = 6) {p : Bt.Page} {q : Bt.Ptr} {lv : Int} (hR : RootIs known p q lv)
    (hneed : ((St0 p q).raise op known).need = []) (hsort : Sorted2 ((St0 p q).raise op known).writes)
    (HM : ∀ b w', IsRun (fun _ => False) op known (.slice fa fn fc) (.slice ka kn kc) (St0 p q) b w' → p.Ok →
      Calls Tryz.prog 56 #[.pointer (some ⟨b, 0, none⟩)] w' (RunPost (fun _ => False) op known (.slice fa fn fc) (.slice ka kn kc) ((St0 p q).raise op known) b (.tuple #[]) w')) :
    Steps op known fa ka fn fc kn kc ((St0 p q).raise op known).writes (outOf ((St0 p q).raise op known)) w := by
  intro hf hk hn
  have hpo := hk.ok p (latest_in hR.here).1
  refine next_raise op known fa ka fn fc kn kc w hf hk hn hkind p q lv hR.here hR.free hR.read _ hneed hsort _ (fun he => ?_) (fun he => ?_) (Lib.hid (fun b w' h => HM b w' h hpo))
  · unfold outOf; rw [he]; rfl
  · unfold outOf; rw [he]; rfl

/-- A first leaf is planted. -/
theorem steps_plant (op : Bt.Op) (known : List Bt.Page) (fa ka : Option Addr) (fn fc kn kc : Nat) (w : World) (hkind : op.kind = 2) (hv : Bt.isKey op.key = true) (hto : Bt.validP op.to = true) (hkey : 0 ≤ op.key ∧ op.key < 4294967296) {p : Bt.Page} {lv : Int} (hR : RootIs known p Bt.nilP lv)
    (hneed : ((St0 p Bt.nilP).insert op known).need = []) (hsort : Sorted2 ((St0 p Bt.nilP).insert op known).writes)
    (hfr : op.fresh = [] ∨ ∃ f a, op.fresh = [f] ∧ f.Ok ∧ Bt.allocate f 4 0 = (a, 0)) :
    Steps op known fa ka fn fc kn kc ((St0 p Bt.nilP).insert op known).writes (outOf ((St0 p Bt.nilP).insert op known)) w := by
  refine steps_insert op known fa ka fn fc kn kc w hkind hv hto hR hneed hsort (fun b w' h hpo => ?_)
  refine insert_plant _ op known _ _ _ b w' h (fun _ hc => hc.elim) rfl (Lib.hid (fun w2 h2 hA2 => ?_))
  rcases hfr with hf | ⟨f, a, hf, hfo, hfa⟩
  · exact plant_empty _ op known _ _ _ b _ w2 h2 hA2 hpo hR.free hf
  · exact plant_one _ op known _ _ _ b _ w2 h2 hA2 hpo hR.free (latest_in hR.here).2 f a [] hf hfo hfa hkey

/-- An entry is laid behind a leaf's last one. -/
theorem steps_leaf (op : Bt.Op) (known : List Bt.Page) (fa ka : Option Addr) (fn fc kn kc : Nat) (w : World) (hkind : op.kind = 2) (hv : Bt.isKey op.key = true) (hto : Bt.validP op.to = true) (hkey : 0 ≤ op.key ∧ op.key < 4294967296) {p : Bt.Page} {q : Bt.Ptr} {lv : Int} (hR : RootIs known p q lv) (hq : q ≠ Bt.nilP)
    {page : Bt.Page} {n : Bt.Node} (hlook : (St0 p q).look known q false = (St0 p q, some (page, n))) (hlev : n.level = 0) (hd : n.dead = false) (hkh : op.key ≤ n.high) (hnh : 0 ≤ n.high ∧ n.high < 4294967296) (hlk : Bt.locked page = false)
    (hend : Bt.child n.entries op.key = n.entries.length) (hpos : 0 < n.entries.length)
    (hneed : ((St0 p q).insert op known).need = []) (hsort : Sorted2 ((St0 p q).insert op known).writes)
    (hfr : n.entries.length + 1 ≤ 5 ∨ (n.entries.length = 5 ∧ (op.fresh = [] ∨ ∃ f a, op.fresh = [f] ∧ f.Ok ∧ Bt.allocate f 4 0 = (a, 0) ∧ a.line ≠ page.line))) :
    Steps op known fa ka fn fc kn kc ((St0 p q).insert op known).writes (outOf ((St0 p q).insert op known)) w := by
  refine steps_insert op known fa ka fn fc kn kc w hkind hv hto hR hneed hsort (fun b w' h hpo => ?_)
  have hpk := (h.knownRow).ok page (look_known hlook).1
  refine insert_leaf _ op known _ _ _ b page n w' h (fun _ hc => hc.elim) hq hlook hlev hd hkh hlk hkey hend hpos (Lib.hid (fun A' w2 g m cap n0 c0 a0 h2 hA2 hbg hm hmc he => ?_))
  have hlen : (n.entries ++ [(⟨op.key, op.to⟩ : Bt.Entry)]).length = n.entries.length + 1 := by simp
  rcases hfr with h5 | ⟨h6, hfr⟩
  · subst hm
    exact store_fit A' op known _ _ _ b page n _ a0 n0 c0 g cap w2 h2 hA2 hpk ⟨⟨by show 0 ≤ n.level; omega, by show n.level ≤ 255; omega⟩, hnh, by show (n.entries ++ [(⟨op.key, op.to⟩ : Bt.Entry)]).length ≤ 5; omega⟩ he (by omega)
  · obtain rfl : m = 6 := by omega
    rcases hfr with hf | ⟨f, a, hf, hfo, hfa, hne⟩
    · exact store_limit A' op known _ _ _ b page n _ a0 n0 c0 g cap w2 h2 hA2 (by omega) hf
    · exact store_split A' op known _ _ _ b page n _ a0 n0 c0 g cap w2 h2 hA2 hpk ⟨by omega, by omega⟩ hnh he (by omega) hmc hbg f a [] hf hfo hfa hne

/-- A root that has a right neighbour is raised. -/
theorem steps_up (op : Bt.Op) (known : List Bt.Page) (fa ka : Option Addr) (fn fc kn kc : Nat) (w : World) (hkind : op.kind = 6) {p : Bt.Page} {q : Bt.Ptr} {lv : Int} (hR : RootIs known p q lv) (hq : q ≠ Bt.nilP)
    {page : Bt.Page} {n : Bt.Node} (hlook : (St0 p q).look known q true = (St0 p q, some (page, n))) (hright : n.right ≠ Bt.nilP) (hlev : n.level ≠ 8)
    (hneed : ((St0 p q).raise op known).need = []) (hsort : Sorted2 ((St0 p q).raise op known).writes)
    (hfr : op.fresh = [] ∨ ∃ f a, op.fresh = [f] ∧ f.Ok ∧ Bt.allocate f 4 0 = (a, 0) ∧ a.line ≠ page.line) :
    Steps op known fa ka fn fc kn kc ((St0 p q).raise op known).writes (outOf ((St0 p q).raise op known)) w := by
  refine steps_raise op known fa ka fn fc kn kc w hkind hR hneed hsort (fun b w' h hpo => ?_)
  rcases hfr with hf | ⟨f, a, hf, hfo, hfa, hne⟩
  · exact raise_empty _ op known _ _ _ b page n w' h (fun _ hc => hc.elim) hq hlook hright hlev hf
  · exact raise_one _ op known _ _ _ b page n w' h (fun _ hc => hc.elim) hq hlook hright hlev hpo (latest_in hR.here).2 f a [] hf hfo hfa hne
end Go.Proofs.YtjmpekanlmepmaaGreatDoor
namespace Go.Proofs.YtjmpekanlmepmaaGreatDoor
open Go.RowKit

def okB (p : Bt.Page) : Bool :=
  decide (0 ≤ p.head ∧ p.head < 18446744073709551616) && decide (0 ≤ p.d0 ∧ p.d0 < 18446744073709551616) && decide (0 ≤ p.d1 ∧ p.d1 < 18446744073709551616) && decide (0 ≤ p.d2 ∧ p.d2 < 18446744073709551616) && decide (0 ≤ p.d3 ∧ p.d3 < 18446744073709551616) &&
    decide (0 ≤ p.d4 ∧ p.d4 < 18446744073709551616) && decide (0 ≤ p.d5 ∧ p.d5 < 18446744073709551616) && decide (0 ≤ p.d6 ∧ p.d6 < 18446744073709551616)
theorem okB_ok {p : Bt.Page} (h : okB p = true) : p.Ok := by
  simp only [okB, Bool.and_eq_true, decide_eq_true_eq] at h
  exact ⟨h.1.1.1.1.1.1.1, h.1.1.1.1.1.1.2, h.1.1.1.1.1.2, h.1.1.1.1.2, h.1.1.1.2, h.1.1.2, h.1.2, h.2⟩
def fitsFrom (pages : List Bt.Page) (last : Int) : List Bt.Page → Bool
  | [] => true
  | p :: ws => decide (96 ≤ p.line) && decide (p.line < 96 + pages.length) && (match pages[(p.line - 96).toNat]? with | some q => decide (q.head = p.head) | none => false) && decide (p.head + 256 < 18446744073709551616) && okB p && decide (last < p.line) && fitsFrom (applyWrite pages p) p.line ws
theorem fitsFrom_fit (pages : List Bt.Page) (last : Int) (ws : List Bt.Page) (h : fitsFrom pages last ws = true) : WritesFit pages ws ∧ (∀ p, ws.head? = some p → last < p.line) := by
  induction ws generalizing pages last with
  | nil => exact ⟨⟨fun k hk => by simp at hk, fun k hk => by simp at hk⟩, fun p hp => by simp at hp⟩
  | cons p ws ih =>
    simp only [fitsFrom, Bool.and_eq_true, decide_eq_true_eq] at h
    obtain ⟨⟨⟨⟨⟨⟨h1, h2⟩, h3⟩, h4⟩, h5⟩, h6⟩, h7⟩ := h
    obtain ⟨⟨i1, i2⟩, i3⟩ := ih _ _ h7
    have hl : (applyWrite pages p).length = pages.length := by simp [applyWrite]
    have e3 : ∃ q, pages[(p.line - 96).toNat]? = some q ∧ q.head = p.head := by
      cases hq : pages[(p.line - 96).toNat]? with
      | none => rw [hq] at h3; simp at h3
      | some q => rw [hq] at h3; exact ⟨q, rfl, by simpa using h3⟩
    refine ⟨⟨fun k hk => ?_, fun k hk => ?_⟩, fun q hq => by simp at hq; subst hq; exact h6⟩
    · cases k with
      | zero => exact ⟨h1, h2, e3, h4, okB_ok h5⟩
      | succ k =>
        have := i1 k (by simpa using hk)
        rw [hl] at this
        simpa [applyWrites] using this
    · cases k with
      | zero =>
        simp only [List.getElem_cons_zero, List.getElem_cons_succ]
        have hk' : 0 < ws.length := by simpa using hk
        exact i3 _ (by rw [List.head?_eq_getElem?, List.getElem?_eq_getElem hk'])
      | succ k =>
        simp only [List.getElem_cons_succ]
        exact i2 k (by simpa using hk)

theorem PgRow.nil (w : World) : PgRow w (.slice none 0 0) [] := ⟨(fun p hp => by cases hp), by simp, .inl ⟨rfl, rfl⟩⟩

theorem run_step (x P cap : Nat) (pages : List Bt.Page) (next : Int) (keys : List Int) (tos : List Bt.Ptr) (op : Bt.Op) (hop : op.fresh = []) (ws : List Bt.Page) (o : Bt.Out) (hS : ∀ w ka kn kc, Steps op pages none ka 0 0 kn kc ws o w) (ho : o.code = 0) (hfit : fitsFrom pages 0 ws = true) (hlen : pages.length ≤ 1000000) (hws : ws.length ≤ 2)
    (w : World) (h : IxAt x P cap pages next keys tos w) : Calls Tryz.prog 31 #[.pointer (some ⟨x, 0, none⟩), .agg (opCells op (.slice none 0 0))] w (RunIx x P cap (applyWrites pages ws) next keys tos o w) := by
  obtain ⟨vk, vt, vg, h⟩ := h
  have hgx : 0 < x := Nat.lt_trans h.hgP h.hPx
  refine (run_plain x P cap pages next vk vt vg op ws o w h.blk h.pg h.none h.hPx h.hgP hgx ho (fitsFrom_fit _ _ _ hfit).1 hlen hws (Lib.hid (fun w' hp hn => hS w' _ _ _ (by rw [hop]; exact PgRow.nil w') hp hn))).mono (fun e w' hp => RunIx.of (n := 0) h (applyWrites_length _ _) hp)

def insS (ps : List Bt.Page) (p : Bt.Page) (q : Bt.Ptr) (k : Int) (fr : List Bt.Page) : Bt.St := (St0 p q).insert (insOp k ⟨200, k⟩ fr) ps
def upOp (fr : List Bt.Page) : Bt.Op := ⟨6, 0, 0, Bt.nilP, 0, 0, fr⟩
def upS (ps : List Bt.Page) (p : Bt.Page) (q : Bt.Ptr) (fr : List Bt.Page) : Bt.St := (St0 p q).raise (upOp fr) ps
def rootPg (ps : List Bt.Page) : Bt.Page := (Bt.latest ps 96).getD Bt.zeroPage
def leafPg (ps : List Bt.Page) : Bt.Page := (Bt.latest ps 105).getD Bt.zeroPage
def lf : Bt.Ptr := ⟨105, 1⟩
def pg0 : List Bt.Page := newPages 160
def pg1 : List Bt.Page := applyWrites pg0 (insS pg0 (rootPg pg0) Bt.nilP 1 [newPage 9]).writes
def pg2 : List Bt.Page := applyWrites pg1 (insS pg1 (rootPg pg1) lf 2 []).writes
def pg3 : List Bt.Page := applyWrites pg2 (insS pg2 (rootPg pg2) lf 3 []).writes
def pg4 : List Bt.Page := applyWrites pg3 (insS pg3 (rootPg pg3) lf 4 []).writes
def pg5 : List Bt.Page := applyWrites pg4 (insS pg4 (rootPg pg4) lf 5 []).writes
def pg6 : List Bt.Page := applyWrites pg5 (insS pg5 (rootPg pg5) lf 6 [newPage 10]).writes
def pg7 : List Bt.Page := applyWrites pg6 (upS pg6 (rootPg pg6) lf [newPage 11]).writes

theorem root0 : RootIs pg0 (rootPg pg0) Bt.nilP 0 := ⟨by kernel_rfl, by kernel_rfl, by kernel_rfl⟩
theorem root1 : RootIs pg1 (rootPg pg1) lf 0 := ⟨by kernel_rfl, by kernel_rfl, by kernel_rfl⟩
theorem root2 : RootIs pg2 (rootPg pg2) lf 0 := ⟨by kernel_rfl, by kernel_rfl, by kernel_rfl⟩
theorem root3 : RootIs pg3 (rootPg pg3) lf 0 := ⟨by kernel_rfl, by kernel_rfl, by kernel_rfl⟩
theorem root4 : RootIs pg4 (rootPg pg4) lf 0 := ⟨by kernel_rfl, by kernel_rfl, by kernel_rfl⟩
theorem root5 : RootIs pg5 (rootPg pg5) lf 0 := ⟨by kernel_rfl, by kernel_rfl, by kernel_rfl⟩
theorem root6 : RootIs pg6 (rootPg pg6) lf 0 := ⟨by kernel_rfl, by kernel_rfl, by kernel_rfl⟩

def sortedB (l : List Bt.Page) : Bool := match l with | [] => true | [_] => true | [p, q] => decide (p.line ≤ q.line) | _ => false
theorem sortedB_of {l : List Bt.Page} (h : sortedB l = true) : Sorted2 l := by
  match l, h with
  | [], _ => exact .inl rfl
  | [p], _ => exact .inr (.inl ⟨p, rfl⟩)
  | [p, q], h => exact .inr (.inr ⟨p, q, rfl, by simpa [sortedB] using h⟩)
  | _ :: _ :: _ :: _, h => simp [sortedB] at h

/-- The plain facts of an insert behind a leaf's last entry. -/
def leafFacts (ps : List Bt.Page) (k : Int) (fr : List Bt.Page) : Bool :=
  decide ((leafPg ps).node.level = 0) && decide ((leafPg ps).node.dead = false) && decide (k ≤ (leafPg ps).node.high) && decide (0 ≤ (leafPg ps).node.high) && decide ((leafPg ps).node.high < 4294967296) && decide (Bt.locked (leafPg ps) = false) &&
    decide (Bt.child (leafPg ps).node.entries k = (leafPg ps).node.entries.length) && decide (0 < (leafPg ps).node.entries.length) && decide ((insS ps (rootPg ps) lf k fr).need = []) && sortedB (insS ps (rootPg ps) lf k fr).writes && decide (Bt.isKey k = true) && decide (Bt.validP ⟨200, k⟩ = true) && decide (0 ≤ k ∧ k < 4294967296)
theorem steps_leaf' (ps : List Bt.Page) (k : Int) (fr : List Bt.Page) (hR : RootIs ps (rootPg ps) lf 0) (hlook : (St0 (rootPg ps) lf).look ps lf false = (St0 (rootPg ps) lf, some (leafPg ps, (leafPg ps).node))) (hb : leafFacts ps k fr = true)
    (hfr : (leafPg ps).node.entries.length + 1 ≤ 5 ∨ ((leafPg ps).node.entries.length = 5 ∧ (fr = [] ∨ ∃ f a, fr = [f] ∧ f.Ok ∧ Bt.allocate f 4 0 = (a, 0) ∧ a.line ≠ (leafPg ps).line))) (fa ka : Option Addr) (fn fc kn kc : Nat) (w : World) :
    Steps (insOp k ⟨200, k⟩ fr) ps fa ka fn fc kn kc (insS ps (rootPg ps) lf k fr).writes (outOf (insS ps (rootPg ps) lf k fr)) w := by
  simp only [leafFacts, Bool.and_eq_true, decide_eq_true_eq] at hb
  obtain ⟨⟨⟨⟨⟨⟨⟨⟨⟨⟨⟨⟨h1, h2⟩, h3⟩, h4⟩, h5⟩, h6⟩, h7⟩, h8⟩, h9⟩, h10⟩, h11⟩, h12⟩, h13⟩ := hb
  exact steps_leaf (insOp k ⟨200, k⟩ fr) ps fa ka fn fc kn kc w rfl h11 h12 h13 hR (by decide) hlook h1 h2 h3 ⟨h4, h5⟩ h6 h7 h8 h9 (sortedB_of h10) hfr

theorem look1 : (St0 (rootPg pg1) lf).look pg1 lf false = (St0 (rootPg pg1) lf, some (leafPg pg1, (leafPg pg1).node)) := by kernel_rfl
theorem look2 : (St0 (rootPg pg2) lf).look pg2 lf false = (St0 (rootPg pg2) lf, some (leafPg pg2, (leafPg pg2).node)) := by kernel_rfl
theorem look3 : (St0 (rootPg pg3) lf).look pg3 lf false = (St0 (rootPg pg3) lf, some (leafPg pg3, (leafPg pg3).node)) := by kernel_rfl
theorem look4 : (St0 (rootPg pg4) lf).look pg4 lf false = (St0 (rootPg pg4) lf, some (leafPg pg4, (leafPg pg4).node)) := by kernel_rfl
theorem look5 : (St0 (rootPg pg5) lf).look pg5 lf false = (St0 (rootPg pg5) lf, some (leafPg pg5, (leafPg pg5).node)) := by kernel_rfl
theorem look6 : (St0 (rootPg pg6) lf).look pg6 lf true = (St0 (rootPg pg6) lf, some (leafPg pg6, (leafPg pg6).node)) := by kernel_rfl

theorem run_ins2 (x P cap : Nat) (next : Int) (keys : List Int) (tos : List Bt.Ptr) (w : World) (h : IxAt x P cap pg1 next keys tos w) :
    Calls Tryz.prog 31 #[.pointer (some ⟨x, 0, none⟩), .agg (opCells (insOp 2 ⟨200, 2⟩ []) (.slice none 0 0))] w (RunIx x P cap pg2 next keys tos (outOf (insS pg1 (rootPg pg1) lf 2 [])) w) :=
  run_step x P cap pg1 next keys tos _ rfl _ _ (fun w ka kn kc => steps_leaf' pg1 2 [] root1 look1 (by kernel_rfl) (.inl (of_decide_eq_true (by kernel_rfl))) none ka 0 0 kn kc w) (by kernel_rfl) (by kernel_rfl) (of_decide_eq_true (by kernel_rfl)) (of_decide_eq_true (by kernel_rfl)) w h
theorem run_ins3 (x P cap : Nat) (next : Int) (keys : List Int) (tos : List Bt.Ptr) (w : World) (h : IxAt x P cap pg2 next keys tos w) :
    Calls Tryz.prog 31 #[.pointer (some ⟨x, 0, none⟩), .agg (opCells (insOp 3 ⟨200, 3⟩ []) (.slice none 0 0))] w (RunIx x P cap pg3 next keys tos (outOf (insS pg2 (rootPg pg2) lf 3 [])) w) :=
  run_step x P cap pg2 next keys tos _ rfl _ _ (fun w ka kn kc => steps_leaf' pg2 3 [] root2 look2 (by kernel_rfl) (.inl (of_decide_eq_true (by kernel_rfl))) none ka 0 0 kn kc w) (by kernel_rfl) (by kernel_rfl) (of_decide_eq_true (by kernel_rfl)) (of_decide_eq_true (by kernel_rfl)) w h
theorem run_ins4 (x P cap : Nat) (next : Int) (keys : List Int) (tos : List Bt.Ptr) (w : World) (h : IxAt x P cap pg3 next keys tos w) :
    Calls Tryz.prog 31 #[.pointer (some ⟨x, 0, none⟩), .agg (opCells (insOp 4 ⟨200, 4⟩ []) (.slice none 0 0))] w (RunIx x P cap pg4 next keys tos (outOf (insS pg3 (rootPg pg3) lf 4 [])) w) :=
  run_step x P cap pg3 next keys tos _ rfl _ _ (fun w ka kn kc => steps_leaf' pg3 4 [] root3 look3 (by kernel_rfl) (.inl (of_decide_eq_true (by kernel_rfl))) none ka 0 0 kn kc w) (by kernel_rfl) (by kernel_rfl) (of_decide_eq_true (by kernel_rfl)) (of_decide_eq_true (by kernel_rfl)) w h
theorem run_ins5 (x P cap : Nat) (next : Int) (keys : List Int) (tos : List Bt.Ptr) (w : World) (h : IxAt x P cap pg4 next keys tos w) :
    Calls Tryz.prog 31 #[.pointer (some ⟨x, 0, none⟩), .agg (opCells (insOp 5 ⟨200, 5⟩ []) (.slice none 0 0))] w (RunIx x P cap pg5 next keys tos (outOf (insS pg4 (rootPg pg4) lf 5 [])) w) :=
  run_step x P cap pg4 next keys tos _ rfl _ _ (fun w ka kn kc => steps_leaf' pg4 5 [] root4 look4 (by kernel_rfl) (.inl (of_decide_eq_true (by kernel_rfl))) none ka 0 0 kn kc w) (by kernel_rfl) (by kernel_rfl) (of_decide_eq_true (by kernel_rfl)) (of_decide_eq_true (by kernel_rfl)) w h
end Go.Proofs.YtjmpekanlmepmaaGreatDoor
namespace Go.Proofs.YtjmpekanlmepmaaGreatDoor
open Go.RowKit

theorem run_step_limit (x P cap : Nat) (pages : List Bt.Page) (next : Int) (keys : List Int) (tos : List Bt.Ptr) (op : Bt.Op) (hop : op.fresh = []) (ws : List Bt.Page) (o o1 : Bt.Out) (r : Nat) (f : Bt.Page) (hnx : next = 96 + r) (hnx2 : next < 256) (hfr : pages[r]? = some f)
    (hS1 : ∀ w ka kn kc, Steps op pages none ka 0 0 kn kc [] o1 w) (hS : ∀ w fa fc ka kn kc, Steps { op with fresh := [f] } pages fa ka 1 fc kn kc ws o w) (ho : o.code = 0) (ho1 : o1.code = 18) (ho1f : o1.fresh = 1) (hfit : fitsFrom pages 0 ws = true) (hlen : pages.length ≤ 1000000) (hws : ws.length ≤ 2)
    (w : World) (h : IxAt x P cap pages next keys tos w) : Calls Tryz.prog 31 #[.pointer (some ⟨x, 0, none⟩), .agg (opCells op (.slice none 0 0))] w (RunIx x P cap (applyWrites pages ws) (next + 1) keys tos o w) := by
  obtain ⟨vk, vt, vg, h⟩ := h
  have hgx : 0 < x := Nat.lt_trans h.hgP h.hPx
  refine (run_limit x P cap pages next vk vt vg op ws o w h.blk h.pg h.none h.hPx h.hgP hgx ho (fitsFrom_fit _ _ _ hfit).1 hlen hws o1 ho1 ho1f r f hnx hnx2 hfr (Lib.hid (fun w' hp hn => hS1 w' _ _ _ (by rw [hop]; exact PgRow.nil w') hp hn)) (Lib.hid (fun w' F c hf hp hn => hS w' _ _ _ _ _ hf hp hn))).mono (fun e w' hp => RunIx.of (n := 0) h (applyWrites_length _ _) hp)

theorem newOk (i : Nat) : (newPage i).Ok := okB_ok (by unfold okB newPage; simp)
theorem run_ins1 (x P cap : Nat) (keys : List Int) (tos : List Bt.Ptr) (w : World) (h : IxAt x P cap pg0 105 keys tos w) :
    Calls Tryz.prog 31 #[.pointer (some ⟨x, 0, none⟩), .agg (opCells (insOp 1 ⟨200, 1⟩ []) (.slice none 0 0))] w (RunIx x P cap pg1 106 keys tos (outOf (insS pg0 (rootPg pg0) Bt.nilP 1 [newPage 9])) w) :=
  run_step_limit x P cap pg0 105 keys tos (insOp 1 ⟨200, 1⟩ []) rfl (insS pg0 (rootPg pg0) Bt.nilP 1 [newPage 9]).writes _ (outOf (insS pg0 (rootPg pg0) Bt.nilP 1 [])) 9 (newPage 9) (by decide) (by decide) (by kernel_rfl)
    (fun w ka kn kc => steps_plant (insOp 1 ⟨200, 1⟩ []) pg0 none ka 0 0 kn kc w rfl (by kernel_rfl) (by kernel_rfl) (by decide) root0 (by kernel_rfl) (sortedB_of (by kernel_rfl)) (.inl rfl))
    (fun w fa fc ka kn kc => steps_plant (insOp 1 ⟨200, 1⟩ [newPage 9]) pg0 fa ka 1 fc kn kc w rfl (by kernel_rfl) (by kernel_rfl) (by decide) root0 (by kernel_rfl) (sortedB_of (by kernel_rfl)) (.inr ⟨newPage 9, (Bt.allocate (newPage 9) 4 0).1, rfl, newOk 9, by kernel_rfl⟩))
    (by kernel_rfl) (by kernel_rfl) (by kernel_rfl) (by kernel_rfl) (of_decide_eq_true (by kernel_rfl)) (of_decide_eq_true (by kernel_rfl)) w h
theorem run_ins6 (x P cap : Nat) (keys : List Int) (tos : List Bt.Ptr) (w : World) (h : IxAt x P cap pg5 106 keys tos w) :
    Calls Tryz.prog 31 #[.pointer (some ⟨x, 0, none⟩), .agg (opCells (insOp 6 ⟨200, 6⟩ []) (.slice none 0 0))] w (RunIx x P cap pg6 107 keys tos (outOf (insS pg5 (rootPg pg5) lf 6 [newPage 10])) w) :=
  run_step_limit x P cap pg5 106 keys tos (insOp 6 ⟨200, 6⟩ []) rfl (insS pg5 (rootPg pg5) lf 6 [newPage 10]).writes _ (outOf (insS pg5 (rootPg pg5) lf 6 [])) 10 (newPage 10) (by decide) (by decide) (by kernel_rfl)
    (fun w ka kn kc => steps_leaf' pg5 6 [] root5 look5 (by kernel_rfl) (.inr ⟨of_decide_eq_true (by kernel_rfl), .inl rfl⟩) none ka 0 0 kn kc w)
    (fun w fa fc ka kn kc => steps_leaf' pg5 6 [newPage 10] root5 look5 (by kernel_rfl) (.inr ⟨of_decide_eq_true (by kernel_rfl), .inr ⟨newPage 10, (Bt.allocate (newPage 10) 4 0).1, rfl, newOk 10, by kernel_rfl, of_decide_eq_true (by kernel_rfl)⟩⟩) fa ka 1 fc kn kc w)
    (by kernel_rfl) (by kernel_rfl) (by kernel_rfl) (by kernel_rfl) (of_decide_eq_true (by kernel_rfl)) (of_decide_eq_true (by kernel_rfl)) w h
theorem run_up (x P cap : Nat) (keys : List Int) (tos : List Bt.Ptr) (w : World) (h : IxAt x P cap pg6 107 keys tos w) :
    Calls Tryz.prog 31 #[.pointer (some ⟨x, 0, none⟩), .agg (opCells (upOp []) (.slice none 0 0))] w (RunIx x P cap pg7 108 keys tos (outOf (upS pg6 (rootPg pg6) lf [newPage 11])) w) :=
  run_step_limit x P cap pg6 107 keys tos (upOp []) rfl (upS pg6 (rootPg pg6) lf [newPage 11]).writes _ (outOf (upS pg6 (rootPg pg6) lf [])) 11 (newPage 11) (by decide) (by decide) (by kernel_rfl)
    (fun w ka kn kc => steps_up (upOp []) pg6 none ka 0 0 kn kc w rfl root6 (by decide) look6 (of_decide_eq_true (by kernel_rfl)) (of_decide_eq_true (by kernel_rfl)) (by kernel_rfl) (sortedB_of (by kernel_rfl)) (.inl rfl))
    (fun w fa fc ka kn kc => steps_up (upOp [newPage 11]) pg6 fa ka 1 fc kn kc w rfl root6 (by decide) look6 (of_decide_eq_true (by kernel_rfl)) (of_decide_eq_true (by kernel_rfl)) (by kernel_rfl) (sortedB_of (by kernel_rfl)) (.inr ⟨newPage 11, (Bt.allocate (newPage 11) 4 0).1, rfl, newOk 11, by kernel_rfl, of_decide_eq_true (by kernel_rfl)⟩))
    (by kernel_rfl) (by kernel_rfl) (by kernel_rfl) (by kernel_rfl) (of_decide_eq_true (by kernel_rfl)) (of_decide_eq_true (by kernel_rfl)) w h
end Go.Proofs.YtjmpekanlmepmaaGreatDoor
namespace Go.Proofs.YtjmpekanlmepmaaGreatDoor
open Go.RowKit

/-- One of the six inserts. -/
def InsAt (x P cap : Nat) (ps ps' : List Bt.Page) (nx nx' : Int) (k : Nat) : Prop :=
  ∀ (keys : List Int) (tos : List Bt.Ptr) (w : World), keys.length = k → tos.length = k → (∀ y ∈ keys, y < (k : Int) + 1) → IxAt x P cap ps nx keys tos w →
    Calls Tryz.prog 46 #[.pointer (some ⟨x, 0, none⟩), .int .u32 ((k : Int) + 1), .agg #[.int .i64 200, .int .i64 ((k : Int) + 1)]] w (InsPostIx x P cap ps' nx' (insertK keys (placeOf keys ((k : Int) + 1)) ((k : Int) + 1)) (insertK tos (placeOf keys ((k : Int) + 1)) ⟨200, (k : Int) + 1⟩) true w)
theorem insAt_of {x P cap : Nat} {ps ps' : List Bt.Page} {nx nx' : Int} {k : Nat} {o : Bt.Out} (hk : k ≤ 1000) (hoc : o.code = 0) (hod : o.done = true)
    (hr : ∀ (keys : List Int) (tos : List Bt.Ptr) (w : World), IxAt x P cap ps nx keys tos w → Calls Tryz.prog 31 #[.pointer (some ⟨x, 0, none⟩), .agg (opCells (insOp ((k : Int) + 1) ⟨200, (k : Int) + 1⟩ []) (.slice none 0 0))] w (RunIx x P cap ps' nx' keys tos o w)) :
    InsAt x P cap ps ps' nx nx' k := by
  intro keys tos w hkl htl hall h
  have hth : isThere keys ((k : Int) + 1) = false := isThere_end _ _ (placeOf_end _ _ hall)
  rw [← hod]
  exact insert_new x P cap ps ps' nx nx' keys tos ((k : Int) + 1) ⟨200, (k : Int) + 1⟩ o w h hth (by omega) (by omega) hoc (Lib.hid (fun w' h' => hr keys tos w' h'))

/-- An index with k keys 1 .. k. -/
def Up (x P cap : Nat) (ps : List Bt.Page) (nx : Int) (k : Nat) (w : World) : Prop := ∃ keys tos, keys.length = k ∧ tos.length = k ∧ (∀ y ∈ keys, y < (k : Int) + 1) ∧ IxAt x P cap ps nx keys tos w
theorem Up.step {x P cap : Nat} {ps ps' : List Bt.Page} {nx nx' : Int} {k : Nat} (hi : InsAt x P cap ps ps' nx nx' k) {w : World} (h : Up x P cap ps nx k w) (key : Int) (hkey : key = (k : Int) + 1) :
    Calls Tryz.prog 46 #[.pointer (some ⟨x, 0, none⟩), .int .u32 key, .agg #[.int .i64 200, .int .i64 key]] w fun e w' => e = .returned (.bool true) ∧ Up x P cap ps' nx' (k + 1) w' ∧ OverTwo x P w w' := by
  subst hkey
  obtain ⟨keys, tos, h1, h2, h3, h4⟩ := h
  refine (hi keys tos w h1 h2 h3 h4).mono ?_
  rintro e w' ⟨he, hix, ho⟩
  have hp : placeOf keys ((k : Int) + 1) = keys.length := placeOf_end _ _ h3
  refine ⟨he, ⟨_, _, ?_, ?_, ?_, hix⟩, ho⟩
  · rw [insertK_length _ _ _ (by omega)]; omega
  · rw [insertK_length _ _ _ (by omega)]; omega
  · intro y hy
    rw [hp] at hy
    simp only [insertK, List.take_length, List.drop_length, List.mem_append, List.mem_cons, List.not_mem_nil, or_false] at hy
    rcases hy with hy | rfl
    · have := h3 y hy; omega
    · omega

section
variable (x P cap : Nat)
theorem ins0 : InsAt x P cap pg0 pg1 105 106 0 := insAt_of (by decide) (by kernel_rfl) (by kernel_rfl) (fun keys tos w h => run_ins1 x P cap keys tos w h)
theorem ins1 : InsAt x P cap pg1 pg2 106 106 1 := insAt_of (by decide) (by kernel_rfl) (by kernel_rfl) (fun keys tos w h => run_ins2 x P cap 106 keys tos w h)
theorem ins2 : InsAt x P cap pg2 pg3 106 106 2 := insAt_of (by decide) (by kernel_rfl) (by kernel_rfl) (fun keys tos w h => run_ins3 x P cap 106 keys tos w h)
theorem ins3 : InsAt x P cap pg3 pg4 106 106 3 := insAt_of (by decide) (by kernel_rfl) (by kernel_rfl) (fun keys tos w h => run_ins4 x P cap 106 keys tos w h)
theorem ins4 : InsAt x P cap pg4 pg5 106 106 4 := insAt_of (by decide) (by kernel_rfl) (by kernel_rfl) (fun keys tos w h => run_ins5 x P cap 106 keys tos w h)
theorem ins5 : InsAt x P cap pg5 pg6 106 107 5 := insAt_of (by decide) (by kernel_rfl) (by kernel_rfl) (fun keys tos w h => run_ins6 x P cap keys tos w h)
end

theorem IxAt.start {w0 : World} {x P cap : Nat} {w : World} (hx : Blk w x 58 #[.slice (some ⟨P, 0, none⟩) 160 cap, .int .i64 105, .slice none 0 0, .slice none 0 0, .slice none 0 0])
    (ho : w.ownsRow (w0.heap.size + 1) 25 9 (.slice (some ⟨P, 0, none⟩) 160 cap) 160 (pageCells (newPages 160))) (hPx : P < x) (hgP : 0 < P) (hn : NoneAt w) : Up x P cap pg0 105 0 w := by
  have hl : (newPages 160).length = 160 := by simp [newPages]
  refine ⟨[], [], rfl, rfl, (fun y hy => by cases hy), _, _, _, hx, ⟨⟨?_, by rw [show pg0 = newPages 160 from rfl, hl]; unfold maxLen; omega, .inr ⟨P, cap, rfl, (own_lt ho).2, fun i p hi j u hu => own_cells ho _ _ (pageCells_get _ i p hi j u hu)⟩⟩, fun i => ?_, (own_lt ho).2, ?_⟩, World.ownsRow_nil _ _ _ _, World.ownsRow_nil _ _ _ _, hn, hPx, hgP⟩
  · intro p hp
    obtain ⟨i, _, rfl⟩ := List.mem_map.1 hp
    exact newOk i
  · rcases ho.2 with ⟨h, _⟩ | ⟨g, c, cur, h, _, hg, _⟩
    · simp at h
    · simp only [Value.slice.injEq, Option.some.injEq, Addr.mk.injEq, and_true, true_and] at h
      obtain ⟨rfl, rfl⟩ := h
      exact frozen_of_row w P i cur _ hg
  · rcases ho.2 with ⟨h, _⟩ | ⟨g, c, cur, h, _, hg, _⟩
    · simp at h
    · simp only [Value.slice.injEq, Option.some.injEq, Addr.mk.injEq, and_true, true_and] at h
      obtain ⟨rfl, rfl⟩ := h
      exact ⟨cur, hg⟩

theorem last_leaf : pg7[9]? = some (leafPg pg7) ∧ Bt.readNode (leafPg pg7) = some (leafPg pg7).node ∧ (leafPg pg7).node.high = 3 ∧ (leafPg pg7).node.entries.length = 3 := ⟨by kernel_rfl, by kernel_rfl, by kernel_rfl, by kernel_rfl⟩
theorem up_out : (outOf (upS pg6 (rootPg pg6) lf [newPage 11])).done = true := by kernel_rfl
end Go.Proofs.YtjmpekanlmepmaaGreatDoor
