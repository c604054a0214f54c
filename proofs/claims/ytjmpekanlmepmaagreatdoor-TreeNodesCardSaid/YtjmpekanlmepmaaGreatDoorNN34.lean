/- The step function on an index, by what the plain model says. -/
import Derived.Test.YtjmpekanlmepmaaGreatDoorNN28
import Derived.Test.YtjmpekanlmepmaaGreatDoorNN24
import Derived.Test.YtjmpekanlmepmaaGreatDoorNN20
import Derived.Test.YtjmpekanlmepmaaGreatDoorNN21
import Derived.Test.YtjmpekanlmepmaaGreatDoorNN22
import Derived.Test.YtjmpekanlmepmaaGreatDoorNN29
import Derived.Test.YtjmpekanlmepmaaGreatDoorNN31
import Derived.Test.YtjmpekanlmepmaaGreatDoorNN32
import Derived.Test.YtjmpekanlmepmaaGreatDoorNN33
set_option linter.all false
set_option maxRecDepth 20000
set_option maxHeartbeats 8000000
open Go.Lib (hid)
namespace Go.Proofs.YtjmpekanlmepmaaGreatDoor
open Go.RowKit
abbrev St0 (p : Bt.Page) (q : Bt.Ptr) : Bt.St := { ({} : Bt.St) with rootPage := p, root := q }
def outOf (s : Bt.St) : Bt.Out := if s.ended then s.out else { s.out with hops := 0, height := 0, dead := false, unposted := false }
def Steps (op : Bt.Op) (known : List Bt.Page) (fa ka : Option Addr) (fn fc kn kc : Nat) (ws : List Bt.Page) (o : Bt.Out) (w : World) : Prop :=
 PgRow w (.slice fa fn fc) op.fresh → PgRow w (.slice ka kn kc) known → NoneAt w → Calls Tryz.prog 27 #[.agg (opCells op (.slice fa fn fc)), .slice ka kn kc] w (NextPost ws o w)
structure RootIs (known : List Bt.Page) (p : Bt.Page) (q : Bt.Ptr) (lv : Int) : Prop where
 here : Bt.latest known 96 = some p
 free : Bt.locked p = false
 read : Bt.readRoot p = some (q, lv)
theorem latest_in {known : List Bt.Page} {l : Int} {p : Bt.Page} (h : Bt.latest known l = some p) : p ∈ known ∧ p.line = l := by
 unfold Bt.latest at h
 refine ⟨by simpa using List.mem_of_find?_eq_some h, by simpa using List.find?_some h⟩
theorem steps_insert (op : Bt.Op) (known : List Bt.Page) (fa ka : Option Addr) (fn fc kn kc : Nat) (w : World) (hkind : op.kind = 2) (hv : Bt.isKey op.key = true) (hto : Bt.validP op.to = true) {p : Bt.Page} {q : Bt.Ptr} {lv : Int} (hR : RootIs known p q lv)
 (hneed : ((St0 p q).insert op known).need = []) (hsort : Sorted2 ((St0 p q).insert op known).writes)
 (HM : ∀ b w', IsRun (fun _ => False) op known (.slice fa fn fc) (.slice ka kn kc) (St0 p q) b w' → p.Ok →
  Calls Tryz.prog 52 #[.pointer (some ⟨b, 0, none⟩)] w' (RunPost (fun _ => False) op known (.slice fa fn fc) (.slice ka kn kc) ((St0 p q).insert op known) b (.tuple #[]) w')) :
 Steps op known fa ka fn fc kn kc ((St0 p q).insert op known).writes (outOf ((St0 p q).insert op known)) w := by
 intro hf hk hn
 have hpo := hk.ok p (latest_in hR.here).1
 refine next_insert op known fa ka fn fc kn kc w hf hk hn hkind hv hto p q lv hR.here hR.free hR.read _ hneed hsort _ (fun he => ?_) (fun he => ?_) (hid (fun b w' h => HM b w' h hpo))
 ·unfold outOf; rw [he]; rfl
 ·unfold outOf; rw [he]; rfl
theorem steps_raise (op : Bt.Op) (known : List Bt.Page) (fa ka : Option Addr) (fn fc kn kc : Nat) (w : World) (hkind : op.kind = 6) {p : Bt.Page} {q : Bt.Ptr} {lv : Int} (hR : RootIs known p q lv)
 (hneed : ((St0 p q).raise op known).need = []) (hsort : Sorted2 ((St0 p q).raise op known).writes)
 (HM : ∀ b w', IsRun (fun _ => False) op known (.slice fa fn fc) (.slice ka kn kc) (St0 p q) b w' → p.Ok →
  Calls Tryz.prog 56 #[.pointer (some ⟨b, 0, none⟩)] w' (RunPost (fun _ => False) op known (.slice fa fn fc) (.slice ka kn kc) ((St0 p q).raise op known) b (.tuple #[]) w')) :
 Steps op known fa ka fn fc kn kc ((St0 p q).raise op known).writes (outOf ((St0 p q).raise op known)) w := by
 intro hf hk hn
 have hpo := hk.ok p (latest_in hR.here).1
 refine next_raise op known fa ka fn fc kn kc w hf hk hn hkind p q lv hR.here hR.free hR.read _ hneed hsort _ (fun he => ?_) (fun he => ?_) (hid (fun b w' h => HM b w' h hpo))
 ·unfold outOf; rw [he]; rfl
 ·unfold outOf; rw [he]; rfl
theorem steps_plant (op : Bt.Op) (known : List Bt.Page) (fa ka : Option Addr) (fn fc kn kc : Nat) (w : World) (hkind : op.kind = 2) (hv : Bt.isKey op.key = true) (hto : Bt.validP op.to = true) (hkey : 0 ≤ op.key ∧ op.key < 4294967296) {p : Bt.Page} {lv : Int} (hR : RootIs known p Bt.nilP lv)
 (hneed : ((St0 p Bt.nilP).insert op known).need = []) (hsort : Sorted2 ((St0 p Bt.nilP).insert op known).writes)
 (hfr : op.fresh = [] ∨ ∃ f a, op.fresh = [f] ∧ f.Ok ∧ Bt.allocate f 4 0 = (a, 0)) :
 Steps op known fa ka fn fc kn kc ((St0 p Bt.nilP).insert op known).writes (outOf ((St0 p Bt.nilP).insert op known)) w := by
 refine steps_insert op known fa ka fn fc kn kc w hkind hv hto hR hneed hsort (fun b w' h hpo => ?_)
 refine insert_plant _ op known _ _ _ b w' h (fun _ hc => hc.elim) rfl (hid (fun w2 h2 hA2 => ?_))
 rcases hfr with hf | ⟨f, a, hf, hfo, hfa⟩
 ·exact plant_empty _ op known _ _ _ b _ w2 h2 hA2 hpo hR.free hf
 ·exact plant_one _ op known _ _ _ b _ w2 h2 hA2 hpo hR.free (latest_in hR.here).2 f a [] hf hfo hfa hkey
theorem steps_leaf (op : Bt.Op) (known : List Bt.Page) (fa ka : Option Addr) (fn fc kn kc : Nat) (w : World) (hkind : op.kind = 2) (hv : Bt.isKey op.key = true) (hto : Bt.validP op.to = true) (hkey : 0 ≤ op.key ∧ op.key < 4294967296) {p : Bt.Page} {q : Bt.Ptr} {lv : Int} (hR : RootIs known p q lv) (hq : q ≠ Bt.nilP)
 {page : Bt.Page} {n : Bt.Node} (hlook : (St0 p q).look known q false = (St0 p q, some (page, n))) (hlev : n.level = 0) (hd : n.dead = false) (hkh : op.key ≤ n.high) (hnh : 0 ≤ n.high ∧ n.high < 4294967296) (hlk : Bt.locked page = false)
 (hend : Bt.child n.entries op.key = n.entries.length) (hpos : 0 < n.entries.length)
 (hneed : ((St0 p q).insert op known).need = []) (hsort : Sorted2 ((St0 p q).insert op known).writes)
 (hfr : n.entries.length + 1 ≤ 5 ∨ (n.entries.length = 5 ∧ (op.fresh = [] ∨ ∃ f a, op.fresh = [f] ∧ f.Ok ∧ Bt.allocate f 4 0 = (a, 0) ∧ a.line ≠ page.line))) :
 Steps op known fa ka fn fc kn kc ((St0 p q).insert op known).writes (outOf ((St0 p q).insert op known)) w := by
 refine steps_insert op known fa ka fn fc kn kc w hkind hv hto hR hneed hsort (fun b w' h hpo => ?_)
 have hpk := (h.knownRow).ok page (look_known hlook).1
 refine insert_leaf _ op known _ _ _ b page n w' h (fun _ hc => hc.elim) hq hlook hlev hd hkh hlk hkey hend hpos (hid (fun A' w2 g m cap n0 c0 a0 h2 hA2 hbg hm hmc he => ?_))
 have hlen : (n.entries ++ [(⟨op.key, op.to⟩ : Bt.Entry)]).length = n.entries.length + 1 := by simp
 rcases hfr with h5 | ⟨h6, hfr⟩
 ·subst hm
  exact store_fit A' op known _ _ _ b page n _ a0 n0 c0 g cap w2 h2 hA2 hpk ⟨⟨by show 0 ≤ n.level; omega, by show n.level ≤ 255; omega⟩, hnh, by show (n.entries ++ [(⟨op.key, op.to⟩ : Bt.Entry)]).length ≤ 5; omega⟩ he (by omega)
 ·obtain rfl : m = 6 := by omega
  rcases hfr with hf | ⟨f, a, hf, hfo, hfa, hne⟩
  ·exact store_limit A' op known _ _ _ b page n _ a0 n0 c0 g cap w2 h2 hA2 (by omega) hf
  ·exact store_split A' op known _ _ _ b page n _ a0 n0 c0 g cap w2 h2 hA2 hpk ⟨by omega, by omega⟩ hnh he (by omega) hmc hbg f a [] hf hfo hfa hne
theorem steps_up (op : Bt.Op) (known : List Bt.Page) (fa ka : Option Addr) (fn fc kn kc : Nat) (w : World) (hkind : op.kind = 6) {p : Bt.Page} {q : Bt.Ptr} {lv : Int} (hR : RootIs known p q lv) (hq : q ≠ Bt.nilP)
 {page : Bt.Page} {n : Bt.Node} (hlook : (St0 p q).look known q true = (St0 p q, some (page, n))) (hright : n.right ≠ Bt.nilP) (hlev : n.level ≠ 8)
 (hneed : ((St0 p q).raise op known).need = []) (hsort : Sorted2 ((St0 p q).raise op known).writes)
 (hfr : op.fresh = [] ∨ ∃ f a, op.fresh = [f] ∧ f.Ok ∧ Bt.allocate f 4 0 = (a, 0) ∧ a.line ≠ page.line) :
 Steps op known fa ka fn fc kn kc ((St0 p q).raise op known).writes (outOf ((St0 p q).raise op known)) w := by
 refine steps_raise op known fa ka fn fc kn kc w hkind hR hneed hsort (fun b w' h hpo => ?_)
 rcases hfr with hf | ⟨f, a, hf, hfo, hfa, hne⟩
 ·exact raise_empty _ op known _ _ _ b page n w' h (fun _ hc => hc.elim) hq hlook hright hlev hf
 ·exact raise_one _ op known _ _ _ b page n w' h (fun _ hc => hc.elim) hq hlook hright hlev hpo (latest_in hR.here).2 f a [] hf hfo hfa hne
def okB (p : Bt.Page) : Bool :=
 decide (0 ≤ p.head ∧ p.head < 18446744073709551616) && decide (0 ≤ p.d0 ∧ p.d0 < 18446744073709551616) && decide (0 ≤ p.d1 ∧ p.d1 < 18446744073709551616) && decide (0 ≤ p.d2 ∧ p.d2 < 18446744073709551616) && decide (0 ≤ p.d3 ∧ p.d3 < 18446744073709551616) &&
  decide (0 ≤ p.d4 ∧ p.d4 < 18446744073709551616) && decide (0 ≤ p.d5 ∧ p.d5 < 18446744073709551616) && decide (0 ≤ p.d6 ∧ p.d6 < 18446744073709551616)
theorem okB_ok {p : Bt.Page} (h : okB p = true) : p.Ok := by
 simp only [okB, Bool.and_eq_true, decide_eq_true_eq] at h
 exact ⟨h.1.1.1.1.1.1.1, h.1.1.1.1.1.1.2, h.1.1.1.1.1.2, h.1.1.1.1.2, h.1.1.1.2, h.1.1.2, h.1.2, h.2⟩
def fitsFrom (pages : List Bt.Page) (last : Int) : List Bt.Page → Bool
 | [] => true
 | p :: ws => decide (96 ≤ p.line) && decide (p.line < 96 + pages.length) && (match pages[(p.line - 96).toNat]? with | some q => decide (q.head = p.head) | none => false) && okB p && decide (last < p.line) && fitsFrom (applyWrite pages p) p.line ws
theorem fitsFrom_fit (pages : List Bt.Page) (last : Int) (ws : List Bt.Page) (h : fitsFrom pages last ws = true) : WritesFit pages ws ∧ (∀ p, ws.head? = some p → last < p.line) := by
 induction ws generalizing pages last with
 | nil => exact ⟨⟨fun k hk => by simp at hk, fun k hk => by simp at hk⟩, fun p hp => by simp at hp⟩
 | cons p ws ih =>
   simp only [fitsFrom, Bool.and_eq_true, decide_eq_true_eq] at h
   obtain ⟨⟨⟨⟨⟨h1, h2⟩, h3⟩, h5⟩, h6⟩, h7⟩ := h
   obtain ⟨⟨i1, i2⟩, i3⟩ := ih _ _ h7
   have hl : (applyWrite pages p).length = pages.length := by simp [applyWrite]
   have e3 : ∃ q, pages[(p.line - 96).toNat]? = some q ∧ q.head = p.head := by
    cases hq : pages[(p.line - 96).toNat]? with
    | none => rw [hq] at h3; simp at h3
    | some q => rw [hq] at h3; exact ⟨q, rfl, by simpa using h3⟩
   refine ⟨⟨fun k hk => ?_, fun k hk => ?_⟩, fun q hq => by simp at hq; subst hq; exact h6⟩
   ·cases k with
    | zero => exact ⟨h1, h2, e3, okB_ok h5⟩
    | succ k =>
      have := i1 k (by simpa using hk)
      rw [hl] at this
      simpa [applyWrites] using this
   ·cases k with
    | zero =>
      simp only [List.getElem_cons_zero, List.getElem_cons_succ]
      have hk' : 0 < ws.length := by simpa using hk
      exact i3 _ (by rw [List.head?_eq_getElem?, List.getElem?_eq_getElem hk'])
    | succ k =>
      simp only [List.getElem_cons_succ]
      exact i2 k (by simpa using hk)
theorem PgRow.nil (w : World) : PgRow w (.slice none 0 0) [] := ⟨(fun p hp => by cases hp), by simp, .inl ⟨rfl, rfl⟩⟩
theorem run_step (x P cap : Nat) (pages : List Bt.Page) (next : Int) (keys : List Int) (tos : List Bt.Ptr) (op : Bt.Op) (hop : op.fresh = []) (ws : List Bt.Page) (o : Bt.Out) (hS : ∀ w ka kn kc, Steps op pages none ka 0 0 kn kc ws o w) (ho : o.code = 0) (hfit : fitsFrom pages 0 ws = true) (hlen : pages.length ≤ 1000000) (hws : ws.length ≤ 2)
 (w : World) (h : IxAt x P cap pages next keys tos w) : Calls Tryz.prog 31 #[.pointer (some ⟨x, 0, none⟩), .agg (opCells op (.slice none 0 0))] w (RunIx x P cap (applyWrites pages ws) next keys tos o w) := by
 obtain ⟨vk, vt, vg, h⟩ := h
 have hgx : 0 < x := Nat.lt_trans h.hgP h.hPx
 refine (run_plain x P cap pages next vk vt vg op ws o w h.blk h.pg h.none h.hPx h.hgP hgx ho (fitsFrom_fit _ _ _ hfit).1 hlen hws (hid (fun w' hp hn => hS w' _ _ _ (by rw [hop]; exact PgRow.nil w') hp hn))).mono (fun e w' hp => RunIx.of (n := 0) h (applyWrites_length _ _) hp)
def insS (ps : List Bt.Page) (p : Bt.Page) (q : Bt.Ptr) (k : Int) (fr : List Bt.Page) : Bt.St := (St0 p q).insert (insOp k ⟨200, k⟩ fr) ps
def upOp (fr : List Bt.Page) : Bt.Op := ⟨6, 0, 0, Bt.nilP, 0, 0, fr⟩
def upS (ps : List Bt.Page) (p : Bt.Page) (q : Bt.Ptr) (fr : List Bt.Page) : Bt.St := (St0 p q).raise (upOp fr) ps
def rootPg (ps : List Bt.Page) : Bt.Page := (Bt.latest ps 96).getD Bt.zeroPage
def leafPg (ps : List Bt.Page) : Bt.Page := (Bt.latest ps 105).getD Bt.zeroPage
def lf : Bt.Ptr := ⟨105, 1⟩
def pg0 : List Bt.Page := newPages 160
def pg1 : List Bt.Page := applyWrites pg0 (insS pg0 (rootPg pg0) Bt.nilP 1 [newPage 9]).writes
def pg2 : List Bt.Page := applyWrites pg1 (insS pg1 (rootPg pg1) lf 2 []).writes
def pg3 : List Bt.Page := applyWrites pg2 (insS pg2 (rootPg pg2) lf 3 []).writes
def pg4 : List Bt.Page := applyWrites pg3 (insS pg3 (rootPg pg3) lf 4 []).writes
def pg5 : List Bt.Page := applyWrites pg4 (insS pg4 (rootPg pg4) lf 5 []).writes
def pg6 : List Bt.Page := applyWrites pg5 (insS pg5 (rootPg pg5) lf 6 [newPage 10]).writes
def pg7 : List Bt.Page := applyWrites pg6 (upS pg6 (rootPg pg6) lf [newPage 11]).writes
theorem root0 : RootIs pg0 (rootPg pg0) Bt.nilP 0 := ⟨by kernel_rfl, by kernel_rfl, by kernel_rfl⟩
theorem root1 : RootIs pg1 (rootPg pg1) lf 0 := ⟨by kernel_rfl, by kernel_rfl, by kernel_rfl⟩
theorem root2 : RootIs pg2 (rootPg pg2) lf 0 := ⟨by kernel_rfl, by kernel_rfl, by kernel_rfl⟩
theorem root3 : RootIs pg3 (rootPg pg3) lf 0 := ⟨by kernel_rfl, by kernel_rfl, by kernel_rfl⟩
theorem root4 : RootIs pg4 (rootPg pg4) lf 0 := ⟨by kernel_rfl, by kernel_rfl, by kernel_rfl⟩
theorem root5 : RootIs pg5 (rootPg pg5) lf 0 := ⟨by kernel_rfl, by kernel_rfl, by kernel_rfl⟩
theorem root6 : RootIs pg6 (rootPg pg6) lf 0 := ⟨by kernel_rfl, by kernel_rfl, by kernel_rfl⟩
def sortedB (l : List Bt.Page) : Bool := match l with | [] => true | [_] => true | [p, q] => decide (p.line ≤ q.line) | _ => false
theorem sortedB_of {l : List Bt.Page} (h : sortedB l = true) : Sorted2 l := by
 match l, h with
 | [], _ => exact .inl rfl
 | [p], _ => exact .inr (.inl ⟨p, rfl⟩)
 | [p, q], h => exact .inr (.inr ⟨p, q, rfl, by simpa [sortedB] using h⟩)
 | _ :: _ :: _ :: _, h => simp [sortedB] at h
def leafFacts (ps : List Bt.Page) (k : Int) (fr : List Bt.Page) : Bool :=
 decide ((leafPg ps).node.level = 0) && decide ((leafPg ps).node.dead = false) && decide (k ≤ (leafPg ps).node.high) && decide (0 ≤ (leafPg ps).node.high) && decide ((leafPg ps).node.high < 4294967296) && decide (Bt.locked (leafPg ps) = false) &&
  decide (Bt.child (leafPg ps).node.entries k = (leafPg ps).node.entries.length) && decide (0 < (leafPg ps).node.entries.length) && decide ((insS ps (rootPg ps) lf k fr).need = []) && sortedB (insS ps (rootPg ps) lf k fr).writes && decide (Bt.isKey k = true) && decide (Bt.validP ⟨200, k⟩ = true) && decide (0 ≤ k ∧ k < 4294967296)
theorem steps_leaf' (ps : List Bt.Page) (k : Int) (fr : List Bt.Page) (hR : RootIs ps (rootPg ps) lf 0) (hlook : (St0 (rootPg ps) lf).look ps lf false = (St0 (rootPg ps) lf, some (leafPg ps, (leafPg ps).node))) (hb : leafFacts ps k fr = true)
 (hfr : (leafPg ps).node.entries.length + 1 ≤ 5 ∨ ((leafPg ps).node.entries.length = 5 ∧ (fr = [] ∨ ∃ f a, fr = [f] ∧ f.Ok ∧ Bt.allocate f 4 0 = (a, 0) ∧ a.line ≠ (leafPg ps).line))) (fa ka : Option Addr) (fn fc kn kc : Nat) (w : World) :
 Steps (insOp k ⟨200, k⟩ fr) ps fa ka fn fc kn kc (insS ps (rootPg ps) lf k fr).writes (outOf (insS ps (rootPg ps) lf k fr)) w := by
 simp only [leafFacts, Bool.and_eq_true, decide_eq_true_eq] at hb
 obtain ⟨⟨⟨⟨⟨⟨⟨⟨⟨⟨⟨⟨h1, h2⟩, h3⟩, h4⟩, h5⟩, h6⟩, h7⟩, h8⟩, h9⟩, h10⟩, h11⟩, h12⟩, h13⟩ := hb
 exact steps_leaf (insOp k ⟨200, k⟩ fr) ps fa ka fn fc kn kc w rfl h11 h12 h13 hR (by decide) hlook h1 h2 h3 ⟨h4, h5⟩ h6 h7 h8 h9 (sortedB_of h10) hfr
theorem look1 : (St0 (rootPg pg1) lf).look pg1 lf false = (St0 (rootPg pg1) lf, some (leafPg pg1, (leafPg pg1).node)) := by kernel_rfl
theorem look2 : (St0 (rootPg pg2) lf).look pg2 lf false = (St0 (rootPg pg2) lf, some (leafPg pg2, (leafPg pg2).node)) := by kernel_rfl
theorem look3 : (St0 (rootPg pg3) lf).look pg3 lf false = (St0 (rootPg pg3) lf, some (leafPg pg3, (leafPg pg3).node)) := by kernel_rfl
theorem look4 : (St0 (rootPg pg4) lf).look pg4 lf false = (St0 (rootPg pg4) lf, some (leafPg pg4, (leafPg pg4).node)) := by kernel_rfl
theorem look5 : (St0 (rootPg pg5) lf).look pg5 lf false = (St0 (rootPg pg5) lf, some (leafPg pg5, (leafPg pg5).node)) := by kernel_rfl
theorem look6 : (St0 (rootPg pg6) lf).look pg6 lf true = (St0 (rootPg pg6) lf, some (leafPg pg6, (leafPg pg6).node)) := by kernel_rfl
theorem run_ins2 (x P cap : Nat) (next : Int) (keys : List Int) (tos : List Bt.Ptr) (w : World) (h : IxAt x P cap pg1 next keys tos w) :
 Calls Tryz.prog 31 #[.pointer (some ⟨x, 0, none⟩), .agg (opCells (insOp 2 ⟨200, 2⟩ []) (.slice none 0 0))] w (RunIx x P cap pg2 next keys tos (outOf (insS pg1 (rootPg pg1) lf 2 [])) w) :=
 run_step x P cap pg1 next keys tos _ rfl _ _ (fun w ka kn kc => steps_leaf' pg1 2 [] root1 look1 (by kernel_rfl) (.inl (of_decide_eq_true (by kernel_rfl))) none ka 0 0 kn kc w) (by kernel_rfl) (by kernel_rfl) (of_decide_eq_true (by kernel_rfl)) (of_decide_eq_true (by kernel_rfl)) w h
theorem run_ins3 (x P cap : Nat) (next : Int) (keys : List Int) (tos : List Bt.Ptr) (w : World) (h : IxAt x P cap pg2 next keys tos w) :
 Calls Tryz.prog 31 #[.pointer (some ⟨x, 0, none⟩), .agg (opCells (insOp 3 ⟨200, 3⟩ []) (.slice none 0 0))] w (RunIx x P cap pg3 next keys tos (outOf (insS pg2 (rootPg pg2) lf 3 [])) w) :=
 run_step x P cap pg2 next keys tos _ rfl _ _ (fun w ka kn kc => steps_leaf' pg2 3 [] root2 look2 (by kernel_rfl) (.inl (of_decide_eq_true (by kernel_rfl))) none ka 0 0 kn kc w) (by kernel_rfl) (by kernel_rfl) (of_decide_eq_true (by kernel_rfl)) (of_decide_eq_true (by kernel_rfl)) w h
theorem run_ins4 (x P cap : Nat) (next : Int) (keys : List Int) (tos : List Bt.Ptr) (w : World) (h : IxAt x P cap pg3 next keys tos w) :
 Calls Tryz.prog 31 #[.pointer (some ⟨x, 0, none⟩), .agg (opCells (insOp 4 ⟨200, 4⟩ []) (.slice none 0 0))] w (RunIx x P cap pg4 next keys tos (outOf (insS pg3 (rootPg pg3) lf 4 [])) w) :=
 run_step x P cap pg3 next keys tos _ rfl _ _ (fun w ka kn kc => steps_leaf' pg3 4 [] root3 look3 (by kernel_rfl) (.inl (of_decide_eq_true (by kernel_rfl))) none ka 0 0 kn kc w) (by kernel_rfl) (by kernel_rfl) (of_decide_eq_true (by kernel_rfl)) (of_decide_eq_true (by kernel_rfl)) w h
theorem run_ins5 (x P cap : Nat) (next : Int) (keys : List Int) (tos : List Bt.Ptr) (w : World) (h : IxAt x P cap pg4 next keys tos w) :
 Calls Tryz.prog 31 #[.pointer (some ⟨x, 0, none⟩), .agg (opCells (insOp 5 ⟨200, 5⟩ []) (.slice none 0 0))] w (RunIx x P cap pg5 next keys tos (outOf (insS pg4 (rootPg pg4) lf 5 [])) w) :=
 run_step x P cap pg4 next keys tos _ rfl _ _ (fun w ka kn kc => steps_leaf' pg4 5 [] root4 look4 (by kernel_rfl) (.inl (of_decide_eq_true (by kernel_rfl))) none ka 0 0 kn kc w) (by kernel_rfl) (by kernel_rfl) (of_decide_eq_true (by kernel_rfl)) (of_decide_eq_true (by kernel_rfl)) w h
end Go.Proofs.YtjmpekanlmepmaaGreatDoor
