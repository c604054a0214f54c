/- Lists of moves and of numbers among a law's arguments. -/
import Derived.Test.YtjmpekanlmepmaaGreatDoorBB40
import Derived.Test.YtjmpekanlmepmaaGreatDoorBB45
import Derived.Test.YtjmpekanlmepmaaGreatDoorBB29
import Derived.Test.YtjmpekanlmepmaaGreatDoorBB13
import Derived.Test.YtjmpekanlmepmaaGreatDoorCards
import Derived.Test.YtjmpekanlmepmaaGreatDoorTie
import Derived.Test.YtjmpekanlmepmaaGreatDoorBB05
import Derived.ProofKit
import Derived.OpenShut
import Derived.Deep.DeepHandedRow
import Derived.Lib.LaidTab
import Derived.Test.YtjmpekanlmepmaaGreatDoorBB12
import Derived.Lib.SmallJoins
import Derived.Deep.Strs
import Derived.Carry
import Derived.Deep.Slices
set_option linter.all false
set_option maxRecDepth 20000
set_option maxHeartbeats 8000000
open Go.Lib (hid)
namespace Go.Proofs.YtjmpekanlmepmaaGreatDoor
open Go.RowKit
def keysOf (es : List Bt.Entry) : List Int := es.map (·.key)
def tosOf (es : List Bt.Entry) : List Bt.Ptr := es.map (·.to)
theorem Z2P (es : List Bt.Entry) (k : Int) : placeOf (keysOf es) k = Bt.child es k := by
 induction es with
 | nil => rfl
 | cons e es ih =>
   unfold keysOf at ih ⊢
   simp only [List.map_cons, placeOf, Bt.child, ih]
theorem Z4z (es : List Bt.Entry) (k : Int) : Z2p (keysOf es) k = Bt.Z0T es k := by
 unfold Z2p Bt.Z0T
 rw [Z2P]
 unfold keysOf
 rw [List.getElem?_map]
 cases es[Bt.child es k]? <;> rfl
theorem Z45 {α : Type} (f : Bt.Entry → α) (es : List Bt.Entry) (i : Nat) (e : Bt.Entry) : Z1U (es.map f) i (f e) = (Bt.Z0h es i e).map f := by simp [Z1U, Bt.Z0h, List.map_take, List.map_drop]
theorem Z4V {α : Type} (f : Bt.Entry → α) (es : List Bt.Entry) (i : Nat) : Z18 (es.map f) i = (Bt.Z0B es i).map f := by simp [Z18, Bt.Z0B, List.map_take, List.map_drop]
theorem Z8C (es : List Bt.Entry) (i : Nat) (h : i < es.length) : (tosOf es).getD i default = (es.getD i default).to := by
 unfold tosOf
 rw [List.getD_eq_getElem?_getD, List.getElem?_map, List.getD_eq_getElem?_getD, List.getElem?_eq_getElem h]
 rfl
theorem Z6a {es : List Bt.Entry} {k : Int} (h : Bt.Z0T es k = true) : Bt.child es k < es.length := by
 unfold Bt.Z0T at h
 cases hk : es[Bt.child es k]? with
 | none => rw [hk] at h; simp at h
 | some y => exact (List.getElem?_eq_some_iff.1 hk).1
theorem Z9B (c : List Bt.Cell) (h : ∀ x ∈ c, x.2.entries.length ≤ 5) : (Bt.ents c).length ≤ 5 * c.length := by
 induction c with
 | nil => simp [Bt.ents]
 | cons x c ih =>
   rw [Bt.Z0N, List.length_append, List.length_cons]
   have h1 := h x (by simp)
   have h2 := ih (fun y hy => h y (by simp [hy]))
   omega
theorem Bt.Inv.esLen {ps : List Bt.Page} {nx : Int} {es : List Bt.Entry} {T : List (List Bt.Cell)} (h : Bt.Inv ps nx es T) : es.length ≤ 755 := by
 rw [← h.holds]
 unfold Bt.Z2A
 rcases List.eq_nil_or_concat T with rfl | ⟨pre, lo, rfl⟩
 ·simp [Bt.ents]
 ·have hsm := h.small
  rw [List.concat_eq_append] at hsm h ⊢
  rw [Bt.Z0P] at hsm
  have hl : (Bt.flat [lo]).length = lo.length := by simp [Bt.flat]
  have h5 := Z9B lo (fun x hx => (Bt.Node.valid_parts (h.sees x (by rw [Bt.Z0P]; simp [Bt.flat, hx])).good.valid).2.2.1)
  have hg : (pre ++ [lo]).getLastD [] = lo := Bt.Z0L pre lo
  rw [hg]
  simp only [List.length_append] at hsm
  omega
structure Moved (ps : List Bt.Page) (nx : Int) (T : List (List Bt.Cell)) (ps' : List Bt.Page) (nx' : Int) (es' : List Bt.Entry) (T' : List (List Bt.Cell)) : Prop where
 inv : Bt.Inv ps' nx' es' T'
 kept : Bt.Kept ps ps' T T'
 evo : ∃ d wv k, Bt.Evo nx d wv k T T' ∧ nx' = nx + d ∧ wv ≤ 1
theorem Moved.same {ps : List Bt.Page} {nx : Int} {es : List Bt.Entry} {T : List (List Bt.Cell)} (h : Bt.Inv ps nx es T) : Moved ps nx T ps nx es T := ⟨h, .refl _ _ _, 0, 0, 0, .same, by omega, by omega⟩
abbrev Z2X (k : Int) : Bt.Op := ⟨3, k, 0, Bt.nilP, 0, 0, []⟩
abbrev Z5Z (k l : Int) : Bt.Op := ⟨5, k, 0, Bt.nilP, l, 0, []⟩
abbrev Z2M : Bt.Op := ⟨6, 0, 0, Bt.nilP, 0, 0, []⟩
abbrev Z85 (k : Int) : Bt.Op := ⟨7, k, 0, Bt.nilP, 0, 0, []⟩
abbrev Z5y (k : Int) : Bt.Op := ⟨8, k, 0, Bt.nilP, 0, 0, []⟩
section
variable {ps : List Bt.Page} {nx : Int} {es : List Bt.Entry} {T : List (List Bt.Cell)} (h : Bt.Inv ps nx es T)
include h
def Z2O (ps : List Bt.Page) (nx : Int) (op : Bt.Op) : Prop :=
 ∀ (fr : List Bt.Page) (ws : List Bt.Page) (o : Bt.Out), Z1R { op with fresh := fr } ps nx → Bt.next { op with fresh := fr } ps = ⟨[], ws, o, true⟩ → ∀ fa ka fn fc kn kc w, Steps { op with fresh := fr } ps fa ka fn fc kn kc ws o w
theorem Z5x (k : Int) (hk : 1 ≤ k) (hk2 : k ≤ Bt.Z0e) (tq : Bt.Ptr) (hto : Bt.Z0w tq = true) : Z2O ps nx (insOp k tq []) := fun fr ws o hf hn fa ka fn fc kn kc w =>
 Z5S h _ (by unfold Bt.Op.isValid; simp [insOp, Bt.isKey, hk, hk2, hto]) hn fa ka fn fc kn kc w hf rfl
theorem Z4W (k : Int) (hk : 1 ≤ k) (hk2 : k ≤ Bt.Z0e) : Z2O ps nx (Z2X k) := fun fr ws o hf hn fa ka fn fc kn kc w =>
 Z5R h _ (by unfold Bt.Op.isValid; simp [Z2X, Bt.isKey, hk, hk2]) hn fa ka fn fc kn kc w hf rfl
theorem Z9C (k : Int) (hk : 1 ≤ k) (hk2 : k ≤ Bt.Z0e) : Z2O ps nx (Z85 k) := fun fr ws o hf hn fa ka fn fc kn kc w =>
 Z6L h _ (by unfold Bt.Op.isValid; simp [Z85, Bt.isKey, hk, hk2]) hn fa ka fn fc kn kc w rfl
theorem Z83 (k : Int) (hk : 1 ≤ k) (hk2 : k ≤ Bt.Z0e) : Z2O ps nx (Z5y k) := fun fr ws o hf hn fa ka fn fc kn kc w =>
 Z5Q h _ (by unfold Bt.Op.isValid; simp [Z5y, Bt.isKey, hk, hk2]) hn fa ka fn fc kn kc w rfl
theorem Z6h (hl : T.length ≤ 8) : Z2O ps nx Z2M := fun fr ws o hf hn fa ka fn fc kn kc w =>
 Z6m h _ (by unfold Bt.Op.isValid; simp [Z2M]) hn fa ka fn fc kn kc w hf hl rfl
theorem Z8X (k : Int) (hk : 1 ≤ k) (hk2 : k ≤ Bt.Z08) (lev : Nat) (hl8 : lev < 8) : Z2O ps nx (Z5Z k (lev : Int)) := fun fr ws o hf hn fa ka fn fc kn kc w =>
 Z6K h _ hk hk2 (lev := lev) rfl hl8 (by unfold Bt.Op.isValid; simp [Z5Z, hk]; omega) hn fa ka fn fc kn kc w hf rfl
theorem Z1N {x P cap G : Nat} (op : Bt.Op) (hop : op.fresh = []) (HS : Z2O ps nx op) {o : Bt.Out} (hn : Bt.next op ps = ⟨[], [], o, true⟩) (hoc : o.code ≠ 18) {keys : List Int} {tos : List Bt.Ptr} (w : World) (hx : IxG x P cap G ps nx keys tos w) :
 Calls Tryz.prog 31 #[.pointer (some ⟨x, 0, none⟩), .agg (Z0d op (.slice none 0 0))] w (Z2x x P cap G ps nx keys tos o w) :=
 Z5X h op hop (.inl ⟨hn, rfl⟩) (Bt.Commits.nil ps) (.inr ⟨rfl, hoc, rfl⟩) HS w hx
theorem Z5n {x P cap G : Nat} (op : Bt.Op) (hop : op.fresh = []) (HS : Z2O ps nx op) {o : Bt.Out} {wv : Nat} (hw : wv ≤ 1) {es' : List Bt.Entry} {Q : Int → List (List Bt.Cell) → Prop} (ht : Bt.Z7U Q wv op ps nx es' T o) (hoc : o.code = 0) :
 ∃ ps' nx' T', Moved ps nx T ps' nx' es' T' ∧ (∃ d wv, Bt.Evo nx d wv 0 T T' ∧ nx' = nx + d ∧ wv ≤ 1) ∧ Q nx' T' ∧ ∀ (keys : List Int) (tos : List Bt.Ptr) (w : World), IxG x P cap G ps nx keys tos w →
  Calls Tryz.prog 31 #[.pointer (some ⟨x, 0, none⟩), .agg (Z0d op (.slice none 0 0))] w (Z2x x P cap G ps' nx' keys tos o w) := by
 obtain ⟨ws, nx', T', hR, _, hcm, hinv, hkp, hevo, hq⟩ := ht
 exact ⟨_, nx', T', ⟨hinv, hkp, _, _, _, hevo, by omega, hw⟩, ⟨_, _, hevo, by omega, hw⟩, hq, fun keys tos w hx => Z5X h op hop hR hcm (.inl hoc) HS w hx⟩
theorem Z3i {x P cap G : Nat} (op : Bt.Op) (hop : op.fresh = []) (HS : Z2O ps nx op) {o : Bt.Out} {ws : List Bt.Page} (hn : Bt.next op ps = ⟨[], ws, o, true⟩) (hcm : Bt.Commits ps ws) (hoc : o.code = 0) {keys : List Int} {tos : List Bt.Ptr} (w : World) (hx : IxG x P cap G ps nx keys tos w) :
 Calls Tryz.prog 31 #[.pointer (some ⟨x, 0, none⟩), .agg (Z0d op (.slice none 0 0))] w (Z2x x P cap G (Bt.Z0J ps ws) nx keys tos o w) :=
 Z5X h op hop (.inl ⟨hn, rfl⟩) hcm (.inl hoc) HS w hx
theorem Zck {ins K : Nat} (hc : Bt.Cnt T nx ins K) (hi : ins ≤ 76) {x P cap G : Nat} (hG : G ≤ 1000000) (mk mkey ml n : Int) (hmk : -9223372036854775808 ≤ mk ∧ mk ≤ 9223372036854775807) (hmy : -9223372036854775808 ≤ mkey ∧ mkey ≤ 9223372036854775807) (hml : -9223372036854775808 ≤ ml ∧ ml ≤ 9223372036854775807)
 (hn : 0 ≤ n ∧ n ≤ 1000000) (h8 : pick mk 14 ≤ 8) : ∃ ps' nx' es' T', Moved ps nx T ps' nx' es' T' ∧ (∃ d wv, Bt.Evo nx d wv 0 T T' ∧ nx' = nx + d ∧ wv ≤ 1) ∧ ∀ w, IxG x P cap G ps nx (keysOf es) (tosOf es) w →
  Calls Tryz.prog 23 #[.pointer (some ⟨x, 0, none⟩), .agg #[.int .i64 mk, .int .i64 mkey, .int .i64 ml], .int .i64 n] w (Z5M x P cap (G + 1) ps' nx' (keysOf es') (tosOf es') w) := by
 obtain ⟨hT4, hnx4⟩ := hc.bound h.tree hi
 have hnx : nx < 256 := by omega
 obtain ⟨hk, hk2⟩ := Z3H mkey
 have hkh : keyOf mkey ≤ Bt.Z08 := Z20 hk2
 have hlen := h.esLen
 have hlk : (keysOf es).length ≤ 1000 := by unfold keysOf; rw [List.length_map]; omega
 have hlt : (tosOf es).length = (keysOf es).length := by unfold keysOf tosOf; simp
 have p1 := Int.emod_lt_of_pos mk (show (0 : Int) < 14 by decide)
 have p2 := Int.emod_nonneg mk (show (14 : Int) ≠ 0 by decide)
 have hp : pick mk 14 = mk % 14 := rfl
 rw [← hp] at p1 p2
 clear hp
 have hthere := Z4z es (keyOf mkey)
 by_cases hj : pick mk 14 = 0 ∨ pick mk 14 = 1 ∨ pick mk 14 = 2 ∨ pick mk 14 = 3 ∨ pick mk 14 = 4 ∨ pick mk 14 = 5
 ·obtain ⟨tq, htq⟩ : ∃ tq : Bt.Ptr, tq = ⟨104 + n % 100, n + 1⟩ := ⟨_, rfl⟩
  have hto : Bt.Z0w tq = true := by rw [htq]; unfold Bt.Z0w Bt.Z3w; simp; omega
  cases hhk : Bt.Z0T es (keyOf mkey) with
  | true =>
    rw [hhk] at hthere
    obtain ⟨o, ho, hoc, hock⟩ := h.insertThere (op := insOp (keyOf mkey) tq []) rfl hk hk2 hto hhk
    refine ⟨ps, nx, es, T, Moved.same h, ⟨0, 0, .same, by omega, by omega⟩, fun w hx => (ZbV x P cap G ps ps nx nx (keysOf es) (keysOf es) (tosOf es) (tosOf es) mk mkey ml n hmk hmy hn w hx hj (hid (fun w' hx' => ?_))).mono fun e w' hp => hp.move⟩
    have := Z6Y x P cap G ps ps nx nx (keysOf es) (tosOf es) (keyOf mkey) tq o w' hx' hthere hlk hoc hock (hid (fun w2 h2 => Z1N h (insOp (keyOf mkey) tq []) rfl (Z5x h _ hk hk2 tq hto) ho (by omega) w2 h2))
    rw [htq] at this
    exact this
  | false =>
    rw [hhk] at hthere
    obtain ⟨o, hturn, hoc, hod⟩ := h.insertNew hnx (op := insOp (keyOf mkey) tq []) rfl rfl hk hk2 hto hhk
    obtain ⟨ps', nx', T', hm, hev, _, hrun⟩ := Z5n (x := x) (P := P) (cap := cap) (G := G) h (insOp (keyOf mkey) tq []) rfl (Z5x h _ hk hk2 tq hto) (Nat.le_refl 1) hturn.toP hoc
    refine ⟨ps', nx', _, T', hm, hev, fun w hx => (ZbV x P cap G ps ps' nx nx' (keysOf es) _ (tosOf es) _ mk mkey ml n hmk hmy hn w hx hj (hid (fun w' hx' => ?_))).mono fun e w' hp => hp.move⟩
    have := Z68 x P cap G ps ps' nx nx' (keysOf es) (tosOf es) (keyOf mkey) tq o w' hx' hthere hlk hlt hoc (hid (fun w2 h2 => hrun _ _ w2 h2))
    rw [hod, Z2P] at this
    have e1 : Z1U (keysOf es) (Bt.child es (keyOf mkey)) (keyOf mkey) = keysOf (Bt.Z0h es (Bt.child es (keyOf mkey)) ⟨keyOf mkey, tq⟩) := Z45 (·.key) es _ ⟨keyOf mkey, tq⟩
    have e2 : Z1U (tosOf es) (Bt.child es (keyOf mkey)) tq = tosOf (Bt.Z0h es (Bt.child es (keyOf mkey)) ⟨keyOf mkey, tq⟩) := Z45 (·.to) es _ ⟨keyOf mkey, tq⟩
    rw [e1, e2] at this
    have e3 : tq.cells = #[.int .i64 (104 + n % 100), .int .i64 (n + 1)] := by rw [htq]; rfl
    rw [e3] at this
    exact this
 have hj : pick mk 14 = 6 ∨ pick mk 14 = 7 ∨ pick mk 14 = 8 := by omega
 ·cases hhk : Bt.Z0T es (keyOf mkey) with
  | false =>
    rw [hhk] at hthere
    obtain ⟨o, ho, hoc, hock⟩ := h.removeNone (op := Z2X (keyOf mkey)) rfl hk hk2 hhk
    exact ⟨ps, nx, es, T, Moved.same h, ⟨0, 0, .same, by omega, by omega⟩, fun w hx => (Z75 x P cap G ps ps nx nx (keysOf es) (tosOf es) mk mkey ml n hmk hmy o w hx hj hthere hlk hoc hock (hid (fun w2 h2 => Z1N h (Z2X (keyOf mkey)) rfl (Z4W h _ hk hk2) ho (by omega) w2 h2))).mono fun e w' hp => hp.move⟩
  | true =>
    rw [hhk] at hthere
    obtain ⟨o, ws, T', ho, hcm, hinv, hkp, hoc, hod, hot, pre, A, l, n', R, q1, q2, q3, hT, hT', q4⟩ := h.removeThere hnx (op := Z2X (keyOf mkey)) rfl rfl hk hk2 hhk
    have hevo : Bt.Evo nx 0 1 0 T T' := by rw [hT, hT']; exact .leaf q3 (by omega)
    refine ⟨_, nx, _, T', ⟨hinv, hkp, 0, 1, 0, hevo, by omega, Nat.le_refl 1⟩, ⟨0, 1, hevo, by omega, Nat.le_refl 1⟩, fun w hx => ?_⟩
    have hot2 : o.to = (tosOf es).getD (placeOf (keysOf es) (keyOf mkey)) default := by rw [Z2P, Z8C es _ (Z6a hhk)]; exact hot
    have := Z5D x P cap G ps _ nx nx (keysOf es) (tosOf es) mk mkey ml n hmk hmy o w hx hj hthere hlk hlt hoc hod hot2 (hid (fun w2 h2 => Z3i h (Z2X (keyOf mkey)) rfl (Z4W h _ hk hk2) ho hcm hoc w2 h2))
    rw [Z2P] at this
    have e1 : Z18 (keysOf es) (Bt.child es (keyOf mkey)) = keysOf (Bt.Z0B es (Bt.child es (keyOf mkey))) := Z4V (·.key) es _
    have e2 : Z18 (tosOf es) (Bt.child es (keyOf mkey)) = tosOf (Bt.Z0B es (Bt.child es (keyOf mkey))) := Z4V (·.to) es _
    rw [e1, e2] at this
    exact this.mono fun e w' hp => hp.move
theorem Zcl {ins K : Nat} (hc : Bt.Cnt T nx ins K) (hi : ins ≤ 76) {x P cap G : Nat} (hG : G ≤ 1000000) (mk mkey ml n : Int) (hmk : -9223372036854775808 ≤ mk ∧ mk ≤ 9223372036854775807) (hmy : -9223372036854775808 ≤ mkey ∧ mkey ≤ 9223372036854775807) (hml : -9223372036854775808 ≤ ml ∧ ml ≤ 9223372036854775807)
 (hn : 0 ≤ n ∧ n ≤ 1000000) : ∃ ps' nx' es' T', Moved ps nx T ps' nx' es' T' ∧ ∀ w, IxG x P cap G ps nx (keysOf es) (tosOf es) w →
  Calls Tryz.prog 23 #[.pointer (some ⟨x, 0, none⟩), .agg #[.int .i64 mk, .int .i64 mkey, .int .i64 ml], .int .i64 n] w (Z5M x P cap (G + 1) ps' nx' (keysOf es') (tosOf es') w) := by
 obtain ⟨hT4, hnx4⟩ := hc.bound h.tree hi
 have hnx : nx < 256 := by omega
 obtain ⟨hk, hk2⟩ := Z3H mkey
 have hkh : keyOf mkey ≤ Bt.Z08 := Z20 hk2
 have hlen := h.esLen
 have hlk : (keysOf es).length ≤ 1000 := by unfold keysOf; rw [List.length_map]; omega
 have hlt : (tosOf es).length = (keysOf es).length := by unfold keysOf tosOf; simp
 have p1 := Int.emod_lt_of_pos mk (show (0 : Int) < 14 by decide)
 have p2 := Int.emod_nonneg mk (show (14 : Int) ≠ 0 by decide)
 have hp : pick mk 14 = mk % 14 := rfl
 rw [← hp] at p1 p2
 clear hp
 by_cases h8 : pick mk 14 ≤ 8
 ·obtain ⟨ps', nx', es', T', hm, _, hrun⟩ := Zck h hc hi (x := x) (P := P) (cap := cap) hG mk mkey ml n hmk hmy hml hn h8
  exact ⟨ps', nx', es', T', hm, hrun⟩
 by_cases hj : pick mk 14 = 9 ∨ pick mk 14 = 10
 ·have p3 := Int.emod_lt_of_pos ml (show (0 : Int) < 3 by decide)
  have p4 := Int.emod_nonneg ml (show (3 : Int) ≠ 0 by decide)
  obtain ⟨lev, hlev⟩ : ∃ lev : Nat, pick ml 3 = (lev : Int) := ⟨(pick ml 3).toNat, by have : pick ml 3 = ml % 3 := rfl; omega⟩
  have hl8 : lev < 8 := by have : pick ml 3 = ml % 3 := rfl; omega
  have HS := Z8X h (keyOf mkey) hk hkh lev hl8
  rcases h.post hnx (op := Z5Z (keyOf mkey) (lev : Int)) rfl rfl hk hkh (lev := lev) rfl hl8 with ⟨_, o, ho, hoc⟩ | ⟨pre, post, A, R, lo, a', b', l, n', a, b, e, x', hat, hcase⟩
  ·exact ⟨ps, nx, es, T, Moved.same h, fun w hx => (ZaY x P cap G ps ps nx nx (keysOf es) (tosOf es) mk mkey ml n hmk hmy hml o w hx hj hoc (hid (fun w2 h2 => by rw [hlev]; exact Z1N h _ rfl HS ho (by omega) w2 h2))).mono fun e w' hp => hp.move⟩
  ·rcases hcase with ⟨_, o, ho, hoc, hof, hod⟩ | ⟨_, o, hturn, hoc, hod, hof⟩
   ·exact ⟨ps, nx, es, T, Moved.same h, fun w hx => (Z8V x P cap G ps ps nx nx (keysOf es) (tosOf es) mk mkey ml n hmk hmy hml o w hx hj hoc (by rw [hod, hof]; simp) (hid (fun w2 h2 => by rw [hlev]; exact Z1N h _ rfl HS ho (by omega) w2 h2))).mono fun e w' hp => hp.move⟩
   ·obtain ⟨ps', nx', T', hm, _, _, hrun⟩ := Z5n (x := x) (P := P) (cap := cap) (G := G) h (Z5Z (keyOf mkey) (lev : Int)) rfl HS (by omega) hturn hoc
    exact ⟨ps', nx', es, T', hm, fun w hx => (Z8V x P cap G ps ps' nx nx' (keysOf es) (tosOf es) mk mkey ml n hmk hmy hml o w hx hj hoc (by rw [hod, hof]; simp) (hid (fun w2 h2 => by rw [hlev]; exact hrun _ _ w2 h2))).mono fun e w' hp => hp.move⟩
 by_cases hj : pick mk 14 = 11
 ·have HS := Z6h h (by omega)
  rcases h.raise hnx (by omega) (op := Z2M) rfl rfl with ⟨_, o, ho, hoc⟩ | ⟨_, _, _, o, ho, hoc, hof, hod⟩ | ⟨_, _, _, _, o, _, hturn, hoc, hod, hof⟩
  ·exact ⟨ps, nx, es, T, Moved.same h, fun w hx => (Z9w x P cap G ps ps nx nx (keysOf es) (tosOf es) mk mkey ml n hmk hmy o w hx hj hoc (hid (fun w2 h2 => Z1N h _ rfl HS ho (by omega) w2 h2))).mono fun e w' hp => hp.move⟩
  ·exact ⟨ps, nx, es, T, Moved.same h, fun w hx => (Z7M x P cap G ps ps nx nx (keysOf es) (tosOf es) mk mkey ml n hmk hmy o w hx hj hoc (by rw [hod, hof]; simp) (hid (fun w2 h2 => Z1N h _ rfl HS ho (by omega) w2 h2))).mono fun e w' hp => hp.move⟩
  ·obtain ⟨ps', nx', T', hm, _, _, hrun⟩ := Z5n (x := x) (P := P) (cap := cap) (G := G) h Z2M rfl HS (by omega) hturn hoc
   exact ⟨ps', nx', es, T', hm, fun w hx => (Z7M x P cap G ps ps' nx nx' (keysOf es) (tosOf es) mk mkey ml n hmk hmy o w hx hj hoc (by rw [hod, hof]; simp) (hid (fun w2 h2 => hrun _ _ w2 h2))).mono fun e w' hp => hp.move⟩
 by_cases hj : pick mk 14 = 12
 ·have HS := Z9C h (keyOf mkey) hk hk2
  rcases h.kill (op := Z85 (keyOf mkey)) rfl hk hk2 with ⟨o, ho, hoc⟩ | ⟨o, ws, T', ho, hcm, hinv, hkp, hoc, hod, hof, pre, U, V, A, R, lp, l, p, n', es1, es2, e, f, hT, q1, q2, q3, q4, q5, q6, q7, hT'⟩
  ·rcases hoc with ⟨hoc, _⟩ | ⟨hoc, _⟩ | ⟨hoc, hof, hod⟩
   ·exact ⟨ps, nx, es, T, Moved.same h, fun w hx => (ZaZ x P cap G ps ps nx nx (keysOf es) (tosOf es) mk mkey ml n hmk hmy o w hx hj hoc (hid (fun w2 h2 => Z1N h _ rfl HS ho (by omega) w2 h2))).mono fun e w' hp => hp.move⟩
   ·exact ⟨ps, nx, es, T, Moved.same h, fun w hx => (ZbE x P cap G ps ps nx nx (keysOf es) (tosOf es) mk mkey ml n hmk hmy o w hx hj hoc (hid (fun w2 h2 => Z1N h _ rfl HS ho (by omega) w2 h2))).mono fun e w' hp => hp.move⟩
   ·exact ⟨ps, nx, es, T, Moved.same h, fun w hx => (Z8W x P cap G ps ps nx nx (keysOf es) (tosOf es) mk mkey ml n hmk hmy o w hx hj hoc (by rw [hod, hof]; simp) (hid (fun w2 h2 => Z1N h _ rfl HS ho (by omega) w2 h2))).mono fun e w' hp => hp.move⟩
  ·have hevo : Bt.Evo nx 0 0 1 T T' := by rw [hT, hT']; exact .kill q3 q4 q5 q6 q7
   exact ⟨_, nx, es, T', ⟨hinv, hkp, 0, 0, 1, hevo, by omega, by omega⟩, fun w hx => (Z8W x P cap G ps _ nx nx (keysOf es) (tosOf es) mk mkey ml n hmk hmy o w hx hj hoc (by rw [hod, hof]; simp) (hid (fun w2 h2 => Z3i h _ rfl HS ho hcm hoc w2 h2))).mono fun e w' hp => hp.move⟩
 have hj : pick mk 14 = 13 := by omega
 have HS := Z83 h (keyOf mkey) hk hk2
 rcases h.unlink (op := Z5y (keyOf mkey)) rfl hk hk2 with ⟨o, ho, hoc, _⟩ | ⟨o, ws, T', ho, hcm, hinv, hkp, hoc, hod, hof, pre, A, R, l, k, n', m, hT, q1, q2, q3, q4, hT', q5⟩
 ·rcases hoc with ⟨hoc, hod⟩ | ⟨hoc, hof, hod⟩
  ·exact ⟨ps, nx, es, T, Moved.same h, fun w hx => (ZbD x P cap G ps ps nx nx (keysOf es) (tosOf es) mk mkey ml n hmk hmy o w hx hj hoc hod (hid (fun w2 h2 => Z1N h _ rfl HS ho (by omega) w2 h2))).mono fun e w' hp => hp.move⟩
  ·exact ⟨ps, nx, es, T, Moved.same h, fun w hx => (Zcf x P cap G ps ps nx nx (keysOf es) (tosOf es) mk mkey ml n hmk hmy o w hx hj hoc (by rw [hod, hof]; simp) hod (hid (fun w2 h2 => Z1N h _ rfl HS ho (by omega) w2 h2))).mono fun e w' hp => hp.move⟩
 ·have hevo : Bt.Evo nx 0 0 0 T T' := by rw [hT, hT']; exact .unlink q3 q4
  exact ⟨_, nx, es, T', ⟨hinv, hkp, 0, 0, 0, hevo, by omega, by omega⟩, fun w hx => Z8E x P cap G ps _ nx nx (keysOf es) (tosOf es) mk mkey ml n hmk hmy o w hx hj hG hoc hod hof (hid (fun w2 h2 => Z3i h _ rfl HS ho hcm hoc w2 h2))⟩
end
def pg0 : List Bt.Page := Z2e 160
theorem newOk (i : Nat) : (Z4N i).Ok := by constructor <;> (unfold Z4N; simp)
theorem Bt.Inv.start : Bt.Inv pg0 105 [] [] := by
 have hl : pg0.length = 160 := by show (Z2e 160).length = 160; simp [Z2e]
 have hg : ∀ i, i < 160 → pg0[i]? = some (Z4N i) := fun i hi => by
  show (Z2e 160)[i]? = some (Z4N i)
  simp [Z2e, hi]
 have hix : Bt.Ix pg0 := by
  refine ⟨hl, fun i h => ?_, fun p hp => ?_, fun p hp => ?_⟩
  ·have := hg i (by omega)
   rw [List.getElem?_eq_getElem h] at this
   rw [Option.some.inj this]
   rfl
  ·obtain ⟨i, _, rfl⟩ := List.mem_map.1 hp
   exact newOk i
  ·obtain ⟨i, _, rfl⟩ := List.mem_map.1 hp
   rfl
 have hpg : ∀ l, 96 ≤ l → l < 256 → ∃ i, Bt.pg pg0 l = Z4N i := fun l h1 h2 => by
  have h3 := (hix.at h1 h2).2.2.2
  have h4 := hg (l - 96).toNat (by omega)
  rw [h3] at h4
  exact ⟨_, Option.some.inj h4⟩
 refine ⟨hix, ?_, (fun c hc => by cases hc), (fun c hc => by cases hc), by omega, fun l h1 h2 => ?_, ?_, rfl⟩
 ·constructor <;> first | trivial | (simp [Bt.lines, Bt.flat]; done) | exact List.nodup_nil
 ·obtain ⟨i, hi⟩ := hpg l (by omega) h2
  rw [hi]
  exact ⟨rfl, rfl⟩
 ·obtain ⟨i, hi⟩ := hpg 96 (by omega) (by omega)
  rw [hi]
  rfl
theorem Bt.Cnt.start : Bt.Cnt [] 105 0 0 := ⟨trivial, rfl, fun h => absurd rfl h, fun _ => rfl⟩
theorem IxG.start {w0 : World} {x P cap : Nat} {w : World} (hx : Blk w x 58 #[.slice (some ⟨P, 0, none⟩) 160 cap, .int .i64 105, .slice none 0 0, .slice none 0 0, .slice none 0 0])
 (ho : w.ownsRow (w0.heap.size + 1) 25 9 (.slice (some ⟨P, 0, none⟩) 160 cap) 160 (Z0q (Z2e 160))) (hPx : P < x) (hgP : 0 < P) (hn : NoneAt w) : IxG x P cap 0 pg0 105 (keysOf []) (tosOf []) w := by
 have hl : (Z2e 160).length = 160 := by simp [Z2e]
 refine ⟨.slice none 0 0, .slice none 0 0, .slice none 0 0, ⟨hx, ⟨⟨?_, by rw [show pg0 = Z2e 160 from rfl, hl]; unfold maxLen; omega, .inr ⟨P, cap, rfl, (Z0X ho).2, fun i p hi j u hu => Z0i ho _ _ (Z40 _ i p hi j u hu)⟩⟩, fun i => ?_, (Z0X ho).2, ?_⟩, World.ownsRow_nil _ _ _ _, World.ownsRow_nil _ _ _ _, hn, hPx, hgP⟩, ⟨⟨[], World.ownsRow_nil _ _ _ _, Nat.le_refl _⟩, fun c hc => by cases hc⟩⟩
 ·intro p hp
  obtain ⟨i, _, rfl⟩ := List.mem_map.1 hp
  exact newOk i
 ·rcases ho.2 with ⟨h, _⟩ | ⟨g, c, cur, h, _, hg, _⟩
  ·simp at h
  ·simp only [Value.slice.injEq, Option.some.injEq, Addr.mk.injEq, and_true, true_and] at h
   obtain ⟨rfl, rfl⟩ := h
   exact frozen_of_row w P i cur _ hg
 ·rcases ho.2 with ⟨h, _⟩ | ⟨g, c, cur, h, _, hg, _⟩
  ·simp at h
  ·simp only [Value.slice.injEq, Option.some.injEq, Addr.mk.injEq, and_true, true_and] at h
   obtain ⟨rfl, rfl⟩ := h
   exact ⟨cur, hg⟩
structure Mv where
 kind : Int
 key : Int
 level : Int
 deriving Inhabited
def I64 (x : Int) : Prop := -9223372036854775808 ≤ x ∧ x ≤ 9223372036854775807
structure MvRow (w : World) (p : Option Addr) (ms : List Mv) : Prop where
 rng : ∀ m ∈ ms, I64 m.kind ∧ I64 m.key ∧ I64 m.level
 form : ms = [] ∨ ∃ b o, p = some ⟨b, o, none⟩ ∧ b < w.heap.size ∧ ∀ i m, ms[i]? = some m → w.cell? ⟨b, o + i * 3, none⟩ = some (.int .i64 m.kind) ∧ w.cell? ⟨b, o + i * 3 + 1, none⟩ = some (.int .i64 m.key) ∧ w.cell? ⟨b, o + i * 3 + 2, none⟩ = some (.int .i64 m.level)
structure IntsRow (w : World) (p : Option Addr) (asks : List Int) : Prop where
 rng : ∀ a ∈ asks, I64 a
 form : asks = [] ∨ ∃ b o, p = some ⟨b, o, none⟩ ∧ b < w.heap.size ∧ ∀ (i : Nat) (a : Int), asks[i]? = some a → w.cell? ⟨b, o + i, none⟩ = some (.int .i64 a)
structure PlayAt (x P cap k : Nat) (w0 wr : World) (ps : List Bt.Page) (nx : Int) (es : List Bt.Entry) (T : List (List Bt.Cell)) : Prop where
 inv : Bt.Inv ps nx es T
 cnt : ∃ ins K, ins ≤ k ∧ Bt.Cnt T nx ins K
 ix : IxG x P cap k ps nx (keysOf es) (tosOf es) wr
 below : Below w0.heap.size w0 wr
 low : w0.heap.size ≤ P
theorem PlayAt.over {x P cap k : Nat} {w0 wr wx : World} {ps : List Bt.Page} {nx : Int} {es : List Bt.Entry} {T : List (List Bt.Cell)} (h : PlayAt x P cap k w0 wr ps nx es T) (hb : Below wr.heap.size wr wx) : PlayAt x P cap k w0 wx ps nx es T :=
 ⟨h.inv, h.cnt, h.ix.over hb, ⟨hb.os.trans h.below.os, hb.tape.trans h.below.tape, hb.output.trans h.below.output, Nat.le_trans h.below.size hb.size, fun j hj => (hb.block j (Nat.lt_of_lt_of_le hj h.below.size)).trans (h.below.block j hj)⟩, h.low⟩
theorem PlayAt.moved {x P cap k : Nat} {w0 wr wx : World} {ps ps' : List Bt.Page} {nx nx' : Int} {es es' : List Bt.Entry} {T T' : List (List Bt.Cell)} (h : PlayAt x P cap k w0 wr ps nx es T) (hm : Moved ps nx T ps' nx' es' T') (hx : IxG x P cap (k + 1) ps' nx' (keysOf es') (tosOf es') wx) (hf : FrameP x P wr wx) : PlayAt x P cap (k + 1) w0 wx ps' nx' es' T' := by
 obtain ⟨ins, K, h1, h2⟩ := h.cnt
 obtain ⟨d, wv, kk, h3, h4, h5⟩ := hm.evo
 refine ⟨hm.inv, ⟨ins + wv, K + kk, by omega, ?_⟩, hx, hf.to_below h.below h.low, h.low⟩
 rw [h4]
 exact h3.cnt h2
theorem Moved.len {ps ps' : List Bt.Page} {nx nx' : Int} {es es' : List Bt.Entry} {T T' : List (List Bt.Cell)} (h : Bt.Inv ps nx es T) (hm : Moved ps nx T ps' nx' es' T') : ps'.length = ps.length := by rw [hm.inv.ix.len, h.ix.len]
structure SteadyIx (x M : Nat) (w1 wx : World) : Prop where
 rule : (∀ c o, c < M → wx.cell? ⟨c, o, none⟩ = w1.cell? ⟨c, o, none⟩) ∧ wx.cell? ⟨x, 0, none⟩ = w1.cell? ⟨x, 0, none⟩
theorem SteadyIx.of {x M : Nat} {w1 wx : World} (hx : x < w1.heap.size) (hM : M ≤ w1.heap.size) (h : Below w1.heap.size w1 wx) : SteadyIx x M w1 wx := ⟨fun c o hc => h.cell (p := ⟨c, o, none⟩) (Nat.lt_of_lt_of_le hc hM), h.cell (p := ⟨x, 0, none⟩) hx⟩
theorem SteadyIx.after {x P cap G G' M : Nat} {ps ps' : List Bt.Page} {nx nx' : Int} {keys keys' : List Int} {tos tos' : List Bt.Ptr} {w1 wx : World} (h : IxG x P cap G ps nx keys tos w1) (h2 : IxG x P cap G' ps' nx' keys' tos' wx) (hl : ps'.length = ps.length) (hf : FrameP x P w1 wx) (hM : M ≤ P) (hMs : M ≤ w1.heap.size) : SteadyIx x M w1 wx := by
 obtain ⟨vk, vt, vg, ho, _⟩ := h
 obtain ⟨vk2, vt2, vg2, ho2, _⟩ := h2
 have e1 : w1.cell? ⟨x, 0, none⟩ = some (.slice (some ⟨P, 0, none⟩) ps.length cap) := ho.blk.cell 0
 have e2 : wx.cell? ⟨x, 0, none⟩ = some (.slice (some ⟨P, 0, none⟩) ps'.length cap) := ho2.blk.cell 0
 refine ⟨fun c o hc => ?_, by rw [e1, e2, hl]⟩
 have := hf.low c (Nat.lt_of_lt_of_le hc hMs) (Nat.lt_of_lt_of_le hc hM)
 simp only [World.cell?, this]
def Zb7 (w : World) (e : Ending) (w' : World) : Prop :=
 ∃ x P cap, e = .returned (.pointer (some ⟨x, 0, none⟩)) ∧ w.heap.size ≤ P ∧ P < x ∧ Blk w' x 58 #[.slice (some ⟨P, 0, none⟩) 160 cap, .int .i64 105, .slice none 0 0, .slice none 0 0, .slice none 0 0] ∧
  w'.ownsRow (w.heap.size + 1) 25 9 (.slice (some ⟨P, 0, none⟩) 160 cap) 160 (Z0q (Z2e 160)) ∧ Below w.heap.size w w'
theorem Z6f (w : World) : Calls Tryz.prog 22 #[] w (Zb7 w) := by
 go_enter Tryz.func22, Tryz.ntmps22
 go_wp2_with fail
 go_at_call 47; refine (Zc7 _).mono ?_
 rintro e1 w1 ⟨v, rfl, hN⟩
 obtain ⟨P, cap, rfl⟩ := Z0D hN.own (by omega)
 have HN := hid hN
 have kb := hN.blk.cell 0
 have kb' : w1.cell? ⟨w.heap.size, 0, none⟩ = some (.slice (some ⟨P, 0, none⟩) 160 cap) := kb
 have hlt := Z0X hN.own
 clear kb hN
 go_wp2_with fail
 refine bodyPost_ret (results_tmp rfl _ _ _) rfl ⟨w1.heap.size, P, cap, rfl, by omega, by omega, Blk.made _ _ _, own_below HN.out.own (Z06 (Below.refl _ _) _), Z06 HN.out.below _⟩
def Z6E (op : Bt.Op) (s : List Bt.Page × Int) : List Bt.Page × Int :=
 if (Bt.next op s.1).out.code = 18 then (Bt.Z0J s.1 (Bt.next { op with fresh := [Bt.pg s.1 s.2] } s.1).writes, s.2 + 1) else (Bt.Z0J s.1 (Bt.next op s.1).writes, s.2)
theorem Z7L {op : Bt.Op} {ps ws : List Bt.Page} {nx nx' : Int} {o : Bt.Out} (h : Bt.Z6I op ps nx ws o nx') (hc : o.code = 0) : Z6E op (ps, nx) = (Bt.Z0J ps ws, nx') := by
 unfold Z6E
 rcases h with ⟨h, rfl⟩ | ⟨o1, h1, h2, _, _, h3, rfl⟩
 ·simp only [h]
  rw [if_neg (by omega)]
 ·simp only [h1, h3]
  rw [if_pos h2]
def exOp (k : Int) : Bt.Op := insOp k ⟨200, k⟩ []
def exPg : Nat → List Bt.Page × Int
 | 0 => (pg0, 105)
 | k + 1 => Z6E (exOp ((k : Int) + 1)) (exPg k)
def exUp : List Bt.Page × Int := Z6E Z2M (exPg 6)
def Z6b : Bt.Page := (Bt.latest exUp.1 105).getD Bt.Z0l
theorem Zcd : exUp.1[9]? = some Z6b ∧ Bt.Z19 Z6b = some Z6b.node ∧ Z6b.node.high = 3 ∧ Z6b.node.entries.length = 3 := ⟨by kernel_rfl, by kernel_rfl, by kernel_rfl, by kernel_rfl⟩
theorem Zce : (Bt.next Z2M (exPg 6).1).out.code = 18 := by kernel_rfl
def ExAt (x P cap k : Nat) (w0 wr : World) : Prop := ∃ es T, PlayAt x P cap k w0 wr (exPg k).1 (exPg k).2 es T ∧ ∀ e ∈ es, e.key ≤ k
theorem ExAt.step {x P cap k : Nat} {w0 wr : World} (hk : k < 6) (h : ExAt x P cap k w0 wr) (wx : World) (hb : Below wr.heap.size wr wx) :
 Calls Tryz.prog 46 #[.pointer (some ⟨x, 0, none⟩), .int .u32 ((k : Int) + 1), .agg #[.int .i64 200, .int .i64 ((k : Int) + 1)]] wx fun e w' => e = .returned (.bool true) ∧ ExAt x P cap (k + 1) w0 w' := by
 obtain ⟨es, T, hp, hes⟩ := h
 have hp2 := hp.over hb
 obtain ⟨ins, K, hi, hc⟩ := hp.cnt
 have hinv := hp.inv
 obtain ⟨hT4, hnx4⟩ := hc.bound hinv.tree (by omega)
 have hno : Bt.Z0T es ((k : Int) + 1) = false := by
  cases hh : Bt.Z0T es ((k : Int) + 1) with
  | false => rfl
  | true =>
    obtain ⟨a, e, b, h1, h2, _⟩ := Bt.Z69 hh
    have := hes e (by rw [h1]; simp)
    omega
 have hk1 : (1 : Int) ≤ (k : Int) + 1 := by omega
 have hk2 : (k : Int) + 1 ≤ Bt.Z0e := by unfold Bt.Z0e; omega
 have hto : Bt.Z0w ⟨200, (k : Int) + 1⟩ = true := by unfold Bt.Z0w Bt.Z3w; simp; omega
 obtain ⟨o, ⟨ws, nx', T', hR, _, hcm, hinv', hkp, hevo⟩, hoc, hod⟩ := hinv.insertNew (by omega) (op := exOp ((k : Int) + 1)) rfl rfl hk1 hk2 hto hno
 have he := Z7L hR hoc
 have he1 : (exPg (k + 1)).1 = Bt.Z0J (exPg k).1 ws := by show (Z6E _ ((exPg k).1, (exPg k).2)).1 = _; rw [he]
 have he2 : (exPg (k + 1)).2 = nx' := by show (Z6E _ ((exPg k).1, (exPg k).2)).2 = _; rw [he]
 have hlen := hinv.esLen
 have hlk : (keysOf es).length ≤ 1000 := by unfold keysOf; rw [List.length_map]; omega
 have hlt : (tosOf es).length = (keysOf es).length := by unfold keysOf tosOf; simp
 have hthere := Z4z es ((k : Int) + 1)
 rw [hno] at hthere
 have := Z68 x P cap k (exPg k).1 (Bt.Z0J (exPg k).1 ws) (exPg k).2 nx' (keysOf es) (tosOf es) ((k : Int) + 1) ⟨200, (k : Int) + 1⟩ o wx hp2.ix hthere hlk hlt hoc
  (hid (fun w2 h2 => Z5X hinv (exOp ((k : Int) + 1)) rfl hR hcm (.inl hoc) (Z5x hinv _ hk1 hk2 _ hto) w2 h2))
 rw [hod, Z2P] at this
 refine this.mono fun e w' hq => ⟨hq.1, ?_⟩
 obtain ⟨_, hix, ho⟩ := hq
 have e1 : Z1U (keysOf es) (Bt.child es ((k : Int) + 1)) ((k : Int) + 1) = keysOf (Bt.Z0h es (Bt.child es ((k : Int) + 1)) ⟨(k : Int) + 1, ⟨200, (k : Int) + 1⟩⟩) := Z45 (·.key) es _ ⟨(k : Int) + 1, ⟨200, (k : Int) + 1⟩⟩
 have e2 : Z1U (tosOf es) (Bt.child es ((k : Int) + 1)) ⟨200, (k : Int) + 1⟩ = tosOf (Bt.Z0h es (Bt.child es ((k : Int) + 1)) ⟨(k : Int) + 1, ⟨200, (k : Int) + 1⟩⟩) := Z45 (·.to) es _ ⟨(k : Int) + 1, ⟨200, (k : Int) + 1⟩⟩
 rw [e1, e2] at hix
 refine ⟨Bt.Z0h es (Bt.child es ((k : Int) + 1)) ⟨(k : Int) + 1, ⟨200, (k : Int) + 1⟩⟩, T', ⟨?_, ⟨ins + 1, K, by omega, ?_⟩, ?_, OverTwo.to_below hp2.below ho (by obtain ⟨_, _, _, hxo, _⟩ := hp2.ix; have := hxo.hPx; have := hp.low; omega) hp.low, hp.low⟩, ?_⟩
 ·rw [he1, he2]; exact hinv'
 ·rw [he2]
  have := hevo.cnt hc
  rw [show nx' = (exPg k).2 + (nx' - (exPg k).2) by omega]
  exact this
 ·rw [he1, he2]
  obtain ⟨vk, vt, vg, h1, h2⟩ := hix
  exact ⟨vk, vt, vg, h1, h2.mono (Nat.le_succ k)⟩
 ·intro e he
  obtain ⟨a, b, h1, h2, _⟩ := Bt.Z2Y es ((k : Int) + 1) ⟨(k : Int) + 1, ⟨200, (k : Int) + 1⟩⟩
  rw [h2] at he
  rcases List.mem_append.1 he with h3 | h3
  ·have := hes e (by rw [h1]; simp [h3]); omega
  ·rcases List.mem_cons.1 h3 with rfl | h3
   ·show (k : Int) + 1 ≤ _; omega
   ·have := hes e (by rw [h1]; simp [h3]); omega
theorem ExAt.up {x P cap : Nat} {w0 wr : World} (h : ExAt x P cap 6 w0 wr) :
 ∃ es o, o.done = true ∧ ∀ wx, Below wr.heap.size wr wx → Calls Tryz.prog 31 #[.pointer (some ⟨x, 0, none⟩), .agg (Z0d Z2M (.slice none 0 0))] wx (Z2x x P cap 6 exUp.1 exUp.2 (keysOf es) (tosOf es) o wx) := by
 obtain ⟨es, T, hp, _⟩ := h
 obtain ⟨ins, K, hi, hc⟩ := hp.cnt
 have hinv := hp.inv
 obtain ⟨hT4, hnx4⟩ := hc.bound hinv.tree (by omega)
 have hcode := Zce
 rcases hinv.raise (by omega) (by omega) (op := Z2M) rfl rfl with ⟨_, o, ho, hoc⟩ | ⟨_, _, _, o, ho, hoc, _⟩ | ⟨_, _, _, _, o, _, ⟨ws, nx', T', hR, _, hcm, hinv', hkp, hevo⟩, hoc, hod, hof⟩
 ·rw [ho] at hcode
  have hc2 : o.code = 18 := hcode
  omega
 ·rw [ho] at hcode
  have hc2 : o.code = 18 := hcode
  omega
 ·have he := Z7L hR hoc
  have he1 : exUp = (Bt.Z0J (exPg 6).1 ws, nx') := he
  refine ⟨es, o, hod, fun wx hb => ?_⟩
  rw [he1]
  exact Z5X hinv Z2M rfl hR hcm (.inl hoc) (Z6h hinv (by omega)) wx (hp.over hb).ix
def ZcP (x P cap : Nat) (w0 : World) (i : Value) (wr : World) : Prop := ∃ k : Nat, k ≤ 6 ∧ i = .int .u32 ((k : Int) + 1) ∧ Hid (ExAt x P cap k w0 wr)
theorem Z3F (w : World) (hn : NoneAt w) : Calls Tryz.prog 21 #[] w fun e w' => e = .returned (.bool true) ∧ Below w.heap.size w w' := by
 have HN := hid hn
 clear hn
 go_enter Tryz.func21, Tryz.ntmps21
 go_wp2_with fail
 go_at_call 22; refine (Z6f _).mono ?_
 rintro e0 w0 ⟨x, P, cap, rfl, hwP, hPx, hbx, hox, hb0⟩
 have hgP : 0 < P := by have := HN.out.lt; omega
 have HU0 : Hid (ExAt x P cap 0 w w0) := hid ⟨[], [], ⟨Bt.Inv.start, ⟨0, 0, Nat.le_refl _, Bt.Cnt.start⟩, IxG.start hbx hox hPx hgP (HN.out.below hb0), qL, by omega⟩, fun e he => by cases he⟩
 clear hbx hox hb0
 go_wp2_with fail
 go_loopw [2] (fun i wr => ZcP x P cap w i wr) (fun i _ => (8 - intOf i).toNat)
 case atStart => exact ⟨0, by omega, rfl, HU0⟩
 case round =>
  obtain ⟨k, hk, rfl, HQ⟩ := hrel
  clear HU0
  rename World => wr
  by_cases hk6 : k < 6
  ·have b1 : decide ((k : Int) + 1 ≤ 6) = true := by simp; omega
   have wk : IntKind.u32.wrap ((k : Int) + 1 + 1) = (k : Int) + 1 + 1 := by rw [IntKind.wrap_u32]; omega
   have wk2 : IntKind.i64.wrap ((k : Int) + 1) = (k : Int) + 1 := by rw [IntKind.wrap_i64]; omega
   go_wp2_with fail
   go_at_call 46; refine (HQ.out.step hk6 _ qL).mono ?_
   rintro e1 w1 ⟨rfl, hu1⟩
   have HU1 := hid hu1
   clear hu1
   go_wp2_with fail
   refine ⟨⟨k + 1, by omega, by rw [show ((k : Int) + 1 + 1) = (((k + 1 : Nat) : Int) + 1) by omega], HU1⟩, by simp [intOf]; omega⟩
  ·have b1 : decide ((k : Int) + 1 ≤ 6) = false := by simp; omega
   have hk : k = 6 := by omega
   subst hk
   obtain ⟨es, O, ud, hrun⟩ := HQ.out.up
   have HRUN := hid hrun
   clear hrun
   go_wp2_with fail
   go_at_call 31; refine (HRUN.out _ qL).mono ?_
   rintro e7 w7 ⟨ve, vc, rfl, hix7, ho7, hoe, hoc⟩
   obtain ⟨vk, vt, vg, hx7, _⟩ := hix7
   have hse := qSt hoe
   have hsc := qSt hoc
   obtain ⟨hl1, hl2, hl3, hl4⟩ := Zcd
   have hlen : exUp.1.length = 160 := by kernel_rfl
   have kx' : w7.cell? ⟨x, 0, none⟩ = some (.slice (some ⟨P, 0, none⟩) exUp.1.length cap) := hx7.blk.cell 0
   rw [hlen] at kx'
   have hlt9 : 9 < exUp.1.length := by omega
   obtain ⟨c0, c1, c2, c3, c4, c5, c6, c7, c8⟩ := nine (hx7.pg.row_at hlt9)
   have hlp : exUp.1[9] = Z6b := by rw [List.getElem?_eq_getElem hlt9] at hl1; exact Option.some.inj hl1
   obtain ⟨L, hL⟩ : ∃ L, L = Z6b := ⟨_, rfl⟩
   rw [hlp, ← hL] at c0 c1 c2 c3 c4 c5 c6 c7 c8
   rw [← hL] at hl2 hl3 hl4
   have HLO : Hid L.Ok := hid (by rw [hL, ← hlp]; exact hx7.pg.row.ok _ (List.getElem_mem hlt9))
   have HL2 := hid hl2
   have HL3 := hid hl3
   have HL4 := hid hl4
   have HX7 := hid hx7
   have HV7 : Hid (Below w.heap.size w w7) := hid (by
    obtain ⟨es2, T2, hp, _⟩ := HQ.out
    exact OverTwo.to_below hp.below (OverTwo.trans (OverTwo.of_below qL) ho7) (by obtain ⟨_, _, _, hxo, _⟩ := hp.ix; have := hxo.hPx; have := hp.low; omega) hp.low)
   have hxl : x < w7.heap.size := hx7.blk.lt
   have hPl : P < w7.heap.size := hx7.pg.lt
   clear hx7 ho7 hoe hoc hl1 hl2 hl3 hl4 hlp hL hlen hlt9 HRUN
   simp only [Z0n]
   go_wp2_with fail
   go_at_call 28; refine (Z36 L HLO.out _ ?hng).mono ?_
   case hng => exact HX7.out.none.below qL
   rintro e8 w8 (⟨hbad, _⟩ | ⟨v, _, rfl, hown, hb8⟩)
   ·exact absurd (hbad.symm.trans HL2.out) (by simp)
   ·obtain ⟨g, cp, rfl⟩ := Z0D hown (by rw [HL4.out]; decide)
    have hl3 := HL3.out
    have hl4 := HL4.out
    ((obtain ⟨hc8, hf8, hs8⟩ := qR hb8); (try have := qN0 w7 w8))
    have HB8 := hid hb8
    simp only [Z02]
    rw [hl4, hl3]
    clear hown hb8
    go_wp2_with fail
    have hb8 := HB8.out
    have hv7 := HV7.out
    go_ret
    exact ⟨rfl, qL⟩
open Go.ChangeShapes Go.WideShapes Go.ChangeAt Go.RowKit
theorem Z6R : ownKnob Tryz.prog.godebug = none := by kernel_rfl
theorem arr1 {args : Array Value} {a : Value} (h : args.toList = [a]) : args = #[a] := Array.toList_inj.1 h
theorem arr2 {args : Array Value} {a b : Value} (h : args.toList = [a, b]) : args = #[a, b] := Array.toList_inj.1 h
theorem arr4 {args : Array Value} {a b c d : Value} (h : args.toList = [a, b, c, d]) : args = #[a, b, c, d] := Array.toList_inj.1 h
section
variable {H : Type} {enc : TypeId × Value → H} {P : Program}
theorem Z3Z {f : Func} {s : ChangeSpec} {apart fresh handsOn again : Bool} {W W' : World} {args : Array Value} {v : Value} {ds gs : List (DataW H)} {before pa pv : List MemPlace}
 (hW : DataW.Whole enc P f.params.toList s.vars apart W args.toList ds gs before)
 (hres : ∀ (b : Nat) (sp : Nat → Bool) (hd : Bool), DataW.TrodAll enc P W' b sp hd f.resultTypes.toList (v.resultList f.resultTypes.size) (s.fn H (ds ++ gs)).results [])
 (hargs : ∀ sp : Nat → Bool, (∀ p ∈ before, sp p.block = true) → DataW.TrodAll enc P W' 0 sp true f.params.toList args.toList (s.fn H (ds ++ gs)).args pa)
 (hvars : ∀ sp : Nat → Bool, (∀ p ∈ before, sp p.block = true) → DataW.TrodVars enc P W' sp s.vars (s.fn H (ds ++ gs)).vars pv)
 (hps : before = pa ++ pv) (hb : Below W.heap.size W W')
 (hok : ∀ (j : Nat) (t : TypeId) (r : Value), f.resultTypes[j]? = some t → (v.resultList f.resultTypes.size)[j]? = some r → Value.okWide P W' .any 0 t r) :
 s.post enc P f apart fresh handsOn again W args v W' := by
 have hold : ∀ p ∈ before, (fun b => decide (b < W.heap.size)) p.block = true := fun p hp => by simpa using hW.lt p hp
 have hwhole := hW
 obtain ⟨_, _, _, _, _, hz, hn⟩ := hwhole
 refine ⟨ds, gs, before, [], pa, pv, hW, hres _ _ _, hargs _ hold, hvars _ hold, World.keptBut_mono (fun p hp => ⟨hp, Or.inr (by rw [hps, List.mem_append] at hp; exact hp)⟩) (hb.frame (· ∈ before)), fun _ => ?_⟩
 refine ⟨hok, _, _, ([] ++ pa) ++ pv, ⟨[] ++ pa, pv, trodAll_append (hargs _ (fun _ _ => rfl)) (hres _ _ _), hvars _ (fun _ _ => rfl), rfl, ?_, ?_⟩, fun p hp _ => by rw [hps]; simpa using hp⟩
 ·intro b off hp
  have hin : MemPlace.cell b off ∈ before := by rw [hps]; simpa using hp
  rw [hb.frozen (hW.lt _ hin)]
  exact hz b off hin
 ·intro ha
  have h := hn ha
  rw [hps] at h
  simpa using h
end
open Go.ChangeShapes Go.WideShapes Go.ChangeAt Go.RowKit
theorem cInt : Tryz.prog.cellsOf 3 = 1 := by kernel_rfl
section
variable {H : Type} {enc : TypeId × Value → H} {w : World} {base : Nat} {spare : Nat → Bool} {held : Bool}
set_option maxRecDepth 100000
end
open Go.ChangeShapes Go.WideShapes Go.ChangeAt Go.RowKit
set_option maxRecDepth 100000
theorem gNone : Tryz.prog.globalNamed "bodega/btree.none" = some 0 := by kernel_rfl
theorem ZaS : (Tryz.prog.globals[0]?).map (·.type) = some 27 := by kernel_rfl
theorem Z8r (W : World) (h : laidMetH Tryz.prog [("bodega/btree.none", Rows.laid_bodega_btree_none)] W) : NoneAt W := by
 have h' : laidMet Tryz.prog [("bodega/btree.none", Rows.laid_bodega_btree_none)] W := h
 obtain ⟨ps, ⟨g, t, cs, fuel, p, q, hg, ht, hvar, hd, _, _⟩, _⟩ := h'
 obtain rfl := Option.some.inj (gNone.symm.trans hg)
 obtain rfl := Option.some.inj (ZaS.symm.trans ht)
 obtain ⟨y0, y1, n, hx, hl, h0, h1⟩ := Go.ChangeShapes.trod_struct2 Tryz.underlying27 hd
 obtain ⟨a, e0, rfl, _⟩ := DataW.trod_int Tryz.underlying3 h0
 obtain ⟨b, e1, rfl, _⟩ := DataW.trod_int Tryz.underlying3 h1
 simp only [Rows.laid_bodega_btree_none, Prod.mk.injEq, DataW.agg.injEq, List.cons.injEq, DataW.lit.injEq, Lit.int.injEq, true_and, and_true] at hx
 obtain ⟨⟨rfl, rfl⟩, _⟩ := hx
 rw [cInt] at e0 e1
 have c0 : cs[0]? = some (.int .i64 0) := by
  have := congrArg (·[0]?) e0
  simpa [List.getElem?_take, List.getElem?_drop] using this
 have c1 : cs[1]? = some (.int .i64 0) := by
  have := congrArg (·[0]?) e1
  simpa [List.getElem?_take, List.getElem?_drop] using this
 have k0 : W.cell? ⟨0, 0, none⟩ = some (.int .i64 0) := (World.var?_cell hg hvar 0).trans c0
 have k1 : W.cell? ⟨0, 1, none⟩ = some (.int .i64 0) := (World.var?_cell hg hvar 1).trans c1
 exact ⟨k0, k1, World.block_lt_of_cell? _ _ k0⟩
theorem Zbv : laidOutB Tryz.prog = true := by kernel_rfl
open Go.ChangeShapes Go.WideShapes Go.ChangeAt Go.RowKit
theorem cMove : Tryz.prog.cellsOf 50 = 3 := by kernel_rfl
section
variable {H : Type} {enc : TypeId × Value → H} {w : World}
set_option maxRecDepth 100000
theorem Z5q {r : Reach} {b0 : Nat} {v : Value} {d : DataW H} {p : List MemPlace} (hv : Value.okWide Tryz.prog w r b0 44 v) (h : DataW.Trod enc Tryz.prog w 0 (fun _ => true) true 44 v d p) :
 ∃ pl ms cl, v = .slice pl (ms : List Mv).length cl ∧ MvRow w pl ms ∧ ms.length ≤ maxLen := by
 obtain ⟨a, len, cap, rfl⟩ := okWide_slice Tryz.underlying44 hv
 obtain ⟨fuel, hf⟩ := h
 rcases Go.Deep.open_slice Tryz.underlying44 hf with ⟨h0, _⟩ | ⟨a', len', cap', m, n, D, Pl, h0, hb, hl, hm, hmm, hx, hel⟩
 ·have h1 : (Value.slice a len cap) = .slice none 0 0 := by simpa [Value.cells] using h0
  simp only [Value.slice.injEq] at h1
  obtain ⟨rfl, rfl, rfl⟩ := h1
  exact ⟨none, [], 0, rfl, ⟨(fun m hm => by cases hm), .inl rfl⟩, by simp⟩
 ·have h1 : (Value.slice a len cap) = .slice (some a') len' cap' := by simpa [Value.cells] using h0
  simp only [Value.slice.injEq] at h1
  obtain ⟨rfl, rfl, rfl⟩ := h1
  have hlm : len ≤ m := by rw [hmm]; simp; exact hl
  have each : ∀ i, i < len → ∃ mv : Mv, (I64 mv.kind ∧ I64 mv.key ∧ I64 mv.level) ∧ w.cell? (a'.add (i * 3)) = some (.int .i64 mv.kind) ∧ w.cell? (a'.add (i * 3 + 1)) = some (.int .i64 mv.key) ∧ w.cell? (a'.add (i * 3 + 2)) = some (.int .i64 mv.level) := by
   intro i hi
   obtain ⟨cs', h1, h2⟩ := hel i (by omega)
   rw [cMove] at h1
   obtain ⟨_, hlen, hcell⟩ := World.cells?_some h1
   obtain ⟨y0, y1, y2, k, _, _, g0, g1, g2⟩ := Go.Deep.trod_struct3 Tryz.underlying50 h2
   match cs', hlen with
   | [v0, v1, v2], _ =>
     have e0 := hcell 0 (by omega)
     have e1 := hcell 1 (by omega)
     have e2 := hcell 2 (by omega)
     rw [Go.Deep.add_add] at e0 e1 e2
     obtain ⟨z0, f0, _, w0⟩ := DataW.trod_int Tryz.underlying3 g0
     obtain ⟨z1, f1, _, w1⟩ := DataW.trod_int Tryz.underlying3 g1
     obtain ⟨z2, f2, _, w2⟩ := DataW.trod_int Tryz.underlying3 g2
     have f0' : [v0] = [Value.int .i64 z0] := f0
     have f1' : [v1] = [Value.int .i64 z1] := f1
     have f2' : [v2] = [Value.int .i64 z2] := f2
     simp only [List.cons.injEq, and_true] at f0' f1' f2'
     subst f0' f1' f2'
     exact ⟨⟨z0, z1, z2⟩, ⟨bounds_i64 w0, bounds_i64 w1, bounds_i64 w2⟩, by simpa using e0, by simpa using e1, by simpa using e2⟩
  obtain ⟨f, hfm⟩ := Go.Deep.choose_lt each
  refine ⟨some a', (List.range len).map f, cap, by simp, ⟨fun mv hmv => ?_, ?_⟩, by simp; omega⟩
  ·obtain ⟨i, hi, rfl⟩ := List.mem_map.1 hmv
   exact (hfm i (List.mem_range.1 hi)).1
  ·by_cases hz : len = 0
   ·left; rw [hz]; rfl
   ·right
    obtain ⟨b, o, spot⟩ := a'
    have hspot : spot = none := by simpa [Addr.add] using World.cell?_spot (hfm 0 (by omega)).2.1
    subst hspot
    refine ⟨b, o, rfl, ?_, fun i mv hi => ?_⟩
    ·have := (hfm 0 (by omega)).2.1
     rw [Addr.add_lit] at this
     exact World.block_lt_of_cell? _ _ this
    ·have hil : i < len := by have := (List.getElem?_eq_some_iff.1 hi).1; simpa using this
     have he : f i = mv := by simpa [hil] using hi
     obtain ⟨_, q0, q1, q2⟩ := hfm i hil
     rw [he, Addr.add_lit] at q0 q1 q2
     exact ⟨q0, q1, q2⟩
theorem Zcz {r : Reach} {b0 : Nat} {v : Value} {d : DataW H} {p : List MemPlace} (hv : Value.okWide Tryz.prog w r b0 45 v) (h : DataW.Trod enc Tryz.prog w 0 (fun _ => true) true 45 v d p) :
 ∃ pl asks cl, v = .slice pl (asks : List Int).length cl ∧ IntsRow w pl asks ∧ asks.length ≤ maxLen := by
 obtain ⟨a, len, cap, rfl⟩ := okWide_slice Tryz.underlying45 hv
 obtain ⟨fuel, hf⟩ := h
 rcases open_ints Tryz.underlying45 Tryz.underlying3 cInt hf with ⟨h0, _⟩ | ⟨a', len', cap', zs, h0, hb, hl, hm, hzl, hx, hel, hwf⟩
 ·have h1 : (Value.slice a len cap) = .slice none 0 0 := by simpa [Value.cells] using h0
  simp only [Value.slice.injEq] at h1
  obtain ⟨rfl, rfl, rfl⟩ := h1
  exact ⟨none, [], 0, rfl, ⟨(fun m hm => by cases hm), .inl rfl⟩, by simp⟩
 ·have h1 : (Value.slice a len cap) = .slice (some a') len' cap' := by simpa [Value.cells] using h0
  simp only [Value.slice.injEq] at h1
  obtain ⟨rfl, rfl, rfl⟩ := h1
  have hlz : len ≤ zs.length := by rw [hzl]; simp; exact hl
  have hlen : (zs.take len).length = len := by rw [List.length_take]; exact Nat.min_eq_left hlz
  refine ⟨some a', zs.take len, cap, by rw [hlen], ⟨fun z hz => ?_, ?_⟩, by rw [hlen]; omega⟩
  ·exact bounds_i64 (hwf z (List.mem_of_mem_take hz))
  ·by_cases hz : len = 0
   ·left; rw [hz]; rfl
   ·right
    obtain ⟨b, o, spot⟩ := a'
    have hspot : spot = none := by simpa [Addr.add] using World.cell?_spot (hel 0 (by omega))
    subst hspot
    refine ⟨b, o, rfl, ?_, fun i z hi => ?_⟩
    ·have := hel 0 (by omega)
     rw [Addr.add_lit] at this
     exact World.block_lt_of_cell? _ _ this
    ·have hil : i < len := by have := (List.getElem?_eq_some_iff.1 hi).1; rw [hlen] at this; exact this
     rw [List.getElem?_take_of_lt hil] at hi
     have := hel i (by omega)
     rw [Addr.add_lit] at this
     rw [this]
     have e : zs.getD i 0 = z := by rw [List.getD_eq_getElem?_getD, hi]; rfl
     rw [e]
end
theorem Z4j {H : Type} {enc : TypeId × Value → H} {t : TypeId} (hr : Tryz.prog.readableRec t = true) (hrow : t < Tryz.prog.types.size) {W W' : World} {v : Value} {d : DataW H} {ps : List MemPlace} (h : DataW.Trod enc Tryz.prog W 0 (fun _ => true) true t v d ps)
 (hb : Below W.heap.size W W') (hlt : ∀ p ∈ ps, p.block < W.heap.size) {sp : Nat → Bool} (hs : ∀ p ∈ ps, sp p.block = true) : DataW.Trod enc Tryz.prog W' 0 sp true t v d ps :=
 WideElems.Trod_stays Zbv hr hrow h (fun x hx => hb.same (hlt x hx)) hs
end Go.Proofs.YtjmpekanlmepmaaGreatDoor

