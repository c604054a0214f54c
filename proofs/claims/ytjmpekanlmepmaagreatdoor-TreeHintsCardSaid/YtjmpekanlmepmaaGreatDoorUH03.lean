/- For every list of moves, every list of earlier moments and every list of numbers: lookups over old inner nodes are right; no condition beside what the card lists. -/
import Derived.Test.YtjmpekanlmepmaaGreatDoorBB46
import Derived.Test.YtjmpekanlmepmaaGreatDoorUH01
import Derived.Test.YtjmpekanlmepmaaGreatDoorUH02
import Derived.BigQuiet
set_option linter.all false
set_option maxRecDepth 20000
set_option maxHeartbeats 8000000
open Go.Lib (hid)
namespace Go.Proofs.YtjmpekanlmepmaaGreatDoor
open Go.RowKit
theorem Bt.Evo.ne {new d : Int} {w k : Nat} {T T' : List (List Bt.Cell)} (h : Bt.Evo new d w k T T') (hT : T ≠ []) : T' ≠ [] := by
 cases h <;> first | exact hT | simp
structure HintAt (x P cap M k : Nat) (w0 : World) (v8 v9 : Value) (wr : World) (ps : List Bt.Page) (nx : Int) (es : List Bt.Entry) (T : List (List Bt.Cell)) (U : List Bt.Cell) (V : Bt.Cell → Prop) (B : Int → Int → Prop) (Lo : Int → Int → Int → Prop) (qs : List (List Bt.Page)) : Prop where
 play : PlayAt x P cap k w0 wr ps nx es T
 hist : Bt.HistAt ps nx es T U V B Lo
 was : WasAt M qs v8 wr
 len : qs.length = k
 first : (v9 = .int .i64 (-1) ∧ T = []) ∨ ∃ f : Nat, v9 = .int .i64 f ∧ f < k ∧ T ≠ [] ∧ ∀ i q, f ≤ i → qs[i]? = some q → Bt.WasPages V Lo q
def HintLoop (x P cap M n : Nat) (w0 : World) (v8 v9 v10 : Value) (wr : World) : Prop :=
 ∃ k : Nat, k ≤ n ∧ v10 = .int .i64 k ∧ Hid (∃ ps nx es T U V B Lo qs, HintAt x P cap M k w0 v8 v9 wr ps nx es T U V B Lo qs)
theorem PagesAt.of_own {w : World} {base g cap n : Nat} {ps : List Bt.Page} (h : w.ownsRow base 25 9 (.slice (some ⟨g, 0, none⟩) n cap) n (Z0q ps)) (hn : ps.length = n) (hok : ∀ p ∈ ps, p.Ok) (hl : n ≤ maxLen) : PagesAt g cap ps w := by
 subst hn
 refine ⟨PgRow.of_own h hok hl, fun i => ?_, (Z0X h).2, ?_⟩
 ·rcases h.2 with ⟨h1, _⟩ | ⟨g1, c1, cur, h1, _, hg, _⟩
  ·simp at h1
  ·simp only [Value.slice.injEq, Option.some.injEq, Addr.mk.injEq, and_true, true_and] at h1
   obtain ⟨rfl, rfl⟩ := h1
   exact frozen_of_row w g i cur _ hg
 ·rcases h.2 with ⟨h1, _⟩ | ⟨g1, c1, cur, h1, _, hg, _⟩
  ·simp at h1
  ·simp only [Value.slice.injEq, Option.some.injEq, Addr.mk.injEq, and_true, true_and] at h1
   obtain ⟨rfl, rfl⟩ := h1
   exact ⟨cur, hg⟩
def KnownAt (z : World) (g c : Nat) (ps : List Bt.Page) (T : List (List Bt.Cell)) (V : Bt.Cell → Prop) (Lo : Int → Int → Int → Prop) (wx : World) : Prop :=
 ∃ kn, ((T = [] ∧ kn = ps) ∨ (T ≠ [] ∧ Bt.MixOf V Lo ps kn)) ∧ PagesAt g c kn wx ∧ Below z.heap.size z wx
def KnownCut (z : World) (g c : Nat) (ps : List Bt.Page) (T : List (List Bt.Cell)) (V : Bt.Cell → Prop) (Lo : Int → Int → Int → Prop) (_ _ _ _ _ _ _ : Value) (wx : World) : Prop := Hid (KnownAt z g c ps T V Lo wx)
def KnownHere (z : World) (g c : Nat) (ps : List Bt.Page) (T : List (List Bt.Cell)) (V : Bt.Cell → Prop) (Lo : Int → Int → Int → Prop) (wx : World) : Prop := Hid (KnownAt z g c ps T V Lo wx)
def KnownOuter (z : World) (g c n : Nat) (ps : List Bt.Page) (T : List (List Bt.Cell)) (V : Bt.Cell → Prop) (Lo : Int → Int → Int → Prop) (i : Value) (wx : World) : Prop := ∃ j : Nat, j ≤ n ∧ i = .int .i64 j ∧ Hid (KnownAt z g c ps T V Lo wx)
def HintKey (W : World) (v : Value) (wx : World) : Prop := ∃ key, v = .int .u32 key ∧ 1 ≤ key ∧ key ≤ Bt.Z0e ∧ wx = W
theorem PagesAt.below {P cap : Nat} {pages : List Bt.Page} {w w' : World} (h : PagesAt P cap pages w) (hb : Below w.heap.size w w') : PagesAt P cap pages w' := h.same (hb.block P h.lt) hb.size
theorem KnownAt.below {z : World} {g c : Nat} {ps : List Bt.Page} {T : List (List Bt.Cell)} {V : Bt.Cell → Prop} {Lo : Int → Int → Int → Prop} {wx wy : World} (h : KnownAt z g c ps T V Lo wx) (hb : Below wx.heap.size wx wy) : KnownAt z g c ps T V Lo wy := by
 obtain ⟨kn, h1, h2, h3⟩ := h
 exact ⟨kn, h1, h2.below hb, qL⟩
def HintAsk (z : World) (n : Nat) (i : Value) (wx : World) : Prop := ∃ j : Nat, j ≤ n ∧ i = .int .i64 j ∧ Hid (Below z.heap.size z wx)
def lay9 (w : World) (P a : Nat) (p : Bt.Page) : World := (((((((((w.setCell ⟨P, a * 9, none⟩ (.int .i64 p.line)).setCell ⟨P, a * 9 + 1, none⟩ (.int .u64 p.head)).setCell ⟨P, a * 9 + 2, none⟩ (.int .u64 p.d0)).setCell ⟨P, a * 9 + 3, none⟩ (.int .u64 p.d1)).setCell ⟨P, a * 9 + 4, none⟩ (.int .u64 p.d2)).setCell ⟨P, a * 9 + 5, none⟩ (.int .u64 p.d3)).setCell ⟨P, a * 9 + 6, none⟩ (.int .u64 p.d4)).setCell ⟨P, a * 9 + 7, none⟩ (.int .u64 p.d5)).setCell ⟨P, a * 9 + 8, none⟩ (.int .u64 p.d6))
theorem PagesAt.lay9 {P cap a : Nat} {pages : List Bt.Page} {w : World} (h : PagesAt P cap pages w) (ha : a < pages.length) (p : Bt.Page) (hp : p.Ok) : PagesAt P cap (pages.set a p) (lay9 w P a p) := h.lay ha p hp
theorem below_lay9 {P a n : Nat} {w0 w : World} (p : Bt.Page) (h : Below n w0 w) (hP : n ≤ P) : Below n w0 (lay9 w P a p) := below_lay p h hP
theorem ReadNode_two (p : Bt.Page) (hp : p.Ok) (w : World) (hg : NoneAt w) : Calls Tryz.prog 28 #[.agg p.cells] w fun e w' =>
 ∃ (c : Int) (n : Bt.Node) (v : Value), e = .returned (.tuple #[.agg (Z02 n v), .int .i64 c]) ∧ v.oneCell' = true ∧ ((c = 14 ∧ Bt.Z19 p = none) ∨ (c = 0 ∧ Bt.Z19 p = some n)) ∧ Below w.heap.size w w' := by
 refine (Z36 p hp w hg).mono ?_
 rintro e w' (⟨h1, rfl, h3⟩ | ⟨v, h1, rfl, h3, h4⟩)
 ·exact ⟨14, Bt.Z1o, _, rfl, rfl, .inl ⟨rfl, h1⟩, h3⟩
 ·exact ⟨0, p.node, v, rfl, Z0Q h3, .inr ⟨rfl, h1⟩, h4⟩
theorem hints_walk (pl po pa : Option Addr) (cl co ca : Nat) (ms : List Mv) (olds asks : List Int) (w : World) (hn : NoneAt w) (hl : MvRow w pl ms) (ho : IntsRow w po olds) (ha : IntsRow w pa asks) (hlong : ms.length ≤ 9223372036854775807) (olong : olds.length ≤ 9223372036854775807) (alen : asks.length ≤ 9223372036854775807) :
 Calls Tryz.prog 6 #[.slice pl ms.length cl, .slice po olds.length co, .slice pa asks.length ca] w fun e w' => e = .returned (.bool true) ∧ Below w.heap.size w w' := by
 have HN := hid hn
 have HL := hid hl
 have HO := hid ho
 have HA := hid ha
 clear hn hl ho ha
 by_cases h60 : 60 < ms.length
 ·have b1 : decide ((60 : Int) < (ms.length : Int)) = true := by simp; omega
  have b2 : decide (60 < ms.length) = true := by simp; omega
  clear h60 hlong olong alen
  go_enter Tryz.func6, Tryz.ntmps6
  go_wp2_with fail
  go_at_call 21; refine (Z3F _ HN.out).mono ?_
  rintro e1 w1 ⟨rfl, hb1⟩
  go_wp2_with fail
  exact bodyPost_ret (results_tmp rfl _ _ _) rfl ⟨rfl, qL⟩
 have b1 : decide ((60 : Int) < (ms.length : Int)) = false := by simp; omega
 have b2 : decide (60 < ms.length) = false := by simp; omega
 by_cases h20 : 20 < olds.length
 ·have c1 : decide ((20 : Int) < (olds.length : Int)) = true := by simp; omega
  have c2 : decide (20 < olds.length) = true := by simp; omega
  clear h60 h20 hlong olong alen
  go_enter Tryz.func6, Tryz.ntmps6
  go_wp2_with fail
  go_at_call 21; refine (Z3F _ HN.out).mono ?_
  rintro e1 w1 ⟨rfl, hb1⟩
  go_wp2_with fail
  exact bodyPost_ret (results_tmp rfl _ _ _) rfl ⟨rfl, qL⟩
 have c1 : decide ((20 : Int) < (olds.length : Int)) = false := by simp; omega
 have c2 : decide (20 < olds.length) = false := by simp; omega
 by_cases h10 : 10 < asks.length
 ·have d1 : decide ((10 : Int) < (asks.length : Int)) = true := by simp; omega
  have d2 : decide (10 < asks.length) = true := by simp; omega
  clear h60 h20 h10 hlong olong alen
  go_enter Tryz.func6, Tryz.ntmps6
  go_wp2_with fail
  go_at_call 21; refine (Z3F _ HN.out).mono ?_
  rintro e1 w1 ⟨rfl, hb1⟩
  go_wp2_with fail
  exact bodyPost_ret (results_tmp rfl _ _ _) rfl ⟨rfl, qL⟩
 have d1 : decide ((10 : Int) < (asks.length : Int)) = false := by simp; omega
 have d2 : decide (10 < asks.length) = false := by simp; omega
 have hm60 : ms.length ≤ 60 := by omega
 have ho20 : olds.length ≤ 20 := by omega
 have ha10 : asks.length ≤ 10 := by omega
 clear h60 h20 h10 hlong olong alen
 obtain ⟨i0, hi, hz0, hz1, hz2⟩ := info_parts Z8U
 obtain ⟨i1, hi1, hz10, hz11, hz12⟩ := info_parts infoPages
 go_enter Tryz.func6, Tryz.ntmps6
 go_wp2_with fail
 go_at_call 21; refine (Z3F _ HN.out).mono ?_
 rintro e1 w1 ⟨rfl, hb1⟩
 have HB1 := hid hb1
 go_wp2_with fail
 go_at_call 22; refine (Z6f _).mono ?_
 rintro e0 w0 ⟨x, P, cap, rfl, hwP, hPx, hbx, hox, hb0⟩
 have hz1' := Below.size hb1
 have hgl := HN.out.lt
 have hlow := (Z0X hox).1
 have HP0 : Hid (∃ ps nx es T U V B Lo qs, HintAt x P cap (x + 1) 0 w (.slice none 0 0) (.int .i64 (-1)) w0 ps nx es T U V B Lo qs) := hid ⟨pg0, 105, [], [], [], _, _, _, [],
  ⟨Bt.Inv.start, ⟨0, 0, Nat.le_refl _, Bt.Cnt.start⟩, IxG.start hbx hox hPx (by omega) ((HN.out.below hb1).below hb0), qL, by omega⟩,
  ⟨Bt.Inv.start, Bt.Hist.start, (fun c hc => by cases hc)⟩, WasAt.nil _ _, rfl, .inl ⟨rfl, rfl⟩⟩
 have HPX := hid hPx
 clear hbx hox hb0 hb1 hz1' hgl hlow
 go_wp2_with fail
 go_loopw [8, 9, 10] (fun v8 v9 i wr => HintLoop x P cap (x + 1) ms.length w v8 v9 i wr) (fun _ _ i _ => ((ms.length : Int) - intOf i).toNat)
 case atStart => exact ⟨0, Nat.zero_le _, rfl, HP0⟩
 case round =>
  obtain ⟨k, hk, rfl, HQ⟩ := hrel
  rename World => wr
  clear HP0
  by_cases hk2 : k < ms.length
  ·obtain ⟨ps, nx, es, T, U, V, B, Lo, qs, hh⟩ := HQ.out
   have hs := hh.play
   obtain ⟨pw, cw, rfl⟩ : ∃ pw cw, u8 = .slice pw k cw := by
    obtain ⟨vs, h1, _⟩ := hh.was
    obtain ⟨pw, cw, h2⟩ := Z2q h1
    exact ⟨pw, cw, by rw [h2, hh.len]⟩
   obtain ⟨ins, K, hi1', hi2⟩ := hs.cnt
   obtain ⟨m, hm⟩ : ∃ m, ms[k]? = some m := ⟨_, List.getElem?_eq_getElem hk2⟩
   obtain ⟨r1, r2, r3⟩ := HL.out.rng m (List.mem_of_getElem? hm)
   obtain ⟨ps', nx', es', T', hmv, hdo⟩ := Zcl hs.inv hi2 (by omega) (x := x) (P := P) (cap := cap) (G := k) (by omega) m.kind m.key m.level (k : Int) r1 r2 r3 ⟨by omega, by omega⟩
   have hform : ∃ b o, pl = some ⟨b, o, none⟩ ∧ b < w.heap.size ∧ ∀ i m, ms[i]? = some m → w.cell? ⟨b, o + i * 3, none⟩ = some (.int .i64 m.kind) ∧ w.cell? ⟨b, o + i * 3 + 1, none⟩ = some (.int .i64 m.key) ∧ w.cell? ⟨b, o + i * 3 + 2, none⟩ = some (.int .i64 m.level) := by
    rcases HL.out.form with h0 | h0
    ·rw [h0] at hk2; simp at hk2
    ·exact h0
   obtain ⟨bl, ol, rfl, hbl, hcl⟩ := hform
   obtain ⟨q0, q1, q2⟩ := hcl k m hm
   have c0 : wr.cell? ⟨bl, ol + k * 3, none⟩ = some (.int .i64 m.kind) := (hs.below.cell (p := ⟨bl, ol + k * 3, none⟩) hbl).trans q0
   have c1 : wr.cell? ⟨bl, ol + k * 3 + 1, none⟩ = some (.int .i64 m.key) := (hs.below.cell (p := ⟨bl, ol + k * 3 + 1, none⟩) hbl).trans q1
   have c2 : wr.cell? ⟨bl, ol + k * 3 + 2, none⟩ = some (.int .i64 m.level) := (hs.below.cell (p := ⟨bl, ol + k * 3 + 2, none⟩) hbl).trans q2
   obtain ⟨d, wv, kk, hev, hnx, _⟩ := hmv.evo
   obtain ⟨U', V', B', Lo', hh', hV, hLo⟩ := hh.hist.moved hmv.inv hmv.kept hev hnx
   have HHH := hid hh
   have HH' := hid hh'
   have HV := hid hV
   have HLO := hid hLo
   have HEV := hid hev.ne
   have HDO := hid hdo
   have HS := hid hs
   have HMV := hid hmv
   have hps160 : ps'.length = 160 := hmv.inv.ix.len
   have HPL := hid hps160
   have hMs : w.heap.size ≤ wr.heap.size := hs.below.size
   have hMP : w.heap.size ≤ P := hs.low
   have kx0 : wr.cell? ⟨x, 0, none⟩ = some (.slice (some ⟨P, 0, none⟩) ps.length cap) := by obtain ⟨_, _, _, ho, _⟩ := hs.ix; exact ho.blk.cell 0
   have hxw : x < wr.heap.size := by obtain ⟨_, _, _, ho, _⟩ := hs.ix; exact ho.blk.lt
   have bk : decide ((k : Int) < ms.length) = true := by simp; omega
   have bk0 : (0 : Int) ≤ k := by omega
   have bk1 : (k : Int) < ms.length := by omega
   have wk1 : IntKind.i64.wrap ((k : Int) + 1) = (k : Int) + 1 := by rw [IntKind.wrap_i64]; omega
   clear hs hdo hmv hcl q0 q1 q2 hm hi1' hi2 r1 r2 r3 hh hh' hV hLo hev hps160 hnx
   go_wp2_with fail
   go_at_call 23; refine (HDO.out _ (HS.out.ix.over qL)).mono ?_
   rintro e2 w2 ⟨rfl, hix2, hf2⟩
   have HF2 := hid ((FrameP.of_below (show Below wr.heap.size wr _ from qL)).trans hf2)
   have HPLAY2 : Hid (PlayAt x P cap (k + 1) w w2 ps' nx' es' T') := hid (HS.out.moved HMV.out hix2 HF2.out)
   have HWAS2 : Hid (WasAt (x + 1) qs (.slice pw k cw) w2) := hid (HHH.out.was.frame HF2.out (by omega) (by have := HPX.out; omega))
   have hx2 : x < w2.heap.size := by obtain ⟨_, _, _, ho, _⟩ := hix2; exact ho.blk.lt
   have kx2 : w2.cell? ⟨x, 0, none⟩ = some (.slice (some ⟨P, 0, none⟩) 160 cap) := by
    obtain ⟨_, _, _, ho, _⟩ := hix2
    have := ho.blk.cell 0
    rw [HPL.out] at this
    exact this
   have HPG2 : Hid (PgRow w2 (.slice (some ⟨P, 0, none⟩) 160 cap) ps') := hid (by
    obtain ⟨_, _, _, ho, _⟩ := hix2
    have := ho.pg.row
    rw [HPL.out] at this
    exact this)
   have hsrc0 : ∀ w', Below w2.heap.size w2 w' → SrcAt w' (.slice (some ⟨P, 0, none⟩) 160 cap) 160 (Z0q ps') := fun w' hb => by
    have := src_pages (HPG2.out.below hb)
    rw [HPL.out] at this
    exact this
   clear hix2 hf2 kx0 hxw c0 c1 c2
   go_wp2_with (at_builtin; refine halt ?_)
   refine Z4g ?_
   refine wpList_plain rfl fun K hK => ?_
   refine Z0m (.tmp 62) (.tmp 66) 54 rfl w2.heap.size 25 i0 _ 9 72 Tryz.underlying54 hi hz0 hz1 hz2 rfl (by decide) (.slice (some ⟨w2.heap.size, 0, none⟩) 0 0) 0 [] rfl (Z2i rfl (Nat.le_refl _)) (.slice (some ⟨P, 0, none⟩) 160 cap) 160 (Z0q ps') rfl (hsrc0 _ qL) (by rw [pageCells_len, HPL.out]) (by unfold maxLen; omega) (by omega) (by simp) ?_
   intro v3 w3 hown3 hg3
   refine hK _ _ ?_
   clear hK K
   rw [Nat.zero_add, List.nil_append] at hown3
   obtain ⟨g3, c3, rfl⟩ := Z0D hown3 (by omega)
   have hb3 : Below w2.heap.size w2 w3 := below_grown (show Below w2.heap.size w2 _ from qL) hg3 (fun j hj => by simp [Value.ownBlock] at hj; omega)
   have HO3 := hid (own_base hown3 (show x + 1 ≤ w2.heap.size by omega))
   have HB3 := hid hb3
   have hs3 := hb3.size
   clear hown3 hg3 hb3
   obtain ⟨vs, hvs, hvs2⟩ := HWAS2.out
   have hql : qs.length = k := HHH.out.len
   have HQL := hid hql
   rw [hql] at hvs
   have HVS := hid hvs
   clear hvs hvs2 hql
   go_wp2_with (at_builtin; refine halt ?_)
   refine Z4g ?_
   refine wpList_plain rfl fun K hK => ?_
   refine Z0m (.tmp 61) (.tmp 68) 71 rfl (x + 1) 54 i1 _ 1 24 Tryz.underlying71 hi1 hz10 hz11 hz12 rfl (by decide) (.slice pw k cw) k vs rfl (own_below HVS.out (by have hb3 := HB3.out; exact qL)) (.slice (some ⟨w3.heap.size, 0, none⟩) 1 1) 1 [.slice (some ⟨g3, 0, none⟩) 160 c3] rfl (.inr ⟨⟨w3.heap.size, 0, none⟩, 1, rfl, ?hnews, ?hone⟩) rfl (by unfold maxLen; omega) (by omega) (by simp; omega) ?_
   case hnews =>
    intro j u hu
    have hB := Blk.made w3 54 #[.slice (some ⟨g3, 0, none⟩) 160 c3]
    cases j with
    | zero =>
      have hu' : Value.slice (some ⟨g3, 0, none⟩) 160 c3 = u := by simpa using hu
      rw [← hu']
      rw [Addr.add_lit]
      exact hB.cell 0
    | succ j => simp at hu
   case hone => intro u hu; simp at hu; subst hu; rfl
   intro v4 w4 hown4 hg4
   refine hK _ _ ?_
   clear hK K
   have hbq2 : Below w2.heap.size w2 (w3.alloc (.cells #[.slice (some ⟨g3, 0, none⟩) 160 c3] 54)) := by have hb3 := HB3.out; exact qL
   have hasd : Aside x (w3.alloc (.cells #[.slice (some ⟨g3, 0, none⟩) 160 c3] 54)) (Value.slice pw k cw).ownBlock := Aside.of_own (base := x + 1) (own_below HVS.out hbq2) (by omega)
   have HPLAY4 : Hid (PlayAt x P cap (k + 1) w w4 ps' nx' es' T') := hid ((HPLAY2.out.over hbq2).beside hg4 hasd)
   have HWAS4 : Hid (WasAt (x + 1) (qs ++ [ps']) v4 w4) := hid (by
    refine (HWAS2.out.below hbq2).push HPL.out HMV.out.inv.ix.ok (own_below HO3.out qL) hg4 (vs := vs) ?_ ?_
    ·rw [HQL.out]; exact own_below HVS.out (by have hb3 := HB3.out; exact qL)
    ·rw [HQL.out]; exact hown4)
   obtain ⟨pw4, cw4, rfl⟩ := Z2q hown4
   have hx4 : x < w4.heap.size := by have := hg4.size; simp at this; omega
   clear hown4 hg4 hasd kx2 hx2 hbq2
   have kx4 : w4.cell? ⟨x, 0, none⟩ = some (.slice (some ⟨P, 0, none⟩) 160 cap) := by
    obtain ⟨_, _, _, ho, _⟩ := HPLAY4.out.ix
    have := ho.blk.cell 0
    rw [HPL.out] at this
    exact this
   have hP4 : P < w4.heap.size := by obtain ⟨_, _, _, ho, _⟩ := HPLAY4.out.ix; exact ho.pg.lt
   have HNO4 : Hid (NoneAt w4) := hid (by obtain ⟨_, _, _, ho, _⟩ := HPLAY4.out.ix; exact ho.none)
   obtain ⟨R, hR0⟩ : ∃ R, R = Bt.pg ps' 96 := ⟨_, rfl⟩
   have hR : RootAt P T' R w4 := by rw [hR0]; exact HPLAY4.out.root
   obtain ⟨p0, p1, p2, p3, p4, p5, p6, p7, p8⟩ := hR.nine
   have HR := hid hR
   have ne := Z0U
   clear hR hR0
   by_cases hT' : T' = []
   ·have hT0 : T = [] := by
      by_cases h9 : T = []
      ·exact h9
      ·exact absurd hT' (HEV.out h9)
    have hu9 : u9 = .int .i64 (-1) := by
     rcases HHH.out.first with ⟨h9, _⟩ | ⟨f, _, _, h9, _⟩
     ·exact h9
     ·exact absurd hT0 h9
    subst hu9
    have hrp : Bt.Z1i T' = Bt.nilP := by rw [hT']; rfl
    have pp : peq 0 0 0 0 = true := rfl
    have HT' := hid hT'
    clear hT' hT0
    go_wp2_with fail
    go_at_call 15; refine (Z35 R HR.out.ok HR.out.line _ ?hng).mono ?_
    case hng => exact HNO4.out.below qL
    rintro e6 w6 ⟨he6, hb6⟩
    rw [HR.out.reads, hrp] at he6
    obtain rfl := he6
    simp only [Bt.nilP, Bt.Ptr.cells]
    have HB6 := hid hb6
    clear hb6 hrp
    go_wp2_with fail
    refine ⟨⟨k + 1, by omega, by rw [show ((k : Int) + 1) = ((k + 1 : Nat) : Int) by omega], hid ⟨ps', nx', es', T', U', V', B', Lo', qs ++ [ps'], ⟨HPLAY4.out.over (by have hb6 := HB6.out; exact qL), HH'.out, HWAS4.out.below (by have hb6 := HB6.out; exact qL), by rw [List.length_append, HQL.out]; rfl, .inl ⟨rfl, HT'.out⟩⟩⟩⟩, by simp [intOf]; omega⟩
   ·have hwas : Bt.WasPages V' Lo' ps' := HH'.out.was hT'
    have HWP := hid hwas
    obtain ⟨l0, n0, rr, tt, hTT⟩ : ∃ l0 n0 rr tt, T' = ((l0, n0) :: rr) :: tt := by
     cases T' with
     | nil => exact absurd rfl hT'
     | cons up tt =>
       cases up with
       | nil => exact absurd rfl HH'.out.inv.tree.levels.1.ne
       | cons c rr => exact ⟨c.1, c.2, rr, tt, rfl⟩
    have hrp : Bt.Z1i T' = Bt.ptr l0 := by rw [hTT]; rfl
    have hl0 := (HH'.out.inv.sees (l0, n0) (by rw [hTT]; simp [Bt.flat])).lo
    have pp : peq l0 1 0 0 = false := by
     have h1 : (104 : Int) ≤ l0 := hl0
     unfold peq
     exact decide_eq_false (by omega)
    have HT' := hid hT'
    clear hT' hTT hl0 hwas
    have hold : ∀ f : Nat, u9 = .int .i64 f → f < k ∧ ∀ i q, f ≤ i → (qs ++ [ps'])[i]? = some q → Bt.WasPages V' Lo' q := fun f hf => by
     rcases HHH.out.first with ⟨h9, _⟩ | ⟨f', h9, h10, _, h11⟩
     ·rw [h9] at hf
      simp only [Value.int.injEq, true_and] at hf
      omega
     ·rw [h9] at hf
      simp only [Value.int.injEq, true_and] at hf
      obtain rfl : f' = f := by omega
      refine ⟨h10, fun i q hi hq => ?_⟩
      by_cases hik : i < qs.length
      ·rw [List.getElem?_append_left hik] at hq
       exact (h11 i q hi hq).mono HV.out HLO.out
      ·rw [List.getElem?_append_right (by omega)] at hq
       have hi0 : i - qs.length = 0 := by have := (List.getElem?_eq_some_iff.1 hq).1; simp at this; omega
       rw [hi0] at hq
       obtain rfl : ps' = q := by simpa using hq
       exact HWP.out
    have HOLD := hid hold
    clear hold
    by_cases hu9 : u9 = .int .i64 (-1)
    ·subst hu9
     go_wp2_with fail
     go_at_call 15; refine (Z35 R HR.out.ok HR.out.line _ ?hng).mono ?_
     case hng => exact HNO4.out.below qL
     rintro e6 w6 ⟨he6, hb6⟩
     rw [HR.out.reads, hrp] at he6
     obtain rfl := he6
     simp only [Bt.ptr, Bt.Ptr.cells]
     have HB6 := hid hb6
     clear hb6 hrp
     go_wp2_with fail
     refine ⟨⟨k + 1, by omega, by rw [show ((k : Int) + 1) = ((k + 1 : Nat) : Int) by omega], hid ⟨ps', nx', es', T', U', V', B', Lo', qs ++ [ps'], ⟨HPLAY4.out.over (by have hb6 := HB6.out; exact qL), HH'.out, HWAS4.out.below (by have hb6 := HB6.out; exact qL), by rw [List.length_append, HQL.out]; rfl, .inr ⟨k, rfl, by omega, HT'.out, fun i q hi hq => ?_⟩⟩⟩⟩, by simp [intOf]; omega⟩
     have hik : i = qs.length := by have := (List.getElem?_eq_some_iff.1 hq).1; have h9 := HQL.out; simp at this; omega
     subst hik
     rw [List.getElem?_append_right (Nat.le_refl _), Nat.sub_self] at hq
     obtain rfl : ps' = q := by simpa using hq
     exact HWP.out
    ·obtain ⟨f, hf⟩ : ∃ f : Nat, u9 = .int .i64 f := by
       rcases HHH.out.first with ⟨h9, _⟩ | ⟨f', h9, _⟩
       ·exact absurd h9 hu9
       ·exact ⟨f', h9⟩
     subst hf
     obtain ⟨hfk, hfw⟩ := HOLD.out f rfl
     have HFW := hid hfw
     have bf : decide ((f : Int) < 0) = false := decide_eq_false (by omega)
     clear hu9 hfw
     go_wp2_with fail
     go_at_call 15; refine (Z35 R HR.out.ok HR.out.line _ ?hng).mono ?_
     case hng => exact HNO4.out.below qL
     rintro e6 w6 ⟨he6, hb6⟩
     rw [HR.out.reads, hrp] at he6
     obtain rfl := he6
     simp only [Bt.ptr, Bt.Ptr.cells]
     have HB6 := hid hb6
     clear hb6 hrp
     go_wp2_with fail
     exact ⟨⟨k + 1, by omega, by rw [show ((k : Int) + 1) = ((k + 1 : Nat) : Int) by omega], hid ⟨ps', nx', es', T', U', V', B', Lo', qs ++ [ps'], ⟨HPLAY4.out.over (by have hb6 := HB6.out; exact qL), HH'.out, HWAS4.out.below (by have hb6 := HB6.out; exact qL), by rw [List.length_append, HQL.out]; rfl, .inr ⟨f, rfl, by omega, HT'.out, HFW.out⟩⟩⟩⟩, by simp [intOf]; omega⟩
  ·have bk : decide ((k : Int) < ms.length) = false := by simp; omega
   have hkl : k = ms.length := by omega
   obtain ⟨ps, nx, es, T, U, V, B, Lo, qs, hh⟩ := HQ.out
   obtain ⟨pw, cw, rfl⟩ : ∃ pw cw, u8 = .slice pw k cw := by
    obtain ⟨vs, h1, _⟩ := hh.was
    obtain ⟨pw, cw, h2⟩ := Z2q h1
    exact ⟨pw, cw, by rw [h2, hh.len]⟩
   rw [← hkl] at hm60
   have HPLAY : Hid (PlayAt x P cap k w wr ps nx es T) := hid hh.play
   have HHIST := hid hh.hist
   have HWAS := hid hh.was
   have HQL := hid hh.len
   have HFIRST := hid hh.first
   have HPS := hid hh.play.inv.ix.len
   have HBW := hid hh.play.below
   have hx2 : x < wr.heap.size := by obtain ⟨_, _, _, ho, _⟩ := hh.play.ix; exact ho.blk.lt
   have hPr : P < wr.heap.size := by obtain ⟨_, _, _, ho, _⟩ := hh.play.ix; exact ho.pg.lt
   have kx2 : wr.cell? ⟨x, 0, none⟩ = some (.slice (some ⟨P, 0, none⟩) 160 cap) := by
    obtain ⟨_, _, _, ho, _⟩ := hh.play.ix
    have := ho.blk.cell 0
    rw [HPS.out] at this
    exact this
   have HPG2 : Hid (PgRow wr (.slice (some ⟨P, 0, none⟩) 160 cap) ps) := hid (by
    obtain ⟨_, _, _, ho, _⟩ := hh.play.ix
    have := ho.pg.row
    rw [HPS.out] at this
    exact this)
   have hsrc0 : ∀ w', Below wr.heap.size wr w' → SrcAt w' (.slice (some ⟨P, 0, none⟩) 160 cap) 160 (Z0q ps) := fun w' hb => by
    have := src_pages (HPG2.out.below hb)
    rw [HPS.out] at this
    exact this
   clear hh HQ hkl
   go_wp2_with (at_builtin; refine halt ?_)
   refine Z4g ?_
   refine wpList_plain rfl fun K hK => ?_
   refine Z0m (.tmp 93) (.tmp 97) 54 rfl wr.heap.size 25 i0 _ 9 72 Tryz.underlying54 hi hz0 hz1 hz2 rfl (by decide) (.slice (some ⟨wr.heap.size, 0, none⟩) 0 0) 0 [] rfl (Z2i rfl (Nat.le_refl _)) (.slice (some ⟨P, 0, none⟩) 160 cap) 160 (Z0q ps) rfl (hsrc0 _ qL) (by rw [pageCells_len, HPS.out]) (by unfold maxLen; omega) (by omega) (by simp) ?_
   intro v3 w3 hown3 hg3
   refine hK _ _ ?_
   clear hK K
   rw [Nat.zero_add, List.nil_append] at hown3
   obtain ⟨g3, c3, rfl⟩ := Z0D hown3 (by omega)
   have hb3 : Below wr.heap.size wr w3 := below_grown (show Below wr.heap.size wr _ from qL) hg3 (fun j hj => by simp [Value.ownBlock] at hj; omega)
   have hg3r := (Z0X hown3).1
   have HK3 : Hid (KnownAt wr g3 c3 ps T V Lo w3) := hid ⟨ps, by
    by_cases h9 : T = []
    ·exact .inl ⟨h9, rfl⟩
    ·exact .inr ⟨h9, .refl HHIST.out.inv.ix⟩, PagesAt.of_own hown3 HPS.out HHIST.out.inv.ix.ok (by unfold maxLen; omega), hb3⟩
   clear hown3 hg3 hb3 hsrc0 kx2
   go_upto_block 2 with (fail)
   go_cut [15, 16, 17, 18, 19, 20, 21] from 99 to 191 (KnownCut wr g3 c3 ps T V Lo)
   case first =>
    go_wp2_with fail
    go_loopw [15] (fun i wx => KnownOuter wr g3 c3 olds.length ps T V Lo i wx) (fun i _ => ((olds.length : Int) - intOf i).toNat)
    case atStart => exact ⟨0, Nat.zero_le _, rfl, HK3⟩
    case round =>
     obtain ⟨j, hj, rfl, HKJ⟩ := hrel
     rename World => wj
     clear HK3
     by_cases hj2 : j < olds.length
     ·have bj : decide ((j : Int) < olds.length) = true := by simp; omega
      have bj0 : (0 : Int) ≤ j := by omega
      have bj1 : (j : Int) < olds.length := by omega
      have wj1 : IntKind.i64.wrap ((j : Int) + 1) = (j : Int) + 1 := by rw [IntKind.wrap_i64]; omega
      by_cases hT : T = []
      ·have hu9 : u9 = .int .i64 (-1) := by
         rcases HFIRST.out with ⟨h9, _⟩ | ⟨f, _, _, h9, _⟩
         ·exact h9
         ·exact absurd hT h9
       subst hu9
       go_wp2_with fail
       go_meet
       exact HKJ
      ·obtain ⟨f, hf, hfk, hfw⟩ : ∃ f : Nat, u9 = .int .i64 f ∧ f < k ∧ ∀ i q, f ≤ i → qs[i]? = some q → Bt.WasPages V Lo q := by
         rcases HFIRST.out with ⟨_, h9⟩ | ⟨f, h9, h10, _, h11⟩
         ·exact absurd h9 hT
         ·exact ⟨f, h9, h10, h11⟩
       subst hf
       have HFW := hid hfw
       have HT := hid hT
       clear hfw hT
       have bf : decide ((0 : Int) ≤ (f : Int)) = true := decide_eq_true (by omega)
       obtain ⟨o1, ho1⟩ : ∃ o1, olds[j]? = some o1 := ⟨_, List.getElem?_eq_getElem hj2⟩
       have ho1r := HO.out.rng o1 (List.mem_of_getElem? ho1)
       have hformo : ∃ b o, po = some ⟨b, o, none⟩ ∧ b < w.heap.size ∧ ∀ (i : Nat) (a : Int), olds[i]? = some a → w.cell? ⟨b, o + i, none⟩ = some (.int .i64 a) := by
        rcases HO.out.form with h0 | h0
        ·rw [h0] at hj2; simp at hj2
        ·exact h0
       obtain ⟨bo, oo, rfl, hbo, hco⟩ := hformo
       have hbj : Below wr.heap.size wr wj := by obtain ⟨kn, _, _, h⟩ := HKJ.out; exact h
       have HBJ := hid hbj
       have hwr := HBW.out.size
       have co0 : wj.cell? ⟨bo, oo + j, none⟩ = some (.int .i64 o1) := (hbj.cell (p := ⟨bo, oo + j, none⟩) (show bo < wr.heap.size by omega)).trans ((HBW.out.cell (p := ⟨bo, oo + j, none⟩) hbo).trans (hco j o1 ho1))
       -- the moment
       have hwn : IntKind.i64.wrap ((k : Int) - (f : Int)) = (k : Int) - f := by rw [IntKind.wrap_i64]; omega
       have hp1 := Int.emod_nonneg o1 (show (k : Int) - f ≠ 0 by omega)
       have hp2 := Int.emod_lt_of_pos o1 (show (0 : Int) < (k : Int) - f by omega)
       obtain ⟨kq, hkq⟩ : ∃ kq : Nat, (f : Int) + pick o1 ((k : Int) - f) = kq := ⟨((f : Int) + pick o1 ((k : Int) - f)).toNat, by unfold pick; omega⟩
       have hkq1 : f ≤ kq := by unfold pick at hkq; omega
       have hkq2 : kq < k := by unfold pick at hkq; omega
       have hwp : IntKind.i64.wrap ((f : Int) + pick o1 ((k : Int) - f)) = (kq : Int) := by rw [hkq, IntKind.wrap_i64]; omega
       obtain ⟨q, hq⟩ : ∃ q, qs[kq]? = some q := ⟨_, List.getElem?_eq_getElem (by rw [HQL.out]; exact hkq2)⟩
       have HWQ := hid (HFW.out kq q hkq1 hq)
       obtain ⟨vs, hvs, hvs2⟩ := HWAS.out
       obtain ⟨hq160, hqok, gq, cq, hvq, hoq⟩ := hvs2 kq q hq
       rw [HQL.out] at hvs
       obtain ⟨gw, cw2, hgw⟩ := Z0D hvs (by omega)
       simp only [Value.slice.injEq, true_and] at hgw
       obtain ⟨rfl, rfl⟩ := hgw
       have hgwl := (Z0X hvs).2
       have hgql := (Z0X hoq).2
       have cw0 : wr.cell? ⟨gw, kq, none⟩ = some (.slice (some ⟨gq, 0, none⟩) 160 cq) := Z0i hvs kq _ hvq
       have HOQ := hid hoq
       have HQOK := hid hqok
       have HQ160 := hid hq160
       have bq0 : (0 : Int) ≤ kq := by omega
       have bq1 : (kq : Int) < k := by omega
       have cwj : wj.cell? ⟨gw, kq, none⟩ = some (.slice (some ⟨gq, 0, none⟩) 160 cq) := (hbj.cell (p := ⟨gw, kq, none⟩) hgwl).trans cw0
       have hbol : bo < wj.heap.size := by have := hbj.size; omega
       have hgwj : gw < wj.heap.size := by have := hbj.size; omega
       have hgqj : gq < wj.heap.size := by have := hbj.size; omega
       clear hvs hvs2 hoq hvq hqok hq160 hbj hp1 hp2 hq ho1 hco hkq
       go_wp2_with fail
       go_at_call 13; refine (Z1B o1 ((k : Int) - (f : Int)) ho1r (by omega) _).mono ?_; rintro e0 w0 ⟨rfl, hw0⟩; obtain rfl := hw0
       go_upto_if 121 with (fail)
       go_cut [] from 122 to 129 (KnownHere wr g3 c3 ps T V Lo)
       case first =>
        by_cases hj0 : j = 0
        ·subst hj0
         obtain ⟨z, hz⟩ : ∃ z, q[0]? = some z := ⟨_, List.getElem?_eq_getElem (by rw [HQ160.out]; omega)⟩
         have hcz : wj.rangeAt gq (0 * 9) z.cells.toList := fun i u hu => by
          have h1 := Z0i HOQ.out _ _ (Z40 q 0 z hz i u (by simpa using hu))
          exact (HBJ.out.cell (p := ⟨gq, 0 * 9 + i, none⟩) hgql).trans h1
         obtain ⟨z0, z1, z2, z3, z4, z5, z6, z7, z8⟩ := nine hcz
         simp only [Nat.zero_mul, Nat.zero_add] at z0 z1 z2 z3 z4 z5 z6 z7 z8
         obtain ⟨kn, hkn, hpa, hbk⟩ := HKJ.out
         have hm : Bt.MixOf V Lo ps kn := by
          rcases hkn with ⟨h9, _⟩ | ⟨_, h9⟩
          ·exact absurd h9 HT.out
          ·exact h9
         have hkl : kn.length = 160 := hm.ix.len
         have hr := hpa.row_at (k := 0) (by omega)
         obtain ⟨y0, y1, y2, y3, y4, y5, y6, y7, y8⟩ := nine (b := g3) (k := 0) (p := kn[0]) hr
         simp only [Nat.zero_mul, Nat.zero_add] at y0 y1 y2 y3 y4 y5 y6 y7 y8
         have fK := hpa.free
         have lK := hpa.lt
         have HPA := hid hpa
         have HM := hid hm
         have HBK := hid hbk
         have HZ := hid hz
         clear hkn hpa hm hbk hz hcz hr
         go_wp2_with fail
         go_meet
         refine hid ⟨kn.set 0 z, .inr ⟨HT.out, ?_⟩, PagesAt.lay (a := 0) HPA.out (by omega) z (HQOK.out z (List.mem_of_getElem? HZ.out)), below_lay (a := 0) z HBK.out hg3r⟩
         have h1 := HM.out.put HWQ.out (l := 96) (by omega) (by omega) (.inl rfl)
         have h2 := (HWQ.out.ix.at (l := 96) (by omega) (by omega)).2.2.2
         have h3 : ((96 : Int) - 96).toNat = 0 := rfl
         rw [h3] at h1 h2
         rw [HZ.out] at h2
         rw [Option.some.inj h2]
         exact h1
        ·have bj3 : ((j : Int) == 0) = false := by rw [beq_eq_false_iff_ne]; omega
         go_wp2_with fail
         go_meet
         exact HKJ
       case rest =>
        rename World => wi
        have HKI : Hid (KnownAt wr g3 c3 ps T V Lo wi) := hcut
        clear HKJ hcut HBJ co0 cwj hbol hgwj hgqj
        have hne : ¬ olds = [] := fun e => by rw [e] at hj2; simp at hj2
        go_wp2_with fail
        go_loopw [17] (fun i wx => KnownOuter wr g3 c3 160 ps T V Lo i wx) (fun i _ => (160 - intOf i).toNat)
        case atStart => exact ⟨0, Nat.zero_le _, rfl, HKI⟩
        case round =>
         obtain ⟨m, hm, rfl, HKM⟩ := hrel
         rename World => wm
         clear HKI
         by_cases hm2 : m < 160
         ·have bm : decide ((m : Int) < 160) = true := decide_eq_true (by omega)
          have bm2 : decide (m < 160) = true := decide_eq_true hm2
          have bm0 : (0 : Int) ≤ m := by omega
          have bm1 : (m : Int) < 160 := by omega
          have wm1 : IntKind.i64.wrap ((m : Int) + 1) = (m : Int) + 1 := by rw [IntKind.wrap_i64]; omega
          obtain ⟨kn, hkn, hpa, hbm⟩ := HKM.out
          have hmx : Bt.MixOf V Lo ps kn := by
           rcases hkn with ⟨h9, _⟩ | ⟨_, h9⟩
           ·exact absurd h9 HT.out
           ·exact h9
          have hkl : kn.length = 160 := hmx.ix.len
          have hsz := hbm.size
          have hxm : x < wm.heap.size := by omega
          have hPm : P < wm.heap.size := by omega
          have hgwm : gw < wm.heap.size := by omega
          have hgqm : gq < wm.heap.size := by omega
          have hgkm := hpa.lt
          have hmps : m < ps.length := by rw [HPS.out]; exact hm2
          obtain ⟨z1, hz1⟩ : ∃ z1, ps[m] = z1 := ⟨_, rfl⟩
          have hrp : wm.rangeAt P (m * 9) z1.cells.toList := fun i u hu => by
           rw [← hz1] at hu
           obtain ⟨_, _, _, ho, _⟩ := HPLAY.out.ix
           exact (hbm.cell (p := ⟨P, m * 9 + i, none⟩) hPr).trans (ho.pg.row_at hmps i u hu)
          obtain ⟨r0, r1, r2, r3, r4, r5, r6, r7, r8⟩ := nine hrp
          obtain ⟨z2, hz2⟩ : ∃ z, q[m]? = some z := ⟨_, List.getElem?_eq_getElem (by rw [HQ160.out]; exact hm2)⟩
          have hrq : wm.rangeAt gq (m * 9) z2.cells.toList := fun i u hu => by
           have h1 := Z0i HOQ.out _ _ (Z40 q m z2 hz2 i u (by simpa using hu))
           exact (hbm.cell (p := ⟨gq, m * 9 + i, none⟩) hgql).trans h1
          obtain ⟨s0, s1, s2, s3, s4, s5, s6, s7, s8⟩ := nine hrq
          obtain ⟨y0, y1, y2, y3, y4, y5, y6, y7, y8⟩ := nine (hpa.row_at (k := m) (by omega))
          have fK := hpa.free
          have kxm : wm.cell? ⟨x, 0, none⟩ = some (.slice (some ⟨P, 0, none⟩) 160 cap) := by
           obtain ⟨_, _, _, ho, _⟩ := HPLAY.out.ix
           have h1 := ho.blk.cell 0
           rw [HPS.out] at h1
           exact (hbm.cell (p := ⟨x, 0, none⟩) hx2).trans h1
          have cwm : wm.cell? ⟨gw, kq, none⟩ = some (.slice (some ⟨gq, 0, none⟩) 160 cq) := (hbm.cell (p := ⟨gw, kq, none⟩) hgwl).trans cw0
          obtain ⟨r, hr⟩ : ∃ r, r = m % olds.length := ⟨_, rfl⟩
          have hr2 : r < olds.length := by rw [hr]; exact Nat.mod_lt _ (by omega)
          have hrem : (m : Int).tmod (olds.length : Int) = (r : Int) := by rw [hr, Int.tmod_eq_emod_of_nonneg (by omega)]; exact (Int.natCast_emod _ _).symm
          have hwr : IntKind.i64.wrap (r : Int) = (r : Int) := by rw [IntKind.wrap_i64]; omega
          have HZ1 : Hid (z1.Ok ∧ z1 = Bt.pg ps (96 + (m : Int))) := hid (by
           have h1 := (HHIST.out.inv.ix.at (l := 96 + (m : Int)) (by omega) (by omega)).2.2
           rw [show (96 + (m : Int) - 96).toNat = m by omega, List.getElem?_eq_getElem hmps, hz1] at h1
           have h2 := Option.some.inj h1.2
           exact ⟨by rw [h2]; exact HHIST.out.inv.ix.ok _ h1.1, h2⟩)
          have HZ2 : Hid (z2.Ok ∧ z2 = Bt.pg q (96 + (m : Int))) := hid (by
           have h1 := (HWQ.out.ix.at (l := 96 + (m : Int)) (by omega) (by omega)).2.2
           rw [show (96 + (m : Int) - 96).toNat = m by omega, hz2] at h1
           exact ⟨HQOK.out z2 (List.mem_of_getElem? hz2), Option.some.inj h1.2⟩)
          have HPA := hid hpa
          have HM := hid hmx
          have HBM := hid hbm
          have HNM : Hid (NoneAt wm) := hid (by
           obtain ⟨_, _, _, ho, _⟩ := HPLAY.out.ix
           exact ho.none.below hbm)
          clear hkn hpa hbm hmx hz2 hrq hrp hr hz1 hmps hsz
          go_wp2_with fail
          go_at_call 28; refine (ReadNode_two z1 HZ1.out.1 _ ?hng1).mono ?_
          case hng1 => exact HNM.out.below qL
          rintro e1 wa ⟨cA, nA, vA, rfl, hvA, hcA, hbA⟩
          have hsA : ∀ (a : Addr) (md : Mode) (wx : World), (store a vA md).run Tryz.prog wx = stored Tryz.prog wx a vA md := fun a md wx => run_store Tryz.prog wx a vA md hvA
          simp only [Z02]
          ((obtain ⟨hc11, hf11, hs11⟩ := qR hbA); (try have := qN0 wm wa))
          have HBA := hid hbA
          have HCA := hid hcA
          have hxa : x < wa.heap.size := by omega
          have hPa : P < wa.heap.size := by omega
          have hgwa : gw < wa.heap.size := by omega
          have hgqa : gq < wa.heap.size := by omega
          have hgka : g3 < wa.heap.size := by omega
          clear hbA hcA
          go_wp2_with fail
          go_at_call 28; refine (ReadNode_two z2 HZ2.out.1 _ ?hng2).mono ?_
          case hng2 => exact HNM.out.below (by have hbA := HBA.out; exact qL)
          rintro e2 wb ⟨cB, nB, vB, rfl, hvB, hcB, hbB⟩
          have hsB : ∀ (a : Addr) (md : Mode) (wx : World), (store a vB md).run Tryz.prog wx = stored Tryz.prog wx a vB md := fun a md wx => run_store Tryz.prog wx a vB md hvB
          simp only [Z02]
          ((obtain ⟨hc12, hf12, hs12⟩ := qR hbB); (try have := qN0 wm wb); (try have := qN0 wa wb); (try have := qN1 wa wb))
          have HBB := hid hbB
          have HCB := hid hcB
          have hxb : x < wb.heap.size := by omega
          have hPb : P < wb.heap.size := by omega
          have hgwb : gw < wb.heap.size := by omega
          have hgqb : gq < wb.heap.size := by omega
          have hgkb : g3 < wb.heap.size := by omega
          clear hbB hcB
          go_upto_region 27 with (fail)
          by_cases w1' : r = j
          ·have bw1 : ((r : Int) == (j : Int)) = true := by rw [beq_iff_eq]; omega
           have bw1' : (r == j) = true := by rw [beq_iff_eq]; exact w1'
           clear w1'
           rcases HCA.out with ⟨rfl, hA⟩ | ⟨rfl, hA⟩
           ·go_wp2_with fail
            exact ⟨⟨m + 1, by omega, by rw [show ((m : Int) + 1) = ((m + 1 : Nat) : Int) by omega], hid (HKM.out.below (by have hbA := HBA.out; have hbB := HBB.out; exact qL))⟩, by simp [intOf]; omega⟩
           ·by_cases w2' : 0 < nA.level
            ·have bw2 : decide ((0 : Int) < nA.level) = true := decide_eq_true w2'
             have HA1 := hid hA
             have HW2 := hid w2'
             clear w2' hA
             rcases HCB.out with ⟨rfl, hB⟩ | ⟨rfl, hB⟩
             ·go_wp2_with fail
              exact ⟨⟨m + 1, by omega, by rw [show ((m : Int) + 1) = ((m + 1 : Nat) : Int) by omega], hid (HKM.out.below (by have hbA := HBA.out; have hbB := HBB.out; exact qL))⟩, by simp [intOf]; omega⟩
             ·by_cases w3' : 0 < nB.level
              ·have bw3 : decide ((0 : Int) < nB.level) = true := decide_eq_true w3'
               have HBN := hid hB
               have HW3 := hid w3'
               clear w3' hB
               have hlay : KnownAt wr g3 c3 ps T V Lo (World.alloc (lay9 wb g3 m z2) (.cells #[.int .i64 nB.level, .bool nB.leftmost, .bool nB.dead, .int .u32 nB.high, .int .i64 nB.right.line, .int .i64 nB.right.gen, vB] 73)) := by
                have hbA := HBA.out
                have hbB := HBB.out
                have hbm := HBM.out
                have hb2 : Below wm.heap.size wm wb := qL
                have hb3 : Below wr.heap.size wr wb := qL
                have h1 := HM.out.put HWQ.out (l := 96 + (m : Int)) (by omega) (by omega) (.inr ⟨nA, nB, by rw [← HZ1.out.2]; exact HA1.out, HW2.out, by rw [← HZ2.out.2]; exact HBN.out, HW3.out⟩)
                rw [show (96 + (m : Int) - 96).toNat = m by omega, ← HZ2.out.2] at h1
                have h2 : KnownAt wr g3 c3 ps T V Lo (lay9 wb g3 m z2) := ⟨kn.set m z2, .inr ⟨HT.out, h1⟩, PagesAt.lay9 (HPA.out.below hb2) (by omega) z2 HZ2.out.1, below_lay9 z2 hb3 hg3r⟩
                exact h2.below (Z06 (Below.refl _ _) _)
               have HLAY := hid hlay
               clear hlay
               go_wp2_with fail
               unfold lay9 at HLAY
               exact ⟨⟨m + 1, by omega, by rw [show ((m : Int) + 1) = ((m + 1 : Nat) : Int) by omega], HLAY⟩, by simp [intOf]; omega⟩
              ·have bw3 : decide ((0 : Int) < nB.level) = false := decide_eq_false w3'
               clear w3' hB
               go_wp2_with fail
               exact ⟨⟨m + 1, by omega, by rw [show ((m : Int) + 1) = ((m + 1 : Nat) : Int) by omega], hid (HKM.out.below (by have hbA := HBA.out; have hbB := HBB.out; exact qL))⟩, by simp [intOf]; omega⟩
            ·have bw2 : decide ((0 : Int) < nA.level) = false := decide_eq_false w2'
             clear w2' hA
             go_wp2_with fail
             exact ⟨⟨m + 1, by omega, by rw [show ((m : Int) + 1) = ((m + 1 : Nat) : Int) by omega], hid (HKM.out.below (by have hbA := HBA.out; have hbB := HBB.out; exact qL))⟩, by simp [intOf]; omega⟩
          ·have bw1 : ((r : Int) == (j : Int)) = false := by rw [beq_eq_false_iff_ne]; omega
           have bw1' : (r == j) = false := by rw [beq_eq_false_iff_ne]; exact w1'
           clear w1'
           go_wp2_with fail
           exact ⟨⟨m + 1, by omega, by rw [show ((m : Int) + 1) = ((m + 1 : Nat) : Int) by omega], hid (HKM.out.below (by have hbA := HBA.out; have hbB := HBB.out; exact qL))⟩, by simp [intOf]; omega⟩
         ·have bm : decide ((m : Int) < 160) = false := decide_eq_false (by omega)
          have bm2 : decide (m < 160) = false := decide_eq_false hm2
          go_wp2_with fail
          exact ⟨⟨j + 1, by omega, by rw [show ((j : Int) + 1) = ((j + 1 : Nat) : Int) by omega], HKM⟩, by simp [intOf]; omega⟩
     ·have bj : decide ((j : Int) < olds.length) = false := by simp; omega
      go_wp2_with fail
      go_meet
      exact HKJ
   case rest =>
    rename World => wy
    have HKN : Hid (KnownAt wr g3 c3 ps T V Lo wy) := hcut
    clear HK3 hcut
    have HANS : Hid (∃ kn, PagesAt g3 c3 kn wy ∧ kn.length = 160 ∧ ∀ k', 1 ≤ k' → k' ≤ Bt.Z0e → Answers kn k' es) := hid (by
     obtain ⟨kn, hkn, hpa, _⟩ := HKN.out
     rcases hkn with ⟨h9, rfl⟩ | ⟨h9, hmx⟩
     ·exact ⟨kn, hpa, HPS.out, fun k' h1 h2 => answers_now HHIST.out.inv h1 h2⟩
     ·exact ⟨kn, hpa, hmx.ix.len, fun k' h1 h2 => answers_old HHIST.out h9 hmx h1 h2⟩)
    have HBY : Hid (Below wr.heap.size wr wy) := hid (by obtain ⟨kn, _, _, h⟩ := HKN.out; exact h)
    obtain ⟨kn, hpa, hkl, hans⟩ := HANS.out
    have HPA := hid hpa
    have HANS2 := hid hans
    have HKL := hid hkl
    clear HKN HANS hpa hans hkl HFIRST HWAS hk2 bk
    have wal : IntKind.i64.wrap ((asks.length : Int) + 40) = (asks.length : Int) + 40 := by rw [IntKind.wrap_i64]; omega
    go_wp2_with fail
    go_loopw [22] (fun i wx => HintAsk wy (asks.length + 40) i wx) (fun i _ => ((asks.length : Int) + 40 - intOf i).toNat)
    case atStart => exact ⟨0, Nat.zero_le _, rfl, hid (Below.refl _ _)⟩
    case round =>
     obtain ⟨j, hj, rfl, HBJ⟩ := hrel
     rename World => wj
     by_cases hj2 : j < asks.length + 40
     ·have bj : decide ((j : Int) < (asks.length : Int) + 40) = true := decide_eq_true (by omega)
      have wj1 : IntKind.i64.wrap ((j : Int) + 1) = (j : Int) + 1 := by rw [IntKind.wrap_i64]; omega
      have wj2 : IntKind.u32.wrap ((j : Int) + 1) = (j : Int) + 1 := by rw [IntKind.wrap_u32]; omega
      go_upto_if 203 with (fail)
      go_cut [23] from 204 to 209 (HintKey wj)
      case first =>
       by_cases hj3 : j < 40
       ·have bj3 : decide ((40 : Int) ≤ (j : Int)) = false := decide_eq_false (by omega)
        go_wp2_with fail
        go_meet
        exact ⟨(j : Int) + 1, rfl, by omega, by unfold Bt.Z0e; omega, rfl⟩
       ·have bj3 : decide ((40 : Int) ≤ (j : Int)) = true := decide_eq_true (by omega)
        obtain ⟨r, rfl⟩ : ∃ r, j = r + 40 := ⟨j - 40, by omega⟩
        have hra : r < asks.length := by omega
        have wr1 : IntKind.i64.wrap (((r + 40 : Nat) : Int) - 40) = (r : Int) := by rw [IntKind.wrap_i64]; omega
        have hr0 : (0 : Int) ≤ r := by omega
        have hr1 : (r : Int) < asks.length := by omega
        obtain ⟨a1, ha1⟩ : ∃ a1, asks[r]? = some a1 := ⟨_, List.getElem?_eq_getElem hra⟩
        have HRA := hid (HA.out.rng a1 (List.mem_of_getElem? ha1))
        have hforma : ∃ b o, pa = some ⟨b, o, none⟩ ∧ b < w.heap.size ∧ ∀ (i : Nat) (a : Int), asks[i]? = some a → w.cell? ⟨b, o + i, none⟩ = some (.int .i64 a) := by
         rcases HA.out.form with h0 | h0
         ·rw [h0] at hra; simp at hra
         ·exact h0
        obtain ⟨ba, oa, rfl, hba, hca⟩ := hforma
        have hwr := HBW.out.size
        have hwy := HBY.out.size
        have ca0 : wj.cell? ⟨ba, oa + r, none⟩ = some (.int .i64 a1) := (HBJ.out.cell (p := ⟨ba, oa + r, none⟩) (show ba < wy.heap.size by omega)).trans ((HBY.out.cell (p := ⟨ba, oa + r, none⟩) (show ba < wr.heap.size by omega)).trans ((HBW.out.cell (p := ⟨ba, oa + r, none⟩) hba).trans (hca r a1 ha1)))
        have hkr := Z3H a1
        clear ha1 hca
        go_wp2_with fail
        go_at_call 25; refine (Z2w a1 HRA.out _).mono ?_; rintro e3 w3 ⟨rfl, hw3⟩; obtain rfl := hw3
        go_wp2_with fail
        go_meet
        exact ⟨keyOf a1, rfl, hkr.1, hkr.2, rfl⟩
      case rest =>
       rename World => wk
       obtain ⟨key, rfl, hk1, hk2, hwk⟩ := hcut
       obtain rfl := hwk
       have HAK := hid (HANS2.out key hk1 hk2)
       obtain ⟨o, hoc, hof, hot, hok, hnext⟩ := HAK.out
       have HROW : Hid (PgRow wy (.slice (some ⟨g3, 0, none⟩) 160 c3) kn) := hid (by have := HPA.out.row; rw [HKL.out] at this; exact this)
       have HC : Hid (∀ w', Below wy.heap.size wy w' → Calls Tryz.prog 27 #[.agg (Z0d (Z6D key) (.slice none 0 0)), .slice (some ⟨g3, 0, none⟩) 160 c3] w' (Z1S [] o w')) := hid (fun w' hb => hnext _ 160 c3 w' (HROW.out.below hb) (by
        obtain ⟨_, _, _, ho, _⟩ := HPLAY.out.ix
        exact (ho.none.below HBY.out).below hb))
       clear hof hot hok hnext hk1 hk2 bj
       unfold Z0d Z6D Bt.nilP at HC
       go_wp2_with fail
       go_at_call 27; refine (HC.out _ (by have hbj := HBJ.out; exact qL)).mono ?_
       rintro e9 w9 ⟨vw, ve, vc, rfl, hvw, hve, hvc, hb9⟩
       obtain ⟨CL, hCL⟩ : ∃ CL, o.check.length = CL := ⟨_, rfl⟩
       obtain ⟨EL, hEL⟩ : ∃ EL, o.entries.length = EL := ⟨_, rfl⟩
       rw [hCL] at hvc
       rw [hEL] at hve
       obtain ⟨pw9, cw9, rfl⟩ := Z2q hvw
       obtain ⟨pe, ce, rfl⟩ := Z2q hve
       obtain ⟨pc, cc, rfl⟩ := Z2q hvc
       have hse : ∀ (a : Addr) (m : Mode) (wx : World), (store a (.slice pe EL ce) m).run Tryz.prog wx = stored Tryz.prog wx a (.slice pe EL ce) m := fun a m wx => run_store Tryz.prog wx a (.slice pe EL ce) m (Z0Q hve)
       have hsc : ∀ (a : Addr) (m : Mode) (wx : World), (store a (.slice pc CL cc) m).run Tryz.prog wx = stored Tryz.prog wx a (.slice pc CL cc) m := fun a m wx => run_store Tryz.prog wx a (.slice pc CL cc) m (Z0Q hvc)
       have HB9 := hid hb9
       clear hvw hve hvc hb9 hCL hEL
       simp only [Z0n]
       rw [hoc]
       clear hoc
       go_wp2_with fail
       go_at_call 24; refine (right_answers HHIST.out.inv HAK.out _ (HPLAY.out.ix.over (by have h1 := HBY.out; have h2 := HBJ.out; have h3 := HB9.out; exact qL)) (some ⟨g3, 0, none⟩) 160 c3 (HROW.out.below (by have h2 := HBJ.out; have h3 := HB9.out; exact qL))).mono ?_
       rintro e10 w10 ⟨rfl, hb10⟩
       have HB10 := hid hb10
       clear hb10
       go_wp2_with fail
       exact ⟨⟨j + 1, by omega, by rw [show ((j : Int) + 1) = ((j + 1 : Nat) : Int) by omega], hid (by have h2 := HBJ.out; have h3 := HB9.out; have h4 := HB10.out; exact qL)⟩, by simp [intOf]; omega⟩
     ·have bj : decide ((j : Int) < (asks.length : Int) + 40) = false := decide_eq_false (by omega)
      go_wp2_with fail
      exact bodyPost_ret (results_tmp rfl _ _ _) rfl ⟨rfl, by have h1 := HBW.out; have h2 := HBY.out; have h3 := HBJ.out; exact qL⟩
end Go.Proofs.YtjmpekanlmepmaaGreatDoor
namespace Go.Proofs.YtjmpekanlmepmaaGreatDoor.treeHints
open Go.ChangeShapes Go.WideShapes Go.ChangeAt Go.RowKit
set_option maxRecDepth 100000 in
theorem contract (H : Type) (enc : TypeId × Value → H) (W : World) (base : Nat) (args : Array Value) (ds gs : List (DataW H)) (before : List MemPlace)
 (hval : ∀ (j : Nat) t v, Tryz.f6.params[j]? = some t → args[j]? = some v → Value.okWide Tryz.prog W .any base t v)
 (hW : DataW.Whole enc Tryz.prog Tryz.f6.params.toList Rows.treeHintsSpec.vars false W args.toList ds gs before) (hlaid : laidMetH Tryz.prog Rows.treeHintsRow.laid W) :
 Calls Tryz.prog 6 args W fun e W' => ∃ v, e = .returned v ∧ Rows.treeHintsSpec.post enc Tryz.prog Tryz.f6 false true false false W args v W' := by
 have hn : NoneAt W := Z8r W hlaid
 have hW' := hW
 obtain ⟨p, q, hA0, hV, rfl, hfz, hnd⟩ := hW
 have hA : DataW.TrodAll enc Tryz.prog W 0 (fun _ => true) true Tryz.f6.params.toList args.toList ds p := hA0
 rw [Tryz.params6] at hA hval
 obtain ⟨v0, vs0, d0, ds0, p0, q0, hargs, rfl, rfl, h0, r0⟩ := trodAll_cons hA
 obtain ⟨v1, vs1, d1, ds1, p1, q1, rfl, rfl, rfl, h1, r1⟩ := trodAll_cons r0
 obtain ⟨v2, vs2, d2, ds2, p2, q2, rfl, rfl, rfl, h2, r2⟩ := trodAll_cons r1
 obtain ⟨rfl, rfl, rfl⟩ := trodAll_nil r2
 obtain rfl : args = #[v0, v1, v2] := arr3 hargs
 obtain ⟨rfl, rfl⟩ := trodVars_none hV
 obtain ⟨pl, ms, cl, rfl, hM, hml⟩ := Z5q (hval 0 44 v0 rfl rfl) h0
 obtain ⟨po, olds, co, rfl, hO, hol⟩ := Zcz (hval 1 45 v1 rfl rfl) h1
 obtain ⟨pa, asks, ca, rfl, hI, hal⟩ := Zcz (hval 2 45 v2 rfl rfl) h2
 clear hA0
 have hlt := hW'.lt
 refine (hints_walk pl po pa cl co ca ms olds asks W hn hM hO hI (by unfold maxLen at hml; omega) (by unfold maxLen at hol; omega) (by unfold maxLen at hal; omega)).mono fun e W' ⟨he, hb⟩ => ?_
 subst he
 exact ⟨_, rfl, Z3Z (pa := p0 ++ (p1 ++ (p2 ++ []))) (pv := []) hW' (fun _ _ _ => trodAll_cons_mk (shut_bool Tryz.underlying4 _) trodAll_mk0)
  (fun sp hs => trodAll_cons_mk (Z4j (by kernel_rfl) (of_decide_eq_true (by kernel_rfl)) h0 hb (fun x hx => hlt x (by simp [hx])) (fun x hx => hs x (by simp [hx])))
   (trodAll_cons_mk (Z4j (by kernel_rfl) (of_decide_eq_true (by kernel_rfl)) h1 hb (fun x hx => hlt x (by simp [hx])) (fun x hx => hs x (by simp [hx])))
    (trodAll_cons_mk (Z4j (by kernel_rfl) (of_decide_eq_true (by kernel_rfl)) h2 hb (fun x hx => hlt x (by simp [hx])) (fun x hx => hs x (by simp [hx]))) trodAll_mk0))) (fun _ _ => rfl) (by simp)
  hb (ok_one (by kernel_rfl) rfl (okWide_bool_mk Tryz.underlying4 _))⟩
noncomputable def laidWorld (os : Os) : World := World.holding Tryz.prog os ⟨#[], #[], []⟩
theorem laid_met (os : Os) : laidMet Tryz.prog Rows.treeHintsRow.laid ((laidWorld os).forCall (fun _ _ => 0) ⟨#[], #[.slice none 0 0, .slice none 0 0, .slice none 0 0], []⟩).memory :=
 laidMet_of_run' 8 (by kernel_rfl) (by kernel_rfl)
theorem reads (os : Os) {H : Type} (enc : TypeId × Value → H) : ∃ places, DataW.whole enc Tryz.prog ((laidWorld os).forCall (fun _ _ => 0) ⟨#[], #[.slice none 0 0, .slice none 0 0, .slice none 0 0], []⟩).memory Tryz.f6.params.toList Rows.treeHintsSpec.vars false #[Value.slice none 0 0, Value.slice none 0 0, Value.slice none 0 0].toList 8 =
 some ([.nil, .nil, .nil], [], places) :=
 ⟨[], by kernel_rfl⟩
set_option maxRecDepth 100000 in
theorem lifted (os : Os) (started : os.Started) (H : Type) (enc : TypeId × Value → H) (F : Stop.Interp) :
 ReturnsInHanded {} Tryz.checked os 6 .any ((OpenSpec.ofChange Rows.treeHintsSpec).preRow enc Tryz.prog Tryz.f6 Rows.treeHintsRow.domain false Rows.treeHintsRow.laid) (((OpenSpec.ofChange Rows.treeHintsSpec).at F).post enc Tryz.prog Tryz.f6 false true false false) := by
 obtain ⟨places, hx⟩ := reads os enc
 refine returnsInHanded_of_row (C := Tryz.checked) (s := OpenSpec.ofChange Rows.treeHintsSpec) Z6R started (by kernel_rfl) Tryz.func6
  (witness_row_at (enc := enc) (C := Tryz.checked) false (laidWorld os) #[.slice none 0 0, .slice none 0 0, .slice none 0 0] rfl (by kernel_rfl) (by kernel_rfl) (by kernel_rfl)
   (OpenSpec.preRow_of_cond 8 hx (by kernel_rfl) (fun k hk => by cases hk) (by kernel_rfl) (laid_met os))) ?_
 intro W base args ds gs before hval hW _ _ _ hlaid _ _
 exact contract H enc W base args ds gs before hval hW hlaid
theorem said : Rows.TreeHintsSaid :=
 OpenClaim.holds_of_cond 6 Tryz.f6 rfl rfl rfl rfl rfl rfl rfl ⟨rfl, rfl, rfl, rfl, rfl⟩ rfl rfl rfl rfl rfl (by kernel_rfl) Tryz.func6 (by kernel_rfl)
  (of_decide_eq_true (by kernel_rfl)) (by unfold Func.isWrapper; first | (rw [if_pos (by decide +kernel)]; kernel_rfl) | (rw [if_neg (by decide +kernel)]; exact ⟨rfl, rfl⟩))
  (fun os started H enc _ F => by rw [OpenClaim.pre_eq_preRow]; exact lifted os started H enc F)
theorem plain (f : FuncId) (fn : Func) (hf : Tryz.pinned.checked.prog.funcNamed "bodega/bodegalaw24.TreeHints" = some f) (hfn : Tryz.pinned.checked.prog.funcs[f]? = some fn) :
 false = Tryz.pinned.checked.prog.looks [] ∧ ∀ (j : Nat) t, fn.params[j]? = some t → Tryz.pinned.checked.prog.wantsStandIn t = false := by
 obtain rfl : f = 6 := Option.some.inj ((show Tryz.prog.funcNamed "bodega/bodegalaw24.TreeHints" = some 6 by kernel_rfl).symm.trans hf) |>.symm
 obtain rfl : fn = Tryz.f6 := (Option.some.inj (Tryz.func6.symm.trans hfn)).symm
 refine ⟨by kernel_rfl, fun j t ht => ?_⟩
 rw [Tryz.params6] at ht
 have hm : t ∈ #[44, 45, 45] := Array.mem_of_getElem? ht
 have ht2 : t = 44 ∨ t = 45 := by simpa using hm
 rcases ht2 with rfl | rfl
 ·exact (show Tryz.prog.wantsStandIn 44 = false by kernel_rfl)
 ·exact (show Tryz.prog.wantsStandIn 45 = false by kernel_rfl)
theorem card : Rows.TreeHintsCardSaid :=
 Claim7.holds_tied_plain_at .later [] _ _ _ _ said (fun _ h => by cases h) (by kernel_rfl) (fun _ h => by cases h) treeHints_row_tie rfl ⟨rfl, rfl⟩ (by kernel_rfl) rfl plain (by kernel_rfl)
#print axioms card
end Go.Proofs.YtjmpekanlmepmaaGreatDoor.treeHints
