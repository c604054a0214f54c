/- The reference's fabric: one step of it. -/
import Derived.Test.YtoidjgongafnkaaGreatDoorWFe
import Derived.Test.YtoidjgongafnkaaGreatDoorWEf
set_option linter.unusedVariables false
set_option linter.unusedSimpArgs false
set_option linter.unusedSectionVars false
set_option linter.constructorNameAsVariable false
namespace Go.Proofs.YtoidjgongafnkaaGreatDoor
open Go.RowKit

structure SteadyX (r g : Nat) (w1 wx : World) : Prop where
  rule : ∀ b o, b < w1.heap.size → (b < r ∨ r < b) → (b < g ∨ g < b) → wx.cell? ⟨b, o, none⟩ = w1.cell? ⟨b, o, none⟩
theorem SteadyX.of {r g : Nat} {w1 wx : World} (h : Below w1.heap.size w1 wx) : SteadyX r g w1 wx := ⟨fun b o hb _ _ => h.cell (p := ⟨b, o, none⟩) hb⟩
theorem SteadyX.mod {r g : Nat} {w1 wx : World} (h : Mod (fun k => k = r ∨ k = g) w1 wx) : SteadyX r g w1 wx := ⟨fun b o hb h1 h2 => by
  have := h.block b hb (by omega)
  simp only [World.cell?, this]⟩
theorem Cm.St.okb_at {s : Cm.St} {n : Nat} {x : Cm.Pend} {rest : List Cm.Pend} (h : s.okb = true) (hq : s.q[n]? = some (x :: rest)) : rest.length ≤ 100 ∧ x.v.Ok ∧ x.v.node < 5 ∧ x.v.words.length ≤ 100 ∧ x.got.length ≤ 100 ∧ x.slot < s.done.length := by
  unfold Cm.St.okb at h
  rw [List.all_eq_true] at h
  have h1 := h _ (List.mem_of_getElem? hq)
  simp only [Bool.and_eq_true, decide_eq_true_eq, List.all_cons, List.length_cons] at h1
  obtain ⟨h2, h3, -⟩ := h1
  simp only [Cm.Pend.okb, Bool.and_eq_true, decide_eq_true_eq] at h3
  obtain ⟨⟨h4, h5⟩, h6⟩ := h3
  obtain ⟨a, b, c⟩ := Cm.Vb.okb_ok h4
  exact ⟨by omega, a, b, c, h5, h6⟩
theorem Cm.Vb.served_at {v : Cm.Vb} {m : Cm.Mem} (h : v.served m = true) : m 0 = 1 ∧ m 1 = 1 ∧ m 24 = 1 := by
  simp only [Cm.Vb.served, Bool.and_eq_true, decide_eq_true_eq] at h
  exact ⟨h.1.1.1.1.1.1.1, h.1.1.1.1.1.1.2, h.1.1.1.1.1.2⟩
theorem piece_ok {x : Cm.Pend} {pc : Nat × Nat} (h : x.v.Ok) (hp : x.v.pieces[x.exec]? = some pc) : (x.v.kind = 3 → pc.2 = 1) ∧ (1 ≤ pc.2 ∧ pc.1 + pc.2 ≤ 864) ∧ (x.v.kind = 2 → x.v.at_ ≤ pc.1 ∧ pc.1 + pc.2 ≤ x.v.at_ + x.v.words.length) := by
  obtain ⟨h1, h2, h3⟩ := pieces_in _ _ _ _ _ hp
  have ha := h.a2
  refine ⟨fun e => ?_, ⟨h2, by omega⟩, fun e => ?_⟩
  · have hc : x.v.count = 1 := by unfold Cm.Vb.count; rw [if_neg (by omega), if_neg (by omega)]
    omega
  · have hc : x.v.count = x.v.words.length := by unfold Cm.Vb.count; rw [if_neg (by omega), if_pos e]
    omega

/-- The pairs behind one pair's change. -/
theorem pairs_set (g : Geo) (B n : Nat) (q : List (List Cm.Pend)) (l0 l1 : List Cm.Pend) (w wf : World) (csp : Array Value) (S : Nat → Prop) (hq : q[n]? = some l0) (hl : q.length = g.mb.length)
    (hps : ∀ i l, q[i]? = some l → csp[i * 4]? = some (.int .i64 0) ∧ csp[i * 4 + 1]? = some (.int .i64 1) ∧ csp[i * 4 + 2]? = some (.int .i64 i) ∧ ∃ v, csp[i * 4 + 3]? = some v ∧ QueueAt w B v l)
    (hm : Mod S w wf) (hS : ∀ k, S k → k < B) (h1 : ∃ v', Blk wf g.pr 107 (csp.setIfInBounds (n * 4 + 3) v') ∧ QueueAt wf B v' l1) : g.Pairs wf B (q.set n l1) := by
  obtain ⟨v', hb, hv⟩ := h1
  refine ⟨by simpa using hl, _, hb, fun i l hi => ?_⟩
  have hil : i < q.length := by have := (List.getElem?_eq_some_iff.1 hi).1; simpa using this
  obtain ⟨f0, f1, f2, v, f3, f4⟩ := hps i _ (List.getElem?_eq_getElem hil)
  rw [Array.getElem?_setIfInBounds_ne (by omega), Array.getElem?_setIfInBounds_ne (by omega), Array.getElem?_setIfInBounds_ne (by omega)]
  refine ⟨f0, f1, f2, ?_⟩
  by_cases hin : n = i
  · subst hin
    rw [List.getElem?_set_self hil] at hi
    obtain rfl : l1 = l := by simpa using hi
    exact ⟨v', by rw [Array.getElem?_setIfInBounds, if_pos rfl, if_pos (Array.getElem?_eq_some_iff.1 f3).1], hv⟩
  · rw [List.getElem?_set_ne hin, List.getElem?_eq_getElem hil] at hi
    obtain rfl : q[i] = l := by simpa using hi
    exact ⟨v, by rw [Array.getElem?_setIfInBounds_ne (by omega)]; exact f3, f4.mod hm (fun k hk => .inl (hS k hk))⟩
theorem mems_set (g : Geo) (n b : Nat) (ms : List Cm.Mem) (m' : Cm.Mem) (w wf : World) (S : Nat → Prop) (h : g.Mems w ms) (hd : g.mb.Nodup) (hb : g.mb[n]? = some b) (hm : Mod S w wf) (hS : ∀ k ∈ g.mb, S k → k = b) (h1 : MemAt wf b m') : g.Mems wf (ms.set n m') := by
  refine ⟨by simpa using h.1, fun i c x hc hx => ?_⟩
  have hil : i < ms.length := by have := (List.getElem?_eq_some_iff.1 hx).1; simpa using this
  by_cases hin : n = i
  · subst hin
    rw [List.getElem?_set_self hil] at hx
    obtain rfl : m' = x := by simpa using hx
    obtain rfl : b = c := by rw [hb] at hc; simpa using hc
    exact h1
  · rw [List.getElem?_set_ne hin] at hx
    refine (h.2 i c x hc hx).mod hm (fun e => ?_)
    have := hS c (List.mem_of_getElem? hc) e
    subst this
    obtain ⟨p1, p2⟩ := List.getElem?_eq_some_iff.1 hb
    obtain ⟨p3, p4⟩ := List.getElem?_eq_some_iff.1 hc
    have hpw := List.pairwise_iff_getElem.1 hd
    rcases Nat.lt_or_ge n i with h | h
    · exact hpw n i p1 p3 h (by rw [p2, p4])
    · exact hpw i n p3 p1 (by omega) (by rw [p2, p4])
theorem step_more (g : Geo) (B dn hv cd ch n : Nat) (s : Cm.St) (w Y wf : World) (x : Cm.Pend) (rest : List Cm.Pend) (m m' : Cm.Mem) (csp : Array Value) (b : Nat) (l1 : List Cm.Pend) (hon : g.On w B dn hv cd ch s) (hb : g.mb[n]? = some b) (hxq : s.q[n]? = some (x :: rest)) (hpp : Blk w g.pr 107 csp)
    (hps : ∀ i l, s.q[i]? = some l → csp[i * 4]? = some (.int .i64 0) ∧ csp[i * 4 + 1]? = some (.int .i64 1) ∧ csp[i * 4 + 2]? = some (.int .i64 i) ∧ ∃ v, csp[i * 4 + 3]? = some v ∧ QueueAt w B v l) (hne : g.pr ≠ b)
    (hY : Below w.heap.size w Y) (h1 : ∃ v', Blk wf g.pr 107 (csp.setIfInBounds (n * 4 + 3) v') ∧ QueueAt wf B v' l1) (h2 : MemAt wf b m') (h3 : Mod (fun k => k = g.pr ∨ k = b) Y wf) :
    FStep g B dn hv cd ch { s with mem := s.mem.set n m', q := s.q.set n l1 } w (.returned (.bool true)) wf := by
  have hm : Mod (fun k => k = g.pr ∨ k = b) w wf := (Mod.of_below hY).trans h3
  obtain ⟨hat, hcl, hpr, hms, hdn⟩ := hon
  have hbm := List.mem_of_getElem? hb
  have hbB := hat.lm b hbm
  have hpB := hat.lp
  obtain ⟨csn, hnd, -⟩ := hat.nodes
  obtain ⟨csl, hlv, -⟩ := hat.live
  obtain ⟨csc, _, _, hcb, -⟩ := id hcl
  obtain ⟨mm, hmm⟩ : ∃ mm, s.mem[n]? = some mm := ⟨_, List.getElem?_eq_getElem (by rw [hms.1]; exact (List.getElem?_eq_some_iff.1 hb).1)⟩
  have hmem := hms.2 n b mm hb hmm
  have hS : ∀ k, (k = g.pr ∨ k = b) → k < B := fun k hk => by rcases hk with rfl | rfl <;> omega
  have hdB := hdn.1
  have hvB := hdn.2.1
  refine ⟨rfl, ⟨hat.mod hm ?_ ?_ ?_, hcl.mod hm ?_, pairs_set g B n s.q (x :: rest) _ w wf csp _ hxq hpr.1 hps hm hS h1, mems_set g n b s.mem m' w wf _ hms hat.dup hb hm (fun k hk e => ?_) h2, hdn.mod hm ?_ ?_ (fun k hk => .inl (hS k hk))⟩, hm.imp (fun k hk => ?_)⟩
  · rintro (e | e)
    · exact hat.fab.ne hpp (by decide) e
    · exact hmem.ne hat.fab (by decide) e
  · rintro (e | e)
    · exact hnd.ne hpp (by decide) e
    · exact hmem.ne hnd (by decide) e
  · rintro (e | e)
    · exact hlv.ne hpp (by decide) e
    · exact hmem.ne hlv (by decide) e
  · rintro (e | e)
    · exact hcb.ne hpp (by decide) e
    · exact hmem.ne hcb (by decide) e
  · rcases e with e | e
    · subst e
      obtain ⟨i, hi, hk2⟩ := List.mem_iff_getElem.1 hk
      have hk3 : g.mb[i]? = some g.pr := by rw [List.getElem?_eq_getElem hi, hk2]
      obtain ⟨m2, hm2⟩ : ∃ m2, s.mem[i]? = some m2 := ⟨_, List.getElem?_eq_getElem (by rw [hms.1]; exact hi)⟩
      exact absurd rfl ((hms.2 i _ m2 hk3 hm2).ne hpp (by decide))
    · exact e
  · intro e; have := hS _ e; omega
  · intro e; have := hS _ e; omega
  · rcases hk with rfl | rfl
    · exact .inl rfl
    · exact .inr (.inl hbm)
theorem step_done (g : Geo) (B dn hv cd ch o : Nat) (s : Cm.St) (w : World) (p : Option Addr) (gl c : Nat) (ws : List Int) (hon : g.On w B dn hv cd ch s) (ho : o < s.done.length) (hw : WordsAt w B (.slice p gl c) ws) :
    g.On (((w.setCell ⟨dn, o * 2, none⟩ (.int .i64 0)).setCell ⟨dn, o * 2 + 1, none⟩ (.slice p gl c)).setCell ⟨hv, o, none⟩ (.bool true)) B dn hv cd ch { s with done := s.done.set o (some ws) } ∧
    Mod (fun k => k = dn ∨ k = hv) w (((w.setCell ⟨dn, o * 2, none⟩ (.int .i64 0)).setCell ⟨dn, o * 2 + 1, none⟩ (.slice p gl c)).setCell ⟨hv, o, none⟩ (.bool true)) := by
  obtain ⟨hat, hcl, hpr, hms, hdn⟩ := hon
  obtain ⟨hB1, hB2, csd, csh, hbd, hbh, hl1, hl2, hcells⟩ := hdn
  have hm := (((Mod.refl (fun k => k = dn ∨ k = hv) w).put (p := ⟨dn, o * 2, none⟩) (.inl (.inl rfl)) (.int .i64 0)).put (p := ⟨dn, o * 2 + 1, none⟩) (.inl (.inl rfl)) (.slice p gl c)).put (p := ⟨hv, o, none⟩) (.inl (.inr rfl)) (.bool true)
  have hne : dn ≠ hv := hbd.ne hbh (by decide)
  have bd := ((hbd.put (o * 2) (.int .i64 0)).put (o * 2 + 1) (.slice p gl c)).aside (p := ⟨hv, o, none⟩) hne (.bool true)
  have bh := ((hbh.aside (p := ⟨dn, o * 2, none⟩) (fun e => hne e.symm) (.int .i64 0)).aside (p := ⟨dn, o * 2 + 1, none⟩) (fun e => hne e.symm) (.slice p gl c)).put o (.bool true)
  generalize ((w.setCell ⟨dn, o * 2, none⟩ (.int .i64 0)).setCell ⟨dn, o * 2 + 1, none⟩ (.slice p gl c)).setCell ⟨hv, o, none⟩ (.bool true) = wf at *
  have l1 := hat.lf
  have l2 := hat.ln
  have l3 := hat.ll
  have l4 := hat.lc
  have l5 := hat.lp
  have hS : ∀ k, (k = dn ∨ k = hv) → k < B ∨ ∃ t' cs', Blk w k t' cs' ∧ t' ≠ 33 ∧ t' ≠ 208 := fun k hk => by
    rcases hk with rfl | rfl
    · exact .inr ⟨_, _, hbd, by decide, by decide⟩
    · exact .inr ⟨_, _, hbh, by decide, by decide⟩
  have hS2 : ∀ k, (k = dn ∨ k = hv) → k < B ∨ ∃ t' cs', Blk w k t' cs' ∧ t' ≠ 33 := fun k hk => by
    rcases hS k hk with h | ⟨a, b, c, d, _⟩
    · exact .inl h
    · exact .inr ⟨a, b, c, d⟩
  refine ⟨⟨hat.mod hm (by omega) (by omega) (by omega), ?_, hpr.mod hm (by omega) hS, hms.mod hm (fun b hb => by have := hat.lm b hb; omega), ⟨hB1, hB2, _, _, bd, bh, by simpa using hl1, by simpa using hl2, fun i u hu => ?_⟩⟩, hm⟩
  · simp only [List.length_set]
    exact hcl.mod hm (by omega)
  · have hil : i < s.done.length := by have := (List.getElem?_eq_some_iff.1 hu).1; simpa using this
    obtain ⟨a1, a2, v, a3, a4⟩ := hcells i _ (List.getElem?_eq_getElem hil)
    by_cases hoi : o = i
    · subst hoi
      simp only [List.getElem?_set_self hil, Option.some.injEq] at hu
      subst hu
      have s1 := (Array.getElem?_eq_some_iff.1 a1).1
      have s3 := (Array.getElem?_eq_some_iff.1 a3).1
      refine ⟨by rw [Array.getElem?_setIfInBounds, if_pos rfl, if_pos s1]; rfl, ?_, .slice p gl c, ?_, fun ws' e => ?_⟩
      · rw [Array.getElem?_setIfInBounds_ne (by omega), Array.getElem?_setIfInBounds, if_pos rfl, if_pos (by omega)]
      · rw [Array.getElem?_setIfInBounds, if_pos rfl, if_pos (by simpa using s3)]
      · obtain rfl : ws = ws' := by simpa using e
        exact hw.mod hm hS2
    · rw [List.getElem?_set_ne hoi, List.getElem?_eq_getElem hil] at hu
      obtain rfl : s.done[i] = u := by simpa using hu
      refine ⟨by rw [Array.getElem?_setIfInBounds_ne hoi]; exact a1, ?_, v, ?_, fun ws' e => (a4 ws' e).mod hm hS2⟩
      · rw [Array.getElem?_setIfInBounds_ne (by omega), Array.getElem?_setIfInBounds_ne (by omega)]
        exact a2
      · rw [Array.getElem?_setIfInBounds_ne (by omega), Array.getElem?_setIfInBounds_ne (by omega)]
        exact a3
def StepCut (W : World) (slot : Nat) (R : Option Addr → Nat → Nat → World → Prop) (v6 v7 v8 v9 : Value) (wx : World) : Prop :=
  v7 = .int .i64 slot ∧ v8 = .bool true ∧ v9 = .bool true ∧ ∃ r p gl c, v6 = .pointer (some ⟨r, 0, none⟩) ∧ W.heap.size ≤ r ∧ Blk wx r 151 #[.int .i64 0, .slice p gl c] ∧ Hid (R p gl c wx)

set_option maxRecDepth 10000 in
set_option maxHeartbeats 4000000 in
theorem fabStep_ok (g : Geo) (B dn hv cd ch n : Nat) (s s' : Cm.St) (w : World) (hon : g.On w B dn hv cd ch s) (hok : s.okb = true) (hs : s.stepAt n = some s') :
    Calls Tryz.prog 27 #[.pointer (some ⟨g.f, 0, none⟩), .agg #[.int .i64 (-1), .int .i64 0, .int .i64 (n : Nat)]] w (FStep g B dn hv cd ch s' w) := by
  obtain ⟨x, rest, m, pc, hxq, hxm, hpc, hsv, hcase⟩ := Cm.St.stepAt_some hs
  obtain ⟨hrl, hxo, hxn, hxw, hxg, hslot⟩ := Cm.St.okb_at hok hxq
  obtain ⟨hm0, hm1, hm24⟩ := Cm.Vb.served_at hsv
  obtain ⟨hp1, hp2, hp3⟩ := piece_ok hxo hpc
  have hnl : n < g.mb.length := by rw [← hon.pairs.1]; exact (List.getElem?_eq_some_iff.1 hxq).1
  obtain ⟨b, hb⟩ : ∃ b, g.mb[n]? = some b := ⟨_, List.getElem?_eq_getElem hnl⟩
  obtain ⟨-, csp, hpp, hps⟩ := hon.pairs
  obtain ⟨f0, f1, f2, vq, f3, hq⟩ := hps n _ hxq
  obtain ⟨csn, hnd, hns⟩ := hon.at_.nodes
  obtain ⟨n0, n1⟩ := hns n b hb
  obtain ⟨csl, hlv, hl0⟩ := hon.at_.live
  have hmem := hon.mems.2 n b m hb hxm
  have hneB : g.nd ≠ b := hmem.ne hnd (by decide)
  have hprb : g.pr ≠ b := hmem.ne hpp (by decide)
  have hlb := hon.at_.lm b (List.mem_of_getElem? hb)
  have hlp := hon.at_.lp
  have hln := hon.at_.ln
  have hsB := hon.at_.size
  have HPS : Hid (∀ W, Below w.heap.size w W → Calls Tryz.prog 55 #[.pointer (some ⟨g.pr, n * 4, none⟩), .pointer (some ⟨g.nd, n * 2, none⟩)] W (PStep g.pr (n * 4) b B csp x rest m pc W)) := Lib.hid (fun W hbW =>
    pairStep_ok B g.pr (n * 4) g.nd (n * 2) b csp vq x rest m pc W hxo hxn hrl hxg hxw hpc hp1 hp2 hp3 (Nat.le_trans hsB hbW.size) hlp hlb hln hneB (hpp.kept hbW) f0 f1 f3 (hq.below hbW) (hmem.below hbW) hm0 hm1 hm24
      (((hnd.kept hbW).cell _).trans n0) (((hnd.kept hbW).cell _).trans n1))
  have HO := Lib.hid (And.intro hon (And.intro hcase (And.intro hpp (And.intro hb (And.intro hxq (And.intro hxm hps))))))
  have hd1 : g.f < g.pr ∨ g.pr < g.f := by have := hon.at_.fab.ne hpp (by decide); omega
  have hd2 : g.lv < g.pr ∨ g.pr < g.lv := by have := hlv.ne hpp (by decide); omega
  have hd3 : g.f < b ∨ b < g.f := by have := hmem.ne hon.at_.fab (by decide); omega
  have hd4 : g.lv < b ∨ b < g.lv := by have := hmem.ne hlv (by decide); omega
  have hf := hon.at_.fab
  unfold Geo.fcs at hf
  have iz0 : (0 : Int) ≤ n := by omega
  have iz1 : (n : Int) < g.mb.length := by omega
  have bz0 : decide ((n : Int) < 0) = false := by simp
  have bz1 : ¬ g.mb.length ≤ n := by omega
  go_enter Tryz.func27, Tryz.ntmps27
  go_wp2_with fail
  have hbW : Below w.heap.size w (w.alloc (.cells #[.int .i64 (-1), .int .i64 0, .int .i64 (n : Nat)] 100)) := by (repeat (first | with_reducible exact Below.refl _ _ | with_reducible assumption | with_reducible refine Below.setCell ?_ (by first | (simp; done) | (simp; omega)) _ | with_reducible refine below_alloc ?_ _ | with_reducible refine below_drewN ?_ _ | with_reducible refine Below.drew ?_ | with_reducible refine below_step ?_ (by assumption)))
  have BC : Blk (w.alloc (.cells #[.int .i64 (-1), .int .i64 0, .int .i64 (n : Nat)] 100)) w.heap.size 100 #[.int .i64 (-1), .int .i64 0, .int .i64 (n : Nat)] := Blk.made _ _ _
  generalize hW : World.alloc w _ = W at *
  have kc := BC.cell
  have lc := BC.lt
  have kf := (hf.kept hbW).cell
  have lf := (hf.kept hbW).lt
  have kl : W.cell? ⟨g.lv, 0, none⟩ = some (.slice (some ⟨g.pr, 0, none⟩) g.mb.length g.cp) := ((hlv.kept hbW).cell _).trans hl0
  have ll := (hlv.kept hbW).lt
  have HB := Lib.hid (And.intro hbW BC)
  have hwb : b < w.heap.size := by omega
  have hwp : g.pr < w.heap.size := by omega
  have hwl := hbW.size
  clear hW BC hf hlv hl0 hbW hon hcase hpp hps hb hxq hxm f0 f1 f2 f3 hq hnd hns n0 n1 hmem hpc hp1 hp2 hp3 hsv hm0 hm1 hm24 hxo
  refine wp_region_held_drew (S := SteadyAll _) (by kernel_rfl) (SteadyAll.of (Below.refl _ _).drew) ?_
  intro hSt
  refine wpAnyH_seq (is := [0, 1, 2, 3, 4, 5, 6, 7, 8, 9, 10, 11, 12, 13, 14, 15, 16, 17, 18, 19, 20, 21, 22, 23, 24, 25, 26, 27, 28, 29, 30, 31, 32]) (by kernel_rfl) (by kernel_rfl) (fun _ _ d _ _ h => by cases d <;> exact h) (by assumption) ?_
  iterate 33 (first | (refine TakeSeq.step (v := undef) rfl (Or.inr ⟨by rfl, rfl⟩) ?_; simp only [Act.put, List.setIfInBounds_toArray, List.set_cons_zero, List.set_cons_succ, List.getElem_toArray, List.getElem_cons_zero, List.getElem_cons_succ]) | (refine TakeSeq.step (v := ?_) rfl (Or.inl ⟨by rfl, ?_⟩) ?_; rotate_left 1; (focus (intro wq hSq; have hrd := hSq.rule; go_simp; with_reducible rfl)); simp only [Act.put, List.setIfInBounds_toArray, List.set_cons_zero, List.set_cons_succ, List.getElem_toArray, List.getElem_cons_zero, List.getElem_cons_succ]))
  refine TakeSeq.done ?_
  refine wpAnyH_done (by kernel_rfl) ?_ _
  go_wp2_with fail
  by_cases hmore : x.exec + 1 < x.v.pieces.length
  · have HPA : Hid (∀ Y, Below w.heap.size w Y → Calls Tryz.prog 55 #[.pointer (some ⟨g.pr, n * 4, none⟩), .pointer (some ⟨g.nd, n * 2, none⟩)] Y (fun e w' => e = .returned (.tuple #[.agg #[.int .i64 0, .slice none 0 0], .int .i64 (-1), .bool false, .bool true]) ∧
        Hid ((∃ v', Blk w' g.pr 107 (csp.setIfInBounds (n * 4 + 3) v') ∧ QueueAt w' B v' (stepNext x (x.v.exec m pc).1 :: rest)) ∧ MemAt w' b (x.v.exec m pc).2 ∧ Mod (fun k => k = g.pr ∨ k = b) Y w'))) := Lib.hid (fun Y hY => (HPS.out Y hY).mono (fun e w' h => by
      obtain ⟨⟨v', h1, h2⟩, h3, h4⟩ := h
      rcases h2 with ⟨_, h5, h6⟩ | ⟨h5, _⟩
      · exact ⟨h5, Lib.hid ⟨⟨v', h1, h6⟩, h3, h4⟩⟩
      · exact absurd hmore h5))
    have HF : Hid (∀ Y wf, Below w.heap.size w Y → (∃ v', Blk wf g.pr 107 (csp.setIfInBounds (n * 4 + 3) v') ∧ QueueAt wf B v' (stepNext x (x.v.exec m pc).1 :: rest)) → MemAt wf b (x.v.exec m pc).2 → Mod (fun k => k = g.pr ∨ k = b) Y wf → FStep g B dn hv cd ch s' w (.returned (.bool true)) wf) := Lib.hid (fun Y wf hY h1 h2 h3 => by
      obtain ⟨hon, hcase, hpp, hb, hxq, hxm, hps⟩ := HO.out
      rcases hcase with ⟨_, hs'⟩ | ⟨h5, _⟩
      · rw [hs']
        exact step_more g B dn hv cd ch n s w Y wf x rest m _ csp b (stepNext x (x.v.exec m pc).1 :: rest) hon hb hxq hpp hps hprb hY h1 h2 h3
      · exact absurd hmore h5)
    refine wp_region_held_drew (S := SteadyX g.pr b W) (by kernel_rfl) (SteadyX.of (by (repeat (first | with_reducible exact Below.refl _ _ | with_reducible assumption | with_reducible refine Below.setCell ?_ (by first | (simp; done) | (simp; omega)) _ | with_reducible refine below_alloc ?_ _ | with_reducible refine below_drewN ?_ _ | with_reducible refine Below.drew ?_ | with_reducible refine below_step ?_ (by assumption))))) ?_
    intro hSt
    refine wpAnyH_seq (is := [0, 1, 2, 3, 4, 5, 6, 7, 8, 9, 10, 11, 12, 13, 14, 15, 16, 17]) (by kernel_rfl) (by kernel_rfl) (fun _ _ d _ _ h => by cases d <;> exact h) (by assumption) ?_
    iterate 18 (first | (refine TakeSeq.step (v := undef) rfl (Or.inr ⟨by rfl, rfl⟩) ?_; simp only [Act.put, List.setIfInBounds_toArray, List.set_cons_zero, List.set_cons_succ, List.getElem_toArray, List.getElem_cons_zero, List.getElem_cons_succ]) | (refine TakeSeq.step (v := ?_) rfl (Or.inl ⟨by rfl, ?_⟩) ?_; rotate_left 1; (focus (intro wq hSq; have hrd := hSq.rule; go_simp; with_reducible rfl)); simp only [Act.put, List.setIfInBounds_toArray, List.set_cons_zero, List.set_cons_succ, List.getElem_toArray, List.getElem_cons_zero, List.getElem_cons_succ]))
    refine TakeSeq.done ?_
    refine wpAnyH_ready (rs := [18, 24]) (by kernel_rfl) (by simp) ?_
    refine AllReadyH.cons rfl (fun K hK => ?_) (AllReadyH.cons rfl (fun K hK => ?_) (AllReadyH.nil))
    · skip
      rw [if_pos (by rfl)]
      go_simp
      go_at_call 55; refine (HPA.out _ (by have := HB.out.1; (repeat (first | with_reducible exact Below.refl _ _ | with_reducible assumption | with_reducible refine Below.setCell ?_ (by first | (simp; done) | (simp; omega)) _ | with_reducible refine below_alloc ?_ _ | with_reducible refine below_drewN ?_ _ | with_reducible refine Below.drew ?_ | with_reducible refine below_step ?_ (by assumption))))).mono ?_; rintro e w3 ⟨rfl, h3⟩; have h4 : Mod (fun k => k = g.pr ∨ k = b) W w3 := (Mod.of_below (by (repeat (first | with_reducible exact Below.refl _ _ | with_reducible assumption | with_reducible refine Below.setCell ?_ (by first | (simp; done) | (simp; omega)) _ | with_reducible refine below_alloc ?_ _ | with_reducible refine below_drewN ?_ _ | with_reducible refine Below.drew ?_ | with_reducible refine below_step ?_ (by assumption))))).trans h3.out.2.2; have h5 := h4.size
      go_wp2_with fail
      refine hK.out _ _ (SteadyX.mod h4) (fun hHeld => ?_)
      clear hK K
      refine wpAnyH_seq (is := [19, 20, 21, 22, 23]) (by kernel_rfl) (by kernel_rfl) (fun _ _ d _ _ h => by cases d <;> exact h) (by assumption) ?_
      iterate 5 (first | (refine TakeSeq.step (v := undef) rfl (Or.inr ⟨by rfl, rfl⟩) ?_; simp only [Act.put, List.setIfInBounds_toArray, List.set_cons_zero, List.set_cons_succ, List.getElem_toArray, List.getElem_cons_zero, List.getElem_cons_succ]) | (refine TakeSeq.step (v := ?_) rfl (Or.inl ⟨by rfl, ?_⟩) ?_; rotate_left 1; (focus (intro wq hSq; have hrd := hSq.rule; go_simp; with_reducible rfl)); simp only [Act.put, List.setIfInBounds_toArray, List.set_cons_zero, List.set_cons_succ, List.getElem_toArray, List.getElem_cons_zero, List.getElem_cons_succ]))
      refine TakeSeq.done ?_
      refine wpAnyH_ready (rs := [24]) (by kernel_rfl) (by simp) ?_
      refine AllReadyH.cons rfl (fun K hK => ?_) (AllReadyH.nil)
      rw [if_pos (by rfl)]
      go_simp
      refine hK.out _ _ (SteadyX.mod (h4.alloc _)) (fun hHeld => ?_)
      clear hK K
      refine wpAnyH_ready (rs := [25]) (by kernel_rfl) (by simp) ?_
      refine AllReadyH.cons rfl (fun K hK => ?_) (AllReadyH.nil)
      rw [if_pos (by rfl)]
      go_simp
      refine hK.out _ _ (SteadyX.mod (h4.alloc _)) (fun hHeld => ?_)
      clear hK K
      refine wpAnyH_seq (is := [26, 27, 28]) (by kernel_rfl) (by kernel_rfl) (fun _ _ d _ _ h => by cases d <;> exact h) (by assumption) ?_
      iterate 3 (first | (refine TakeSeq.step (v := undef) rfl (Or.inr ⟨by rfl, rfl⟩) ?_; simp only [Act.put, List.setIfInBounds_toArray, List.set_cons_zero, List.set_cons_succ, List.getElem_toArray, List.getElem_cons_zero, List.getElem_cons_succ]) | (refine TakeSeq.step (v := ?_) rfl (Or.inl ⟨by rfl, ?_⟩) ?_; rotate_left 1; (focus (intro wq hSq; have hrd := hSq.rule; go_simp; with_reducible rfl)); simp only [Act.put, List.setIfInBounds_toArray, List.set_cons_zero, List.set_cons_succ, List.getElem_toArray, List.getElem_cons_zero, List.getElem_cons_succ]))
      refine TakeSeq.done ?_
      refine wpAnyH_done (by kernel_rfl) ?_ _
      go_wp2_with fail
      refine bodyPost_ret (results_tmp rfl _ _ _) rfl ?_
      obtain ⟨⟨v', g1, g2⟩, g3, g4⟩ := h3.out
      have hba := below_alloc (Below.refl w3.heap.size w3) (.cells #[.int .i64 0, .slice none 0 0] 151)
      exact HF.out W _ HB.out.1 ⟨v', g1.kept hba, g2.below hba⟩ (g3.below hba) (h4.alloc _)
    · skip
      rw [if_pos (by rfl)]
      go_simp
      refine hK.out _ _ (SteadyX.of (by (repeat (first | with_reducible exact Below.refl _ _ | with_reducible assumption | with_reducible refine Below.setCell ?_ (by first | (simp; done) | (simp; omega)) _ | with_reducible refine below_alloc ?_ _ | with_reducible refine below_drewN ?_ _ | with_reducible refine Below.drew ?_ | with_reducible refine below_step ?_ (by assumption))))) (fun hHeld => ?_)
      clear hK K
      refine wpAnyH_ready (rs := [18]) (by kernel_rfl) (by simp) ?_
      refine AllReadyH.cons rfl (fun K hK => ?_) (AllReadyH.nil)
      rw [if_pos (by rfl)]
      go_simp
      go_at_call 55; refine (HPA.out _ (by have := HB.out.1; (repeat (first | with_reducible exact Below.refl _ _ | with_reducible assumption | with_reducible refine Below.setCell ?_ (by first | (simp; done) | (simp; omega)) _ | with_reducible refine below_alloc ?_ _ | with_reducible refine below_drewN ?_ _ | with_reducible refine Below.drew ?_ | with_reducible refine below_step ?_ (by assumption))))).mono ?_; rintro e w3 ⟨rfl, h3⟩; have h4 : Mod (fun k => k = g.pr ∨ k = b) W w3 := (Mod.of_below (by (repeat (first | with_reducible exact Below.refl _ _ | with_reducible assumption | with_reducible refine Below.setCell ?_ (by first | (simp; done) | (simp; omega)) _ | with_reducible refine below_alloc ?_ _ | with_reducible refine below_drewN ?_ _ | with_reducible refine Below.drew ?_ | with_reducible refine below_step ?_ (by assumption))))).trans h3.out.2.2; have h5 := h4.size; have BD3 : Blk w3 W.heap.size 151 #[.int .i64 0, .slice none 0 0] := h3.out.2.2.blk (Blk.made _ 151 #[.int .i64 0, .slice none 0 0]) (show ¬ (W.heap.size = g.pr ∨ W.heap.size = b) by omega); have kd3 := BD3.cell; have fd3 := BD3.free; have ld3 := BD3.lt
      go_wp2_with fail
      refine hK.out _ _ (SteadyX.mod h4) (fun hHeld => ?_)
      clear hK K
      refine wpAnyH_seq (is := [19, 20, 21, 22, 23]) (by kernel_rfl) (by kernel_rfl) (fun _ _ d _ _ h => by cases d <;> exact h) (by assumption) ?_
      iterate 5 (first | (refine TakeSeq.step (v := undef) rfl (Or.inr ⟨by rfl, rfl⟩) ?_; simp only [Act.put, List.setIfInBounds_toArray, List.set_cons_zero, List.set_cons_succ, List.getElem_toArray, List.getElem_cons_zero, List.getElem_cons_succ]) | (refine TakeSeq.step (v := ?_) rfl (Or.inl ⟨by rfl, ?_⟩) ?_; rotate_left 1; (focus (intro wq hSq; have hrd := hSq.rule; go_simp; with_reducible rfl)); simp only [Act.put, List.setIfInBounds_toArray, List.set_cons_zero, List.set_cons_succ, List.getElem_toArray, List.getElem_cons_zero, List.getElem_cons_succ]))
      refine TakeSeq.done ?_
      refine wpAnyH_ready (rs := [25]) (by kernel_rfl) (by simp) ?_
      refine AllReadyH.cons rfl (fun K hK => ?_) (AllReadyH.nil)
      rw [if_pos (by rfl)]
      go_simp
      refine hK.out _ _ (SteadyX.mod ((h4.put (p := ⟨W.heap.size, 0, none⟩) (.inr (Nat.le_refl _)) _).put (p := ⟨W.heap.size, 1, none⟩) (.inr (Nat.le_refl _)) _)) (fun hHeld => ?_)
      clear hK K
      refine wpAnyH_seq (is := [26, 27, 28]) (by kernel_rfl) (by kernel_rfl) (fun _ _ d _ _ h => by cases d <;> exact h) (by assumption) ?_
      iterate 3 (first | (refine TakeSeq.step (v := undef) rfl (Or.inr ⟨by rfl, rfl⟩) ?_; simp only [Act.put, List.setIfInBounds_toArray, List.set_cons_zero, List.set_cons_succ, List.getElem_toArray, List.getElem_cons_zero, List.getElem_cons_succ]) | (refine TakeSeq.step (v := ?_) rfl (Or.inl ⟨by rfl, ?_⟩) ?_; rotate_left 1; (focus (intro wq hSq; have hrd := hSq.rule; go_simp; with_reducible rfl)); simp only [Act.put, List.setIfInBounds_toArray, List.set_cons_zero, List.set_cons_succ, List.getElem_toArray, List.getElem_cons_zero, List.getElem_cons_succ]))
      refine TakeSeq.done ?_
      refine wpAnyH_done (by kernel_rfl) ?_ _
      go_wp2_with fail
      refine bodyPost_ret (results_tmp rfl _ _ _) rfl ?_
      obtain ⟨⟨v', g1, g2⟩, g3, g4⟩ := h3.out
      have hmr := ((Mod.refl (fun k => k = W.heap.size) w3).put (p := ⟨W.heap.size, 0, none⟩) (.inl rfl) (.int .i64 0)).put (p := ⟨W.heap.size, 1, none⟩) (.inl rfl) (.slice none 0 0)
      exact HF.out W _ HB.out.1 ⟨v', hmr.blk g1 (show ¬ g.pr = W.heap.size by omega), g2.mod hmr (fun k hk => .inr ⟨_, _, hk ▸ BD3, by decide, by decide⟩)⟩ (g3.mod hmr (show ¬ b = W.heap.size by omega)) ((h4.put (p := ⟨W.heap.size, 0, none⟩) (.inr (Nat.le_refl _)) _).put (p := ⟨W.heap.size, 1, none⟩) (.inr (Nat.le_refl _)) _)
  · have HPB : Hid (∀ Y, Below w.heap.size w Y → Calls Tryz.prog 55 #[.pointer (some ⟨g.pr, n * 4, none⟩), .pointer (some ⟨g.nd, n * 2, none⟩)] Y (fun e w' => ∃ p gl c, e = .returned (.tuple #[.agg #[.int .i64 0, .slice p gl c], .int .i64 (x.slot : Nat), .bool true, .bool true]) ∧
        Hid (WordsAt w' B (.slice p gl c) (x.got ++ (x.v.exec m pc).1) ∧ (∃ v', Blk w' g.pr 107 (csp.setIfInBounds (n * 4 + 3) v') ∧ QueueAt w' B v' rest) ∧ MemAt w' b (x.v.exec m pc).2 ∧ Mod (fun k => k = g.pr ∨ k = b) Y w'))) := Lib.hid (fun Y hY => (HPS.out Y hY).mono (fun e w' h => by
      obtain ⟨⟨v', h1, h2⟩, h3, h4⟩ := h
      rcases h2 with ⟨h5, _⟩ | ⟨_, vg, h5, h6, h7⟩
      · exact absurd h5 hmore
      · obtain ⟨p, c, hp⟩ := RowAt.shape h6.1
        subst hp
        exact ⟨p, _, c, h5, Lib.hid ⟨h6.1, ⟨v', h1, h7⟩, h3, h4⟩⟩))
    go_cut [6, 7, 8, 9] from 82 to 105 (fun v6 v7 v8 v9 wx => StepCut W x.slot (fun p gl c wx => WordsAt wx B (.slice p gl c) (x.got ++ (x.v.exec m pc).1) ∧ (∃ v', Blk wx g.pr 107 (csp.setIfInBounds (n * 4 + 3) v') ∧ QueueAt wx B v' rest) ∧ MemAt wx b (x.v.exec m pc).2 ∧ Mod (fun k => k = g.pr ∨ k = b) W wx) v6 v7 v8 v9 wx)
    case first =>
      refine wp_region_held_drew (S := SteadyX g.pr b W) (by kernel_rfl) (SteadyX.of (by (repeat (first | with_reducible exact Below.refl _ _ | with_reducible assumption | with_reducible refine Below.setCell ?_ (by first | (simp; done) | (simp; omega)) _ | with_reducible refine below_alloc ?_ _ | with_reducible refine below_drewN ?_ _ | with_reducible refine Below.drew ?_ | with_reducible refine below_step ?_ (by assumption))))) ?_
      intro hSt
      refine wpAnyH_seq (is := [0, 1, 2, 3, 4, 5, 6, 7, 8, 9, 10, 11, 12, 13, 14, 15, 16, 17]) (by kernel_rfl) (by kernel_rfl) (fun _ _ d _ _ h => by cases d <;> exact h) (by assumption) ?_
      iterate 18 (first | (refine TakeSeq.step (v := undef) rfl (Or.inr ⟨by rfl, rfl⟩) ?_; simp only [Act.put, List.setIfInBounds_toArray, List.set_cons_zero, List.set_cons_succ, List.getElem_toArray, List.getElem_cons_zero, List.getElem_cons_succ]) | (refine TakeSeq.step (v := ?_) rfl (Or.inl ⟨by rfl, ?_⟩) ?_; rotate_left 1; (focus (intro wq hSq; have hrd := hSq.rule; go_simp; with_reducible rfl)); simp only [Act.put, List.setIfInBounds_toArray, List.set_cons_zero, List.set_cons_succ, List.getElem_toArray, List.getElem_cons_zero, List.getElem_cons_succ]))
      refine TakeSeq.done ?_
      refine wpAnyH_ready (rs := [18, 24]) (by kernel_rfl) (by simp) ?_
      refine AllReadyH.cons rfl (fun K hK => ?_) (AllReadyH.cons rfl (fun K hK => ?_) (AllReadyH.nil))
      · skip
        rw [if_pos (by rfl)]
        go_simp
        go_at_call 55; refine (HPB.out _ (by have := HB.out.1; (repeat (first | with_reducible exact Below.refl _ _ | with_reducible assumption | with_reducible refine Below.setCell ?_ (by first | (simp; done) | (simp; omega)) _ | with_reducible refine below_alloc ?_ _ | with_reducible refine below_drewN ?_ _ | with_reducible refine Below.drew ?_ | with_reducible refine below_step ?_ (by assumption))))).mono ?_; rintro e w3 ⟨p3, gl3, c3, rfl, h3⟩; have h4 : Mod (fun k => k = g.pr ∨ k = b) W w3 := (Mod.of_below (by (repeat (first | with_reducible exact Below.refl _ _ | with_reducible assumption | with_reducible refine Below.setCell ?_ (by first | (simp; done) | (simp; omega)) _ | with_reducible refine below_alloc ?_ _ | with_reducible refine below_drewN ?_ _ | with_reducible refine Below.drew ?_ | with_reducible refine below_step ?_ (by assumption))))).trans h3.out.2.2.2; have h5 := h4.size
        go_wp2_with fail
        refine hK.out _ _ (SteadyX.mod h4) (fun hHeld => ?_)
        clear hK K
        refine wpAnyH_seq (is := [19, 20, 21, 22, 23]) (by kernel_rfl) (by kernel_rfl) (fun _ _ d _ _ h => by cases d <;> exact h) (by assumption) ?_
        iterate 5 (first | (refine TakeSeq.step (v := undef) rfl (Or.inr ⟨by rfl, rfl⟩) ?_; simp only [Act.put, List.setIfInBounds_toArray, List.set_cons_zero, List.set_cons_succ, List.getElem_toArray, List.getElem_cons_zero, List.getElem_cons_succ]) | (refine TakeSeq.step (v := ?_) rfl (Or.inl ⟨by rfl, ?_⟩) ?_; rotate_left 1; (focus (intro wq hSq; have hrd := hSq.rule; go_simp; with_reducible rfl)); simp only [Act.put, List.setIfInBounds_toArray, List.set_cons_zero, List.set_cons_succ, List.getElem_toArray, List.getElem_cons_zero, List.getElem_cons_succ]))
        refine TakeSeq.done ?_
        refine wpAnyH_ready (rs := [24]) (by kernel_rfl) (by simp) ?_
        refine AllReadyH.cons rfl (fun K hK => ?_) (AllReadyH.nil)
        rw [if_pos (by rfl)]
        go_simp
        refine hK.out _ _ (SteadyX.mod (h4.alloc _)) (fun hHeld => ?_)
        clear hK K
        refine wpAnyH_ready (rs := [25]) (by kernel_rfl) (by simp) ?_
        refine AllReadyH.cons rfl (fun K hK => ?_) (AllReadyH.nil)
        rw [if_pos (by rfl)]
        go_simp
        refine hK.out _ _ (SteadyX.mod (h4.alloc _)) (fun hHeld => ?_)
        clear hK K
        refine wpAnyH_seq (is := [26, 27, 28]) (by kernel_rfl) (by kernel_rfl) (fun _ _ d _ _ h => by cases d <;> exact h) (by assumption) ?_
        iterate 3 (first | (refine TakeSeq.step (v := undef) rfl (Or.inr ⟨by rfl, rfl⟩) ?_; simp only [Act.put, List.setIfInBounds_toArray, List.set_cons_zero, List.set_cons_succ, List.getElem_toArray, List.getElem_cons_zero, List.getElem_cons_succ]) | (refine TakeSeq.step (v := ?_) rfl (Or.inl ⟨by rfl, ?_⟩) ?_; rotate_left 1; (focus (intro wq hSq; have hrd := hSq.rule; go_simp; with_reducible rfl)); simp only [Act.put, List.setIfInBounds_toArray, List.set_cons_zero, List.set_cons_succ, List.getElem_toArray, List.getElem_cons_zero, List.getElem_cons_succ]))
        refine TakeSeq.done ?_
        refine wpAnyH_done (by kernel_rfl) ?_ _
        go_wp2_with fail
        go_meet
        obtain ⟨g0, ⟨v', g1, g2⟩, g3, g4⟩ := h3.out
        have hba := below_alloc (Below.refl w3.heap.size w3) (.cells #[.int .i64 0, .slice p3 gl3 c3] 151)
        exact ⟨rfl, rfl, rfl, _, p3, gl3, c3, rfl, h5, Blk.made _ _ _, Lib.hid ⟨g0.below hba, ⟨v', g1.kept hba, g2.below hba⟩, g3.below hba, h4.alloc _⟩⟩
      · skip
        rw [if_pos (by rfl)]
        go_simp
        refine hK.out _ _ (SteadyX.of (by (repeat (first | with_reducible exact Below.refl _ _ | with_reducible assumption | with_reducible refine Below.setCell ?_ (by first | (simp; done) | (simp; omega)) _ | with_reducible refine below_alloc ?_ _ | with_reducible refine below_drewN ?_ _ | with_reducible refine Below.drew ?_ | with_reducible refine below_step ?_ (by assumption))))) (fun hHeld => ?_)
        clear hK K
        refine wpAnyH_ready (rs := [18]) (by kernel_rfl) (by simp) ?_
        refine AllReadyH.cons rfl (fun K hK => ?_) (AllReadyH.nil)
        rw [if_pos (by rfl)]
        go_simp
        go_at_call 55; refine (HPB.out _ (by have := HB.out.1; (repeat (first | with_reducible exact Below.refl _ _ | with_reducible assumption | with_reducible refine Below.setCell ?_ (by first | (simp; done) | (simp; omega)) _ | with_reducible refine below_alloc ?_ _ | with_reducible refine below_drewN ?_ _ | with_reducible refine Below.drew ?_ | with_reducible refine below_step ?_ (by assumption))))).mono ?_; rintro e w3 ⟨p3, gl3, c3, rfl, h3⟩; have h4 : Mod (fun k => k = g.pr ∨ k = b) W w3 := (Mod.of_below (by (repeat (first | with_reducible exact Below.refl _ _ | with_reducible assumption | with_reducible refine Below.setCell ?_ (by first | (simp; done) | (simp; omega)) _ | with_reducible refine below_alloc ?_ _ | with_reducible refine below_drewN ?_ _ | with_reducible refine Below.drew ?_ | with_reducible refine below_step ?_ (by assumption))))).trans h3.out.2.2.2; have h5 := h4.size; have BD3 : Blk w3 W.heap.size 151 #[.int .i64 0, .slice none 0 0] := h3.out.2.2.2.blk (Blk.made _ 151 #[.int .i64 0, .slice none 0 0]) (show ¬ (W.heap.size = g.pr ∨ W.heap.size = b) by omega); have kd3 := BD3.cell; have fd3 := BD3.free; have ld3 := BD3.lt
        go_wp2_with fail
        refine hK.out _ _ (SteadyX.mod h4) (fun hHeld => ?_)
        clear hK K
        refine wpAnyH_seq (is := [19, 20, 21, 22, 23]) (by kernel_rfl) (by kernel_rfl) (fun _ _ d _ _ h => by cases d <;> exact h) (by assumption) ?_
        iterate 5 (first | (refine TakeSeq.step (v := undef) rfl (Or.inr ⟨by rfl, rfl⟩) ?_; simp only [Act.put, List.setIfInBounds_toArray, List.set_cons_zero, List.set_cons_succ, List.getElem_toArray, List.getElem_cons_zero, List.getElem_cons_succ]) | (refine TakeSeq.step (v := ?_) rfl (Or.inl ⟨by rfl, ?_⟩) ?_; rotate_left 1; (focus (intro wq hSq; have hrd := hSq.rule; go_simp; with_reducible rfl)); simp only [Act.put, List.setIfInBounds_toArray, List.set_cons_zero, List.set_cons_succ, List.getElem_toArray, List.getElem_cons_zero, List.getElem_cons_succ]))
        refine TakeSeq.done ?_
        refine wpAnyH_ready (rs := [25]) (by kernel_rfl) (by simp) ?_
        refine AllReadyH.cons rfl (fun K hK => ?_) (AllReadyH.nil)
        rw [if_pos (by rfl)]
        go_simp
        refine hK.out _ _ (SteadyX.mod ((h4.put (p := ⟨W.heap.size, 0, none⟩) (.inr (Nat.le_refl _)) _).put (p := ⟨W.heap.size, 1, none⟩) (.inr (Nat.le_refl _)) _)) (fun hHeld => ?_)
        clear hK K
        refine wpAnyH_seq (is := [26, 27, 28]) (by kernel_rfl) (by kernel_rfl) (fun _ _ d _ _ h => by cases d <;> exact h) (by assumption) ?_
        iterate 3 (first | (refine TakeSeq.step (v := undef) rfl (Or.inr ⟨by rfl, rfl⟩) ?_; simp only [Act.put, List.setIfInBounds_toArray, List.set_cons_zero, List.set_cons_succ, List.getElem_toArray, List.getElem_cons_zero, List.getElem_cons_succ]) | (refine TakeSeq.step (v := ?_) rfl (Or.inl ⟨by rfl, ?_⟩) ?_; rotate_left 1; (focus (intro wq hSq; have hrd := hSq.rule; go_simp; with_reducible rfl)); simp only [Act.put, List.setIfInBounds_toArray, List.set_cons_zero, List.set_cons_succ, List.getElem_toArray, List.getElem_cons_zero, List.getElem_cons_succ]))
        refine TakeSeq.done ?_
        refine wpAnyH_done (by kernel_rfl) ?_ _
        go_wp2_with fail
        go_meet
        obtain ⟨g0, ⟨v', g1, g2⟩, g3, g4⟩ := h3.out
        have hmr := ((Mod.refl (fun k => k = W.heap.size) w3).put (p := ⟨W.heap.size, 0, none⟩) (.inl rfl) (.int .i64 0)).put (p := ⟨W.heap.size, 1, none⟩) (.inl rfl) (.slice p3 gl3 c3)
        refine ⟨rfl, rfl, rfl, _, p3, gl3, c3, rfl, Nat.le_refl _, Blk.all2 BD3 _ _, Lib.hid ⟨g0.mod hmr (fun k hk => .inr ⟨_, _, hk ▸ BD3, by decide⟩), ⟨v', hmr.blk g1 (show ¬ g.pr = W.heap.size by omega), g2.mod hmr (fun k hk => .inr ⟨_, _, hk ▸ BD3, by decide, by decide⟩)⟩, g3.mod hmr (show ¬ b = W.heap.size by omega), ?_⟩⟩
        exact (h4.put (p := ⟨W.heap.size, 0, none⟩) (.inr (Nat.le_refl _)) _).put (p := ⟨W.heap.size, 1, none⟩) (.inr (Nat.le_refl _)) _
    case rest =>
      obtain ⟨rfl, rfl, rfl, r, p, gl, c, rfl, hWr, BR, HR⟩ := hcut
      have HN : Hid (g.On wc B dn hv cd ch { s with mem := s.mem.set n (x.v.exec m pc).2, q := s.q.set n rest } ∧ Mod (stepS g dn hv) w wc ∧ WordsAt wc B (.slice p gl c) (x.got ++ (x.v.exec m pc).1)) := Lib.hid (by
        obtain ⟨hon, hcase, hpp, hb, hxq, hxm, hps⟩ := HO.out
        obtain ⟨g0, g1, g2, g3⟩ := HR.out
        obtain ⟨-, h1, h2⟩ := step_more g B dn hv cd ch n s w W wc x rest m _ csp b rest hon hb hxq hpp hps hprb HB.out.1 g1 g2 g3
        exact ⟨h1, h2, g0⟩)
      have hf := HN.out.1.at_.fab
      unfold Geo.fcs at hf
      obtain ⟨csc, _, _, hcb, -, -, -, c3, c4, -⟩ := HN.out.1.client
      obtain ⟨hB1, hB2, csd, csh, hbd, hbh, hl1, hl2, hcells⟩ := HN.out.1.done
      obtain ⟨a1, a2, v0, a3, -⟩ := hcells x.slot _ (List.getElem?_eq_getElem hslot)
      have kfc := hf.cell
      have lfc := hf.lt
      have k3 : wc.cell? ⟨g.cl, 3, none⟩ = some (.slice (some ⟨dn, 0, none⟩) s.done.length cd) := (hcb.cell _).trans c3
      have k4 : wc.cell? ⟨g.cl, 4, none⟩ = some (.slice (some ⟨hv, 0, none⟩) s.done.length ch) := (hcb.cell _).trans c4
      have lcl := hcb.lt
      have d0 : wc.cell? ⟨dn, x.slot * 2, none⟩ = some (.int .i64 0) := (hbd.cell _).trans a2
      have d1 : wc.cell? ⟨dn, x.slot * 2 + 1, none⟩ = some v0 := (hbd.cell _).trans a3
      have d2 : wc.cell? ⟨hv, x.slot, none⟩ = some (.bool (s.done[x.slot]'hslot).isSome) := (hbh.cell _).trans a1
      have fdn := hbd.free
      have fhv := hbh.free
      have ldn := hbd.lt
      have lhv := hbh.lt
      have kr := BR.cell
      have lr := BR.lt
      have BCc := HR.out.2.2.2.blk HB.out.2 (show ¬ (w.heap.size = g.pr ∨ w.heap.size = b) by omega)
      have kcc := BCc.cell
      have lcc := BCc.lt
      have is0 : (0 : Int) ≤ x.slot := by omega
      have is1 : (x.slot : Int) < s.done.length := by omega
      have e1 : g.f < dn ∨ dn < g.f := by have := hf.ne hbd (by decide); omega
      have e2 : g.f < hv ∨ hv < g.f := by have := hf.ne hbh (by decide); omega
      have e3 : g.cl < dn ∨ dn < g.cl := by have := hcb.ne hbd (by decide); omega
      have e4 : g.cl < hv ∨ hv < g.cl := by have := hcb.ne hbh (by decide); omega
      have e5 : w.heap.size < dn ∨ dn < w.heap.size := by have := BCc.ne hbd (by decide); omega
      have e6 : w.heap.size < hv ∨ hv < w.heap.size := by have := BCc.ne hbh (by decide); omega
      have e7 : r < dn ∨ dn < r := by
        obtain ⟨_, _, _, _, hbd0, -⟩ := HO.out.1.done
        have := hbd0.lt
        omega
      have e8 : r < hv ∨ hv < r := by have := BR.ne hbh (by decide); omega
      have e9 : dn < hv ∨ hv < dn := by have := hbd.ne hbh (by decide); omega
      clear hf hcb c3 c4 hbd hbh hl1 hl2 hcells a1 a2 a3 BCc BR kf lf kl ll kc lc
      go_wp2_with fail
      refine wp_region_held_drew (S := SteadyX dn hv wc) (by kernel_rfl) (SteadyX.of (by (repeat (first | with_reducible exact Below.refl _ _ | with_reducible assumption | with_reducible refine Below.setCell ?_ (by first | (simp; done) | (simp; omega)) _ | with_reducible refine below_alloc ?_ _ | with_reducible refine below_drewN ?_ _ | with_reducible refine Below.drew ?_ | with_reducible refine below_step ?_ (by assumption))))) ?_
      intro hSt
      refine wpAnyH_seq (is := [0, 1, 2, 3, 4, 5, 6, 7, 8, 9, 10, 11, 12, 13, 14, 15, 16, 17, 18, 19, 20, 21]) (by kernel_rfl) (by kernel_rfl) (fun _ _ d _ _ h => by cases d <;> exact h) (by assumption) ?_
      iterate 22 (first | (refine TakeSeq.step (v := undef) rfl (Or.inr ⟨by rfl, rfl⟩) ?_; simp only [Act.put, List.setIfInBounds_toArray, List.set_cons_zero, List.set_cons_succ, List.getElem_toArray, List.getElem_cons_zero, List.getElem_cons_succ]) | (refine TakeSeq.step (v := ?_) rfl (Or.inl ⟨by rfl, ?_⟩) ?_; rotate_left 1; (focus (intro wq hSq; have hrd := hSq.rule; go_simp; with_reducible rfl)); simp only [Act.put, List.setIfInBounds_toArray, List.set_cons_zero, List.set_cons_succ, List.getElem_toArray, List.getElem_cons_zero, List.getElem_cons_succ]))
      refine TakeSeq.done ?_
      refine wpAnyH_ready (rs := [22]) (by kernel_rfl) (by simp) ?_
      refine AllReadyH.cons rfl (fun K hK => ?_) (AllReadyH.nil)
      rw [if_pos (by rfl)]
      go_simp
      refine hK.out _ _ (SteadyX.mod (((Mod.refl (fun k => k = dn ∨ k = hv) wc).put (p := ⟨dn, x.slot * 2, none⟩) (.inl (.inl rfl)) _).put (p := ⟨dn, x.slot * 2 + 1, none⟩) (.inl (.inl rfl)) _).drew) (fun hHeld => ?_)
      clear hK K
      refine wpAnyH_seq (is := [23]) (by kernel_rfl) (by kernel_rfl) (fun _ _ d _ _ h => by cases d <;> exact h) (by assumption) ?_
      iterate 1 (first | (refine TakeSeq.step (v := undef) rfl (Or.inr ⟨by rfl, rfl⟩) ?_; simp only [Act.put, List.setIfInBounds_toArray, List.set_cons_zero, List.set_cons_succ, List.getElem_toArray, List.getElem_cons_zero, List.getElem_cons_succ]) | (refine TakeSeq.step (v := ?_) rfl (Or.inl ⟨by rfl, ?_⟩) ?_; rotate_left 1; (focus (intro wq hSq; have hrd := hSq.rule; go_simp; with_reducible rfl)); simp only [Act.put, List.setIfInBounds_toArray, List.set_cons_zero, List.set_cons_succ, List.getElem_toArray, List.getElem_cons_zero, List.getElem_cons_succ]))
      refine TakeSeq.done ?_
      refine wpAnyH_ready (rs := [24]) (by kernel_rfl) (by simp) ?_
      refine AllReadyH.cons rfl (fun K hK => ?_) (AllReadyH.nil)
      rw [if_pos (by rfl)]
      go_simp
      refine hK.out _ _ (SteadyX.mod ((((Mod.refl (fun k => k = dn ∨ k = hv) wc).put (p := ⟨dn, x.slot * 2, none⟩) (.inl (.inl rfl)) _).put (p := ⟨dn, x.slot * 2 + 1, none⟩) (.inl (.inl rfl)) _).put (p := ⟨hv, x.slot, none⟩) (.inl (.inr rfl)) _).drew) (fun hHeld => ?_)
      clear hK K
      refine wpAnyH_done (by kernel_rfl) ?_ _
      go_wp2_with fail
      refine bodyPost_ret (results_tmp rfl _ _ _) rfl ?_
      obtain ⟨h1, h2⟩ := step_done g B dn hv cd ch x.slot _ wc p gl c _ HN.out.1 hslot HN.out.2.2
      obtain ⟨hon, hcase, -⟩ := HO.out
      rcases hcase with ⟨h5, _⟩ | ⟨_, hs'⟩
      · exact absurd h5 hmore
      · rw [hs']
        exact ⟨rfl, h1.below (Below.refl _ _).drew, (HN.out.2.1.trans (h2.imp (fun k hk => by
          rcases hk with h | h
          · exact .inr (.inr (.inl h))
          · exact .inr (.inr (.inr h))))).drew⟩
end Go.Proofs.YtoidjgongafnkaaGreatDoor
