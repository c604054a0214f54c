/- A batch is played on the reference's fabric. -/
import Derived.Test.YtoidjgongafnkaaGreatDoorWFi
import Derived.Test.YtoidjgongafnkaaGreatDoorWFh
import Derived.Deep.LoopGhost
set_option linter.unusedVariables false
set_option linter.unusedSimpArgs false
set_option linter.unusedSectionVars false
set_option linter.constructorNameAsVariable false
namespace Go.Proofs.YtoidjgongafnkaaGreatDoor
open Go.RowKit

theorem Cm.St.play2_step {s s' : Cm.St} {f : Nat} (h : s.play2 (f + 1) = some s') : s.okb = true ∧ (s.waiting = 0 ∧ s' = s ∨ s.waiting ≠ 0 ∧ ∃ n s1, s.first = some n ∧ s.stepAt n = some s1 ∧ s1.play2 f = some s') := by
  unfold Cm.St.play2 at h
  split at h
  · rename_i hok
    refine ⟨hok, ?_⟩
    split at h
    · rename_i hw
      exact .inl ⟨hw, by simpa using h.symm⟩
    · rename_i hw
      refine .inr ⟨hw, ?_⟩
      split at h
      · rename_i n hn
        split at h
        · rename_i s1 hs1
          exact ⟨n, s1, hn, hs1, h⟩
        · simp at h
      · simp at h
  · simp at h
theorem Cm.St.stepAt_len {s s' : Cm.St} {n : Nat} (h : s.stepAt n = some s') : s'.done.length = s.done.length := by
  obtain ⟨x, rest, m, pc, -, -, -, -, ⟨-, e⟩ | ⟨-, e⟩⟩ := Cm.St.stepAt_some h
  · rw [e]
  · rw [e]; simp
/-- The blocks of a fabric that a batch changes. -/
def Geo.own (g : Geo) (k : Nat) : Prop := k = g.pr ∨ k = g.cl ∨ k ∈ g.mb
theorem Geo.At.own_lt {g : Geo} {w : World} {B k : Nat} (h : g.At w B) (hk : g.own k) : k < B := by
  rcases hk with rfl | rfl | hk
  · exact h.lp
  · exact h.lc
  · exact h.lm k hk
def PlayLoop (g : Geo) (B dn hv L : Nat) (s' : Cm.St) (w : World) (k : Nat) (wr : World) : Prop :=
  ∃ s1 : Cm.St, s1.play2 k = some s' ∧ Hid (g.On wr B dn hv L L s1 ∧ s1.done.length = L ∧ Mod (fun k => g.own k ∨ k = dn ∨ k = hv) w wr)
def PlayPost (g : Geo) (B : Nat) (l : List Cm.Vb) (s' : Cm.St) (w : World) (e : Ending) (w' : World) : Prop :=
  (∃ v, e = .returned v ∧ DonesAt w' B v (l.map Cm.reply)) ∧ g.Off w' B s' ∧ Mod g.own w w'

set_option maxRecDepth 10000 in
set_option maxHeartbeats 4000000 in
theorem play_ok (g : Geo) (B lo0 N : Nat) (l : List Cm.Vb) (s s' : Cm.St) (p : Option Addr) (c : Nat) (w : World) (hoff : g.Off w B s) (hq : ∀ l ∈ s.q, l = []) (hl : AsksAt w lo0 (.slice p l.length c) l) (hl1 : 1 ≤ l.length) (hl2 : l.length ≤ 100)
    (hok : ∀ x ∈ l, x.Ok ∧ x.node < g.mb.length ∧ x.words.length ≤ 100) (hp : (s.post l).play2 N = some s') (hd : s'.done = l.map (fun v => some (Cm.reply v))) :
    Calls Tryz.prog 11 #[.pointer (some ⟨g.f, 0, none⟩), .int .i64 0, .slice p l.length c] w (PlayPost g B l s' w) := by
  have HP := fabPost_ok g B lo0 l s.q (.slice none 0 0) (.slice none 0 0) p c w hoff.at_ hoff.client hoff.pairs hq hl hl1 hl2 hok
  have HO := Lib.hid hoff
  have HPl := Lib.hid (And.intro hp hd)
  clear hoff hq hl hok hp hd
  go_enter Tryz.func11, Tryz.ntmps11
  go_wp2_with fail
  go_at_call 25
  refine HP.mono ?_
  rintro e w1 ⟨rfl, dn, hv, hdn, hhv, hcl, hpr, hdnat, hm⟩
  have HS : Hid (PlayLoop g B dn hv l.length s' w N w1) := Lib.hid (by
    have hat := HO.out.at_
    obtain ⟨csn, hnd, -⟩ := hat.nodes
    obtain ⟨csl, hlv, -⟩ := hat.live
    obtain ⟨hql, csp, hpp, -⟩ := HO.out.pairs
    obtain ⟨csc, _, _, hcb, -⟩ := HO.out.client
    refine ⟨_, HPl.out.1, Lib.hid ⟨⟨hat.mod hm ?_ ?_ ?_, ?_, ?_, HO.out.mems.mod hm (fun b hb => ?_), ?_⟩, ?_, hm.imp (fun k hk => ?_)⟩⟩
    · rintro (e | e)
      · exact hat.fab.ne hpp (by decide) e
      · exact hat.fab.ne hcb (by decide) e
    · rintro (e | e)
      · exact hnd.ne hpp (by decide) e
      · exact hnd.ne hcb (by decide) e
    · rintro (e | e)
      · exact hlv.ne hpp (by decide) e
      · exact hlv.ne hcb (by decide) e
    · simpa [Cm.St.post] using hcl
    · have : (s.post l).q = postQ g.mb.length l := by rw [← hql]; rfl
      rw [this]
      exact hpr
    · obtain ⟨i, hi, hk2⟩ := List.mem_iff_getElem.1 hb
      have hk3 : g.mb[i]? = some b := by rw [List.getElem?_eq_getElem hi, hk2]
      obtain ⟨m2, hm2⟩ : ∃ m2, s.mem[i]? = some m2 := ⟨_, List.getElem?_eq_getElem (by rw [HO.out.mems.1]; exact hi)⟩
      have hmm := HO.out.mems.2 i _ m2 hk3 hm2
      rintro (e | e)
      · exact hmm.ne hpp (by decide) e.symm
      · exact hmm.ne hcb (by decide) e.symm
    · exact hdnat
    · simp [Cm.St.post]
    · rcases hk with rfl | rfl
      · exact .inl (.inl rfl)
      · exact .inl (.inr (.inl rfl)))
  clear hcl hpr hdnat hm HP
  go_wp2_with fail
  go_loopg [] N (fun N wr => PlayLoop g B dn hv l.length s' w N wr)
  case atStart => exact HS.out
  case round =>
    obtain ⟨s1, hpl, H⟩ := hrel
    rcases gk with _ | gk
    · simp [Cm.St.play2] at hpl
    obtain ⟨hokb, hcase⟩ := Cm.St.play2_step hpl
    obtain ⟨wn, hwn⟩ : ∃ wn, wn = (s1.done.filter Option.isNone).length := ⟨_, rfl⟩
    have HWt : Hid (Calls Tryz.prog 26 #[.pointer (some ⟨g.f, 0, none⟩), .int .i64 0] wr fun e w' => e = .returned (.int .i64 (wn : Nat)) ∧ wr = w') := Lib.hid (by
      have hon := H.out.1
      rw [hwn]
      exact waiting_ok g B dn hv _ _ _ s1.done wr hon.at_ hon.client hon.done (by rw [H.out.2.1]; omega))
    have HC := Lib.hid (And.intro hcase (And.intro hokb hwn))
    clear hcase hokb hwn hpl HS
    go_wp2_with fail
    go_at_call 26
    refine HWt.out.mono ?_
    rintro e w2 ⟨rfl, rfl⟩
    rcases Nat.eq_zero_or_pos wn with hw0 | hw0
    · subst hw0
      have HTk : Hid (s' = s1 ∧ Calls Tryz.prog 29 #[.pointer (some ⟨g.f, 0, none⟩), .int .i64 0] wr (FTake g B s1 (l.map Cm.reply) wr)) := Lib.hid (by
        obtain ⟨hcase, -, hwn⟩ := HC.out
        have hs : s' = s1 := by
          rcases hcase with ⟨_, h⟩ | ⟨h, _⟩
          · exact h
          · exact absurd hwn.symm h
        refine ⟨hs, fabTake_ok g B dn hv _ _ s1 (l.map Cm.reply) wr H.out.1 (by rw [H.out.2.1]; omega) ?_⟩
        rw [← hs, HPl.out.2]
        simp [List.map_map, Function.comp_def])
      go_wp2_with fail
      go_at_call 29
      refine HTk.out.2.mono ?_
      rintro e w3 ⟨⟨v, rfl, hv3⟩, hoff3, hm3⟩
      have hlc := H.out.1.at_.lc
      have HF : Hid (PlayPost g B l s' w (.returned v) w3) := Lib.hid (by
        rw [HTk.out.1]
        refine ⟨⟨v, rfl, hv3⟩, hoff3, ((H.out.2.2.trans (hm3.imp (fun k hk => .inl (.inr (.inl hk))))).imp' (fun k hk1 hk2 => ?_))⟩
        rcases hk2 with h | h | h
        · exact h
        · omega
        · omega)
      clear hv3 hoff3 hm3
      go_wp2_with fail
      refine bodyPost_ret (results_tmp rfl _ _ _) rfl ?_
      exact HF.out
    · have hb : decide ((0 : Int) < wn) = true := by simp; omega
      obtain ⟨n, s2, hfirst, hstep, hpl2⟩ : ∃ n s2, s1.first = some n ∧ s1.stepAt n = some s2 ∧ s2.play2 gk = some s' := by
        obtain ⟨hcase, -, hwn⟩ := HC.out
        rcases hcase with ⟨h, _⟩ | ⟨_, h⟩
        · have : wn = 0 := by rw [hwn]; exact h
          omega
        · exact h
      obtain ⟨t, ht⟩ : ∃ t, chosen s1.q 0 = n :: t := by
        have h1 := chosen_first s1.q 0
        have h2 : Cm.firstOf s1.q 0 = some n := hfirst
        rw [h2] at h1
        rcases hc : chosen s1.q 0 with _ | ⟨a, t⟩
        · rw [hc] at h1; simp at h1
        · rw [hc] at h1
          obtain rfl : n = a := by simpa using h1
          exact ⟨t, rfl⟩
      have HCh : Hid (Calls Tryz.prog 28 #[.pointer (some ⟨g.f, 0, none⟩)] wr fun e w' => ∃ v, e = .returned v ∧ ChRow wr (n :: t) v w') := Lib.hid (by
        rw [← ht]
        exact choices_ok g B s1.q wr H.out.1.at_ H.out.1.pairs)
      have HSt : Hid (s2.play2 gk = some s' ∧ s2.done.length = l.length ∧ ∀ W, Below wr.heap.size wr W → Calls Tryz.prog 27 #[.pointer (some ⟨g.f, 0, none⟩), .agg #[.int .i64 (-1), .int .i64 0, .int .i64 (n : Nat)]] W (FStep g B dn hv l.length l.length s2 W)) := Lib.hid ⟨hpl2, by rw [Cm.St.stepAt_len hstep]; exact H.out.2.1, fun W hbW =>
        fabStep_ok g B dn hv l.length l.length n s1 s2 W (H.out.1.below hbW) HC.out.2.1 hstep⟩
      clear hfirst hstep hpl2 ht
      go_wp2_with fail
      go_at_call 28
      refine HCh.out.mono ?_
      rintro e w3 ⟨v, rfl, hown, hbw⟩
      obtain ⟨gv, cv, rfl⟩ := own_form hown (by simp)
      have k0 : w3.cell? ⟨gv, 0, none⟩ = some (.int .i64 (-1)) := own_cells hown 0 _ (by simp [chCells])
      have k1 : w3.cell? ⟨gv, 1, none⟩ = some (.int .i64 0) := own_cells hown 1 _ (by simp [chCells])
      have k2 : w3.cell? ⟨gv, 2, none⟩ = some (.int .i64 (n : Nat)) := own_cells hown 2 _ (by simp [chCells])
      have lv := (own_lt hown).2
      have HB3 := Lib.hid hbw
      clear hown hbw
      go_wp2_with fail
      go_at_call 27
      refine (HSt.out.2.2 _ HB3.out).mono ?_
      rintro e w4 ⟨rfl, hon4, hm4⟩
      have HN : Hid (PlayLoop g B dn hv l.length s' w gk w4) := Lib.hid (by
        refine ⟨s2, HSt.out.1, Lib.hid ⟨hon4, HSt.out.2.1, (H.out.2.2.then_below HB3.out).trans (hm4.imp (fun k hk => ?_))⟩⟩
        rcases hk with h | h | h | h
        · exact .inl (.inl h)
        · exact .inl (.inr (.inr h))
        · exact .inr (.inl h)
        · exact .inr (.inr h))
      clear hon4 hm4 k0 k1 k2 lv
      go_wp2_with fail
      go_roundg gk
      case measure => omega
      case rel => exact HN.out
end Go.Proofs.YtoidjgongafnkaaGreatDoor
