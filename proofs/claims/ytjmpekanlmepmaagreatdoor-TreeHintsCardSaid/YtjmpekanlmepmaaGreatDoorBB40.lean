/- The step function on an index: a separator is posted. -/
import Derived.Test.YtjmpekanlmepmaaGreatDoorBB35
import Derived.Test.YtjmpekanlmepmaaGreatDoorBB38
import Derived.Test.YtjmpekanlmepmaaGreatDoorBB39
import Derived.Test.YtjmpekanlmepmaaGreatDoorBB30
set_option linter.all false
set_option maxRecDepth 20000
set_option maxHeartbeats 8000000
open Go.Lib (hid)
namespace Go.Proofs.YtjmpekanlmepmaaGreatDoor
open Go.RowKit
section
variable {ps : List Bt.Page} {nx : Int} {es : List Bt.Entry} {T : List (List Bt.Cell)} (h : Bt.Inv ps nx es T) (op : Bt.Op) (hk : 1 ≤ op.key) (hk2 : op.key ≤ Bt.Z08) {lev : Nat} (hlev : op.level = (lev : Int)) (hl8 : lev < 8)
include h hk hk2 hlev hl8
theorem Zc2 (hf : Z1R op ps nx) (vf vk : Value) (b : Nat) (w : World) (hr : IsRun (fun _ => False) op ps vf vk (Bt.S0 ps T) b w) : Calls Tryz.prog 55 #[.pointer (some ⟨b, 0, none⟩)] w (Z0y (fun _ => False) op ps vf vk ((Bt.S0 ps T).post op ps) b (.tuple #[]) w) := by
 by_cases hT : T = []
 ·subst hT
  exact post_nil _ op ps vf vk _ b w hr rfl
 have hroot : (Bt.S0 ps T).root ≠ Bt.nilP := fun e => hT (h.rootNil.1 e)
 have hlr : 0 ≤ op.level ∧ op.level < 8 := by omega
 have hl1 : op.level + 1 = ((lev + 1 : Nat) : Int) := by omega
 by_cases hlen : T.length ≤ lev + 1
 ·have hdA : Bt.Dives ps (op.level + 1) op.key (Bt.S0 ps T) (Bt.S0 ps T) .absent := by rw [hl1]; exact h.divesAbsent hlen hT op.key _ rfl
  exact Z8l _ op ps vf vk _ b _ w hr (fun _ h => h.elim) hroot (Z24 ps T) hlr hdA
 obtain ⟨pre, A, l, n, R, post, hs, i1, i2, i3, i4, i5, i6, i7, i8⟩ := h.dives (lev := lev + 1) (by omega) hk hk2
 have hd : Bt.Dives ps (op.level + 1) op.key (Bt.S0 ps T) (Bt.after hs (T.length : Int) (Bt.S0 ps T)) (.at_ (Bt.pg ps l) n) := by rw [hl1]; exact i8 _ rfl
 obtain ⟨lo, post, rfl⟩ : ∃ lo p, post = lo :: p := by
  cases post with
  | nil => simp at i2
  | cons lo p => exact ⟨lo, p, rfl⟩
 have hlp : post.length = lev := by simpa using i2
 have hlevels : Bt.Levels ((A ++ (l, n) :: R) :: lo :: post) := (i1 ▸ h.tree.levels).append
 have hlinks : Bt.Links ((A ++ (l, n) :: R) :: lo :: post) := (i1 ▸ h.tree.links).append
 have hnp : ¬ (l, n).2.passes op.key := fun hp => by
  rcases hp with hp | hp
  ·rw [i4] at hp; cases hp
  ·have : n.high < op.key := hp
   omega
 obtain ⟨a, e, b', a', x, b'', z1, z2, z3, z4, z5, z6, z7, z8, z9, z10⟩ := Bt.Levels.down hlevels hlinks (by omega) rfl i3 hnp
 have hlvU := hlevels.1
 have hlvL := hlevels.2.1
 have hse : Bt.Sees ps l n := h.sees (l, n) i6
 have hxm : x ∈ Bt.flat T := by rw [i1, z5]; simp [Bt.flat]
 have hsx : Bt.Sees ps x.1 x.2 := h.sees x hxm
 have hrx := h.range x hxm
 have hrg : 105 ≤ l ∧ l < nx := h.range (l, n) i6
 have hgn : Bt.Good n := hse.good
 have hv := Bt.Node.valid_parts hgn.valid
 have hRu := hlvU.risingEnts
 have hz1 : n.entries = a ++ e :: b' := z1
 have hEu : Bt.ents (A ++ (l, n) :: R) = (Bt.ents A ++ a) ++ e :: (b' ++ Bt.ents R) := by rw [Bt.Z0I, Bt.Z0N, show (l, n).2.entries = n.entries from rfl, hz1]; simp
 rw [hEu] at hRu
 have hmid := Bt.Z3X hRu
 have hq : Bt.Z1l 0 (Bt.ents A ++ a) = Bt.Z05 0 a' := by rw [Bt.Z43]; exact z8.symm
 have hc : Bt.child n.entries op.key = a.length := z2.symm
 have hcl0 : Bt.child n.entries op.key < n.entries.length := by rw [hc, hz1]; simp
 have hgd : n.entries.getD (Bt.child n.entries op.key) default = e := by rw [hc, hz1]; simp [List.getD_eq_getElem?_getD, List.getElem?_append_right]
 have hl : (Bt.after hs (T.length : Int) (Bt.S0 ps T)).look ps (n.entries.getD (Bt.child n.entries op.key) default).to true = (Bt.after hs (T.length : Int) (Bt.S0 ps T), some (Bt.pg ps x.1, x.2)) := by rw [hgd, z6]; exact hsx.look _ _
 have hxl : x.2.level = op.level := by rw [show x.2.level = (post.length : Int) from hlvL.level x (by rw [z5]; simp)]; omega
 have hgx := hsx.good
 have hxr := hgx.range
 by_cases hfound : e.key ≤ x.2.high
 ·exact Z9d _ op ps vf vk _ b _ _ n w hr (fun _ h => h.elim) hroot (Z24 ps T) hlr hd hcl0 _ _ hl hxl z7 (by rw [hgd]; exact hfound)
 have hfr : op.fresh = [] ∨ ∃ f q, op.fresh = [f] ∧ f.Ok ∧ Bt.allocate f 4 0 = (q, 0) ∧ q.line ≠ (Bt.pg ps l).line ∧ q.line ≠ (Bt.pg ps x.1).line := by
  rcases hf.cases h with hf | ⟨f, q, hf, hfo, hfa, hfl⟩
  ·exact .inl hf
  ·refine .inr ⟨f, q, hf, hfo, hfa, ?_, ?_⟩
   ·rw [hfl, hse.line]; omega
   ·rw [hfl, hsx.line]; omega
 have hxh : x.2.high < (n.entries.getD (Bt.child n.entries op.key) default).key := by rw [hgd]; omega
 by_cases ha : a.length = 0
 ·exact Zan _ op ps vf vk _ b _ _ n w hr (fun _ h => h.elim) hroot (Z24 ps T) hlr hd hcl0 _ _ hl hxl z7 hxh ⟨hxr.1, hxr.2.1⟩ hfr (by rw [hc]; exact ha)
 ·refine Zam _ op ps vf vk _ b _ _ n w hr (fun _ h => h.elim) hroot (Z24 ps T) hlr hd hcl0 _ _ hl hxl z7 hxh ⟨hxr.1, hxr.2.1⟩ hfr (by rw [hc]; omega) ?_
  have hlow := (Bt.Rise.at_low (z5 ▸ hlvL.rise) z7).1
  have hlt : a.length - 1 < a.length := by omega
  have hg : n.entries.getD (Bt.child n.entries op.key - 1) default = a[a.length - 1] := by
   rw [hc, hz1, List.getD_eq_getElem?_getD, List.getElem?_append_left hlt, List.getElem?_eq_getElem hlt]
   rfl
  rw [hg]
  have hm := hmid.1 a[a.length - 1] (by rw [List.mem_append]; exact .inr (List.getElem_mem hlt))
  omega
theorem Z6K (hv : op.isValid = true) {ws : List Bt.Page} {o : Bt.Out} (hn : Bt.next op ps = ⟨[], ws, o, true⟩) (fa ka : Option Addr) (fn fc kn kc : Nat) (w : World) (hfr : Z1R op ps nx) (hkind : op.kind = 5) : Steps op ps fa ka fn fc kn kc ws o w := by
 intro hf hk' hne
 have hgo : (Bt.S0 ps T).go op ps = (Bt.S0 ps T).post op ps := by unfold Bt.St.go; simp [hkind]
 have hst := h.step hv
 rw [hgo, hn] at hst
 obtain ⟨c1, c2, c3, c4⟩ := Bt.Z3a hst.symm
 have hlow := hfr.low h
 have hso : Z1u ((Bt.S0 ps T).post op ps).writes := by
  have h0 : Z1u (Bt.S0 ps T).writes := .inl rfl
  unfold Bt.St.post
  split
  ·exact h0
  ·rename_i hroot
   have hT : T ≠ [] := fun e => hroot (h.rootNil.2 e)
   have hl1 : op.level + 1 = ((lev + 1 : Nat) : Int) := by omega
   by_cases hlen : T.length ≤ lev + 1
   ·have hd : Bt.Dives ps (op.level + 1) op.key (Bt.S0 ps T) (Bt.S0 ps T) .absent := by rw [hl1]; exact h.divesAbsent hlen hT op.key _ rfl
    rw [hd.descend]
    exact h0
   ·obtain ⟨pre, A, l, n, R, post, hs, i1, i2, i3, i4, i5, i6, i7, i8⟩ := h.dives (lev := lev + 1) (by omega) hk hk2
    have hd : Bt.Dives ps (op.level + 1) op.key (Bt.S0 ps T) (Bt.after hs (T.length : Int) (Bt.S0 ps T)) (.at_ (Bt.pg ps l) n) := by rw [hl1]; exact i8 _ rfl
    rw [hd.descend]
    simp only
    have hlw := Bt.Z2V (Bt.after hs (T.length : Int) (Bt.S0 ps T)) ps (n.entries.getD (Bt.child n.entries op.key) default).to true
    generalize (Bt.after hs (T.length : Int) (Bt.S0 ps T)).look ps (n.entries.getD (Bt.child n.entries op.key) default).to true = r at hlw
    obtain ⟨t, r⟩ := r
    have ht : t.writes = [] := hlw
    have ht0 : Z1u t.writes := by rw [ht]; exact .inl rfl
    cases r with
    | none => exact ht0
    | some pn =>
      obtain ⟨xp, x⟩ := pn
      simp only
      split
      ·exact ht0
      ·split
       ·exact ht0
       ·split
        ·exact ht0
        ·split
         ·exact ht0
         ·refine Bt.Z4h _ _ _ _ _ _ ht (.inr (fun f rest e => ?_))
          have hse : Bt.Sees ps l n := h.sees _ i6
          have hrl : 105 ≤ l ∧ l < nx := h.range _ i6
          rw [hlow f rest e, hse.line]
          omega
 rw [Bt.Z1K hso] at c2
 rw [c2]
 have hR := h.rootIs
 exact Zas op ps fa ka fn fc kn kc w hf hk' hne hkind hv _ _ _ hR.here hR.free hR.read _ c1 hso o c3 c4 (hid (fun b w' hr => Zc2 h op hk hk2 hlev hl8 hfr _ _ b w' hr))
end
theorem Zbn (x P cap : Nat) (pages : List Bt.Page) (next : Int) (vk vt vg : Value) (op : Bt.Op) (ws : List Bt.Page) (o : Bt.Out) (w : World) (hx : Blk w x 58 (Z1P P pages.length cap next vk vt vg)) (hP : PagesAt P cap pages w) (hn : NoneAt w)
 (hPx : P < x) (hgP : 0 < P) (hgx : 0 < x) (ho : o.code ≠ 0) (ho2 : o.code ≠ 18) (hwe : ws.length = 0) (hsm : pages.length ≤ 1000000)
 (HN : Hid (∀ w', PgRow w' (.slice (some ⟨P, 0, none⟩) pages.length cap) pages → NoneAt w' → Calls Tryz.prog 27 #[.agg (Z0d op (.slice none 0 0)), .slice (some ⟨P, 0, none⟩) pages.length cap] w' (Z1S ws o w'))) :
 Calls Tryz.prog 31 #[.pointer (some ⟨x, 0, none⟩), .agg (Z0d op (.slice none 0 0))] w (Z94 x P cap (Z1t pages ws) next vk vt vg o w) := by
 have HX := hid hx
 have HPA := hid hP
 have HNO := hid hn
 have bw1 : decide ((0 : Int) < (ws.length : Int)) = false := by simp [hwe]
 have bw2 : decide (0 < ws.length) = false := by simp [hwe]
 have HWE := hid hwe
 have hxlt := hx.lt
 have hPlt := hP.lt
 have kx : ∀ i, w.cell? ⟨x, i, none⟩ = (#[.slice (some ⟨P, 0, none⟩) pages.length cap, .int .i64 next, vk, vt, vg] : Array Value)[i]? := hx.cell
 have b0 : (o.code == 0) = false := by simp [ho]
 have b18 : (o.code == 18) = false := by simp [ho2]
 have bn0 : (o.code != 0) = true := by simp [ho]
 have x1 : x < w.heap.size + 1 := by omega
 have x2 : x < w.heap.size + 1 + 1 := by omega
 clear hx hP hn ho ho2 hwe
 unfold Z0d at HN ⊢
 have tg76 := trivial
 have tg78 := trivial
 exact wG11
end Go.Proofs.YtjmpekanlmepmaaGreatDoor
