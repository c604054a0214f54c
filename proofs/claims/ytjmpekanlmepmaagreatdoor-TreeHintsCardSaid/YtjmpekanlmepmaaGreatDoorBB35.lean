/- Package btree: the step function, for kill, where the written pages come unsorted. (Printed by wip/next2_gen.py.) -/
import Derived.Test.YtjmpekanlmepmaaGreatDoorBB34
import Derived.Test.YtjmpekanlmepmaaGreatDoorBB19
import Derived.Test.YtjmpekanlmepmaaGreatDoorBB31
import Derived.Test.YtjmpekanlmepmaaGreatDoorBB32
import Derived.Test.YtjmpekanlmepmaaGreatDoorBB33
set_option linter.all false
set_option maxRecDepth 20000
set_option maxHeartbeats 8000000
open Go.Lib (hid)
namespace Go.Proofs.YtjmpekanlmepmaaGreatDoor
open Go.RowKit
theorem Zbr : 25 ≠ 69 := by decide
theorem Zbq : 25 ≠ 3 := by decide
theorem Z61 {w : World} {b1 b2 s1 s2 n1 n2 m cap g : Nat} {e1 e2 : TypeId} {v : Value} {xs ys : List Value} (h1 : w.ownsRow b1 e1 s1 (.slice (some ⟨g, 0, none⟩) m cap) n1 xs) (h2 : w.ownsRow b2 e2 s2 v n2 ys) (he : e1 ≠ e2) : v.ownBlock ≠ some g := by
 intro hv
 rcases h1.2 with ⟨h, _⟩ | ⟨g1, c1, cur1, hv1, _, hh1, _⟩
 ·cases h
 rcases h2.2 with ⟨h, _⟩ | ⟨g2, c2, cur2, hv2, _, hh2, _⟩
 ·rw [h] at hv; simp [Value.ownBlock] at hv
 rw [hv2] at hv
 simp only [Value.ownBlock, Option.some.injEq] at hv
 subst hv
 simp only [Value.slice.injEq, Option.some.injEq, Addr.mk.injEq, and_true, true_and] at hv1
 obtain ⟨rfl, _⟩ := hv1
 rw [hh1] at hh2
 injection hh2 with hh3
 injection hh3 with h3 h4
 exact he h4
theorem Z9g (op : Bt.Op) (known : List Bt.Page) (fa ka : Option Addr) (fn fc kn kc : Nat) (w : World) (hf : PgRow w (.slice fa fn fc) op.fresh) (hk : PgRow w (.slice ka kn kc) known) (hn : NoneAt w)
 (hkind : op.kind = 7) (hv : op.isValid = true) (p : Bt.Page) (q : Bt.Ptr) (lv : Int) (hl : Bt.latest known 96 = some p) (hlk : Bt.locked p = false) (hr : Bt.Z1p p = some (q, lv))
 (s2 : Bt.St) (hsn : s2.need = []) (pA pB : Bt.Page) (hso : s2.writes = [pA, pB]) (hpq : pB.line < pA.line) (o : Bt.Out) (hoF : s2.ended = false → o = { s2.out with hops := 0, height := 0, dead := false, unposted := false }) (hoT : s2.ended = true → o = s2.out)
 (HM : Hid (∀ b w', IsRun (fun _ => False) op known (.slice fa fn fc) (.slice ka kn kc) { ({} : Bt.St) with rootPage := p, root := q } b w' →
  Calls Tryz.prog 57 #[.pointer (some ⟨b, 0, none⟩)] w' (Z0y (fun _ => False) op known (.slice fa fn fc) (.slice ka kn kc) s2 b (.tuple #[]) w'))) :
 Calls Tryz.prog 27 #[.agg (Z0d op (.slice fa fn fc)), .slice ka kn kc] w (Z1S [pB, pA] o w) := by
 have Hf := hid hf
 have Hk := hid hk
 have Hn := hid hn
 have HV := hid (fun wx => Z5B op (.slice fa fn fc) wx hkind hv)
 have HRR := hid (fun b wx h1 h2 => Z2n (fun _ => False) op known (.slice fa fn fc) (.slice ka kn kc) {} b p q lv wx h1 h2 hl hlk hr)
 have b1 : (op.kind == 1) = false := by simp [hkind]
 have b2 : (op.kind == 2) = false := by simp [hkind]
 have b3 : (op.kind == 3) = false := by simp [hkind]
 have b4 : (op.kind == 4) = false := by simp [hkind]
 have b5 : (op.kind == 5) = false := by simp [hkind]
 have b6 : (op.kind == 6) = false := by simp [hkind]
 have b7 : (op.kind == 7) = true := by simp [hkind]
 clear hf hk hn hkind hv hl hlk hr
 unfold Z0d at HV ⊢
 have tg72 := trivial
 have tg74 := trivial
 exact wG10
theorem Bt.Inv.rootIs {ps : List Bt.Page} {nx : Int} {es : List Bt.Entry} {T : List (List Bt.Cell)} (h : Bt.Inv ps nx es T) : RootIs ps (Bt.pg ps 96) (Bt.Z1i T) ((T.length - 1 : Nat) : Int) := ⟨h.rootHere.1, h.rootHere.2.1, h.root⟩
theorem Z1R.low {op : Bt.Op} {ps : List Bt.Page} {nx : Int} {es : List Bt.Entry} {T : List (List Bt.Cell)} (hf : Z1R op ps nx) (h : Bt.Inv ps nx es T) : ∀ f rest, op.fresh = f :: rest → f.line = nx := by
 intro f rest e
 rcases hf with h1 | ⟨h1, h2⟩
 ·rw [h1] at e; cases e
 ·rw [h1] at e
  simp only [List.cons.injEq] at e
  rw [← e.1]
  have hb := h.bound
  exact (h.ix.at (l := nx) (by omega) h2).2.1
theorem Z3u {k : Int} (h : Bt.isKey k = true) : 1 ≤ k ∧ k ≤ Bt.Z0e := by
 unfold Bt.isKey at h
 simpa using h
theorem Z20 {k : Int} (h : k ≤ Bt.Z0e) : k ≤ Bt.Z08 := by unfold Bt.Z0e at h; unfold Bt.Z08; omega
section
variable {ps : List Bt.Page} {nx : Int} {es : List Bt.Entry} {T : List (List Bt.Cell)} (h : Bt.Inv ps nx es T) (op : Bt.Op) (hv : op.isValid = true) {ws : List Bt.Page} {o : Bt.Out} (hn : Bt.next op ps = ⟨[], ws, o, true⟩) (fa ka : Option Addr) (fn fc kn kc : Nat) (w : World)
include h hv hn
theorem Z6M (hkind : op.kind = 1) : Steps op ps fa ka fn fc kn kc ws o w := by
 intro hf hk hne
 have hv2 := hv
 unfold Bt.Op.isValid at hv2
 simp [hkind] at hv2
 obtain ⟨k1, k2⟩ := Z3u hv2
 have hgo : (Bt.S0 ps T).go op ps = (Bt.S0 ps T).find op ps := by unfold Bt.St.go; rw [if_pos hkind]
 have hst := h.step hv
 rw [hgo, hn] at hst
 obtain ⟨c1, c2, c3, c4⟩ := Bt.Z3a hst.symm
 have hw0 : ((Bt.S0 ps T).find op ps).writes = [] := (Bt.Z8D _ _ _).trans rfl
 have hso : Z1u ((Bt.S0 ps T).find op ps).writes := by rw [hw0]; exact .inl rfl
 rw [Bt.Z1K hso] at c2
 rw [c2]
 have hR := h.rootIs
 exact Zau op ps fa ka fn fc kn kc w hf hk hne hkind hv _ _ _ hR.here hR.free hR.read _ c1 hso o c3 c4 (hid (fun b w' hr => Zc8 h op k1 (Z20 k2) _ _ b w' hr))
theorem Z5Q (hkind : op.kind = 8) : Steps op ps fa ka fn fc kn kc ws o w := by
 intro hf hk hne
 have hv2 := hv
 unfold Bt.Op.isValid at hv2
 simp [hkind] at hv2
 obtain ⟨k1, k2⟩ := Z3u hv2
 have hgo : (Bt.S0 ps T).go op ps = (Bt.S0 ps T).unlink op ps := by unfold Bt.St.go; simp [hkind]
 have hst := h.step hv
 rw [hgo, hn] at hst
 obtain ⟨c1, c2, c3, c4⟩ := Bt.Z3a hst.symm
 have hso : Z1u ((Bt.S0 ps T).unlink op ps).writes := Bt.Z6J _ _ _ rfl
 rw [Bt.Z1K hso] at c2
 rw [c2]
 have hR := h.rootIs
 exact Z8s op ps fa ka fn fc kn kc w hf hk hne hkind hv _ _ _ hR.here hR.free hR.read _ c1 hso o c3 c4 (hid (fun b w' hr => Zac h op k1 (Z20 k2) _ _ b w' hr))
theorem Z6L (hkind : op.kind = 7) : Steps op ps fa ka fn fc kn kc ws o w := by
 intro hf hk hne
 have hv2 := hv
 unfold Bt.Op.isValid at hv2
 simp [hkind] at hv2
 obtain ⟨k1, k2⟩ := Z3u hv2
 have hgo : (Bt.S0 ps T).go op ps = (Bt.S0 ps T).kill op ps := by unfold Bt.St.go; simp [hkind]
 have hst := h.step hv
 rw [hgo, hn] at hst
 obtain ⟨c1, c2, c3, c4⟩ := Bt.Z3a hst.symm
 have hR := h.rootIs
 rcases Bt.Z8x (Bt.S0 ps T) op ps rfl with hso | ⟨p, q, hpq, hl⟩
 ·rw [Bt.Z1K hso] at c2
  rw [c2]
  exact Zat op ps fa ka fn fc kn kc w hf hk hne hkind hv _ _ _ hR.here hR.free hR.read _ c1 hso o c3 c4 (hid (fun b w' hr => ZaM h op k1 (Z20 k2) _ _ b w' hr))
 ·rw [hpq, Bt.Z6o hl] at c2
  rw [c2]
  exact Z9g op ps fa ka fn fc kn kc w hf hk hne hkind hv _ _ _ hR.here hR.free hR.read _ c1 p q hpq hl o c3 c4 (hid (fun b w' hr => ZaM h op k1 (Z20 k2) _ _ b w' hr))
theorem Z5R (hfr : Z1R op ps nx) (hkind : op.kind = 3) : Steps op ps fa ka fn fc kn kc ws o w := by
 intro hf hk hne
 have hv2 := hv
 unfold Bt.Op.isValid at hv2
 simp [hkind] at hv2
 obtain ⟨k1, k2⟩ := Z3u hv2
 have hgo : (Bt.S0 ps T).go op ps = (Bt.S0 ps T).remove op ps := by unfold Bt.St.go; simp [hkind]
 have hst := h.step hv
 rw [hgo, hn] at hst
 obtain ⟨c1, c2, c3, c4⟩ := Bt.Z3a hst.symm
 have hso : Z1u ((Bt.S0 ps T).remove op ps).writes := by
  unfold Bt.St.remove
  split
  ·rw [Bt.Z57]; exact .inl rfl
  ·rename_i hroot
   have hT : T ≠ [] := fun e => hroot (h.rootNil.2 e)
   obtain ⟨pre, A, l, n, R, post, hs, i1, i2, i3, i4, i5, i6, i7, i8⟩ := h.dives (lev := 0) (List.length_pos_iff.2 hT) k1 (Z20 k2)
   have hd : Bt.Dives ps 0 op.key (Bt.S0 ps T) _ _ := i8 _ rfl
   rw [hd.descend]
   simp only
   split
   ·refine Bt.Z4h _ _ _ _ _ _ rfl (.inl ?_)
    have : n.entries.length ≤ 5 := (Bt.Node.valid_parts (h.sees _ i6).good.valid).2.2.1
    simp [Bt.Z0B]
    omega
   ·exact .inl rfl
 rw [Bt.Z1K hso] at c2
 rw [c2]
 have hR := h.rootIs
 exact Z8t op ps fa ka fn fc kn kc w hf hk hne hkind hv _ _ _ hR.here hR.free hR.read _ c1 hso o c3 c4 (hid (fun b w' hr => Zai h op k1 (Z20 k2) _ _ b w' hr hfr))
theorem Z5S (hfr : Z1R op ps nx) (hkind : op.kind = 2) : Steps op ps fa ka fn fc kn kc ws o w := by
 intro hf hk hne
 have hv2 := hv
 unfold Bt.Op.isValid at hv2
 simp [hkind] at hv2
 obtain ⟨k1, k2⟩ := Z3u hv2.1
 have hgo : (Bt.S0 ps T).go op ps = (Bt.S0 ps T).insert op ps := by unfold Bt.St.go; simp [hkind]
 have hst := h.step hv
 rw [hgo, hn] at hst
 obtain ⟨c1, c2, c3, c4⟩ := Bt.Z3a hst.symm
 have hlow := hfr.low h
 have hb := h.bound
 have hso : Z1u ((Bt.S0 ps T).insert op ps).writes := by
  unfold Bt.St.insert
  split
  ·refine Bt.Z7r _ _ _ rfl (fun f rest e => ?_)
   rw [hlow f rest e]
   show (Bt.pg ps 96).line ≤ nx
   rw [h.rootHere.2.2.1]
   omega
  ·rename_i hroot
   have hT : T ≠ [] := fun e => hroot (h.rootNil.2 e)
   obtain ⟨pre, A, l, n, R, post, hs, i1, i2, i3, i4, i5, i6, i7, i8⟩ := h.dives (lev := 0) (List.length_pos_iff.2 hT) k1 (Z20 k2)
   have hd : Bt.Dives ps 0 op.key (Bt.S0 ps T) _ _ := i8 _ rfl
   rw [hd.descend]
   simp only
   split
   ·exact .inl rfl
   ·refine Bt.Z4h _ _ _ _ _ _ rfl (.inr (fun f rest e => ?_))
    rw [hlow f rest e, (h.sees _ i6).line]
    have := h.range _ i6
    show l ≤ nx
    have h2 : l < nx := this.2
    omega
 rw [Bt.Z1K hso] at c2
 rw [c2]
 have hR := h.rootIs
 exact Z8u op ps fa ka fn fc kn kc w hf hk hne hkind hv2.1 hv2.2 _ _ _ hR.here hR.free hR.read _ c1 hso o c3 c4 (hid (fun b w' hr => ZaP h op k1 (Z20 k2) _ _ b w' hr hv2.2 hfr))
theorem Z6m (hfr : Z1R op ps nx) (hlen : T.length ≤ 8) (hkind : op.kind = 6) : Steps op ps fa ka fn fc kn kc ws o w := by
 intro hf hk hne
 have hgo : (Bt.S0 ps T).go op ps = (Bt.S0 ps T).raise op ps := by unfold Bt.St.go; simp [hkind]
 have hst := h.step hv
 rw [hgo, hn] at hst
 obtain ⟨c1, c2, c3, c4⟩ := Bt.Z3a hst.symm
 have hlow := hfr.low h
 have hb := h.bound
 have hso : Z1u ((Bt.S0 ps T).raise op ps).writes := by
  refine Bt.Z7p _ _ _ rfl (fun f rest e => ?_)
  rw [hlow f rest e]
  show (Bt.pg ps 96).line ≤ nx
  rw [h.rootHere.2.2.1]
  omega
 rw [Bt.Z1K hso] at c2
 rw [c2]
 have hR := h.rootIs
 exact Z9f op ps fa ka fn fc kn kc w hf hk hne hkind _ _ _ hR.here hR.free hR.read _ c1 hso o c3 c4 (hid (fun b w' hr => Zbo h op _ _ b w' hr hlen hfr))
end
end Go.Proofs.YtjmpekanlmepmaaGreatDoor
