/- Package btree: the step function, for kill, where the written pages come unsorted. (Printed by wip/next2_gen.py.) -/
import Derived.Test.YtjmpekanlmepmaaGreatDoorB34
import Derived.Test.YtjmpekanlmepmaaGreatDoorB20
import Derived.Test.YtjmpekanlmepmaaGreatDoorB32
import Derived.Test.YtjmpekanlmepmaaGreatDoorB33
set_option linter.all false
namespace Go.Proofs.YtjmpekanlmepmaaGreatDoor
open Go.RowKit
theorem page_ent : 25 ≠ 69 := by decide
theorem page_int : 25 ≠ 3 := by decide
/-- Rows of elements of two types lie in two blocks. -/
theorem own_apart {w : World} {b1 b2 s1 s2 n1 n2 m cap g : Nat} {e1 e2 : TypeId} {v : Value} {xs ys : List Value} (h1 : w.ownsRow b1 e1 s1 (.slice (some ⟨g, 0, none⟩) m cap) n1 xs) (h2 : w.ownsRow b2 e2 s2 v n2 ys) (he : e1 ≠ e2) : v.ownBlock ≠ some g := by
 intro hv
 rcases h1.2 with ⟨h, _⟩ | ⟨g1, c1, cur1, hv1, _, hh1, _⟩
 · cases h
 rcases h2.2 with ⟨h, _⟩ | ⟨g2, c2, cur2, hv2, _, hh2, _⟩
 · rw [h] at hv; simp [Value.ownBlock] at hv
 rw [hv2] at hv
 simp only [Value.ownBlock, Option.some.injEq] at hv
 subst hv
 simp only [Value.slice.injEq, Option.some.injEq, Addr.mk.injEq, and_true, true_and] at hv1
 obtain ⟨rfl, _⟩ := hv1
 rw [hh1] at hh2
 injection hh2 with hh3
 injection hh3 with h3 h4
 exact he h4
set_option maxRecDepth 10000 in
set_option maxHeartbeats 4000000 in
theorem next_kill2 (op : Bt.Op) (known : List Bt.Page) (fa ka : Option Addr) (fn fc kn kc : Nat) (w : World) (hf : PgRow w (.slice fa fn fc) op.fresh) (hk : PgRow w (.slice ka kn kc) known) (hn : NoneAt w)
 (hkind : op.kind = 7) (hv : op.isValid = true) (p : Bt.Page) (q : Bt.Ptr) (lv : Int) (hl : Bt.latest known 96 = some p) (hlk : Bt.locked p = false) (hr : Bt.readRoot p = some (q, lv))
 (s2 : Bt.St) (hsn : s2.need = []) (pA pB : Bt.Page) (hso : s2.writes = [pA, pB]) (hpq : pB.line < pA.line) (o : Bt.Out) (hoF : s2.ended = false → o = { s2.out with hops := 0, height := 0, dead := false, unposted := false }) (hoT : s2.ended = true → o = s2.out)
 (HM : Hid (∀ b w', IsRun (fun _ => False) op known (.slice fa fn fc) (.slice ka kn kc) { ({} : Bt.St) with rootPage := p, root := q } b w' →
  Calls Tryz.prog 57 #[.pointer (some ⟨b, 0, none⟩)] w' (RunPost (fun _ => False) op known (.slice fa fn fc) (.slice ka kn kc) s2 b (.tuple #[]) w'))) :
 Calls Tryz.prog 27 #[.agg (opCells op (.slice fa fn fc)), .slice ka kn kc] w (NextPost [pB, pA] o w) := by
 have Hf := Lib.hid hf
 have Hk := Lib.hid hk
 have Hn := Lib.hid hn
 have HV := Lib.hid (fun wx => isValid_kill op (.slice fa fn fc) wx hkind hv)
 have HRR := Lib.hid (fun b wx h1 h2 => readRoot_ok (fun _ => False) op known (.slice fa fn fc) (.slice ka kn kc) {} b p q lv wx h1 h2 hl hlk hr)
 have b1 : (op.kind == 1) = false := by simp [hkind]
 have b2 : (op.kind == 2) = false := by simp [hkind]
 have b3 : (op.kind == 3) = false := by simp [hkind]
 have b4 : (op.kind == 4) = false := by simp [hkind]
 have b5 : (op.kind == 5) = false := by simp [hkind]
 have b6 : (op.kind == 6) = false := by simp [hkind]
 have b7 : (op.kind == 7) = true := by simp [hkind]
 clear hf hk hn hkind hv hl hlk hr
 unfold opCells at HV ⊢
 have tg72 := trivial
 have tg74 := trivial
 exact wG10
theorem Bt.Inv.rootIs {ps : List Bt.Page} {nx : Int} {es : List Bt.Entry} {T : List (List Bt.Cell)} (h : Bt.Inv ps nx es T) : RootIs ps (Bt.pg ps 96) (Bt.rootPtr T) ((T.length - 1 : Nat) : Int) := ⟨h.rootHere.1, h.rootHere.2.1, h.root⟩
theorem FreshFits.low {op : Bt.Op} {ps : List Bt.Page} {nx : Int} {es : List Bt.Entry} {T : List (List Bt.Cell)} (hf : FreshFits op ps nx) (h : Bt.Inv ps nx es T) : ∀ f rest, op.fresh = f :: rest → f.line = nx := by
 intro f rest e
 rcases hf with h1 | ⟨h1, h2⟩
 · rw [h1] at e; cases e
 · rw [h1] at e
   simp only [List.cons.injEq] at e
   rw [← e.1]
   have hb := h.bound
   exact (h.ix.at (l := nx) (by omega) h2).2.1
theorem isKey_parts {k : Int} (h : Bt.isKey k = true) : 1 ≤ k ∧ k ≤ Bt.maxKey := by
 unfold Bt.isKey at h
 simpa using h
theorem maxKey_high {k : Int} (h : k ≤ Bt.maxKey) : k ≤ Bt.maxHigh := by unfold Bt.maxKey at h; unfold Bt.maxHigh; omega
section
variable {ps : List Bt.Page} {nx : Int} {es : List Bt.Entry} {T : List (List Bt.Cell)} (h : Bt.Inv ps nx es T) (op : Bt.Op) (hv : op.isValid = true) {ws : List Bt.Page} {o : Bt.Out} (hn : Bt.next op ps = ⟨[], ws, o, true⟩) (fa ka : Option Addr) (fn fc kn kc : Nat) (w : World)
include h hv hn
theorem steps_find_ix (hkind : op.kind = 1) : Steps op ps fa ka fn fc kn kc ws o w := by
 intro hf hk hne
 have hv2 := hv
 unfold Bt.Op.isValid at hv2
 simp [hkind] at hv2
 obtain ⟨k1, k2⟩ := isKey_parts hv2
 have hgo : (Bt.S0 ps T).go op ps = (Bt.S0 ps T).find op ps := by unfold Bt.St.go; rw [if_pos hkind]
 have hst := h.step hv
 rw [hgo, hn] at hst
 obtain ⟨c1, c2, c3, c4⟩ := Bt.close_inv hst.symm
 have hw0 : ((Bt.S0 ps T).find op ps).writes = [] := (Bt.find_writes _ _ _).trans rfl
 have hso : Sorted2 ((Bt.S0 ps T).find op ps).writes := by rw [hw0]; exact .inl rfl
 rw [Bt.sortPages_sorted hso] at c2
 rw [c2]
 have hR := h.rootIs
 exact next_find op ps fa ka fn fc kn kc w hf hk hne hkind hv _ _ _ hR.here hR.free hR.read _ c1 hso o c3 c4 (Lib.hid (fun b w' hr => find_ix h op k1 (maxKey_high k2) _ _ b w' hr))
theorem steps_unlink_ix (hkind : op.kind = 8) : Steps op ps fa ka fn fc kn kc ws o w := by
 intro hf hk hne
 have hv2 := hv
 unfold Bt.Op.isValid at hv2
 simp [hkind] at hv2
 obtain ⟨k1, k2⟩ := isKey_parts hv2
 have hgo : (Bt.S0 ps T).go op ps = (Bt.S0 ps T).unlink op ps := by unfold Bt.St.go; simp [hkind]
 have hst := h.step hv
 rw [hgo, hn] at hst
 obtain ⟨c1, c2, c3, c4⟩ := Bt.close_inv hst.symm
 have hso : Sorted2 ((Bt.S0 ps T).unlink op ps).writes := Bt.unlink_writes _ _ _ rfl
 rw [Bt.sortPages_sorted hso] at c2
 rw [c2]
 have hR := h.rootIs
 exact next_unlink op ps fa ka fn fc kn kc w hf hk hne hkind hv _ _ _ hR.here hR.free hR.read _ c1 hso o c3 c4 (Lib.hid (fun b w' hr => unlink_ix h op k1 (maxKey_high k2) _ _ b w' hr))
theorem steps_kill_ix (hkind : op.kind = 7) : Steps op ps fa ka fn fc kn kc ws o w := by
 intro hf hk hne
 have hv2 := hv
 unfold Bt.Op.isValid at hv2
 simp [hkind] at hv2
 obtain ⟨k1, k2⟩ := isKey_parts hv2
 have hgo : (Bt.S0 ps T).go op ps = (Bt.S0 ps T).kill op ps := by unfold Bt.St.go; simp [hkind]
 have hst := h.step hv
 rw [hgo, hn] at hst
 obtain ⟨c1, c2, c3, c4⟩ := Bt.close_inv hst.symm
 have hR := h.rootIs
 rcases Bt.kill_writes (Bt.S0 ps T) op ps rfl with hso | ⟨p, q, hpq, hl⟩
 · rw [Bt.sortPages_sorted hso] at c2
   rw [c2]
   exact next_kill op ps fa ka fn fc kn kc w hf hk hne hkind hv _ _ _ hR.here hR.free hR.read _ c1 hso o c3 c4 (Lib.hid (fun b w' hr => kill_ix h op k1 (maxKey_high k2) _ _ b w' hr))
 · rw [hpq, Bt.sortPages_swap hl] at c2
   rw [c2]
   exact next_kill2 op ps fa ka fn fc kn kc w hf hk hne hkind hv _ _ _ hR.here hR.free hR.read _ c1 p q hpq hl o c3 c4 (Lib.hid (fun b w' hr => kill_ix h op k1 (maxKey_high k2) _ _ b w' hr))
theorem steps_remove_ix (hfr : FreshFits op ps nx) (hkind : op.kind = 3) : Steps op ps fa ka fn fc kn kc ws o w := by
 intro hf hk hne
 have hv2 := hv
 unfold Bt.Op.isValid at hv2
 simp [hkind] at hv2
 obtain ⟨k1, k2⟩ := isKey_parts hv2
 have hgo : (Bt.S0 ps T).go op ps = (Bt.S0 ps T).remove op ps := by unfold Bt.St.go; simp [hkind]
 have hst := h.step hv
 rw [hgo, hn] at hst
 obtain ⟨c1, c2, c3, c4⟩ := Bt.close_inv hst.symm
 have hso : Sorted2 ((Bt.S0 ps T).remove op ps).writes := by
  unfold Bt.St.remove
  split
  · rw [Bt.noTree_writes]; exact .inl rfl
  · rename_i hroot
    have hT : T ≠ [] := fun e => hroot (h.rootNil.2 e)
    obtain ⟨pre, A, l, n, R, post, hs, i1, i2, i3, i4, i5, i6, i7, i8⟩ := h.dives (lev := 0) (List.length_pos_iff.2 hT) k1 (maxKey_high k2)
    have hd : Bt.Dives ps 0 op.key (Bt.S0 ps T) _ _ := i8 _ rfl
    rw [hd.descend]
    simp only
    split
    · refine Bt.store_sorted _ _ _ _ _ _ rfl (.inl ?_)
      have : n.entries.length ≤ 5 := (Bt.Node.valid_parts (h.sees _ i6).good.valid).2.2.1
      simp [Bt.deleteAt]
      omega
    · exact .inl rfl
 rw [Bt.sortPages_sorted hso] at c2
 rw [c2]
 have hR := h.rootIs
 exact next_remove op ps fa ka fn fc kn kc w hf hk hne hkind hv _ _ _ hR.here hR.free hR.read _ c1 hso o c3 c4 (Lib.hid (fun b w' hr => remove_ix h op k1 (maxKey_high k2) _ _ b w' hr hfr))
theorem steps_insert_ix (hfr : FreshFits op ps nx) (hkind : op.kind = 2) : Steps op ps fa ka fn fc kn kc ws o w := by
 intro hf hk hne
 have hv2 := hv
 unfold Bt.Op.isValid at hv2
 simp [hkind] at hv2
 obtain ⟨k1, k2⟩ := isKey_parts hv2.1
 have hgo : (Bt.S0 ps T).go op ps = (Bt.S0 ps T).insert op ps := by unfold Bt.St.go; simp [hkind]
 have hst := h.step hv
 rw [hgo, hn] at hst
 obtain ⟨c1, c2, c3, c4⟩ := Bt.close_inv hst.symm
 have hlow := hfr.low h
 have hb := h.bound
 have hso : Sorted2 ((Bt.S0 ps T).insert op ps).writes := by
  unfold Bt.St.insert
  split
  · refine Bt.plant_sorted _ _ _ rfl (fun f rest e => ?_)
    rw [hlow f rest e]
    show (Bt.pg ps 96).line ≤ nx
    rw [h.rootHere.2.2.1]
    omega
  · rename_i hroot
    have hT : T ≠ [] := fun e => hroot (h.rootNil.2 e)
    obtain ⟨pre, A, l, n, R, post, hs, i1, i2, i3, i4, i5, i6, i7, i8⟩ := h.dives (lev := 0) (List.length_pos_iff.2 hT) k1 (maxKey_high k2)
    have hd : Bt.Dives ps 0 op.key (Bt.S0 ps T) _ _ := i8 _ rfl
    rw [hd.descend]
    simp only
    split
    · exact .inl rfl
    · refine Bt.store_sorted _ _ _ _ _ _ rfl (.inr (fun f rest e => ?_))
      rw [hlow f rest e, (h.sees _ i6).line]
      have := h.range _ i6
      show l ≤ nx
      have h2 : l < nx := this.2
      omega
 rw [Bt.sortPages_sorted hso] at c2
 rw [c2]
 have hR := h.rootIs
 exact next_insert op ps fa ka fn fc kn kc w hf hk hne hkind hv2.1 hv2.2 _ _ _ hR.here hR.free hR.read _ c1 hso o c3 c4 (Lib.hid (fun b w' hr => insert_ix h op k1 (maxKey_high k2) _ _ b w' hr hv2.2 hfr))
theorem steps_raise_ix (hfr : FreshFits op ps nx) (hlen : T.length ≤ 8) (hkind : op.kind = 6) : Steps op ps fa ka fn fc kn kc ws o w := by
 intro hf hk hne
 have hgo : (Bt.S0 ps T).go op ps = (Bt.S0 ps T).raise op ps := by unfold Bt.St.go; simp [hkind]
 have hst := h.step hv
 rw [hgo, hn] at hst
 obtain ⟨c1, c2, c3, c4⟩ := Bt.close_inv hst.symm
 have hlow := hfr.low h
 have hb := h.bound
 have hso : Sorted2 ((Bt.S0 ps T).raise op ps).writes := by
  refine Bt.raise_sorted _ _ _ rfl (fun f rest e => ?_)
  rw [hlow f rest e]
  show (Bt.pg ps 96).line ≤ nx
  rw [h.rootHere.2.2.1]
  omega
 rw [Bt.sortPages_sorted hso] at c2
 rw [c2]
 have hR := h.rootIs
 exact next_raise op ps fa ka fn fc kn kc w hf hk hne hkind _ _ _ hR.here hR.free hR.read _ c1 hso o c3 c4 (Lib.hid (fun b w' hr => raise_ix h op _ _ b w' hr hlen hfr))
end
end Go.Proofs.YtjmpekanlmepmaaGreatDoor
