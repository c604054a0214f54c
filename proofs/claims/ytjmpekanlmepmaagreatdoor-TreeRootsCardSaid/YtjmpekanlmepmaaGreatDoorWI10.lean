/- Package btree: an entry is inserted behind a leaf's last one. -/
import Derived.Test.YtjmpekanlmepmaaGreatDoorWI9
set_option linter.unusedVariables false
set_option linter.unusedSimpArgs false
set_option linter.unusedSectionVars false
set_option linter.constructorNameAsVariable false
namespace Go.Proofs.YtjmpekanlmepmaaGreatDoor
open Go.RowKit

/-- Blocks r and g alone have changed. -/
structure SteadyTwo (r g : Nat) (w1 wx : World) : Prop where
  rule : ∀ b o, b < w1.heap.size → (b < r ∨ r < b) → (b < g ∨ g < b) → wx.cell? ⟨b, o, none⟩ = w1.cell? ⟨b, o, none⟩
theorem SteadyTwo.of {r g : Nat} {w1 wx : World} (h : Below w1.heap.size w1 wx) : SteadyTwo r g w1 wx := ⟨fun b o hb _ _ => h.cell (p := ⟨b, o, none⟩) hb⟩
theorem SteadyTwo.grown {r g : Nat} {w1 wx wy : World} (h : Below w1.heap.size w1 wx) (h2 : wx.grownBy wy (some g)) : SteadyTwo r g w1 wy :=
  ⟨fun b o hb _ hg => by
    have e1 := h2.block b (Nat.lt_of_lt_of_le hb h.size) (by simp; omega)
    have : wy.cell? ⟨b, o, none⟩ = wx.cell? ⟨b, o, none⟩ := by simp only [World.cell?, e1]
    rw [this]
    exact h.cell (p := ⟨b, o, none⟩) hb⟩
theorem SteadyTwo.over {r g : Nat} {w1 wx wy : World} (h : SteadyTwo r g w1 wx) (hs : w1.heap.size ≤ wx.heap.size) (h2 : Over r wx wy) : SteadyTwo r g w1 wy :=
  ⟨fun b o hb hr hg => by rw [(over_rules h2).1 b o (Nat.lt_of_lt_of_le hb hs) hr]; exact h.rule b o hb hr hg⟩
theorem IsRun.grown {A : Nat → Prop} {op : Bt.Op} {known : List Bt.Page} {vf vk : Value} {s : Bt.St} {b g : Nat} {w w' : World} (h : IsRun A op known vf vk s b w) (hg : w.grownBy w' (some g)) (hb : b < g) (hA : ¬ A g) : IsRun A op known vf vk s b w' := by
  obtain ⟨vn, vw, ve, vc, hr, h1, h2, h3, h4⟩ := h
  have hne : ∀ c, c < w.heap.size → c < g → w'.heap[c]? = w.heap[c]? := fun c hc hn => hg.block c hc (by simp; omega)
  have hcell : ∀ c o, c < w.heap.size → c < g → w'.cell? ⟨c, o, none⟩ = w.cell? ⟨c, o, none⟩ := fun c o hc hn => by simp only [World.cell?, hne c hc hn]
  have hpg : ∀ (v : Value) (l : List Bt.Page), PgRow w v l → (∀ c n m, v = .slice (some ⟨c, 0, none⟩) n m → c < b) → PgRow w' v l := fun v l hp hv => by
    refine ⟨hp.ok, hp.len, ?_⟩
    rcases hp.form with h1 | ⟨c, cap, hv', hlt, hcells⟩
    · exact .inl h1
    · have := hv c _ _ hv'
      exact .inr ⟨c, cap, hv', Nat.lt_of_lt_of_le hlt hg.size, fun i p hi j u hu => by rw [hcell c _ hlt (by omega)]; exact hcells i p hi j u hu⟩
  have hown : ∀ (base n size : Nat) (e : TypeId) (v : Value) (xs : List Value), w.ownsRow base e size v n xs → (∀ c, v.ownBlock = some c → A c) → w'.ownsRow base e size v n xs := fun base n size e v xs ho hv => ho.kept hg (by
    rcases hvb : v.ownBlock with _ | c
    · exact .inl rfl
    · exact .inr (by intro e; injection e with e; subst e; exact hA (hv _ hvb)))
  have hpos := hr.pos
  have hnone : NoneAt w' := ⟨(hcell _ _ hr.none.lt (by omega)).trans hr.none.c0, (hcell _ _ hr.none.lt (by omega)).trans hr.none.c1, Nat.lt_of_lt_of_le hr.none.lt hg.size⟩
  refine ⟨vn, vw, ve, vc, RunAt.mk (hr.blk.grown hg (by simp; omega)) (hpg _ _ hr.known hr.apart) hr.apart (hpg _ _ hr.fresh hr.apartf) hr.apartf ?_ ?_ ?_ ?_ hnone hr.pos, h1, h2, h3, h4⟩
  · exact hown _ _ _ _ _ _ hr.need h1
  · exact hown _ _ _ _ _ _ hr.writes h2
  · exact hown _ _ _ _ _ _ hr.ents h3
  · exact hown _ _ _ _ _ _ hr.check h4

theorem Over.grow_new {b g : Nat} {w w1 w2 : World} (h : Over b w w1) (hg : w1.grownBy w2 (some g)) (hge : w.heap.size ≤ g) : Over b w w2 :=
  ⟨hg.os.trans h.os, hg.tape.trans h.tape, hg.output.trans h.output, Nat.le_trans h.size hg.size, fun k hk hn => (hg.block k (Nat.lt_of_lt_of_le hk h.size) (by simp; omega)).trans (h.block k hk hn)⟩

set_option maxRecDepth 10000 in
set_option maxHeartbeats 4000000 in
theorem insert_leaf (A : Nat → Prop) (op : Bt.Op) (known : List Bt.Page) (vf vk : Value) (s : Bt.St) (b : Nat) (page : Bt.Page) (n : Bt.Node) (w : World) (h : IsRun A op known vf vk s b w) (hA : ∀ c, A c → c < w.heap.size)
    (hroot : s.root ≠ Bt.nilP) (hl : s.look known s.root false = (s, some (page, n))) (hlev : n.level = 0) (hd : n.dead = false) (hk : op.key ≤ n.high) (hlk : Bt.locked page = false)
    (hkey : 0 ≤ op.key ∧ op.key < 4294967296) (hend : Bt.child n.entries op.key = n.entries.length) (hpos : 0 < n.entries.length)
    (HS : Hid (∀ (A' : Nat → Prop) (w' : World) (g m cap n0 c0 : Nat) (a0 : Option Addr), IsRun A' op known vf vk { s with ended := true, out := { s.out with height := n.level + 1 } } b w' → (∀ c, A' c → c < w'.heap.size) → b < g → m = (n.entries ++ [(⟨op.key, op.to⟩ : Bt.Entry)]).length → m ≤ cap →
      EntRow w' (.slice (some ⟨g, 0, none⟩) m cap) (n.entries ++ [(⟨op.key, op.to⟩ : Bt.Entry)]) →
      Calls Tryz.prog 86 #[.pointer (some ⟨b, 0, none⟩), .agg (foundCells page n (.slice a0 n0 c0)), .slice (some ⟨g, 0, none⟩) m cap, .slice none 0 0] w'
        (RunPost A' op known vf vk (({ s with ended := true, out := { s.out with height := n.level + 1 } } : Bt.St).store op page n (n.entries ++ [(⟨op.key, op.to⟩ : Bt.Entry)]) []) b (.tuple #[]) w'))) :
    Calls Tryz.prog 52 #[.pointer (some ⟨b, 0, none⟩)] w (RunPost A op known vf vk (s.insert op known) b (.tuple #[]) w) := by
  have hread := (look_known hl).2.2.2
  have hnode := (look_known hl).2.2.1
  have hmem := (look_known hl).1
  have hpok : page.Ok := h.knownRow.ok page hmem
  have hval : n.valid = true := by
    unfold Bt.readNode at hread
    split at hread
    · cases hread
    · split at hread
      · rename_i h2
        rw [Option.some.inj hread] at h2
        exact h2.1
      · cases hread
  have hasc := valid_asc n hval
  have hentok : ∀ e ∈ n.entries, e.Ok := by rw [hnode]; exact entry_ok page hpok
  have hhk : Bt.hasKey n.entries op.key = false := by simp only [Bt.hasKey, hend, List.getElem?_eq_none (Nat.le_refl _)]
  have hdesc : s.descend known 0 op.key = ({ s with ended := true, out := { s.out with height := n.level + 1 } }, .at_ page n) := by
    have h2 : ¬ n.high < op.key := by omega
    have h3 : ¬ (n.dead = true ∨ n.high < op.key) := by simp [hd]; omega
    simp only [Bt.St.descend, hl]
    rw [if_neg (by omega), hlev]
    show Bt.descendFrom known 0 op.key (0 + 1) (256 + 1) s 0 page n = _
    rw [Bt.descendFrom, if_neg h3, if_pos hlev]
    simp [hlk]
  have HX : Hid (s.insert op known = ({ s with ended := true, out := { s.out with height := n.level + 1 } } : Bt.St).store op page n (n.entries ++ [(⟨op.key, op.to⟩ : Bt.Entry)]) []) := Lib.hid (by
    simp only [Bt.St.insert, if_neg hroot, hdesc, hhk]
    simp only [Bt.insertAt, hend, List.take_length, List.drop_length]
    rfl)
  have HR := Lib.hid h
  have HLF := Lib.hid (fun wx h1 h2 => leaf_here A op known vf vk s b page n wx h1 h2 hl hlev hd hk hlk)
  have HAS := Lib.hid hasc
  have HEO := Lib.hid hentok
  have HHK := Lib.hid hhk
  have HEND := Lib.hid hend
  have HKY := Lib.hid hkey
  have hlen5 := hasc.2
  have hlt := h.lt
  have hlt1 : b < w.heap.size + 1 := by omega
  obtain ⟨vn, vw, ve, vc, hc⟩ := h.cells
  have k1 : w.cell? ⟨b, 1, none⟩ = some (.int .u32 op.key) := hc 1
  have k3 : w.cell? ⟨b, 3, none⟩ = some (.int .i64 op.to.line) := hc 3
  have k4 : w.cell? ⟨b, 4, none⟩ = some (.int .i64 op.to.gen) := hc 4
  have k34 : w.cell? ⟨b, 34, none⟩ = some (.int .i64 s.root.line) := hc 34
  have k35 : w.cell? ⟨b, 35, none⟩ = some (.int .i64 s.root.gen) := hc 35
  have hp : peq s.root.line s.root.gen 0 0 = false := by rw [peq_nil]; simp [hroot]
  have eq := eql_ptr
  have hn : NoneAt w := by obtain ⟨vn, vw, ve, vc, hr, _⟩ := h; exact hr.none
  obtain ⟨g0, g1, gl⟩ := hn
  have gl1 : 0 < w.heap.size + 1 := by omega
  clear h hc hroot hl hlev hd hk hlk hkey hend hread hnode hmem hpok hval hasc hentok hhk hdesc
  go_enter Tryz.func52, Tryz.ntmps52
  go_wp2_with fail
  refine wp_region_held_drew (S := SteadyAll _) (by kernel_rfl) (SteadyAll.of (Below.refl _ _).drew) ?_
  intro hSt
  refine wpAnyH_seq (is := [0, 1, 2, 3, 4, 5, 6, 7, 8, 9, 10]) (by kernel_rfl) (by kernel_rfl) (fun _ _ d _ _ h => by cases d <;> exact h) (by assumption) ?_
  iterate 11 (first | (refine TakeSeq.step (v := undef) rfl (Or.inr ⟨by rfl, rfl⟩) ?_; simp only [Act.put, List.setIfInBounds_toArray, List.set_cons_zero, List.set_cons_succ, List.getElem_toArray, List.getElem_cons_zero, List.getElem_cons_succ]) | (refine TakeSeq.step (v := ?_) rfl (Or.inl ⟨by rfl, ?_⟩) ?_; rotate_left 1; (focus (intro wq hSq; have hrd := hSq.rule; go_simp; with_reducible rfl)); simp only [Act.put, List.setIfInBounds_toArray, List.set_cons_zero, List.set_cons_succ, List.getElem_toArray, List.getElem_cons_zero, List.getElem_cons_succ]))
  refine TakeSeq.done ?_
  refine wpAnyH_ready (rs := [11]) (by kernel_rfl) (by simp) ?_
  refine AllReadyH.cons rfl (fun K hK => ?_) (AllReadyH.nil)
  rw [if_pos (by rfl)]
  go_simp
  refine hK.out _ _ (SteadyAll.of (by (repeat (first | with_reducible exact Below.refl _ _ | with_reducible assumption | with_reducible refine Below.setCell ?_ (by first | (simp; done) | (simp; omega)) _ | with_reducible refine below_alloc ?_ _ | with_reducible refine below_drewN ?_ _ | with_reducible refine Below.drew ?_ | with_reducible refine below_step ?_ (by assumption))))) (fun hHeld => ?_)
  clear hK K
  refine wpAnyH_ready (rs := [12]) (by kernel_rfl) (by simp) ?_
  refine AllReadyH.cons rfl (fun K hK => ?_) (AllReadyH.nil)
  rw [if_pos (by rfl)]
  go_simp
  refine hK.out _ _ (SteadyAll.of (by (repeat (first | with_reducible exact Below.refl _ _ | with_reducible assumption | with_reducible refine Below.setCell ?_ (by first | (simp; done) | (simp; omega)) _ | with_reducible refine below_alloc ?_ _ | with_reducible refine below_drewN ?_ _ | with_reducible refine Below.drew ?_ | with_reducible refine below_step ?_ (by assumption))))) (fun hHeld => ?_)
  clear hK K
  refine wpAnyH_done (by kernel_rfl) ?_ _
  go_wp2_with fail
  refine wp_region_held_drew (S := SteadyAll _) (by kernel_rfl) (SteadyAll.of (Below.refl _ _).drew) ?_
  intro hSt
  refine wpAnyH_seq (is := [0, 1, 2, 3, 4, 5]) (by kernel_rfl) (by kernel_rfl) (fun _ _ d _ _ h => by cases d <;> exact h) (by assumption) ?_
  iterate 6 (first | (refine TakeSeq.step (v := undef) rfl (Or.inr ⟨by rfl, rfl⟩) ?_; simp only [Act.put, List.setIfInBounds_toArray, List.set_cons_zero, List.set_cons_succ, List.getElem_toArray, List.getElem_cons_zero, List.getElem_cons_succ]) | (refine TakeSeq.step (v := ?_) rfl (Or.inl ⟨by rfl, ?_⟩) ?_; rotate_left 1; (focus (intro wq hSq; have hrd := hSq.rule; go_simp; with_reducible rfl)); simp only [Act.put, List.setIfInBounds_toArray, List.set_cons_zero, List.set_cons_succ, List.getElem_toArray, List.getElem_cons_zero, List.getElem_cons_succ]))
  refine TakeSeq.done ?_
  refine wpAnyH_done (by kernel_rfl) ?_ _
  go_wp2_with fail
  go_at_call 83; refine (HLF.out _ ?hrun ?hlow).mono ?_
  case hrun => exact HR.out.below (by (repeat (first | with_reducible exact Below.refl _ _ | with_reducible assumption | with_reducible refine Below.setCell ?_ (by first | (simp; done) | (simp; omega)) _ | with_reducible refine below_alloc ?_ _ | with_reducible refine below_drewN ?_ _ | with_reducible refine Below.drew ?_ | with_reducible refine below_step ?_ (by assumption))))
  case hlow => exact fun c hc => by have := hA c hc; simp; omega
  rintro e w1 ⟨hrun1, ho1, v, rfl, hown⟩
  obtain ⟨g, cap, rfl⟩ := own_form hown hpos
  have hglt := own_lt hown
  have hcap := own_cap hown
  have HR1 := Lib.hid hrun1
  have HOWN := Lib.hid hown
  have HER : Hid (EntRow w1 (.slice (some ⟨g, 0, none⟩) n.entries.length cap) n.entries) := Lib.hid (EntRow.of_own hown rfl HEO.out)
  have hgg : w.heap.size < g := by have := hglt.1; simp at this; omega
  have hgl := hglt.2
  obtain ⟨un, uw, ue, uc, hc⟩ := hrun1.cells
  have j1 : w1.cell? ⟨b, 1, none⟩ = some (.int .u32 op.key) := hc 1
  have hq1 : b < w1.heap.size := hrun1.lt
  have hq2 : b < w1.heap.size + 1 := by omega
  clear hrun1 hown hc hglt
  ((obtain ⟨hc1, hf1⟩ := over_rules ho1; have hs1 := World.grownBy.size ho1; try simp only [size_alloc, size_setCell, size_drew, size_drewN] at hs1 hc1 hf1); (try have z1_w_0 : w.heap.size < w1.heap.size := by omega))
  simp only [foundCells]
  go_wp2_with fail
  refine wp_region_held_drew (S := SteadyAll _) (by kernel_rfl) (SteadyAll.of (Below.refl _ _).drew) ?_
  intro hSt
  refine wpAnyH_seq (is := [0, 1, 2, 3, 4, 5, 6]) (by kernel_rfl) (by kernel_rfl) (fun _ _ d _ _ h => by cases d <;> exact h) (by assumption) ?_
  iterate 7 (first | (refine TakeSeq.step (v := undef) rfl (Or.inr ⟨by rfl, rfl⟩) ?_; simp only [Act.put, List.setIfInBounds_toArray, List.set_cons_zero, List.set_cons_succ, List.getElem_toArray, List.getElem_cons_zero, List.getElem_cons_succ]) | (refine TakeSeq.step (v := ?_) rfl (Or.inl ⟨by rfl, ?_⟩) ?_; rotate_left 1; (focus (intro wq hSq; have hrd := hSq.rule; go_simp; with_reducible rfl)); simp only [Act.put, List.setIfInBounds_toArray, List.set_cons_zero, List.set_cons_succ, List.getElem_toArray, List.getElem_cons_zero, List.getElem_cons_succ]))
  refine TakeSeq.done ?_
  refine wpAnyH_ready (rs := [7]) (by kernel_rfl) (by simp) ?_
  refine AllReadyH.cons rfl (fun K hK => ?_) (AllReadyH.nil)
  rw [if_pos (by rfl)]
  go_simp
  go_at_call 84; refine (search_any n (.slice (some ⟨g, 0, none⟩) n.entries.length cap) op.key _ ?hpf HAS.out.1 HAS.out.2).mono ?_; (case hpf => exact HER.out.below (by (repeat (first | with_reducible exact Below.refl _ _ | with_reducible assumption | with_reducible refine Below.setCell ?_ (by first | (simp; done) | (simp; omega)) _ | with_reducible refine below_alloc ?_ _ | with_reducible refine below_drewN ?_ _ | with_reducible refine Below.drew ?_ | with_reducible refine below_step ?_ (by assumption))))); rintro e2 w2 ⟨rfl, hb2⟩; rw [HHK.out, HEND.out]; ((obtain ⟨hc2, hf2⟩ := below_rules hb2; have hs2 := Below.size hb2; try simp only [size_alloc, size_setCell, size_drew, size_drewN] at hs2 hc2 hf2); (try have z2_w_0 : w.heap.size < w2.heap.size := by omega); (try have z2_w1_0 : w1.heap.size < w2.heap.size := by omega))
  go_wp2_with fail
  refine hK.out _ _ (SteadyAll.of (by (repeat (first | with_reducible exact Below.refl _ _ | with_reducible assumption | with_reducible refine Below.setCell ?_ (by first | (simp; done) | (simp; omega)) _ | with_reducible refine below_alloc ?_ _ | with_reducible refine below_drewN ?_ _ | with_reducible refine Below.drew ?_ | with_reducible refine below_step ?_ (by assumption))))) (fun hHeld => ?_)
  clear hK K
  refine wpAnyH_seq (is := [8, 9, 10, 11, 12]) (by kernel_rfl) (by kernel_rfl) (fun _ _ d _ _ h => by cases d <;> exact h) (by assumption) ?_
  iterate 5 (first | (refine TakeSeq.step (v := undef) rfl (Or.inr ⟨by rfl, rfl⟩) ?_; simp only [Act.put, List.setIfInBounds_toArray, List.set_cons_zero, List.set_cons_succ, List.getElem_toArray, List.getElem_cons_zero, List.getElem_cons_succ]) | (refine TakeSeq.step (v := ?_) rfl (Or.inl ⟨by rfl, ?_⟩) ?_; rotate_left 1; (focus (intro wq hSq; have hrd := hSq.rule; go_simp; with_reducible rfl)); simp only [Act.put, List.setIfInBounds_toArray, List.set_cons_zero, List.set_cons_succ, List.getElem_toArray, List.getElem_cons_zero, List.getElem_cons_succ]))
  refine TakeSeq.done ?_
  refine wpAnyH_done (by kernel_rfl) ?_ _
  go_wp2_with fail
  have hsz12 : w1.heap.size + 1 ≤ w2.heap.size := by omega
  have hO2 : Over b w w2 := by (repeat (first | with_reducible exact Over.refl _ _ | with_reducible assumption | with_reducible refine Over.put ?_ _ _ | with_reducible refine Over.alloc ?_ _ | with_reducible refine Over.drew ?_ | with_reducible refine Over.own ?_ (by first | (simp; done) | (simp; omega)) _ | with_reducible refine Over.trans ?_ (by assumption) | with_reducible refine Over.then_below ?_ (by assumption)))
  have HO2 := Lib.hid hO2
  have hAg : ¬ A g := fun h1 => by have := hA _ h1; omega
  have HOK : Hid (∀ e ∈ n.entries ++ [(⟨op.key, op.to⟩ : Bt.Entry)], e.Ok) := Lib.hid (by
    intro e he
    rw [List.mem_append] at he
    rcases he with h1 | h1
    · exact HEO.out e h1
    · simp at h1; subst h1; exact HKY.out)
  have hg2 : g < w2.heap.size := by omega
  refine wp_region_held_drew (S := SteadyTwo b g _) (by kernel_rfl) (SteadyTwo.of (Below.refl _ _).drew) ?_
  intro hSt
  refine wpAnyH_seq (is := [0, 1, 2, 3, 4, 5, 6]) (by kernel_rfl) (by kernel_rfl) (fun _ _ d _ _ h => by cases d <;> exact h) (by assumption) ?_
  iterate 7 (first | (refine TakeSeq.step (v := undef) rfl (Or.inr ⟨by rfl, rfl⟩) ?_; simp only [Act.put, List.setIfInBounds_toArray, List.set_cons_zero, List.set_cons_succ, List.getElem_toArray, List.getElem_cons_zero, List.getElem_cons_succ]) | (refine TakeSeq.step (v := ?_) rfl (Or.inl ⟨by rfl, ?_⟩) ?_; rotate_left 1; (focus (intro wq hSq; have hrd := hSq.rule; go_simp; with_reducible rfl)); simp only [Act.put, List.setIfInBounds_toArray, List.set_cons_zero, List.set_cons_succ, List.getElem_toArray, List.getElem_cons_zero, List.getElem_cons_succ]))
  refine TakeSeq.done ?_
  refine wpAnyH_ready (rs := [7]) (by kernel_rfl) (by simp) ?_
  refine AllReadyH.cons rfl (fun K hK => ?_) (AllReadyH.nil)
  rw [if_pos (by rfl)]
  go_simp
  refine hK.out _ _ (SteadyTwo.of (by (repeat (first | with_reducible exact Below.refl _ _ | with_reducible assumption | with_reducible refine Below.setCell ?_ (by first | (simp; done) | (simp; omega)) _ | with_reducible refine below_alloc ?_ _ | with_reducible refine below_drewN ?_ _ | with_reducible refine Below.drew ?_ | with_reducible refine below_step ?_ (by assumption))))) (fun hHeld => ?_)
  clear hK K
  refine wpAnyH_ready (rs := [8]) (by kernel_rfl) (by simp) ?_
  refine AllReadyH.cons rfl (fun K hK => ?_) (AllReadyH.nil)
  rw [if_pos (by rfl)]
  go_simp
  go_at_call 87; refine (insert_end (w.heap.size + 1) g n.entries.length cap w2.heap.size n.entries ⟨op.key, op.to⟩ _ ?hown (by omega) (by simp; omega) ((Blk.made' (by simp)).cell 0) ((Blk.made' (by simp)).cell 1) ((Blk.made' (by simp)).cell 2)).mono ?_; (case hown => exact own_below (own_base HOWN.out (by simp)) (by (repeat (first | with_reducible exact Below.refl _ _ | with_reducible assumption | with_reducible refine Below.setCell ?_ (by first | (simp; done) | (simp; omega)) _ | with_reducible refine below_alloc ?_ _ | with_reducible refine below_drewN ?_ _ | with_reducible refine Below.drew ?_ | with_reducible refine below_step ?_ (by assumption))))); rintro e3 w3 ⟨g3, cap3, rfl, hown3, hg3⟩; have HW3 := Lib.hid hown3; have HG3 := Lib.hid hg3; clear hown3 hg3
  go_wp2_with fail
  refine hK.out _ _ (SteadyTwo.grown (by (repeat (first | with_reducible exact Below.refl _ _ | with_reducible assumption | with_reducible refine Below.setCell ?_ (by first | (simp; done) | (simp; omega)) _ | with_reducible refine below_alloc ?_ _ | with_reducible refine below_drewN ?_ _ | with_reducible refine Below.drew ?_ | with_reducible refine below_step ?_ (by assumption)))) HG3.out) (fun hHeld => ?_)
  clear hK K
  refine wpAnyH_ready (rs := [9]) (by kernel_rfl) (by simp) ?_
  refine AllReadyH.cons rfl (fun K hK => ?_) (AllReadyH.nil)
  rw [if_pos (by rfl)]
  go_simp
  have hl3 := own_lt HW3.out; have hz3 := HG3.out.size; simp only [size_alloc, size_drew] at hz3; go_at_call 86; refine (HS.out A _ g3 (n.entries.length + 1) cap3 n.entries.length cap (some ⟨g, 0, none⟩) ?hrun ?hlow (by omega) (by simp) (own_cap HW3.out).1 (EntRow.of_own HW3.out (by simp) HOK.out)).mono ?_; (case hrun => exact (HR1.out.below (by (repeat (first | with_reducible exact Below.refl _ _ | with_reducible assumption | with_reducible refine Below.setCell ?_ (by first | (simp; done) | (simp; omega)) _ | with_reducible refine below_alloc ?_ _ | with_reducible refine below_drewN ?_ _ | with_reducible refine Below.drew ?_ | with_reducible refine below_step ?_ (by assumption))))).grown HG3.out (by omega) hAg); (case hlow => exact fun c hc => by have := hA c hc; omega); rintro e4 w4 ⟨rfl, hrun4, ho4⟩; have HR4 := Lib.hid hrun4; have HO4 := Lib.hid ho4; clear hrun4 ho4
  go_wp2_with fail
  refine hK.out _ _ (SteadyTwo.over (SteadyTwo.grown (by (repeat (first | with_reducible exact Below.refl _ _ | with_reducible assumption | with_reducible refine Below.setCell ?_ (by first | (simp; done) | (simp; omega)) _ | with_reducible refine below_alloc ?_ _ | with_reducible refine below_drewN ?_ _ | with_reducible refine Below.drew ?_ | with_reducible refine below_step ?_ (by assumption)))) HG3.out) (by omega) HO4.out) (fun hHeld => ?_)
  clear hK K
  refine wpAnyH_done (by kernel_rfl) ?_ _
  go_wp2_with fail
  have hO2 := HO2.out
  have hO3 : Over b w w3 := Over.grow_new (by (repeat (first | with_reducible exact Over.refl _ _ | with_reducible assumption | with_reducible refine Over.put ?_ _ _ | with_reducible refine Over.alloc ?_ _ | with_reducible refine Over.drew ?_ | with_reducible refine Over.own ?_ (by first | (simp; done) | (simp; omega)) _ | with_reducible refine Over.trans ?_ (by assumption) | with_reducible refine Over.then_below ?_ (by assumption)))) HG3.out (by omega)
  have ho4 := HO4.out
  refine bodyPost_end (results_none rfl _ _ _) rfl ⟨rfl, ?_, by (repeat (first | with_reducible exact Over.refl _ _ | with_reducible assumption | with_reducible refine Over.put ?_ _ _ | with_reducible refine Over.alloc ?_ _ | with_reducible refine Over.drew ?_ | with_reducible refine Over.own ?_ (by first | (simp; done) | (simp; omega)) _ | with_reducible refine Over.trans ?_ (by assumption) | with_reducible refine Over.then_below ?_ (by assumption)))⟩
  rw [HX.out]
  refine HR4.out.imp (fun c hc => ?_)
  have hz3 := hO3.size
  rcases hc with h1 | h1
  · exact .inl h1
  · exact .inr (by omega)
end Go.Proofs.YtjmpekanlmepmaaGreatDoor
