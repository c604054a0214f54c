/- slices.Insert of one entry behind the last one. -/
import Derived.Test.YtjmpekanlmepmaaGreatDoorNN13
import Derived.Test.YtjmpekanlmepmaaGreatDoorNN23
import Derived.Test.YtjmpekanlmepmaaGreatDoorNN20
set_option linter.all false
set_option maxRecDepth 20000
set_option maxHeartbeats 8000000
open Go.Lib (hid)
namespace Go.Proofs.YtjmpekanlmepmaaGreatDoor
open Go.RowKit
def InsPost (base g n : Nat) (es : List Bt.Entry) (e : Bt.Entry) (w : World) (r : Ending) (w' : World) : Prop :=
 ∃ g' cap', r = .returned (.slice (some ⟨g', 0, none⟩) (n + 1) cap') ∧ w'.ownsRow base 69 3 (.slice (some ⟨g', 0, none⟩) (n + 1) cap') (n + 1) (entCells (es ++ [e])) ∧ w.grownBy w' (some g)
theorem insert_end (base g n cap gE : Nat) (es : List Bt.Entry) (e : Bt.Entry) (w : World) (hown : w.ownsRow base 69 3 (.slice (some ⟨g, 0, none⟩) n cap) n (entCells es)) (hn : n ≤ 1000) (hbase : base ≤ w.heap.size)
 (h0 : w.cell? ⟨gE, 0, none⟩ = some (.int .u32 e.key)) (h1 : w.cell? ⟨gE, 1, none⟩ = some (.int .i64 e.to.line)) (h2 : w.cell? ⟨gE, 2, none⟩ = some (.int .i64 e.to.gen)) :
 Calls Tryz.prog 87 #[.slice (some ⟨g, 0, none⟩) n cap, .int .i64 n, .slice (some ⟨gE, 0, none⟩) 1 1] w (InsPost base g n es e w) := by
 obtain ⟨i0, hi, hz0, hz1, hz2⟩ := info_parts infoEntry
 have HO := hid hown
 have hcap := own_cap hown
 have b1 : ((n : Int) == (n : Int)) = true := by simp
 have b2 : (0 : Int) ≤ (n : Int) := by omega
 have b3 : (n : Int) ≤ (n : Int) := Int.le_refl _
 clear hown
 by_cases hcn : n = cap
 ·subst hcn
  go_enter Tryz.func87, Tryz.ntmps87
  go_wp2_with (at_builtin; refine halt ?_)
  all_goals
   refine unhalt ?_
   refine wpList_append_mine rfl (.tmp 23) (.tmp 24) 61 rfl base 69 i0 _ 3 24 Tryz.underlying61 hi hz0 hz1 hz2 rfl (by decide) _ n (entCells es) rfl HO.out ⟨gE, 0, none⟩ 1 1
    [.int .u32 e.key, .int .i64 e.to.line, .int .i64 e.to.gen] rfl rfl (three_news h0 h1 h2) (by intro u hu; simp at hu; rcases hu with rfl | rfl | rfl <;> rfl) (by omega) (by unfold maxLen; omega) (by omega) hbase ?_
   intro g3 cap3 w3 hown3 hg3
   go_wp2
   refine bodyPost_ret (results_tmp rfl _ _ _) rfl ⟨g3, cap3, rfl, ?_, hg3⟩
   rw [entCells_append]
   exact hown3
 ·have hcn2 : ¬ cap = n := fun h => hcn h.symm
  have hcn3 : n < cap := by omega
  go_enter Tryz.func87, Tryz.ntmps87
  go_wp2_with (at_builtin; refine halt ?_)
  all_goals
   refine unhalt ?_
   refine wpList_append_mine rfl (.tmp 23) (.tmp 24) 61 rfl base 69 i0 _ 3 24 Tryz.underlying61 hi hz0 hz1 hz2 rfl (by decide) _ n (entCells es) rfl HO.out ⟨gE, 0, none⟩ 1 1
    [.int .u32 e.key, .int .i64 e.to.line, .int .i64 e.to.gen] rfl rfl (three_news h0 h1 h2) (by intro u hu; simp at hu; rcases hu with rfl | rfl | rfl <;> rfl) (by omega) (by unfold maxLen; omega) (by omega) hbase ?_
   intro g3 cap3 w3 hown3 hg3
   go_wp2
   refine bodyPost_ret (results_tmp rfl _ _ _) rfl ⟨g3, cap3, rfl, ?_, hg3⟩
   rw [entCells_append]
   exact hown3
theorem insert_plant (A : Nat → Prop) (op : Bt.Op) (known : List Bt.Page) (vf vk : Value) (s : Bt.St) (b : Nat) (w : World) (h : IsRun A op known vf vk s b w) (hA : ∀ c, A c → c < w.heap.size) (hroot : s.root = Bt.nilP)
 (HP : Hid (∀ w', IsRun A op known vf vk s b w' → (∀ c, A c → c < w'.heap.size) → Calls Tryz.prog 85 #[.pointer (some ⟨b, 0, none⟩), .agg (⟨op.key, op.to⟩ : Bt.Entry).cells] w' (RunPost A op known vf vk (s.plant op ⟨op.key, op.to⟩) b (.tuple #[]) w'))) :
 Calls Tryz.prog 52 #[.pointer (some ⟨b, 0, none⟩)] w (RunPost A op known vf vk (s.insert op known) b (.tuple #[]) w) := by
 have HX : Hid (s.insert op known = s.plant op ⟨op.key, op.to⟩) := hid (by simp [Bt.St.insert, hroot])
 have HR := hid h
 have hlt := h.lt
 have hlt1 : b < w.heap.size + 1 := by omega
 obtain ⟨vn, vw, ve, vc, hc⟩ := h.cells
 have k1 : w.cell? ⟨b, 1, none⟩ = some (.int .u32 op.key) := hc 1
 have k3 : w.cell? ⟨b, 3, none⟩ = some (.int .i64 op.to.line) := hc 3
 have k4 : w.cell? ⟨b, 4, none⟩ = some (.int .i64 op.to.gen) := hc 4
 have k34 : w.cell? ⟨b, 34, none⟩ = some (.int .i64 s.root.line) := hc 34
 have k35 : w.cell? ⟨b, 35, none⟩ = some (.int .i64 s.root.gen) := hc 35
 have hp : peq s.root.line s.root.gen 0 0 = true := by rw [peq_nil]; simp [hroot]
 have eq := eql_ptr
 have hn : NoneAt w := by obtain ⟨vn, vw, ve, vc, hr, _⟩ := h; exact hr.none
 obtain ⟨g0, g1, gl⟩ := hn
 have gl1 : 0 < w.heap.size + 1 := by omega
 clear h hc hroot
 go_enter Tryz.func52, Tryz.ntmps52
 go_wp2_with fail
 refine qA fun hSt => ?_
 refine qS [0, 1, 2, 3, 4, 5, 6, 7, 8, 9, 10] ?_
 iterate 11 (refine qT ?_; simp only [Act.put, qY])
 refine TakeSeq.done ?_
 refine qH 11 fun K hK => ?_
 go_simp
 refine hK.out _ _ (SteadyAll.of qL) (fun hHeld => ?_)
 clear hK K
 refine qH 12 fun K hK => ?_
 go_simp
 refine hK.out _ _ (SteadyAll.of qL) (fun hHeld => ?_)
 clear hK K
 refine qD ?_ _
 go_wp2_with fail
 refine qA fun hSt => ?_
 refine qS [0, 1, 2, 3, 4, 5] ?_
 iterate 6 (refine qT ?_; simp only [Act.put, qY])
 refine TakeSeq.done ?_
 refine qD ?_ _
 go_wp2_with fail
 go_at_call 85; refine (HP.out _ ?hrun ?hlow).mono ?_
 case hrun => exact HR.out.below qL
 case hlow => exact fun c hc => by have := hA c hc; simp; omega
 rintro e w1 ⟨rfl, hrun1, ho1⟩
 have HR1 := hid hrun1
 clear hrun1
 go_wp2_with fail
 refine bodyPost_ret (results_none rfl _ _ _) rfl ⟨rfl, ?_, qV⟩
 rw [HX.out]
 refine HR1.out.imp (fun c hc => ?_)
 rcases hc with h1 | h1
 ·exact .inl h1
 ·exact .inr (by simp at h1; omega)
structure SteadyTwo (r g : Nat) (w1 wx : World) : Prop where
 rule : ∀ b o, b < w1.heap.size → (b < r ∨ r < b) → (b < g ∨ g < b) → wx.cell? ⟨b, o, none⟩ = w1.cell? ⟨b, o, none⟩
theorem SteadyTwo.of {r g : Nat} {w1 wx : World} (h : Below w1.heap.size w1 wx) : SteadyTwo r g w1 wx := ⟨fun b o hb _ _ => h.cell (p := ⟨b, o, none⟩) hb⟩
theorem SteadyTwo.grown {r g : Nat} {w1 wx wy : World} (h : Below w1.heap.size w1 wx) (h2 : wx.grownBy wy (some g)) : SteadyTwo r g w1 wy :=
 ⟨fun b o hb _ hg => by
  have e1 := h2.block b (Nat.lt_of_lt_of_le hb h.size) (by simp; omega)
  have : wy.cell? ⟨b, o, none⟩ = wx.cell? ⟨b, o, none⟩ := by simp only [World.cell?, e1]
  rw [this]
  exact h.cell (p := ⟨b, o, none⟩) hb⟩
theorem SteadyTwo.over {r g : Nat} {w1 wx wy : World} (h : SteadyTwo r g w1 wx) (hs : w1.heap.size ≤ wx.heap.size) (h2 : Over r wx wy) : SteadyTwo r g w1 wy :=
 ⟨fun b o hb hr hg => by rw [(over_rules h2).1 b o (Nat.lt_of_lt_of_le hb hs) hr]; exact h.rule b o hb hr hg⟩
theorem IsRun.grown {A : Nat → Prop} {op : Bt.Op} {known : List Bt.Page} {vf vk : Value} {s : Bt.St} {b g : Nat} {w w' : World} (h : IsRun A op known vf vk s b w) (hg : w.grownBy w' (some g)) (hb : b < g) (hA : ¬ A g) : IsRun A op known vf vk s b w' := by
 obtain ⟨vn, vw, ve, vc, hr, h1, h2, h3, h4⟩ := h
 have hne : ∀ c, c < w.heap.size → c < g → w'.heap[c]? = w.heap[c]? := fun c hc hn => hg.block c hc (by simp; omega)
 have hcell : ∀ c o, c < w.heap.size → c < g → w'.cell? ⟨c, o, none⟩ = w.cell? ⟨c, o, none⟩ := fun c o hc hn => by simp only [World.cell?, hne c hc hn]
 have hpg : ∀ (v : Value) (l : List Bt.Page), PgRow w v l → (∀ c n m, v = .slice (some ⟨c, 0, none⟩) n m → c < b) → PgRow w' v l := fun v l hp hv => by
  refine ⟨hp.ok, hp.len, ?_⟩
  rcases hp.form with h1 | ⟨c, cap, hv', hlt, hcells⟩
  ·exact .inl h1
  ·have := hv c _ _ hv'
   exact .inr ⟨c, cap, hv', Nat.lt_of_lt_of_le hlt hg.size, fun i p hi j u hu => by rw [hcell c _ hlt (by omega)]; exact hcells i p hi j u hu⟩
 have hown : ∀ (base n size : Nat) (e : TypeId) (v : Value) (xs : List Value), w.ownsRow base e size v n xs → (∀ c, v.ownBlock = some c → A c) → w'.ownsRow base e size v n xs := fun base n size e v xs ho hv => ho.kept hg (by
  rcases hvb : v.ownBlock with _ | c
  ·exact .inl rfl
  ·exact .inr (by intro e; injection e with e; subst e; exact hA (hv _ hvb)))
 have hpos := hr.pos
 have hnone : NoneAt w' := ⟨(hcell _ _ hr.none.lt (by omega)).trans hr.none.c0, (hcell _ _ hr.none.lt (by omega)).trans hr.none.c1, Nat.lt_of_lt_of_le hr.none.lt hg.size⟩
 refine ⟨vn, vw, ve, vc, RunAt.mk (hr.blk.grown hg (by simp; omega)) (hpg _ _ hr.known hr.apart) hr.apart (hpg _ _ hr.fresh hr.apartf) hr.apartf ?_ ?_ ?_ ?_ hnone hr.pos, h1, h2, h3, h4⟩
 ·exact hown _ _ _ _ _ _ hr.need h1
 ·exact hown _ _ _ _ _ _ hr.writes h2
 ·exact hown _ _ _ _ _ _ hr.ents h3
 ·exact hown _ _ _ _ _ _ hr.check h4
theorem Over.grow_new {b g : Nat} {w w1 w2 : World} (h : Over b w w1) (hg : w1.grownBy w2 (some g)) (hge : w.heap.size ≤ g) : Over b w w2 :=
 ⟨hg.os.trans h.os, hg.tape.trans h.tape, hg.output.trans h.output, Nat.le_trans h.size hg.size, fun k hk hn => (hg.block k (Nat.lt_of_lt_of_le hk h.size) (by simp; omega)).trans (h.block k hk hn)⟩
theorem insert_leaf (A : Nat → Prop) (op : Bt.Op) (known : List Bt.Page) (vf vk : Value) (s : Bt.St) (b : Nat) (page : Bt.Page) (n : Bt.Node) (w : World) (h : IsRun A op known vf vk s b w) (hA : ∀ c, A c → c < w.heap.size)
 (hroot : s.root ≠ Bt.nilP) (hl : s.look known s.root false = (s, some (page, n))) (hlev : n.level = 0) (hd : n.dead = false) (hk : op.key ≤ n.high) (hlk : Bt.locked page = false)
 (hkey : 0 ≤ op.key ∧ op.key < 4294967296) (hend : Bt.child n.entries op.key = n.entries.length) (hpos : 0 < n.entries.length)
 (HS : Hid (∀ (A' : Nat → Prop) (w' : World) (g m cap n0 c0 : Nat) (a0 : Option Addr), IsRun A' op known vf vk { s with ended := true, out := { s.out with height := n.level + 1 } } b w' → (∀ c, A' c → c < w'.heap.size) → b < g → m = (n.entries ++ [(⟨op.key, op.to⟩ : Bt.Entry)]).length → m ≤ cap →
  EntRow w' (.slice (some ⟨g, 0, none⟩) m cap) (n.entries ++ [(⟨op.key, op.to⟩ : Bt.Entry)]) →
  Calls Tryz.prog 86 #[.pointer (some ⟨b, 0, none⟩), .agg (foundCells page n (.slice a0 n0 c0)), .slice (some ⟨g, 0, none⟩) m cap, .slice none 0 0] w'
   (RunPost A' op known vf vk (({ s with ended := true, out := { s.out with height := n.level + 1 } } : Bt.St).store op page n (n.entries ++ [(⟨op.key, op.to⟩ : Bt.Entry)]) []) b (.tuple #[]) w'))) :
 Calls Tryz.prog 52 #[.pointer (some ⟨b, 0, none⟩)] w (RunPost A op known vf vk (s.insert op known) b (.tuple #[]) w) := by
 have hread := (look_known hl).2.2.2
 have hnode := (look_known hl).2.2.1
 have hmem := (look_known hl).1
 have hpok : page.Ok := h.knownRow.ok page hmem
 have hval : n.valid = true := by
  unfold Bt.readNode at hread
  split at hread
  ·cases hread
  ·split at hread
   ·rename_i h2
    rw [Option.some.inj hread] at h2
    exact h2.1
   ·cases hread
 have hasc := valid_asc n hval
 have hentok : ∀ e ∈ n.entries, e.Ok := by rw [hnode]; exact entry_ok page hpok
 have hhk : Bt.hasKey n.entries op.key = false := by simp only [Bt.hasKey, hend, List.getElem?_eq_none (Nat.le_refl _)]
 have hdesc : s.descend known 0 op.key = ({ s with ended := true, out := { s.out with height := n.level + 1 } }, .at_ page n) := by
  have h2 : ¬ n.high < op.key := by omega
  have h3 : ¬ (n.dead = true ∨ n.high < op.key) := by simp [hd]; omega
  simp only [Bt.St.descend, hl]
  rw [if_neg (by omega), hlev]
  show Bt.descendFrom known 0 op.key (0 + 1) (256 + 1) s 0 page n = _
  rw [Bt.descendFrom, if_neg h3, if_pos hlev]
  simp [hlk]
 have HX : Hid (s.insert op known = ({ s with ended := true, out := { s.out with height := n.level + 1 } } : Bt.St).store op page n (n.entries ++ [(⟨op.key, op.to⟩ : Bt.Entry)]) []) := hid (by
  simp only [Bt.St.insert, if_neg hroot, hdesc, hhk]
  simp only [Bt.insertAt, hend, List.take_length, List.drop_length]
  rfl)
 have HR := hid h
 have HLF := hid (fun wx h1 h2 => leaf_here A op known vf vk s b page n wx h1 h2 hl hlev hd hk hlk)
 have HAS := hid hasc
 have HEO := hid hentok
 have HHK := hid hhk
 have HEND := hid hend
 have HKY := hid hkey
 have hlen5 := hasc.2
 have hlt := h.lt
 have hlt1 : b < w.heap.size + 1 := by omega
 obtain ⟨vn, vw, ve, vc, hc⟩ := h.cells
 have k1 : w.cell? ⟨b, 1, none⟩ = some (.int .u32 op.key) := hc 1
 have k3 : w.cell? ⟨b, 3, none⟩ = some (.int .i64 op.to.line) := hc 3
 have k4 : w.cell? ⟨b, 4, none⟩ = some (.int .i64 op.to.gen) := hc 4
 have k34 : w.cell? ⟨b, 34, none⟩ = some (.int .i64 s.root.line) := hc 34
 have k35 : w.cell? ⟨b, 35, none⟩ = some (.int .i64 s.root.gen) := hc 35
 have hp : peq s.root.line s.root.gen 0 0 = false := by rw [peq_nil]; simp [hroot]
 have eq := eql_ptr
 have hn : NoneAt w := by obtain ⟨vn, vw, ve, vc, hr, _⟩ := h; exact hr.none
 obtain ⟨g0, g1, gl⟩ := hn
 have gl1 : 0 < w.heap.size + 1 := by omega
 clear h hc hroot hl hlev hd hk hlk hkey hend hread hnode hmem hpok hval hasc hentok hhk hdesc
 go_enter Tryz.func52, Tryz.ntmps52
 go_wp2_with fail
 refine qA fun hSt => ?_
 refine qS [0, 1, 2, 3, 4, 5, 6, 7, 8, 9, 10] ?_
 iterate 11 (refine qT ?_; simp only [Act.put, qY])
 refine TakeSeq.done ?_
 refine qH 11 fun K hK => ?_
 go_simp
 refine hK.out _ _ (SteadyAll.of qL) (fun hHeld => ?_)
 clear hK K
 refine qH 12 fun K hK => ?_
 go_simp
 refine hK.out _ _ (SteadyAll.of qL) (fun hHeld => ?_)
 clear hK K
 refine qD ?_ _
 go_wp2_with fail
 refine qA fun hSt => ?_
 refine qS [0, 1, 2, 3, 4, 5] ?_
 iterate 6 (refine qT ?_; simp only [Act.put, qY])
 refine TakeSeq.done ?_
 refine qD ?_ _
 go_wp2_with fail
 go_at_call 83; refine (HLF.out _ ?hrun ?hlow).mono ?_
 case hrun => exact HR.out.below qL
 case hlow => exact fun c hc => by have := hA c hc; simp; omega
 rintro e w1 ⟨hrun1, ho1, v, rfl, hown⟩
 obtain ⟨g, cap, rfl⟩ := own_form hown hpos
 have hglt := own_lt hown
 have hcap := own_cap hown
 have HR1 := hid hrun1
 have HOWN := hid hown
 have HER : Hid (EntRow w1 (.slice (some ⟨g, 0, none⟩) n.entries.length cap) n.entries) := hid (EntRow.of_own hown rfl HEO.out)
 have hgg : w.heap.size < g := by have := hglt.1; simp at this; omega
 have hgl := hglt.2
 obtain ⟨un, uw, ue, uc, hc⟩ := hrun1.cells
 have j1 : w1.cell? ⟨b, 1, none⟩ = some (.int .u32 op.key) := hc 1
 have hq1 : b < w1.heap.size := hrun1.lt
 have hq2 : b < w1.heap.size + 1 := by omega
 clear hrun1 hown hc hglt
 ((obtain ⟨hc1, hf1, hs1⟩ := qO ho1); (try have := qN0 w w1))
 simp only [foundCells]
 go_wp2_with fail
 refine qA fun hSt => ?_
 refine qS [0, 1, 2, 3, 4, 5, 6] ?_
 iterate 7 (refine qT ?_; simp only [Act.put, qY])
 refine TakeSeq.done ?_
 refine qH 7 fun K hK => ?_
 go_simp
 go_at_call 84; refine (search_any n (.slice (some ⟨g, 0, none⟩) n.entries.length cap) op.key _ ?hpf HAS.out.1 HAS.out.2).mono ?_; (case hpf => exact HER.out.below qL); rintro e2 w2 ⟨rfl, hb2⟩; rw [HHK.out, HEND.out]; ((obtain ⟨hc2, hf2, hs2⟩ := qR hb2); (try have := qN0 w w2); (try have := qN0 w1 w2))
 go_wp2_with fail
 refine hK.out _ _ (SteadyAll.of qL) (fun hHeld => ?_)
 clear hK K
 refine qS [8, 9, 10, 11, 12] ?_
 iterate 5 (refine qT ?_; simp only [Act.put, qY])
 refine TakeSeq.done ?_
 refine qD ?_ _
 go_wp2_with fail
 have hsz12 : w1.heap.size + 1 ≤ w2.heap.size := by omega
 have hO2 : Over b w w2 := qV
 have HO2 := hid hO2
 have hAg : ¬ A g := fun h1 => by have := hA _ h1; omega
 have HOK : Hid (∀ e ∈ n.entries ++ [(⟨op.key, op.to⟩ : Bt.Entry)], e.Ok) := hid (by
  intro e he
  rw [List.mem_append] at he
  rcases he with h1 | h1
  ·exact HEO.out e h1
  ·simp at h1; subst h1; exact HKY.out)
 have hg2 : g < w2.heap.size := by omega
 refine wp_region_held_drew (S := SteadyTwo b g _) (by kernel_rfl) (SteadyTwo.of (Below.refl _ _).drew) ?_
 intro hSt
 refine qS [0, 1, 2, 3, 4, 5, 6] ?_
 iterate 7 (refine qT ?_; simp only [Act.put, qY])
 refine TakeSeq.done ?_
 refine qH 7 fun K hK => ?_
 go_simp
 refine hK.out _ _ (SteadyTwo.of qL) (fun hHeld => ?_)
 clear hK K
 refine qH 8 fun K hK => ?_
 go_simp
 go_at_call 87; refine (insert_end (w.heap.size + 1) g n.entries.length cap w2.heap.size n.entries ⟨op.key, op.to⟩ _ ?hown (by omega) (by simp; omega) ((Blk.made' (by simp)).cell 0) ((Blk.made' (by simp)).cell 1) ((Blk.made' (by simp)).cell 2)).mono ?_; (case hown => exact own_below (own_base HOWN.out (by simp)) qL); rintro e3 w3 ⟨g3, cap3, rfl, hown3, hg3⟩; have HW3 := hid hown3; have HG3 := hid hg3; clear hown3 hg3
 go_wp2_with fail
 refine hK.out _ _ (SteadyTwo.grown qL HG3.out) (fun hHeld => ?_)
 clear hK K
 refine qH 9 fun K hK => ?_
 go_simp
 have hl3 := own_lt HW3.out; have hz3 := HG3.out.size; simp only [size_alloc, size_drew] at hz3; go_at_call 86; refine (HS.out A _ g3 (n.entries.length + 1) cap3 n.entries.length cap (some ⟨g, 0, none⟩) ?hrun ?hlow (by omega) (by simp) (own_cap HW3.out).1 (EntRow.of_own HW3.out (by simp) HOK.out)).mono ?_; (case hrun => exact (HR1.out.below qL).grown HG3.out (by omega) hAg); (case hlow => exact fun c hc => by have := hA c hc; omega); rintro e4 w4 ⟨rfl, hrun4, ho4⟩; have HR4 := hid hrun4; have HO4 := hid ho4; clear hrun4 ho4
 go_wp2_with fail
 refine hK.out _ _ (SteadyTwo.over (SteadyTwo.grown qL HG3.out) (by omega) HO4.out) (fun hHeld => ?_)
 clear hK K
 refine qD ?_ _
 go_wp2_with fail
 have hO2 := HO2.out
 have hO3 : Over b w w3 := Over.grow_new qV HG3.out (by omega)
 have ho4 := HO4.out
 refine bodyPost_end (results_none rfl _ _ _) rfl ⟨rfl, ?_, qV⟩
 rw [HX.out]
 refine HR4.out.imp (fun c hc => ?_)
 have hz3 := hO3.size
 rcases hc with h1 | h1
 ·exact .inl h1
 ·exact .inr (by omega)
end Go.Proofs.YtjmpekanlmepmaaGreatDoor
