/- TreeHints, plain: an index, and pages of it from several moments. -/
import Derived.Test.YtjmpekanlmepmaaGreatDoorUH01
import Derived.Test.YtjmpekanlmepmaaGreatDoorBB23
import Derived.Test.YtjmpekanlmepmaaGreatDoorBB31
import Derived.Test.YtjmpekanlmepmaaGreatDoorBB04
import Derived.Test.YtjmpekanlmepmaaGreatDoorBB05
import Derived.Test.YtjmpekanlmepmaaGreatDoorBB45
import Derived.Test.YtjmpekanlmepmaaGreatDoorBB46
import Derived.Test.YtjmpekanlmepmaaGreatDoorBB19
import Derived.BigQuiet
set_option linter.all false
set_option maxRecDepth 20000
set_option maxHeartbeats 8000000
open Go.Lib (hid)
namespace Go.Proofs.YtjmpekanlmepmaaGreatDoor.Bt
structure HistAt (ps : List Page) (nx : Int) (es : List Entry) (T : List (List Cell)) (U : List Cell) (V : Cell → Prop) (B : Int → Int → Prop) (Lo : Int → Int → Int → Prop) : Prop where
 inv : Inv ps nx es T
 hist : Hist nx T U V B Lo
 gone : ∀ c ∈ U, Sees ps c.1 c.2
structure WasPages (V : Cell → Prop) (Lo : Int → Int → Int → Prop) (q : List Page) : Prop where
 ix : Ix q
 node : ∀ l n, 105 ≤ l → l < 256 → Z19 (pg q l) = some n → 0 < n.level → V (l, n) ∧ Sees q l n
 root : RootWas Lo (pg q 96)
theorem WasPages.mono {V V' : Cell → Prop} {Lo Lo' : Int → Int → Int → Prop} {q : List Page} (h : WasPages V Lo q) (hv : ∀ c, V c → V' c) (hl : ∀ l lev k, Lo l lev k → Lo' l lev k) : WasPages V' Lo' q := by
 refine ⟨h.ix, fun l n h1 h2 h3 h4 => ⟨hv _ (h.node l n h1 h2 h3 h4).1, (h.node l n h1 h2 h3 h4).2⟩, h.root.1, ?_⟩
 obtain ⟨_, r, lev, lv, h1, h2⟩ := h.root
 exact ⟨r, lev, lv, h1, fun k hk => hl _ _ _ (h2 k hk)⟩
section
variable {ps : List Page} {nx : Int} {es : List Entry} {T : List (List Cell)} {U : List Cell} {V : Cell → Prop} {B : Int → Int → Prop} {Lo : Int → Int → Int → Prop} {kn : List Page}
theorem HistAt.moved (h : HistAt ps nx es T U V B Lo) {ps' : List Page} {nx' d : Int} {es' : List Entry} {T' : List (List Cell)} {w k : Nat} (hi : Inv ps' nx' es' T') (hk : Kept ps ps' T T') (he : Evo nx d w k T T') (hd : nx' = nx + d) :
 ∃ U' V' B' Lo', HistAt ps' nx' es' T' U' V' B' Lo' ∧ (∀ c, V c → V' c) ∧ ∀ l lev k, Lo l lev k → Lo' l lev k := by
 obtain ⟨U', B', Lo', h1, h2, h3, h4⟩ := he.hist h.inv.tree hi.tree h.inv.range hd h.hist
 refine ⟨U', _, B', Lo', ⟨hi, h1, fun c hc => ?_⟩, fun c hc => .inl hc, h2⟩
 have hs : Sees ps c.1 c.2 := by
  rcases h4 c hc with h5 | h5
  ·exact h.gone c h5
  ·exact h.inv.sees c h5
 obtain ⟨_, _, g3, g4, _⟩ := h1.gone c hc
 refine hs.congr (hk c.1 (by omega) (fun n hn => absurd (List.mem_map_of_mem (f := (·.1)) hn) g3))
theorem HistAt.was (h : HistAt ps nx es T U V B Lo) (hT : T ≠ []) : WasPages V Lo ps := by
 refine ⟨h.inv.ix, fun l n h1 h2 h3 h4 => ?_, h.inv.rootHere.2.1, ?_⟩
 ·by_cases hl : l < nx
  ·rcases h.hist.cover l h1 hl with h5 | ⟨m, h5⟩
   ·obtain ⟨c, hc, rfl⟩ := List.mem_map.1 h5
    have hs := h.inv.sees c hc
    have : c.2 = n := by have := hs.node; rw [h3] at this; exact (Option.some.inj this).symm
    subst this
    exact ⟨h.hist.now c hc h4, hs⟩
   ·have hs := h.gone _ h5
    have : m = n := by have := hs.node; rw [h3] at this; exact (Option.some.inj this).symm
    subst this
    have := (h.hist.gone _ h5).2.1
    have : m.level = 0 := this
    omega
  ·have h5 := (h.inv.fresh l (by omega) h2).1
   have h6 := (Z3y h3).2.2.1
   omega
 ·have hr := h.inv.root
  cases T with
  | nil => exact absurd rfl hT
  | cons up t =>
    cases up with
    | nil => exact absurd rfl h.inv.tree.levels.ne
    | cons c r =>
      refine ⟨c.1, ((t.length : Nat) : Int), _, hr, fun k hk => ?_⟩
      have hp : (c.1, ((t.length : Nat) : Int), (0 : Int)) ∈ places 0 ((c :: r) :: t) := mem_places.2 ⟨[], [], c.2, r, t, rfl, rfl, rfl⟩
      exact (h.hist.lo _ _ _ hp _ _).2 ⟨rfl, by omega⟩
structure MixOf (V : Cell → Prop) (Lo : Int → Int → Int → Prop) (ps kn : List Page) : Prop where
 ix : Ix kn
 page : ∀ l, 96 ≤ l → l < 256 → pg kn l = pg ps l ∨ ∃ q, WasPages V Lo q ∧ pg kn l = pg q l ∧ (l = 96 ∨ ∃ n n', Z19 (pg ps l) = some n ∧ 0 < n.level ∧ Z19 (pg q l) = some n' ∧ 0 < n'.level)
theorem MixOf.refl (h : Ix ps) : MixOf V Lo ps ps := ⟨h, fun _ _ _ => .inl rfl⟩
theorem Ix.setPg {q : List Page} (h : Ix kn) (hq : Ix q) {l : Int} (h1 : 96 ≤ l) (h2 : l < 256) : Ix (kn.set (l - 96).toNat (pg q l)) ∧ ∀ l', 96 ≤ l' → l' < 256 → pg (kn.set (l - 96).toNat (pg q l)) l' = if l' = l then pg q l else pg kn l' := by
 have hl := h.len
 obtain ⟨g1, g2, g3, g4⟩ := hq.at h1 h2
 have hix : Ix (kn.set (l - 96).toNat (pg q l)) := by
  refine ⟨by simp [hl], fun i hi => ?_, fun p hp => ?_, fun p hp => ?_⟩
  ·have hi' : i < kn.length := by simpa using hi
   simp only [List.getElem_set]
   split
   ·rw [g2]; omega
   ·exact h.line i hi'
  ·rcases List.mem_or_eq_of_mem_set hp with hp | rfl
   ·exact h.ok p hp
   ·exact hq.ok _ g3
  ·rcases List.mem_or_eq_of_mem_set hp with hp | rfl
   ·exact h.free p hp
   ·exact hq.free _ g3
 refine ⟨hix, fun l' h3 h4 => ?_⟩
 have e1 := (hix.at h3 h4).2.2.2
 have e2 := (h.at h3 h4).2.2.2
 by_cases he : l' = l
 ·subst he
  rw [if_pos rfl]
  rw [List.getElem?_set_self (by omega)] at e1
  exact (Option.some.inj e1).symm
 ·rw [if_neg he]
  rw [List.getElem?_set_ne (by omega), e2] at e1
  exact (Option.some.inj e1).symm
theorem MixOf.put (h : MixOf V Lo ps kn) {q : List Page} (hq : WasPages V Lo q) {l : Int} (h1 : 96 ≤ l) (h2 : l < 256) (hc : l = 96 ∨ ∃ n n', Z19 (pg ps l) = some n ∧ 0 < n.level ∧ Z19 (pg q l) = some n' ∧ 0 < n'.level) :
 MixOf V Lo ps (kn.set (l - 96).toNat (pg q l)) := by
 obtain ⟨g1, g2⟩ := h.ix.setPg hq.ix h1 h2
 refine ⟨g1, fun l' h3 h4 => ?_⟩
 rw [g2 l' h3 h4]
 by_cases he : l' = l
 ·subst he
  rw [if_pos rfl]
  exact .inr ⟨q, hq, rfl, hc⟩
 ·rw [if_neg he]
  exact h.page l' h3 h4
theorem Sees.page {q : List Page} (hq : Ix q) (hk : Ix kn) {l : Int} {n : Node} (h : Sees q l n) (he : pg kn l = pg q l) : Sees kn l n := by
 have h1 := h.lo
 have h2 := h.hi
 refine h.congr ?_
 rw [(hk.at (by omega) h2).1, (hq.at (by omega) h2).1, he]
theorem HistAt.mix (h : HistAt ps nx es T U V B Lo) (hm : MixOf V Lo ps kn) : Mix T U V Lo kn := by
 intro l lev k hlo
 rcases h.hist.dom l lev k hlo with h1 | ⟨rfl, n, h1⟩
 ·obtain ⟨lev0, q0, hp⟩ := line_place h1
  obtain ⟨rfl, _⟩ := (h.hist.lo _ _ _ hp _ _).1 hlo
  obtain ⟨n, hn, hnl⟩ := h.inv.tree.place_node hp
  have hs := h.inv.sees _ hn
  have hrg := h.inv.range _ hn
  have hbd := h.inv.bound
  rcases hm.page l (by have : (105 : Int) ≤ l := hrg.1; omega) hs.hi with h2 | ⟨q, hq, h2, h3⟩
  ·exact ⟨n, hnl, hs.page h.inv.ix hm.ix h2, .inl hn⟩
  ·rcases h3 with h3 | ⟨n1, n2, e1, e2, e3, e4⟩
   ·have : (105 : Int) ≤ l := hrg.1
    omega
   ·obtain ⟨v1, v2⟩ := hq.node l n2 hrg.1 hs.hi e3 e4
    obtain ⟨_, _, _, n3, e5, e6⟩ := h.hist.was _ v1
    have e7 : n3 = n := by
     have := inj_of_nodup (f := fun c : Cell => c.1) h.inv.tree.nodup e5 hn rfl
     simpa using this
    subst e7
    refine ⟨n2, ?_, v2.page hq.ix hm.ix h2, .inr (.inr v1)⟩
    have : n3.level = n2.level := e6
    rw [← this, hnl]
 ·have hs := h.gone _ h1
  obtain ⟨g1, g2, g3, g4, g5, _⟩ := h.hist.gone _ h1
  rcases hm.page l (by have : (105 : Int) ≤ l := g4; omega) hs.hi with h2 | ⟨q, hq, h2, h3⟩
  ·exact ⟨n, g2, hs.page h.inv.ix hm.ix h2, .inr (.inl h1)⟩
  ·rcases h3 with h3 | ⟨n1, n2, e1, e2, _⟩
   ·have : (105 : Int) ≤ l := g4
    omega
   ·have e3 := hs.node
    rw [e1] at e3
    have : n1 = n := Option.some.inj e3
    have : n.level = 0 := g2
    subst n1
    omega
theorem HistAt.lookup (h : HistAt ps nx es T U V B Lo) (hT : T ≠ []) (hm : MixOf V Lo ps kn) {k : Int} (hk : 1 ≤ k) (hk2 : k ≤ Z0e) {op : Op} (hop : op.key = k) :
 ∃ p r lv, latest kn 96 = some p ∧ locked p = false ∧ p.Ok ∧ Z1p p = some (ptr r, lv) ∧ ∃ t page n, Dives kn 0 op.key { ({} : St) with rootPage := p, root := ptr r } t (.at_ page n) ∧
  (({ ({} : St) with rootPage := p, root := ptr r } : St).find op kn).need = [] ∧ (({ ({} : St) with rootPage := p, root := ptr r } : St).find op kn).writes = [] ∧ (({ ({} : St) with rootPage := p, root := ptr r } : St).find op kn).ended = true ∧
  (({ ({} : St) with rootPage := p, root := ptr r } : St).find op kn).out.code = 0 ∧ (({ ({} : St) with rootPage := p, root := ptr r } : St).find op kn).out.found = Z0T es k ∧
  (({ ({} : St) with rootPage := p, root := ptr r } : St).find op kn).out.to = (if Z0T es k then (es.getD (child es k) default).to else nilP) ∧ (({ ({} : St) with rootPage := p, root := ptr r } : St).find op kn).out.check.length = 1 := by
 have hroot : RootWas Lo (pg kn 96) := by
  rcases hm.page 96 (by omega) (by omega) with h2 | ⟨q, hq, h2, _⟩
  ·rw [h2]; exact (h.was hT).root
  ·rw [h2]; exact hq.root
 obtain ⟨hlk, r, lev, lv, hr, hlo⟩ := hroot
 obtain ⟨e1, e2, e3, _⟩ := hm.ix.at (l := 96) (by omega) (by omega)
 exact ⟨pg kn 96, r, lv, e1, hlk, hm.ix.ok _ e3, hr, h.hist.lookup h.inv hT (h.mix hm) hk hk2 hop (hlo k hk) _ rfl rfl rfl rfl⟩
end
end Go.Proofs.YtjmpekanlmepmaaGreatDoor.Bt
namespace Go.Proofs.YtjmpekanlmepmaaGreatDoor
open Go.RowKit
def NeedPost (l : Int) (w : World) (e : Ending) (w' : World) : Prop :=
 ∃ vn, e = .returned (.tuple #[vn, .slice none 0 0, .agg (Z0n {} (.slice none 0 0) (.slice none 0 0)), .bool false]) ∧ w'.ownsRow w.heap.size 3 1 vn 1 [.int .i64 l] ∧ Below w.heap.size w w'
end Go.Proofs.YtjmpekanlmepmaaGreatDoor
namespace Go.Proofs.YtjmpekanlmepmaaGreatDoor.Bt
structure NodeFits (l : Int) (A : List Cell) (n : Node) : Prop where
 level : n.level = l
 left : n.leftmost = A.isEmpty
 dead : n.dead = true → l = 0 ∧ A.isEmpty = false ∧ n.entries = []
 keys : n.dead = false → ∀ e ∈ n.entries, Z05 0 A < e.key ∧ e.key ≤ n.high
 high : n.dead = false → Z05 0 A < n.high
structure Way (ps : List Page) (T : List (List Cell)) (k : Int) (c : Cell) (L : List Cell) (hs : List Node) (e : Cell) : Prop where
 walks : Walks 0 k c hs L e
 sub : List.Sublist (c :: L) (flat T)
 root : Z1i T = ptr c.1
 level : c.2.level = ((T.length - 1 : Nat) : Int)
section
variable {ps : List Page} {nx : Int} {es : List Entry} {T : List (List Cell)} {k : Int} {c e : Cell} {L : List Cell} {hs : List Node}
end
end Go.Proofs.YtjmpekanlmepmaaGreatDoor.Bt
namespace Go.Proofs.YtjmpekanlmepmaaGreatDoor
open Go.RowKit
theorem UHsG1 {P : Prop} (h : P := by
 have HB2 := hid hb2
 clear hb2
 go_wp2_with fail
 refine qA fun hSt => ?_
 refine qS [0, 1, 2, 3, 4, 5, 6, 7, 8, 9, 10, 11, 12, 13, 14, 15, 16, 17, 18, 19, 20, 21, 22, 23] ?_
 iterate 24 (refine qT ?_; simp only [Act.put, qY])
 refine Z00.done ?_
 refine qD ?_ _
 go_wp2_with fail
 have hb1 := HB1.out
 have hb2 := HB2.out
 refine bodyPost_ret (results_tmp rfl _ _ _) rfl ⟨rfl, qL⟩) : P := h
theorem UHwG1 {P : Prop} (h : P := by
 go_enter Tryz.func24, Tryz.ntmps24
 go_wp2_with fail
 go_at_call 27; refine (HN.out _ qL).mono ?_
 rintro e1 w1 ⟨vw, ve, vc, rfl, how, hoe, hoc, hb1⟩
 obtain ⟨pw, cw, rfl⟩ := Z2Q how
 obtain ⟨ca, cc, rfl⟩ := Z38 hoc
 rw [HOK.out]
 have hse := qSt hoe
 clear how hoe hoc
 simp only [Z0n]
 rw [HF.out]
 ((obtain ⟨hc1, hf1, hs1⟩ := qR hb1); (try have := qN0 w w1))
 have HB1 := hid hb1
 have hxl1 : x < w1.heap.size := by omega
 clear hb1
 go_wp2_with fail
 first
  | clear tg1
    go_at_call 48; refine (Z32 x (x + 1) (.slice (some ⟨P, 0, none⟩) pages.length cap) vk vt vg next keys key _ ?hb ?hk hlen).mono ?_
    case hb => exact (HX.out.blk.kept HB1.out).alloc _
    case hk => exact own_below HX.out.keys (by have hb1 := HB1.out; exact qL)
    rintro e2 w2 ⟨rfl, hb2⟩
    rw [HTH.out, ← HAT.out]
    ((obtain ⟨hc2, hf2, hs2⟩ := qR hb2); (try have := qN0 w w2); (try have := qN0 w1 w2))
    have hxl2 : x < w2.heap.size := by omega
    exact UHsG1
  | clear tg2
    go_at_call 48; refine (Z32 x (x + 1) (.slice (some ⟨P, 0, none⟩) pages.length cap) vk (Value.slice (some ⟨gt, 0, none⟩) tos.length ct) vg next keys key _ ?hb ?hk hlen).mono ?_
    case hb => exact (HX.out.blk.kept HB1.out).alloc _
    case hk => exact own_below HX.out.keys (by have hb1 := HB1.out; exact qL)
    rintro e2 w2 ⟨rfl, hb2⟩
    rw [HTH.out, ← HAT.out]
    ((obtain ⟨hc2, hf2, hs2⟩ := qR hb2); (try have := qN0 w w2); (try have := qN0 w1 w2))
    have hxl2 : x < w2.heap.size := by omega
    have hgt3 : gt < w2.heap.size := by omega
    have hgt4 : gt < w1.heap.size := by omega
    exact UHsG1) : P := h
theorem Z9c (x P cap G : Nat) (pages : List Bt.Page) (next : Int) (keys : List Int) (tos : List Bt.Ptr) (key : Int) (va : Option Addr) (n c : Nat) (o : Bt.Out) (w : World) (h : IxG x P cap G pages next keys tos w) (hth : Z2p keys key = false) (hfo : o.found = false) (hto : o.to = Bt.nilP) (hlen : keys.length ≤ 1000) (htl : tos.length = keys.length) (hoc : o.code = 0) (hok : o.check.length = 1)
 (HN : Hid (∀ w', Below w.heap.size w w' → Calls Tryz.prog 27 #[.agg (Z0d ⟨1, key, 0, Bt.nilP, 0, 0, []⟩ (.slice none 0 0)), .slice va n c] w' (Z1S [] o w'))) :
 Calls Tryz.prog 24 #[.pointer (some ⟨x, 0, none⟩), .int .u32 key, .slice va n c] w (fun e w' => e = .returned (.bool true) ∧ Below w.heap.size w w') := by
 obtain ⟨vk, vt, vg, hx, hgo⟩ := h
 have hxlt := hx.blk.lt
 have kx := hx.blk.cell
 unfold Z1P at kx
 have pz : peq o.to.line o.to.gen 0 0 = true := by rw [hto]; rfl
 obtain ⟨at1, hat⟩ : ∃ at1, at1 = placeOf keys key := ⟨_, rfl⟩
 have HAT := hid hat
 have eq := eql_ptr
 clear hat
 have HX := hid hx
 have HTH := hid hth
 have HF := hid hfo
 have HOK := hid hok
 have bn0 : (o.code != 0) = false := by simp [hoc]
 clear hx hth hgo hfo hok hoc hto
 unfold Z0d Bt.nilP at HN
 have tg1 := trivial
 exact UHwG1
theorem Z8e (x P cap G : Nat) (pages : List Bt.Page) (next : Int) (keys : List Int) (tos : List Bt.Ptr) (key : Int) (va : Option Addr) (n c : Nat) (o : Bt.Out) (w : World) (h : IxG x P cap G pages next keys tos w) (hth : Z2p keys key = true) (hfo : o.found = true) (hto : o.to = tos.getD (placeOf keys key) default) (hlen : keys.length ≤ 1000) (htl : tos.length = keys.length) (hoc : o.code = 0) (hok : o.check.length = 1)
 (HN : Hid (∀ w', Below w.heap.size w w' → Calls Tryz.prog 27 #[.agg (Z0d ⟨1, key, 0, Bt.nilP, 0, 0, []⟩ (.slice none 0 0)), .slice va n c] w' (Z1S [] o w'))) :
 Calls Tryz.prog 24 #[.pointer (some ⟨x, 0, none⟩), .int .u32 key, .slice va n c] w (fun e w' => e = .returned (.bool true) ∧ Below w.heap.size w w') := by
 obtain ⟨vk, vt, vg, hx, hgo⟩ := h
 have hxlt := hx.blk.lt
 have kx := hx.blk.cell
 unfold Z1P at kx
 have hpl2 : placeOf keys key < keys.length := Z4y hth
 have hatl : placeOf keys key < tos.length := by omega
 have hgd : tos.getD (placeOf keys key) default = tos[placeOf keys key] := by rw [List.getD_eq_getElem?_getD, List.getElem?_eq_getElem hatl]; rfl
 obtain ⟨q, hq⟩ : ∃ q, tos[placeOf keys key] = q := ⟨_, rfl⟩
 rw [hgd, hq] at hto
 have pq : peq o.to.line o.to.gen q.line q.gen = true := by simp [peq, hto]
 obtain ⟨gt, ct, rfl⟩ := Z0D hx.tos (by omega)
 have tc0 : w.cell? ⟨gt, placeOf keys key * 2, none⟩ = some (.int .i64 q.line) := by rw [← hq]; exact Z0i hx.tos _ _ (Z1C tos _ _ (List.getElem?_eq_getElem hatl) 0 _ rfl)
 have tc1 : w.cell? ⟨gt, placeOf keys key * 2 + 1, none⟩ = some (.int .i64 q.gen) := by rw [← hq]; exact Z0i hx.tos _ _ (Z1C tos _ _ (List.getElem?_eq_getElem hatl) 1 _ rfl)
 have hgt := Z0X hx.tos
 have hgt2 : gt < w.heap.size := hgt.2
 obtain ⟨at1, hat⟩ : ∃ at1, at1 = placeOf keys key := ⟨_, rfl⟩
 rw [← hat] at tc0 tc1 hatl
 have HAT := hid hat
 have ha1 : (0 : Int) ≤ at1 := by omega
 have ha2 : (at1 : Int) < tos.length := by omega
 have ha3 : (at1 : Int) < keys.length := by omega
 have ha4 : at1 < keys.length := by omega
 have eq := eql_ptr
 clear hgt hgd hq hat hpl2
 have HX := hid hx
 have HTH := hid hth
 have HF := hid hfo
 have HOK := hid hok
 have bn0 : (o.code != 0) = false := by simp [hoc]
 clear hx hth hgo hfo hok hoc hto
 unfold Z0d Bt.nilP at HN
 have tg2 := trivial
 exact UHwG1
abbrev Z6D (k : Int) : Bt.Op := ⟨1, k, 0, Bt.nilP, 0, 0, []⟩
theorem Z8Y {ps : List Bt.Page} {nx : Int} {es : List Bt.Entry} {T : List (List Bt.Cell)} (h : Bt.Inv ps nx es T) (k : Int) (hk : 1 ≤ k) (hk2 : k ≤ Bt.Z0e) : Z2O ps nx (Z6D k) := fun fr ws o hf hn fa ka fn fc kn kc w =>
 Z6M h _ (by unfold Bt.Op.isValid; simp [Z6D, Bt.isKey, hk, hk2]) hn fa ka fn fc kn kc w rfl
structure Trip (ps : List Bt.Page) (k : Int) (lines : List Int) : Prop where
 short : lines.length ≤ 153
 line : ∀ l ∈ lines, 96 ≤ l ∧ l < 256
 nodup : lines.Nodup
 wait : ∀ n l, lines[n]? = some l → ∀ ka kn kc w, PgRow w (.slice ka kn kc) ((lines.take n).map (Bt.pg ps)) → NoneAt w → Calls Tryz.prog 27 #[.agg (Z0d (Z6D k) (.slice none 0 0)), .slice ka kn kc] w (NeedPost l w)
 over : ∃ (o : Bt.Out) (a b : Nat), o.code = 0 ∧ o.height = (a : Int) ∧ o.hops = (b : Int) ∧ lines.length = 1 + a + b ∧
  ∀ ka kn kc w, PgRow w (.slice ka kn kc) (lines.map (Bt.pg ps)) → NoneAt w → Calls Tryz.prog 27 #[.agg (Z0d (Z6D k) (.slice none 0 0)), .slice ka kn kc] w (Z1S [] o w)
def Answers (kn : List Bt.Page) (k : Int) (es : List Bt.Entry) : Prop :=
 ∃ o : Bt.Out, o.code = 0 ∧ o.found = Bt.Z0T es k ∧ o.to = (if Bt.Z0T es k then (es.getD (Bt.child es k) default).to else Bt.nilP) ∧ o.check.length = 1 ∧
  ∀ ka n kc w, PgRow w (.slice ka n kc) kn → NoneAt w → Calls Tryz.prog 27 #[.agg (Z0d (Z6D k) (.slice none 0 0)), .slice ka n kc] w (Z1S [] o w)
theorem answers_now {ps : List Bt.Page} {nx : Int} {es : List Bt.Entry} {T : List (List Bt.Cell)} (h : Bt.Inv ps nx es T) {k : Int} (hk : 1 ≤ k) (hk2 : k ≤ Bt.Z0e) : Answers ps k es := by
 obtain ⟨o, ho, hoc, hof, hot, hok, _⟩ := h.find (op := Z6D k) rfl hk hk2
 exact ⟨o, hoc, hof, hot, hok, fun ka n kc w hp hn => Z8Y h k hk hk2 [] [] o (.inl rfl) ho none ka 0 0 n kc w (nilRow w) hp hn⟩
theorem answers_old {ps : List Bt.Page} {nx : Int} {es : List Bt.Entry} {T : List (List Bt.Cell)} {U : List Bt.Cell} {V : Bt.Cell → Prop} {B : Int → Int → Prop} {Lo : Int → Int → Int → Prop} {kn : List Bt.Page} (h : Bt.HistAt ps nx es T U V B Lo) (hT : T ≠ []) (hm : Bt.MixOf V Lo ps kn)
 {k : Int} (hk : 1 ≤ k) (hk2 : k ≤ Bt.Z0e) : Answers kn k es := by
 have hv : (Z6D k).isValid = true := by unfold Bt.Op.isValid; simp [Z6D, Bt.isKey, hk, hk2]
 obtain ⟨p, r, lv, h1, h2, h3, h4, t, page, n, h5, h6, h7, h8, h9, h10, h11, h12⟩ := h.lookup hT hm hk hk2 (op := Z6D k) rfl
 refine ⟨_, h9, h10, h11, h12, fun ka n kc w hp hn => ?_⟩
 have hq := Zau (Z6D k) kn none ka 0 0 n kc w (nilRow w) hp hn rfl hv p (Bt.ptr r) lv h1 h2 h4 _ h6 (by rw [h7]; exact .inl rfl) _ (fun he => by rw [h8] at he; cases he) (fun _ => rfl)
  (hid (fun b' w' hr => ZaV _ (Z6D k) kn _ _ _ b' _ _ _ w' hr (fun _ h => h.elim) Bt.ptr_ne ⟨Int.le_refl _, by show (0 : Int) ≤ 1000; decide⟩ h5))
 rw [h7] at hq
 exact hq
theorem right_answers {ps kn : List Bt.Page} {nx : Int} {es : List Bt.Entry} {T : List (List Bt.Cell)} (h : Bt.Inv ps nx es T) {k : Int} (ha : Answers kn k es) {x P cap G : Nat} (w : World) (hx : IxG x P cap G ps nx (keysOf es) (tosOf es) w) (ka : Option Addr) (n kc : Nat) (hp : PgRow w (.slice ka n kc) kn) :
 Calls Tryz.prog 24 #[.pointer (some ⟨x, 0, none⟩), .int .u32 k, .slice ka n kc] w (fun e w' => e = .returned (.bool true) ∧ Below w.heap.size w w') := by
 obtain ⟨o, hoc, hof, hot, hok, hnext⟩ := ha
 have hlen := h.esLen
 have hlk : (keysOf es).length ≤ 1000 := by unfold keysOf; rw [List.length_map]; omega
 have hlt : (tosOf es).length = (keysOf es).length := by unfold keysOf tosOf; simp
 have hth := Z4z es k
 have hno : NoneAt w := by obtain ⟨_, _, _, hxo, _⟩ := hx; exact hxo.none
 have HN : Hid (∀ w', Below w.heap.size w w' → Calls Tryz.prog 27 #[.agg (Z0d ⟨1, k, 0, Bt.nilP, 0, 0, []⟩ (.slice none 0 0)), .slice ka n kc] w' (Z1S [] o w')) := hid (fun w' hb => hnext ka n kc w' (hp.below hb) (hno.below hb))
 cases hhk : Bt.Z0T es k with
 | true =>
   rw [hhk] at hth
   have hot2 : o.to = (tosOf es).getD (placeOf (keysOf es) k) default := by
    rw [Z2P, Z8C es _ (Z6a hhk)]
    rw [hot, if_pos hhk]
   exact Z8e x P cap G ps nx (keysOf es) (tosOf es) k ka n kc o w hx hth (by rw [hof]; exact hhk) hot2 hlk hlt hoc hok HN
 | false =>
   rw [hhk] at hth
   exact Z9c x P cap G ps nx (keysOf es) (tosOf es) k ka n kc o w hx hth (by rw [hof]; exact hhk) (by rw [hot, if_neg (by show ¬ Bt.Z0T es k = true; rw [hhk]; simp)]) hlk hlt hoc hok HN
theorem Z4v {w w' : World} {base n size : Nat} {e : TypeId} {v : Value} {o : Option Nat} {xs : List Value} (h : w.ownsRow base e size v n xs) (hg : w.grownBy w' o) (hn : ∀ c, v.ownBlock = some c → o ≠ some c) : w'.ownsRow base e size v n xs :=
 h.kept hg (by
  rcases hv : v.ownBlock with _ | c
  ·exact .inl rfl
  ·exact .inr (fun e => hn c hv e.symm))
theorem Z2q {w : World} {base n size : Nat} {e : TypeId} {v : Value} {xs : List Value} (h : w.ownsRow base e size v n xs) : ∃ p cap, v = .slice p n cap := by
 rcases h.2 with ⟨rfl, h0⟩ | ⟨g, cap, _, hv, _⟩
 ·exact ⟨none, 0, by rw [h0]⟩
 ·exact ⟨_, cap, hv⟩
def Z2K : List Bt.Cell → List Value → List Value
 | c :: cs, u :: us => (Z02 c.2 u).toList ++ Z2K cs us
 | _, _ => []
theorem Z55 {w : World} {b1 b2 s1 s2 n1 n2 : Nat} {e1 e2 : TypeId} {v1 v2 : Value} {x1 x2 : List Value} (h1 : w.ownsRow b1 e1 s1 v1 n1 x1) (h2 : w.ownsRow b2 e2 s2 v2 n2 x2) (he : e1 ≠ e2) : ∀ c, v1.ownBlock = some c → v2.ownBlock ≠ some c := by
 intro c hc hc2
 rcases h1.2 with ⟨rfl, _⟩ | ⟨g, cap, cur, rfl, _, hg, _⟩
 ·simp [Value.ownBlock] at hc
 ·rcases h2.2 with ⟨rfl, _⟩ | ⟨g2, cap2, cur2, rfl, _, hg2, _⟩
  ·simp [Value.ownBlock] at hc2
  ·simp only [Value.ownBlock, Option.some.injEq] at hc hc2
   subst hc
   rw [← hc2, hg2] at hg
   simp only [Option.some.injEq, Obj.cells.injEq] at hg
   exact he hg.2.1.symm
structure NodesAt (base : Nat) (vn : Value) (cells : List Bt.Cell) (us : List Value) (w : World) : Prop where
 len : us.length = cells.length
 own : w.ownsRow base 73 7 vn cells.length (Z2K cells us)
 rows : ∀ (i : Nat) (c : Bt.Cell) (u : Value), cells[i]? = some c → us[i]? = some u → w.ownsRow base 69 3 u c.2.entries.length (Z04 c.2.entries)
theorem infoPages : (Tryz.prog.info? 54).map (fun i => (i.zero, i.size, i.bytes)) = some (some (.slice none 0 0), 1, 24) := by kernel_rfl
theorem pageTypes : (25 : TypeId) ≠ 27 ∧ (54 : TypeId) ≠ 27 ∧ (25 : TypeId) ≠ 54 ∧ (52 : TypeId) ≠ 54 := by decide
theorem PagesAt.lay {P cap a : Nat} {pages : List Bt.Page} {w : World} (h : PagesAt P cap pages w) (ha : a < pages.length) (p : Bt.Page) (hp : p.Ok) : PagesAt P cap (pages.set a p) (((((((((w.setCell ⟨P, a * 9, none⟩ (.int .i64 p.line)).setCell ⟨P, a * 9 + 1, none⟩ (.int .u64 p.head)).setCell ⟨P, a * 9 + 2, none⟩ (.int .u64 p.d0)).setCell ⟨P, a * 9 + 3, none⟩ (.int .u64 p.d1)).setCell ⟨P, a * 9 + 4, none⟩ (.int .u64 p.d2)).setCell ⟨P, a * 9 + 5, none⟩ (.int .u64 p.d3)).setCell ⟨P, a * 9 + 6, none⟩ (.int .u64 p.d4)).setCell ⟨P, a * 9 + 7, none⟩ (.int .u64 p.d5)).setCell ⟨P, a * 9 + 8, none⟩ (.int .u64 p.d6)) := by
 obtain ⟨cs, hc⟩ := h.blk
 have hr := h.row_at ha
 have hlt : a * 9 + 8 < cs.size := by
  have := hr 8 (.int .u64 pages[a].d6) rfl
  rw [hc.cell] at this
  exact (Array.getElem?_eq_some_iff.1 this).1
 have hb := (((((((((hc.put (a * 9) (.int .i64 p.line)).put (a * 9 + 1) (.int .u64 p.head)).put (a * 9 + 2) (.int .u64 p.d0)).put (a * 9 + 3) (.int .u64 p.d1)).put (a * 9 + 4) (.int .u64 p.d2)).put (a * 9 + 5) (.int .u64 p.d3)).put (a * 9 + 6) (.int .u64 p.d4)).put (a * 9 + 7) (.int .u64 p.d5)).put (a * 9 + 8) (.int .u64 p.d6))
 refine ⟨⟨fun q hq => ?_, by simpa using h.row.len, .inr ⟨P, cap, by simp, hb.lt, fun i q hi j u hu => ?_⟩⟩, hb.free, hb.lt, ⟨_, hb⟩⟩
 ·rcases List.mem_or_eq_of_mem_set hq with h1 | rfl
  ·exact h.row.ok q h1
  ·exact hp
 ·have hj : j < 9 := by have := (Array.getElem?_eq_some_iff.1 hu).1; simpa [Bt.Page.cells] using this
  rw [hb.cell]
  by_cases hia : i = a
  ·subst hia
   rw [List.getElem?_set_self ha] at hi
   obtain rfl := Option.some.inj hi
   match j, hj with
   | 0, _ =>
     simp only [Array.getElem?_setIfInBounds]
     rw [← hu]
     simp [Bt.Page.cells]
     try omega
   | 1, _ =>
     simp only [Array.getElem?_setIfInBounds]
     rw [← hu]
     simp [Bt.Page.cells]
     try omega
   | 2, _ =>
     simp only [Array.getElem?_setIfInBounds]
     rw [← hu]
     simp [Bt.Page.cells]
     try omega
   | 3, _ =>
     simp only [Array.getElem?_setIfInBounds]
     rw [← hu]
     simp [Bt.Page.cells]
     try omega
   | 4, _ =>
     simp only [Array.getElem?_setIfInBounds]
     rw [← hu]
     simp [Bt.Page.cells]
     try omega
   | 5, _ =>
     simp only [Array.getElem?_setIfInBounds]
     rw [← hu]
     simp [Bt.Page.cells]
     try omega
   | 6, _ =>
     simp only [Array.getElem?_setIfInBounds]
     rw [← hu]
     simp [Bt.Page.cells]
     try omega
   | 7, _ =>
     simp only [Array.getElem?_setIfInBounds]
     rw [← hu]
     simp [Bt.Page.cells]
     try omega
   | 8, _ =>
     simp only [Array.getElem?_setIfInBounds]
     rw [← hu]
     simp [Bt.Page.cells]
     try omega
  ·rw [List.getElem?_set_ne (Ne.symm hia)] at hi
   have hil : i < pages.length := (List.getElem?_eq_some_iff.1 hi).1
   have h1 := h.row_at hil j u (by rw [List.getElem?_eq_getElem hil] at hi; rw [Option.some.inj hi]; simpa using hu)
   rw [hc.cell] at h1
   rw [← h1]
   simp only [Array.getElem?_setIfInBounds]
   repeat rw [if_neg (by omega)]
theorem below_lay {P a n : Nat} {w0 w : World} (p : Bt.Page) (h : Below n w0 w) (hP : n ≤ P) : Below n w0 (((((((((w.setCell ⟨P, a * 9, none⟩ (.int .i64 p.line)).setCell ⟨P, a * 9 + 1, none⟩ (.int .u64 p.head)).setCell ⟨P, a * 9 + 2, none⟩ (.int .u64 p.d0)).setCell ⟨P, a * 9 + 3, none⟩ (.int .u64 p.d1)).setCell ⟨P, a * 9 + 4, none⟩ (.int .u64 p.d2)).setCell ⟨P, a * 9 + 5, none⟩ (.int .u64 p.d3)).setCell ⟨P, a * 9 + 6, none⟩ (.int .u64 p.d4)).setCell ⟨P, a * 9 + 7, none⟩ (.int .u64 p.d5)).setCell ⟨P, a * 9 + 8, none⟩ (.int .u64 p.d6)) :=
 (Below.setCell (Below.setCell (Below.setCell (Below.setCell (Below.setCell (Below.setCell (Below.setCell (Below.setCell (Below.setCell h (p := ⟨P, a * 9, none⟩) hP _) (p := ⟨P, a * 9 + 1, none⟩) hP _) (p := ⟨P, a * 9 + 2, none⟩) hP _) (p := ⟨P, a * 9 + 3, none⟩) hP _) (p := ⟨P, a * 9 + 4, none⟩) hP _) (p := ⟨P, a * 9 + 5, none⟩) hP _) (p := ⟨P, a * 9 + 6, none⟩) hP _) (p := ⟨P, a * 9 + 7, none⟩) hP _) (p := ⟨P, a * 9 + 8, none⟩) hP _)
theorem own_frame {x P base n size : Nat} {e : TypeId} {v : Value} {xs : List Value} {w w' : World} (h : w.ownsRow base e size v n xs) (hf : FrameP x P w w') (hx : x < base) (hP : P < base) (he : e ≠ 27) : w'.ownsRow base e size v n xs := by
 refine ⟨h.1, ?_⟩
 rcases h.2 with h1 | ⟨g, cap, cur, hv, hb, hg, h2⟩
 ·exact .inl h1
 ·refine .inr ⟨g, cap, cur, hv, hb, ?_, h2⟩
  have hlt : g < w.heap.size := own_lt' h g (by rw [hv]; rfl)
  rw [hf.rest g hlt (by omega) (by omega) ?_]
  ·exact hg
  ·rintro ⟨cs, f, hc⟩
   rw [hg] at hc
   simp only [Option.some.injEq, Obj.cells.injEq] at hc
   exact he hc.2.1
def Aside (x : Nat) (w : World) (o : Option Nat) : Prop := ∀ c, o = some c → x < c ∧ ∃ cs f, w.heap[c]? = some (.cells cs 54 f)
theorem Aside.of_own {x base n size : Nat} {v : Value} {xs : List Value} {w : World} (h : w.ownsRow base 54 size v n xs) (hx : x < base) : Aside x w v.ownBlock := by
 intro c hc
 rcases h.2 with ⟨rfl, _⟩ | ⟨g, cap, cur, rfl, hb, hg, _⟩
 ·simp [Value.ownBlock] at hc
 ·simp only [Value.ownBlock, Option.some.injEq] at hc
  subst hc
  exact ⟨by omega, _, _, hg⟩
theorem own_beside {x base n size : Nat} {e : TypeId} {v : Value} {xs : List Value} {w w' : World} {o : Option Nat} (h : w.ownsRow base e size v n xs) (hg : w.grownBy w' o) (ha : Aside x w o) (he : e ≠ 54) : w'.ownsRow base e size v n xs := by
 refine Z4v h hg fun c hc ho => ?_
 obtain ⟨_, cs, f, h1⟩ := ha c ho
 rcases h.2 with ⟨rfl, _⟩ | ⟨g, cap, cur, rfl, hb, h2, _⟩
 ·simp [Value.ownBlock] at hc
 ·simp only [Value.ownBlock, Option.some.injEq] at hc
  subst hc
  rw [h1] at h2
  simp only [Option.some.injEq, Obj.cells.injEq] at h2
  exact he h2.2.1.symm
theorem IxG.beside {x P cap G : Nat} {pages : List Bt.Page} {next : Int} {keys : List Int} {tos : List Bt.Ptr} {w w' : World} {o : Option Nat} (h : IxG x P cap G pages next keys tos w) (hg : w.grownBy w' o) (ha : Aside x w o) : IxG x P cap G pages next keys tos w' := by
 obtain ⟨vk, vt, vg, h, ⟨gs, h1, h2⟩, h3⟩ := h
 have hPx := h.hPx
 have hgP := h.hgP
 have hne : ∀ c, c ≤ x → some c ≠ o := fun c hc e => by have := (ha c e.symm).1; omega
 refine ⟨vk, vt, vg, ⟨(hg.block x h.blk.lt (hne x (Nat.le_refl _))).trans h.blk, h.pg.same (hg.block P h.pg.lt (hne P (by omega))) hg.size, own_beside h.keys hg ha pageTypes.2.2.2, own_beside h.tos hg ha pageTypes.2.1.symm, ?_, hPx, hgP⟩, ⟨gs, own_beside h1 hg ha pageTypes.2.1.symm, h2⟩, h3⟩
 have hb := hg.block 0 h.none.lt (hne _ (by omega))
 exact ⟨(World.cell?_of_block (a := ⟨0, 0, none⟩) hb).trans h.none.c0, (World.cell?_of_block (a := ⟨0, 1, none⟩) hb).trans h.none.c1, Nat.lt_of_lt_of_le h.none.lt hg.size⟩
theorem PlayAt.beside {x P cap k : Nat} {w0 wr wx : World} {ps : List Bt.Page} {nx : Int} {es : List Bt.Entry} {T : List (List Bt.Cell)} {o : Option Nat} (h : PlayAt x P cap k w0 wr ps nx es T) (hg : wr.grownBy wx o) (ha : Aside x wr o) : PlayAt x P cap k w0 wx ps nx es T := by
 have hlow := h.low
 have hPx : P < x := by obtain ⟨_, _, _, h1, _⟩ := h.ix; exact h1.hPx
 exact ⟨h.inv, h.cnt, h.ix.beside hg ha, below_grown h.below hg (fun c hc => by have := (ha c hc).1; omega), hlow⟩
def WasAt (M : Nat) (qs : List (List Bt.Page)) (v : Value) (w : World) : Prop :=
 ∃ vs : List Value, w.ownsRow M 54 1 v qs.length vs ∧ ∀ (i : Nat) (q : List Bt.Page), qs[i]? = some q → q.length = 160 ∧ (∀ p ∈ q, p.Ok) ∧ ∃ g c, vs[i]? = some (.slice (some ⟨g, 0, none⟩) 160 c) ∧ w.ownsRow M 25 9 (.slice (some ⟨g, 0, none⟩) 160 c) 160 (Z0q q)
theorem WasAt.nil (M : Nat) (w : World) : WasAt M [] (.slice none 0 0) w := ⟨[], World.ownsRow_nil _ _ _ _, fun i q h => by simp at h⟩
theorem WasAt.below {M : Nat} {qs : List (List Bt.Page)} {v : Value} {w w' : World} (h : WasAt M qs v w) (hb : Below w.heap.size w w') : WasAt M qs v w' := by
 obtain ⟨vs, h1, h2⟩ := h
 exact ⟨vs, own_below h1 hb, fun i q hq => by obtain ⟨a1, a2, g, c, a3, a4⟩ := h2 i q hq; exact ⟨a1, a2, g, c, a3, own_below a4 hb⟩⟩
theorem WasAt.frame {x P M : Nat} {qs : List (List Bt.Page)} {v : Value} {w w' : World} (h : WasAt M qs v w) (hf : FrameP x P w w') (hx : x < M) (hP : P < M) : WasAt M qs v w' := by
 obtain ⟨vs, h1, h2⟩ := h
 exact ⟨vs, own_frame h1 hf hx hP pageTypes.2.1, fun i q hq => by obtain ⟨a1, a2, g, c, a3, a4⟩ := h2 i q hq; exact ⟨a1, a2, g, c, a3, own_frame a4 hf hx hP pageTypes.1⟩⟩
theorem WasAt.push {M : Nat} {qs : List (List Bt.Page)} {v v' : Value} {w w' : World} (h : WasAt M qs v w) {g c : Nat} {q : List Bt.Page} (hq : q.length = 160) (hok : ∀ p ∈ q, p.Ok) (hc : w.ownsRow M 25 9 (.slice (some ⟨g, 0, none⟩) 160 c) 160 (Z0q q)) (hg : w.grownBy w' v.ownBlock)
 {vs : List Value} (hvs : w.ownsRow M 54 1 v qs.length vs) (ho : w'.ownsRow M 54 1 v' (qs.length + 1) (vs ++ [.slice (some ⟨g, 0, none⟩) 160 c])) : WasAt M (qs ++ [q]) v' w' := by
 obtain ⟨vs2, h1, h2⟩ := h
 have hvv : vs2 = vs := by
  rcases h1.2 with ⟨a1, a2⟩ | ⟨g1, c1, cur1, a1, _, a2, _, _, _, a3⟩
  ·have e1 := h1.1
   have e2 := hvs.1
   rw [a2] at e1 e2
   rw [List.length_eq_zero_iff.1 (by omega : vs2.length = 0), List.length_eq_zero_iff.1 (by omega : vs.length = 0)]
  ·rcases hvs.2 with ⟨b1, b2⟩ | ⟨g2, c2, cur2, b1, _, b2, _, _, _, b3⟩
   ·rw [a1] at b1; simp at b1
   ·rw [a1] at b1
    simp only [Value.slice.injEq, Option.some.injEq, Addr.mk.injEq, and_true, true_and] at b1
    rw [b1.1, b2] at a2
    simp only [Option.some.injEq, Obj.cells.injEq] at a2
    rw [← a3, ← b3, a2.1]
 subst hvv
 have hk : ∀ {m : Nat} {z : Value} {ys : List Value}, w.ownsRow M 25 9 z m ys → w'.ownsRow M 25 9 z m ys := fun hz => Z4v hz hg (fun d hd e => Z55 hz h1 pageTypes.2.2.1 d hd e)
 refine ⟨vs2 ++ [.slice (some ⟨g, 0, none⟩) 160 c], by simpa using ho, fun i q2 hq2 => ?_⟩
 have hlen : vs2.length = qs.length := by have := h1.1; omega
 by_cases hi : i < qs.length
 ·rw [List.getElem?_append_left hi] at hq2
  obtain ⟨a1, a2, g2, c2, a3, a4⟩ := h2 i q2 hq2
  exact ⟨a1, a2, g2, c2, by rw [List.getElem?_append_left (by omega)]; exact a3, hk a4⟩
 ·have hi2 : i = qs.length := by
    have := (List.getElem?_eq_some_iff.1 hq2).1
    simp at this; omega
  subst hi2
  rw [List.getElem?_append_right (Nat.le_refl _), Nat.sub_self] at hq2
  obtain rfl : q = q2 := by simpa using hq2
  exact ⟨hq, hok, g, c, by rw [List.getElem?_append_right (by omega), hlen, Nat.sub_self]; rfl, hk hc⟩
open Go.RowKit
def Z2R (lv : List Bt.Cell) : List Bt.Ptr := lv.map (fun c => Bt.ptr c.1)
def lenOf : Value → Nat
 | .slice _ n _ => n
 | _ => 0
structure LevAt (lv : List Bt.Cell) (k : Nat) (vn vp : Value) (w wr : World) : Prop where
 ptr : Blk wr w.heap.size 27 (Bt.Z14 (lv.drop k) Bt.nilP).cells
 nodes : ∃ us, NodesAt (w.heap.size + 1) vn (lv.take k) us wr
 at_ : wr.ownsRow (w.heap.size + 1) 27 2 vp k (Z0b (Z2R (lv.take k)))
 below : Below w.heap.size w wr
 len : lenOf vn = k
structure LevMid (b c k : Nat) (l : Int) (n : Bt.Node) (u vn vp : Value) (cells : List Bt.Cell) (ptrs : List Bt.Ptr) (us : List Value) (w wx : World) : Prop where
 nodes : NodesAt (w.heap.size + 1) vn cells us wx
 at_ : wx.ownsRow (w.heap.size + 1) 27 2 vp ptrs.length (Z0b ptrs)
 row : wx.ownsRow (w.heap.size + 1) 69 3 u n.entries.length (Z04 n.entries)
 bb : Blk wx b 27 #[.int .i64 l, .int .i64 1]
 bc : Blk wx c 73 (Z02 n u)
 below : Below w.heap.size w wx
 hb : b = w.heap.size
 hc : vn.ownBlock ≠ some c
structure SteadyLev (b c : Nat) (cb cc : Array Value) (wx : World) : Prop where
 rule : (∀ i, wx.cell? ⟨b, i, none⟩ = cb[i]?) ∧ (∀ i, wx.cell? ⟨c, i, none⟩ = cc[i]?)
section
variable {b c k : Nat} {l : Int} {n : Bt.Node} {u vn vp : Value} {cells : List Bt.Cell} {ptrs : List Bt.Ptr} {us : List Value} {w wx wy : World}
structure LevMid2 (b c : Nat) (l : Int) (n : Bt.Node) (u vn vp : Value) (cells : List Bt.Cell) (ptrs : List Bt.Ptr) (w wx : World) : Prop where
 nodes : ∃ us, NodesAt (w.heap.size + 1) vn cells us wx
 at_ : wx.ownsRow (w.heap.size + 1) 27 2 vp ptrs.length (Z0b ptrs)
 bb : Blk wx b 27 #[.int .i64 l, .int .i64 1]
 bc : Blk wx c 73 (Z02 n u)
 below : Below w.heap.size w wx
 hb : b = w.heap.size
end
section
variable {x P cap k : Nat} {w0 wr : World} {ps : List Bt.Page} {nx : Int} {es : List Bt.Entry} {T : List (List Bt.Cell)}
structure RootAt (P : Nat) (T : List (List Bt.Cell)) (R : Bt.Page) (w : World) : Prop where
 ok : R.Ok
 line : R.line = 96
 reads : Bt.Z1p R = some (Bt.Z1i T, ((T.length - 1 : Nat) : Int))
 cells : ∀ j u, R.cells[j]? = some u → w.cell? ⟨P, j, none⟩ = some u
theorem ZbZ (hi : Bt.Inv ps nx es T) (hx : IxG x P cap k ps nx (keysOf es) (tosOf es) wr) : RootAt P T (Bt.pg ps 96) wr := by
 obtain ⟨h1, h2, h3, h4, _⟩ := hi.rootHere
 obtain ⟨vk, vt, vg, hxo, _⟩ := hx
 have hlen := hi.ix.len
 obtain ⟨_, _, _, h5⟩ := hi.ix.at (l := 96) (by omega) (by omega)
 have h0 : 0 < ps.length := by omega
 have h6 : ps[0] = Bt.pg ps 96 := by
  have e : ((96 : Int) - 96).toNat = 0 := rfl
  rw [e, List.getElem?_eq_getElem h0] at h5
  exact Option.some.inj h5
 refine ⟨h4, h3, hi.root, fun j u hu => ?_⟩
 have h7 := hxo.pg.row_at h0 j u (by rw [h6, Array.getElem?_toList]; exact hu)
 simpa using h7
theorem PlayAt.root (h : PlayAt x P cap k w0 wr ps nx es T) : RootAt P T (Bt.pg ps 96) wr := ZbZ h.inv h.ix
theorem RootAt.nine {R : Bt.Page} {w : World} (h : RootAt P T R w) : w.cell? ⟨P, 0, none⟩ = some (.int .i64 R.line) ∧ w.cell? ⟨P, 1, none⟩ = some (.int .u64 R.head) ∧ w.cell? ⟨P, 2, none⟩ = some (.int .u64 R.d0) ∧ w.cell? ⟨P, 3, none⟩ = some (.int .u64 R.d1) ∧
 w.cell? ⟨P, 4, none⟩ = some (.int .u64 R.d2) ∧ w.cell? ⟨P, 5, none⟩ = some (.int .u64 R.d3) ∧ w.cell? ⟨P, 6, none⟩ = some (.int .u64 R.d4) ∧ w.cell? ⟨P, 7, none⟩ = some (.int .u64 R.d5) ∧ w.cell? ⟨P, 8, none⟩ = some (.int .u64 R.d6) := by
 exact ⟨h.cells 0 _ rfl, h.cells 1 _ rfl, h.cells 2 _ rfl, h.cells 3 _ rfl, h.cells 4 _ rfl, h.cells 5 _ rfl, h.cells 6 _ rfl, h.cells 7 _ rfl, h.cells 8 _ rfl⟩
end
theorem pageCells_at (ps : List Bt.Page) (j : Nat) (u : Value) (h : (Z0q ps)[j]? = some u) : ∃ p, ps[j / 9]? = some p ∧ p.cells[j % 9]? = some u := by
 induction ps generalizing j with
 | nil => simp [Z0q] at h
 | cons x ps ih =>
   have e : Z0q (x :: ps) = x.cells.toList ++ Z0q ps := by simp [Z0q]
   rw [e] at h
   by_cases hj : j < 9
   ·rw [List.getElem?_append_left (by simp [Bt.Page.cells]; omega), Array.getElem?_toList] at h
    exact ⟨x, by rw [show j / 9 = 0 by omega]; rfl, by rw [show j % 9 = j by omega]; exact h⟩
   ·rw [List.getElem?_append_right (by simp [Bt.Page.cells]; omega)] at h
    have e9 : j - x.cells.toList.length = j - 9 := by simp [Bt.Page.cells]
    rw [e9] at h
    obtain ⟨p, h1, h2⟩ := ih (j - 9) h
    refine ⟨p, ?_, by rw [show j % 9 = (j - 9) % 9 by omega]; exact h2⟩
    rw [show j / 9 = (j - 9) / 9 + 1 by omega]
    exact h1
theorem pageCells_len (ps : List Bt.Page) : (Z0q ps).length = ps.length * 9 := by
 induction ps with
 | nil => rfl
 | cons x ps ih =>
   have e : Z0q (x :: ps) = x.cells.toList ++ Z0q ps := by simp [Z0q]
   rw [e, List.length_append, ih, List.length_cons]
   simp [Bt.Page.cells]
   omega
theorem src_pages {w : World} {v : Value} {known : List Bt.Page} (h : PgRow w v known) : SrcAt w v known.length (Z0q known) := by
 rcases h.form with ⟨rfl, rfl⟩ | ⟨b, cap, rfl, hlt, hcells⟩
 ·exact .inl ⟨rfl, rfl, rfl⟩
 ·refine .inr ⟨⟨b, 0, none⟩, cap, rfl, fun j u hu => ?_, fun u hu => ?_⟩
  ·obtain ⟨p, h1, h2⟩ := pageCells_at known j u hu
   have := hcells (j / 9) p h1 (j % 9) u h2
   rw [show j / 9 * 9 + j % 9 = j by omega] at this
   rw [Addr.add_lit]
   simpa using this
  ·simp only [Z0q, List.mem_flatMap] at hu
   obtain ⟨p, _, h2⟩ := hu
   simp [Bt.Page.cells] at h2
   rcases h2 with rfl | rfl | rfl | rfl | rfl | rfl | rfl | rfl | rfl <;> rfl
end Go.Proofs.YtjmpekanlmepmaaGreatDoor
