/- Package btree: a descent. -/
import Derived.Test.YtjmpekanlmepmaaGreatDoorBB19
import Derived.Test.YtjmpekanlmepmaaGreatDoorBB05
import Derived.Deep.LoopGhost
set_option linter.all false
set_option maxRecDepth 20000
set_option maxHeartbeats 8000000
open Go.Lib (hid)
namespace Go.Proofs.YtjmpekanlmepmaaGreatDoor
open Go.RowKit
theorem found_eq (p : Bt.Page) (n : Bt.Node) (v : Value) : Z0g p n v = #[.int .i64 p.line, .int .u64 p.head, .int .u64 p.d0, .int .u64 p.d1, .int .u64 p.d2, .int .u64 p.d3, .int .u64 p.d4, .int .u64 p.d5, .int .u64 p.d6,
 .int .i64 n.level, .bool n.leftmost, .bool n.dead, .int .u32 n.high, .int .i64 n.right.line, .int .i64 n.right.gen, v] := rfl
def Z3J (A : Nat → Prop) (op : Bt.Op) (known : List Bt.Page) (vf vk : Value) (b : Nat) (t : Bt.St) (wk : Bt.Walk) (w : World) (e : Ending) (w' : World) : Prop :=
 IsRun (Kp A w wk.got) op known vf vk t b w' ∧ Over b w w' ∧
 ∃ v, e = .returned (.tuple #[.agg (Z0g (Z1e wk.got) (Z15 wk.got) v), .bool wk.isAbsent, .bool wk.got.isSome]) ∧ w'.ownsRow w.heap.size 69 3 v (Z15 wk.got).entries.length (Z04 (Z15 wk.got).entries)
theorem Z3J.mk' {A : Nat → Prop} {op : Bt.Op} {known : List Bt.Page} {vf vk v : Value} {b : Nat} {t : Bt.St} {wk : Bt.Walk} {r : Option (Bt.Page × Bt.Node)} {a : Bool} {w w' : World} {e : Ending} (h1 : IsRun (Kp A w r) op known vf vk t b w') (h2 : Over b w w') (hg : wk.got = r) (ha : wk.isAbsent = a)
 (he : e = .returned (.tuple #[.agg (Z0g (Z1e r) (Z15 r) v), .bool a, .bool r.isSome])) (ho : w'.ownsRow w.heap.size 69 3 v (Z15 r).entries.length (Z04 (Z15 r).entries)) : Z3J A op known vf vk b t wk w e w' := by
 subst hg ha
 exact ⟨h1, h2, v, he, ho⟩
structure DiveAt (A : Nat → Prop) (op : Bt.Op) (known : List Bt.Page) (vf vk : Value) (s : Bt.St) (b g : Nat) (page : Bt.Page) (n : Bt.Node) (v : Value) (w0 wr : World) : Prop where
 blk : Blk wr g 145 (Z0g page n v)
 own : wr.ownsRow (w0.heap.size + 1) 69 3 v n.entries.length (Z04 n.entries)
 run : IsRun A op known vf vk s b wr
 over : Over b w0 wr
theorem DiveAt.imp {A A' : Nat → Prop} {op : Bt.Op} {known : List Bt.Page} {vf vk : Value} {s : Bt.St} {b g : Nat} {page : Bt.Page} {n : Bt.Node} {v : Value} {w0 wr : World} (h : DiveAt A op known vf vk s b g page n v w0 wr) (hA : ∀ c, A c → A' c) : DiveAt A' op known vf vk s b g page n v w0 wr :=
 ⟨h.blk, h.own, h.run.imp hA, h.over⟩
def ZbQ (A : Nat → Prop) (op : Bt.Op) (known : List Bt.Page) (vf vk : Value) (level k height : Int) (t : Bt.St) (wk : Bt.Walk) (b g : Nat) (w0 : World) (N : Nat) (i : Value) (wr : World) : Prop :=
 ∃ (s : Bt.St) (page : Bt.Page) (n : Bt.Node) (v : Value) (moves : Int), i = .int .i64 moves ∧ 0 ≤ moves ∧ moves + N ≤ 256 ∧ 0 ≤ s.out.hops ∧ s.out.hops ≤ 1000 + moves ∧ Hid (Bt.Goes known level k height N s page n t wk) ∧ Hid (DiveAt A op known vf vk s b g page n v w0 wr) ∧ Hid (page.Ok ∧ n.valid = true ∧ n = page.node)
theorem Z4x {s s' : Bt.St} {known : List Bt.Page} {q : Bt.Ptr} {l : Bool} {page : Bt.Page} {n : Bt.Node} (h : s.look known q l = (s', some (page, n))) : n.valid = true := by
 have hr := (Z1h h).2.2.2
 unfold Bt.Z19 at hr
 split at hr
 ·cases hr
 ·split at hr
  ·rename_i h2
   rw [Option.some.inj hr] at h2
   exact h2.1
  ·cases hr
theorem Goes.passes {known : List Bt.Page} {level k height : Int} {N : Nat} {s t : Bt.St} {p : Bt.Page} {n : Bt.Node} {wk : Bt.Walk} (h : Bt.Goes known level k height N s p n t wk) (hp : n.passes k) :
 ∃ res, (s.hop n).look known n.right false = res ∧ (res.2.isSome = true → (Z15 res.2).level = n.level) ∧ 1 ≤ N ∧
  ((res.2 = none ∧ t = res.1 ∧ wk = .stopped) ∨ ∃ p' n' N', res = (s.hop n, some (p', n')) ∧ N = N' + 1 ∧ Bt.Goes known level k height N' (s.hop n) p' n' t wk) := by
 cases h with
 | here h1 => exact absurd hp h1
 | right h1 h2 h3 h4 => exact ⟨_, h2, fun _ => h3, by omega, .inr ⟨_, _, _, rfl, rfl, h4⟩⟩
 | rightStop h1 h2 => exact ⟨_, h2, fun h => (by cases h), by omega, .inl ⟨rfl, rfl, rfl⟩⟩
 | down h1 => exact absurd hp h1
 | downStop h1 => exact absurd hp h1
theorem Goes.stays {known : List Bt.Page} {level k height : Int} {N : Nat} {s t : Bt.St} {p : Bt.Page} {n : Bt.Node} {wk : Bt.Walk} (h : Bt.Goes known level k height N s p n t wk) (hp : ¬ n.passes k) :
 (n.level = level ∧ Bt.locked p = false ∧ t = { s with ended := true, out := { s.out with height := height } } ∧ wk = .at_ p n) ∨
 (n.level ≠ level ∧ ∃ (c : Nat) (hc : c < n.entries.length) (q : Bt.Ptr) (res : Bt.St × Option (Bt.Page × Bt.Node)), c = Bt.child n.entries k ∧ n.entries[c].to = q ∧ s.look known q false = res ∧ (res.2.isSome = true → (Z15 res.2).level = n.level - 1) ∧ 1 ≤ N ∧
  ((res.2 = none ∧ t = res.1 ∧ wk = .stopped) ∨ ∃ p' n' N', res = (s, some (p', n')) ∧ N = N' + 1 ∧ Bt.Goes known level k height N' s p' n' t wk)) := by
 cases h with
 | here h1 h2 h3 => exact .inl ⟨h2, h3, rfl, rfl⟩
 | right h1 => exact absurd h1 hp
 | rightStop h1 => exact absurd h1 hp
 | down h1 h2 h3 h4 h5 h6 =>
   obtain ⟨hc, he⟩ := List.getElem?_eq_some_iff.1 h3
   exact .inr ⟨h2, _, hc, _, (_, some (_, _)), rfl, by rw [he], h4, fun _ => h5, by omega, .inr ⟨_, _, _, rfl, rfl, h6⟩⟩
 | downStop h1 h2 h3 h4 =>
   obtain ⟨hc, he⟩ := List.getElem?_eq_some_iff.1 h3
   exact .inr ⟨h2, _, hc, _, (_, none), rfl, by rw [he], h4, fun h => (by cases h), by omega, .inl ⟨rfl, rfl, rfl⟩⟩
theorem SteadyTwo.set2 {r g : Nat} {w1 wx : World} (h : SteadyTwo r g w1 wx) (i : Nat) (v : Value) : SteadyTwo r g w1 (wx.setCell ⟨g, i, none⟩ v) :=
 ⟨fun b o hb hr hg => by
  have e1 : (wx.setCell ⟨g, i, none⟩ v).heap[b]? = wx.heap[b]? := heap_setCell_other wx ⟨g, i, none⟩ b v (by show b ≠ g; omega)
  have : (wx.setCell ⟨g, i, none⟩ v).cell? ⟨b, o, none⟩ = wx.cell? ⟨b, o, none⟩ := by simp only [World.cell?, e1]
  rw [this]
  exact h.rule b o hb hr hg⟩
theorem SteadyTwo.put16 {r g : Nat} {w1 wx : World} (h : SteadyTwo r g w1 wx) (v0 v1 v2 v3 v4 v5 v6 v7 v8 v9 v10 v11 v12 v13 v14 v15 : Value) : SteadyTwo r g w1 ((((((((((((((((wx.setCell ⟨g, 0, none⟩ v0).setCell ⟨g, 1, none⟩ v1).setCell ⟨g, 2, none⟩ v2).setCell ⟨g, 3, none⟩ v3).setCell ⟨g, 4, none⟩ v4).setCell ⟨g, 5, none⟩ v5).setCell ⟨g, 6, none⟩ v6).setCell ⟨g, 7, none⟩ v7).setCell ⟨g, 8, none⟩ v8).setCell ⟨g, 9, none⟩ v9).setCell ⟨g, 10, none⟩ v10).setCell ⟨g, 11, none⟩ v11).setCell ⟨g, 12, none⟩ v12).setCell ⟨g, 13, none⟩ v13).setCell ⟨g, 14, none⟩ v14).setCell ⟨g, 15, none⟩ v15) := ((((((((((((((((h.set2 0 v0).set2 1 v1).set2 2 v2).set2 3 v3).set2 4 v4).set2 5 v5).set2 6 v6).set2 7 v7).set2 8 v8).set2 9 v9).set2 10 v10).set2 11 v11).set2 12 v12).set2 13 v13).set2 14 v14).set2 15 v15)
theorem Z7O (A : Nat → Prop) (op : Bt.Op) (known : List Bt.Page) (vf vk : Value) (s : Bt.St) (b : Nat) (level k : Int) (page : Bt.Page) (n : Bt.Node) (N : Nat) (t : Bt.St) (wk : Bt.Walk) (w : World) (h : IsRun A op known vf vk s b w) (hA : ∀ c, A c → c < w.heap.size)
 (hl : s.look known s.root false = (s, some (page, n))) (hlev : ¬ n.level < level) (hN : N ≤ 256) (hh0 : 0 ≤ s.out.hops ∧ s.out.hops ≤ 1000) (hg : Bt.Goes known level k (n.level + 1) N s page n t wk) :
 Calls Tryz.prog 90 #[.pointer (some ⟨b, 0, none⟩), .int .i64 level, .int .u32 k] w (Z3J A op known vf vk b t wk w) := by
 have HR := hid h
 have HL := hid hl
 have HG := hid hg
 have hlt := h.lt
 have hlt1 : b < w.heap.size + 1 := by omega
 have HP : Hid page.Ok := hid (h.knownRow.ok page (Z1h hl).1)
 have HK : Hid (∀ p ∈ known, p.Ok) := hid h.knownRow.ok
 have HV : Hid (page.Ok ∧ n.valid = true ∧ n = page.node) := hid ⟨h.knownRow.ok page (Z1h hl).1, Z4x hl, (Z1h hl).2.2.1⟩
 obtain ⟨vn, vw, ve, vc, hc⟩ := h.cells
 have k34 : w.cell? ⟨b, 34, none⟩ = some (.int .i64 s.root.line) := hc 34
 have k35 : w.cell? ⟨b, 35, none⟩ = some (.int .i64 s.root.gen) := hc 35
 have hlv := (Bt.Node.valid_parts HV.out.2.1)
 have hwr : wrap64 (n.level + 1) = n.level + 1 := by unfold wrap64; omega
 have b1 : decide (n.level < level) = false := by simp; omega
 obtain ⟨H, hH⟩ : ∃ H, H = n.level + 1 := ⟨_, rfl⟩
 clear h hl hc hg hlv hlev
 go_enter Tryz.func90, Tryz.ntmps90
 go_wp2_with fail
 go_at_call 92; refine (Z4m A op known vf vk s b s.root _ ?hrun ?hlow).mono ?_
 case hrun => exact HR.out.below qL
 case hlow => exact fun c hc => by have := hA c hc; simp; omega
 rw [HL.out]
 rintro e w1 ⟨hrun1, ho1, v, rfl, hown⟩
 have HR1 := hid hrun1
 have HOWN := hid hown
 clear hrun1 hown
 ((obtain ⟨hc1, hf1, hs1⟩ := qO ho1); (try have := qN0 w w1))
 have BF := (Blk.made w 145 #[.int .i64 0, .int .u64 0, .int .u64 0, .int .u64 0, .int .u64 0, .int .u64 0, .int .u64 0, .int .u64 0, .int .u64 0, .int .i64 0, .bool false, .bool false, .int .u32 0, .int .i64 0, .int .i64 0, .slice none 0 0]).grown ho1 (by simp; omega)
 dsimp only
 iterate 10 go_step
 refine Z07 rfl 145 (.tmp 6) (.tmp 19) rfl (w.heap.size) _ rfl rfl _ _ BF (by kernel_rfl) rfl (Z0A (Z0Q HOWN.out)) (fun wx B_wx ho_wx hz_wx => ?_)
 simp only [Act.put, qY]
 have HBX := hid B_wx
 have kx := B_wx.cell
 rw [found_eq] at kx
 clear BF B_wx
 have HO1 := hid ho1
 have HOX := hid ho_wx
 clear ho1 ho_wx
 go_wp2_with fail
 go_loopg [10] N (fun N i wr => ZbQ A op known vf vk level k H t wk b w.heap.size w N i wr)
 case atStart =>
  have ho1 := HO1.out
  refine ⟨s, page, n, v, 0, rfl, by omega, by omega, hh0.1, by omega, by rw [hH]; exact HG, hid ⟨HBX.out, Z0H (own_base HOWN.out (by simp)) HOX.out (by omega), ?_, Over.new qV HOX.out (Nat.le_refl _)⟩, HV⟩
  exact HR1.out.grown HOX.out hlt (fun h1 => by have := hA _ h1; omega)
 case round =>
  obtain ⟨s1, p, m, u, moves, rfl, hm0, hmN, hh1, hh2, HG1, HD, HV1⟩ := hrel
  have HC : Hid (Z0g p m u = #[.int .i64 p.line, .int .u64 p.head, .int .u64 p.d0, .int .u64 p.d1, .int .u64 p.d2, .int .u64 p.d3, .int .u64 p.d4, .int .u64 p.d5, .int .u64 p.d6,
   .int .i64 m.level, .bool m.leftmost, .bool m.dead, .int .u32 m.high, .int .i64 m.right.line, .int .i64 m.right.gen, u]) := hid rfl
  have kg := HD.out.blk.cell
  rw [HC.out] at kg
  have hgw : w.heap.size < wr.heap.size := HD.out.blk.lt
  have hfg := HD.out.blk.free
  have hsu := qSt HD.out.own
  obtain ⟨un, uw, ue, uc, hc⟩ := HD.out.run.cells
  have hfb := HD.out.run.free
  have hbw : b < wr.heap.size := HD.out.run.lt
  have hbw1 : b < wr.heap.size + 1 := by omega
  have hgw1 : w.heap.size < wr.heap.size + 1 := by omega
  have j15 : wr.cell? ⟨b, 15, none⟩ = some (.bool s1.out.unposted) := hc 15
  have j16 : wr.cell? ⟨b, 16, none⟩ = some (.bool s1.out.dead) := hc 16
  have j22 : wr.cell? ⟨b, 22, none⟩ = some (.int .i64 s1.out.hops) := hc 22
  have j24 : wr.cell? ⟨b, 24, none⟩ = some (.int .i64 s1.out.height) := hc 24
  have j36 : wr.cell? ⟨b, 36, none⟩ = some (.bool s1.ended) := hc 36
  have wm : wrap64 (moves + 1) = moves + 1 := by unfold wrap64; omega
  have wh : wrap64 (s1.out.hops + 1) = s1.out.hops + 1 := by unfold wrap64; omega
  clear hc
  by_cases hp : m.passes k
  ·have HPS := hid hp
   go_upto_region 14 with (fail)
   go_cut [62] from 34 to 142 (fun s62 wx => s62 = .bool true ∧ wx = wr.alloc (.cells #[.int .i64 m.level, .bool m.leftmost, .bool m.dead, .int .u32 m.high, .int .i64 m.right.line, .int .i64 m.right.gen, u] 73))
   case first =>
    rcases hmd : m.dead with _ | _
    ·have b62 : decide (m.high < k) = true := by
       rcases hp with h1 | h1
       ·rw [hmd] at h1; cases h1
       ·simp [h1]
     clear hp
     go_wp2_with fail
     go_meet
     exact ⟨rfl, by rw [hmd]⟩
    ·clear hp
     go_wp2_with fail
     go_meet
     exact ⟨rfl, by rw [hmd]⟩
   case rest =>
    obtain ⟨rfl, rfl⟩ := hcut
    obtain ⟨res, hres, hreslev, hN1, hfin⟩ := Goes.passes HG1.out hp
    have HRES := hid (And.intro hres (And.intro hreslev hfin))
    clear hp hres hreslev hfin
    go_upto_region 16 with (fail)
    go_cut [] from 34 to 142 (fun wx => wx = ((wr.setCell ⟨b, 22, none⟩ (.int .i64 (s1.out.hops + 1))).setCell ⟨b, 16, none⟩ (.bool (s1.out.dead || m.dead))).alloc (.cells #[.int .i64 m.level, .bool m.leftmost, .bool m.dead, .int .u32 m.high, .int .i64 m.right.line, .int .i64 m.right.gen, u] 73))
    case first =>
     rcases hsd : s1.out.dead with _ | _
     ·go_wp2_with fail
      go_meet
      rw [hsd]; rfl
     ·go_wp2_with fail
      go_meet
      rw [hsd]; rfl
    case rest =>
     subst hcut
     go_upto_region 17 with (fail)
     go_cut [] from 34 to 142 (fun wx => wx = (((wr.setCell ⟨b, 22, none⟩ (.int .i64 (s1.out.hops + 1))).setCell ⟨b, 16, none⟩ (.bool (s1.out.dead || m.dead))).setCell ⟨b, 15, none⟩ (.bool (s1.out.unposted || !m.dead))).alloc (.cells #[.int .i64 m.level, .bool m.leftmost, .bool m.dead, .int .u32 m.high, .int .i64 m.right.line, .int .i64 m.right.gen, u] 73))
     case first =>
      rcases hsd : s1.out.unposted with _ | _
      ·go_wp2_with fail
       go_meet
       rw [hsd]; rfl
      ·go_wp2_with fail
       go_meet
       rw [hsd]; rfl
     case rest =>
      subst hcut
      have HRW : Hid (IsRun (fun c => A c ∧ c < wr.heap.size + 1) op known vf vk (s1.hop m) b ((((wr.setCell ⟨b, 22, none⟩ (.int .i64 (s1.out.hops + 1))).setCell ⟨b, 16, none⟩ (.bool (s1.out.dead || m.dead))).setCell ⟨b, 15, none⟩ (.bool (s1.out.unposted || !m.dead))).alloc (.cells #[.int .i64 m.level, .bool m.leftmost, .bool m.dead, .int .u32 m.high, .int .i64 m.right.line, .int .i64 m.right.gen, u] 73))) := hid (((((HD.out.run.field (s' := { s1 with out := { s1.out with hops := s1.out.hops + 1 } }) 22 _ (fun _ _ _ _ => rfl)).field (s' := { s1 with out := { s1.out with hops := s1.out.hops + 1, dead := s1.out.dead || m.dead } }) 16 _ (fun _ _ _ _ => rfl)).field (s' := s1.hop m) 15 _ (fun _ _ _ _ => rfl)).alloc _).low.imp (fun c hc => ⟨hc.1, by have := hc.2; simp at this; omega⟩))
      have HOW : Hid (Over b w ((((wr.setCell ⟨b, 22, none⟩ (.int .i64 (s1.out.hops + 1))).setCell ⟨b, 16, none⟩ (.bool (s1.out.dead || m.dead))).setCell ⟨b, 15, none⟩ (.bool (s1.out.unposted || !m.dead))).alloc (.cells #[.int .i64 m.level, .bool m.leftmost, .bool m.dead, .int .u32 m.high, .int .i64 m.right.line, .int .i64 m.right.gen, u] 73))) := hid (by have := HD.out.over; exact qV)
      have HBW : Hid (Blk ((((wr.setCell ⟨b, 22, none⟩ (.int .i64 (s1.out.hops + 1))).setCell ⟨b, 16, none⟩ (.bool (s1.out.dead || m.dead))).setCell ⟨b, 15, none⟩ (.bool (s1.out.unposted || !m.dead))).alloc (.cells #[.int .i64 m.level, .bool m.leftmost, .bool m.dead, .int .u32 m.high, .int .i64 m.right.line, .int .i64 m.right.gen, u] 73)) w.heap.size 145 (Z0g p m u)) := hid (by have BX := HD.out.blk; (repeat (first | with_reducible exact BX | with_reducible apply Blk.put | with_reducible apply Blk.alloc | (with_reducible apply Blk.aside; (case hp => first | (simp; done) | (simp; omega))) | with_reducible apply Blk.drew)))
      go_upto_region 21 with (fail)
      go_cut [8] from 34 to 142 (fun s8 wx => ∃ u', s8 = .bool res.2.isSome ∧ Hid (DiveAt (fun c => A c ∨ (res.2 = none ∧ w.heap.size < c)) op known vf vk res.1 b w.heap.size (Z1e res.2) (Z15 res.2) u' w wx))
      case first =>
       go_wp2_with fail
       go_at_call 89; refine (Z58 (fun c => A c ∧ c < wr.heap.size + 1) op known vf vk (s1.hop m) res b m u _ HRW.out ?hlow HRES.out.1 HRES.out.2.1).mono ?_
       case hlow => exact fun c hc => by have := hc.2; simp; omega
       rintro e w2 ⟨hrun2, ho2, u2, rfl, hown2⟩
       have HR2 := hid hrun2
       have HOWN2 := hid hown2
       clear hrun2 hown2
       have BF := HBW.out.grown ho2 (by simp; omega)
       have hz2 := World.grownBy.size ho2
       simp only [size_alloc, size_setCell] at hz2
       dsimp only
       iterate 10 go_step
       refine Z07 rfl 145 (.tmp 6) (.tmp 118) rfl (w.heap.size) _ rfl rfl _ _ BF (by kernel_rfl) rfl (Z0A (Z0Q HOWN2.out)) (fun wy B_wy ho_wy hz_wy => ?_)
       simp only [Act.put, qY]
       have HBY := hid B_wy
       have HOY := hid ho_wy
       have HO2 := hid ho2
       clear BF B_wy ho_wy ho2
       go_wp2_with fail
       go_meet
       refine ⟨u2, rfl, hid ⟨HBY.out, Z0H (own_base HOWN2.out (by simp; omega)) HOY.out (by omega), (HR2.out.grown HOY.out hlt ?_).imp (fun c hc => ?_), Over.new (Over.trans HOW.out HO2.out) HOY.out (Nat.le_refl _)⟩⟩
       ·intro h1
        rcases h1.cases with h1 | h1
        ·have := hA _ h1.1; omega
        ·have := h1.2; simp at this; omega
       ·rcases hc.cases with h1 | h1
        ·exact .inl h1.1
        ·exact .inr ⟨h1.1, by have := h1.2; simp at this; omega⟩
      case rest =>
       obtain ⟨u3, rfl, HD3⟩ := hcut
       have kg3 : ∀ i, wc.cell? ⟨w.heap.size, i, none⟩ = (#[.int .i64 (Z1e res.2).line, .int .u64 (Z1e res.2).head, .int .u64 (Z1e res.2).d0, .int .u64 (Z1e res.2).d1, .int .u64 (Z1e res.2).d2, .int .u64 (Z1e res.2).d3, .int .u64 (Z1e res.2).d4, .int .u64 (Z1e res.2).d5, .int .u64 (Z1e res.2).d6,
        .int .i64 (Z15 res.2).level, .bool (Z15 res.2).leftmost, .bool (Z15 res.2).dead, .int .u32 (Z15 res.2).high, .int .i64 (Z15 res.2).right.line, .int .i64 (Z15 res.2).right.gen, u3] : Array Value)[i]? := HD3.out.blk.cell
       have hgw3 : w.heap.size < wc.heap.size := HD3.out.blk.lt
       have hfg3 := HD3.out.blk.free
       have hsu3 := qSt HD3.out.own
       rcases HRES.out.2.2 with ⟨hn, ht, hwk⟩ | ⟨p', n', N', hr, hN', hg'⟩
       ·have hsm : res.2.isSome = false := by rw [hn]; rfl
        have HF := hid (And.intro hn (And.intro ht hwk))
        clear hn ht hwk
        rw [hsm]
        go_upto_region 23 with (fail)
        go_step
        refine Z2s rfl 145 (.tmp 6) rfl (w.heap.size) rfl _ _ _ HD3.out.blk Tryz.underlying145 rfl (by kernel_rfl) ?_
        refine Z2y rfl 145 (.tmp 6) (.tmp 122) rfl (w.heap.size) _ rfl rfl _ HD3.out.blk (by kernel_rfl) (Z0A (Z0Q HD3.out.own)) ?_
        simp only [Act.put, qY]
        go_wp2_with fail
        refine bodyPost_ret (Z0W rfl _ _ (w.heap.size) _ _ _ rfl HD3.out.blk Tryz.underlying145 rfl (by kernel_rfl)) rfl ?_
        have how := HD3.out.over
        obtain ⟨hn, rfl, rfl⟩ := HF.out
        have hna : ¬ (A w.heap.size ∨ w.heap.size < w.heap.size) := by
         rintro (h1 | h1)
         ·have := hA _ h1; omega
         ·omega
        refine Z3J.mk' (v := u3) (r := res.2) (a := false) (HD3.out.run.imp (fun c hc => ?_)) HD3.out.over hn.symm rfl ?_ (own_base HD3.out.own (by omega))
        ·rcases hc with h1 | h1
         ·exact Kp.intro (.inl h1)
         ·exact Kp.intro (.inr ⟨h1.1, by omega⟩)
        ·rw [hsm]; rfl
       ·have hsm : res.2.isSome = true := by rw [hr]; rfl
        have HF := hid (And.intro hr (And.intro hN' hg'))
        clear hr hN' hg'
        rw [hsm]
        go_wp2_with fail
        obtain ⟨hr, hN', hg'⟩ := HF.out
        go_roundg N'
        case measure => omega
        case rel =>
         subst hr
         have hlk := HRES.out.1
         exact ⟨s1.hop m, p', n', u3, moves + 1, rfl, by omega, by omega, by show 0 ≤ s1.out.hops + 1; omega, by show s1.out.hops + 1 ≤ 1000 + (moves + 1); omega, hid hg', hid (HD3.out.imp (fun c hc => hc.elim id (fun h => by cases h.1))), hid ⟨HK.out _ (Z1h hlk).1, Z4x hlk, (Z1h hlk).2.2.1⟩⟩
  ·have hnd : m.dead = false := by
     rcases hmd : m.dead with _ | _
     ·rfl
     ·exact absurd (Or.inl hmd) hp
   have hnk : ¬ m.high < k := fun h1 => hp (Or.inr h1)
   have b62 : decide (m.high < k) = false := by simp; omega
   rcases Goes.stays HG1.out hp with ⟨hlev, hlk, ht, hwk⟩ | ⟨hlev, c, hc, q, res, hcc, hqq, hres, hreslev, hN1, hfin⟩
   ·have HT := hid (And.intro hlk (And.intro ht hwk))
    have b3 : (m.level == level) = true := by simp [hlev]
    clear hp hnk hlev hlk ht hwk
    go_wp2_with fail
    go_at_call 80; refine (Z1y p HV1.out.1 _).mono ?_; rintro e w2 ⟨rfl, hb2⟩; rw [HT.out.1]; ((obtain ⟨hc2, hf2, hs2⟩ := qR hb2); (try have := qN0 w w2); (try have := qN0 wr w2))
    have BX := HD.out.blk
    have BF2 := Blk.kept (b := w.heap.size) (by have B := BX; exact qK) hb2
    have HBF := hid BF2
    have HB2 := hid hb2
    clear BX BF2 hb2
    go_upto_region 28 with (fail)
    go_step
    refine Z2s rfl 145 (.tmp 6) rfl (w.heap.size) rfl _ _ _ HBF.out Tryz.underlying145 rfl (by kernel_rfl) ?_
    refine Z2y rfl 145 (.tmp 6) (.tmp 142) rfl (w.heap.size) _ rfl rfl _ HBF.out (by kernel_rfl) (Z0A (Z0Q HD.out.own)) ?_
    simp only [Act.put, qY]
    go_wp2_with fail
    obtain ⟨_, rfl, rfl⟩ := HT.out
    subst hH
    refine bodyPost_ret (Z0W rfl _ _ (w.heap.size) _ _ _ rfl HBF.out Tryz.underlying145 rfl (by kernel_rfl)) rfl ?_
    have hb2 := HB2.out
    have R36 := (HD.out.run.field (s' := { s1 with ended := true }) 36 (.bool true) (fun _ _ _ _ => rfl)).field (s' := { s1 with ended := true, out := { s1.out with height := n.level + 1 } }) 24 (.int .i64 (n.level + 1)) (fun _ _ _ _ => rfl)
    have HOV := HD.out.over
    have hnb : u.ownBlock ≠ some b := Z2F HD.out.own (by omega)
    refine ⟨(IsRun.below (IsRun.below R36 qL) hb2).imp (fun c hc => ?_), qV, u, rfl, own_base (own_below (own_below (Z0G (p := ⟨b, 24, none⟩) (Z0G (p := ⟨b, 36, none⟩) HD.out.own hnb (.bool true)) hnb (.int .i64 (n.level + 1))) qL) hb2) (by omega)⟩
    exact hc
   ·have b3 : (m.level == level) = false := by simp [hlev]
    have hlm := Bt.Node.valid_parts HV1.out.2.1
    have wl : wrap64 (m.level - 1) = m.level - 1 := by unfold wrap64; omega
    have HAS := hid (Z0Z m HV1.out.2.1)
    have HEO : Hid (∀ e ∈ m.entries, e.Ok) := hid (by rw [HV1.out.2.2]; exact Z1j p HV1.out.1)
    obtain ⟨g, cap, rfl⟩ := Z0D HD.out.own (by omega)
    have HER : Hid (EntRow wr (.slice (some ⟨g, 0, none⟩) m.entries.length cap) m.entries) := hid (EntRow.of_own HD.out.own rfl HEO.out)
    have hgl := Z0X HD.out.own
    have hg1 : w.heap.size < g := by have := hgl.1; omega
    have hg2 : g < wr.heap.size := hgl.2
    have hg3 : b < g := by omega
    have hgn : g < wr.heap.size + 1 := by omega
    have HCH := hid hcc
    have HRES := hid (And.intro hres (And.intro hreslev hfin))
    have hcells : ∀ j u, (Z04 m.entries)[j]? = some u → wr.cell? ⟨g, j, none⟩ = some u := Z0i HD.out.own
    have c0 : wr.cell? ⟨g, c * 3, none⟩ = some (.int .u32 m.entries[c].key) := hcells _ _ (Z0a m.entries c m.entries[c] (List.getElem?_eq_getElem hc) 0 _ rfl)
    have c1 : wr.cell? ⟨g, c * 3 + 1, none⟩ = some (.int .i64 q.line) := by rw [← hqq]; exact hcells _ _ (Z0a m.entries c m.entries[c] (List.getElem?_eq_getElem hc) 1 _ rfl)
    have c2 : wr.cell? ⟨g, c * 3 + 2, none⟩ = some (.int .i64 q.gen) := by rw [← hqq]; exact hcells _ _ (Z0a m.entries c m.entries[c] (List.getElem?_eq_getElem hc) 2 _ rfl)
    have hi1 : (0 : Int) ≤ c := by omega
    have hi2 : (c : Int) < m.entries.length := by omega
    have HC2 := hid hc
    clear hcells
    clear hp hnk hlev hres hreslev hfin hgl hlm hcc hqq
    go_upto_region 9 with (fail)
    go_cut [8] from 34 to 142 (fun s8 wx => ∃ u', s8 = .bool res.2.isSome ∧ Hid (DiveAt (fun c => A c ∨ (res.2 = none ∧ w.heap.size < c)) op known vf vk res.1 b w.heap.size (Z1e res.2) (Z15 res.2) u' w wx) ∧ Blk wx wr.heap.size 73 #[.int .i64 m.level, .bool m.leftmost, .bool false, .int .u32 m.high, .int .i64 m.right.line, .int .i64 m.right.gen, .slice (some ⟨g, 0, none⟩) m.entries.length cap])
    case first =>
     refine wp_region_held_drew (S := SteadyTwo b w.heap.size _) (by kernel_rfl) (SteadyTwo.of (Below.refl _ _).drew) ?_
     intro hSt
     refine qS [0, 1, 2, 3, 4] ?_
     iterate 5 (refine qT ?_; simp only [Act.put, qY])
     refine Z00.done ?_
     refine qH 5 fun K hK => ?_
     go_simp
     go_at_call 91; refine (Z2v ({ m with dead := false } : Bt.Node) (.slice (some ⟨g, 0, none⟩) m.entries.length cap) k _ ?hpf HAS.out.1 HAS.out.2).mono ?_; (case hpf => exact HER.out.below qL); rintro e2 w2 ⟨rfl, hb2⟩; rw [← HCH.out]; ((obtain ⟨hc2, hf2, hs2⟩ := qR hb2); (try have := qN0 w w2); (try have := qN0 wr w2))
     go_wp2_with fail
     refine hK.out _ _ (SteadyTwo.of qL) (fun hHeld => ?_)
     clear hK K
     refine qS [6, 7, 8] ?_
     iterate 3 (refine qT ?_; simp only [Act.put, qY])
     refine Z00.done ?_
     refine qH 9 fun K hK => ?_
     go_simp
     go_at_call 92; refine (Z4m (fun c => A c ∧ c < w2.heap.size) op known vf vk s1 b q _ ?hrun ?hlow).mono ?_; (case hrun => exact (HD.out.run.below qL).low); (case hlow => exact fun c hc => hc.2); rw [HRES.out.1]; intro e3 w3 hres3; obtain ⟨hrun3, ho3, u3, rfl, hown3⟩ := Z6j.got hres3; have HR3 := hid hrun3; have HW3 := hid hown3; have HO3 := hid ho3; have hsv3 := (fun (a : Addr) (m : Mode) (wx : World) => run_store Tryz.prog wx a u3 m (Z0Q hown3)); clear hrun3 hown3 hres3; ((obtain ⟨hc3, hf3, hs3⟩ := qO ho3); (try have := qN0 w w3); (try have := qN0 wr w3)); simp only [Z0g]
     go_wp2_with fail
     refine hK.out _ _ (SteadyTwo.over (SteadyTwo.of qL) (by simp only [size_alloc, size_drew]; omega) HO3.out) (fun hHeld => ?_)
     clear hK K
     refine qS [10, 11, 12] ?_
     iterate 3 (refine qT ?_; simp only [Act.put, qY])
     refine Z00.done ?_
     refine qH 13 fun K hK => ?_
     go_simp
     refine hK.out _ _ (SteadyTwo.put16 (SteadyTwo.over (SteadyTwo.of qL) (by simp only [size_alloc, size_drew]; omega) HO3.out) _ _ _ _ _ _ _ _ _ _ _ _ _ _ _ _) (fun hHeld => ?_)
     clear hK K
     refine qS [14] ?_
     refine qT ?_; simp only [Act.put, qY]
     refine Z00.done ?_
     refine qD ?_ _
     go_wp2_with fail
     go_meet
     have hov := HD.out.over
     have ho3 := HO3.out
     have BX := HD.out.blk
     rw [HC.out] at BX
     have BF := (Blk.kept (b := w.heap.size) (by have B := BX; exact qK) hb2).grown ho3 (by simp; omega)
     have hz3 := World.grownBy.size HO3.out
     have BM := Blk.made wr 73 #[.int .i64 m.level, .bool m.leftmost, .bool false, .int .u32 m.high, .int .i64 m.right.line, .int .i64 m.right.gen, .slice (some ⟨g, 0, none⟩) m.entries.length cap]
     refine ⟨u3, rfl, hid ⟨?_, ?_, ?_, qV⟩, ?_⟩
     ·refine Blk.cast (by have B := BF; exact qK) ?_
      rw [set16]
      rfl
     ·exact Z33 (own_base HW3.out (by first | omega | (simp; omega))) (Z2F HW3.out (by omega)) _ _ _ _ _ _ _ _ _ _ _ _ _ _ _ _
     ·refine (IsRun.put16 HR3.out hlt ?_ _ _ _ _ _ _ _ _ _ _ _ _ _ _ _ _).imp (fun c hc => ?_)
      ·intro h1
       rcases h1.cases with h1 | h1
       ·have := hA _ h1.1; omega
       ·omega
      ·rcases hc.cases with h1 | h1
       ·exact .inl h1.1
       ·exact .inr ⟨h1.1, by omega⟩
     ·have BN := (Blk.kept (b := wr.heap.size) (by have B := BM; exact qK) hb2).grown ho3 (by simp; omega)
      (repeat (first | with_reducible exact BN | with_reducible apply Blk.put | with_reducible apply Blk.alloc | (with_reducible apply Blk.aside; (case hp => first | (simp; done) | (simp; omega))) | with_reducible apply Blk.drew))
    case rest =>
     obtain ⟨u3, rfl, HD3, BN3⟩ := hcut
     have kn3 := BN3.cell
     have ln3 := BN3.lt
     have kg3 : ∀ i, wc.cell? ⟨w.heap.size, i, none⟩ = (#[.int .i64 (Z1e res.2).line, .int .u64 (Z1e res.2).head, .int .u64 (Z1e res.2).d0, .int .u64 (Z1e res.2).d1, .int .u64 (Z1e res.2).d2, .int .u64 (Z1e res.2).d3, .int .u64 (Z1e res.2).d4, .int .u64 (Z1e res.2).d5, .int .u64 (Z1e res.2).d6,
      .int .i64 (Z15 res.2).level, .bool (Z15 res.2).leftmost, .bool (Z15 res.2).dead, .int .u32 (Z15 res.2).high, .int .i64 (Z15 res.2).right.line, .int .i64 (Z15 res.2).right.gen, u3] : Array Value)[i]? := HD3.out.blk.cell
     have hgw3 : w.heap.size < wc.heap.size := HD3.out.blk.lt
     have hfg3 := HD3.out.blk.free
     have hsu3 := qSt HD3.out.own
     clear BN3
     rcases HRES.out.2.2 with ⟨hn, ht, hwk⟩ | ⟨p', n', N', hr, hN', hg'⟩
     ·have hsm : res.2.isSome = false := by rw [hn]; rfl
      have HF := hid (And.intro hn (And.intro ht hwk))
      clear hn ht hwk
      rw [hsm]
      go_upto_region 11 with (fail)
      go_step
      refine Z2s rfl 145 (.tmp 6) rfl (w.heap.size) rfl _ _ _ HD3.out.blk Tryz.underlying145 rfl (by kernel_rfl) ?_
      refine Z2y rfl 145 (.tmp 6) (.tmp 51) rfl (w.heap.size) _ rfl rfl _ HD3.out.blk (by kernel_rfl) (Z0A (Z0Q HD3.out.own)) ?_
      simp only [Act.put, qY]
      go_wp2_with fail
      refine bodyPost_ret (Z0W rfl _ _ (w.heap.size) _ _ _ rfl HD3.out.blk Tryz.underlying145 rfl (by kernel_rfl)) rfl ?_
      have how := HD3.out.over
      obtain ⟨hn, rfl, rfl⟩ := HF.out
      have hna : ¬ (A w.heap.size ∨ w.heap.size < w.heap.size) := by
       rintro (h1 | h1)
       ·have := hA _ h1; omega
       ·omega
      refine Z3J.mk' (v := u3) (r := res.2) (a := false) (HD3.out.run.imp (fun c hc => ?_)) HD3.out.over hn.symm rfl ?_ (own_base HD3.out.own (by omega))
      ·rcases hc with h1 | h1
       ·exact Kp.intro (.inl h1)
       ·exact Kp.intro (.inr ⟨h1.1, by omega⟩)
      ·rw [hsm]; rfl
     ·have hsm : res.2.isSome = true := by rw [hr]; rfl
      have hlv3 := HRES.out.2.1 hsm
      have b58 : ((Z15 res.2).level != m.level - 1) = false := by simp [hlv3]
      have HF := hid (And.intro hr (And.intro hN' hg'))
      clear hr hN' hg' hlv3
      rw [hsm]
      go_wp2_with fail
      obtain ⟨hr, hN', hg'⟩ := HF.out
      go_roundg N'
      case measure => omega
      case rel =>
       subst hr
       have hlk := HRES.out.1
       exact ⟨s1, p', n', u3, moves, rfl, by omega, by omega, by omega, by omega, hid hg', hid (HD3.out.imp (fun c hc => hc.elim id (fun h => by cases h.1))), hid ⟨HK.out _ (Z1h hlk).1, Z4x hlk, (Z1h hlk).2.2.1⟩⟩
end Go.Proofs.YtjmpekanlmepmaaGreatDoor
