/- bodegalaw24.finish: the walk. -/
import Derived.Test.YtjmpekanlmepmaaGreatDoorUK01
import Derived.BigQuiet
import Derived.Test.YtjmpekanlmepmaaGreatDoorBB45
import Derived.Test.YtjmpekanlmepmaaGreatDoorBB46
import Derived.Test.YtjmpekanlmepmaaGreatDoorBB03
set_option linter.all false
set_option maxRecDepth 20000
set_option maxHeartbeats 8000000
open Go.Lib (hid)
namespace Go.Proofs.YtjmpekanlmepmaaGreatDoor
open Go.RowKit
def Z7e (T : List (List Bt.Cell)) : Prop := ∀ c r t, T = (c :: r) :: t → r = []
def Checked (pre post : List (List Bt.Cell)) : Prop := ∀ a up lo b, pre ++ post = a ++ up :: lo :: b → a.length < pre.length → ∀ e ∈ Bt.ents up, Bt.Z4c lo e
theorem Checked.posted {pre : List (List Bt.Cell)} {lv : List Bt.Cell} (h : Checked pre [lv]) : Bt.Z4E (pre ++ [lv]) :=
 Bt.Z7q (fun a up lo b hT => h a up lo b hT (by have := congrArg List.length hT; simp at this; omega))
theorem Checked.next {pre t : List (List Bt.Cell)} {lv lo : List Bt.Cell} (h : Checked pre (lv :: lo :: t)) (hp : ∀ e ∈ Bt.ents lv, Bt.Z4c lo e) : Checked (pre ++ [lv]) (lo :: t) := fun a up lo' b hT hl => by
 rw [List.append_assoc] at hT
 by_cases h1 : a.length < pre.length
 ·exact h a up lo' b hT h1
 ·have h2 : a.length = pre.length := by simp at hl; omega
  have h3 := List.append_inj hT h2.symm
  simp only [List.singleton_append, List.cons.injEq] at h3
  obtain ⟨_, rfl, rfl, _⟩ := h3
  exact hp
theorem Z6k (lv : List Bt.Cell) (t : List (List Bt.Cell)) : Bt.Z1i (lv :: t) = Bt.Z14 lv Bt.nilP := by cases lv <;> rfl
def nat01 (d : Bool) : Nat := if d then 1 else 0
section
variable (x P cap n : Nat) (vk vt vg : Value) (Z : Prop) (es : List Bt.Entry) (w5 : World)
def ZbN (i : Value) (wr : World) : Prop := ∃ r : Nat, i = .int .i64 r ∧ Hid (∃ ps nx T, FinAt x P cap n vk vt vg Z es w5 wr ps nx T ∧ r ≤ Bt.inner T)
def ZcM (r p7 : Nat) (did lev : Value) (wr : World) : Prop := ∃ d pre post, did = .bool d ∧ lev = .int .i64 ((post.length : Int) - 1) ∧ post ≠ [] ∧ Hid (∃ ps nx T, FinAt x P cap n vk vt vg Z es w5 wr ps nx T ∧ T = pre ++ post ∧ r + nat01 d ≤ Bt.inner T ∧ Blk wr p7 27 (Bt.Z1i post).cells ∧ (d = false → Z7e T ∧ Checked pre post))
structure FinIn (r p7 : Nat) (pre t : List (List Bt.Cell)) (lv0 lo : List Bt.Cell) (us : List Value) (vn : Value) (wl : World) (done : List Bt.Entry) (d : Bool) (wr : World) (ps : List Bt.Page) (nx : Int) (up : List Bt.Cell) : Prop where
 fin : FinAt x P cap n vk vt vg Z es w5 wr ps nx (pre ++ up :: lo :: t)
 head : Bt.Z14 up Bt.nilP = Bt.Z14 lv0 Bt.nilP
 cnt : r + nat01 d ≤ Bt.inner (pre ++ up :: lo :: t)
 blk : Blk wr p7 27 (Bt.Z14 lv0 Bt.nilP).cells
 nodes : NodesAt wl.heap.size vn lv0 us wr
 size : wl.heap.size ≤ wr.heap.size
 quiet : d = false → up = lv0 ∧ Z7e (pre ++ lv0 :: lo :: t) ∧ Checked pre (lv0 :: lo :: t) ∧ ∀ e ∈ done, Bt.Z4c lo e
def FinI (r p7 : Nat) (pre t : List (List Bt.Cell)) (lv0 lo : List Bt.Cell) (us : List Value) (vn : Value) (wl : World) (did i : Value) (wr : World) : Prop :=
 ∃ (d : Bool) (k : Nat), did = .bool d ∧ i = .int .i64 k ∧ k ≤ lv0.length ∧ Hid (∃ ps nx up, FinIn x P cap n vk vt vg Z es w5 r p7 pre t lv0 lo us vn wl (Bt.ents (lv0.take k)) d wr ps nx up)
def FinK (r p7 : Nat) (pre t : List (List Bt.Cell)) (lv0 lo A : List Bt.Cell) (us : List Value) (vn : Value) (wl : World) (m : Bt.Node) (did i : Value) (wr : World) : Prop :=
 ∃ (d : Bool) (k : Nat), did = .bool d ∧ i = .int .i64 k ∧ k ≤ m.entries.length ∧ Hid (∃ ps nx up, FinIn x P cap n vk vt vg Z es w5 r p7 pre t lv0 lo us vn wl (Bt.ents A ++ m.entries.take k) d wr ps nx up)
def ZcN (w : World) (e : Ending) (w' : World) : Prop :=
 e = .returned (.bool true) ∧ OverTwo x P w w' ∧ ∃ ps nx T, FinAt x P cap n vk vt vg Z es w5 w' ps nx T ∧ Bt.Z4E T ∧ Z7e T
end
section
variable {x P cap n : Nat} {vk vt vg : Value} {Z : Prop} {es : List Bt.Entry} {w5 : World} {r p7 : Nat} {pre t : List (List Bt.Cell)} {lv0 lo : List Bt.Cell} {us : List Value} {vn : Value} {wl : World} {done : List Bt.Entry} {d : Bool} {wr : World} {ps : List Bt.Page} {nx : Int} {up : List Bt.Cell}
theorem FinIn.below (h : FinIn x P cap n vk vt vg Z es w5 r p7 pre t lv0 lo us vn wl done d wr ps nx up) {wx : World} (hb : Below wr.heap.size wr wx) : FinIn x P cap n vk vt vg Z es w5 r p7 pre t lv0 lo us vn wl done d wx ps nx up :=
 ⟨h.fin.below hb, h.head, h.cnt, h.blk.kept hb, h.nodes.below hb, Nat.le_trans h.size hb.size, h.quiet⟩
theorem FinIn.post (h : FinIn x P cap n vk vt vg Z es w5 r p7 pre t lv0 lo us vn wl done d wr ps nx up) {w8 : World} {ps' : List Bt.Page} {nx' : Int} {up' : List Bt.Cell} {o : Bt.Out} {e : Bt.Entry} (hhd : Bt.Z14 up' Bt.nilP = Bt.Z14 up Bt.nilP)
 (hcase : (o.done = false ∧ up' = up ∧ ∀ e' ∈ Bt.ents up, e'.key = e.key → Bt.Z4c lo e') ∨ (o.done = true ∧ Bt.inner (pre ++ up :: lo :: t) < Bt.inner (pre ++ up' :: lo :: t)))
 (hf : FinAt x P cap n vk vt vg Z es w5 w8 ps' nx' (pre ++ up' :: lo :: t)) (ho : OverTwo x P wr w8) (hx : x < wl.heap.size) (hP : P < wl.heap.size) (hx7 : x < p7) (hP7 : P < p7) (he : e ∈ Bt.ents lv0) :
 FinIn x P cap n vk vt vg Z es w5 r p7 pre t lv0 lo us vn wl (done ++ [e]) (d || o.done) w8 ps' nx' up' := by
 refine ⟨hf, hhd.trans h.head, ?_, (ho.block p7 h.blk.lt (by omega) (by omega)).trans h.blk, h.nodes.two ho hx hP, Nat.le_trans h.size ho.size, fun hd => ?_⟩
 ·have h1 := h.cnt
  rcases hcase with ⟨hd, rfl, _⟩ | ⟨hd, hlt⟩
  ·rw [hd, Bool.or_false]; exact h1
  ·rw [hd, Bool.or_true]
   unfold nat01 at h1 ⊢
   cases d <;> simp at h1 ⊢ <;> omega
 ·obtain ⟨hd1, hd2⟩ := Bool.or_eq_false_iff.1 hd
  obtain ⟨q1, q2, q3, q4⟩ := h.quiet hd1
  rcases hcase with ⟨_, hup, hat⟩ | ⟨h0, _⟩
  ·refine ⟨hup.trans q1, q2, q3, fun e' he' => ?_⟩
   rcases List.mem_append.1 he' with h1 | h1
   ·exact q4 e' h1
   ·obtain rfl := List.mem_singleton.1 h1
    exact hat e' (by rw [q1]; exact he) rfl
  ·rw [hd2] at h0; cases h0
end
theorem Z82 (x P cap n : Nat) (vk vt vg : Value) (Z : Prop) (es : List Bt.Entry) (w5 : World) (hB : FinBase x P n vk vt vg es w5) (hn : n ≤ 76) (ps : List Bt.Page) (nx : Int) (T : List (List Bt.Cell)) (h : FinAt x P cap n vk vt vg Z es w5 w5 ps nx T) :
 Calls Tryz.prog 30 #[.pointer (some ⟨x, 0, none⟩)] w5 (ZcN x P cap n vk vt vg Z es w5 w5) := by
 have HB := hid hB
 have HP0 : Hid (∃ ps nx T, FinAt x P cap n vk vt vg Z es w5 w5 ps nx T ∧ 0 ≤ Bt.inner T) := hid ⟨ps, nx, T, h, Nat.zero_le _⟩
 have hPx := hB.hPx
 have hxl := hB.lt
 have eq := eql_ptr
 have ne := Z0U
 clear hB h
 go_enter Tryz.func30, Tryz.ntmps30
 go_wp2_with fail
 go_loopw [3] (fun i wr => ZbN x P cap n vk vt vg Z es w5 i wr) (fun i _ => (400 - intOf i).toNat)
 case atStart => exact ⟨0, rfl, HP0⟩
 case round =>
  obtain ⟨r, rfl, HQ⟩ := hrel
  clear HP0
  obtain ⟨ps, nx, T, hf, hr⟩ := HQ.out
  have hr151 : r ≤ 151 := by have := hf.Z6Z; omega
  obtain ⟨o, ps1, nx1, T1, hcase, hcall⟩ := FinAt.raise HB.out hf hn
  have HF := hid hf
  have HC := hid hcall
  have br : decide ((r : Int) < 400) = true := by simp; omega
  have br2 : decide (r < 400) = true := by simp; omega
  have wr1 : IntKind.i64.wrap ((r : Int) + 1) = (r : Int) + 1 := by rw [IntKind.wrap_i64]; omega
  have hxr : x < wr.heap.size := hf.blk.lt
  have hw5r : w5.heap.size ≤ wr.heap.size := hf.over.size
  clear hf hcall HQ
  unfold Z2M Z0d Bt.nilP at HC
  go_wp2_with fail
  go_at_call 31; refine (HC.out _ qL).mono ?_
  rintro e1 w1 ⟨ve, vc, rfl, hf1, ho1, hve, hvc⟩
  have hse := qSt hve
  have hsc := qSt hvc
  have HF1 := hid hf1
  have hw1 : wr.heap.size ≤ w1.heap.size := ho1.size
  clear hf1 ho1 hve hvc
  simp only [Z0n]
  rcases hcase with ⟨hT, hT1, hoc⟩ | hcase
  ·have b0 : (o.code == 0) = false := by simp [hoc]
   have b16 : (o.code == 16) = true := by simp [hoc]
   clear hoc
   go_wp2_with fail
   refine bodyPost_ret (results_tmp rfl _ _ _) rfl ⟨rfl, ?_, ps1, nx1, T1, HF1.out.below qL, by rw [hT1]; trivial, fun c r t h => by rw [hT1] at h; cases h⟩
   exact (HF1.out.below qL).over
  ·have hoc : o.code = 0 := by rcases hcase with h | h <;> exact h.1
   obtain ⟨oc, of_, od, os, ou, oa, om, oto, oen, och, oh, ofr, ohh⟩ := o
   dsimp only at hoc hcase ⊢
   subst hoc
   have HCS : Hid (T1 ≠ [] ∧ r + nat01 od ≤ Bt.inner T1 ∧ (od = false → Z7e T1)) := hid (by
    rcases hcase with ⟨_, hd, h1, c, t, h2⟩ | ⟨_, hd, h1, h2⟩
    ·rw [h1, hd]
     exact ⟨by rw [h2]; simp, hr, fun _ c' r' t' h => by rw [h2] at h; simp only [List.cons.injEq] at h; exact h.1.2.symm⟩
    ·rw [hd]
     exact ⟨h1, by show r + 1 ≤ _; omega, fun h => by cases h⟩)
   clear hcase
   have hpl := HF1.out.inv.ix.len
   obtain ⟨R, hR⟩ : ∃ R, RootAt P T1 R w1 := ⟨_, HF1.out.root⟩
   have HR := hid hR
   obtain ⟨r0, r1, r2, r3, r4, r5, r6, r7, r8⟩ := hR.nine
   have kx0 : w1.cell? ⟨x, 0, none⟩ = some (.slice (some ⟨P, 0, none⟩) ps1.length cap) := HF1.out.blk.cell 0
   rw [hpl] at kx0
   have hx1 : x < w1.heap.size := HF1.out.blk.lt
   have hP1 : P < w1.heap.size := HF1.out.pg.lt
   clear hpl hR
   go_wp2_with fail
   go_at_call 15; refine (Z35 R HR.out.ok HR.out.line _ ?hng).mono ?_
   case hng => exact (FinAt.ok HB.out HF1.out).none.below qL
   rintro e6 w6 ⟨he6, hb6⟩
   rw [HR.out.reads] at he6
   obtain ⟨c0, t0, hT1⟩ : ∃ c t, T1 = c :: t := by
    cases T1 with
    | nil => exact absurd rfl HCS.out.1
    | cons c t => exact ⟨c, t, rfl⟩
   obtain ⟨l0, n0, rr, hc0⟩ : ∃ l n r, c0 = (l, n) :: r := by
    have := HF1.out.inv.tree.levels
    rw [hT1] at this
    cases c0 with
    | nil => exact absurd rfl this.1.ne
    | cons c r => exact ⟨c.1, c.2, r, rfl⟩
   have hrp : Bt.Z1i T1 = Bt.ptr l0 := by rw [hT1, hc0]; rfl
   have hlt : ((T1.length - 1 : Nat) : Int) = (t0.length : Int) := by rw [hT1]; simp
   rw [hrp, hlt] at he6
   obtain rfl := he6
   ((obtain ⟨hc6, hf6, hs6⟩ := qR hb6); (try have := qN0 w1 w6); (try have := qN1 w1 w6))
   simp only [Bt.ptr, Bt.Ptr.cells]
   have HF6 : Hid (FinAt x P cap n vk vt vg Z es w5 w6 ps1 nx1 T1) := hid (HF1.out.below qL)
   have hw6 : wr.heap.size ≤ w6.heap.size := by omega
   have HRT := hid hrp
   have HLT := hid hlt
   clear hrp hlt hT1 hc0 hb6 hc6 hf6 r0 r1 r2 r3 r4 r5 r6 r7 r8 kx0
   go_wp2_with fail
   go_loopw [6, 8] (fun did lev wy => ZcM x P cap n vk vt vg Z es w5 r w6.heap.size did lev wy) (fun _ lev _ => (intOf lev + 1).toNat)
   case atStart =>
    refine ⟨od, [], T1, rfl, by rw [← HLT.out]; have := List.length_pos_iff.2 HCS.out.1; congr 1; omega, HCS.out.1, hid ⟨ps1, nx1, T1, HF6.out.below qL, rfl, HCS.out.2.1, ?_, fun hd => ⟨HCS.out.2.2 hd, fun a up lo b _ h => by simp at h⟩⟩⟩
    rw [HRT.out]
    exact Blk.made _ _ _
   case round =>
    obtain ⟨d, pre, post, rfl, rfl, hpne, HQ2⟩ := hrel
    rename World => wy
    cases post with
    | nil => exact absurd rfl hpne
    | cons lv0 post =>
      obtain ⟨ps2, nx2, T2, hf2, hT2, hr2, hbp2, hq2⟩ := HQ2.out
      have HF2 := hid hf2
      have HQT := hid hq2
      have HR2 := hid hr2
      rw [Z6k] at hbp2
      have HBP := hid hbp2
      have hlv : Bt.Level ((post.length : Nat) : Int) lv0 := Bt.Tree.level (pre := pre) (hT2 ▸ hf2.inv.tree)
      have HLV := hid hlv
      obtain ⟨lh, nh, lvr, hlh⟩ : ∃ lh nh lvr, lv0 = (lh, nh) :: lvr := by
       cases lv0 with
       | nil => exact absurd rfl hlv.ne
       | cons c r => exact ⟨c.1, c.2, r, rfl⟩
      have hwy : w6.heap.size < wy.heap.size := hbp2.lt
      simp only [List.length_cons]
      rw [show (((post.length + 1 : Nat) : Int) - 1) = (post.length : Int) by omega]
      cases post with
      | nil =>
        clear hf2 hq2 hr2 hbp2 hlv
        cases d with
        | false =>
          go_wp2_with fail
          refine bodyPost_ret (results_tmp rfl _ _ _) rfl ⟨rfl, ?_, ps2, nx2, T2, HF2.out.below qL, ?_, (HQT.out (by trivial)).1⟩
          ·exact (HF2.out.below qL).over
          ·rw [hT2]; exact (HQT.out (by trivial)).2.posted
        | true =>
          go_wp2_with fail
          refine ⟨⟨r + 1, by rw [show ((r : Int) + 1) = ((r + 1 : Nat) : Int) by omega], hid ⟨ps2, nx2, T2, HF2.out.below qL, HR2.out⟩⟩, by simp [intOf]; omega⟩
      | cons lo t =>
        have hlevs : Bt.Levels (lv0 :: lo :: t) := by have := hf2.inv.tree.levels; rw [hT2] at this; exact this.append
        have hlnk : Bt.Links (lv0 :: lo :: t) := by have := hf2.inv.tree.links; rw [hT2] at this; exact this.append
        obtain ⟨x0, r0, e0, es0, y0, r2, hlv0, hx0, hlo0, hto⟩ := Bt.Levels.first hlevs hlnk
        have hT5 : t.length + 2 ≤ 9 := by
         obtain ⟨ins, K, h1, h2, _⟩ := hf2.cnt
         have := (h2.bound hf2.inv.tree (by omega)).1
         rw [hT2] at this
         simp at this
         omega
        have hls : lv0.length ≤ 151 := by
         have := hf2.inv.small
         rw [hT2] at this
         simp only [Bt.Z0P, Bt.Z16, List.length_append] at this
         omega
        have hvalid := hlv.valid
        have HVA : Hid (∀ c ∈ lv0, c.2.entries.length ≤ 5 ∧ ∀ e ∈ c.2.entries, 1 ≤ e.key ∧ e.key ≤ Bt.Z08) := hid (fun c hc => by
         have h1 := (hf2.inv.sees c (by rw [hT2]; simp only [Bt.Z0P, Bt.Z16, List.mem_append]; exact .inr (.inl hc))).good
         refine ⟨(Bt.Node.valid_parts h1.valid).2.2.1, fun e he => ?_⟩
         have := h1.range.2.2 e he
         unfold Bt.Z08
         omega)
        have hcall := FinAt.level HB.out hf2 hT2 wy (Below.refl _ _)
        have hhc : (Bt.Z14 lv0 Bt.nilP).cells = #[.int .i64 lh, .int .i64 1] := by rw [hlh]; rfl
        rw [hhc] at hcall
        have kp : ∀ i, wy.cell? ⟨w6.heap.size, i, none⟩ = (#[.int .i64 lh, .int .i64 1] : Array Value)[i]? := by
         have := hbp2.cell
         rw [hlh] at this
         exact this
        have HHD : Hid ((Bt.Z14 lv0 Bt.nilP).cells = #[.int .i64 lh, .int .i64 1]) := hid hhc
        have hlp : 0 < lv0.length := by rw [hlh]; simp
        have bz : ((lv0.length : Int) == 0) = false := by rw [beq_eq_false_iff_ne]; omega
        have bz2 : (lv0.length == 0) = false := by rw [beq_eq_false_iff_ne]; omega
        have bl : decide ((0 : Int) < ((lo :: t).length : Int)) = true := by simp
        have HT2 := hid hT2
        have HFS := hid (⟨hlv0, hx0, hlo0, hto⟩ : lv0 = x0 :: r0 ∧ x0.2.entries = e0 :: es0 ∧ lo = y0 :: r2 ∧ e0.to = Bt.ptr y0.1)
        clear hf2 hq2 hr2 hbp2 hlv hlevs hlnk hlv0 hx0 hlo0 hto hvalid hhc hlh hT2
        go_wp2_with fail
        go_at_call 29; refine hcall.mono ?_
        rintro e7 w7 ⟨vn, vp, us, rfl, hN7, _, hb7⟩
        obtain ⟨g, cn, rfl⟩ := Z0D hN7.own hlp
        have hg7 : g < w7.heap.size := (Z0X hN7.own).2
        have hgy : wy.heap.size ≤ g := (Z0X hN7.own).1
        have HI0 : Hid (∃ ps nx up, FinIn x P cap n vk vt vg Z es w5 r w6.heap.size pre t lv0 lo us (.slice (some ⟨g, 0, none⟩) lv0.length cn) wy (Bt.ents (lv0.take 0)) d w7 ps nx up) :=
         hid ⟨ps2, nx2, lv0, HT2.out ▸ HF2.out.below hb7, rfl, HT2.out ▸ HR2.out, HBP.out.kept hb7, hN7, hb7.size, fun hd => ⟨rfl, HT2.out ▸ (HQT.out hd).1, (HQT.out hd).2, fun e he => by simp [Bt.ents] at he⟩⟩
        clear hcall hN7 hb7 HQT HF2 HR2 HBP HQ2
        go_wp2_with fail
        go_loopw [6, 13] (fun did i wi => FinI x P cap n vk vt vg Z es w5 r w6.heap.size pre t lv0 lo us (.slice (some ⟨g, 0, none⟩) lv0.length cn) wy did i wi) (fun _ i _ => ((lv0.length : Int) - intOf i).toNat)
        case atStart => exact ⟨d, 0, rfl, rfl, Nat.zero_le _, HI0⟩
        case round =>
         obtain ⟨d1, i, rfl, rfl, hi, HQ3⟩ := hrel
         clear HI0
         rename World => wi
         have hwi : wy.heap.size ≤ wi.heap.size := by obtain ⟨_, _, _, hq⟩ := HQ3.out; exact hq.size
         obtain ⟨HN3, _⟩ : Hid (NodesAt wy.heap.size (.slice (some ⟨g, 0, none⟩) lv0.length cn) lv0 us wi) ∧ True := ⟨hid (by obtain ⟨_, _, _, hq⟩ := HQ3.out; exact hq.nodes), trivial⟩
         have hgi : g < wi.heap.size := (Z0X HN3.out.own).2
         by_cases hil : i < lv0.length
         ·obtain ⟨l, m, hcn⟩ : ∃ l m, lv0[i] = (l, m) := ⟨_, _, rfl⟩
          have hget : lv0[i]? = some (l, m) := by rw [List.getElem?_eq_getElem hil, hcn]
          have htake : lv0.take (i + 1) = lv0.take i ++ [(l, m)] := by rw [List.take_succ_eq_append_getElem hil, hcn]
          have HTK := hid htake
          obtain ⟨A, hA⟩ : ∃ A, lv0.take i = A := ⟨_, rfl⟩
          rw [hA] at HQ3 HTK
          obtain ⟨hm5, hmk⟩ := HVA.out (l, m) (by rw [← hcn]; exact List.getElem_mem hil)
          have hm5 : m.entries.length ≤ 5 := hm5
          have HMK : Hid (∀ e ∈ m.entries, 1 ≤ e.key ∧ e.key ≤ Bt.Z08) := hid hmk
          have bi : decide ((i : Int) < lv0.length) = true := by simp; omega
          have bi0 : (0 : Int) ≤ i := by omega
          have bi1 : (i : Int) < lv0.length := by omega
          have wi1 : IntKind.i64.wrap ((i : Int) + 1) = (i : Int) + 1 := by rw [IntKind.wrap_i64]; omega
          have HGET := hid hget
          have HK0 : Hid (∃ ps nx up, FinIn x P cap n vk vt vg Z es w5 r w6.heap.size pre t lv0 lo us (.slice (some ⟨g, 0, none⟩) lv0.length cn) wy (Bt.ents A ++ m.entries.take 0) d1 wi ps nx up) := hid (by simpa using HQ3.out)
          clear hcn hget htake hA hmk HQ3 HN3
          go_wp2_with fail
          go_loopw [6, 14] (fun did j wj => FinK x P cap n vk vt vg Z es w5 r w6.heap.size pre t lv0 lo A us (.slice (some ⟨g, 0, none⟩) lv0.length cn) wy m did j wj) (fun _ j _ => ((m.entries.length : Int) - intOf j).toNat)
          case atStart => exact ⟨d1, 0, rfl, rfl, Nat.zero_le _, HK0⟩
          case round =>
           obtain ⟨d2, j, rfl, rfl, hj, HQ4⟩ := hrel
           clear HK0
           rename World => wj
           obtain ⟨ps4, nx4, up, hq4⟩ := HQ4.out
           have H4 := hid hq4
           have hwj : wy.heap.size ≤ wj.heap.size := hq4.size
           obtain ⟨u, hown, _, _, _, _, _, _, q6⟩ := hq4.nodes.seven HGET.out
           obtain ⟨pu, cu, rfl⟩ := Z2q hown
           have hgj : g < wj.heap.size := (Z0X hq4.nodes.own).2
           have z6 : wj.cell? ⟨g, i * 7 + 6, none⟩ = some (.slice pu m.entries.length cu) := q6
           have HOW := hid hown
           clear hq4 HQ4 hown q6
           by_cases hjl : j < m.entries.length
           ·obtain ⟨e, he⟩ : ∃ e, m.entries[j] = e := ⟨_, rfl⟩
            obtain ⟨gu, cu2, hpu⟩ := Z0D HOW.out (by show 0 < m.entries.length; omega)
            simp only [Value.slice.injEq, true_and] at hpu
            obtain ⟨rfl, rfl⟩ := hpu
            have hcells : ∀ q z, (Z04 m.entries)[q]? = some z → wj.cell? ⟨gu, q, none⟩ = some z := Z0i HOW.out
            have hguz : gu < wj.heap.size := (Z0X HOW.out).2
            have d0 : wj.cell? ⟨gu, j * 3, none⟩ = some (.int .u32 e.key) := by rw [← he]; exact hcells _ _ (Z0a m.entries j m.entries[j] (List.getElem?_eq_getElem hjl) 0 _ rfl)
            obtain ⟨f1, f2⟩ := HMK.out e (by rw [← he]; exact List.getElem_mem hjl)
            obtain ⟨o4, ps5, nx5, up5, hoc, hhd, hcase, hcall⟩ := FinAt.post HB.out H4.out.fin hn e.key f1 f2 rfl
            have HC4 := hid hcall
            have HCS4 := hid hcase
            have HHD4 := hid hhd
            have HEM : Hid (e ∈ Bt.ents lv0) := hid (by unfold Bt.ents; exact List.mem_flatMap.2 ⟨(l, m), List.mem_of_getElem? HGET.out, by rw [← he]; exact List.getElem_mem hjl⟩)
            have HTK4 : Hid (m.entries.take (j + 1) = m.entries.take j ++ [e]) := hid (by rw [List.take_succ_eq_append_getElem hjl, he])
            have b0 : (o4.code == 0) = true := by simp [hoc]
            have bj : decide ((j : Int) < m.entries.length) = true := by simp; omega
            have bj0 : (0 : Int) ≤ j := by omega
            have bj1 : (j : Int) < m.entries.length := by omega
            have wj1 : IntKind.i64.wrap ((j : Int) + 1) = (j : Int) + 1 := by rw [IntKind.wrap_i64]; omega
            have wt1 : IntKind.i64.wrap (((lo :: t).length : Int) - 1) = (t.length : Int) := by rw [IntKind.wrap_i64]; simp; omega
            clear hcells he f1 f2 hoc hhd hcase hcall
            unfold Z5Z Z0d Bt.nilP at HC4
            go_wp2_with fail
            go_at_call 31; refine (HC4.out _ qL).mono ?_
            rintro e8 w8 ⟨ve4, vc4, rfl, hf8, ho8, hve4, hvc4⟩
            have hse4 := qSt hve4
            have hsc4 := qSt hvc4
            have HI8 := hid (H4.out.post HHD4.out HCS4.out hf8 ho8 (by omega) (by omega) (by omega) (by omega) HEM.out)
            have hw8 : wj.heap.size ≤ w8.heap.size := ho8.size
            clear hf8 ho8 hve4 hvc4 HC4 HCS4 HHD4
            simp only [Z0n]
            cases d2 with
            | false =>
              go_wp2_with fail
              refine ⟨⟨_, j + 1, rfl, by rw [show ((j : Int) + 1) = ((j + 1 : Nat) : Int) by omega], hjl, hid ⟨ps5, nx5, up5, ?_⟩⟩, by simp [intOf]; omega⟩
              rw [HTK4.out, ← List.append_assoc]
              exact HI8.out.below qL
            | true =>
              go_wp2_with fail
              refine ⟨⟨_, j + 1, rfl, by rw [show ((j : Int) + 1) = ((j + 1 : Nat) : Int) by omega], hjl, hid ⟨ps5, nx5, up5, ?_⟩⟩, by simp [intOf]; omega⟩
              rw [HTK4.out, ← List.append_assoc]
              exact HI8.out.below qL
           ·have hjm : j = m.entries.length := by omega
            have bj : decide ((j : Int) < m.entries.length) = false := by simp; omega
            go_wp2_with fail
            refine ⟨⟨d2, i + 1, rfl, by rw [show ((i : Int) + 1) = ((i + 1 : Nat) : Int) by omega], hil, hid ⟨ps4, nx4, up, ?_⟩⟩, by simp [intOf]; omega⟩
            have := H4.out
            rw [hjm, List.take_length] at this
            rw [HTK.out, Bt.Z0I, Bt.Z0N, Bt.Z6l, List.append_nil]
            exact this.below qL
         ·have hii : i = lv0.length := by omega
          have bi : decide ((i : Int) < lv0.length) = false := by simp; omega
          obtain ⟨ps4, nx4, up, hq4⟩ := HQ3.out
          obtain ⟨hlv0, hx0, hlo0, hto⟩ := HFS.out
          obtain ⟨u, hown, _, _, _, _, _, _, q6⟩ := hq4.nodes.seven (i := 0) (c := x0) (by rw [hlv0]; rfl)
          obtain ⟨gu, cu, rfl⟩ := Z0D hown (by rw [hx0]; simp)
          have z6 : wi.cell? ⟨g, 6, none⟩ = some (.slice (some ⟨gu, 0, none⟩) x0.2.entries.length cu) := by simpa using q6
          have hguq : gu < wi.heap.size := (Z0X hown).2
          have hcells : ∀ j z, (Z04 x0.2.entries)[j]? = some z → wi.cell? ⟨gu, j, none⟩ = some z := Z0i hown
          have z1 : wi.cell? ⟨gu, 1, none⟩ = some (.int .i64 e0.to.line) := hcells 1 _ (by rw [hx0]; rfl)
          have z2 : wi.cell? ⟨gu, 2, none⟩ = some (.int .i64 e0.to.gen) := hcells 2 _ (by rw [hx0]; rfl)
          have hel : (0 : Int) < (x0.2.entries.length : Int) := by rw [hx0]; simp <;> omega
          have hlp2 : (0 : Int) < (lv0.length : Int) := by omega
          have H4 := hid hq4
          have hpb := hq4.blk
          rw [HHD.out] at hpb
          have HPB := hid hpb
          have kpi : ∀ q, wi.cell? ⟨w6.heap.size, q, none⟩ = (#[.int .i64 lh, .int .i64 1] : Array Value)[q]? := hpb.cell
          have hpf := hpb.free
          have hpl := hpb.lt
          have HLO : Hid ((Bt.Z1i (lo :: t)).cells = #[.int .i64 e0.to.line, .int .i64 e0.to.gen]) := hid (by
           rw [hlo0]
           show (Bt.ptr y0.1).cells = _
           rw [← hto]; rfl)
          have wt1 : IntKind.i64.wrap (((lo :: t).length : Int) - 1) = (t.length : Int) := by rw [IntKind.wrap_i64]; simp; omega
          clear hq4 hlv0 hx0 hlo0 hto hown q6 hcells hpb HQ3
          go_wp2_with fail
          refine ⟨⟨d1, pre ++ [up], lo :: t, rfl, by simp, by simp, hid ⟨ps4, nx4, pre ++ up :: lo :: t, ?_, by simp, H4.out.cnt, ?_, fun hd => ?_⟩⟩, by simp [intOf] <;> omega⟩
          ·exact ((H4.out.fin.put (by omega) (by omega) (by omega) 0 _).put (by omega) (by omega) (by omega) 1 _)
          ·rw [HLO.out]
           exact Blk.all2 (x0 := .int .i64 lh) (x1 := .int .i64 1) HPB.out _ _
          ·obtain ⟨q1, q2, q3, q4⟩ := H4.out.quiet hd
           rw [q1]
           refine ⟨q2, q3.next ?_⟩
           rw [hii, List.take_length] at q4
           exact q4
theorem UKsG1 {P : Prop} (h : P := by
 have HB2 := hid hb2
 clear hb2
 go_wp2_with fail
 refine qA fun hSt => ?_
 refine qS [0, 1, 2, 3, 4, 5, 6, 7, 8, 9, 10, 11, 12, 13, 14, 15, 16, 17, 18, 19, 20, 21, 22, 23] ?_
 iterate 24 (refine qT ?_; simp only [Act.put, qY])
 refine Z00.done ?_
 refine qD ?_ _
 go_wp2_with fail
 have hb1 := HB1.out
 have hb2 := HB2.out
 refine bodyPost_ret (results_tmp rfl _ _ _) rfl ⟨rfl, qL⟩) : P := h
theorem UKwG1 {P : Prop} (h : P := by
 go_enter Tryz.func24, Tryz.ntmps24
 go_wp2_with fail
 go_at_call 27; refine (HN.out _ qL).mono ?_
 rintro e1 w1 ⟨vw, ve, vc, rfl, how, hoe, hoc, hb1⟩
 obtain ⟨pw, cw, rfl⟩ := Z2Q how
 obtain ⟨ca, cc, rfl⟩ := Z38 hoc
 rw [HOK.out]
 have hse := qSt hoe
 clear how hoe hoc
 simp only [Z0n]
 rw [HF.out]
 ((obtain ⟨hc1, hf1, hs1⟩ := qR hb1); (try have := qN0 w w1))
 have HB1 := hid hb1
 have hxl1 : x < w1.heap.size := by omega
 clear hb1
 go_wp2_with fail
 first
  | clear tg1
    go_at_call 48; refine (Z32 x (x + 1) (.slice (some ⟨P, 0, none⟩) pages.length cap) vk vt vg next keys key _ ?hb ?hk hlen).mono ?_
    case hb => exact (HX.out.blk.kept HB1.out).alloc _
    case hk => exact own_below HX.out.keys (by have hb1 := HB1.out; exact qL)
    rintro e2 w2 ⟨rfl, hb2⟩
    rw [HTH.out, ← HAT.out]
    ((obtain ⟨hc2, hf2, hs2⟩ := qR hb2); (try have := qN0 w w2); (try have := qN0 w1 w2))
    have hxl2 : x < w2.heap.size := by omega
    exact UKsG1
  | clear tg2
    go_at_call 48; refine (Z32 x (x + 1) (.slice (some ⟨P, 0, none⟩) pages.length cap) vk (Value.slice (some ⟨gt, 0, none⟩) tos.length ct) vg next keys key _ ?hb ?hk hlen).mono ?_
    case hb => exact (HX.out.blk.kept HB1.out).alloc _
    case hk => exact own_below HX.out.keys (by have hb1 := HB1.out; exact qL)
    rintro e2 w2 ⟨rfl, hb2⟩
    rw [HTH.out, ← HAT.out]
    ((obtain ⟨hc2, hf2, hs2⟩ := qR hb2); (try have := qN0 w w2); (try have := qN0 w1 w2))
    have hxl2 : x < w2.heap.size := by omega
    have hgt3 : gt < w2.heap.size := by omega
    have hgt4 : gt < w1.heap.size := by omega
    exact UKsG1) : P := h
theorem Z9c (x P cap G : Nat) (pages : List Bt.Page) (next : Int) (keys : List Int) (tos : List Bt.Ptr) (key : Int) (va : Option Addr) (n c : Nat) (o : Bt.Out) (w : World) (h : IxG x P cap G pages next keys tos w) (hth : Z2p keys key = false) (hfo : o.found = false) (hto : o.to = Bt.nilP) (hlen : keys.length ≤ 1000) (htl : tos.length = keys.length) (hoc : o.code = 0) (hok : o.check.length = 1)
 (HN : Hid (∀ w', Below w.heap.size w w' → Calls Tryz.prog 27 #[.agg (Z0d ⟨1, key, 0, Bt.nilP, 0, 0, []⟩ (.slice none 0 0)), .slice va n c] w' (Z1S [] o w'))) :
 Calls Tryz.prog 24 #[.pointer (some ⟨x, 0, none⟩), .int .u32 key, .slice va n c] w (fun e w' => e = .returned (.bool true) ∧ Below w.heap.size w w') := by
 obtain ⟨vk, vt, vg, hx, hgo⟩ := h
 have hxlt := hx.blk.lt
 have kx := hx.blk.cell
 unfold Z1P at kx
 have pz : peq o.to.line o.to.gen 0 0 = true := by rw [hto]; rfl
 obtain ⟨at1, hat⟩ : ∃ at1, at1 = placeOf keys key := ⟨_, rfl⟩
 have HAT := hid hat
 have eq := eql_ptr
 clear hat
 have HX := hid hx
 have HTH := hid hth
 have HF := hid hfo
 have HOK := hid hok
 have bn0 : (o.code != 0) = false := by simp [hoc]
 clear hx hth hgo hfo hok hoc hto
 unfold Z0d Bt.nilP at HN
 have tg1 := trivial
 exact UKwG1
theorem Z8e (x P cap G : Nat) (pages : List Bt.Page) (next : Int) (keys : List Int) (tos : List Bt.Ptr) (key : Int) (va : Option Addr) (n c : Nat) (o : Bt.Out) (w : World) (h : IxG x P cap G pages next keys tos w) (hth : Z2p keys key = true) (hfo : o.found = true) (hto : o.to = tos.getD (placeOf keys key) default) (hlen : keys.length ≤ 1000) (htl : tos.length = keys.length) (hoc : o.code = 0) (hok : o.check.length = 1)
 (HN : Hid (∀ w', Below w.heap.size w w' → Calls Tryz.prog 27 #[.agg (Z0d ⟨1, key, 0, Bt.nilP, 0, 0, []⟩ (.slice none 0 0)), .slice va n c] w' (Z1S [] o w'))) :
 Calls Tryz.prog 24 #[.pointer (some ⟨x, 0, none⟩), .int .u32 key, .slice va n c] w (fun e w' => e = .returned (.bool true) ∧ Below w.heap.size w w') := by
 obtain ⟨vk, vt, vg, hx, hgo⟩ := h
 have hxlt := hx.blk.lt
 have kx := hx.blk.cell
 unfold Z1P at kx
 have hpl2 : placeOf keys key < keys.length := Z4y hth
 have hatl : placeOf keys key < tos.length := by omega
 have hgd : tos.getD (placeOf keys key) default = tos[placeOf keys key] := by rw [List.getD_eq_getElem?_getD, List.getElem?_eq_getElem hatl]; rfl
 obtain ⟨q, hq⟩ : ∃ q, tos[placeOf keys key] = q := ⟨_, rfl⟩
 rw [hgd, hq] at hto
 have pq : peq o.to.line o.to.gen q.line q.gen = true := by simp [peq, hto]
 obtain ⟨gt, ct, rfl⟩ := Z0D hx.tos (by omega)
 have tc0 : w.cell? ⟨gt, placeOf keys key * 2, none⟩ = some (.int .i64 q.line) := by rw [← hq]; exact Z0i hx.tos _ _ (Z1C tos _ _ (List.getElem?_eq_getElem hatl) 0 _ rfl)
 have tc1 : w.cell? ⟨gt, placeOf keys key * 2 + 1, none⟩ = some (.int .i64 q.gen) := by rw [← hq]; exact Z0i hx.tos _ _ (Z1C tos _ _ (List.getElem?_eq_getElem hatl) 1 _ rfl)
 have hgt := Z0X hx.tos
 have hgt2 : gt < w.heap.size := hgt.2
 obtain ⟨at1, hat⟩ : ∃ at1, at1 = placeOf keys key := ⟨_, rfl⟩
 rw [← hat] at tc0 tc1 hatl
 have HAT := hid hat
 have ha1 : (0 : Int) ≤ at1 := by omega
 have ha2 : (at1 : Int) < tos.length := by omega
 have ha3 : (at1 : Int) < keys.length := by omega
 have ha4 : at1 < keys.length := by omega
 have eq := eql_ptr
 clear hgt hgd hq hat hpl2
 have HX := hid hx
 have HTH := hid hth
 have HF := hid hfo
 have HOK := hid hok
 have bn0 : (o.code != 0) = false := by simp [hoc]
 clear hx hth hgo hfo hok hoc hto
 unfold Z0d Bt.nilP at HN
 have tg2 := trivial
 exact UKwG1
abbrev Z6D (k : Int) : Bt.Op := ⟨1, k, 0, Bt.nilP, 0, 0, []⟩
theorem Z8Y {ps : List Bt.Page} {nx : Int} {es : List Bt.Entry} {T : List (List Bt.Cell)} (h : Bt.Inv ps nx es T) (k : Int) (hk : 1 ≤ k) (hk2 : k ≤ Bt.Z0e) : Z2O ps nx (Z6D k) := fun fr ws o hf hn fa ka fn fc kn kc w =>
 Z6M h _ (by unfold Bt.Op.isValid; simp [Z6D, Bt.isKey, hk, hk2]) hn fa ka fn fc kn kc w rfl
theorem Z8M {ps : List Bt.Page} {nx : Int} {es : List Bt.Entry} {T : List (List Bt.Cell)} (h : Bt.Inv ps nx es T) (k : Int) (hk : 1 ≤ k) (hk2 : k ≤ Bt.Z0e) {x P cap G : Nat} (w : World) (hx : IxG x P cap G ps nx (keysOf es) (tosOf es) w) :
 Calls Tryz.prog 24 #[.pointer (some ⟨x, 0, none⟩), .int .u32 k, .slice (some ⟨P, 0, none⟩) ps.length cap] w (fun e w' => e = .returned (.bool true) ∧ Below w.heap.size w w') := by
 obtain ⟨o, ho, hoc, hof, hot, hok, _⟩ := h.find (op := Z6D k) rfl hk hk2
 have hlen := h.esLen
 have hlk : (keysOf es).length ≤ 1000 := by unfold keysOf; rw [List.length_map]; omega
 have hlt : (tosOf es).length = (keysOf es).length := by unfold keysOf tosOf; simp
 have hth := Z4z es k
 obtain ⟨vk, vt, vg, hxo, hgo⟩ := hx
 have HN : Hid (∀ w', Below w.heap.size w w' → Calls Tryz.prog 27 #[.agg (Z0d ⟨1, k, 0, Bt.nilP, 0, 0, []⟩ (.slice none 0 0)), .slice (some ⟨P, 0, none⟩) ps.length cap] w' (Z1S [] o w')) := hid (fun w' hb =>
  Z8Y h k hk hk2 [] [] o (.inl rfl) ho none (some ⟨P, 0, none⟩) 0 0 ps.length cap w' (nilRow w') ((hxo.over hb).pg.row) ((hxo.over hb).none))
 cases hhk : Bt.Z0T es k with
 | true =>
   rw [hhk] at hth
   have hot2 : o.to = (tosOf es).getD (placeOf (keysOf es) k) default := by
    rw [Z2P, Z8C es _ (Z6a hhk)]
    rw [hot, if_pos hhk]
   exact Z8e x P cap G ps nx (keysOf es) (tosOf es) k (some ⟨P, 0, none⟩) ps.length cap o w ⟨vk, vt, vg, hxo, hgo⟩ hth (by rw [hof]; exact hhk) hot2 hlk hlt hoc hok HN
 | false =>
   rw [hhk] at hth
   exact Z9c x P cap G ps nx (keysOf es) (tosOf es) k (some ⟨P, 0, none⟩) ps.length cap o w ⟨vk, vt, vg, hxo, hgo⟩ hth (by rw [hof]; exact hhk) (by rw [hot, if_neg (by show ¬ Bt.Z0T es k = true; rw [hhk]; simp)]) hlk hlt hoc hok HN
end Go.Proofs.YtjmpekanlmepmaaGreatDoor
namespace Go.Proofs.YtjmpekanlmepmaaGreatDoor.Bt
theorem ZbS {ch A R A' R' : List Cell} {c c' : Cell} {k : Int} (hr : Rise 0 ch) (h1 : ch = A ++ c :: R) (h2 : ch = A' ++ c' :: R') (l1 : Z05 0 A < k) (l2 : Z05 0 A' < k) (n1 : ¬ c.2.passes k) (n2 : ¬ c'.2.passes k) : A = A' ∧ c = c' ∧ R = R' := by
 have q1 : Rise 0 (A ++ c :: R) := h1 ▸ hr
 have q2 : Rise 0 (A' ++ c' :: R') := h2 ▸ hr
 have e1 := (Z5W (k := k) (b := c :: R) (Rise.append.1 q1).1 l1).1
 have e2 := (Z5W (k := k) (b := c' :: R') (Rise.append.1 q2).1 l2).1
 rw [← h1] at e1
 rw [← h2] at e2
 simp only [seek, if_neg n1] at e1
 simp only [seek, if_neg n2] at e2
 have e3 : c :: R = c' :: R' := e1.symm.trans e2
 obtain ⟨rfl, rfl⟩ := List.cons.inj e3
 exact ⟨List.append_cancel_right (h1.symm.trans h2), rfl, rfl⟩
theorem Inv.place {ps : List Page} {nx : Int} {es : List Entry} {T : List (List Cell)} (h : Inv ps nx es T) {pre pre' : List (List Cell)} {A R A' R' : List Cell} {c c' : Cell} {k : Int} (h1 : T = pre ++ [A ++ c :: R]) (h2 : T = pre' ++ [A' ++ c' :: R'])
 (l1 : Z05 0 A < k) (l2 : Z05 0 A' < k) (d1 : c.2.dead = false) (g1 : k ≤ c.2.high) (d2 : c'.2.dead = false) (g2 : k ≤ c'.2.high) : pre = pre' ∧ A = A' ∧ c = c' ∧ R = R' := by
 have h3 := List.append_inj' (h1.symm.trans h2) rfl
 have hlv : Level ((([] : List (List Cell)).length : Nat) : Int) (A ++ c :: R) := Tree.level (pre := pre) (h1 ▸ h.tree)
 have np : ∀ x : Cell, x.2.dead = false → k ≤ x.2.high → ¬ x.2.passes k := fun x hd hg hp => by
  rcases hp with hp | hp
  ·rw [hd] at hp; cases hp
  ·omega
 obtain ⟨q1, q2, q3⟩ := ZbS hlv.rise rfl (List.cons.inj h3.2).1 l1 l2 (np c d1 g1) (np c' d2 g2)
 exact ⟨h3.1, q1, q2, q3⟩
end Go.Proofs.YtjmpekanlmepmaaGreatDoor.Bt
namespace Go.Proofs.YtjmpekanlmepmaaGreatDoor
open Go.RowKit
namespace Bt
def Z9A (k : Int) (T : List (List Cell)) : Prop := ∀ c ∈ flat T, c.1 = k → c.2.dead = true
theorem Names.mem {lo : List Cell} {es : List Entry} : ∀ {p : Int}, Names lo p es → ∀ e ∈ es, ∃ q, Named lo q e := by
 induction es with
 | nil => exact fun _ e he => by cases he
 | cons x es ih =>
   intro p h e he
   rcases List.mem_cons.1 he with rfl | he
   ·exact ⟨p, h.1⟩
   ·exact ih h.2 e he
theorem Tree.unnamed {T pre post : List (List Cell)} {up lo : List Cell} {k : Int} (h : Tree T) (hT : T = pre ++ up :: lo :: post) (hd : Z9A k T) : ∀ e ∈ ents up, e.to ≠ ptr k := fun e he heq => by
 have hl : Links (up :: lo :: post) := (hT ▸ h.links : Links (pre ++ up :: lo :: post)).append
 obtain ⟨q, a, t, b, h1, h2, h3, _⟩ := Names.mem hl.1 e he
 have h4 : t.1 = k := by
  rw [h2] at heq
  exact congrArg Ptr.line heq
 have := hd t (by rw [hT]; simp only [Z0P, Z16, List.mem_append]; exact .inr (.inr (.inl (by rw [h1]; simp)))) h4
 rw [h3] at this
 cases this
theorem Inv.deadAt {ps : List Page} {nx : Int} {es : List Entry} {T : List (List Cell)} (h : Inv ps nx es T) {l : Int} {n : Node} (hm : (l, n) ∈ flat T) (hd : n.dead = true) : Z9A l T := fun c hc hl => by
 rw [Z81 h.tree.nodup hc hm hl]
 exact hd
theorem Inv.unlinked {ps : List Page} {nx : Int} {es : List Entry} {T T' pre : List (List Cell)} {A R : List Cell} {l k q : Int} {n n' m : Node} (h : Inv ps nx es T) (hT : T = pre ++ [A ++ ((l, n) :: (k, m) :: R)]) (hn : n.dead = false) (hT' : T' = pre ++ [A ++ ((l, n') :: R)]) (hd : Z9A q T) :
 Z9A q T' ∧ (k = q → ∀ c ∈ flat T', c.1 ≠ q) := by
 have f1 : flat T = (flat pre ++ (A ++ [(l, n)])) ++ (k, m) :: R := by rw [hT]; simp [flat]
 have f2 : flat T' = (flat pre ++ A) ++ (l, n') :: R := by rw [hT']; simp [flat]
 have hnd := h.tree.nodup
 unfold lines at hnd
 rw [f1] at hnd
 have hleft : ∀ c, c ∈ flat pre ++ A → c ∈ flat pre ++ (A ++ [(l, n)]) := fun c hc => by
  simp only [List.mem_append] at hc ⊢
  rcases hc with hc | hc
  ·exact .inl hc
  ·exact .inr (.inl hc)
 constructor
 ·intro c hc hcq
  rw [f2] at hc
  rcases List.mem_append.1 hc with hc | hc
  ·exact hd c (by rw [f1]; exact List.mem_append.2 (.inl (hleft c hc))) hcq
  ·rcases List.mem_cons.1 hc with rfl | hc
   ·have : n.dead = true := hd (l, n) (by rw [f1]; simp) hcq
    rw [hn] at this
    cases this
   ·exact hd c (by rw [f1]; simp [hc]) hcq
 ·rintro rfl c hc hck
  rw [f2] at hc
  rw [List.map_append, List.map_cons] at hnd
  obtain ⟨_, n2, n3⟩ := List.nodup_append.1 hnd
  rw [List.nodup_cons] at n2
  rcases List.mem_append.1 hc with hc | hc
  ·exact n3 c.1 (List.mem_map.2 ⟨c, hleft c hc, rfl⟩) k (by simp) hck
  ·rcases List.mem_cons.1 hc with rfl | hc
   ·exact n3 l (List.mem_map.2 ⟨(l, n), by simp, rfl⟩) k (by simp) hck
   ·exact n2.1 (List.mem_map.2 ⟨c, hc, hck⟩)
theorem Inv.removeHead {ps : List Page} {nx : Int} {es : List Entry} {T : List (List Cell)} (h : Inv ps nx es T) (hnx : nx < 256) {pre : List (List Cell)} {A R : List Cell} {l : Int} {n : Node} {e : Entry} {rest : List Entry} (hT : T = pre ++ [A ++ (l, n) :: R]) (hd : n.dead = false) (he : n.entries = e :: rest) :
 1 ≤ e.key ∧ e.key ≤ Z0e ∧ Z0T es e.key = true ∧ ∃ o ws, next (Z2X e.key) ps = ⟨[], ws, o, true⟩ ∧ Commits ps ws ∧ Inv (Z0J ps ws) nx (Z0B es (child es e.key)) (pre ++ [A ++ (l, { n with entries := rest }) :: R]) ∧ o.code = 0 ∧ o.done = true ∧ o.to = (es.getD (child es e.key) default).to := by
 have hlv : Level ((([] : List (List Cell)).length : Nat) : Int) (A ++ (l, n) :: R) := Tree.level (pre := pre) (hT ▸ h.tree)
 have hr := Rise.append.1 hlv.rise
 have hr2 := hr.2
 simp only [Rise] at hr2
 rw [if_neg (by rw [hd]; simp)] at hr2
 have hv := Node.valid_parts (n := n) (hlv.valid (l, n) (by simp))
 have hme : e ∈ n.entries := by rw [he]; simp
 have hlow : Z05 0 A < e.key := hr2.2.1 e hme
 have h0 : 0 ≤ Z05 0 A := hr.1.low.1
 have hle := Z2j hv.2.2.2.1 e hme
 have hhi : e.key ≤ n.high := by have := hv.2.2.2.2.2.2.2.1; omega
 have hmax : e.key ≤ Z0e := by
  have := hv.2.2.2.2.2.2.2.2.2.2 (by have := hlv.level (l, n) (by simp); simpa using this)
  omega
 have hTne : T ≠ [] := by rw [hT]; simp
 obtain ⟨pre', A', l', n', R', hs, i1, i3, i3b, i4, i5, i5b, i6, i6b, i6c, i7, i8, i9, i10, i11, i12, i13⟩ := h.leaf hTne (k := e.key) (by omega) (by unfold Z0e at hmax; unfold Z08; omega)
 obtain ⟨rfl, rfl, hc, rfl⟩ := h.place hT i1 hlow i3 hd hhi i4 i5
 obtain ⟨rfl, rfl⟩ := Prod.mk.inj hc
 have hq := Z37 (m := n.entries) i10 i11
 have hchild : child n.entries e.key = 0 := by rw [he]; simp [child]
 have hkey : Z0T n.entries e.key = true := by unfold Z0T; rw [hchild, he]; simp
 have hth : Z0T es e.key = true := by rw [i9, hq.2.1]; exact hkey
 obtain ⟨o, ws, T', ho, hcm, hinv, hkp, hoc, hod, hot, pre2, A2, l2, n2, R2, r1, r2, r3, rT, rT', r4⟩ := h.removeThere hnx (op := Z2X e.key) rfl rfl (by show 1 ≤ e.key; omega) hmax hth
 obtain ⟨rfl, rfl, hc, rfl⟩ := h.place hT rT hlow r1 hd hhi r3 r2
 obtain ⟨rfl, rfl⟩ := Prod.mk.inj hc
 have hdel : Z0B n.entries (child n.entries e.key) = rest := by rw [hchild, he]; rfl
 have hdel2 : Z0B n.entries (child n.entries (Z2X e.key).key) = rest := hdel
 rw [rT', hdel2] at hinv
 exact ⟨by omega, hmax, hth, o, ws, ho, hcm, hinv, hoc, hod, hot⟩
end Bt
theorem Zc5 {k : Int} (h1 : 1 ≤ k) (h2 : k ≤ 40) : keyOf (k - 1) = k := by
 have e1 : pick (k - 1) 50 = (k - 1) % 50 := rfl
 have e2 : pick (k - 1) 40 = (k - 1) % 40 := rfl
 unfold keyOf
 rw [e1, e2, if_neg (by omega)]
 omega
structure TrAt (x P cap G : Nat) (w5 wr : World) (ps : List Bt.Page) (nx : Int) (es : List Bt.Entry) (T : List (List Bt.Cell)) : Prop where
 inv : Bt.Inv ps nx es T
 ix : IxG x P cap G ps nx (keysOf es) (tosOf es) wr
 over : OverTwo x P w5 wr
def Zcm (x P cap G : Nat) (w5 : World) (ps : List Bt.Page) (nx : Int) (es : List Bt.Entry) (T : List (List Bt.Cell)) (o : Bt.Out) (wx : World) (e : Ending) (w' : World) : Prop :=
 ∃ ve vc, e = .returned (.tuple #[.agg (Z0n o ve vc), .bool true]) ∧ TrAt x P cap G w5 w' ps nx es T ∧ OverTwo x P wx w' ∧ w'.ownsRow wx.heap.size 69 3 ve o.entries.length (Z04 o.entries) ∧ w'.ownsRow wx.heap.size 3 1 vc o.check.length (intCells o.check)
section
variable {x P cap G : Nat} {w5 wr : World} {ps : List Bt.Page} {nx : Int} {es : List Bt.Entry} {T : List (List Bt.Cell)}
theorem TrAt.below (h : TrAt x P cap G w5 wr ps nx es T) {wx : World} (hb : Below wr.heap.size wr wx) : TrAt x P cap G w5 wx ps nx es T :=
 ⟨h.inv, h.ix.over hb, h.over.trans (.of_below hb)⟩
theorem TrAt.post (h : TrAt x P cap G w5 wr ps nx es T) {ps' : List Bt.Page} {es' : List Bt.Entry} {T' : List (List Bt.Cell)} (hi : Bt.Inv ps' nx es' T') (hes : es' = es) {wx w' : World} (hb : Below wr.heap.size wr wx) {o : Bt.Out} {e : Ending} (hp : Z2x x P cap G ps' nx (keysOf es) (tosOf es) o wx e w') : Zcm x P cap G w5 ps' nx es T' o wx e w' := by
 subst hes
 obtain ⟨ve, vc, he, hx, ho, h1, h2⟩ := hp
 exact ⟨ve, vc, he, ⟨hi, hx, (h.below hb).over.trans ho⟩, ho, h1, h2⟩
theorem TrAt.find (h : TrAt x P cap G w5 wr ps nx es T) {k : Int} (hk : 1 ≤ k) (hk2 : k ≤ Bt.Z0e) :
 ∃ o, o.code = 0 ∧ (T = [] → o.check = [96]) ∧ (T ≠ [] → ∃ pre A l n R, T = pre ++ [A ++ (l, n) :: R] ∧ Bt.Z05 0 A < k ∧ k ≤ n.high ∧ n.dead = false ∧ o.check = [l]) ∧
  ∀ wx, Below wr.heap.size wr wx → Calls Tryz.prog 31 #[.pointer (some ⟨x, 0, none⟩), .agg (Z0d (Z6D k) (.slice none 0 0))] wx (Zcm x P cap G w5 ps nx es T o wx) := by
 obtain ⟨o, ho, hoc, _, _, _, _, _, h1, h2⟩ := h.inv.find (op := Z6D k) rfl hk hk2
 exact ⟨o, hoc, h1, h2, fun wx hb => (Z1N h.inv _ rfl (Z8Y h.inv k hk hk2) ho (by omega) wx (h.ix.over hb)).mono fun e w' hp => h.post h.inv rfl hb hp⟩
theorem TrAt.rem (h : TrAt x P cap G w5 wr ps nx es T) (hnx : nx < 256) {pre : List (List Bt.Cell)} {A R : List Bt.Cell} {l : Int} {n : Bt.Node} {e : Bt.Entry} {rest : List Bt.Entry} (hT : T = pre ++ [A ++ (l, n) :: R]) (hd : n.dead = false) (he : n.entries = e :: rest) :
 1 ≤ e.key ∧ e.key ≤ Bt.Z0e ∧ (e.key ≤ 40 → ∃ ps' es', ∀ (i : Int) wx, Below wr.heap.size wr wx → Calls Tryz.prog 23 #[.pointer (some ⟨x, 0, none⟩), .agg #[.int .i64 6, .int .i64 (e.key - 1), .int .i64 0], .int .i64 i] wx
  (fun en w' => en = .returned (.bool true) ∧ TrAt x P cap G w5 w' ps' nx es' (pre ++ [A ++ (l, { n with entries := rest }) :: R]) ∧ OverTwo x P wx w')) := by
 obtain ⟨h1, h2, hhk, o, ws, ho, hcm, hinv, hoc, hod, hot⟩ := h.inv.removeHead hnx hT hd he
 refine ⟨h1, h2, fun h40 => ⟨Bt.Z0J ps ws, Bt.Z0B es (Bt.child es e.key), fun i wx hb => ?_⟩⟩
 have hlen := h.inv.esLen
 have hlk : (keysOf es).length ≤ 1000 := by unfold keysOf; rw [List.length_map]; omega
 have hlt : (tosOf es).length = (keysOf es).length := by unfold keysOf tosOf; simp
 have hko := Zc5 h1 h40
 have hth := Z4z es e.key
 rw [hhk] at hth
 have hot2 : o.to = (tosOf es).getD (placeOf (keysOf es) (keyOf (e.key - 1))) default := by rw [hko, Z2P, Z8C es _ (Z6a hhk)]; exact hot
 have := Z5D x P cap G ps (Bt.Z0J ps ws) nx nx (keysOf es) (tosOf es) 6 (e.key - 1) 0 i (by omega) (by unfold Bt.Z0e at h2; omega) o wx (h.ix.over hb) (.inl rfl) (by rw [hko]; exact hth) hlk hlt hoc hod hot2
  (hid (fun w2 h2 => by rw [hko]; exact Z3i h.inv (Z2X e.key) rfl (Z4W h.inv _ h1 (by assumption)) ho hcm hoc w2 h2))
 rw [hko, Z2P] at this
 have e1 : Z18 (keysOf es) (Bt.child es e.key) = keysOf (Bt.Z0B es (Bt.child es e.key)) := Z4V (·.key) es _
 have e2 : Z18 (tosOf es) (Bt.child es e.key) = tosOf (Bt.Z0B es (Bt.child es e.key)) := Z4V (·.to) es _
 rw [e1, e2] at this
 refine this.mono fun en w' hp => ?_
 obtain ⟨p1, p2, p3⟩ := hp
 exact ⟨p1, ⟨hinv, p2, (h.below hb).over.trans p3⟩, p3⟩
theorem TrAt.remAny (h : TrAt x P cap G w5 wr ps nx es T) (hnx : nx < 256) (mkey : Int) (hmy : -9223372036854775808 ≤ mkey ∧ mkey ≤ 9223372036854775807) (i : Int) (wx : World) (hb : Below wr.heap.size wr wx) :
 Calls Tryz.prog 23 #[.pointer (some ⟨x, 0, none⟩), .agg #[.int .i64 6, .int .i64 mkey, .int .i64 0], .int .i64 i] wx (fun en w' => en = .returned (.bool true) ∧ OverTwo x P wx w') := by
 have hlen := h.inv.esLen
 have hlk : (keysOf es).length ≤ 1000 := by unfold keysOf; rw [List.length_map]; omega
 have hlt : (tosOf es).length = (keysOf es).length := by unfold keysOf tosOf; simp
 obtain ⟨hk, hk2⟩ := Z3H mkey
 have hth := Z4z es (keyOf mkey)
 cases hhk : Bt.Z0T es (keyOf mkey) with
 | false =>
   rw [hhk] at hth
   obtain ⟨o, ho, hoc, hock⟩ := h.inv.removeNone (op := Z2X (keyOf mkey)) rfl hk hk2 hhk
   exact (Z75 x P cap G ps ps nx nx (keysOf es) (tosOf es) 6 mkey 0 i (by omega) hmy o wx (h.ix.over hb) (.inl rfl) hth hlk hoc hock (hid (fun w2 h2 => Z1N h.inv (Z2X (keyOf mkey)) rfl (Z4W h.inv _ hk hk2) ho (by omega) w2 h2))).mono fun en w' hp => ⟨hp.1, hp.2.2⟩
 | true =>
   rw [hhk] at hth
   obtain ⟨o, ws, T', ho, hcm, hinv, _, hoc, hod, hot, _⟩ := h.inv.removeThere hnx (op := Z2X (keyOf mkey)) rfl rfl hk hk2 hhk
   have hot2 : o.to = (tosOf es).getD (placeOf (keysOf es) (keyOf mkey)) default := by rw [Z2P, Z8C es _ (Z6a hhk)]; exact hot
   exact (Z5D x P cap G ps _ nx nx (keysOf es) (tosOf es) 6 mkey 0 i (by omega) hmy o wx (h.ix.over hb) (.inl rfl) hth hlk hlt hoc hod hot2 (hid (fun w2 h2 => Z3i h.inv (Z2X (keyOf mkey)) rfl (Z4W h.inv _ hk hk2) ho hcm hoc w2 h2))).mono fun en w' hp => ⟨hp.1, hp.2.2⟩
theorem TrAt.kill (h : TrAt x P cap G w5 wr ps nx es T) {k : Int} (hk : 1 ≤ k) (hk2 : k ≤ Bt.Z0e) {pre : List (List Bt.Cell)} {A R : List Bt.Cell} {l : Int} {n : Bt.Node} (hT : T = pre ++ [A ++ (l, n) :: R]) (hlow : Bt.Z05 0 A < k) (hhi : k ≤ n.high) (hd : n.dead = false) :
 ∃ o ps' T', (o.done = false ∧ (o.code = 16 ∨ o.code = 7 ∨ (o.code = 0 ∧ o.found = true)) ∨ (o.done = true ∧ o.code = 0 ∧ Bt.Z9A l T' ∧ T' ≠ [])) ∧
  ∀ wx, Below wr.heap.size wr wx → Calls Tryz.prog 31 #[.pointer (some ⟨x, 0, none⟩), .agg (Z0d (Z85 k) (.slice none 0 0))] wx (Zcm x P cap G w5 ps' nx es T' o wx) := by
 have HS := Z9C h.inv k hk hk2
 rcases h.inv.kill (op := Z85 k) rfl hk hk2 with ⟨o, ho, hoc⟩ | ⟨o, ws, T', ho, hcm, hinv, hkp, hoc, hod, hof, pre', U, V, A', R', lp, l', p, n', es1, es2, e, f, hT2, q1, q2, q3, q4, q5, q6, q7, hT'⟩
 ·refine ⟨o, ps, T, .inl ?_, fun wx hb => (Z1N h.inv _ rfl HS ho (by omega) wx (h.ix.over hb)).mono fun e w' hp => h.post h.inv rfl hb hp⟩
  rcases hoc with ⟨hoc, hod⟩ | ⟨hoc, hod⟩ | ⟨hoc, hof, hod⟩
  ·exact ⟨hod, .inl hoc⟩
  ·exact ⟨hod, .inr (.inl hoc)⟩
  ·exact ⟨hod, .inr (.inr ⟨hoc, hof⟩)⟩
 ·refine ⟨o, _, T', .inr ⟨hod, hoc, ?_, by rw [hT']; simp⟩, fun wx hb => (Z3i h.inv _ rfl HS ho hcm hoc wx (h.ix.over hb)).mono fun e w' hp => h.post hinv rfl hb hp⟩
  have hT3 : T = (pre' ++ [U ++ (lp, p) :: V]) ++ [A' ++ (l', n') :: R'] := by rw [hT2]; simp
  obtain ⟨_, _, hc, _⟩ := h.inv.place hT hT3 hlow q1 hd hhi q3 q2
  obtain ⟨rfl, rfl⟩ := Prod.mk.inj hc
  exact hinv.deadAt (n := { n with dead := true }) (by rw [hT']; simp [Bt.flat]) rfl
theorem TrAt.unlink (h : TrAt x P cap G w5 wr ps nx es T) {k : Int} (hk : 1 ≤ k) (hk2 : k ≤ Bt.Z0e) {q : Int} (hd : Bt.Z9A q T) (hne : T ≠ []) :
 ∃ o ps' T', Bt.Z9A q T' ∧ T' ≠ [] ∧ (o.done = true → o.to = Bt.ptr q → ∀ c ∈ Bt.flat T', c.1 ≠ q) ∧
  ∀ wx, Below wr.heap.size wr wx → Calls Tryz.prog 31 #[.pointer (some ⟨x, 0, none⟩), .agg (Z0d (Z5y k) (.slice none 0 0))] wx (Zcm x P cap G w5 ps' nx es T' o wx) := by
 have HS := Z83 h.inv k hk hk2
 rcases h.inv.unlink (op := Z5y k) rfl hk hk2 with ⟨o, ho, hoc, _⟩ | ⟨o, ws, T', ho, hcm, hinv, hkp, hoc, hod, hof, pre, A, R, l, k', n, m, hT, q1, q2, q3, q4, hT', hot⟩
 ·exact ⟨o, ps, T, hd, hne, fun h1 => by rcases hoc with ⟨_, h2⟩ | ⟨_, _, h2⟩ <;> (rw [h2] at h1; cases h1), fun wx hb => (Z1N h.inv _ rfl HS ho (by omega) wx (h.ix.over hb)).mono fun e w' hp => h.post h.inv rfl hb hp⟩
 ·obtain ⟨u1, u2⟩ := h.inv.unlinked hT q3 hT' hd
  refine ⟨o, _, T', u1, by rw [hT']; simp, fun _ h2 => u2 ?_, fun wx hb => (Z3i h.inv _ rfl HS ho hcm hoc wx (h.ix.over hb)).mono fun e w' hp => h.post hinv rfl hb hp⟩
  rw [hot] at h2
  exact congrArg Bt.Ptr.line h2
end
theorem MvRow.below {w w' : World} {p : Option Addr} {ms : List Mv} (h : MvRow w p ms) (hb : Below w.heap.size w w') : MvRow w' p ms := by
 refine ⟨h.rng, ?_⟩
 rcases h.form with h1 | ⟨b, o, hp, hlt, hc⟩
 ·exact .inl h1
 ·exact .inr ⟨b, o, hp, Nat.lt_of_lt_of_le hlt hb.size, fun i m hi => by
    obtain ⟨h1, h2, h3⟩ := hc i m hi
    exact ⟨(hb.cell (p := ⟨b, o + i * 3, none⟩) hlt).trans h1, (hb.cell (p := ⟨b, o + i * 3 + 1, none⟩) hlt).trans h2, (hb.cell (p := ⟨b, o + i * 3 + 2, none⟩) hlt).trans h3⟩⟩
def ZbK (x P cap n : Nat) (w0 : World) (i : Value) (wr : World) : Prop :=
 ∃ k : Nat, k ≤ n ∧ i = .int .i64 k ∧ Hid (∃ ps nx es T, PlayAt x P cap k w0 wr ps nx es T)
def ZbJ (n : Nat) (w : World) (e : Ending) (w' : World) : Prop :=
 ∃ x P cap ps nx es T, e = .returned (.pointer (some ⟨x, 0, none⟩)) ∧ PlayAt x P cap n w w' ps nx es T
theorem Z8P (pl : Option Addr) (cl : Nat) (ms : List Mv) (w : World) (hn : NoneAt w) (hl : MvRow w pl ms) (hm70 : ms.length ≤ 70) :
 Calls Tryz.prog 26 #[.slice pl ms.length cl] w (ZbJ ms.length w) := by
 have HN := hid hn
 have HL := hid hl
 clear hn hl
 go_enter Tryz.func26, Tryz.ntmps26
 go_wp2_with fail
 go_at_call 22; refine (Z6f _).mono ?_
 rintro e0 w0 ⟨x, P, cap, rfl, hwP, hPx, hbx, hox, hb0⟩
 have hgl := HN.out.lt
 have HP0 : Hid (∃ ps nx es T, PlayAt x P cap 0 w w0 ps nx es T) := hid ⟨pg0, 105, [], [], Bt.Inv.start, ⟨0, 0, Nat.le_refl _, Bt.Cnt.start⟩, IxG.start hbx hox hPx (by omega) (HN.out.below hb0), qL, by omega⟩
 clear hbx hox hb0 hgl
 go_wp2_with fail
 go_loopw [4] (fun i wr => ZbK x P cap ms.length w i wr) (fun i _ => ((ms.length : Int) - intOf i).toNat)
 case atStart => exact ⟨0, Nat.zero_le _, rfl, HP0⟩
 case round =>
  obtain ⟨k, hk, rfl, HQ⟩ := hrel
  clear HP0
  by_cases hk2 : k < ms.length
  ·obtain ⟨ps, nx, es, T, hs⟩ := HQ.out
   obtain ⟨ins, K, hi1, hi2⟩ := hs.cnt
   obtain ⟨m, hm⟩ : ∃ m, ms[k]? = some m := ⟨_, List.getElem?_eq_getElem hk2⟩
   obtain ⟨r1, r2, r3⟩ := HL.out.rng m (List.mem_of_getElem? hm)
   obtain ⟨ps', nx', es', T', hmv, hdo⟩ := Zcl hs.inv hi2 (by omega) (x := x) (P := P) (cap := cap) (G := k) (by omega) m.kind m.key m.level (k : Int) r1 r2 r3 ⟨by omega, by omega⟩
   have hform : ∃ b o, pl = some ⟨b, o, none⟩ ∧ b < w.heap.size ∧ ∀ i m, ms[i]? = some m → w.cell? ⟨b, o + i * 3, none⟩ = some (.int .i64 m.kind) ∧ w.cell? ⟨b, o + i * 3 + 1, none⟩ = some (.int .i64 m.key) ∧ w.cell? ⟨b, o + i * 3 + 2, none⟩ = some (.int .i64 m.level) := by
    rcases HL.out.form with h0 | h0
    ·rw [h0] at hk2; simp at hk2
    ·exact h0
   obtain ⟨bl, ol, rfl, hbl, hcl⟩ := hform
   obtain ⟨q0, q1, q2⟩ := hcl k m hm
   have c0 : wr.cell? ⟨bl, ol + k * 3, none⟩ = some (.int .i64 m.kind) := (hs.below.cell (p := ⟨bl, ol + k * 3, none⟩) hbl).trans q0
   have c1 : wr.cell? ⟨bl, ol + k * 3 + 1, none⟩ = some (.int .i64 m.key) := (hs.below.cell (p := ⟨bl, ol + k * 3 + 1, none⟩) hbl).trans q1
   have c2 : wr.cell? ⟨bl, ol + k * 3 + 2, none⟩ = some (.int .i64 m.level) := (hs.below.cell (p := ⟨bl, ol + k * 3 + 2, none⟩) hbl).trans q2
   have HDO := hid hdo
   have HS := hid hs
   have HMV := hid hmv
   have HPL := hid (hmv.len hs.inv)
   have hMs : w.heap.size ≤ wr.heap.size := hs.below.size
   have hMP : w.heap.size ≤ P := hs.low
   have kx0 : wr.cell? ⟨x, 0, none⟩ = some (.slice (some ⟨P, 0, none⟩) ps.length cap) := by obtain ⟨_, _, _, ho, _⟩ := hs.ix; exact ho.blk.cell 0
   have hxw : x < wr.heap.size := by obtain ⟨_, _, _, ho, _⟩ := hs.ix; exact ho.blk.lt
   have bk : decide ((k : Int) < ms.length) = true := by simp; omega
   have bk0 : (0 : Int) ≤ k := by omega
   have bk1 : (k : Int) < ms.length := by omega
   have wk1 : IntKind.i64.wrap ((k : Int) + 1) = (k : Int) + 1 := by rw [IntKind.wrap_i64]; omega
   clear hs hdo hmv hcl q0 q1 q2 hm hi1 hi2 r1 r2 r3
   go_wp2_with fail
   go_at_call 23; refine (HDO.out _ (HS.out.ix.over qL)).mono ?_
   rintro e2 w2 ⟨rfl, hix2, hf2⟩
   have HIX2 := hid hix2
   have HF2 := hid ((FrameP.of_below (show Below wr.heap.size wr _ from qL)).trans hf2)
   clear hix2 hf2
   go_wp2_with fail
   refine ⟨⟨k + 1, by omega, by rw [show ((k : Int) + 1) = ((k + 1 : Nat) : Int) by omega], hid ⟨ps', nx', es', T', (HS.out.moved HMV.out HIX2.out HF2.out).over qL⟩⟩, by simp [intOf]; omega⟩
  ·have bk : decide ((k : Int) < ms.length) = false := by simp; omega
   have hkl : k = ms.length := by omega
   have HS := hid (hkl ▸ HQ.out)
   clear hkl HQ
   go_wp2_with fail
   refine bodyPost_ret (results_tmp rfl _ _ _) rfl ?_
   obtain ⟨ps, nx, es, T, hs⟩ := HS.out
   exact ⟨x, P, cap, ps, nx, es, T, rfl, hs.over qL⟩
theorem Z6B : ∀ {T : List (List Bt.Cell)}, Bt.Levels T → T.length ≤ (Bt.flat T).length
 | [], _ => Nat.zero_le _
 | c :: t, h => by
   have h1 := Z6B h.2
   have h2 := List.length_pos_iff.2 h.1.ne
   rw [Bt.Z16, List.length_append, List.length_cons]
   omega
def Z9y (T : List (List Bt.Cell)) (w5 : World) (p4 : Nat) (i : Value) (wr : World) : Prop :=
 ∃ pre post, T = pre ++ post ∧ i = .int .i64 ((post.length : Int) - 1) ∧ Hid ((∀ lv t, post = lv :: t → Blk wr p4 27 (Bt.Z14 lv Bt.nilP).cells) ∧ Below w5.heap.size w5 wr)
end Go.Proofs.YtjmpekanlmepmaaGreatDoor
