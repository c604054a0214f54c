/- For every list of moves: once every missing separator has been posted no search moves to the right, except over dead leaves, and every lookup is right; no condition beside what the card lists. -/
import Derived.Test.YtjmpekanlmepmaaGreatDoorUP01
import Derived.BigQuiet
import Derived.Test.YtjmpekanlmepmaaGreatDoorB46
import Derived.Test.YtjmpekanlmepmaaGreatDoorB45
set_option linter.all false
namespace Go.Proofs.YtjmpekanlmepmaaGreatDoor
open Go.RowKit
def Single (T : List (List Bt.Cell)) : Prop := ∀ c r t, T = (c :: r) :: t → r = []
def Checked (pre post : List (List Bt.Cell)) : Prop := ∀ a up lo b, pre ++ post = a ++ up :: lo :: b → a.length < pre.length → ∀ e ∈ Bt.ents up, Bt.PostedAt lo e
theorem Checked.posted {pre : List (List Bt.Cell)} {lv : List Bt.Cell} (h : Checked pre [lv]) : Bt.Posted (pre ++ [lv]) :=
 Bt.posted_of (fun a up lo b hT => h a up lo b hT (by have := congrArg List.length hT; simp at this; omega))
theorem Checked.next {pre t : List (List Bt.Cell)} {lv lo : List Bt.Cell} (h : Checked pre (lv :: lo :: t)) (hp : ∀ e ∈ Bt.ents lv, Bt.PostedAt lo e) : Checked (pre ++ [lv]) (lo :: t) := fun a up lo' b hT hl => by
 rw [List.append_assoc] at hT
 by_cases h1 : a.length < pre.length
 · exact h a up lo' b hT h1
 · have h2 : a.length = pre.length := by simp at hl; omega
   have h3 := List.append_inj hT h2.symm
   simp only [List.singleton_append, List.cons.injEq] at h3
   obtain ⟨_, rfl, rfl, _⟩ := h3
   exact hp
theorem rootPtr_head (lv : List Bt.Cell) (t : List (List Bt.Cell)) : Bt.rootPtr (lv :: t) = Bt.headPtr lv Bt.nilP := by cases lv <;> rfl
def nat01 (d : Bool) : Nat := if d then 1 else 0
section
variable (x P cap n : Nat) (vk vt vg : Value) (Z : Prop) (es : List Bt.Entry) (w5 : World)
def FinOuter (i : Value) (wr : World) : Prop := ∃ r : Nat, i = .int .i64 r ∧ Hid (∃ ps nx T, FinAt x P cap n vk vt vg Z es w5 wr ps nx T ∧ r ≤ Bt.inner T)
def FinLev (r p7 : Nat) (did lev : Value) (wr : World) : Prop := ∃ d pre post, did = .bool d ∧ lev = .int .i64 ((post.length : Int) - 1) ∧ post ≠ [] ∧ Hid (∃ ps nx T, FinAt x P cap n vk vt vg Z es w5 wr ps nx T ∧ T = pre ++ post ∧ r + nat01 d ≤ Bt.inner T ∧ Blk wr p7 27 (Bt.rootPtr post).cells ∧ (d = false → Single T ∧ Checked pre post))
structure FinIn (r p7 : Nat) (pre t : List (List Bt.Cell)) (lv0 lo : List Bt.Cell) (us : List Value) (vn : Value) (wl : World) (done : List Bt.Entry) (d : Bool) (wr : World) (ps : List Bt.Page) (nx : Int) (up : List Bt.Cell) : Prop where
 fin : FinAt x P cap n vk vt vg Z es w5 wr ps nx (pre ++ up :: lo :: t)
 head : Bt.headPtr up Bt.nilP = Bt.headPtr lv0 Bt.nilP
 cnt : r + nat01 d ≤ Bt.inner (pre ++ up :: lo :: t)
 blk : Blk wr p7 27 (Bt.headPtr lv0 Bt.nilP).cells
 nodes : NodesAt wl.heap.size vn lv0 us wr
 size : wl.heap.size ≤ wr.heap.size
 quiet : d = false → up = lv0 ∧ Single (pre ++ lv0 :: lo :: t) ∧ Checked pre (lv0 :: lo :: t) ∧ ∀ e ∈ done, Bt.PostedAt lo e
def FinI (r p7 : Nat) (pre t : List (List Bt.Cell)) (lv0 lo : List Bt.Cell) (us : List Value) (vn : Value) (wl : World) (did i : Value) (wr : World) : Prop :=
 ∃ (d : Bool) (k : Nat), did = .bool d ∧ i = .int .i64 k ∧ k ≤ lv0.length ∧ Hid (∃ ps nx up, FinIn x P cap n vk vt vg Z es w5 r p7 pre t lv0 lo us vn wl (Bt.ents (lv0.take k)) d wr ps nx up)
def FinK (r p7 : Nat) (pre t : List (List Bt.Cell)) (lv0 lo A : List Bt.Cell) (us : List Value) (vn : Value) (wl : World) (m : Bt.Node) (did i : Value) (wr : World) : Prop :=
 ∃ (d : Bool) (k : Nat), did = .bool d ∧ i = .int .i64 k ∧ k ≤ m.entries.length ∧ Hid (∃ ps nx up, FinIn x P cap n vk vt vg Z es w5 r p7 pre t lv0 lo us vn wl (Bt.ents A ++ m.entries.take k) d wr ps nx up)
def FinEnd (w : World) (e : Ending) (w' : World) : Prop :=
 e = .returned (.bool true) ∧ OverTwo x P w w' ∧ ∃ ps nx T, FinAt x P cap n vk vt vg Z es w5 w' ps nx T ∧ Bt.Posted T ∧ Single T
end
section
variable {x P cap n : Nat} {vk vt vg : Value} {Z : Prop} {es : List Bt.Entry} {w5 : World} {r p7 : Nat} {pre t : List (List Bt.Cell)} {lv0 lo : List Bt.Cell} {us : List Value} {vn : Value} {wl : World} {done : List Bt.Entry} {d : Bool} {wr : World} {ps : List Bt.Page} {nx : Int} {up : List Bt.Cell}
theorem FinIn.below (h : FinIn x P cap n vk vt vg Z es w5 r p7 pre t lv0 lo us vn wl done d wr ps nx up) {wx : World} (hb : Below wr.heap.size wr wx) : FinIn x P cap n vk vt vg Z es w5 r p7 pre t lv0 lo us vn wl done d wx ps nx up :=
 ⟨h.fin.below hb, h.head, h.cnt, h.blk.kept hb, h.nodes.below hb, Nat.le_trans h.size hb.size, h.quiet⟩
theorem FinIn.post (h : FinIn x P cap n vk vt vg Z es w5 r p7 pre t lv0 lo us vn wl done d wr ps nx up) {w8 : World} {ps' : List Bt.Page} {nx' : Int} {up' : List Bt.Cell} {o : Bt.Out} {e : Bt.Entry} (hhd : Bt.headPtr up' Bt.nilP = Bt.headPtr up Bt.nilP)
 (hcase : (o.done = false ∧ up' = up ∧ ∀ e' ∈ Bt.ents up, e'.key = e.key → Bt.PostedAt lo e') ∨ (o.done = true ∧ Bt.inner (pre ++ up :: lo :: t) < Bt.inner (pre ++ up' :: lo :: t)))
 (hf : FinAt x P cap n vk vt vg Z es w5 w8 ps' nx' (pre ++ up' :: lo :: t)) (ho : OverTwo x P wr w8) (hx : x < wl.heap.size) (hP : P < wl.heap.size) (hx7 : x < p7) (hP7 : P < p7) (he : e ∈ Bt.ents lv0) :
 FinIn x P cap n vk vt vg Z es w5 r p7 pre t lv0 lo us vn wl (done ++ [e]) (d || o.done) w8 ps' nx' up' := by
 refine ⟨hf, hhd.trans h.head, ?_, (ho.block p7 h.blk.lt (by omega) (by omega)).trans h.blk, h.nodes.two ho hx hP, Nat.le_trans h.size ho.size, fun hd => ?_⟩
 · have h1 := h.cnt
   rcases hcase with ⟨hd, rfl, _⟩ | ⟨hd, hlt⟩
   · rw [hd, Bool.or_false]; exact h1
   · rw [hd, Bool.or_true]
     unfold nat01 at h1 ⊢
     cases d <;> simp at h1 ⊢ <;> omega
 · obtain ⟨hd1, hd2⟩ := Bool.or_eq_false_iff.1 hd
   obtain ⟨q1, q2, q3, q4⟩ := h.quiet hd1
   rcases hcase with ⟨_, hup, hat⟩ | ⟨h0, _⟩
   · refine ⟨hup.trans q1, q2, q3, fun e' he' => ?_⟩
     rcases List.mem_append.1 he' with h1 | h1
     · exact q4 e' h1
     · obtain rfl := List.mem_singleton.1 h1
       exact hat e' (by rw [q1]; exact he) rfl
   · rw [hd2] at h0; cases h0
end
set_option maxRecDepth 10000 in
set_option maxHeartbeats 8000000 in
theorem finish_any (x P cap n : Nat) (vk vt vg : Value) (Z : Prop) (es : List Bt.Entry) (w5 : World) (hB : FinBase x P n vk vt vg es w5) (hn : n ≤ 76) (ps : List Bt.Page) (nx : Int) (T : List (List Bt.Cell)) (h : FinAt x P cap n vk vt vg Z es w5 w5 ps nx T) :
 Calls Tryz.prog 30 #[.pointer (some ⟨x, 0, none⟩)] w5 (FinEnd x P cap n vk vt vg Z es w5 w5) := by
 have HB := Lib.hid hB
 have HP0 : Hid (∃ ps nx T, FinAt x P cap n vk vt vg Z es w5 w5 ps nx T ∧ 0 ≤ Bt.inner T) := Lib.hid ⟨ps, nx, T, h, Nat.zero_le _⟩
 have hPx := hB.hPx
 have hxl := hB.lt
 have eq := eql_ptr
 have ne := neq_ptr
 clear hB h
 go_enter Tryz.func30, Tryz.ntmps30
 go_wp2_with fail
 go_loopw [3] (fun i wr => FinOuter x P cap n vk vt vg Z es w5 i wr) (fun i _ => (400 - intOf i).toNat)
 case atStart => exact ⟨0, rfl, HP0⟩
 case round =>
  obtain ⟨r, rfl, HQ⟩ := hrel
  clear HP0
  obtain ⟨ps, nx, T, hf, hr⟩ := HQ.out
  have hr151 : r ≤ 151 := by have := hf.inner_le; omega
  obtain ⟨o, ps1, nx1, T1, hcase, hcall⟩ := FinAt.raise HB.out hf hn
  have HF := Lib.hid hf
  have HC := Lib.hid hcall
  have br : decide ((r : Int) < 400) = true := by simp; omega
  have br2 : decide (r < 400) = true := by simp; omega
  have wr1 : IntKind.i64.wrap ((r : Int) + 1) = (r : Int) + 1 := by rw [IntKind.wrap_i64]; omega
  have hxr : x < wr.heap.size := hf.blk.lt
  have hw5r : w5.heap.size ≤ wr.heap.size := hf.over.size
  clear hf hcall HQ
  unfold raiseOp opCells Bt.nilP at HC
  go_wp2_with fail
  go_at_call 31; refine (HC.out _ qL).mono ?_
  rintro e1 w1 ⟨ve, vc, rfl, hf1, ho1, hve, hvc⟩
  have hse := qSt hve
  have hsc := qSt hvc
  have HF1 := Lib.hid hf1
  have hw1 : wr.heap.size ≤ w1.heap.size := ho1.size
  clear hf1 ho1 hve hvc
  simp only [outCells]
  rcases hcase with ⟨hT, hT1, hoc⟩ | hcase
  · have b0 : (o.code == 0) = false := by simp [hoc]
    have b16 : (o.code == 16) = true := by simp [hoc]
    clear hoc
    go_wp2_with fail
    refine bodyPost_ret (results_tmp rfl _ _ _) rfl ⟨rfl, ?_, ps1, nx1, T1, HF1.out.below qL, by rw [hT1]; trivial, fun c r t h => by rw [hT1] at h; cases h⟩
    exact (HF1.out.below qL).over
  · have hoc : o.code = 0 := by rcases hcase with h | h <;> exact h.1
    obtain ⟨oc, of_, od, os, ou, oa, om, oto, oen, och, oh, ofr, ohh⟩ := o
    dsimp only at hoc hcase ⊢
    subst hoc
    have HCS : Hid (T1 ≠ [] ∧ r + nat01 od ≤ Bt.inner T1 ∧ (od = false → Single T1)) := Lib.hid (by
     rcases hcase with ⟨_, hd, h1, c, t, h2⟩ | ⟨_, hd, h1, h2⟩
     · rw [h1, hd]
       exact ⟨by rw [h2]; simp, hr, fun _ c' r' t' h => by rw [h2] at h; simp only [List.cons.injEq] at h; exact h.1.2.symm⟩
     · rw [hd]
       exact ⟨h1, by show r + 1 ≤ _; omega, fun h => by cases h⟩)
    clear hcase
    have hpl := HF1.out.inv.ix.len
    obtain ⟨R, hR⟩ : ∃ R, RootAt P T1 R w1 := ⟨_, HF1.out.root⟩
    have HR := Lib.hid hR
    obtain ⟨r0, r1, r2, r3, r4, r5, r6, r7, r8⟩ := hR.nine
    have kx0 : w1.cell? ⟨x, 0, none⟩ = some (.slice (some ⟨P, 0, none⟩) ps1.length cap) := HF1.out.blk.cell 0
    rw [hpl] at kx0
    have hx1 : x < w1.heap.size := HF1.out.blk.lt
    have hP1 : P < w1.heap.size := HF1.out.pg.lt
    clear hpl hR
    go_wp2_with fail
    go_at_call 15; refine (ReadRoot_any R HR.out.ok HR.out.line _ ?hng).mono ?_
    case hng => exact (FinAt.ok HB.out HF1.out).none.below qL
    rintro e6 w6 ⟨he6, hb6⟩
    rw [HR.out.reads] at he6
    obtain ⟨c0, t0, hT1⟩ : ∃ c t, T1 = c :: t := by
     cases T1 with
     | nil => exact absurd rfl HCS.out.1
     | cons c t => exact ⟨c, t, rfl⟩
    obtain ⟨l0, n0, rr, hc0⟩ : ∃ l n r, c0 = (l, n) :: r := by
     have := HF1.out.inv.tree.levels
     rw [hT1] at this
     cases c0 with
     | nil => exact absurd rfl this.1.ne
     | cons c r => exact ⟨c.1, c.2, r, rfl⟩
    have hrp : Bt.rootPtr T1 = Bt.ptr l0 := by rw [hT1, hc0]; rfl
    have hlt : ((T1.length - 1 : Nat) : Int) = (t0.length : Int) := by rw [hT1]; simp
    rw [hrp, hlt] at he6
    obtain rfl := he6
    ((obtain ⟨hc6, hf6, hs6⟩ := qR hb6); (try have := qN0 w1 w6); (try have := qN1 w1 w6))
    simp only [Bt.ptr, Bt.Ptr.cells]
    have HF6 : Hid (FinAt x P cap n vk vt vg Z es w5 w6 ps1 nx1 T1) := Lib.hid (HF1.out.below qL)
    have hw6 : wr.heap.size ≤ w6.heap.size := by omega
    have HRT := Lib.hid hrp
    have HLT := Lib.hid hlt
    clear hrp hlt hT1 hc0 hb6 hc6 hf6 r0 r1 r2 r3 r4 r5 r6 r7 r8 kx0
    go_wp2_with fail
    go_loopw [6, 8] (fun did lev wy => FinLev x P cap n vk vt vg Z es w5 r w6.heap.size did lev wy) (fun _ lev _ => (intOf lev + 1).toNat)
    case atStart =>
     refine ⟨od, [], T1, rfl, by rw [← HLT.out]; have := List.length_pos_iff.2 HCS.out.1; congr 1; omega, HCS.out.1, Lib.hid ⟨ps1, nx1, T1, HF6.out.below qL, rfl, HCS.out.2.1, ?_, fun hd => ⟨HCS.out.2.2 hd, fun a up lo b _ h => by simp at h⟩⟩⟩
     rw [HRT.out]
     exact Blk.made _ _ _
    case round =>
     obtain ⟨d, pre, post, rfl, rfl, hpne, HQ2⟩ := hrel
     rename World => wy
     cases post with
     | nil => exact absurd rfl hpne
     | cons lv0 post =>
       obtain ⟨ps2, nx2, T2, hf2, hT2, hr2, hbp2, hq2⟩ := HQ2.out
       have HF2 := Lib.hid hf2
       have HQT := Lib.hid hq2
       have HR2 := Lib.hid hr2
       rw [rootPtr_head] at hbp2
       have HBP := Lib.hid hbp2
       have hlv : Bt.Level ((post.length : Nat) : Int) lv0 := Bt.Tree.level (pre := pre) (hT2 ▸ hf2.inv.tree)
       have HLV := Lib.hid hlv
       obtain ⟨lh, nh, lvr, hlh⟩ : ∃ lh nh lvr, lv0 = (lh, nh) :: lvr := by
        cases lv0 with
        | nil => exact absurd rfl hlv.ne
        | cons c r => exact ⟨c.1, c.2, r, rfl⟩
       have hwy : w6.heap.size < wy.heap.size := hbp2.lt
       simp only [List.length_cons]
       rw [show (((post.length + 1 : Nat) : Int) - 1) = (post.length : Int) by omega]
       cases post with
       | nil =>
         clear hf2 hq2 hr2 hbp2 hlv
         cases d with
         | false =>
           go_wp2_with fail
           refine bodyPost_ret (results_tmp rfl _ _ _) rfl ⟨rfl, ?_, ps2, nx2, T2, HF2.out.below qL, ?_, (HQT.out (by trivial)).1⟩
           · exact (HF2.out.below qL).over
           · rw [hT2]; exact (HQT.out (by trivial)).2.posted
         | true =>
           go_wp2_with fail
           refine ⟨⟨r + 1, by rw [show ((r : Int) + 1) = ((r + 1 : Nat) : Int) by omega], Lib.hid ⟨ps2, nx2, T2, HF2.out.below qL, HR2.out⟩⟩, by simp [intOf]; omega⟩
       | cons lo t =>
         have hlevs : Bt.Levels (lv0 :: lo :: t) := by have := hf2.inv.tree.levels; rw [hT2] at this; exact this.append
         have hlnk : Bt.Links (lv0 :: lo :: t) := by have := hf2.inv.tree.links; rw [hT2] at this; exact this.append
         obtain ⟨x0, r0, e0, es0, y0, r2, hlv0, hx0, hlo0, hto⟩ := Bt.Levels.first hlevs hlnk
         have hT5 : t.length + 2 ≤ 9 := by
          obtain ⟨ins, K, h1, h2, _⟩ := hf2.cnt
          have := (h2.bound hf2.inv.tree (by omega)).1
          rw [hT2] at this
          simp at this
          omega
         have hls : lv0.length ≤ 151 := by
          have := hf2.inv.small
          rw [hT2] at this
          simp only [Bt.flat_append, Bt.flat_cons, List.length_append] at this
          omega
         have hvalid := hlv.valid
         have HVA : Hid (∀ c ∈ lv0, c.2.entries.length ≤ 5 ∧ ∀ e ∈ c.2.entries, 1 ≤ e.key ∧ e.key ≤ Bt.maxHigh) := Lib.hid (fun c hc => by
          have h1 := (hf2.inv.sees c (by rw [hT2]; simp only [Bt.flat_append, Bt.flat_cons, List.mem_append]; exact .inr (.inl hc))).good
          refine ⟨(Bt.Node.valid_parts h1.valid).2.2.1, fun e he => ?_⟩
          have := h1.range.2.2 e he
          unfold Bt.maxHigh
          omega)
         have hcall := FinAt.level HB.out hf2 hT2 wy (Below.refl _ _)
         have hhc : (Bt.headPtr lv0 Bt.nilP).cells = #[.int .i64 lh, .int .i64 1] := by rw [hlh]; rfl
         rw [hhc] at hcall
         have kp : ∀ i, wy.cell? ⟨w6.heap.size, i, none⟩ = (#[.int .i64 lh, .int .i64 1] : Array Value)[i]? := by
          have := hbp2.cell
          rw [hlh] at this
          exact this
         have HHD : Hid ((Bt.headPtr lv0 Bt.nilP).cells = #[.int .i64 lh, .int .i64 1]) := Lib.hid hhc
         have hlp : 0 < lv0.length := by rw [hlh]; simp
         have bz : ((lv0.length : Int) == 0) = false := by rw [beq_eq_false_iff_ne]; omega
         have bz2 : (lv0.length == 0) = false := by rw [beq_eq_false_iff_ne]; omega
         have bl : decide ((0 : Int) < ((lo :: t).length : Int)) = true := by simp
         have HT2 := Lib.hid hT2
         have HFS := Lib.hid (⟨hlv0, hx0, hlo0, hto⟩ : lv0 = x0 :: r0 ∧ x0.2.entries = e0 :: es0 ∧ lo = y0 :: r2 ∧ e0.to = Bt.ptr y0.1)
         clear hf2 hq2 hr2 hbp2 hlv hlevs hlnk hlv0 hx0 hlo0 hto hvalid hhc hlh hT2
         go_wp2_with fail
         go_at_call 29; refine hcall.mono ?_
         rintro e7 w7 ⟨vn, vp, us, rfl, hN7, _, hb7⟩
         obtain ⟨g, cn, rfl⟩ := own_form hN7.own hlp
         have hg7 : g < w7.heap.size := (own_lt hN7.own).2
         have hgy : wy.heap.size ≤ g := (own_lt hN7.own).1
         have HI0 : Hid (∃ ps nx up, FinIn x P cap n vk vt vg Z es w5 r w6.heap.size pre t lv0 lo us (.slice (some ⟨g, 0, none⟩) lv0.length cn) wy (Bt.ents (lv0.take 0)) d w7 ps nx up) :=
          Lib.hid ⟨ps2, nx2, lv0, HT2.out ▸ HF2.out.below hb7, rfl, HT2.out ▸ HR2.out, HBP.out.kept hb7, hN7, hb7.size, fun hd => ⟨rfl, HT2.out ▸ (HQT.out hd).1, (HQT.out hd).2, fun e he => by simp [Bt.ents] at he⟩⟩
         clear hcall hN7 hb7 HQT HF2 HR2 HBP HQ2
         go_wp2_with fail
         go_loopw [6, 13] (fun did i wi => FinI x P cap n vk vt vg Z es w5 r w6.heap.size pre t lv0 lo us (.slice (some ⟨g, 0, none⟩) lv0.length cn) wy did i wi) (fun _ i _ => ((lv0.length : Int) - intOf i).toNat)
         case atStart => exact ⟨d, 0, rfl, rfl, Nat.zero_le _, HI0⟩
         case round =>
          obtain ⟨d1, i, rfl, rfl, hi, HQ3⟩ := hrel
          clear HI0
          rename World => wi
          have hwi : wy.heap.size ≤ wi.heap.size := by obtain ⟨_, _, _, hq⟩ := HQ3.out; exact hq.size
          obtain ⟨HN3, _⟩ : Hid (NodesAt wy.heap.size (.slice (some ⟨g, 0, none⟩) lv0.length cn) lv0 us wi) ∧ True := ⟨Lib.hid (by obtain ⟨_, _, _, hq⟩ := HQ3.out; exact hq.nodes), trivial⟩
          have hgi : g < wi.heap.size := (own_lt HN3.out.own).2
          by_cases hil : i < lv0.length
          · obtain ⟨l, m, hcn⟩ : ∃ l m, lv0[i] = (l, m) := ⟨_, _, rfl⟩
            have hget : lv0[i]? = some (l, m) := by rw [List.getElem?_eq_getElem hil, hcn]
            have htake : lv0.take (i + 1) = lv0.take i ++ [(l, m)] := by rw [List.take_succ_eq_append_getElem hil, hcn]
            have HTK := Lib.hid htake
            obtain ⟨A, hA⟩ : ∃ A, lv0.take i = A := ⟨_, rfl⟩
            rw [hA] at HQ3 HTK
            obtain ⟨hm5, hmk⟩ := HVA.out (l, m) (by rw [← hcn]; exact List.getElem_mem hil)
            have hm5 : m.entries.length ≤ 5 := hm5
            have HMK : Hid (∀ e ∈ m.entries, 1 ≤ e.key ∧ e.key ≤ Bt.maxHigh) := Lib.hid hmk
            have bi : decide ((i : Int) < lv0.length) = true := by simp; omega
            have bi0 : (0 : Int) ≤ i := by omega
            have bi1 : (i : Int) < lv0.length := by omega
            have wi1 : IntKind.i64.wrap ((i : Int) + 1) = (i : Int) + 1 := by rw [IntKind.wrap_i64]; omega
            have HGET := Lib.hid hget
            have HK0 : Hid (∃ ps nx up, FinIn x P cap n vk vt vg Z es w5 r w6.heap.size pre t lv0 lo us (.slice (some ⟨g, 0, none⟩) lv0.length cn) wy (Bt.ents A ++ m.entries.take 0) d1 wi ps nx up) := Lib.hid (by simpa using HQ3.out)
            clear hcn hget htake hA hmk HQ3 HN3
            go_wp2_with fail
            go_loopw [6, 14] (fun did j wj => FinK x P cap n vk vt vg Z es w5 r w6.heap.size pre t lv0 lo A us (.slice (some ⟨g, 0, none⟩) lv0.length cn) wy m did j wj) (fun _ j _ => ((m.entries.length : Int) - intOf j).toNat)
            case atStart => exact ⟨d1, 0, rfl, rfl, Nat.zero_le _, HK0⟩
            case round =>
             obtain ⟨d2, j, rfl, rfl, hj, HQ4⟩ := hrel
             clear HK0
             rename World => wj
             obtain ⟨ps4, nx4, up, hq4⟩ := HQ4.out
             have H4 := Lib.hid hq4
             have hwj : wy.heap.size ≤ wj.heap.size := hq4.size
             obtain ⟨u, hown, _, _, _, _, _, _, q6⟩ := hq4.nodes.seven HGET.out
             obtain ⟨pu, cu, rfl⟩ := own_shape hown
             have hgj : g < wj.heap.size := (own_lt hq4.nodes.own).2
             have z6 : wj.cell? ⟨g, i * 7 + 6, none⟩ = some (.slice pu m.entries.length cu) := q6
             have HOW := Lib.hid hown
             clear hq4 HQ4 hown q6
             by_cases hjl : j < m.entries.length
             · obtain ⟨e, he⟩ : ∃ e, m.entries[j] = e := ⟨_, rfl⟩
               obtain ⟨gu, cu2, hpu⟩ := own_form HOW.out (by show 0 < m.entries.length; omega)
               simp only [Value.slice.injEq, true_and] at hpu
               obtain ⟨rfl, rfl⟩ := hpu
               have hcells : ∀ q z, (entCells m.entries)[q]? = some z → wj.cell? ⟨gu, q, none⟩ = some z := own_cells HOW.out
               have hguz : gu < wj.heap.size := (own_lt HOW.out).2
               have d0 : wj.cell? ⟨gu, j * 3, none⟩ = some (.int .u32 e.key) := by rw [← he]; exact hcells _ _ (entCells_get m.entries j m.entries[j] (List.getElem?_eq_getElem hjl) 0 _ rfl)
               obtain ⟨f1, f2⟩ := HMK.out e (by rw [← he]; exact List.getElem_mem hjl)
               obtain ⟨o4, ps5, nx5, up5, hoc, hhd, hcase, hcall⟩ := FinAt.post HB.out H4.out.fin hn e.key f1 f2 rfl
               have HC4 := Lib.hid hcall
               have HCS4 := Lib.hid hcase
               have HHD4 := Lib.hid hhd
               have HEM : Hid (e ∈ Bt.ents lv0) := Lib.hid (by unfold Bt.ents; exact List.mem_flatMap.2 ⟨(l, m), List.mem_of_getElem? HGET.out, by rw [← he]; exact List.getElem_mem hjl⟩)
               have HTK4 : Hid (m.entries.take (j + 1) = m.entries.take j ++ [e]) := Lib.hid (by rw [List.take_succ_eq_append_getElem hjl, he])
               have b0 : (o4.code == 0) = true := by simp [hoc]
               have bj : decide ((j : Int) < m.entries.length) = true := by simp; omega
               have bj0 : (0 : Int) ≤ j := by omega
               have bj1 : (j : Int) < m.entries.length := by omega
               have wj1 : IntKind.i64.wrap ((j : Int) + 1) = (j : Int) + 1 := by rw [IntKind.wrap_i64]; omega
               have wt1 : IntKind.i64.wrap (((lo :: t).length : Int) - 1) = (t.length : Int) := by rw [IntKind.wrap_i64]; simp; omega
               clear hcells he f1 f2 hoc hhd hcase hcall
               unfold postOp opCells Bt.nilP at HC4
               go_wp2_with fail
               go_at_call 31; refine (HC4.out _ qL).mono ?_
               rintro e8 w8 ⟨ve4, vc4, rfl, hf8, ho8, hve4, hvc4⟩
               have hse4 := qSt hve4
               have hsc4 := qSt hvc4
               have HI8 := Lib.hid (H4.out.post HHD4.out HCS4.out hf8 ho8 (by omega) (by omega) (by omega) (by omega) HEM.out)
               have hw8 : wj.heap.size ≤ w8.heap.size := ho8.size
               clear hf8 ho8 hve4 hvc4 HC4 HCS4 HHD4
               simp only [outCells]
               cases d2 with
               | false =>
                 go_wp2_with fail
                 refine ⟨⟨_, j + 1, rfl, by rw [show ((j : Int) + 1) = ((j + 1 : Nat) : Int) by omega], hjl, Lib.hid ⟨ps5, nx5, up5, ?_⟩⟩, by simp [intOf]; omega⟩
                 rw [HTK4.out, ← List.append_assoc]
                 exact HI8.out.below qL
               | true =>
                 go_wp2_with fail
                 refine ⟨⟨_, j + 1, rfl, by rw [show ((j : Int) + 1) = ((j + 1 : Nat) : Int) by omega], hjl, Lib.hid ⟨ps5, nx5, up5, ?_⟩⟩, by simp [intOf]; omega⟩
                 rw [HTK4.out, ← List.append_assoc]
                 exact HI8.out.below qL
             · have hjm : j = m.entries.length := by omega
               have bj : decide ((j : Int) < m.entries.length) = false := by simp; omega
               go_wp2_with fail
               refine ⟨⟨d2, i + 1, rfl, by rw [show ((i : Int) + 1) = ((i + 1 : Nat) : Int) by omega], hil, Lib.hid ⟨ps4, nx4, up, ?_⟩⟩, by simp [intOf]; omega⟩
               have := H4.out
               rw [hjm, List.take_length] at this
               rw [HTK.out, Bt.ents_append, Bt.ents_cons, Bt.ents_nil, List.append_nil]
               exact this.below qL
          · have hii : i = lv0.length := by omega
            have bi : decide ((i : Int) < lv0.length) = false := by simp; omega
            obtain ⟨ps4, nx4, up, hq4⟩ := HQ3.out
            obtain ⟨hlv0, hx0, hlo0, hto⟩ := HFS.out
            obtain ⟨u, hown, _, _, _, _, _, _, q6⟩ := hq4.nodes.seven (i := 0) (c := x0) (by rw [hlv0]; rfl)
            obtain ⟨gu, cu, rfl⟩ := own_form hown (by rw [hx0]; simp)
            have z6 : wi.cell? ⟨g, 6, none⟩ = some (.slice (some ⟨gu, 0, none⟩) x0.2.entries.length cu) := by simpa using q6
            have hguq : gu < wi.heap.size := (own_lt hown).2
            have hcells : ∀ j z, (entCells x0.2.entries)[j]? = some z → wi.cell? ⟨gu, j, none⟩ = some z := own_cells hown
            have z1 : wi.cell? ⟨gu, 1, none⟩ = some (.int .i64 e0.to.line) := hcells 1 _ (by rw [hx0]; rfl)
            have z2 : wi.cell? ⟨gu, 2, none⟩ = some (.int .i64 e0.to.gen) := hcells 2 _ (by rw [hx0]; rfl)
            have hel : (0 : Int) < (x0.2.entries.length : Int) := by rw [hx0]; simp <;> omega
            have hlp2 : (0 : Int) < (lv0.length : Int) := by omega
            have H4 := Lib.hid hq4
            have hpb := hq4.blk
            rw [HHD.out] at hpb
            have HPB := Lib.hid hpb
            have kpi : ∀ q, wi.cell? ⟨w6.heap.size, q, none⟩ = (#[.int .i64 lh, .int .i64 1] : Array Value)[q]? := hpb.cell
            have hpf := hpb.free
            have hpl := hpb.lt
            have HLO : Hid ((Bt.rootPtr (lo :: t)).cells = #[.int .i64 e0.to.line, .int .i64 e0.to.gen]) := Lib.hid (by
             rw [hlo0]
             show (Bt.ptr y0.1).cells = _
             rw [← hto]; rfl)
            have wt1 : IntKind.i64.wrap (((lo :: t).length : Int) - 1) = (t.length : Int) := by rw [IntKind.wrap_i64]; simp; omega
            clear hq4 hlv0 hx0 hlo0 hto hown q6 hcells hpb HQ3
            go_wp2_with fail
            refine ⟨⟨d1, pre ++ [up], lo :: t, rfl, by simp, by simp, Lib.hid ⟨ps4, nx4, pre ++ up :: lo :: t, ?_, by simp, H4.out.cnt, ?_, fun hd => ?_⟩⟩, by simp [intOf] <;> omega⟩
            · exact ((H4.out.fin.put (by omega) (by omega) (by omega) 0 _).put (by omega) (by omega) (by omega) 1 _)
            · rw [HLO.out]
              exact Blk.all2 (x0 := .int .i64 lh) (x1 := .int .i64 1) HPB.out _ _
            · obtain ⟨q1, q2, q3, q4⟩ := H4.out.quiet hd
              rw [q1]
              refine ⟨q2, q3.next ?_⟩
              rw [hii, List.take_length] at q4
              exact q4
theorem MvRow.below {w w' : World} {p : Option Addr} {ms : List Mv} (h : MvRow w p ms) (hb : Below w.heap.size w w') : MvRow w' p ms := by
 refine ⟨h.rng, ?_⟩
 rcases h.form with h1 | ⟨b, o, hp, hlt, hc⟩
 · exact .inl h1
 · exact .inr ⟨b, o, hp, Nat.lt_of_lt_of_le hlt hb.size, fun i m hi => by
     obtain ⟨h1, h2, h3⟩ := hc i m hi
     exact ⟨(hb.cell (p := ⟨b, o + i * 3, none⟩) hlt).trans h1, (hb.cell (p := ⟨b, o + i * 3 + 1, none⟩) hlt).trans h2, (hb.cell (p := ⟨b, o + i * 3 + 2, none⟩) hlt).trans h3⟩⟩
def PlayLoop (x P cap n : Nat) (w0 : World) (i : Value) (wr : World) : Prop :=
 ∃ k : Nat, k ≤ n ∧ i = .int .i64 k ∧ Hid (∃ ps nx es T, PlayAt x P cap k w0 wr ps nx es T)
def PlayPost (n : Nat) (w : World) (e : Ending) (w' : World) : Prop :=
 ∃ x P cap ps nx es T, e = .returned (.pointer (some ⟨x, 0, none⟩)) ∧ PlayAt x P cap n w w' ps nx es T
set_option maxRecDepth 10000 in
set_option maxHeartbeats 4000000 in
theorem play_any (pl : Option Addr) (cl : Nat) (ms : List Mv) (w : World) (hn : NoneAt w) (hl : MvRow w pl ms) (hm70 : ms.length ≤ 70) :
 Calls Tryz.prog 26 #[.slice pl ms.length cl] w (PlayPost ms.length w) := by
 have HN := Lib.hid hn
 have HL := Lib.hid hl
 clear hn hl
 go_enter Tryz.func26, Tryz.ntmps26
 go_wp2_with fail
 go_at_call 22; refine (begin_any _).mono ?_
 rintro e0 w0 ⟨x, P, cap, rfl, hwP, hPx, hbx, hox, hb0⟩
 have hgl := HN.out.lt
 have HP0 : Hid (∃ ps nx es T, PlayAt x P cap 0 w w0 ps nx es T) := Lib.hid ⟨pg0, 105, [], [], Bt.Inv.start, ⟨0, 0, Nat.le_refl _, Bt.Cnt.start⟩, IxG.start hbx hox hPx (by omega) (HN.out.below hb0), qL, by omega⟩
 clear hbx hox hb0 hgl
 go_wp2_with fail
 go_loopw [4] (fun i wr => PlayLoop x P cap ms.length w i wr) (fun i _ => ((ms.length : Int) - intOf i).toNat)
 case atStart => exact ⟨0, Nat.zero_le _, rfl, HP0⟩
 case round =>
  obtain ⟨k, hk, rfl, HQ⟩ := hrel
  clear HP0
  by_cases hk2 : k < ms.length
  · obtain ⟨ps, nx, es, T, hs⟩ := HQ.out
    obtain ⟨ins, K, hi1, hi2⟩ := hs.cnt
    obtain ⟨m, hm⟩ : ∃ m, ms[k]? = some m := ⟨_, List.getElem?_eq_getElem hk2⟩
    obtain ⟨r1, r2, r3⟩ := HL.out.rng m (List.mem_of_getElem? hm)
    obtain ⟨ps', nx', es', T', hmv, hdo⟩ := do_any hs.inv hi2 (by omega) (x := x) (P := P) (cap := cap) (G := k) (by omega) m.kind m.key m.level (k : Int) r1 r2 r3 ⟨by omega, by omega⟩
    have hform : ∃ b o, pl = some ⟨b, o, none⟩ ∧ b < w.heap.size ∧ ∀ i m, ms[i]? = some m → w.cell? ⟨b, o + i * 3, none⟩ = some (.int .i64 m.kind) ∧ w.cell? ⟨b, o + i * 3 + 1, none⟩ = some (.int .i64 m.key) ∧ w.cell? ⟨b, o + i * 3 + 2, none⟩ = some (.int .i64 m.level) := by
     rcases HL.out.form with h0 | h0
     · rw [h0] at hk2; simp at hk2
     · exact h0
    obtain ⟨bl, ol, rfl, hbl, hcl⟩ := hform
    obtain ⟨q0, q1, q2⟩ := hcl k m hm
    have c0 : wr.cell? ⟨bl, ol + k * 3, none⟩ = some (.int .i64 m.kind) := (hs.below.cell (p := ⟨bl, ol + k * 3, none⟩) hbl).trans q0
    have c1 : wr.cell? ⟨bl, ol + k * 3 + 1, none⟩ = some (.int .i64 m.key) := (hs.below.cell (p := ⟨bl, ol + k * 3 + 1, none⟩) hbl).trans q1
    have c2 : wr.cell? ⟨bl, ol + k * 3 + 2, none⟩ = some (.int .i64 m.level) := (hs.below.cell (p := ⟨bl, ol + k * 3 + 2, none⟩) hbl).trans q2
    have HDO := Lib.hid hdo
    have HS := Lib.hid hs
    have HMV := Lib.hid hmv
    have HPL := Lib.hid (hmv.len hs.inv)
    have hMs : w.heap.size ≤ wr.heap.size := hs.below.size
    have hMP : w.heap.size ≤ P := hs.low
    have kx0 : wr.cell? ⟨x, 0, none⟩ = some (.slice (some ⟨P, 0, none⟩) ps.length cap) := by obtain ⟨_, _, _, ho, _⟩ := hs.ix; exact ho.blk.cell 0
    have hxw : x < wr.heap.size := by obtain ⟨_, _, _, ho, _⟩ := hs.ix; exact ho.blk.lt
    have bk : decide ((k : Int) < ms.length) = true := by simp; omega
    have bk0 : (0 : Int) ≤ k := by omega
    have bk1 : (k : Int) < ms.length := by omega
    have wk1 : IntKind.i64.wrap ((k : Int) + 1) = (k : Int) + 1 := by rw [IntKind.wrap_i64]; omega
    clear hs hdo hmv hcl q0 q1 q2 hm hi1 hi2 r1 r2 r3
    go_wp2_with fail
    go_at_call 23; refine (HDO.out _ (HS.out.ix.over qL)).mono ?_
    rintro e2 w2 ⟨rfl, hix2, hf2⟩
    have HIX2 := Lib.hid hix2
    have HF2 := Lib.hid ((FrameP.of_below (show Below wr.heap.size wr _ from qL)).trans hf2)
    clear hix2 hf2
    go_wp2_with fail
    refine ⟨⟨k + 1, by omega, by rw [show ((k : Int) + 1) = ((k + 1 : Nat) : Int) by omega], Lib.hid ⟨ps', nx', es', T', (HS.out.moved HMV.out HIX2.out HF2.out).over qL⟩⟩, by simp [intOf]; omega⟩
  · have bk : decide ((k : Int) < ms.length) = false := by simp; omega
    have hkl : k = ms.length := by omega
    have HS := Lib.hid (hkl ▸ HQ.out)
    clear hkl HQ
    go_wp2_with fail
    refine bodyPost_ret (results_tmp rfl _ _ _) rfl ?_
    obtain ⟨ps, nx, es, T, hs⟩ := HS.out
    exact ⟨x, P, cap, ps, nx, es, T, rfl, hs.over qL⟩
set_option maxRecDepth 20000 in
theorem UPsG1 {P : Prop} (h : P := by
 have HB2 := Lib.hid hb2
 clear hb2
 go_wp2_with fail
 refine qA fun hSt => ?_
 refine qS [0, 1, 2, 3, 4, 5, 6, 7, 8, 9, 10, 11, 12, 13, 14, 15, 16, 17, 18, 19, 20, 21, 22, 23] ?_
 iterate 24 (refine qT ?_; simp only [Act.put, qY])
 refine TakeSeq.done ?_
 refine qD ?_ _
 go_wp2_with fail
 have hb1 := HB1.out
 have hb2 := HB2.out
 refine bodyPost_ret (results_tmp rfl _ _ _) rfl ⟨rfl, qL⟩) : P := h
set_option maxRecDepth 20000 in
theorem UPwG1 {P : Prop} (h : P := by
 go_enter Tryz.func24, Tryz.ntmps24
 go_wp2_with fail
 go_at_call 27; refine (HN.out _ qL).mono ?_
 rintro e1 w1 ⟨vw, ve, vc, rfl, how, hoe, hoc, hb1⟩
 obtain ⟨pw, cw, rfl⟩ := own_zero how
 obtain ⟨ca, cc, rfl⟩ := own_len hoc
 rw [HOK.out]
 have hse := qSt hoe
 clear how hoe hoc
 simp only [outCells]
 rw [HF.out]
 ((obtain ⟨hc1, hf1, hs1⟩ := qR hb1); (try have := qN0 w w1))
 have HB1 := Lib.hid hb1
 have hxl1 : x < w1.heap.size := by omega
 clear hb1
 go_wp2_with fail
 first
  | clear tg1
    go_at_call 48; refine (place_any x (x + 1) (.slice (some ⟨P, 0, none⟩) pages.length cap) vk vt vg next keys key _ ?hb ?hk hlen).mono ?_
    case hb => exact (HX.out.blk.kept HB1.out).alloc _
    case hk => exact own_below HX.out.keys (by have hb1 := HB1.out; exact qL)
    rintro e2 w2 ⟨rfl, hb2⟩
    rw [HTH.out, ← HAT.out]
    ((obtain ⟨hc2, hf2, hs2⟩ := qR hb2); (try have := qN0 w w2); (try have := qN0 w1 w2))
    have hxl2 : x < w2.heap.size := by omega
    exact UPsG1
  | clear tg2
    go_at_call 48; refine (place_any x (x + 1) (.slice (some ⟨P, 0, none⟩) pages.length cap) vk (Value.slice (some ⟨gt, 0, none⟩) tos.length ct) vg next keys key _ ?hb ?hk hlen).mono ?_
    case hb => exact (HX.out.blk.kept HB1.out).alloc _
    case hk => exact own_below HX.out.keys (by have hb1 := HB1.out; exact qL)
    rintro e2 w2 ⟨rfl, hb2⟩
    rw [HTH.out, ← HAT.out]
    ((obtain ⟨hc2, hf2, hs2⟩ := qR hb2); (try have := qN0 w w2); (try have := qN0 w1 w2))
    have hxl2 : x < w2.heap.size := by omega
    have hgt3 : gt < w2.heap.size := by omega
    have hgt4 : gt < w1.heap.size := by omega
    exact UPsG1) : P := h
set_option maxRecDepth 10000 in
set_option maxHeartbeats 4000000 in
theorem right_none (x P cap G : Nat) (pages : List Bt.Page) (next : Int) (keys : List Int) (tos : List Bt.Ptr) (key : Int) (va : Option Addr) (n c : Nat) (o : Bt.Out) (w : World) (h : IxG x P cap G pages next keys tos w) (hth : isThere keys key = false) (hfo : o.found = false) (hto : o.to = Bt.nilP) (hlen : keys.length ≤ 1000) (htl : tos.length = keys.length) (hoc : o.code = 0) (hok : o.check.length = 1)
 (HN : Hid (∀ w', Below w.heap.size w w' → Calls Tryz.prog 27 #[.agg (opCells ⟨1, key, 0, Bt.nilP, 0, 0, []⟩ (.slice none 0 0)), .slice va n c] w' (NextPost [] o w'))) :
 Calls Tryz.prog 24 #[.pointer (some ⟨x, 0, none⟩), .int .u32 key, .slice va n c] w (fun e w' => e = .returned (.bool true) ∧ Below w.heap.size w w') := by
 obtain ⟨vk, vt, vg, hx, hgo⟩ := h
 have hxlt := hx.blk.lt
 have kx := hx.blk.cell
 unfold ixCells at kx
 have pz : peq o.to.line o.to.gen 0 0 = true := by rw [hto]; rfl
 obtain ⟨at1, hat⟩ : ∃ at1, at1 = placeOf keys key := ⟨_, rfl⟩
 have HAT := Lib.hid hat
 have eq := eql_ptr
 clear hat
 have HX := Lib.hid hx
 have HTH := Lib.hid hth
 have HF := Lib.hid hfo
 have HOK := Lib.hid hok
 have bn0 : (o.code != 0) = false := by simp [hoc]
 clear hx hth hgo hfo hok hoc hto
 unfold opCells Bt.nilP at HN
 have tg1 := trivial
 exact UPwG1
set_option maxRecDepth 10000 in
set_option maxHeartbeats 4000000 in
theorem right_there (x P cap G : Nat) (pages : List Bt.Page) (next : Int) (keys : List Int) (tos : List Bt.Ptr) (key : Int) (va : Option Addr) (n c : Nat) (o : Bt.Out) (w : World) (h : IxG x P cap G pages next keys tos w) (hth : isThere keys key = true) (hfo : o.found = true) (hto : o.to = tos.getD (placeOf keys key) default) (hlen : keys.length ≤ 1000) (htl : tos.length = keys.length) (hoc : o.code = 0) (hok : o.check.length = 1)
 (HN : Hid (∀ w', Below w.heap.size w w' → Calls Tryz.prog 27 #[.agg (opCells ⟨1, key, 0, Bt.nilP, 0, 0, []⟩ (.slice none 0 0)), .slice va n c] w' (NextPost [] o w'))) :
 Calls Tryz.prog 24 #[.pointer (some ⟨x, 0, none⟩), .int .u32 key, .slice va n c] w (fun e w' => e = .returned (.bool true) ∧ Below w.heap.size w w') := by
 obtain ⟨vk, vt, vg, hx, hgo⟩ := h
 have hxlt := hx.blk.lt
 have kx := hx.blk.cell
 unfold ixCells at kx
 have hpl2 : placeOf keys key < keys.length := isThere_lt hth
 have hatl : placeOf keys key < tos.length := by omega
 have hgd : tos.getD (placeOf keys key) default = tos[placeOf keys key] := by rw [List.getD_eq_getElem?_getD, List.getElem?_eq_getElem hatl]; rfl
 obtain ⟨q, hq⟩ : ∃ q, tos[placeOf keys key] = q := ⟨_, rfl⟩
 rw [hgd, hq] at hto
 have pq : peq o.to.line o.to.gen q.line q.gen = true := by simp [peq, hto]
 obtain ⟨gt, ct, rfl⟩ := own_form hx.tos (by omega)
 have tc0 : w.cell? ⟨gt, placeOf keys key * 2, none⟩ = some (.int .i64 q.line) := by rw [← hq]; exact own_cells hx.tos _ _ (ptrCells_get tos _ _ (List.getElem?_eq_getElem hatl) 0 _ rfl)
 have tc1 : w.cell? ⟨gt, placeOf keys key * 2 + 1, none⟩ = some (.int .i64 q.gen) := by rw [← hq]; exact own_cells hx.tos _ _ (ptrCells_get tos _ _ (List.getElem?_eq_getElem hatl) 1 _ rfl)
 have hgt := own_lt hx.tos
 have hgt2 : gt < w.heap.size := hgt.2
 obtain ⟨at1, hat⟩ : ∃ at1, at1 = placeOf keys key := ⟨_, rfl⟩
 rw [← hat] at tc0 tc1 hatl
 have HAT := Lib.hid hat
 have ha1 : (0 : Int) ≤ at1 := by omega
 have ha2 : (at1 : Int) < tos.length := by omega
 have ha3 : (at1 : Int) < keys.length := by omega
 have ha4 : at1 < keys.length := by omega
 have eq := eql_ptr
 clear hgt hgd hq hat hpl2
 have HX := Lib.hid hx
 have HTH := Lib.hid hth
 have HF := Lib.hid hfo
 have HOK := Lib.hid hok
 have bn0 : (o.code != 0) = false := by simp [hoc]
 clear hx hth hgo hfo hok hoc hto
 unfold opCells Bt.nilP at HN
 have tg2 := trivial
 exact UPwG1
abbrev findOp (k : Int) : Bt.Op := ⟨1, k, 0, Bt.nilP, 0, 0, []⟩
theorem all_find {ps : List Bt.Page} {nx : Int} {es : List Bt.Entry} {T : List (List Bt.Cell)} (h : Bt.Inv ps nx es T) (k : Int) (hk : 1 ≤ k) (hk2 : k ≤ Bt.maxKey) : StepsAll ps nx (findOp k) := fun fr ws o hf hn fa ka fn fc kn kc w =>
 steps_find_ix h _ (by unfold Bt.Op.isValid; simp [findOp, Bt.isKey, hk, hk2]) hn fa ka fn fc kn kc w rfl
/-- A lookup over the pages themselves. -/
theorem right_ix {ps : List Bt.Page} {nx : Int} {es : List Bt.Entry} {T : List (List Bt.Cell)} (h : Bt.Inv ps nx es T) (k : Int) (hk : 1 ≤ k) (hk2 : k ≤ Bt.maxKey) {x P cap G : Nat} (w : World) (hx : IxG x P cap G ps nx (keysOf es) (tosOf es) w) :
 Calls Tryz.prog 24 #[.pointer (some ⟨x, 0, none⟩), .int .u32 k, .slice (some ⟨P, 0, none⟩) ps.length cap] w (fun e w' => e = .returned (.bool true) ∧ Below w.heap.size w w') := by
 obtain ⟨o, ho, hoc, hof, hot, hok, _⟩ := h.find (op := findOp k) rfl hk hk2
 have hlen := h.esLen
 have hlk : (keysOf es).length ≤ 1000 := by unfold keysOf; rw [List.length_map]; omega
 have hlt : (tosOf es).length = (keysOf es).length := by unfold keysOf tosOf; simp
 have hth := isThere_es es k
 obtain ⟨vk, vt, vg, hxo, hgo⟩ := hx
 have HN : Hid (∀ w', Below w.heap.size w w' → Calls Tryz.prog 27 #[.agg (opCells ⟨1, k, 0, Bt.nilP, 0, 0, []⟩ (.slice none 0 0)), .slice (some ⟨P, 0, none⟩) ps.length cap] w' (NextPost [] o w')) := Lib.hid (fun w' hb =>
  all_find h k hk hk2 [] [] o (.inl rfl) ho none (some ⟨P, 0, none⟩) 0 0 ps.length cap w' (nilRow w') ((hxo.over hb).pg.row) ((hxo.over hb).none))
 cases hhk : Bt.hasKey es k with
 | true =>
   rw [hhk] at hth
   have hot2 : o.to = (tosOf es).getD (placeOf (keysOf es) k) default := by
    rw [placeOf_es, getD_to es _ (hasKey_lt hhk)]
    rw [hot, if_pos hhk]
   exact right_there x P cap G ps nx (keysOf es) (tosOf es) k (some ⟨P, 0, none⟩) ps.length cap o w ⟨vk, vt, vg, hxo, hgo⟩ hth (by rw [hof]; exact hhk) hot2 hlk hlt hoc hok HN
 | false =>
   rw [hhk] at hth
   exact right_none x P cap G ps nx (keysOf es) (tosOf es) k (some ⟨P, 0, none⟩) ps.length cap o w ⟨vk, vt, vg, hxo, hgo⟩ hth (by rw [hof]; exact hhk) (by rw [hot, if_neg (by show ¬ Bt.hasKey es k = true; rw [hhk]; simp)]) hlk hlt hoc hok HN
section
variable {x P cap n : Nat} {vk vt vg : Value} {Z : Prop} {es : List Bt.Entry} {w0 w5 wr : World} {ps : List Bt.Page} {nx : Int} {T : List (List Bt.Cell)}
theorem FinAt.find (hB : FinBase x P n vk vt vg es w5) (h : FinAt x P cap n vk vt vg Z es w5 wr ps nx T) (k : Int) (hk : 1 ≤ k) (hk2 : k ≤ Bt.maxKey) :
 ∃ o, o.code = 0 ∧ (Bt.Posted T → Single T → o.unposted = false) ∧ o.check.length = 1 ∧ (T = [] → o.check = [96]) ∧ (T ≠ [] → ∃ pre A l n R, T = pre ++ [A ++ (l, n) :: R] ∧ Bt.lowAfter 0 A < k ∧ k ≤ n.high ∧ n.dead = false ∧ o.check = [l]) ∧
  ∀ wx, Below wr.heap.size wr wx → Calls Tryz.prog 31 #[.pointer (some ⟨x, 0, none⟩), .agg (opCells (findOp k) (.slice none 0 0))] wx (FinPost x P cap n vk vt vg Z es w5 ps nx T o wx) := by
 obtain ⟨o, ho, hoc, _, _, hck, _, hup, h1, h2⟩ := h.inv.find (op := findOp k) rfl hk hk2
 exact ⟨o, hoc, hup, hck, h1, h2, fun wx hb => FinAt.step hB h _ rfl (all_find h.inv k hk hk2) (.inl ⟨ho, rfl⟩) (.nil ps) (.inl hoc) h.inv (by rw [Int.sub_self]; exact .same) wx hb⟩
end
def PostLoop (x P cap n : Nat) (vk vt vg : Value) (es : List Bt.Entry) (w5 : World) (i : Value) (wr : World) : Prop :=
 ∃ k : Nat, 1 ≤ k ∧ k ≤ 41 ∧ i = .int .u32 k ∧ Hid (∃ ps nx T, FinAt x P cap n vk vt vg False es w5 wr ps nx T ∧ Bt.Posted T ∧ Single T)
set_option maxRecDepth 10000 in
set_option maxHeartbeats 8000000 in
theorem posts_walk (pl : Option Addr) (cl : Nat) (ms : List Mv) (w : World) (hn : NoneAt w) (hl : MvRow w pl ms) (hlong : ms.length ≤ 9223372036854775807) :
 Calls Tryz.prog 8 #[.slice pl ms.length cl] w fun e w' => e = .returned (.bool true) ∧ Below w.heap.size w w' := by
 have HN := Lib.hid hn
 have HL := Lib.hid hl
 clear hn hl
 by_cases h70 : 60 < ms.length
 · have b1 : decide ((60 : Int) < (ms.length : Int)) = true := by simp; omega
   have b2 : decide (60 < ms.length) = true := by simp; omega
   clear h70 hlong
   go_enter Tryz.func8, Tryz.ntmps8
   go_wp2_with fail
   go_at_call 21; refine (awake_any _ HN.out).mono ?_
   rintro e1 w1 ⟨rfl, hb1⟩
   go_wp2_with fail
   exact bodyPost_ret (results_tmp rfl _ _ _) rfl ⟨rfl, qL⟩
 have b1 : decide ((60 : Int) < (ms.length : Int)) = false := by simp; omega
 have b2 : decide (60 < ms.length) = false := by simp; omega
 have hm60 : ms.length ≤ 60 := by omega
 clear h70 hlong
 go_enter Tryz.func8, Tryz.ntmps8
 go_wp2_with fail
 go_at_call 21; refine (awake_any _ HN.out).mono ?_
 rintro e1 w1 ⟨rfl, hb1⟩
 have HB1 := Lib.hid hb1
 go_wp2_with fail
 go_at_call 26; refine (play_any pl cl ms _ (HN.out.below hb1) (HL.out.below hb1) (by omega)).mono ?_
 rintro e5 w5 ⟨x, P, cap, ps, nx, es, T, rfl, hplay⟩
 obtain ⟨vk, vt, vg, hbase, hfin⟩ := FinAt.start (Z := False) hplay (fun h => h.elim)
 have HBS := Lib.hid hbase
 have HPB := Lib.hid hplay.below
 have HLOW := Lib.hid hplay.low
 clear hb1
 go_wp2_with fail
 go_at_call 30; refine (finish_any x P cap ms.length vk vt vg False es w5 hbase (by omega) ps nx T hfin).mono ?_
 rintro e6 w6 ⟨rfl, ho6, ps6, nx6, T6, hf6, hpo6, hsi6⟩
 have HP0 : Hid (∃ ps nx T, FinAt x P cap ms.length vk vt vg False es w5 w6 ps nx T ∧ Bt.Posted T ∧ Single T) := Lib.hid ⟨ps6, nx6, T6, hf6, hpo6, hsi6⟩
 have hx6 : x < w6.heap.size := hf6.blk.lt
 clear hbase hfin hplay hf6 hpo6 hsi6 ho6
 go_wp2_with fail
 go_loopw [4] (fun i wr => PostLoop x P cap ms.length vk vt vg es w5 i wr) (fun i _ => (41 - intOf i).toNat)
 case atStart => exact ⟨1, by omega, by omega, rfl, HP0⟩
 case round =>
  obtain ⟨j, hj1, hj2, rfl, HQ⟩ := hrel
  clear HP0
  obtain ⟨ps7, nx7, T7, hf7, hpo7, hsi7⟩ := HQ.out
  have HF7 := Lib.hid hf7
  have HPO := Lib.hid hpo7
  have HSI := Lib.hid hsi7
  by_cases hj3 : j ≤ 40
  · have bj : decide ((j : Int) ≤ 40) = true := by simp; omega
    have wj : IntKind.u32.wrap ((j : Int) + 1) = (j : Int) + 1 := by rw [IntKind.wrap_u32]; omega
    obtain ⟨o, hoc, hup, _, _, _, hcall⟩ := FinAt.find HBS.out hf7 (j : Int) (by omega) (by unfold Bt.maxKey; omega)
    have hup2 := hup hpo7 hsi7
    have HC := Lib.hid hcall
    clear hf7 hpo7 hsi7 hcall hup HQ
    unfold findOp opCells Bt.nilP at HC
    go_wp2_with fail
    go_at_call 31; refine (HC.out _ qL).mono ?_
    rintro e8 w8 ⟨ve, vc, rfl, hf8, ho8, hve, hvc⟩
    have hse := qSt hve
    have hsc := qSt hvc
    have HF8 := Lib.hid hf8
    have kx0 : w8.cell? ⟨x, 0, none⟩ = some (.slice (some ⟨P, 0, none⟩) ps7.length cap) := hf8.blk.cell 0
    have hx8 : x < w8.heap.size := hf8.blk.lt
    clear hf8 ho8 hve hvc HC
    simp only [outCells]
    rw [hup2]
    clear hup2 hoc
    go_wp2_with fail
    go_at_call 24; refine (right_ix HF8.out.inv (j : Int) (by omega) (by unfold Bt.maxKey; omega) _ (FinAt.ixG HBS.out (HF8.out.below qL))).mono ?_
    rintro e9 w9 ⟨rfl, hb9⟩
    have HB9 := Lib.hid hb9
    go_wp2_with fail
    refine ⟨⟨j + 1, by omega, by omega, by rw [show ((j : Int) + 1) = ((j + 1 : Nat) : Int) by omega], Lib.hid ⟨ps7, nx7, T7, (HF8.out.below (by have hb9 := HB9.out; exact qL)), HPO.out, HSI.out⟩⟩, by simp [intOf]; omega⟩
  · have bj : decide ((j : Int) ≤ 40) = false := by simp; omega
    clear hf7 hpo7 hsi7
    go_wp2_with fail
    refine bodyPost_ret (results_tmp rfl _ _ _) rfl ⟨rfl, ?_⟩
    have hb1 := HB1.out
    have hb5 := HPB.out
    have hPx := HBS.out.hPx
    have := HLOW.out
    have hf := HF7.out
    exact below_step hb1 (hf.over.to_below hb5 (by omega) (by omega))
end Go.Proofs.YtjmpekanlmepmaaGreatDoor
namespace Go.Proofs.YtjmpekanlmepmaaGreatDoor.treePosts
open Go.ChangeShapes Go.WideShapes Go.ChangeAt Go.RowKit
set_option maxRecDepth 100000 in
theorem contract (H : Type) (enc : TypeId × Value → H) (W : World) (base : Nat) (args : Array Value) (ds gs : List (DataW H)) (before : List MemPlace)
 (hval : ∀ (j : Nat) t v, Tryz.f8.params[j]? = some t → args[j]? = some v → Value.okWide Tryz.prog W .any base t v)
 (hW : DataW.Whole enc Tryz.prog Tryz.f8.params.toList Rows.treePostsSpec.vars false W args.toList ds gs before) (hlaid : laidMetH Tryz.prog Rows.treePostsRow.laid W) :
 Calls Tryz.prog 8 args W fun e W' => ∃ v, e = .returned v ∧ Rows.treePostsSpec.post enc Tryz.prog Tryz.f8 false true false false W args v W' := by
 have hn : NoneAt W := none_at W hlaid
 have hW' := hW
 obtain ⟨p, q, hA0, hV, rfl, hfz, hnd⟩ := hW
 have hA : DataW.TrodAll enc Tryz.prog W 0 (fun _ => true) true Tryz.f8.params.toList args.toList ds p := hA0
 rw [Tryz.params8] at hA hval
 obtain ⟨v0, vs0, d0, ds0, p0, q0, hargs, rfl, rfl, h0, r0⟩ := trodAll_cons hA
 obtain ⟨rfl, rfl, rfl⟩ := trodAll_nil r0
 obtain rfl : args = #[v0] := arr1 hargs
 obtain ⟨rfl, rfl⟩ := trodVars_none hV
 obtain ⟨pl, ms, cl, rfl, hM, hml⟩ := open_moves (hval 0 44 v0 rfl rfl) h0
 clear hA0
 have hlt := hW'.lt
 refine (posts_walk pl cl ms W hn hM (by unfold maxLen at hml; omega)).mono fun e W' ⟨he, hb⟩ => ?_
 subst he
 exact ⟨_, rfl, post_of_below (pa := p0 ++ []) (pv := []) hW' (fun _ _ _ => trodAll_cons_mk (shut_bool Tryz.underlying4 _) trodAll_mk0)
  (fun sp hs => trodAll_cons_mk (reads_again (by kernel_rfl) (of_decide_eq_true (by kernel_rfl)) h0 hb (fun x hx => hlt x (by simp [hx])) (fun x hx => hs x (by simp [hx])))
   trodAll_mk0) (fun _ _ => rfl) (by simp)
  hb (ok_one (by kernel_rfl) rfl (okWide_bool_mk Tryz.underlying4 _))⟩
noncomputable def laidWorld (os : Os) : World := World.holding Tryz.prog os ⟨#[], #[], []⟩
theorem laid_met (os : Os) : laidMet Tryz.prog Rows.treePostsRow.laid ((laidWorld os).forCall (fun _ _ => 0) ⟨#[], #[.slice none 0 0], []⟩).memory :=
 laidMet_of_run' 8 (by kernel_rfl) (by kernel_rfl)
theorem reads (os : Os) {H : Type} (enc : TypeId × Value → H) : ∃ places, DataW.whole enc Tryz.prog ((laidWorld os).forCall (fun _ _ => 0) ⟨#[], #[.slice none 0 0], []⟩).memory Tryz.f8.params.toList Rows.treePostsSpec.vars false #[Value.slice none 0 0].toList 8 =
 some ([.nil], [], places) :=
 ⟨[], by kernel_rfl⟩
set_option maxRecDepth 100000 in
theorem lifted (os : Os) (started : os.Started) (H : Type) (enc : TypeId × Value → H) (F : Stop.Interp) :
 ReturnsInHanded {} Tryz.checked os 8 .any ((OpenSpec.ofChange Rows.treePostsSpec).preRow enc Tryz.prog Tryz.f8 Rows.treePostsRow.domain false Rows.treePostsRow.laid) (((OpenSpec.ofChange Rows.treePostsSpec).at F).post enc Tryz.prog Tryz.f8 false true false false) := by
 obtain ⟨places, hx⟩ := reads os enc
 refine returnsInHanded_of_row (C := Tryz.checked) (s := OpenSpec.ofChange Rows.treePostsSpec) own_knob started (by kernel_rfl) Tryz.func8
  (witness_row_at (enc := enc) (C := Tryz.checked) false (laidWorld os) #[.slice none 0 0] rfl (by kernel_rfl) (by kernel_rfl) (by kernel_rfl)
   (OpenSpec.preRow_of_cond 8 hx (by kernel_rfl) (fun k hk => by cases hk) (by kernel_rfl) (laid_met os))) ?_
 intro W base args ds gs before hval hW _ _ _ hlaid _ _
 exact contract H enc W base args ds gs before hval hW hlaid
theorem said : Rows.TreePostsSaid :=
 OpenClaim.holds_of_cond 8 Tryz.f8 rfl rfl rfl rfl rfl rfl rfl ⟨rfl, rfl, rfl, rfl, rfl⟩ rfl rfl rfl rfl rfl (by kernel_rfl) Tryz.func8 (by kernel_rfl)
  (of_decide_eq_true (by kernel_rfl)) (by unfold Func.isWrapper; first | (rw [if_pos (by decide +kernel)]; kernel_rfl) | (rw [if_neg (by decide +kernel)]; exact ⟨rfl, rfl⟩))
  (fun os started H enc _ F => by rw [OpenClaim.pre_eq_preRow]; exact lifted os started H enc F)
theorem plain (f : FuncId) (fn : Func) (hf : Tryz.pinned.checked.prog.funcNamed "bodega/bodegalaw24.TreePosts" = some f) (hfn : Tryz.pinned.checked.prog.funcs[f]? = some fn) :
 false = Tryz.pinned.checked.prog.looks [] ∧ ∀ (j : Nat) t, fn.params[j]? = some t → Tryz.pinned.checked.prog.wantsStandIn t = false := by
 obtain rfl : f = 8 := Option.some.inj ((show Tryz.prog.funcNamed "bodega/bodegalaw24.TreePosts" = some 8 by kernel_rfl).symm.trans hf) |>.symm
 obtain rfl : fn = Tryz.f8 := (Option.some.inj (Tryz.func8.symm.trans hfn)).symm
 refine ⟨by kernel_rfl, fun j t ht => ?_⟩
 rw [Tryz.params8] at ht
 have hm : t ∈ #[44] := Array.mem_of_getElem? ht
 obtain rfl : t = 44 := by simpa using hm
 exact (show Tryz.prog.wantsStandIn 44 = false by kernel_rfl)
theorem card : Rows.TreePostsCardSaid :=
 Claim7.holds_tied_plain_at .later [] _ _ _ _ said (fun _ h => by cases h) (by kernel_rfl) (fun _ h => by cases h) treePosts_row_tie rfl ⟨rfl, rfl⟩ (by kernel_rfl) rfl plain (by kernel_rfl)
#print axioms card
end Go.Proofs.YtjmpekanlmepmaaGreatDoor.treePosts
