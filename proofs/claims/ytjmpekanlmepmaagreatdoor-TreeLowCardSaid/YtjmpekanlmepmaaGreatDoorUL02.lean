/- For every list of moves that insert and remove: once everything has been posted the height of the tree is at most one more than the number of times that the number of its leaves can be halved; no condition beside what the card lists. -/
import Derived.Test.YtjmpekanlmepmaaGreatDoorUL01
import Derived.BigQuiet
import Derived.Test.YtjmpekanlmepmaaGreatDoorB46
import Derived.Test.YtjmpekanlmepmaaGreatDoorB41
set_option linter.all false
namespace Go.Proofs.YtjmpekanlmepmaaGreatDoor
open Go.RowKit
def Single (T : List (List Bt.Cell)) : Prop := ∀ c r t, T = (c :: r) :: t → r = []
def Checked (pre post : List (List Bt.Cell)) : Prop := ∀ a up lo b, pre ++ post = a ++ up :: lo :: b → a.length < pre.length → ∀ e ∈ Bt.ents up, Bt.PostedAt lo e
theorem Checked.posted {pre : List (List Bt.Cell)} {lv : List Bt.Cell} (h : Checked pre [lv]) : Bt.Posted (pre ++ [lv]) :=
 Bt.posted_of (fun a up lo b hT => h a up lo b hT (by have := congrArg List.length hT; simp at this; omega))
theorem Checked.next {pre t : List (List Bt.Cell)} {lv lo : List Bt.Cell} (h : Checked pre (lv :: lo :: t)) (hp : ∀ e ∈ Bt.ents lv, Bt.PostedAt lo e) : Checked (pre ++ [lv]) (lo :: t) := fun a up lo' b hT hl => by
 rw [List.append_assoc] at hT
 by_cases h1 : a.length < pre.length
 · exact h a up lo' b hT h1
 · have h2 : a.length = pre.length := by simp at hl; omega
   have h3 := List.append_inj hT h2.symm
   simp only [List.singleton_append, List.cons.injEq] at h3
   obtain ⟨_, rfl, rfl, _⟩ := h3
   exact hp
theorem rootPtr_head (lv : List Bt.Cell) (t : List (List Bt.Cell)) : Bt.rootPtr (lv :: t) = Bt.headPtr lv Bt.nilP := by cases lv <;> rfl
def nat01 (d : Bool) : Nat := if d then 1 else 0
section
variable (x P cap n : Nat) (vk vt vg : Value) (Z : Prop) (es : List Bt.Entry) (w5 : World)
def FinOuter (i : Value) (wr : World) : Prop := ∃ r : Nat, i = .int .i64 r ∧ Hid (∃ ps nx T, FinAt x P cap n vk vt vg Z es w5 wr ps nx T ∧ r ≤ Bt.inner T)
def FinLev (r p7 : Nat) (did lev : Value) (wr : World) : Prop := ∃ d pre post, did = .bool d ∧ lev = .int .i64 ((post.length : Int) - 1) ∧ post ≠ [] ∧ Hid (∃ ps nx T, FinAt x P cap n vk vt vg Z es w5 wr ps nx T ∧ T = pre ++ post ∧ r + nat01 d ≤ Bt.inner T ∧ Blk wr p7 27 (Bt.rootPtr post).cells ∧ (d = false → Single T ∧ Checked pre post))
structure FinIn (r p7 : Nat) (pre t : List (List Bt.Cell)) (lv0 lo : List Bt.Cell) (us : List Value) (vn : Value) (wl : World) (done : List Bt.Entry) (d : Bool) (wr : World) (ps : List Bt.Page) (nx : Int) (up : List Bt.Cell) : Prop where
 fin : FinAt x P cap n vk vt vg Z es w5 wr ps nx (pre ++ up :: lo :: t)
 head : Bt.headPtr up Bt.nilP = Bt.headPtr lv0 Bt.nilP
 cnt : r + nat01 d ≤ Bt.inner (pre ++ up :: lo :: t)
 blk : Blk wr p7 27 (Bt.headPtr lv0 Bt.nilP).cells
 nodes : NodesAt wl.heap.size vn lv0 us wr
 size : wl.heap.size ≤ wr.heap.size
 quiet : d = false → up = lv0 ∧ Single (pre ++ lv0 :: lo :: t) ∧ Checked pre (lv0 :: lo :: t) ∧ ∀ e ∈ done, Bt.PostedAt lo e
def FinI (r p7 : Nat) (pre t : List (List Bt.Cell)) (lv0 lo : List Bt.Cell) (us : List Value) (vn : Value) (wl : World) (did i : Value) (wr : World) : Prop :=
 ∃ (d : Bool) (k : Nat), did = .bool d ∧ i = .int .i64 k ∧ k ≤ lv0.length ∧ Hid (∃ ps nx up, FinIn x P cap n vk vt vg Z es w5 r p7 pre t lv0 lo us vn wl (Bt.ents (lv0.take k)) d wr ps nx up)
def FinK (r p7 : Nat) (pre t : List (List Bt.Cell)) (lv0 lo A : List Bt.Cell) (us : List Value) (vn : Value) (wl : World) (m : Bt.Node) (did i : Value) (wr : World) : Prop :=
 ∃ (d : Bool) (k : Nat), did = .bool d ∧ i = .int .i64 k ∧ k ≤ m.entries.length ∧ Hid (∃ ps nx up, FinIn x P cap n vk vt vg Z es w5 r p7 pre t lv0 lo us vn wl (Bt.ents A ++ m.entries.take k) d wr ps nx up)
def FinEnd (w : World) (e : Ending) (w' : World) : Prop :=
 e = .returned (.bool true) ∧ OverTwo x P w w' ∧ ∃ ps nx T, FinAt x P cap n vk vt vg Z es w5 w' ps nx T ∧ Bt.Posted T ∧ Single T
end
section
variable {x P cap n : Nat} {vk vt vg : Value} {Z : Prop} {es : List Bt.Entry} {w5 : World} {r p7 : Nat} {pre t : List (List Bt.Cell)} {lv0 lo : List Bt.Cell} {us : List Value} {vn : Value} {wl : World} {done : List Bt.Entry} {d : Bool} {wr : World} {ps : List Bt.Page} {nx : Int} {up : List Bt.Cell}
theorem FinIn.below (h : FinIn x P cap n vk vt vg Z es w5 r p7 pre t lv0 lo us vn wl done d wr ps nx up) {wx : World} (hb : Below wr.heap.size wr wx) : FinIn x P cap n vk vt vg Z es w5 r p7 pre t lv0 lo us vn wl done d wx ps nx up :=
 ⟨h.fin.below hb, h.head, h.cnt, h.blk.kept hb, h.nodes.below hb, Nat.le_trans h.size hb.size, h.quiet⟩
theorem FinIn.post (h : FinIn x P cap n vk vt vg Z es w5 r p7 pre t lv0 lo us vn wl done d wr ps nx up) {w8 : World} {ps' : List Bt.Page} {nx' : Int} {up' : List Bt.Cell} {o : Bt.Out} {e : Bt.Entry} (hhd : Bt.headPtr up' Bt.nilP = Bt.headPtr up Bt.nilP)
 (hcase : (o.done = false ∧ up' = up ∧ ∀ e' ∈ Bt.ents up, e'.key = e.key → Bt.PostedAt lo e') ∨ (o.done = true ∧ Bt.inner (pre ++ up :: lo :: t) < Bt.inner (pre ++ up' :: lo :: t)))
 (hf : FinAt x P cap n vk vt vg Z es w5 w8 ps' nx' (pre ++ up' :: lo :: t)) (ho : OverTwo x P wr w8) (hx : x < wl.heap.size) (hP : P < wl.heap.size) (hx7 : x < p7) (hP7 : P < p7) (he : e ∈ Bt.ents lv0) :
 FinIn x P cap n vk vt vg Z es w5 r p7 pre t lv0 lo us vn wl (done ++ [e]) (d || o.done) w8 ps' nx' up' := by
 refine ⟨hf, hhd.trans h.head, ?_, (ho.block p7 h.blk.lt (by omega) (by omega)).trans h.blk, h.nodes.two ho hx hP, Nat.le_trans h.size ho.size, fun hd => ?_⟩
 · have h1 := h.cnt
   rcases hcase with ⟨hd, rfl, _⟩ | ⟨hd, hlt⟩
   · rw [hd, Bool.or_false]; exact h1
   · rw [hd, Bool.or_true]
     unfold nat01 at h1 ⊢
     cases d <;> simp at h1 ⊢ <;> omega
 · obtain ⟨hd1, hd2⟩ := Bool.or_eq_false_iff.1 hd
   obtain ⟨q1, q2, q3, q4⟩ := h.quiet hd1
   rcases hcase with ⟨_, hup, hat⟩ | ⟨h0, _⟩
   · refine ⟨hup.trans q1, q2, q3, fun e' he' => ?_⟩
     rcases List.mem_append.1 he' with h1 | h1
     · exact q4 e' h1
     · obtain rfl := List.mem_singleton.1 h1
       exact hat e' (by rw [q1]; exact he) rfl
   · rw [hd2] at h0; cases h0
end
set_option maxRecDepth 10000 in
set_option maxHeartbeats 8000000 in
theorem finish_any (x P cap n : Nat) (vk vt vg : Value) (Z : Prop) (es : List Bt.Entry) (w5 : World) (hB : FinBase x P n vk vt vg es w5) (hn : n ≤ 76) (ps : List Bt.Page) (nx : Int) (T : List (List Bt.Cell)) (h : FinAt x P cap n vk vt vg Z es w5 w5 ps nx T) :
 Calls Tryz.prog 30 #[.pointer (some ⟨x, 0, none⟩)] w5 (FinEnd x P cap n vk vt vg Z es w5 w5) := by
 have HB := Lib.hid hB
 have HP0 : Hid (∃ ps nx T, FinAt x P cap n vk vt vg Z es w5 w5 ps nx T ∧ 0 ≤ Bt.inner T) := Lib.hid ⟨ps, nx, T, h, Nat.zero_le _⟩
 have hPx := hB.hPx
 have hxl := hB.lt
 have eq := eql_ptr
 have ne := neq_ptr
 clear hB h
 go_enter Tryz.func30, Tryz.ntmps30
 go_wp2_with fail
 go_loopw [3] (fun i wr => FinOuter x P cap n vk vt vg Z es w5 i wr) (fun i _ => (400 - intOf i).toNat)
 case atStart => exact ⟨0, rfl, HP0⟩
 case round =>
  obtain ⟨r, rfl, HQ⟩ := hrel
  clear HP0
  obtain ⟨ps, nx, T, hf, hr⟩ := HQ.out
  have hr151 : r ≤ 151 := by have := hf.inner_le; omega
  obtain ⟨o, ps1, nx1, T1, hcase, hcall⟩ := FinAt.raise HB.out hf hn
  have HF := Lib.hid hf
  have HC := Lib.hid hcall
  have br : decide ((r : Int) < 400) = true := by simp; omega
  have br2 : decide (r < 400) = true := by simp; omega
  have wr1 : IntKind.i64.wrap ((r : Int) + 1) = (r : Int) + 1 := by rw [IntKind.wrap_i64]; omega
  have hxr : x < wr.heap.size := hf.blk.lt
  have hw5r : w5.heap.size ≤ wr.heap.size := hf.over.size
  clear hf hcall HQ
  unfold raiseOp opCells Bt.nilP at HC
  go_wp2_with fail
  go_at_call 31; refine (HC.out _ qL).mono ?_
  rintro e1 w1 ⟨ve, vc, rfl, hf1, ho1, hve, hvc⟩
  have hse := qSt hve
  have hsc := qSt hvc
  have HF1 := Lib.hid hf1
  have hw1 : wr.heap.size ≤ w1.heap.size := ho1.size
  clear hf1 ho1 hve hvc
  simp only [outCells]
  rcases hcase with ⟨hT, hT1, hoc⟩ | hcase
  · have b0 : (o.code == 0) = false := by simp [hoc]
    have b16 : (o.code == 16) = true := by simp [hoc]
    clear hoc
    go_wp2_with fail
    refine bodyPost_ret (results_tmp rfl _ _ _) rfl ⟨rfl, ?_, ps1, nx1, T1, HF1.out.below qL, by rw [hT1]; trivial, fun c r t h => by rw [hT1] at h; cases h⟩
    exact (HF1.out.below qL).over
  · have hoc : o.code = 0 := by rcases hcase with h | h <;> exact h.1
    obtain ⟨oc, of_, od, os, ou, oa, om, oto, oen, och, oh, ofr, ohh⟩ := o
    dsimp only at hoc hcase ⊢
    subst hoc
    have HCS : Hid (T1 ≠ [] ∧ r + nat01 od ≤ Bt.inner T1 ∧ (od = false → Single T1)) := Lib.hid (by
     rcases hcase with ⟨_, hd, h1, c, t, h2⟩ | ⟨_, hd, h1, h2⟩
     · rw [h1, hd]
       exact ⟨by rw [h2]; simp, hr, fun _ c' r' t' h => by rw [h2] at h; simp only [List.cons.injEq] at h; exact h.1.2.symm⟩
     · rw [hd]
       exact ⟨h1, by show r + 1 ≤ _; omega, fun h => by cases h⟩)
    clear hcase
    have hpl := HF1.out.inv.ix.len
    obtain ⟨R, hR⟩ : ∃ R, RootAt P T1 R w1 := ⟨_, HF1.out.root⟩
    have HR := Lib.hid hR
    obtain ⟨r0, r1, r2, r3, r4, r5, r6, r7, r8⟩ := hR.nine
    have kx0 : w1.cell? ⟨x, 0, none⟩ = some (.slice (some ⟨P, 0, none⟩) ps1.length cap) := HF1.out.blk.cell 0
    rw [hpl] at kx0
    have hx1 : x < w1.heap.size := HF1.out.blk.lt
    have hP1 : P < w1.heap.size := HF1.out.pg.lt
    clear hpl hR
    go_wp2_with fail
    go_at_call 15; refine (ReadRoot_any R HR.out.ok HR.out.line _ ?hng).mono ?_
    case hng => exact (FinAt.ok HB.out HF1.out).none.below qL
    rintro e6 w6 ⟨he6, hb6⟩
    rw [HR.out.reads] at he6
    obtain ⟨c0, t0, hT1⟩ : ∃ c t, T1 = c :: t := by
     cases T1 with
     | nil => exact absurd rfl HCS.out.1
     | cons c t => exact ⟨c, t, rfl⟩
    obtain ⟨l0, n0, rr, hc0⟩ : ∃ l n r, c0 = (l, n) :: r := by
     have := HF1.out.inv.tree.levels
     rw [hT1] at this
     cases c0 with
     | nil => exact absurd rfl this.1.ne
     | cons c r => exact ⟨c.1, c.2, r, rfl⟩
    have hrp : Bt.rootPtr T1 = Bt.ptr l0 := by rw [hT1, hc0]; rfl
    have hlt : ((T1.length - 1 : Nat) : Int) = (t0.length : Int) := by rw [hT1]; simp
    rw [hrp, hlt] at he6
    obtain rfl := he6
    ((obtain ⟨hc6, hf6, hs6⟩ := qR hb6); (try have := qN0 w1 w6); (try have := qN1 w1 w6))
    simp only [Bt.ptr, Bt.Ptr.cells]
    have HF6 : Hid (FinAt x P cap n vk vt vg Z es w5 w6 ps1 nx1 T1) := Lib.hid (HF1.out.below qL)
    have hw6 : wr.heap.size ≤ w6.heap.size := by omega
    have HRT := Lib.hid hrp
    have HLT := Lib.hid hlt
    clear hrp hlt hT1 hc0 hb6 hc6 hf6 r0 r1 r2 r3 r4 r5 r6 r7 r8 kx0
    go_wp2_with fail
    go_loopw [6, 8] (fun did lev wy => FinLev x P cap n vk vt vg Z es w5 r w6.heap.size did lev wy) (fun _ lev _ => (intOf lev + 1).toNat)
    case atStart =>
     refine ⟨od, [], T1, rfl, by rw [← HLT.out]; have := List.length_pos_iff.2 HCS.out.1; congr 1; omega, HCS.out.1, Lib.hid ⟨ps1, nx1, T1, HF6.out.below qL, rfl, HCS.out.2.1, ?_, fun hd => ⟨HCS.out.2.2 hd, fun a up lo b _ h => by simp at h⟩⟩⟩
     rw [HRT.out]
     exact Blk.made _ _ _
    case round =>
     obtain ⟨d, pre, post, rfl, rfl, hpne, HQ2⟩ := hrel
     rename World => wy
     cases post with
     | nil => exact absurd rfl hpne
     | cons lv0 post =>
       obtain ⟨ps2, nx2, T2, hf2, hT2, hr2, hbp2, hq2⟩ := HQ2.out
       have HF2 := Lib.hid hf2
       have HQT := Lib.hid hq2
       have HR2 := Lib.hid hr2
       rw [rootPtr_head] at hbp2
       have HBP := Lib.hid hbp2
       have hlv : Bt.Level ((post.length : Nat) : Int) lv0 := Bt.Tree.level (pre := pre) (hT2 ▸ hf2.inv.tree)
       have HLV := Lib.hid hlv
       obtain ⟨lh, nh, lvr, hlh⟩ : ∃ lh nh lvr, lv0 = (lh, nh) :: lvr := by
        cases lv0 with
        | nil => exact absurd rfl hlv.ne
        | cons c r => exact ⟨c.1, c.2, r, rfl⟩
       have hwy : w6.heap.size < wy.heap.size := hbp2.lt
       simp only [List.length_cons]
       rw [show (((post.length + 1 : Nat) : Int) - 1) = (post.length : Int) by omega]
       cases post with
       | nil =>
         clear hf2 hq2 hr2 hbp2 hlv
         cases d with
         | false =>
           go_wp2_with fail
           refine bodyPost_ret (results_tmp rfl _ _ _) rfl ⟨rfl, ?_, ps2, nx2, T2, HF2.out.below qL, ?_, (HQT.out (by trivial)).1⟩
           · exact (HF2.out.below qL).over
           · rw [hT2]; exact (HQT.out (by trivial)).2.posted
         | true =>
           go_wp2_with fail
           refine ⟨⟨r + 1, by rw [show ((r : Int) + 1) = ((r + 1 : Nat) : Int) by omega], Lib.hid ⟨ps2, nx2, T2, HF2.out.below qL, HR2.out⟩⟩, by simp [intOf]; omega⟩
       | cons lo t =>
         have hlevs : Bt.Levels (lv0 :: lo :: t) := by have := hf2.inv.tree.levels; rw [hT2] at this; exact this.append
         have hlnk : Bt.Links (lv0 :: lo :: t) := by have := hf2.inv.tree.links; rw [hT2] at this; exact this.append
         obtain ⟨x0, r0, e0, es0, y0, r2, hlv0, hx0, hlo0, hto⟩ := Bt.Levels.first hlevs hlnk
         have hT5 : t.length + 2 ≤ 9 := by
          obtain ⟨ins, K, h1, h2, _⟩ := hf2.cnt
          have := (h2.bound hf2.inv.tree (by omega)).1
          rw [hT2] at this
          simp at this
          omega
         have hls : lv0.length ≤ 151 := by
          have := hf2.inv.small
          rw [hT2] at this
          simp only [Bt.flat_append, Bt.flat_cons, List.length_append] at this
          omega
         have hvalid := hlv.valid
         have HVA : Hid (∀ c ∈ lv0, c.2.entries.length ≤ 5 ∧ ∀ e ∈ c.2.entries, 1 ≤ e.key ∧ e.key ≤ Bt.maxHigh) := Lib.hid (fun c hc => by
          have h1 := (hf2.inv.sees c (by rw [hT2]; simp only [Bt.flat_append, Bt.flat_cons, List.mem_append]; exact .inr (.inl hc))).good
          refine ⟨(Bt.Node.valid_parts h1.valid).2.2.1, fun e he => ?_⟩
          have := h1.range.2.2 e he
          unfold Bt.maxHigh
          omega)
         have hcall := FinAt.level HB.out hf2 hT2 wy (Below.refl _ _)
         have hhc : (Bt.headPtr lv0 Bt.nilP).cells = #[.int .i64 lh, .int .i64 1] := by rw [hlh]; rfl
         rw [hhc] at hcall
         have kp : ∀ i, wy.cell? ⟨w6.heap.size, i, none⟩ = (#[.int .i64 lh, .int .i64 1] : Array Value)[i]? := by
          have := hbp2.cell
          rw [hlh] at this
          exact this
         have HHD : Hid ((Bt.headPtr lv0 Bt.nilP).cells = #[.int .i64 lh, .int .i64 1]) := Lib.hid hhc
         have hlp : 0 < lv0.length := by rw [hlh]; simp
         have bz : ((lv0.length : Int) == 0) = false := by rw [beq_eq_false_iff_ne]; omega
         have bz2 : (lv0.length == 0) = false := by rw [beq_eq_false_iff_ne]; omega
         have bl : decide ((0 : Int) < ((lo :: t).length : Int)) = true := by simp
         have HT2 := Lib.hid hT2
         have HFS := Lib.hid (⟨hlv0, hx0, hlo0, hto⟩ : lv0 = x0 :: r0 ∧ x0.2.entries = e0 :: es0 ∧ lo = y0 :: r2 ∧ e0.to = Bt.ptr y0.1)
         clear hf2 hq2 hr2 hbp2 hlv hlevs hlnk hlv0 hx0 hlo0 hto hvalid hhc hlh hT2
         go_wp2_with fail
         go_at_call 29; refine hcall.mono ?_
         rintro e7 w7 ⟨vn, vp, us, rfl, hN7, _, hb7⟩
         obtain ⟨g, cn, rfl⟩ := own_form hN7.own hlp
         have hg7 : g < w7.heap.size := (own_lt hN7.own).2
         have hgy : wy.heap.size ≤ g := (own_lt hN7.own).1
         have HI0 : Hid (∃ ps nx up, FinIn x P cap n vk vt vg Z es w5 r w6.heap.size pre t lv0 lo us (.slice (some ⟨g, 0, none⟩) lv0.length cn) wy (Bt.ents (lv0.take 0)) d w7 ps nx up) :=
          Lib.hid ⟨ps2, nx2, lv0, HT2.out ▸ HF2.out.below hb7, rfl, HT2.out ▸ HR2.out, HBP.out.kept hb7, hN7, hb7.size, fun hd => ⟨rfl, HT2.out ▸ (HQT.out hd).1, (HQT.out hd).2, fun e he => by simp [Bt.ents] at he⟩⟩
         clear hcall hN7 hb7 HQT HF2 HR2 HBP HQ2
         go_wp2_with fail
         go_loopw [6, 13] (fun did i wi => FinI x P cap n vk vt vg Z es w5 r w6.heap.size pre t lv0 lo us (.slice (some ⟨g, 0, none⟩) lv0.length cn) wy did i wi) (fun _ i _ => ((lv0.length : Int) - intOf i).toNat)
         case atStart => exact ⟨d, 0, rfl, rfl, Nat.zero_le _, HI0⟩
         case round =>
          obtain ⟨d1, i, rfl, rfl, hi, HQ3⟩ := hrel
          clear HI0
          rename World => wi
          have hwi : wy.heap.size ≤ wi.heap.size := by obtain ⟨_, _, _, hq⟩ := HQ3.out; exact hq.size
          obtain ⟨HN3, _⟩ : Hid (NodesAt wy.heap.size (.slice (some ⟨g, 0, none⟩) lv0.length cn) lv0 us wi) ∧ True := ⟨Lib.hid (by obtain ⟨_, _, _, hq⟩ := HQ3.out; exact hq.nodes), trivial⟩
          have hgi : g < wi.heap.size := (own_lt HN3.out.own).2
          by_cases hil : i < lv0.length
          · obtain ⟨l, m, hcn⟩ : ∃ l m, lv0[i] = (l, m) := ⟨_, _, rfl⟩
            have hget : lv0[i]? = some (l, m) := by rw [List.getElem?_eq_getElem hil, hcn]
            have htake : lv0.take (i + 1) = lv0.take i ++ [(l, m)] := by rw [List.take_succ_eq_append_getElem hil, hcn]
            have HTK := Lib.hid htake
            obtain ⟨A, hA⟩ : ∃ A, lv0.take i = A := ⟨_, rfl⟩
            rw [hA] at HQ3 HTK
            obtain ⟨hm5, hmk⟩ := HVA.out (l, m) (by rw [← hcn]; exact List.getElem_mem hil)
            have hm5 : m.entries.length ≤ 5 := hm5
            have HMK : Hid (∀ e ∈ m.entries, 1 ≤ e.key ∧ e.key ≤ Bt.maxHigh) := Lib.hid hmk
            have bi : decide ((i : Int) < lv0.length) = true := by simp; omega
            have bi0 : (0 : Int) ≤ i := by omega
            have bi1 : (i : Int) < lv0.length := by omega
            have wi1 : IntKind.i64.wrap ((i : Int) + 1) = (i : Int) + 1 := by rw [IntKind.wrap_i64]; omega
            have HGET := Lib.hid hget
            have HK0 : Hid (∃ ps nx up, FinIn x P cap n vk vt vg Z es w5 r w6.heap.size pre t lv0 lo us (.slice (some ⟨g, 0, none⟩) lv0.length cn) wy (Bt.ents A ++ m.entries.take 0) d1 wi ps nx up) := Lib.hid (by simpa using HQ3.out)
            clear hcn hget htake hA hmk HQ3 HN3
            go_wp2_with fail
            go_loopw [6, 14] (fun did j wj => FinK x P cap n vk vt vg Z es w5 r w6.heap.size pre t lv0 lo A us (.slice (some ⟨g, 0, none⟩) lv0.length cn) wy m did j wj) (fun _ j _ => ((m.entries.length : Int) - intOf j).toNat)
            case atStart => exact ⟨d1, 0, rfl, rfl, Nat.zero_le _, HK0⟩
            case round =>
             obtain ⟨d2, j, rfl, rfl, hj, HQ4⟩ := hrel
             clear HK0
             rename World => wj
             obtain ⟨ps4, nx4, up, hq4⟩ := HQ4.out
             have H4 := Lib.hid hq4
             have hwj : wy.heap.size ≤ wj.heap.size := hq4.size
             obtain ⟨u, hown, _, _, _, _, _, _, q6⟩ := hq4.nodes.seven HGET.out
             obtain ⟨pu, cu, rfl⟩ := own_shape hown
             have hgj : g < wj.heap.size := (own_lt hq4.nodes.own).2
             have z6 : wj.cell? ⟨g, i * 7 + 6, none⟩ = some (.slice pu m.entries.length cu) := q6
             have HOW := Lib.hid hown
             clear hq4 HQ4 hown q6
             by_cases hjl : j < m.entries.length
             · obtain ⟨e, he⟩ : ∃ e, m.entries[j] = e := ⟨_, rfl⟩
               obtain ⟨gu, cu2, hpu⟩ := own_form HOW.out (by show 0 < m.entries.length; omega)
               simp only [Value.slice.injEq, true_and] at hpu
               obtain ⟨rfl, rfl⟩ := hpu
               have hcells : ∀ q z, (entCells m.entries)[q]? = some z → wj.cell? ⟨gu, q, none⟩ = some z := own_cells HOW.out
               have hguz : gu < wj.heap.size := (own_lt HOW.out).2
               have d0 : wj.cell? ⟨gu, j * 3, none⟩ = some (.int .u32 e.key) := by rw [← he]; exact hcells _ _ (entCells_get m.entries j m.entries[j] (List.getElem?_eq_getElem hjl) 0 _ rfl)
               obtain ⟨f1, f2⟩ := HMK.out e (by rw [← he]; exact List.getElem_mem hjl)
               obtain ⟨o4, ps5, nx5, up5, hoc, hhd, hcase, hcall⟩ := FinAt.post HB.out H4.out.fin hn e.key f1 f2 rfl
               have HC4 := Lib.hid hcall
               have HCS4 := Lib.hid hcase
               have HHD4 := Lib.hid hhd
               have HEM : Hid (e ∈ Bt.ents lv0) := Lib.hid (by unfold Bt.ents; exact List.mem_flatMap.2 ⟨(l, m), List.mem_of_getElem? HGET.out, by rw [← he]; exact List.getElem_mem hjl⟩)
               have HTK4 : Hid (m.entries.take (j + 1) = m.entries.take j ++ [e]) := Lib.hid (by rw [List.take_succ_eq_append_getElem hjl, he])
               have b0 : (o4.code == 0) = true := by simp [hoc]
               have bj : decide ((j : Int) < m.entries.length) = true := by simp; omega
               have bj0 : (0 : Int) ≤ j := by omega
               have bj1 : (j : Int) < m.entries.length := by omega
               have wj1 : IntKind.i64.wrap ((j : Int) + 1) = (j : Int) + 1 := by rw [IntKind.wrap_i64]; omega
               have wt1 : IntKind.i64.wrap (((lo :: t).length : Int) - 1) = (t.length : Int) := by rw [IntKind.wrap_i64]; simp; omega
               clear hcells he f1 f2 hoc hhd hcase hcall
               unfold postOp opCells Bt.nilP at HC4
               go_wp2_with fail
               go_at_call 31; refine (HC4.out _ qL).mono ?_
               rintro e8 w8 ⟨ve4, vc4, rfl, hf8, ho8, hve4, hvc4⟩
               have hse4 := qSt hve4
               have hsc4 := qSt hvc4
               have HI8 := Lib.hid (H4.out.post HHD4.out HCS4.out hf8 ho8 (by omega) (by omega) (by omega) (by omega) HEM.out)
               have hw8 : wj.heap.size ≤ w8.heap.size := ho8.size
               clear hf8 ho8 hve4 hvc4 HC4 HCS4 HHD4
               simp only [outCells]
               cases d2 with
               | false =>
                 go_wp2_with fail
                 refine ⟨⟨_, j + 1, rfl, by rw [show ((j : Int) + 1) = ((j + 1 : Nat) : Int) by omega], hjl, Lib.hid ⟨ps5, nx5, up5, ?_⟩⟩, by simp [intOf]; omega⟩
                 rw [HTK4.out, ← List.append_assoc]
                 exact HI8.out.below qL
               | true =>
                 go_wp2_with fail
                 refine ⟨⟨_, j + 1, rfl, by rw [show ((j : Int) + 1) = ((j + 1 : Nat) : Int) by omega], hjl, Lib.hid ⟨ps5, nx5, up5, ?_⟩⟩, by simp [intOf]; omega⟩
                 rw [HTK4.out, ← List.append_assoc]
                 exact HI8.out.below qL
             · have hjm : j = m.entries.length := by omega
               have bj : decide ((j : Int) < m.entries.length) = false := by simp; omega
               go_wp2_with fail
               refine ⟨⟨d2, i + 1, rfl, by rw [show ((i : Int) + 1) = ((i + 1 : Nat) : Int) by omega], hil, Lib.hid ⟨ps4, nx4, up, ?_⟩⟩, by simp [intOf]; omega⟩
               have := H4.out
               rw [hjm, List.take_length] at this
               rw [HTK.out, Bt.ents_append, Bt.ents_cons, Bt.ents_nil, List.append_nil]
               exact this.below qL
          · have hii : i = lv0.length := by omega
            have bi : decide ((i : Int) < lv0.length) = false := by simp; omega
            obtain ⟨ps4, nx4, up, hq4⟩ := HQ3.out
            obtain ⟨hlv0, hx0, hlo0, hto⟩ := HFS.out
            obtain ⟨u, hown, _, _, _, _, _, _, q6⟩ := hq4.nodes.seven (i := 0) (c := x0) (by rw [hlv0]; rfl)
            obtain ⟨gu, cu, rfl⟩ := own_form hown (by rw [hx0]; simp)
            have z6 : wi.cell? ⟨g, 6, none⟩ = some (.slice (some ⟨gu, 0, none⟩) x0.2.entries.length cu) := by simpa using q6
            have hguq : gu < wi.heap.size := (own_lt hown).2
            have hcells : ∀ j z, (entCells x0.2.entries)[j]? = some z → wi.cell? ⟨gu, j, none⟩ = some z := own_cells hown
            have z1 : wi.cell? ⟨gu, 1, none⟩ = some (.int .i64 e0.to.line) := hcells 1 _ (by rw [hx0]; rfl)
            have z2 : wi.cell? ⟨gu, 2, none⟩ = some (.int .i64 e0.to.gen) := hcells 2 _ (by rw [hx0]; rfl)
            have hel : (0 : Int) < (x0.2.entries.length : Int) := by rw [hx0]; simp <;> omega
            have hlp2 : (0 : Int) < (lv0.length : Int) := by omega
            have H4 := Lib.hid hq4
            have hpb := hq4.blk
            rw [HHD.out] at hpb
            have HPB := Lib.hid hpb
            have kpi : ∀ q, wi.cell? ⟨w6.heap.size, q, none⟩ = (#[.int .i64 lh, .int .i64 1] : Array Value)[q]? := hpb.cell
            have hpf := hpb.free
            have hpl := hpb.lt
            have HLO : Hid ((Bt.rootPtr (lo :: t)).cells = #[.int .i64 e0.to.line, .int .i64 e0.to.gen]) := Lib.hid (by
             rw [hlo0]
             show (Bt.ptr y0.1).cells = _
             rw [← hto]; rfl)
            have wt1 : IntKind.i64.wrap (((lo :: t).length : Int) - 1) = (t.length : Int) := by rw [IntKind.wrap_i64]; simp; omega
            clear hq4 hlv0 hx0 hlo0 hto hown q6 hcells hpb HQ3
            go_wp2_with fail
            refine ⟨⟨d1, pre ++ [up], lo :: t, rfl, by simp, by simp, Lib.hid ⟨ps4, nx4, pre ++ up :: lo :: t, ?_, by simp, H4.out.cnt, ?_, fun hd => ?_⟩⟩, by simp [intOf] <;> omega⟩
            · exact ((H4.out.fin.put (by omega) (by omega) (by omega) 0 _).put (by omega) (by omega) (by omega) 1 _)
            · rw [HLO.out]
              exact Blk.all2 (x0 := .int .i64 lh) (x1 := .int .i64 1) HPB.out _ _
            · obtain ⟨q1, q2, q3, q4⟩ := H4.out.quiet hd
              rw [q1]
              refine ⟨q2, q3.next ?_⟩
              rw [hii, List.take_length] at q4
              exact q4
end Go.Proofs.YtjmpekanlmepmaaGreatDoor
namespace Go.Proofs.YtjmpekanlmepmaaGreatDoor
open Go.RowKit
/-- An index behind k moves in which no leaf has died. -/
structure LowAt (x P cap k : Nat) (w0 wr : World) (ps : List Bt.Page) (nx : Int) (es : List Bt.Entry) (T : List (List Bt.Cell)) : Prop where
 play : PlayAt x P cap k w0 wr ps nx es T
 low : ∃ ins, ins ≤ k ∧ Bt.Cnt T nx ins 0
def LowLoop (x P cap n : Nat) (w0 : World) (i : Value) (wr : World) : Prop :=
 ∃ k : Nat, k ≤ n ∧ i = .int .i64 k ∧ Hid (∃ ps nx es T, LowAt x P cap k w0 wr ps nx es T)
def LowLev (T : List (List Bt.Cell)) (w6 : World) (p6 : Nat) (lev : Value) (wr : World) : Prop :=
 ∃ pre post, T = pre ++ post ∧ post ≠ [] ∧ lev = .int .i64 ((post.length : Int) - 1) ∧ Hid (Blk wr p6 27 (Bt.rootPtr post).cells ∧ Below w6.heap.size w6 wr)
def HalfLoop (H L : Nat) (w8 : World) (n k : Value) (wr : World) : Prop :=
 ∃ i j : Nat, n = .int .i64 i ∧ k = .int .i64 j ∧ i + j ≤ L ∧ (H ≤ i ∨ 2 ^ (H - i) ≤ j) ∧ Hid (Below w8.heap.size w8 wr)
theorem half_step {H i j : Nat} (hj : 1 < j) (h : H ≤ i ∨ 2 ^ (H - i) ≤ j) : H ≤ i + 1 ∨ 2 ^ (H - (i + 1)) ≤ j / 2 := by
 by_cases h1 : H ≤ i + 1
 · exact .inl h1
 · right
   have h2 := h.resolve_left (by omega)
   rw [show H - i = (H - (i + 1)) + 1 by omega, Nat.pow_succ] at h2
   omega
theorem half_end {H i j : Nat} (hj : ¬ 1 < j) (h : H ≤ i ∨ 2 ^ (H - i) ≤ j) : H ≤ i := by
 rcases h with h | h
 · exact h
 · by_cases h1 : H ≤ i
   · exact h1
   · have : 2 ^ 1 ≤ 2 ^ (H - i) := Nat.pow_le_pow_right (by decide) (by omega)
     omega
set_option maxRecDepth 10000 in
set_option maxHeartbeats 8000000 in
theorem low_walk (pl : Option Addr) (cl : Nat) (ms : List Mv) (w : World) (hn : NoneAt w) (hl : MvRow w pl ms) (hlong : ms.length ≤ 9223372036854775807) :
 Calls Tryz.prog 9 #[.slice pl ms.length cl] w fun e w' => e = .returned (.bool true) ∧ Below w.heap.size w w' := by
 have HN := Lib.hid hn
 have HL := Lib.hid hl
 clear hn hl
 by_cases h70 : 70 < ms.length
 · have b1 : decide ((70 : Int) < (ms.length : Int)) = true := by simp; omega
   have b2 : decide (70 < ms.length) = true := by simp; omega
   clear h70 hlong
   go_enter Tryz.func9, Tryz.ntmps9
   go_wp2_with fail
   go_at_call 21; refine (awake_any _ HN.out).mono ?_
   rintro e1 w1 ⟨rfl, hb1⟩
   go_wp2_with fail
   exact bodyPost_ret (results_tmp rfl _ _ _) rfl ⟨rfl, qL⟩
 have b1 : decide ((70 : Int) < (ms.length : Int)) = false := by simp; omega
 have b2 : decide (70 < ms.length) = false := by simp; omega
 have hm70 : ms.length ≤ 70 := by omega
 clear h70 hlong
 go_enter Tryz.func9, Tryz.ntmps9
 go_wp2_with fail
 go_at_call 21; refine (awake_any _ HN.out).mono ?_
 rintro e1 w1 ⟨rfl, hb1⟩
 have HB1 := Lib.hid hb1
 go_wp2_with fail
 go_at_call 22; refine (begin_any _).mono ?_
 rintro e0 w0 ⟨x, P, cap, rfl, hwP, hPx, hbx, hox, hb0⟩
 have hz1 := Below.size hb1
 have hgl := HN.out.lt
 have HP0 : Hid (∃ ps nx es T, LowAt x P cap 0 w w0 ps nx es T) := Lib.hid ⟨pg0, 105, [], [], ⟨Bt.Inv.start, ⟨0, 0, Nat.le_refl _, Bt.Cnt.start⟩, IxG.start hbx hox hPx (by omega) ((HN.out.below hb1).below hb0), qL, by omega⟩, ⟨0, Nat.le_refl _, Bt.Cnt.start⟩⟩
 clear hbx hox hb0 hb1 hz1 hgl
 go_wp2_with fail
 go_loopw [4] (fun i wr => LowLoop x P cap ms.length w i wr) (fun i _ => ((ms.length : Int) - intOf i).toNat)
 case atStart => exact ⟨0, Nat.zero_le _, rfl, HP0⟩
 case round =>
  obtain ⟨k, hk, rfl, HQ⟩ := hrel
  clear HP0
  by_cases hk2 : k < ms.length
  · obtain ⟨ps, nx, es, T, hsl⟩ := HQ.out
    have hs := hsl.play
    obtain ⟨ins, hi1, hi2⟩ := hsl.low
    obtain ⟨m, hm⟩ : ∃ m, ms[k]? = some m := ⟨_, List.getElem?_eq_getElem hk2⟩
    obtain ⟨r1, r2, r3⟩ := HL.out.rng m (List.mem_of_getElem? hm)
    have hp1 := Int.emod_lt_of_pos m.kind (show (0 : Int) < 9 by decide)
    have hp2 := Int.emod_nonneg m.kind (show (9 : Int) ≠ 0 by decide)
    have hpk : pick m.kind 9 = m.kind % 9 := rfl
    obtain ⟨q, hq⟩ : ∃ q, pick m.kind 9 = q := ⟨_, rfl⟩
    have hq1 : 0 ≤ q ∧ q < 9 := by omega
    have hq14 : pick q 14 ≤ 8 := by
     have : pick q 14 = q % 14 := rfl
     omega
    obtain ⟨ps', nx', es', T', hmv, ⟨d, wv, hev, hnx', hwv⟩, hdo⟩ := do_low hs.inv hi2 (by omega) (x := x) (P := P) (cap := cap) (G := k) (by omega) q m.key m.level (k : Int) ⟨by omega, by omega⟩ r2 r3 ⟨by omega, by omega⟩ hq14
    have hform : ∃ b o, pl = some ⟨b, o, none⟩ ∧ b < w.heap.size ∧ ∀ i m, ms[i]? = some m → w.cell? ⟨b, o + i * 3, none⟩ = some (.int .i64 m.kind) ∧ w.cell? ⟨b, o + i * 3 + 1, none⟩ = some (.int .i64 m.key) ∧ w.cell? ⟨b, o + i * 3 + 2, none⟩ = some (.int .i64 m.level) := by
     rcases HL.out.form with h0 | h0
     · rw [h0] at hk2; simp at hk2
     · exact h0
    obtain ⟨bl, ol, rfl, hbl, hcl⟩ := hform
    obtain ⟨q0, q1, q2⟩ := hcl k m hm
    have c0 : wr.cell? ⟨bl, ol + k * 3, none⟩ = some (.int .i64 m.kind) := (hs.below.cell (p := ⟨bl, ol + k * 3, none⟩) hbl).trans q0
    have c1 : wr.cell? ⟨bl, ol + k * 3 + 1, none⟩ = some (.int .i64 m.key) := (hs.below.cell (p := ⟨bl, ol + k * 3 + 1, none⟩) hbl).trans q1
    have c2 : wr.cell? ⟨bl, ol + k * 3 + 2, none⟩ = some (.int .i64 m.level) := (hs.below.cell (p := ⟨bl, ol + k * 3 + 2, none⟩) hbl).trans q2
    have HDO := Lib.hid hdo
    have HS := Lib.hid hs
    have HMV := Lib.hid hmv
    have HLW : Hid (∃ ins, ins ≤ k + 1 ∧ Bt.Cnt T' nx' ins 0) := Lib.hid ⟨ins + wv, by omega, by rw [hnx']; exact hev.cnt hi2⟩
    have HRK := Lib.hid r1
    have HQ9 := Lib.hid hq
    have hMs : w.heap.size ≤ wr.heap.size := hs.below.size
    have bk : decide ((k : Int) < ms.length) = true := by simp; omega
    have bk0 : (0 : Int) ≤ k := by omega
    have bk1 : (k : Int) < ms.length := by omega
    have wk1 : IntKind.i64.wrap ((k : Int) + 1) = (k : Int) + 1 := by rw [IntKind.wrap_i64]; omega
    have hblr : bl < wr.heap.size := Nat.lt_of_lt_of_le hbl hMs
    clear hs hsl hdo hmv hcl q0 q1 q2 hm hi1 hi2 r1 r2 r3 hev hnx' hwv hq hpk hp1 hp2 hq14
    go_wp2_with fail
    go_at_call 13; refine (Pick_any m.kind 9 HRK.out ⟨by decide, by decide⟩ _).mono ?_; rintro e0 w0 ⟨rfl, hw0⟩; obtain rfl := hw0.symm; clear hw0
    rw [HQ9.out]
    go_wp2_with fail
    go_at_call 23; refine (HDO.out _ (HS.out.ix.over qL)).mono ?_
    rintro e2 w2 ⟨rfl, hix2, hf2⟩
    have HIX2 := Lib.hid hix2
    have HF2 := Lib.hid ((FrameP.of_below (show Below wr.heap.size wr _ from qL)).trans hf2)
    clear hix2 hf2
    go_wp2_with fail
    refine ⟨⟨k + 1, by omega, by rw [show ((k : Int) + 1) = ((k + 1 : Nat) : Int) by omega], Lib.hid ⟨ps', nx', es', T', (HS.out.moved HMV.out HIX2.out HF2.out).over qL, HLW.out⟩⟩, by simp [intOf]; omega⟩
  · have bk : decide ((k : Int) < ms.length) = false := by simp; omega
    have hkl : k = ms.length := by omega
    obtain ⟨ps, nx, es, T, hsl⟩ := HQ.out
    rw [hkl] at hsl
    obtain ⟨vk, vt, vg, hbase, hfin⟩ := FinAt.start (Z := True) hsl.play (fun _ => hsl.low)
    have HBS := Lib.hid hbase
    have HPB := Lib.hid hsl.play.below
    have HLOW := Lib.hid hsl.play.low
    have HFIN := Lib.hid hfin
    clear hbase hfin hsl HQ hkl
    go_wp2_with fail
    go_at_call 30; refine (finish_any x P cap ms.length vk vt vg True es wr HBS.out (by omega) ps nx T HFIN.out).mono ?_
    rintro e6 w6 ⟨rfl, ho6, ps6, nx6, T6, hf6, hpo6, hsi6⟩
    have HF6 := Lib.hid hf6
    have HO6 := Lib.hid ho6
    obtain ⟨R, hR⟩ : ∃ R, RootAt P T6 R w6 := ⟨_, hf6.root⟩
    have HR := Lib.hid hR
    obtain ⟨r0, r1, r2, r3, r4, r5, r6, r7, r8⟩ := hR.nine
    have kx0 : w6.cell? ⟨x, 0, none⟩ = some (.slice (some ⟨P, 0, none⟩) ps6.length cap) := hf6.blk.cell 0
    rw [hf6.inv.ix.len] at kx0
    have kx2 : w6.cell? ⟨x, 2, none⟩ = some vk := hf6.blk.cell 2
    have hx6 : x < w6.heap.size := hf6.blk.lt
    have hP6 : P < w6.heap.size := hf6.pg.lt
    have eq := eql_ptr
    have ne := neq_ptr
    have HBF : Hid (∀ wz, Below w6.heap.size w6 wz → Below w.heap.size w wz) := Lib.hid (fun wz hb => by
     have hb5 := HPB.out
     have hPx := HBS.out.hPx
     have := HLOW.out
     have hw6 : Below w.heap.size w w6 := hf6.over.to_below hb5 (by omega) (by omega)
     exact below_step hw6 hb)
    clear hf6 hR hpo6 hsi6 ho6
    go_wp2_with fail
    go_at_call 15; refine (ReadRoot_any R HR.out.ok HR.out.line _ ?hng).mono ?_
    case hng => exact (FinAt.ok HBS.out HF6.out).none.below qL
    rintro e7 w7 ⟨he7, hb7⟩
    rw [HR.out.reads] at he7
    ((obtain ⟨hc7, hf7, hs7⟩ := qR hb7); (try have := qN0 w6 w7))
    have hx7 : x < w7.heap.size := by omega
    have HB67 : Hid (Below w6.heap.size w6 w7) := Lib.hid qL
    clear hb7
    by_cases hT : T6 = []
    · obtain rfl := he7
      have hrp : Bt.rootPtr T6 = Bt.nilP := by rw [hT]; rfl
      have hlt : ((T6.length - 1 : Nat) : Int) = 0 := by rw [hT]; rfl
      have hkl : (keysOf es) = [] := by
       have := HF6.out.inv.holds
       rw [← this, hT]; rfl
      have hko := HBS.out.keys
      rw [hkl] at hko
      obtain ⟨pk, ck, rfl⟩ := own_shape hko
      have pp : peq 0 0 0 0 = true := rfl
      rw [hrp, hlt]
      simp only [Bt.nilP, Bt.Ptr.cells]
      clear hko hkl hT
      go_wp2_with fail
      refine bodyPost_ret (results_tmp rfl _ _ _) rfl ⟨rfl, HBF.out _ ?_⟩
      have hb67 := HB67.out
      exact qL
    obtain ⟨c0, t0, hTT⟩ : ∃ c t, T6 = c :: t := by
     cases T6 with
     | nil => exact absurd rfl hT
     | cons c t => exact ⟨c, t, rfl⟩
    obtain ⟨l0, n0, rr, hc0⟩ : ∃ l n r, c0 = (l, n) :: r := by
     have := HF6.out.inv.tree.levels
     rw [hTT] at this
     cases c0 with
     | nil => exact absurd rfl this.1.ne
     | cons c r => exact ⟨c.1, c.2, r, rfl⟩
    have hrp : Bt.rootPtr T6 = Bt.ptr l0 := by rw [hTT, hc0]; rfl
    have hlt : ((T6.length - 1 : Nat) : Int) = (t0.length : Int) := by rw [hTT]; simp
    have hl0 := (HF6.out.inv.sees (l0, n0) (by rw [hTT, hc0]; simp [Bt.flat])).lo
    have pp : peq l0 1 0 0 = false := by
     have h1 : (104 : Int) ≤ l0 := hl0
     unfold peq
     exact decide_eq_false (by omega)
    have HLOWP : Hid (2 ^ t0.length ≤ (T6.getLastD []).length) := Lib.hid (by
     obtain ⟨ins, K, _, h2, h3⟩ := HF6.out.cnt
     obtain rfl : K = 0 := h3 trivial
     have := Bt.Cnt.low h2 HF6.out.inv.tree hT
     rw [hTT] at this ⊢
     simpa using this)
    have hT9 : t0.length ≤ 8 := by
     obtain ⟨ins, K, h1, h2, _⟩ := HF6.out.cnt
     have := (h2.bound HF6.out.inv.tree (by omega)).1
     rw [hTT] at this
     simp at this
     omega
    rw [hrp, hlt] at he7
    obtain rfl := he7
    simp only [Bt.ptr, Bt.Ptr.cells]
    have HTT := Lib.hid hTT
    have HRP := Lib.hid hrp
    have HF7 : Hid (FinAt x P cap ms.length vk vt vg True es wr w7 ps6 nx6 T6) := Lib.hid (HF6.out.below HB67.out)
    clear hrp hlt hT hl0 hc0 r0 r1 r2 r3 r4 r5 r6 r7 r8 kx0 kx2 hc7 hf7
    go_wp2_with fail
    go_loopw [7] (fun lev wy => LowLev T6 w7 w7.heap.size lev wy) (fun lev _ => (intOf lev + 1).toNat)
    case atStart =>
     refine ⟨[], T6, rfl, by rw [hTT]; simp, by rw [hTT]; simp, Lib.hid ⟨?_, qL⟩⟩
     rw [HRP.out]
     exact Blk.made _ _ _
    case round =>
     obtain ⟨pre, post, hpp, hpne, rfl, HQL⟩ := hrel
     rename World => wy
     clear hTT
     cases post with
     | nil => exact absurd rfl hpne
     | cons lv post =>
       have hbp := HQL.out.1
       rw [rootPtr_head] at hbp
       have HBP := Lib.hid hbp
       have HBY := Lib.hid HQL.out.2
       have HFY : Hid (FinAt x P cap ms.length vk vt vg True es wr wy ps6 nx6 T6) := Lib.hid (HF7.out.below HQL.out.2)
       have hlv : Bt.Level ((post.length : Nat) : Int) lv := Bt.Tree.level (pre := pre) (hpp ▸ HF6.out.inv.tree)
       obtain ⟨lh, nh, lvr, hlh⟩ : ∃ lh nh lvr, lv = (lh, nh) :: lvr := by
        cases lv with
        | nil => exact absurd rfl hlv.ne
        | cons c r => exact ⟨c.1, c.2, r, rfl⟩
       have kp : ∀ i, wy.cell? ⟨w7.heap.size, i, none⟩ = (#[.int .i64 lh, .int .i64 1] : Array Value)[i]? := by
        have := hbp.cell
        rw [hlh] at this
        exact this
       have hpl := hbp.lt
       have hpf := hbp.free
       have hxy : x < wy.heap.size := Nat.lt_of_lt_of_le hx7 HQL.out.2.size
       have hhc : (Bt.headPtr lv Bt.nilP).cells = #[.int .i64 lh, .int .i64 1] := by rw [hlh]; rfl
       have HHC := Lib.hid hhc
       simp only [List.length_cons]
       rw [show (((post.length + 1 : Nat) : Int) - 1) = (post.length : Int) by omega]
       cases post with
       | nil =>
         have hlast : T6.getLastD [] = lv := by rw [hpp]; exact Bt.getLastD_leaf pre lv
         have hcall := FinAt.level HBS.out HFY.out hpp wy (Below.refl _ _)
         rw [hhc] at hcall
         have hls : lv.length ≤ 151 := by
          have := HF6.out.inv.small
          rw [hpp] at this
          simp only [Bt.flat_append, Bt.flat_cons, List.length_append] at this
          omega
         have HH0 : Hid (2 ^ t0.length ≤ lv.length) := Lib.hid (by have := HLOWP.out; rw [hlast] at this; exact this)
         obtain ⟨H, hH⟩ : ∃ H, t0.length = H := ⟨_, rfl⟩
         clear hlast hbp hhc hlv hlh hpp HQL
         go_wp2_with fail
         go_at_call 29; refine hcall.mono ?_
         rintro e8 w8 ⟨vn, vp, us, rfl, hN8, _, hb8⟩
         obtain ⟨pn, cn, rfl⟩ := own_shape hN8.own
         have HB8 : Hid (Below w6.heap.size w6 w8) := Lib.hid (below_step (below_step HB67.out HBY.out) hb8)
         clear hcall hN8 hb8
         rw [hH] at HH0 ⊢
         go_wp2_with fail
         go_loopw [18, 19] (fun n k wz => HalfLoop H lv.length w8 n k wz) (fun _ k _ => (intOf k).toNat)
         case atStart => exact ⟨0, lv.length, rfl, rfl, by omega, .inr HH0.out, Lib.hid (Below.refl _ _)⟩
         case round =>
          obtain ⟨i, j, rfl, rfl, hij, hhalf, HBH⟩ := hrel
          rename World => wz
          by_cases hj : 1 < j
          · have bj : decide ((1 : Int) < (j : Int)) = true := by simp; omega
            have bj2 : decide (1 < j) = true := by simp; omega
            have wi1 : IntKind.i64.wrap ((i : Int) + 1) = (i : Int) + 1 := by rw [IntKind.wrap_i64]; omega
            have hdv : (j : Int).tdiv 2 = ((j / 2 : Nat) : Int) := by rw [Int.tdiv_eq_ediv_of_nonneg (by omega)]; rfl
            have wj1 : IntKind.i64.wrap ((j / 2 : Nat) : Int) = ((j / 2 : Nat) : Int) := by rw [IntKind.wrap_i64]; omega
            go_wp2_with fail
            refine ⟨⟨i + 1, j / 2, by rw [show ((i : Int) + 1) = ((i + 1 : Nat) : Int) by omega], rfl, by omega, half_step hj hhalf, Lib.hid (by have hbh := HBH.out; exact qL)⟩, by simp [intOf]; omega⟩
          · have bj : decide ((1 : Int) < (j : Int)) = false := by simp; omega
            have bj2 : decide (1 < j) = false := by simp; omega
            have hHi := half_end hj hhalf
            have wi1 : IntKind.i64.wrap ((i : Int) + 1) = (i : Int) + 1 := by rw [IntKind.wrap_i64]; omega
            have bh : decide ((H : Int) ≤ (i : Int) + 1) = true := by simp; omega
            go_wp2_with fail
            refine bodyPost_ret (results_tmp rfl _ _ _) rfl ⟨rfl, HBF.out _ ?_⟩
            have hb8 := HB8.out
            have hbh := HBH.out
            exact qL
       | cons lo t =>
         have hlevs : Bt.Levels (lv :: lo :: t) := by have := HF6.out.inv.tree.levels; rw [hpp] at this; exact this.append
         have hlnk : Bt.Links (lv :: lo :: t) := by have := HF6.out.inv.tree.links; rw [hpp] at this; exact this.append
         obtain ⟨x0, r0, e0, es0, y0, r2, hlv0, hx0, hlo0, hto⟩ := Bt.Levels.first hlevs hlnk
         have hxe : x0 = (lh, nh) := by rw [hlh] at hlv0; simp only [List.cons.injEq] at hlv0; exact hlv0.1.symm
         rw [hxe] at hx0
         have hx0 : nh.entries = e0 :: es0 := hx0
         have hs : Bt.Sees ps6 lh nh := HF6.out.inv.sees (lh, nh) (by rw [hpp, hlh]; simp only [Bt.flat_append, Bt.flat_cons, List.mem_append]; right; left; simp)
         have hxo := FinAt.ok HBS.out HFY.out
         have hx0y : wy.cell? ⟨x, 0, none⟩ = some (.slice (some ⟨P, 0, none⟩) ps6.length cap) := hxo.blk.cell 0
         have HPG2 : Hid (PgRow wy (.slice (some ⟨P, 0, none⟩) ps6.length cap) ps6) := Lib.hid hxo.pg.row
         have HN2 : Hid (NoneAt wy) := Lib.hid hxo.none
         have HNR := Lib.hid hs.node
         have HL2 : Hid (Bt.lookup ps6 (Bt.ptr lh) 4 true = .found (Bt.pg ps6 lh)) := Lib.hid (hs.found true)
         have HPL : Hid ((Bt.pg ps6 lh).node = nh) := Lib.hid (Bt.readNode_isValid hs.node).2.1.symm
         have HOK : Hid ((Bt.pg ps6 lh).Ok) := Lib.hid (HPG2.out.ok _ (lookup_found_ok (hs.found true)))
         have HEN := Lib.hid hx0
         have HLO : Hid ((Bt.rootPtr (lo :: t)).cells = #[.int .i64 e0.to.line, .int .i64 e0.to.gen]) := Lib.hid (by
          rw [hlo0]
          show (Bt.ptr y0.1).cells = _
          rw [← hto]; rfl)
         have bl0 : decide ((0 : Int) < ((lo :: t).length : Int)) = true := by simp
         have bl1 : decide (0 < (lo :: t).length) = true := by simp
         have wt1 : IntKind.i64.wrap (((lo :: t).length : Int) - 1) = (t.length : Int) := by
          have h1 := congrArg List.length hpp
          rw [HTT.out] at h1
          simp only [List.length_cons, List.length_append] at h1
          rw [IntKind.wrap_i64]; simp only [List.length_cons]; omega
         have HW : Hid (wrap64 (t.length : Int) = (t.length : Int)) := Lib.hid (by
          have h1 := congrArg List.length hpp
          rw [HTT.out] at h1
          simp only [List.length_cons, List.length_append] at h1
          unfold wrap64
          omega)
         have HPP := Lib.hid hpp
         clear hlevs hlnk hlv0 hxe hx0 hlo0 hto hs hxo hbp hlv HQL hpp hhc
         go_wp2_with fail
         go_cut [10, 11, 12] from 80 to 115 (LookCut (.found (Bt.pg ps6 lh)) wy)
         case first =>
          refine qA fun hSt => ?_
          refine qS [0, 1, 2, 3, 4] ?_
          iterate 5 (refine qT ?_; simp only [Act.put, qY])
          refine TakeSeq.done ?_
          refine wpAnyH_ready (rs := [5, 10]) (by kernel_rfl) (by simp) ?_
          refine AllReadyH.cons rfl (fun K hK => ?_) (AllReadyH.cons rfl (fun K hK => ?_) (AllReadyH.nil))
          · skip
            rw [if_pos (by rfl)]
            go_simp
            go_at_call 32; refine (Open_any ps6 _ (Bt.ptr lh) _ _ ?hpg).mono ?_; (case hpg => exact HPG2.out.below qL); rintro e w1 ⟨rfl, hb⟩; rw [HL2.out]; simp only [Bt.Look.page, Bt.Look.have_, Bt.Look.code, Bt.Page.cells]; ((obtain ⟨hc1, hf1, hs1⟩ := qR hb); (try have := qN0 wy w1); (try have := qN1 wy w1))
            go_wp2_with fail
            refine hK.out _ _ (SteadyAll.of qL) (fun hHeld => ?_)
            clear hK K
            refine qS [6, 7, 8, 9] ?_
            iterate 4 (refine qT ?_; simp only [Act.put, qY])
            refine TakeSeq.done ?_
            refine qH 10 fun K hK => ?_
            go_simp
            refine hK.out _ _ (SteadyAll.of qL) (fun hHeld => ?_)
            clear hK K
            refine qH 11 fun K hK => ?_
            go_simp
            refine hK.out _ _ (SteadyAll.of qL) (fun hHeld => ?_)
            clear hK K
            refine qS [12, 13] ?_
            iterate 2 (refine qT ?_; simp only [Act.put, qY])
            refine TakeSeq.done ?_
            refine qD ?_ _
            go_wp2_with fail
            go_meet
            exact ⟨_, rfl, by first | omega | (simp; omega), Blk.made _ _ _, rfl, rfl, qL⟩
          · skip
            rw [if_pos (by rfl)]
            go_simp
            refine hK.out _ _ (SteadyAll.of qL) (fun hHeld => ?_)
            clear hK K
            refine qH 5 fun K hK => ?_
            go_simp
            go_at_call 32; refine (Open_any ps6 _ (Bt.ptr lh) _ _ ?hpg2).mono ?_; (case hpg2 => exact HPG2.out.below qL); rintro e w1 ⟨rfl, hb⟩; rw [HL2.out]; simp only [Bt.Look.page, Bt.Look.have_, Bt.Look.code, Bt.Page.cells]; ((obtain ⟨hc1, hf1, hs1⟩ := qR hb); (try have := qN0 wy w1); (try have := qN1 wy w1))
            go_wp2_with fail
            refine hK.out _ _ (SteadyAll.of qL) (fun hHeld => ?_)
            clear hK K
            refine qS [6, 7, 8, 9] ?_
            iterate 4 (refine qT ?_; simp only [Act.put, qY])
            refine TakeSeq.done ?_
            refine qH 11 fun K hK => ?_
            go_simp
            refine hK.out _ _ (SteadyAll.of qL) (fun hHeld => ?_)
            clear hK K
            refine qS [12, 13] ?_
            iterate 2 (refine qT ?_; simp only [Act.put, qY])
            refine TakeSeq.done ?_
            refine qD ?_ _
            go_wp2_with fail
            have BN := (show Blk (wy.drew.alloc (.cells #[.int .i64 0, .int .u64 0, .int .u64 0, .int .u64 0, .int .u64 0, .int .u64 0, .int .u64 0, .int .u64 0, .int .u64 0] 25)) wy.drew.heap.size 25 #[.int .i64 0, .int .u64 0, .int .u64 0, .int .u64 0, .int .u64 0, .int .u64 0, .int .u64 0, .int .u64 0, .int .u64 0] from Blk.made _ _ _).kept hb
            go_meet
            exact ⟨_, rfl, by first | omega | (simp; omega), BN.all9 _ _ _ _ _ _ _ _ _, rfl, rfl, qL⟩
         case rest =>
          obtain ⟨g, rfl, hg, BG, rfl, rfl, hbc⟩ := hcut
          have e1 : (Bt.Look.found (Bt.pg ps6 lh)).code = 0 := rfl
          have e2 : (Bt.Look.found (Bt.pg ps6 lh)).have_ = true := rfl
          obtain ⟨page, hpage⟩ : ∃ page, page = Bt.pg ps6 lh := ⟨_, rfl⟩
          have kg : ∀ i, wc.cell? ⟨g, i, none⟩ = (#[.int .i64 page.line, .int .u64 page.head, .int .u64 page.d0, .int .u64 page.d1, .int .u64 page.d2, .int .u64 page.d3, .int .u64 page.d4, .int .u64 page.d5, .int .u64 page.d6] : Array Value)[i]? := by
           have := BG.cell
           rw [hpage]
           exact this
          have hgw : g < wc.heap.size := BG.lt
          rw [e1, e2]
          rw [← hpage] at HNR HOK HPL
          have HNC : Hid (NoneAt wc) := Lib.hid (HN2.out.below hbc)
          have HBC : Hid (Below wy.heap.size wy wc) := Lib.hid hbc
          clear e1 e2 BG hpage
          go_wp2_with fail
          go_at_call 28; refine (ReadNode_any page HOK.out _ ?hng).mono ?_
          case hng => exact HNC.out.below qL
          rintro e2 w2 (⟨hrn, _⟩ | ⟨v, hrn, rfl, hown, hb2⟩)
          · exact absurd (hrn.symm.trans HNR.out) (by simp)
          rw [HPL.out] at hown
          rw [HPL.out]
          have HB2 : Hid (Below wy.heap.size wy w2) := Lib.hid qL
          obtain ⟨gu, cu, rfl⟩ := own_form hown (by rw [HEN.out]; simp)
          have hcells : ∀ j z, (entCells nh.entries)[j]? = some z → w2.cell? ⟨gu, j, none⟩ = some z := own_cells hown
          have z1 : w2.cell? ⟨gu, 1, none⟩ = some (.int .i64 e0.to.line) := hcells 1 _ (by rw [HEN.out]; rfl)
          have z2 : w2.cell? ⟨gu, 2, none⟩ = some (.int .i64 e0.to.gen) := hcells 2 _ (by rw [HEN.out]; rfl)
          have hguq : gu < w2.heap.size := (own_lt hown).2
          have hel : (0 : Int) < (nh.entries.length : Int) := by rw [HEN.out]; simp <;> omega
          have hez : ((nh.entries.length : Int) == 0) = false := by rw [beq_eq_false_iff_ne]; omega
          have BP2 := HBP.out.kept HB2.out
          rw [HHC.out] at BP2
          have kp2 : ∀ i, w2.cell? ⟨w7.heap.size, i, none⟩ = (#[.int .i64 lh, .int .i64 1] : Array Value)[i]? := BP2.cell
          have hpl2 := BP2.lt
          have hpf2 := BP2.free
          have HBP2 := Lib.hid BP2
          simp only [nodeCells]
          clear hown hcells BP2
          go_wp2_with fail
          try rw [HW.out]
          refine ⟨⟨pre ++ [lv], lo :: t, by rw [HPP.out]; simp, by simp, by simp, Lib.hid ⟨?_, ?_⟩⟩, by simp [intOf] <;> omega⟩
          · rw [HLO.out]
            exact (Blk.all2 (x0 := .int .i64 lh) (x1 := .int .i64 1) HBP2.out _ _).alloc _
          · have hb2 := HB2.out
            have hby := HBY.out
            exact qL
end Go.Proofs.YtjmpekanlmepmaaGreatDoor
namespace Go.Proofs.YtjmpekanlmepmaaGreatDoor.treeLow
open Go.ChangeShapes Go.WideShapes Go.ChangeAt Go.RowKit
set_option maxRecDepth 100000 in
theorem contract (H : Type) (enc : TypeId × Value → H) (W : World) (base : Nat) (args : Array Value) (ds gs : List (DataW H)) (before : List MemPlace)
 (hval : ∀ (j : Nat) t v, Tryz.f9.params[j]? = some t → args[j]? = some v → Value.okWide Tryz.prog W .any base t v)
 (hW : DataW.Whole enc Tryz.prog Tryz.f9.params.toList Rows.treeLowSpec.vars false W args.toList ds gs before) (hlaid : laidMetH Tryz.prog Rows.treeLowRow.laid W) :
 Calls Tryz.prog 9 args W fun e W' => ∃ v, e = .returned v ∧ Rows.treeLowSpec.post enc Tryz.prog Tryz.f9 false true false false W args v W' := by
 have hn : NoneAt W := none_at W hlaid
 have hW' := hW
 obtain ⟨p, q, hA0, hV, rfl, hfz, hnd⟩ := hW
 have hA : DataW.TrodAll enc Tryz.prog W 0 (fun _ => true) true Tryz.f9.params.toList args.toList ds p := hA0
 rw [Tryz.params9] at hA hval
 obtain ⟨v0, vs0, d0, ds0, p0, q0, hargs, rfl, rfl, h0, r0⟩ := trodAll_cons hA
 obtain ⟨rfl, rfl, rfl⟩ := trodAll_nil r0
 obtain rfl : args = #[v0] := arr1 hargs
 obtain ⟨rfl, rfl⟩ := trodVars_none hV
 obtain ⟨pl, ms, cl, rfl, hM, hml⟩ := open_moves (hval 0 44 v0 rfl rfl) h0
 clear hA0
 have hlt := hW'.lt
 refine (low_walk pl cl ms W hn hM (by unfold maxLen at hml; omega)).mono fun e W' ⟨he, hb⟩ => ?_
 subst he
 exact ⟨_, rfl, post_of_below (pa := p0 ++ []) (pv := []) hW' (fun _ _ _ => trodAll_cons_mk (shut_bool Tryz.underlying4 _) trodAll_mk0)
  (fun sp hs => trodAll_cons_mk (reads_again (by kernel_rfl) (of_decide_eq_true (by kernel_rfl)) h0 hb (fun x hx => hlt x (by simp [hx])) (fun x hx => hs x (by simp [hx])))
   trodAll_mk0) (fun _ _ => rfl) (by simp)
  hb (ok_one (by kernel_rfl) rfl (okWide_bool_mk Tryz.underlying4 _))⟩
noncomputable def laidWorld (os : Os) : World := World.holding Tryz.prog os ⟨#[], #[], []⟩
theorem laid_met (os : Os) : laidMet Tryz.prog Rows.treeLowRow.laid ((laidWorld os).forCall (fun _ _ => 0) ⟨#[], #[.slice none 0 0], []⟩).memory :=
 laidMet_of_run' 8 (by kernel_rfl) (by kernel_rfl)
theorem reads (os : Os) {H : Type} (enc : TypeId × Value → H) : ∃ places, DataW.whole enc Tryz.prog ((laidWorld os).forCall (fun _ _ => 0) ⟨#[], #[.slice none 0 0], []⟩).memory Tryz.f9.params.toList Rows.treeLowSpec.vars false #[Value.slice none 0 0].toList 8 =
 some ([.nil], [], places) :=
 ⟨[], by kernel_rfl⟩
set_option maxRecDepth 100000 in
theorem lifted (os : Os) (started : os.Started) (H : Type) (enc : TypeId × Value → H) (F : Stop.Interp) :
 ReturnsInHanded {} Tryz.checked os 9 .any ((OpenSpec.ofChange Rows.treeLowSpec).preRow enc Tryz.prog Tryz.f9 Rows.treeLowRow.domain false Rows.treeLowRow.laid) (((OpenSpec.ofChange Rows.treeLowSpec).at F).post enc Tryz.prog Tryz.f9 false true false false) := by
 obtain ⟨places, hx⟩ := reads os enc
 refine returnsInHanded_of_row (C := Tryz.checked) (s := OpenSpec.ofChange Rows.treeLowSpec) own_knob started (by kernel_rfl) Tryz.func9
  (witness_row_at (enc := enc) (C := Tryz.checked) false (laidWorld os) #[.slice none 0 0] rfl (by kernel_rfl) (by kernel_rfl) (by kernel_rfl)
   (OpenSpec.preRow_of_cond 8 hx (by kernel_rfl) (fun k hk => by cases hk) (by kernel_rfl) (laid_met os))) ?_
 intro W base args ds gs before hval hW _ _ _ hlaid _ _
 exact contract H enc W base args ds gs before hval hW hlaid
theorem said : Rows.TreeLowSaid :=
 OpenClaim.holds_of_cond 9 Tryz.f9 rfl rfl rfl rfl rfl rfl rfl ⟨rfl, rfl, rfl, rfl, rfl⟩ rfl rfl rfl rfl rfl (by kernel_rfl) Tryz.func9 (by kernel_rfl)
  (of_decide_eq_true (by kernel_rfl)) (by unfold Func.isWrapper; first | (rw [if_pos (by decide +kernel)]; kernel_rfl) | (rw [if_neg (by decide +kernel)]; exact ⟨rfl, rfl⟩))
  (fun os started H enc _ F => by rw [OpenClaim.pre_eq_preRow]; exact lifted os started H enc F)
theorem plain (f : FuncId) (fn : Func) (hf : Tryz.pinned.checked.prog.funcNamed "bodega/bodegalaw24.TreeLow" = some f) (hfn : Tryz.pinned.checked.prog.funcs[f]? = some fn) :
 false = Tryz.pinned.checked.prog.looks [] ∧ ∀ (j : Nat) t, fn.params[j]? = some t → Tryz.pinned.checked.prog.wantsStandIn t = false := by
 obtain rfl : f = 9 := Option.some.inj ((show Tryz.prog.funcNamed "bodega/bodegalaw24.TreeLow" = some 9 by kernel_rfl).symm.trans hf) |>.symm
 obtain rfl : fn = Tryz.f9 := (Option.some.inj (Tryz.func9.symm.trans hfn)).symm
 refine ⟨by kernel_rfl, fun j t ht => ?_⟩
 rw [Tryz.params9] at ht
 have hm : t ∈ #[44] := Array.mem_of_getElem? ht
 obtain rfl : t = 44 := by simpa using hm
 exact (show Tryz.prog.wantsStandIn 44 = false by kernel_rfl)
theorem card : Rows.TreeLowCardSaid :=
 Claim7.holds_tied_plain_at .later [] _ _ _ _ said (fun _ h => by cases h) (by kernel_rfl) (fun _ h => by cases h) treeLow_row_tie rfl ⟨rfl, rfl⟩ (by kernel_rfl) rfl plain (by kernel_rfl)
#print axioms card
end Go.Proofs.YtjmpekanlmepmaaGreatDoor.treeLow
