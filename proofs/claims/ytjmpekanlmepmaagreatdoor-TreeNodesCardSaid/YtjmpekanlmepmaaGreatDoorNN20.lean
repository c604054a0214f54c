/- Package btree: an operation is done. -/
import Derived.Test.YtjmpekanlmepmaaGreatDoorNN19
import Derived.Test.YtjmpekanlmepmaaGreatDoorNN14
set_option linter.all false
set_option maxRecDepth 20000
set_option maxHeartbeats 8000000
open Go.Lib (hid)
namespace Go.Proofs.YtjmpekanlmepmaaGreatDoor
open Go.RowKit
theorem IsRun.setWrites {A : Nat → Prop} {op : Bt.Op} {known : List Bt.Page} {vf vk : Value} {s : Bt.St} {b : Nat} {w : World} (h : IsRun A op known vf vk s b w) (writes : List Bt.Page) (v : Value)
 (hw : w.ownsRow (b + 1) 25 9 v writes.length (pageCells writes)) (hv : ∀ c, v.ownBlock = some c → A c) : IsRun A op known vf vk { s with writes := writes } b (w.setCell ⟨b, 10, none⟩ v) := by
 obtain ⟨vn, vw, ve, vc, hr, h1, h2, h3, h4⟩ := h
 have ho : Over b w (w.setCell ⟨b, 10, none⟩ v) := (Over.refl b w).put 10 v
 exact ⟨vn, v, ve, vc, ⟨(hr.blk.put 10 v).cast rfl, hr.known.over ho hr.apart, hr.apart, hr.fresh.over ho hr.apartf, hr.apartf, own_over hr.need ho (by omega), own_over hw ho (by omega), own_over hr.ents ho (by omega), own_over hr.check ho (by omega), hr.none.over ho hr.pos, hr.pos⟩, h1, hv, h3, h4⟩
theorem done_none (A : Nat → Prop) (op : Bt.Op) (known : List Bt.Page) (vf vk : Value) (s : Bt.St) (b : Nat) (writes : List Bt.Page) (G m cw : Nat) (w : World) (h : IsRun A op known vf vk s b w)
 (hw : w.ownsRow (b + 1) 25 9 (.slice (some ⟨G, 0, none⟩) m cw) writes.length (pageCells writes)) (hv : A G) :
 Calls Tryz.prog 94 #[.pointer (some ⟨b, 0, none⟩), (.slice (some ⟨G, 0, none⟩) m cw), .slice none 0 0] w (RunPost A op known vf vk (s.finish writes []) b (.tuple #[]) w) := by
 have HR := hid h
 have HW := hid hw
 have HV := hid hv
 have hlt := h.lt
 obtain ⟨vn, vw, ve, vc, hc⟩ := h.cells
 have hfr := h.free
 have k13 : w.cell? ⟨b, 13, none⟩ = some (.bool s.out.done) := hc 13
 have k10 : w.cell? ⟨b, 10, none⟩ = some vw := hc 10
 clear h hw hv hc
 go_enter Tryz.func94, Tryz.ntmps94
 go_wp2_with fail
 go_at_call 81; refine (fail_none A op known vf vk { s with writes := writes, out := { s.out with done := true } } b 0 _ ?hrun).mono ?_
 case hrun => exact (HR.out.field (s' := { s with out := { s.out with done := true } }) 13 _ (fun _ _ _ _ => rfl)).setWrites writes _ (own_aside HW.out (by show b < b + 1; omega) _) (fun c hc => by simp [Value.ownBlock] at hc; subst hc; exact HV.out)
 rintro e w1 ⟨rfl, hrun1, ho1⟩
 have HR1 := hid hrun1
 clear hrun1
 go_wp2_with fail
 refine bodyPost_end (results_none rfl _ _ _) rfl ?_
 exact ⟨rfl, HR1.out.imp (fun c hc => by
  rcases hc with h1 | h1
  ·exact .inl h1
  ·exact .inr (by simpa using h1)), qV⟩
def DonePost (A : Nat → Prop) (op : Bt.Op) (known : List Bt.Page) (vf vk : Value) (s : Bt.St) (b g : Nat) (w : World) (e : Ending) (w' : World) : Prop :=
 e = .returned (.tuple #[]) ∧ IsRun (fun c => A c ∨ c = g) op known vf vk s b w' ∧ OverTwo b g w w'
theorem OverTwo.of_over {b g : Nat} {w w0 w' : World} (h : Over b w w0) (h2 : OverTwo b g w0 w') : OverTwo b g w w' :=
 ⟨h2.os.trans h.os, h2.tape.trans h.tape, h2.output.trans h.output, Nat.le_trans h.size h2.size, fun k hk hn hg => (h2.block k (Nat.lt_of_lt_of_le hk h.size) hn hg).trans (h.block k hk (by simpa using hn))⟩
theorem done_some (A : Nat → Prop) (op : Bt.Op) (known : List Bt.Page) (vf vk : Value) (s : Bt.St) (b g n cap : Nat) (writes : List Bt.Page) (check : List Int) (G m cw : Nat) (w : World) (h : IsRun A op known vf vk s b w)
 (hw : w.ownsRow (b + 1) 25 9 (.slice (some ⟨G, 0, none⟩) m cw) writes.length (pageCells writes)) (hv : A G) (hq : w.ownsRow (b + 1) 3 1 (.slice (some ⟨g, 0, none⟩) n cap) n (intCells check)) (hn : check.length = n) (hsmall : n ≤ 1000000) (hg : ¬ A g) :
 Calls Tryz.prog 94 #[.pointer (some ⟨b, 0, none⟩), (.slice (some ⟨G, 0, none⟩) m cw), .slice (some ⟨g, 0, none⟩) n cap] w (DonePost A op known vf vk (s.finish writes check) b g w) := by
 have HR := hid h
 have HW := hid hw
 have HV := hid hv
 have HQ := hid hq
 have hlt := h.lt
 obtain ⟨vn, vw, ve, vc, hc⟩ := h.cells
 have hfr := h.free
 have k13 : w.cell? ⟨b, 13, none⟩ = some (.bool s.out.done) := hc 13
 have k10 : w.cell? ⟨b, 10, none⟩ = some vw := hc 10
 clear h hw hv hc hq
 go_enter Tryz.func94, Tryz.ntmps94
 go_wp2_with fail
 have hrun := (HR.out.field (s' := { s with out := { s.out with done := true } }) 13 _ (fun _ _ _ _ => rfl)).setWrites writes _ (own_aside HW.out (by show b < b + 1; omega) _) (fun c hc => by simp [Value.ownBlock] at hc; subst hc; exact HV.out)
 obtain ⟨un, uw, ue, uc, hrun, ha1, ha2, ha3, ha4⟩ := hrun
 go_at_call 81; refine (fail_some op known vf vk { s with writes := writes, out := { s.out with done := true } } b g n cap un uw ue uc check 0 _ hrun ?hq hn hsmall (fun e => hg (ha1 _ e)) (fun e => hg (ha2 _ e)) (fun e => hg (ha3 _ e))).mono ?_
 case hq => exact own_aside (own_aside HQ.out (by show b < b + 1; omega) _) (by show b < b + 1; omega) _
 rintro e w1 ⟨rfl, ⟨m, cp, hr1⟩, ho1⟩
 have HR1 := hid hr1
 have HA := hid (And.intro ha1 (And.intro ha2 ha3))
 clear hr1 hrun ha1 ha2 ha3 ha4
 go_wp2_with fail
 refine bodyPost_end (results_none rfl _ _ _) rfl ?_
 exact ⟨rfl, ⟨un, uw, ue, _, HR1.out, fun c hc => .inl (HA.out.1 c hc), fun c hc => .inl (HA.out.2.1 c hc), fun c hc => .inl (HA.out.2.2 c hc), fun c hc => .inr (by simp [Value.ownBlock] at hc; exact hc.symm)⟩, OverTwo.of_over qV ho1⟩
theorem IsRun.knownRow {A : Nat → Prop} {op : Bt.Op} {known : List Bt.Page} {vf vk : Value} {s : Bt.St} {b : Nat} {w : World} (h : IsRun A op known vf vk s b w) : PgRow w vk known := by
 obtain ⟨vn, vw, ve, vc, hr, _⟩ := h
 exact hr.known
theorem look_known {s s' : Bt.St} {known : List Bt.Page} {q : Bt.Ptr} {l : Bool} {page : Bt.Page} {n : Bt.Node} (h : s.look known q l = (s', some (page, n))) : page ∈ known ∧ s' = s ∧ n = page.node ∧ Bt.readNode page = some n := by
 unfold Bt.St.look at h
 split at h
 ·simp at h
 ·simp at h
 ·rename_i p hp
  split at h
  ·simp at h
  ·rename_i m hm
   simp only [Prod.mk.injEq, Option.some.injEq] at h
   obtain ⟨rfl, rfl, rfl⟩ := h
   refine ⟨lookup_found_ok hp, rfl, ?_, hm⟩
   unfold Bt.readNode at hm
   split at hm
   ·cases hm
   ·split at hm
    ·exact (Option.some.inj hm).symm
    ·cases hm
def WalkRes (A : Nat → Prop) (op : Bt.Op) (known : List Bt.Page) (vf vk : Value) (b : Nat) (s : Bt.St) (p : Bt.Page) (n : Bt.Node) (w : World) (e : Ending) (w' : World) : Prop :=
 IsRun A op known vf vk s b w' ∧ Over b w w' ∧
 ∃ v, e = .returned (.tuple #[.agg (foundCells p n v), .bool false, .bool true]) ∧ w'.ownsRow w.heap.size 69 3 v n.entries.length (entCells n.entries)
structure DescAt (A : Nat → Prop) (op : Bt.Op) (known : List Bt.Page) (vf vk : Value) (s : Bt.St) (b g : Nat) (page : Bt.Page) (n : Bt.Node) (v : Value) (w0 wr : World) : Prop where
 blk : Blk wr g 145 (foundCells page n v)
 own : wr.ownsRow (w0.heap.size + 1) 69 3 v n.entries.length (entCells n.entries)
 run : IsRun A op known vf vk s b wr
 over : Over b w0 wr
def DescHead (A : Nat → Prop) (op : Bt.Op) (known : List Bt.Page) (vf vk : Value) (s : Bt.St) (b g : Nat) (page : Bt.Page) (n : Bt.Node) (w0 : World) (i : Value) (wr : World) : Prop := i = .int .i64 0 ∧ ∃ v, DescAt A op known vf vk s b g page n v w0 wr
theorem descend_here (A : Nat → Prop) (op : Bt.Op) (known : List Bt.Page) (vf vk : Value) (s : Bt.St) (b : Nat) (k : Int) (page : Bt.Page) (n : Bt.Node) (w : World) (h : IsRun A op known vf vk s b w) (hA : ∀ c, A c → c < w.heap.size)
 (hl : s.look known s.root false = (s, some (page, n))) (hd : n.dead = false) (hk : k ≤ n.high) (hlk : Bt.locked page = false) :
 Calls Tryz.prog 90 #[.pointer (some ⟨b, 0, none⟩), .int .i64 n.level, .int .u32 k] w (WalkRes A op known vf vk b { s with ended := true, out := { s.out with height := n.level + 1 } } page n w) := by
 have HR := hid h
 have HL := hid hl
 have hlt := h.lt
 have hlt1 : b < w.heap.size + 1 := by omega
 have HP : Hid page.Ok := hid (h.knownRow.ok page (look_known hl).1)
 have HLK := hid hlk
 have HD := hid hd
 obtain ⟨vn, vw, ve, vc, hc⟩ := h.cells
 have k34 : w.cell? ⟨b, 34, none⟩ = some (.int .i64 s.root.line) := hc 34
 have k35 : w.cell? ⟨b, 35, none⟩ = some (.int .i64 s.root.gen) := hc 35
 have hlv : 0 ≤ n.level ∧ n.level ≤ 8 := by
  have hr := (look_known hl).2.2.2
  unfold Bt.readNode at hr
  split at hr
  ·cases hr
  ·split at hr
   ·rename_i h2
    rw [Option.some.inj hr] at h2
    have hv := h2.1
    unfold Bt.Node.valid at hv
    split at hv
    ·cases hv
    ·omega
   ·cases hr
 have hwr : wrap64 (n.level + 1) = n.level + 1 := by unfold wrap64; omega
 have b1 : decide (n.level < n.level) = false := by simp
 have b2 : decide (n.high < k) = false := by simp; omega
 have b3 : (n.level == n.level) = true := by simp
 clear h hl hc hk hlk hd
 go_enter Tryz.func90, Tryz.ntmps90
 go_wp2_with fail
 go_at_call 92; refine (look_peek A op known vf vk s b s.root _ ?hrun ?hlow).mono ?_
 case hrun => exact HR.out.below qL
 case hlow => exact fun c hc => by have := hA c hc; simp; omega
 rw [HL.out]
 rintro e w1 ⟨hrun1, ho1, v, rfl, hown⟩
 have HR1 := hid hrun1
 have HOWN := hid hown
 have hsv := qSt hown
 clear hrun1 hown
 ((obtain ⟨hc1, hf1, hs1⟩ := qO ho1); (try have := qN0 w w1))
 simp only [foundCells]
 go_wp2_with fail
 go_loopw [10] (fun i wr => DescHead A op known vf vk s b w.heap.size page n w i wr) (fun _ _ => 0)
 case atStart =>
  have BF := (Blk.made w 145 #[.int .i64 0, .int .u64 0, .int .u64 0, .int .u64 0, .int .u64 0, .int .u64 0, .int .u64 0, .int .u64 0, .int .u64 0, .int .i64 0, .bool false, .bool false, .int .u32 0, .int .i64 0, .int .i64 0, .slice none 0 0]).grown ho1 (by simp; omega)
  refine ⟨rfl, v, ⟨?_, ?_, ?_, qV⟩⟩
  ·refine Blk.cast (by have B := BF; exact qK) ?_
   rw [set16]
   rfl
  ·exact own_put16 (own_base HOWN.out (by simp)) (own_not HOWN.out (by simp)) _ _ _ _ _ _ _ _ _ _ _ _ _ _ _ _
  ·refine IsRun.put16 HR1.out (by omega) (fun h1 => by have := hA _ h1; omega) _ _ _ _ _ _ _ _ _ _ _ _ _ _ _ _
 case round =>
  obtain ⟨rfl, u, hda⟩ := hrel
  have HDA := hid hda
  have HC : Hid (foundCells page n u = #[.int .i64 page.line, .int .u64 page.head, .int .u64 page.d0, .int .u64 page.d1, .int .u64 page.d2, .int .u64 page.d3, .int .u64 page.d4, .int .u64 page.d5, .int .u64 page.d6,
   .int .i64 n.level, .bool n.leftmost, .bool n.dead, .int .u32 n.high, .int .i64 n.right.line, .int .i64 n.right.gen, u]) := hid rfl
  have kg := hda.blk.cell
  rw [HC.out] at kg
  have hgw : w.heap.size < wr.heap.size := hda.blk.lt
  have hfg := hda.blk.free
  have hsu := qSt hda.own
  obtain ⟨un, uw, ue, uc, hc⟩ := hda.run.cells
  have hfb := hda.run.free
  have hbw := hda.run.lt
  have j36 : wr.cell? ⟨b, 36, none⟩ = some (.bool s.ended) := hc 36
  have j24 : wr.cell? ⟨b, 24, none⟩ = some (.int .i64 s.out.height) := hc 24
  have hdd := HD.out
  clear hda hc
  go_wp2_with fail
  go_at_call 80; refine (Locked_any page HP.out _).mono ?_; rintro e w2 ⟨rfl, hb2⟩; rw [HLK.out]; ((obtain ⟨hc2, hf2, hs2⟩ := qR hb2); (try have := qN0 w w2); (try have := qN0 wr w2))
  go_wp2_with fail
  have BX := HDA.out.blk
  rw [HC.out] at BX
  have BF2 := Blk.kept (b := w.heap.size) (by have B := BX; exact qK) hb2
  refine bodyPost_ret (results_btt rfl _ _ (w.heap.size) _ _ _ rfl (by have B := BF2; exact qK) Tryz.underlying145 rfl (by kernel_rfl)) rfl ?_
  have R36 := (HDA.out.run.field (s' := { s with ended := true }) 36 (.bool true) (fun _ _ _ _ => rfl)).field (s' := { s with ended := true, out := { s.out with height := n.level + 1 } }) 24 (.int .i64 (n.level + 1)) (fun _ _ _ _ => rfl)
  have HOV := HDA.out.over
  have hnb : u.ownBlock ≠ some b := own_not HDA.out.own (by omega)
  have hng : u.ownBlock ≠ some w.heap.size := own_not HDA.out.own (by omega)
  have hna : ¬ A w.heap.size := fun h1 => by have := hA _ h1; omega
  refine ⟨IsRun.put16 (IsRun.below (IsRun.below R36 qL) hb2) hlt hna _ _ _ _ _ _ _ _ _ _ _ _ _ _ _ _, qV, u, ?_,
   own_base (own_put16 (own_below (own_below (own_set (p := ⟨b, 24, none⟩) (own_set (p := ⟨b, 36, none⟩) HDA.out.own hnb (.bool true)) hnb (.int .i64 (n.level + 1))) qL) hb2) hng _ _ _ _ _ _ _ _ _ _ _ _ _ _ _ _) (by omega)⟩
  ·rw [set16, ← HD.out]
   rfl
def LeafRes (A : Nat → Prop) (op : Bt.Op) (known : List Bt.Page) (vf vk : Value) (b : Nat) (s : Bt.St) (p : Bt.Page) (n : Bt.Node) (w : World) (e : Ending) (w' : World) : Prop :=
 IsRun A op known vf vk s b w' ∧ Over b w w' ∧
 ∃ v, e = .returned (.tuple #[.agg (foundCells p n v), .bool true]) ∧ w'.ownsRow w.heap.size 69 3 v n.entries.length (entCells n.entries)
theorem leaf_here (A : Nat → Prop) (op : Bt.Op) (known : List Bt.Page) (vf vk : Value) (s : Bt.St) (b : Nat) (page : Bt.Page) (n : Bt.Node) (w : World) (h : IsRun A op known vf vk s b w) (hA : ∀ c, A c → c < w.heap.size)
 (hl : s.look known s.root false = (s, some (page, n))) (hlev : n.level = 0) (hd : n.dead = false) (hk : op.key ≤ n.high) (hlk : Bt.locked page = false) :
 Calls Tryz.prog 83 #[.pointer (some ⟨b, 0, none⟩)] w (LeafRes A op known vf vk b { s with ended := true, out := { s.out with height := n.level + 1 } } page n w) := by
 have HR := hid h
 have hlt := h.lt
 have hlt1 : b < w.heap.size + 1 := by omega
 have HD : ∀ wx, IsRun A op known vf vk s b wx → (∀ c, A c → c < wx.heap.size) → Calls Tryz.prog 90 #[.pointer (some ⟨b, 0, none⟩), .int .i64 0, .int .u32 op.key] wx (WalkRes A op known vf vk b { s with ended := true, out := { s.out with height := n.level + 1 } } page n wx) := fun wx h1 h2 => by
  have := descend_here A op known vf vk s b op.key page n wx h1 h2 hl hd hk hlk
  rw [hlev] at this ⊢
  exact this
 have HDD := hid HD
 obtain ⟨vn, vw, ve, vc, hc⟩ := h.cells
 have k1 : w.cell? ⟨b, 1, none⟩ = some (.int .u32 op.key) := hc 1
 clear h hl hd hk hlk hc HD hlev
 go_enter Tryz.func83, Tryz.ntmps83
 go_wp2_with fail
 go_at_call 90; refine (HDD.out _ ?hrun ?hlow).mono ?_
 case hrun => exact HR.out.below qL
 case hlow => exact fun c hc => by have := hA c hc; simp; omega
 rintro e w1 ⟨hrun1, ho1, v, rfl, hown⟩
 have HR1 := hid hrun1
 have HOWN := hid hown
 have hsv := qSt hown
 clear hrun1 hown
 ((obtain ⟨hc1, hf1, hs1⟩ := qO ho1); (try have := qN0 w w1))
 simp only [foundCells]
 go_wp2_with fail
 have BF := (Blk.made w 145 #[.int .i64 0, .int .u64 0, .int .u64 0, .int .u64 0, .int .u64 0, .int .u64 0, .int .u64 0, .int .u64 0, .int .u64 0, .int .i64 0, .bool false, .bool false, .int .u32 0, .int .i64 0, .int .i64 0, .slice none 0 0]).grown ho1 (by simp; omega)
 refine bodyPost_ret (results_bt rfl _ _ (w.heap.size) _ _ _ rfl (by have B := BF; exact qK) Tryz.underlying145 rfl (by kernel_rfl)) rfl ?_
 have hna : ¬ A w.heap.size := fun h1 => by have := hA _ h1; omega
 refine ⟨IsRun.alloc (IsRun.put16 HR1.out hlt hna _ _ _ _ _ _ _ _ _ _ _ _ _ _ _ _) _, qV, v, ?_,
  own_below (own_put16 (own_base HOWN.out (by simp)) (own_not HOWN.out (by simp)) _ _ _ _ _ _ _ _ _ _ _ _ _ _ _ _) (below_alloc (Below.refl _ _) _)⟩
 ·rw [set16]
  rfl
theorem alloc_good {p q : Bt.Page} (hp : p.Ok) (h : Bt.allocate p 4 0 = (q, 0)) : q.Ok ∧ Bt.validP (Bt.at_ q) = true ∧ q.line = p.line ∧ q.head = p.head ∧ q.d0 = 4 + (Bt.tagGen p.d0 + 1) * 256 := by
 unfold Bt.allocate at h
 have hg : 0 ≤ Bt.tagGen p.d0 ∧ Bt.tagGen p.d0 < 16777216 := by unfold Bt.tagGen; omega
 split at h
 ·simp at h
 ·split at h
  ·simp at h
  ·split at h
   ·simp at h
   ·split at h
    ·simp at h
    ·rename_i h1 h2 h3 h4
     simp only [Prod.mk.injEq, and_true] at h
     subst h
     have hd : Bt.packTag 4 (Bt.tagGen p.d0 + 1) 0 = 4 + (Bt.tagGen p.d0 + 1) * 256 := by unfold Bt.packTag; omega
     have h5 : Bt.tagGen (4 + (Bt.tagGen p.d0 + 1) * 256) = Bt.tagGen p.d0 + 1 := by
      generalize Bt.tagGen p.d0 = t at *
      unfold Bt.tagGen
      omega
     refine ⟨⟨hp.head, ?_, ?_, ?_, ?_, ?_, ?_, ?_⟩, ?_, rfl, rfl, hd⟩
     ·show (0 : Int) ≤ Bt.packTag 4 (Bt.tagGen p.d0 + 1) 0 ∧ Bt.packTag 4 (Bt.tagGen p.d0 + 1) 0 < 18446744073709551616
      rw [hd]; omega
     all_goals first | (show (0 : Int) ≤ 0 ∧ (0 : Int) < 18446744073709551616; omega) | skip
     show Bt.validP ⟨p.line, Bt.tagGen (Bt.packTag 4 (Bt.tagGen p.d0 + 1) 0)⟩ = true
     rw [hd, h5]
     simp only [Bt.validP, Bool.and_eq_true, decide_eq_true_eq]
     refine ⟨⟨?_, by omega⟩, by omega⟩
     simpa using fun e => h1 (Or.inl e)
def plantLeaf (e : Bt.Entry) : Bt.Node := ⟨0, true, false, Bt.maxHigh, Bt.nilP, [e]⟩
theorem plant_empty (A : Nat → Prop) (op : Bt.Op) (known : List Bt.Page) (vf vk : Value) (s : Bt.St) (b : Nat) (e : Bt.Entry) (w : World) (h : IsRun A op known vf vk s b w) (hA : ∀ c, A c → c < w.heap.size)
 (hrp : s.rootPage.Ok) (hlk : Bt.locked s.rootPage = false) (hf : op.fresh = []) :
 Calls Tryz.prog 85 #[.pointer (some ⟨b, 0, none⟩), .agg e.cells] w (RunPost A op known vf vk (s.plant op e) b (.tuple #[]) w) := by
 have HX : Hid (s.plant op e = (s.fresh op []).1) := hid (by simp [Bt.St.plant, hlk, Bt.St.fresh, hf])
 have HY : Hid ((s.fresh op []).2 = none) := hid (by simp [Bt.St.fresh, hf])
 have HR := hid h
 have HF := hid hf
 have HRP := hid hrp
 have HLK := hid hlk
 have hlt := h.lt
 have hlt1 : b < w.heap.size + 1 := by omega
 obtain ⟨vn, vw, ve, vc, hc⟩ := h.cells
 have k25 : w.cell? ⟨b, 25, none⟩ = some (.int .i64 s.rootPage.line) := hc 25
 have k26 : w.cell? ⟨b, 26, none⟩ = some (.int .u64 s.rootPage.head) := hc 26
 have k27 : w.cell? ⟨b, 27, none⟩ = some (.int .u64 s.rootPage.d0) := hc 27
 have k28 : w.cell? ⟨b, 28, none⟩ = some (.int .u64 s.rootPage.d1) := hc 28
 have k29 : w.cell? ⟨b, 29, none⟩ = some (.int .u64 s.rootPage.d2) := hc 29
 have k30 : w.cell? ⟨b, 30, none⟩ = some (.int .u64 s.rootPage.d3) := hc 30
 have k31 : w.cell? ⟨b, 31, none⟩ = some (.int .u64 s.rootPage.d4) := hc 31
 have k32 : w.cell? ⟨b, 32, none⟩ = some (.int .u64 s.rootPage.d5) := hc 32
 have k33 : w.cell? ⟨b, 33, none⟩ = some (.int .u64 s.rootPage.d6) := hc 33
 clear h hc hf hrp hlk
 unfold Bt.Entry.cells
 go_enter Tryz.func85, Tryz.ntmps85
 go_wp2_with fail
 go_at_call 80; refine (Locked_any s.rootPage HRP.out _).mono ?_; rintro e w1 ⟨rfl, hb⟩; rw [HLK.out]; ((obtain ⟨hc1, hf1, hs1⟩ := qR hb); (try have := qN0 w w1); (try have := qN1 w w1))
 have HB := hid hb
 go_wp2_with fail
 go_at_call 93; refine (fresh_empty A op known vf vk s b _ [] _ ?hrun ?hlow HF.out).mono ?_
 case hrun => exact HR.out.below qL
 case hlow => exact fun c hc => by have := hA c hc; omega
 rintro e w2 ⟨hrun2, ho2, rfl⟩
 rw [HY.out]
 rw [HY.out] at hrun2
 have HR2 := hid (show IsRun (New A _) op known vf vk _ b w2 from hrun2)
 clear hrun2
 ((obtain ⟨hc2, hf2, hs2⟩ := qO ho2); (try have := qN0 w w2); (try have := qN1 w w2); (try have := qN0 w1 w2))
 simp only [Option.getD_none, Option.isSome_none, zeroPage_cells]
 go_wp2_with fail
 refine bodyPost_ret (results_none rfl _ _ _) rfl ⟨rfl, ?_, qV⟩
 rw [HX.out]
 refine IsRun.alloc (IsRun.imp HR2.out (fun c hc => ?_)) _ |>.below qL
 rcases hc with h1 | h1
 ·exact .inl h1
 ·exact .inr (by omega)
end Go.Proofs.YtjmpekanlmepmaaGreatDoor
