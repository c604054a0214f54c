/- For every list of moves and every number: after a leaf has been killed no inner node names it, after it has been unlinked no node that can be reached names it, and every lookup is as before; no condition beside what the card lists. -/
import Derived.Test.YtjmpekanlmepmaaGreatDoorBB46
import Derived.Test.YtjmpekanlmepmaaGreatDoorUK02
import Derived.Deep.CutBlock
import Derived.BigQuiet
set_option linter.all false
set_option maxRecDepth 20000
set_option maxHeartbeats 8000000
open Go.Lib (hid)
namespace Go.Proofs.YtjmpekanlmepmaaGreatDoor
open Go.RowKit
theorem Z90 (p : Bt.Page) (hp : p.Ok) (n : Bt.Node) (hr : Bt.Z19 p = some n) (w : World) (hg : NoneAt w) :
 Calls Tryz.prog 28 #[.agg p.cells] w (fun e w' => ∃ v, e = .returned (.tuple #[.agg (Z02 n v), .int .i64 0]) ∧ w'.ownsRow w.heap.size 69 3 v n.entries.length (Z04 n.entries) ∧ Below w.heap.size w w') := by
 refine (Z36 p hp w hg).mono ?_
 rintro e w' (⟨h1, _⟩ | ⟨v, h1, h2, h3, h4⟩)
 ·rw [hr] at h1; cases h1
 ·rw [hr] at h1
  obtain rfl := Option.some.inj h1
  exact ⟨v, h2, h3, h4⟩
theorem OverTwo.cell {x P b i : Nat} {w w' : World} (h : OverTwo x P w w') (hb : b < w.heap.size) (h1 : b ≠ x) (h2 : b ≠ P) : w'.cell? ⟨b, i, none⟩ = w.cell? ⟨b, i, none⟩ := by
 have := h.block b hb h1 h2
 simp only [World.cell?, this]
theorem OverTwo.blk {x P b : Nat} {w w' : World} {t : TypeId} {cs : Array Value} (h : OverTwo x P w w') (hb : Blk w b t cs) (h1 : b ≠ x) (h2 : b ≠ P) : Blk w' b t cs := (h.block b hb.lt h1 h2).trans hb
theorem TrAt.page {x P cap G : Nat} {w5 wr : World} {ps : List Bt.Page} {nx : Int} {es : List Bt.Entry} {T : List (List Bt.Cell)} (h : TrAt x P cap G w5 wr ps nx es T) {ix : Nat} (hix : ix < 160) :
 wr.rangeAt P (ix * 9) (Bt.pg ps ((ix : Int) + 96)).cells.toList ∧ (Bt.pg ps ((ix : Int) + 96)).Ok := by
 obtain ⟨vk, vt, vg, hxo, _⟩ := h.ix
 have hl := h.inv.ix.len
 obtain ⟨_, _, h3, h4⟩ := h.inv.ix.at (l := (ix : Int) + 96) (by omega) (by omega)
 rw [show ((ix : Int) + 96 - 96).toNat = ix by omega, List.getElem?_eq_getElem (by omega)] at h4
 have h5 := hxo.pg.row_at (k := ix) (by omega)
 rw [Option.some.inj h4] at h5
 exact ⟨h5, hxo.pg.row.ok _ h3⟩
def Zd2 (n : Bt.Node) (w : World) (a e : Value) (wx : World) : Prop :=
 ∃ g v, a = .pointer (some ⟨g, 0, none⟩) ∧ w.heap.size ≤ g ∧ e = .int .i64 0 ∧ Blk wx g 73 (Z02 n v) ∧ wx.ownsRow w.heap.size 69 3 v n.entries.length (Z04 n.entries) ∧ Below w.heap.size w wx
def AtCut (l : Int) (w : World) (a : Value) (wx : World) : Prop :=
 ∃ g, a = .pointer (some ⟨g, 0, none⟩) ∧ w.heap.size ≤ g ∧ Blk wx g 27 #[.int .i64 l, .int .i64 1] ∧ Below w.heap.size w wx
def Zd3 (x P cap G : Nat) (w6 wc : World) (nx : Int) (pre : List (List Bt.Cell)) (A R : List Bt.Cell) (l : Int) (n : Bt.Node) (i : Value) (wr : World) : Prop :=
 ∃ j : Nat, j ≤ n.entries.length ∧ i = .int .i64 j ∧ Hid (∃ ps es, TrAt x P cap G w6 wr ps nx es (pre ++ [A ++ (l, { n with entries := n.entries.drop j }) :: R]) ∧ OverTwo x P wc wr)
def KillQ (x P cap G : Nat) (w6 wc : World) (nx : Int) (es : List Bt.Entry) (l : Int) (b : Bool) (wr : World) : Prop := ∃ ps T, TrAt x P cap G w6 wr ps nx es T ∧ OverTwo x P wc wr ∧ T ≠ [] ∧ Bt.Z9A l T ∧ (b = true → ∀ c ∈ Bt.flat T, c.1 ≠ l)
theorem KillQ.below {x P cap G : Nat} {w6 wc : World} {nx : Int} {es : List Bt.Entry} {l : Int} {b : Bool} {wr wx : World} (h : KillQ x P cap G w6 wc nx es l b wr) (hb : Below wr.heap.size wr wx) : KillQ x P cap G w6 wc nx es l b wx := by
 obtain ⟨ps, T, h1, h2, h3⟩ := h
 exact ⟨ps, T, h1.below hb, h2.trans (.of_below hb), h3⟩
def Zd4 (lv : List Bt.Cell) (w7 : World) (i : Value) (wr : World) : Prop := ∃ k : Nat, k ≤ lv.length ∧ i = .int .i64 k ∧ Hid (Below w7.heap.size w7 wr)
def KillIn (n : Bt.Node) (w8 : World) (j : Value) (wr : World) : Prop := ∃ m : Nat, m ≤ n.entries.length ∧ j = .int .i64 m ∧ Hid (Below w8.heap.size w8 wr)
def ZcL (wf : World) (i : Value) (wr : World) : Prop := ∃ k : Nat, 1 ≤ k ∧ k ≤ 41 ∧ i = .int .u32 k ∧ Hid (Below wf.heap.size wf wr)
def ZcX (x P cap G : Nat) (w6 wc : World) (nx : Int) (es : List Bt.Entry) (l : Int) (d i : Value) (wr : World) : Prop :=
 ∃ (b : Bool) (k : Nat), d = .bool b ∧ i = .int .u32 k ∧ 1 ≤ k ∧ k ≤ 41 ∧ Hid (KillQ x P cap G w6 wc nx es l b wr)
theorem Zcu (pl : Option Addr) (cl : Nat) (ms : List Mv) (key : Int) (hkey : I64 key) (w : World) (hn : NoneAt w) (hl : MvRow w pl ms) (hlong : ms.length ≤ 9223372036854775807) :
 Calls Tryz.prog 10 #[.slice pl ms.length cl, .int .i64 key] w fun e w' => e = .returned (.bool true) ∧ Below w.heap.size w w' := by
 have HN := hid hn
 have HL := hid hl
 have HKY := hid hkey
 clear hn hl hkey
 by_cases h70 : 70 < ms.length
 ·have b1 : decide ((70 : Int) < (ms.length : Int)) = true := by simp; omega
  have b2 : decide (70 < ms.length) = true := by simp; omega
  clear h70 hlong
  go_enter Tryz.func10, Tryz.ntmps10
  go_wp2_with fail
  go_at_call 21; refine (Z3F _ HN.out).mono ?_
  rintro e1 w1 ⟨rfl, hb1⟩
  go_wp2_with fail
  exact bodyPost_ret (results_tmp rfl _ _ _) rfl ⟨rfl, qL⟩
 have b1 : decide ((70 : Int) < (ms.length : Int)) = false := by simp; omega
 have b2 : decide (70 < ms.length) = false := by simp; omega
 have hm70 : ms.length ≤ 70 := by omega
 clear h70 hlong
 obtain ⟨k, hk0⟩ : ∃ k, keyOf key = k := ⟨_, rfl⟩
 have hrk := Z3H key
 rw [hk0] at hrk
 have HK0 := hid hk0
 have HRK := hid hrk
 clear hk0 hrk
 go_enter Tryz.func10, Tryz.ntmps10
 go_wp2_with fail
 go_at_call 21; refine (Z3F _ HN.out).mono ?_
 rintro e1 w1 ⟨rfl, hb1⟩
 have HB1 := hid hb1
 go_wp2_with fail
 go_at_call 26; refine (Z8P pl cl ms _ (HN.out.below hb1) (HL.out.below hb1) hm70).mono ?_
 rintro e5 w5 ⟨x, P, cap, ps, nx, es, T, rfl, hplay⟩
 obtain ⟨vk, vt, vg, hbase, hfin⟩ := FinAt.start (Z := False) hplay (fun h => h.elim)
 have HBS := hid hbase
 have HPB := hid hplay.below
 have HLOW := hid hplay.low
 have ne := Z0U
 have eq := eql_ptr
 clear hb1
 go_wp2_with fail
 go_at_call 30; refine (Z82 x P cap ms.length vk vt vg False es w5 hbase (by omega) ps nx T hfin).mono ?_
 rintro e6 w6 ⟨rfl, ho6, ps6, nx6, T6, hf6, hpo6, hsi6⟩
 have htr : TrAt x P cap ms.length w6 w6 ps6 nx6 es T6 := ⟨hf6.inv, FinAt.ixG HBS.out hf6, OverTwo.refl _ _ _⟩
 have hnx : nx6 < 256 := by
  obtain ⟨ins, K, h1, h2, _⟩ := hf6.cnt
  have := (h2.bound hf6.inv.tree (by omega)).2
  omega
 have HTR := hid htr
 have HNX := hid hnx
 have hx6 : x < w6.heap.size := hf6.blk.lt
 have hP6 : P < w6.heap.size := hf6.pg.lt
 have HBF : Hid (∀ wz, OverTwo x P w6 wz → Below w.heap.size w wz) := hid (fun wz ho => by
  have hb1 := HB1.out
  have hb5 := HPB.out
  have hPx := HBS.out.hPx
  have := HLOW.out
  have hw6 := hf6.over.to_below hb5 (by omega) (by omega)
  exact Z0O hb1 (ho.to_below hw6 (by omega) (by omega)))
 clear hbase hfin hplay hf6 hpo6 hsi6 ho6 htr hnx HBS HPB HLOW
 go_wp2_with fail
 go_at_call 25; refine (Z2w key HKY.out _).mono ?_; rintro e0 w0 ⟨rfl, hw0⟩; obtain rfl := hw0.symm; clear hw0
 rw [HK0.out]
 obtain ⟨o, hoc, hc1, hc2, hcall⟩ := TrAt.find HTR.out HRK.out.1 HRK.out.2
 have HC := hid hcall
 clear hcall
 unfold Z6D Z0d Bt.nilP at HC
 go_wp2_with fail
 go_at_call 31; refine (HC.out _ qL).mono ?_
 rintro e8 w8 ⟨ve, vc, rfl, ht8, ho8, hve, hvc⟩
 have hse := qSt hve
 have HT8 := hid ht8
 have hx8 : x < w8.heap.size := Nat.lt_of_lt_of_le hx6 ht8.over.size
 have hP8 : P < w8.heap.size := Nat.lt_of_lt_of_le hP6 ht8.over.size
 have hlen1 : o.check.length = 1 := by
  by_cases hT : T6 = []
  ·rw [hc1 hT]; rfl
  ·obtain ⟨_, _, _, _, _, _, _, _, _, h⟩ := hc2 hT
   rw [h]; rfl
 rw [hlen1] at hvc
 obtain ⟨gc, cc, rfl⟩ := Z0D hvc (by omega)
 have hgc := (Z0X hvc).2
 have hgcx : w0.heap.size ≤ gc := (Z0X hvc).1
 obtain ⟨lc, hlc⟩ : ∃ lc, o.check = [lc] := List.length_eq_one_iff.1 hlen1
 have hvc1 : w8.ownsRow w0.heap.size 3 1 (.slice (some ⟨gc, 0, none⟩) 1 cc) 1 [.int .i64 lc] := by have := hvc; rw [hlc] at this; exact this
 have HVC := hid hvc1
 simp only [Z0n]
 rw [hoc]
 clear hoc HC hvc hvc1 hlen1
 go_upto_region 8 with (fail)
 obtain ⟨w9, hw9⟩ : ∃ w9, w9 = w8.alloc (.cells (#[.int .i64 0, .bool o.found, .bool o.done, .bool o.split, .bool o.unposted, .bool o.dead, .bool o.more, .int .i64 o.to.line, .int .i64 o.to.gen, ve, .slice (some ⟨gc, 0, none⟩) 1 cc, .int .i64 o.hops, .int .i64 o.fresh, .int .i64 o.height]) 63) := ⟨_, rfl⟩
 rw [← hw9]
 have B9 : Blk w9 w8.heap.size 63 #[.int .i64 0, .bool o.found, .bool o.done, .bool o.split, .bool o.unposted, .bool o.dead, .bool o.more, .int .i64 o.to.line, .int .i64 o.to.gen, ve, .slice (some ⟨gc, 0, none⟩) 1 cc, .int .i64 o.hops, .int .i64 o.fresh, .int .i64 o.height] := by rw [hw9]; exact Blk.made _ _ _
 have hb9 : Below w8.heap.size w8 w9 := by rw [hw9]; exact qL
 have k9 := B9.cell
 have l9 := B9.lt
 have l9' : w8.heap.size < w9.heap.size := l9
 have HB9 := hid B9
 have hx9 : x < w9.heap.size := Nat.lt_of_lt_of_le hx8 hb9.size
 have hP9 : P < w9.heap.size := Nat.lt_of_lt_of_le hP8 hb9.size
 have hgc9 : gc < w9.heap.size := Nat.lt_of_lt_of_le hgc hb9.size
 have ht9 := HT8.out.below hb9
 have HT9 := hid ht9
 have HVC9 := hid (own_below HVC.out hb9)
 have yy0 : w9.cell? ⟨gc, 0, none⟩ = some (.int .i64 lc) := Z0i HVC9.out 0 _ rfl
 clear hw9 B9 hb9 HT8 hse hve ht8 ho8
 by_cases hT : T6 = []
 ·have hck := hc1 hT
  rw [hlc] at hck
  obtain rfl : lc = 96 := by simpa using hck
  obtain ⟨vk', vt', vg', hxo, _⟩ := ht9.ix
  have hkl : (keysOf es) = [] := by
   have := ht9.inv.holds
   rw [← this, hT]; rfl
  have hko := hxo.keys
  rw [hkl] at hko
  obtain ⟨pk, ck, rfl⟩ := Z2q hko
  have kx2 : w9.cell? ⟨x, 2, none⟩ = some (.slice pk 0 ck) := hxo.blk.cell 2
  clear hc1 hc2 ht9 hxo hko hkl hT hck hlc
  go_wp2_with fail
  refine bodyPost_ret (results_tmp rfl _ _ _) rfl ⟨rfl, HBF.out _ (HT9.out.over.trans (.of_below ?_))⟩
  exact qL
 obtain ⟨pre, A, l, n, R, hT6, hlow, hhi, hd, hck⟩ := hc2 hT
 rw [hlc] at hck
 obtain rfl : lc = l := by simpa using hck
 have hlm : (lc, n) ∈ Bt.flat T6 := by rw [hT6]; simp [Bt.flat]
 have hlr := ht9.inv.range _ hlm
 have hnb := ht9.inv.bound
 obtain ⟨ix, rfl⟩ : ∃ ix : Nat, lc = (ix : Int) + 96 := ⟨(lc - 96).toNat, by simp only at hlr; omega⟩
 have hix : 9 ≤ ix ∧ ix < 160 := by simp only at hlr; omega
 have b96 : (((ix : Int) + 96) == 96) = false := by rw [beq_eq_false_iff_ne]; omega
 obtain ⟨vk', vt', vg', hxo, _⟩ := ht9.ix
 have ky0 : w9.cell? ⟨x, 0, none⟩ = some (.slice (some ⟨P, 0, none⟩) ps6.length cap) := hxo.blk.cell 0
 rw [ht9.inv.ix.len] at ky0
 obtain ⟨hrow, hpok⟩ := ht9.page hix.2
 obtain ⟨q0, q1, q2, q3, q4, q5, q6, q7, q8⟩ := nine hrow
 obtain ⟨pg, hpg⟩ : ∃ pg, Bt.pg ps6 ((ix : Int) + 96) = pg := ⟨_, rfl⟩
 have hread := (ht9.inv.sees _ hlm).node
 simp only [hpg] at hread hpok q0 q1 q2 q3 q4 q5 q6 q7 q8
 have HRD := hid hread
 have HPK := hid hpok
 have HNO9 := hid hxo.none
 have HT6 := hid hT6
 have HLOW := hid hlow
 have HHI := hid hhi
 have HD := hid hd
 clear hc1 hc2 ht9 hxo hT hT6 hlow hhi hd hck hlm hlr hnb hrow hpg hread hpok hlc
 go_wp2_with fail
 have wx0 : IntKind.i64.wrap (ix : Int) = ix := by rw [IntKind.wrap_i64]; omega
 have bx3 : (0 : Int) ≤ ix := by omega
 have bx4 : (ix : Int) < 160 := by omega
 go_cut [9, 10] from 77 to 91 (fun a e wx => Zd2 n w9 a e wx)
 case first =>
  refine qA fun hSt => ?_
  refine qS [0, 1, 2, 3, 4, 5, 6, 7, 8, 9, 10] ?_
  iterate 11 (refine qT ?_; simp only [Act.put, qY])
  refine Z00.done ?_
  refine wpAnyH_ready (rs := [11, 15]) (by kernel_rfl) (by simp) ?_
  refine AllReadyH.cons rfl (fun K hK => ?_) (AllReadyH.cons rfl (fun K hK => ?_) (AllReadyH.nil))
  ·skip
   rw [if_pos (by rfl)]
   go_simp
   clear wx0; go_at_call 28; refine (Z90 pg HPK.out n HRD.out _ ?hng).mono ?_; (case hng => exact HNO9.out.below qL); rintro e1 wq1 ⟨v, rfl, hown, hb⟩; have hsv := qSt hown; ((obtain ⟨hc1, hf1, hs1⟩ := qR hb); (try have := qN0 w9 wq1); (try have := qN1 w9 wq1)); simp only [Z02]
   go_wp2_with fail
   refine hK.out _ _ (SteadyAll.of qL) (fun hHeld => ?_)
   clear hK K
   refine qS [12, 13, 14] ?_
   iterate 3 (refine qT ?_; simp only [Act.put, qY])
   refine Z00.done ?_
   refine qH 15 fun K hK => ?_
   go_simp
   refine hK.out _ _ (SteadyAll.of qL) (fun hHeld => ?_)
   clear hK K
   refine qH 16 fun K hK => ?_
   go_simp
   refine hK.out _ _ (SteadyAll.of qL) (fun hHeld => ?_)
   clear hK K
   refine qS [17] ?_
   refine qT ?_; simp only [Act.put, qY]
   refine Z00.done ?_
   refine qD ?_ _
   go_wp2_with fail
   go_meet
   refine ⟨_, v, rfl, ?_, rfl, ?_, ?_, ?_⟩
   ·first | omega | (simp; omega)
   ·exact Blk.made _ _ _
   ·refine own_base (own_below hown ?_) ?_
    ·exact qL
    ·simp
   ·exact qL
  ·skip
   rw [if_pos (by rfl)]
   go_simp
   refine hK.out _ _ (SteadyAll.of qL) (fun hHeld => ?_)
   clear hK K
   refine qH 11 fun K hK => ?_
   go_simp
   clear wx0; go_at_call 28; refine (Z90 pg HPK.out n HRD.out _ ?hng2).mono ?_; (case hng2 => exact HNO9.out.below qL); rintro e1 wq1 ⟨v, rfl, hown, hb⟩; have hsv := qSt hown; ((obtain ⟨hc1, hf1, hs1⟩ := qR hb); (try have := qN0 w9 wq1); (try have := qN1 w9 wq1)); simp only [Z02]
   go_wp2_with fail
   refine hK.out _ _ (SteadyAll.of qL) (fun hHeld => ?_)
   clear hK K
   refine qS [12, 13, 14] ?_
   iterate 3 (refine qT ?_; simp only [Act.put, qY])
   refine Z00.done ?_
   refine qH 16 fun K hK => ?_
   go_simp
   refine hK.out _ _ (SteadyAll.of qL) (fun hHeld => ?_)
   clear hK K
   refine qS [17] ?_
   refine qT ?_; simp only [Act.put, qY]
   refine Z00.done ?_
   refine qD ?_ _
   go_wp2_with fail
   have BN := (show Blk (w9.drew.alloc (.cells #[.int .i64 0, .bool false, .bool false, .int .u32 0, .int .i64 0, .int .i64 0, .slice none 0 0] 73)) w9.drew.heap.size 73 #[.int .i64 0, .bool false, .bool false, .int .u32 0, .int .i64 0, .int .i64 0, .slice none 0 0] from Blk.made _ _ _).kept hb
   go_meet
   have hnt := Z2F (g := w9.drew.heap.size) hown (by simp)
   refine ⟨_, v, rfl, ?_, rfl, ?_, ?_, ?_⟩
   ·first | omega | (simp; omega)
   ·exact BN.all7 _ _ _ _ _ _ _
   ·exact own_base (Z0G (Z0G (Z0G (Z0G (Z0G (Z0G (Z0G hown hnt _) hnt _) hnt _) hnt _) hnt _) hnt _) hnt _) (by simp)
   ·exact qL
 case rest =>
  rename World => wa
  obtain ⟨g, v, rfl, hg, rfl, BG, hvo, hbc⟩ := hcut
  obtain ⟨pv, cv, rfl⟩ := Z2q hvo
  have HTC := hid (HT9.out.below hbc)
  have HVO := hid hvo
  have HBG := hid BG
  have HB9c := hid (HB9.out.kept hbc)
  have HVCc := hid (own_below HVC9.out hbc)
  have kg : ∀ i, wa.cell? ⟨g, i, none⟩ = (Z02 n (.slice pv n.entries.length cv))[i]? := BG.cell
  have lg := BG.lt
  have hxc : x < wa.heap.size := Nat.lt_of_lt_of_le hx9 hbc.size
  have hgx : g ≠ x := by omega
  have hgP : g ≠ P := by omega
  have n5 : n.entries.length ≤ 5 := (Bt.Node.valid_parts (HT9.out.inv.sees ((ix : Int) + 96, n) (by rw [HT6.out]; simp [Bt.flat])).good.valid).2.2.1
  clear wx0 BG hvo hbc k9 l9 HB9 HVC9 HT9 HNO9 ky0 yy0 q0 q1 q2 q3 q4 q5 q6 q7 q8
  go_wp2_with fail
  go_loopw [11] (fun i wr => Zd3 x P cap ms.length w0 wa nx6 pre A R ((ix : Int) + 96) n i wr) (fun i _ => ((n.entries.length : Int) - intOf i).toNat)
  case atStart => exact ⟨0, Nat.zero_le _, rfl, hid ⟨ps6, es, by rw [List.drop_zero]; rw [← HT6.out]; exact HTC.out, OverTwo.refl _ _ _⟩⟩
  case round =>
   obtain ⟨j, hj, rfl, HQ⟩ := hrel
   rename World => wr
   obtain ⟨psj, esj, htj, hoj⟩ := HQ.out
   have HTJ := hid htj
   have HOJ := hid hoj
   have hBgr := hoj.blk HBG.out hgx hgP
   have kgr : ∀ i, wr.cell? ⟨g, i, none⟩ = (#[.int .i64 n.level, .bool n.leftmost, .bool n.dead, .int .u32 n.high, .int .i64 n.right.line, .int .i64 n.right.gen, .slice pv n.entries.length cv] : Array Value)[i]? := hBgr.cell
   have lgr := hBgr.lt
   have hxr : x < wr.heap.size := Nat.lt_of_lt_of_le hxc hoj.size
   have hrow := Z2o HVO.out hoj (by omega) (by omega)
   have HROW := hid hrow
   clear hrow hBgr hoj htj
   by_cases hjm : j < n.entries.length
   ·obtain ⟨e, he⟩ : ∃ e, n.entries[j] = e := ⟨_, rfl⟩
    have hdr : n.entries.drop j = e :: n.entries.drop (j + 1) := by rw [List.drop_eq_getElem_cons hjm, he]
    obtain ⟨gu, cu2, hpu⟩ := Z0D HROW.out (by omega)
    simp only [Value.slice.injEq, true_and] at hpu
    obtain ⟨rfl, rfl⟩ := hpu
    obtain ⟨kk, hkk⟩ : ∃ kk, e.key = kk := ⟨_, rfl⟩
    have d0 : wr.cell? ⟨gu, j * 3, none⟩ = some (.int .u32 kk) := by rw [← hkk, ← he]; exact Z0i HROW.out _ _ (Z0a n.entries j n.entries[j] (List.getElem?_eq_getElem hjm) 0 _ rfl)
    have hgur : gu < wr.heap.size := (Z0X HROW.out).2
    have hguc : gu < wa.heap.size := (Z0X HVO.out).2
    have hgu9 : w9.heap.size ≤ gu := (Z0X HVO.out).1
    obtain ⟨r1, r2, hrem⟩ := TrAt.rem HTJ.out HNX.out rfl HD.out hdr
    rw [hkk] at r1 r2 hrem
    have HRM := hid hrem
    have bj0 : (0 : Int) ≤ j := by omega
    have bj1 : (j : Int) < n.entries.length := by omega
    have bj3 : decide ((j : Int) < n.entries.length) = true := decide_eq_true (by omega)
    have bj4 : decide (j < n.entries.length) = true := decide_eq_true hjm
    have wj1 : IntKind.i64.wrap ((j : Int) + 1) = (j : Int) + 1 := by rw [IntKind.wrap_i64]; omega
    have wk0 : IntKind.i64.wrap kk = kk := by unfold Bt.Z0e at r2; rw [IntKind.wrap_i64]; omega
    have wk1 : IntKind.i64.wrap (kk - 1) = kk - 1 := by unfold Bt.Z0e at r2; rw [IntKind.wrap_i64]; omega
    have HKK := hid hkk
    clear hrem he hdr hkk
    by_cases h40 : kk ≤ 40
    ·obtain ⟨ps', es', hdo⟩ := HRM.out h40
     have HDO := hid hdo
     have b40 : decide (kk ≤ 40) = true := decide_eq_true h40
     have b41 : decide (40 < kk) = false := decide_eq_false (by omega)
     clear hdo r1 r2
     go_wp2_with fail
     go_at_call 23; refine (HDO.out (j : Int) _ qL).mono ?_
     rintro e10 w10 ⟨rfl, ht10, ho10⟩
     have kg10 : ∀ i, w10.cell? ⟨g, i, none⟩ = (#[.int .i64 n.level, .bool n.leftmost, .bool n.dead, .int .u32 n.high, .int .i64 n.right.line, .int .i64 n.right.gen, .slice (some ⟨gu, 0, none⟩) n.entries.length cv] : Array Value)[i]? := fun i => (ho10.cell (b := g) (i := i) (by simpa using lgr) hgx hgP).trans (kgr i)
     have d10 : w10.cell? ⟨gu, j * 3, none⟩ = some (.int .u32 kk) := (ho10.cell (b := gu) (i := j * 3) (by simpa using hgur) (by omega) (by omega)).trans d0
     have lg10 : g < w10.heap.size := Nat.lt_of_lt_of_le lgr ho10.size
     have lu10 : gu < w10.heap.size := Nat.lt_of_lt_of_le hgur ho10.size
     have HO10 := hid ((HOJ.out.trans (.of_below (show Below wr.heap.size wr _ from qL))).trans ho10)
     have HT10 := hid ht10
     clear ht10 ho10 kgr d0
     go_wp2_with fail
     refine ⟨⟨j + 1, hjm, by rw [show ((j : Int) + 1) = ((j + 1 : Nat) : Int) by omega], hid ⟨ps', es', HT10.out.below ?_, HO10.out.trans (.of_below ?_)⟩⟩, by simp [intOf]; omega⟩
     ·exact qL
     ·exact qL
    ·have hra := TrAt.remAny HTJ.out HNX.out (kk - 1) (by unfold Bt.Z0e at r2; omega) (j : Int)
     have HDO := hid hra
     have b40 : decide (kk ≤ 40) = false := decide_eq_false h40
     have b41 : decide (40 < kk) = true := decide_eq_true (by omega)
     clear hra r1 r2
     go_wp2_with fail
     go_at_call 23; refine (HDO.out _ qL).mono ?_
     rintro e10 w10 ⟨rfl, ho10⟩
     have kg10 : ∀ i, w10.cell? ⟨g, i, none⟩ = (#[.int .i64 n.level, .bool n.leftmost, .bool n.dead, .int .u32 n.high, .int .i64 n.right.line, .int .i64 n.right.gen, .slice (some ⟨gu, 0, none⟩) n.entries.length cv] : Array Value)[i]? := fun i => (ho10.cell (b := g) (i := i) (by simpa using lgr) hgx hgP).trans (kgr i)
     have d10 : w10.cell? ⟨gu, j * 3, none⟩ = some (.int .u32 kk) := (ho10.cell (b := gu) (i := j * 3) (by simpa using hgur) (by omega) (by omega)).trans d0
     have lg10 : g < w10.heap.size := Nat.lt_of_lt_of_le lgr ho10.size
     have lu10 : gu < w10.heap.size := Nat.lt_of_lt_of_le hgur ho10.size
     have HO10 := hid ((HTJ.out.over.trans (.of_below (show Below wr.heap.size wr _ from qL))).trans ho10)
     clear ho10 kgr d0
     go_wp2_with fail
     refine bodyPost_ret (results_tmp rfl _ _ _) rfl ⟨rfl, HBF.out _ (HO10.out.trans (.of_below ?_))⟩
     exact qL
   ·have bj3 : decide ((j : Int) < n.entries.length) = false := decide_eq_false (by omega)
    have bj4 : decide (j < n.entries.length) = false := decide_eq_false hjm
    obtain ⟨n1, hn1⟩ : ∃ n1 : Bt.Node, n1 = { n with entries := n.entries.drop j } := ⟨_, rfl⟩
    have hd1 : n1.dead = false := by rw [hn1]; exact HD.out
    have hh1 : k ≤ n1.high := by rw [hn1]; exact HHI.out
    have htj1 := HTJ.out
    rw [← hn1] at htj1
    have HT1 := hid htj1
    have HD1 := hid hd1
    have HH1 := hid hh1
    obtain ⟨vk2, vt2, vg2, hxo, _⟩ := htj1.ix
    have kx0 : wr.cell? ⟨x, 0, none⟩ = some (.slice (some ⟨P, 0, none⟩) psj.length cap) := hxo.blk.cell 0
    rw [htj1.inv.ix.len] at kx0
    have hPr : P < wr.heap.size := hxo.pg.lt
    obtain ⟨hrow, hpok⟩ := htj1.page hix.2
    obtain ⟨p0, p1, p2, p3, p4, p5, p6, p7, p8⟩ := nine hrow
    have hat : Bt.at_ (Bt.pg psj ((ix : Int) + 96)) = Bt.ptr ((ix : Int) + 96) := (htj1.inv.sees ((ix : Int) + 96, n1) (by simp [Bt.flat])).at
    obtain ⟨pgj, hpgj⟩ : ∃ pgj, Bt.pg psj ((ix : Int) + 96) = pgj := ⟨_, rfl⟩
    simp only [hpgj] at hat hpok p0 p1 p2 p3 p4 p5 p6 p7 p8
    have HPJ := hid hpok
    have HAT := hid hat
    have l8 : w8.heap.size < w9.heap.size := l9'
    have hB9r := HOJ.out.blk HB9c.out (by omega) (by omega)
    have k9r := hB9r.cell
    have l9r := hB9r.lt
    have y0r : wr.cell? ⟨gc, 0, none⟩ = some (.int .i64 ((ix : Int) + 96)) := Z0i (Z2o HVCc.out HOJ.out (by omega) (by omega)) 0 _ rfl
    have hgcr : gc < wr.heap.size := (Z0X (Z2o HVCc.out HOJ.out (by omega) (by omega))).2
    have wx0 : IntKind.i64.wrap (ix : Int) = ix := by rw [IntKind.wrap_i64]; omega
    clear hxo hrow hpgj hat hpok hB9r htj1 hn1 hd1 hh1 HTJ HOJ HQ HROW
    go_wp2_with fail
    clear kgr
    go_cut [12] from 130 to 141 (fun a wx => AtCut ((ix : Int) + 96) wr a wx)
    case first =>
     refine qA fun hSt => ?_
     refine qS [0, 1, 2, 3, 4, 5, 6, 7, 8, 9, 10] ?_
     iterate 11 (refine qT ?_; simp only [Act.put, qY])
     refine Z00.done ?_
     refine wpAnyH_ready (rs := [11, 12]) (by kernel_rfl) (by simp) ?_
     refine AllReadyH.cons rfl (fun K hK => ?_) (AllReadyH.cons rfl (fun K hK => ?_) (AllReadyH.nil))
     ·skip
      rw [if_pos (by rfl)]
      go_simp
      clear wx0; go_at_call 33; refine (Z4r pgj HPJ.out _).mono ?_; rintro e1 wq1 ⟨rfl, hb⟩; rw [HAT.out]; ((obtain ⟨hc1, hf1, hs1⟩ := qR hb); (try have := qN0 wr wq1); (try have := qN1 wr wq1)); simp only [Bt.ptr, Bt.Ptr.cells]
      go_wp2_with fail
      refine hK.out _ _ (SteadyAll.of qL) (fun hHeld => ?_)
      clear hK K
      refine qH 12 fun K hK => ?_
      go_simp
      refine hK.out _ _ (SteadyAll.of qL) (fun hHeld => ?_)
      clear hK K
      refine qH 13 fun K hK => ?_
      go_simp
      refine hK.out _ _ (SteadyAll.of qL) (fun hHeld => ?_)
      clear hK K
      refine qD ?_ _
      go_wp2_with fail
      go_meet
      refine ⟨_, rfl, ?_, ?_, ?_⟩
      ·first | omega | (simp; omega)
      ·exact Blk.made _ _ _
      ·exact qL
     ·skip
      rw [if_pos (by rfl)]
      go_simp
      refine hK.out _ _ (SteadyAll.of qL) (fun hHeld => ?_)
      clear hK K
      refine qH 11 fun K hK => ?_
      go_simp
      clear wx0; go_at_call 33; refine (Z4r pgj HPJ.out _).mono ?_; rintro e1 wq1 ⟨rfl, hb⟩; rw [HAT.out]; ((obtain ⟨hc1, hf1, hs1⟩ := qR hb); (try have := qN0 wr wq1); (try have := qN1 wr wq1)); simp only [Bt.ptr, Bt.Ptr.cells]
      go_wp2_with fail
      refine hK.out _ _ (SteadyAll.of qL) (fun hHeld => ?_)
      clear hK K
      refine qH 13 fun K hK => ?_
      go_simp
      refine hK.out _ _ (SteadyAll.of qL) (fun hHeld => ?_)
      clear hK K
      refine qD ?_ _
      go_wp2_with fail
      have BN := (show Blk (wr.drew.alloc (.cells #[.int .i64 0, .int .i64 0] 27)) wr.drew.heap.size 27 #[.int .i64 0, .int .i64 0] from Blk.made _ _ _).kept hb
      go_meet
      refine ⟨_, rfl, ?_, ?_, ?_⟩
      ·first | omega | (simp; omega)
      ·exact BN.all2 _ _
      ·exact qL
    case rest =>
     rename World => wd
     obtain ⟨ga, rfl, hga, BA, hbd⟩ := hcut
     obtain ⟨o2, ps2, T2, hcase, hcall2⟩ := TrAt.kill (HT1.out.below hbd) HRK.out.1 HRK.out.2 rfl HLOW.out HH1.out HD1.out
     have HC2 := hid hcall2
     have HBA := hid BA
     have hxd : x < wd.heap.size := Nat.lt_of_lt_of_le hxr hbd.size
     have hgax : ga ≠ x := by omega
     have hgaP : ga ≠ P := by omega
     clear hcall2 BA wx0 kx0 p0 p1 p2 p3 p4 p5 p6 p7 p8 k9r l9r y0r hgcr HT1 HD1 HH1 hbd bj3 bj4
     unfold Z85 Z0d Bt.nilP at HC2
     go_wp2_with fail
     go_at_call 31; refine (HC2.out _ qL).mono ?_
     rintro e11 w11 ⟨ve2, vc2, rfl, ht11, ho11, hve2, hvc2⟩
     have hse2 := qSt hve2
     have hsc2 := qSt hvc2
     have HT11 := hid ht11
     have HBA11 := hid (ho11.blk (HBA.out.kept (show Below wd.heap.size wd _ from qL)) hgax hgaP)
     have hx11 : x < w11.heap.size := Nat.lt_of_lt_of_le hxd ho11.size
     simp only [Z0n]
     clear HC2 hve2 hvc2 ht11 ho11 HBA
     go_upto_region 24 with (fail)
     obtain ⟨w12, hw12⟩ : ∃ w12, w12 = w11.alloc (.cells (#[.int .i64 o2.code, .bool o2.found, .bool o2.done, .bool o2.split, .bool o2.unposted, .bool o2.dead, .bool o2.more, .int .i64 o2.to.line, .int .i64 o2.to.gen, ve2, vc2, .int .i64 o2.hops, .int .i64 o2.fresh, .int .i64 o2.height]) 63) := ⟨_, rfl⟩
     rw [← hw12]
     have B12 : Blk w12 w11.heap.size 63 #[.int .i64 o2.code, .bool o2.found, .bool o2.done, .bool o2.split, .bool o2.unposted, .bool o2.dead, .bool o2.more, .int .i64 o2.to.line, .int .i64 o2.to.gen, ve2, vc2, .int .i64 o2.hops, .int .i64 o2.fresh, .int .i64 o2.height] := by rw [hw12]; exact Blk.made _ _ _
     have hb12 : Below w11.heap.size w11 w12 := by rw [hw12]; exact qL
     have k12 := B12.cell
     have l12 := B12.lt
     have HT12 := hid (HT11.out.below hb12)
     have HBA12 := hid (HBA11.out.kept hb12)
     have hx12 : x < w12.heap.size := Nat.lt_of_lt_of_le hx11 hb12.size
     clear hw12 B12 hb12 hse2 hsc2 HT11 HBA11 hx11
     rcases hcase with ⟨hod, hcs⟩ | ⟨hod, hoc2, hdead, hne2⟩
     ·rw [hod] at k12
      clear hod
      rcases hcs with hc | hc | ⟨hc, hf⟩
      ·rw [hc] at k12
       clear hc
       go_wp2_with fail
       refine bodyPost_ret (results_tmp rfl _ _ _) rfl ⟨rfl, HBF.out _ (HT12.out.over.trans (.of_below ?_))⟩
       exact qL
      ·rw [hc] at k12
       clear hc
       go_wp2_with fail
       refine bodyPost_ret (results_tmp rfl _ _ _) rfl ⟨rfl, HBF.out _ (HT12.out.over.trans (.of_below ?_))⟩
       exact qL
      ·rw [hc, hf] at k12
       clear hc hf
       go_wp2_with fail
       refine bodyPost_ret (results_tmp rfl _ _ _) rfl ⟨rfl, HBF.out _ (HT12.out.over.trans (.of_below ?_))⟩
       exact qL
     ·rw [hod, hoc2] at k12
      clear hod hoc2
      have HDE := hid hdead
      have HNE := hid hne2
      clear hdead hne2
      go_upto_block 2 with (fail)
      clear k12 l12
      go_cut [14, 15, 16, 17] from 176 to 200 (fun d i _ _ wx => ZcX x P cap ms.length w0 w12 nx6 esj ((ix : Int) + 96) d i wx)
      case first =>
       go_wp2_with fail
       go_loopw [14, 15] (fun d i wr => ZcX x P cap ms.length w0 w12 nx6 esj ((ix : Int) + 96) d i wr) (fun _ i _ => (41 - intOf i).toNat)
       case atStart => exact ⟨false, 1, rfl, rfl, by omega, by omega, hid ⟨ps2, T2, HT12.out.below qL, .of_below qL, HNE.out, HDE.out, fun h => by cases h⟩⟩
       case round =>
        obtain ⟨d, kn, rfl, rfl, hk1, hk2, HQ2⟩ := hrel
        rename World => wy
        by_cases hk3 : kn ≤ 40
        ·have bk : decide ((kn : Int) ≤ 40) = true := by simp; omega
         cases d with
         | true =>
           go_wp2_with fail
           go_meet
           exact ⟨true, kn, rfl, rfl, hk1, hk2, hid (KillQ.below HQ2.out qL)⟩
         | false =>
           obtain ⟨psy, Ty, hty, hoy, hney, hdey, _⟩ := HQ2.out
           obtain ⟨o3, ps3, T3, hd3, hne3, hg3, hcall3⟩ := TrAt.unlink hty (k := (kn : Int)) (by omega) (by unfold Bt.Z0e; omega) hdey hney
           have HC3 := hid hcall3
           have HD3 := hid hd3
           have HN3 := hid hne3
           have HG3 := hid hg3
           have HOY := hid hoy
           have HBAy := hid (hoy.blk HBA12.out hgax hgaP)
           have hxy : x < wy.heap.size := Nat.lt_of_lt_of_le hx12 hoy.size
           have wk1 : IntKind.u32.wrap ((kn : Int) + 1) = (kn : Int) + 1 := by rw [IntKind.wrap_u32]; omega
           clear hty hoy hney hdey hcall3 hd3 hne3 hg3 HQ2
           unfold Z5y Z0d Bt.nilP at HC3
           go_wp2_with fail
           go_at_call 31; refine (HC3.out _ qL).mono ?_
           rintro e12 w12' ⟨ve3, vc3, rfl, ht12, ho12, hve3, hvc3⟩
           have hse3 := qSt hve3
           have hsc3 := qSt hvc3
           have hba12 := ho12.blk (HBAy.out.kept (show Below wy.heap.size wy _ from qL)) hgax hgaP
           have HBAz := hid hba12
           have HT12 := hid ht12
           have HO12 := hid ((HOY.out.trans (.of_below (show Below wy.heap.size wy _ from qL))).trans ho12)
           simp only [Z0n]
           clear HC3 hve3 hvc3 ht12 ho12 HBAy hba12
           go_upto_region 33 with (fail)
           obtain ⟨w13, hw13⟩ : ∃ w13, w13 = w12'.alloc (.cells (#[.int .i64 o3.code, .bool o3.found, .bool o3.done, .bool o3.split, .bool o3.unposted, .bool o3.dead, .bool o3.more, .int .i64 o3.to.line, .int .i64 o3.to.gen, ve3, vc3, .int .i64 o3.hops, .int .i64 o3.fresh, .int .i64 o3.height]) 63) := ⟨_, rfl⟩
           rw [← hw13]
           have B13 : Blk w13 w12'.heap.size 63 #[.int .i64 o3.code, .bool o3.found, .bool o3.done, .bool o3.split, .bool o3.unposted, .bool o3.dead, .bool o3.more, .int .i64 o3.to.line, .int .i64 o3.to.gen, ve3, vc3, .int .i64 o3.hops, .int .i64 o3.fresh, .int .i64 o3.height] := by rw [hw13]; exact Blk.made _ _ _
           have hb13 : Below w12'.heap.size w12' w13 := by rw [hw13]; exact qL
           have k13 := B13.cell
           have l13 := B13.lt
           have hba13 := HBAz.out.kept hb13
           have kga : ∀ i, w13.cell? ⟨ga, i, none⟩ = (#[.int .i64 ((ix : Int) + 96), .int .i64 1] : Array Value)[i]? := hba13.cell
           have lga := hba13.lt
           have HB13 := hid hb13
           clear hw13 B13 hb13 hse3 hsc3 HBAz hba13
           rcases hdn : o3.done with _ | _
           ·rw [hdn] at k13
            clear hdn
            go_wp2_with fail
            refine ⟨⟨false, kn + 1, rfl, by rw [show ((kn : Int) + 1) = ((kn + 1 : Nat) : Int) by omega], by omega, by omega, hid ⟨ps3, T3, HT12.out.below ?_, HO12.out.trans (.of_below ?_), HN3.out, HD3.out, fun h => by cases h⟩⟩, by simp [intOf]; omega⟩
            ·have hb13 := HB13.out
             exact qL
            ·have hb13 := HB13.out
             exact qL
           ·obtain ⟨pb, hpb⟩ : ∃ pb, peq o3.to.line o3.to.gen ((ix : Int) + 96) 1 = pb := ⟨_, rfl⟩
            have HPB2 : Hid (pb = true → ∀ c ∈ Bt.flat T3, c.1 ≠ (ix : Int) + 96) := hid (fun h => HG3.out hdn (by
             rw [h] at hpb
             unfold peq at hpb
             have := of_decide_eq_true hpb
             obtain ⟨l1, l2⟩ := this
             cases hto : o3.to with
             | mk a b => rw [hto] at l1 l2; simp only at l1 l2; rw [l1, l2]; rfl))
            rw [hdn] at k13
            clear hdn
            go_wp2_with fail
            refine ⟨⟨pb, kn + 1, rfl, by rw [show ((kn : Int) + 1) = ((kn + 1 : Nat) : Int) by omega], by omega, by omega, hid ⟨ps3, T3, HT12.out.below ?_, HO12.out.trans (.of_below ?_), HN3.out, HD3.out, HPB2.out⟩⟩, by simp [intOf]; omega⟩
            ·have hb13 := HB13.out
             exact qL
            ·have hb13 := HB13.out
             exact qL
        ·have bk : decide ((kn : Int) ≤ 40) = false := by simp; omega
         go_wp2_with fail
         go_meet
         exact ⟨d, kn, rfl, rfl, hk1, hk2, hid (KillQ.below HQ2.out qL)⟩
      case rest =>
       rename World => wf
       obtain ⟨d, kn, rfl, rfl, _, _, HQ3⟩ := hcut
       obtain ⟨ps7, T7, ht7, ho7, hne7, hde7, hgo7⟩ := HQ3.out
       have HT7 := hid ht7
       have HDE7 := hid hde7
       have HGO7 := hid hgo7
       have HBA7 := hid (ho7.blk HBA12.out hgax hgaP)
       have HR : Hid (RootAt P T7 (Bt.pg ps7 96) wf) := hid (ZbZ ht7.inv ht7.ix)
       obtain ⟨R7, hR7⟩ : ∃ R7, R7 = Bt.pg ps7 96 := ⟨_, rfl⟩
       rw [← hR7] at HR
       obtain ⟨r0, r1, r2, r3, r4, r5, r6, r7, r8⟩ := HR.out.nine
       obtain ⟨vk7, vt7, vg7, hxo, _⟩ := ht7.ix
       have HNO7 := hid hxo.none
       have kx0 : wf.cell? ⟨x, 0, none⟩ = some (.slice (some ⟨P, 0, none⟩) ps7.length cap) := hxo.blk.cell 0
       rw [ht7.inv.ix.len] at kx0
       have hxf : x < wf.heap.size := hxo.blk.lt
       have hPf : P < wf.heap.size := hxo.pg.lt
       have lgf : ga < wf.heap.size := HBA7.out.lt
       obtain ⟨l0, n0, rr, tt, hTT⟩ : ∃ l0 n0 rr tt, T7 = ((l0, n0) :: rr) :: tt := by
        cases T7 with
        | nil => exact absurd rfl hne7
        | cons up tt =>
          cases up with
          | nil => exact absurd rfl ht7.inv.tree.levels.1.ne
          | cons c rr => exact ⟨c.1, c.2, rr, tt, rfl⟩
       have hrp : Bt.Z1i T7 = Bt.ptr l0 := by rw [hTT]; rfl
       have hlt : ((T7.length - 1 : Nat) : Int) = (tt.length : Int) := by rw [hTT]; simp
       clear hxo ht7 ho7 hne7 hde7 hgo7 hR7 HQ3
       go_wp2_with fail
       go_at_call 15; refine (Z35 R7 HR.out.ok HR.out.line _ ?hng).mono ?_
       case hng => exact HNO7.out.below qL
       rintro e6 w6 ⟨he6, hb6⟩
       rw [HR.out.reads, hrp, hlt] at he6
       obtain rfl := he6
       ((obtain ⟨hc6, hf6, hs6⟩ := qR hb6); (try have := qN0 wf w6))
       simp only [Bt.ptr, Bt.Ptr.cells]
       have HB56 : Hid (Below wf.heap.size wf w6) := hid qL
       clear hrp hlt hb6 r0 r1 r2 r3 r4 r5 r6 r7 r8 kx0
       go_wp2_with fail
       go_loopw [19] (fun i wr => Z9y T7 wf w6.heap.size i wr) (fun i _ => ((intOf i) + 1).toNat)
       case atStart =>
        refine ⟨[], T7, rfl, by rw [hTT]; simp, hid ⟨fun lv t hlt => ?_, by have hb56 := HB56.out; exact qL⟩⟩
        rw [hTT] at hlt
        simp only [List.cons.injEq] at hlt
        obtain ⟨rfl, rfl⟩ := hlt
        exact Blk.made _ _ _
       case round =>
        obtain ⟨pre2, post, hpp, rfl, HQ⟩ := hrel
        clear hTT
        cases post with
        | nil =>
          simp only [List.length_nil]
          rw [show (((0 : Nat) : Int) - 1) = -1 from rfl]
          go_wp2_with fail
          go_loopw [26] (fun i wr => ZcL wf i wr) (fun i _ => (41 - intOf i).toNat)
          case atStart => exact ⟨1, by omega, by omega, rfl, hid (by have hq := HQ.out.2; exact qL)⟩
          case round =>
           obtain ⟨j, hj1, hj2, rfl, HB2⟩ := hrel
           rename World => wz
           have HIX := hid (HT7.out.ix.over HB2.out)
           have kz0 : wz.cell? ⟨x, 0, none⟩ = some (.slice (some ⟨P, 0, none⟩) ps7.length cap) := by obtain ⟨_, _, _, hxo, _⟩ := HIX.out; exact hxo.blk.cell 0
           have hxz : x < wz.heap.size := Nat.lt_of_lt_of_le hxf HB2.out.size
           by_cases hj3 : j ≤ 40
           ·have bj : decide ((j : Int) ≤ 40) = true := by simp; omega
            have wj : IntKind.u32.wrap ((j : Int) + 1) = (j : Int) + 1 := by rw [IntKind.wrap_u32]; omega
            go_wp2_with fail
            go_at_call 24; refine (Z8M HT7.out.inv (j : Int) (by omega) (by unfold Bt.Z0e; omega) _ (HIX.out.over qL)).mono ?_
            rintro e9 w9 ⟨rfl, hb9⟩
            have HB9 := hid hb9
            go_wp2_with fail
            refine ⟨⟨j + 1, by omega, by omega, by rw [show ((j : Int) + 1) = ((j + 1 : Nat) : Int) by omega], hid (by have hb9 := HB9.out; have hb2 := HB2.out; exact qL)⟩, by simp [intOf]; omega⟩
           ·have bj : decide ((j : Int) ≤ 40) = false := by simp; omega
            go_wp2_with fail
            refine bodyPost_ret (results_tmp rfl _ _ _) rfl ⟨rfl, HBF.out _ (HT7.out.over.trans (.of_below ?_))⟩
            have hb2 := HB2.out
            exact qL
        | cons lv t =>
          have hlv : Bt.Level ((t.length : Nat) : Int) lv := Bt.Tree.level (pre := pre2) (hpp ▸ HT7.out.inv.tree)
          have HLV := hid hlv
          have HBQ := hid HQ.out.2
          obtain ⟨lh, nh, lvr, hlh⟩ : ∃ lh nh lvr, lv = (lh, nh) :: lvr := by
           cases lv with
           | nil => exact absurd rfl hlv.ne
           | cons c r => exact ⟨c.1, c.2, r, rfl⟩
          have hbp := HQ.out.1 lv t rfl
          rename World => wr2
          have kp : ∀ i, wr2.cell? ⟨w6.heap.size, i, none⟩ = (#[.int .i64 lh, .int .i64 1] : Array Value)[i]? := by
           have := hbp.cell
           rw [hlh] at this
           exact this
          have hplt := hbp.lt
          have HBP := hid hbp
          have hpf := hbp.free
          have hbl : decide ((0 : Int) ≤ ((t.length : Nat) : Int)) = true := by simp
          have hent := hlv.ne
          have hls : lv.length ≤ 151 := by
           have := HT7.out.inv.small
           rw [hpp] at this
           simp only [Bt.Z0P, Bt.Z16, List.length_append] at this
           omega
          have hxr2 : x < wr2.heap.size := Nat.lt_of_lt_of_le hxf HBQ.out.size
          clear hlv hbp
          simp only [List.length_cons]
          rw [show (((t.length + 1 : Nat) : Int) - 1) = (t.length : Int) by omega]
          go_wp2_with fail
          have hhc : (Bt.Z14 lv Bt.nilP).cells = #[.int .i64 lh, .int .i64 1] := by rw [hlh]; rfl
          have hcall := Z8S HT7.out.inv (HT7.out.ix.over HBQ.out) hpp
          rw [hhc] at hcall
          go_at_call 29; refine hcall.mono ?_
          rintro e7 w7 ⟨vn, vp, us, rfl, hN7, hP7, hb7⟩
          obtain ⟨gn, cn, rfl⟩ := Z0D hN7.own (List.length_pos_iff.2 hent)
          obtain ⟨gp, cp, rfl⟩ := Z0D hP7 (List.length_pos_iff.2 hent)
          have HN7 := hid hN7
          have HP7 := hid hP7
          have HB7 := hid hb7
          have HBP7 := hid (HBP.out.kept hb7)
          have hgn7 : gn < w7.heap.size := (Z0X hN7.own).2
          have hgp7 : gp < w7.heap.size := (Z0X hP7).2
          have hlp : 0 < lv.length := List.length_pos_iff.2 hent
          have bz : ((lv.length : Int) == 0) = false := by simp; omega
          have bz2 : (lv.length == 0) = false := by simp; omega
          have hB57 : Hid (Below wf.heap.size wf w7) := hid (Z0O HBQ.out hb7)
          have HBA8 := hid (HBA7.out.kept hB57.out)
          have lga7 : ga < w7.heap.size := HBA8.out.lt
          ((obtain ⟨hc7, hf7, hs7⟩ := qR hb7); (try have := qN0 wr2 w7))
          have HLH := hid hlh
          clear hcall hN7 hP7 hb7 hent hlh hhc
          go_wp2_with fail
          go_loopw [24] (fun i wq => Zd4 lv w7 i wq) (fun i _ => ((lv.length : Int) - intOf i).toNat)
          case atStart => exact ⟨0, Nat.zero_le _, rfl, hid (Below.refl _ _)⟩
          case round =>
           obtain ⟨q, hq, rfl, HBK⟩ := hrel
           rename World => wq
           by_cases hql : q < lv.length
           ·obtain ⟨ll9, nn9, hcn⟩ : ∃ l n, lv[q] = (l, n) := ⟨_, _, rfl⟩
            have hget : lv[q]? = some (ll9, nn9) := by rw [List.getElem?_eq_getElem hql, hcn]
            have hmq : (ll9, nn9) ∈ lv := List.mem_of_getElem? hget
            obtain ⟨u, hown, _, _, _, _, _, _, q6⟩ := HN7.out.seven hget
            obtain ⟨pu, cu, rfl⟩ := Z2q hown
            have c6 : wq.cell? ⟨gn, q * 7 + 6, none⟩ = some (.slice pu nn9.entries.length cu) := (HBK.out.cell (p := ⟨gn, q * 7 + 6, none⟩) hgn7).trans q6
            have t0 : wq.cell? ⟨gp, q * 2, none⟩ = some (.int .i64 ll9) := Z0i (own_below HP7.out HBK.out) _ _ (Z1C (Z2R lv) q (Bt.ptr ll9) (by unfold Z2R; simp [hget]) 0 _ rfl)
            have t1 : wq.cell? ⟨gp, q * 2 + 1, none⟩ = some (.int .i64 1) := Z0i (own_below HP7.out HBK.out) _ _ (Z1C (Z2R lv) q (Bt.ptr ll9) (by unfold Z2R; simp [hget]) 1 _ rfl)
            have hba := HBA8.out.kept HBK.out
            have kga : ∀ i, wq.cell? ⟨ga, i, none⟩ = (#[.int .i64 ((ix : Int) + 96), .int .i64 1] : Array Value)[i]? := hba.cell
            have lga := hba.lt
            have lgn : gn < wq.heap.size := Nat.lt_of_lt_of_le hgn7 HBK.out.size
            have lgp : gp < wq.heap.size := Nat.lt_of_lt_of_le hgp7 HBK.out.size
            have bq : decide ((q : Int) < lv.length) = true := by simp; omega
            have bq0 : (0 : Int) ≤ q := by omega
            have bq1 : (q : Int) < lv.length := by omega
            have wq1 : IntKind.i64.wrap ((q : Int) + 1) = (q : Int) + 1 := by rw [IntKind.wrap_i64]; omega
            have hflat : (ll9, nn9) ∈ Bt.flat T7 := by rw [hpp]; simp only [Bt.Z0P, Bt.Z16, List.mem_append]; exact .inr (.inl hmq)
            have hpq : d = true → peq ll9 1 ((ix : Int) + 96) 1 = false := fun h => by
             have := HGO7.out h _ hflat
             unfold peq
             exact decide_eq_false (fun h2 => this h2.1)
            have HNAME : Hid (t ≠ [] → ∀ e ∈ nn9.entries, peq e.to.line e.to.gen ((ix : Int) + 96) 1 = false) := hid (fun ht e he => by
             cases t with
             | nil => exact absurd rfl ht
             | cons lo t' =>
               have := HT7.out.inv.tree.unnamed hpp HDE7.out e (List.mem_flatMap.2 ⟨_, hmq, he⟩)
               unfold peq
               refine decide_eq_false (fun h2 => this ?_)
               cases hto : e.to with
               | mk a b => rw [hto] at h2; obtain ⟨h3, h4⟩ := h2; simp only at h3 h4; rw [h3, h4]; rfl)
            have hn5 : nn9.entries.length ≤ 5 := (Bt.Node.valid_parts (HLV.out.valid (ll9, nn9) hmq)).2.2.1
            have HOW := hid hown
            clear hown hba hget hcn q6 hflat hmq
            cases d
            all_goals
             try have hpf2 := hpq rfl
             go_wp2_with fail
             go_quiet (fail)
             go_wp2_with fail
             go_loopw [25] (fun j wz => KillIn nn9 wq j wz) (fun j _ => ((nn9.entries.length : Int) - intOf j).toNat)
             case atStart => exact ⟨0, Nat.zero_le _, rfl, hid qL⟩
             case round =>
              obtain ⟨m, hm, rfl, HBM⟩ := hrel
              rename World => wz
              have c6z : wz.cell? ⟨gn, q * 7 + 6, none⟩ = some (.slice pu nn9.entries.length cu) := (HBM.out.cell (p := ⟨gn, q * 7 + 6, none⟩) lgn).trans c6
              have kgz : ∀ i, wz.cell? ⟨ga, i, none⟩ = (#[.int .i64 ((ix : Int) + 96), .int .i64 1] : Array Value)[i]? := fun i => (HBM.out.cell (p := ⟨ga, i, none⟩) lga).trans (kga i)
              have lgz : gn < wz.heap.size := Nat.lt_of_lt_of_le lgn HBM.out.size
              have laz : ga < wz.heap.size := Nat.lt_of_lt_of_le lga HBM.out.size
              by_cases hml : m < nn9.entries.length
              ·obtain ⟨e, he⟩ : ∃ e, nn9.entries[m] = e := ⟨_, rfl⟩
               obtain ⟨gu, cu2, hpu⟩ := Z0D HOW.out (by omega)
               simp only [Value.slice.injEq, true_and] at hpu
               obtain ⟨rfl, rfl⟩ := hpu
               have hrowz := own_below HOW.out (Z0O HBK.out HBM.out)
               have hguz : gu < wz.heap.size := (Z0X hrowz).2
               have d1 : wz.cell? ⟨gu, m * 3 + 1, none⟩ = some (.int .i64 e.to.line) := by rw [← he]; exact Z0i hrowz _ _ (Z0a nn9.entries m nn9.entries[m] (List.getElem?_eq_getElem hml) 1 _ rfl)
               have d2 : wz.cell? ⟨gu, m * 3 + 2, none⟩ = some (.int .i64 e.to.gen) := by rw [← he]; exact Z0i hrowz _ _ (Z0a nn9.entries m nn9.entries[m] (List.getElem?_eq_getElem hml) 2 _ rfl)
               have bm : decide ((m : Int) < nn9.entries.length) = true := by simp; omega
               have bm0 : (0 : Int) ≤ m := by omega
               have bm1 : (m : Int) < nn9.entries.length := by omega
               have wm1 : IntKind.i64.wrap ((m : Int) + 1) = (m : Int) + 1 := by rw [IntKind.wrap_i64]; omega
               have hem : e ∈ nn9.entries := by rw [← he]; exact List.getElem_mem hml
               clear hrowz he
               by_cases ht : t = []
               ·have hb0 : decide ((0 : Int) < (t.length : Int)) = false := by rw [ht]; rfl
                have hb1 : decide (0 < t.length) = false := by rw [ht]; rfl
                rcases hpe : peq e.to.line e.to.gen ((ix : Int) + 96) 1 with _ | _
                all_goals
                 clear hem ht
                 go_wp2_with fail
                 go_quiet (fail)
                 go_wp2_with fail
                 refine ⟨⟨m + 1, hml, by rw [show ((m : Int) + 1) = ((m + 1 : Nat) : Int) by omega], hid (by have hbm := HBM.out; exact qL)⟩, by simp [intOf]; omega⟩
               ·have hpe := HNAME.out ht e hem
                clear hem ht
                go_wp2_with fail
                go_quiet (fail)
                go_wp2_with fail
                refine ⟨⟨m + 1, hml, by rw [show ((m : Int) + 1) = ((m + 1 : Nat) : Int) by omega], hid (by have hbm := HBM.out; exact qL)⟩, by simp [intOf]; omega⟩
              ·have bm : decide ((m : Int) < nn9.entries.length) = false := by simp; omega
               go_wp2_with fail
               refine ⟨⟨q + 1, hql, by rw [show ((q : Int) + 1) = ((q + 1 : Nat) : Int) by omega], hid (by have hbk := HBK.out; have hbm := HBM.out; exact qL)⟩, by simp [intOf]; omega⟩
           ·have bq : decide ((q : Int) < lv.length) = false := by simp; omega
            have HBPq := hid (HBP7.out.kept HBK.out)
            have hpq := HBPq.out.lt
            have hpfq := HBPq.out.free
            have kpq : ∀ i, wq.cell? ⟨w6.heap.size, i, none⟩ = (#[.int .i64 lh, .int .i64 1] : Array Value)[i]? := by
             have := HBPq.out.cell
             rw [HLH.out] at this
             exact this
            have wt1 : IntKind.i64.wrap ((t.length : Int) - 1) = (t.length : Int) - 1 := by
             have h4 : t.length ≤ 151 := by
              have h1 := HT7.out.inv.small
              rw [hpp] at h1
              have h2 := HT7.out.inv.tree.levels
              rw [hpp] at h2
              have h3 := Z6B (Bt.Levels.append h2)
              simp only [Bt.Z0P, List.length_append] at h1
              simp only [List.length_cons] at h3
              omega
             rw [IntKind.wrap_i64]; omega
            by_cases ht : t = []
            ·have hbl0 : decide ((0 : Int) < (t.length : Int)) = false := by rw [ht]; rfl
             have hbn0 : decide (0 < t.length) = false := by rw [ht]; rfl
             have hbn1 : ¬ 0 < t.length := by rw [ht]; simp
             have HT0 := hid ht
             clear ht
             go_wp2_with fail
             refine ⟨⟨pre2 ++ [lv], t, by rw [hpp]; simp, rfl, hid ⟨fun lv' t' h => by (rw [HT0.out] at h; cases h), by have hb57 := hB57.out; have hbk := HBK.out; exact qL⟩⟩, by simp [intOf] <;> omega⟩
            ·obtain ⟨lo, t', htt⟩ : ∃ lo t', t = lo :: t' := by
               cases t with
               | nil => exact absurd rfl ht
               | cons lo t' => exact ⟨lo, t', rfl⟩
             have hbl0 : decide ((0 : Int) < (t.length : Int)) = true := by rw [htt]; simp <;> omega
             have hbn0 : decide (0 < t.length) = true := by rw [htt]; simp
             have hbn1 : 0 < t.length := by rw [htt]; simp
             have hlevs : Bt.Levels (lv :: lo :: t') := by have := HT7.out.inv.tree.levels; rw [hpp, htt] at this; exact this.append
             have hlnk : Bt.Links (lv :: lo :: t') := by have := HT7.out.inv.tree.links; rw [hpp, htt] at this; exact this.append
             obtain ⟨x0, r0, e0, es0, y0, r2, hlv0, hx0, hlo0, hto⟩ := Bt.Levels.first hlevs hlnk
             obtain ⟨u, hown, _, _, _, _, _, _, q6⟩ := HN7.out.seven (i := 0) (c := x0) (by rw [hlv0]; rfl)
             obtain ⟨gu, cu, rfl⟩ := Z0D hown (by rw [hx0]; simp)
             have z6 : wq.cell? ⟨gn, 6, none⟩ = some (.slice (some ⟨gu, 0, none⟩) x0.2.entries.length cu) := by
              have := (HBK.out.cell (p := ⟨gn, 0 * 7 + 6, none⟩) hgn7).trans q6
              simpa using this
             have hguq : gu < wq.heap.size := Nat.lt_of_lt_of_le (Z0X hown).2 HBK.out.size
             have hgq : gn < wq.heap.size := Nat.lt_of_lt_of_le hgn7 HBK.out.size
             have hcells : ∀ j z, (Z04 x0.2.entries)[j]? = some z → wq.cell? ⟨gu, j, none⟩ = some z := Z0i (own_below hown HBK.out)
             have z1 : wq.cell? ⟨gu, 1, none⟩ = some (.int .i64 e0.to.line) := hcells 1 _ (by rw [hx0]; rfl)
             have z2 : wq.cell? ⟨gu, 2, none⟩ = some (.int .i64 e0.to.gen) := hcells 2 _ (by rw [hx0]; rfl)
             have hel : (0 : Int) < (x0.2.entries.length : Int) := by rw [hx0]; simp <;> omega
             have hlp2 : (0 : Int) < (lv.length : Int) := by omega
             have HLO : Hid (∀ lv' t'', t = lv' :: t'' → (Bt.Z14 lv' Bt.nilP).cells = #[.int .i64 e0.to.line, .int .i64 e0.to.gen]) := hid (fun lv' t'' h => by
              rw [htt] at h
              simp only [List.cons.injEq] at h
              obtain ⟨rfl, rfl⟩ := h
              rw [hlo0]
              show (Bt.ptr y0.1).cells = _
              rw [← hto]; rfl)
             clear hlevs hlnk hlv0 hx0 hlo0 hto hown q6 hcells htt ht
             go_wp2_with fail
             refine ⟨⟨pre2 ++ [lv], t, by rw [hpp]; simp, rfl, hid ⟨fun lv' t' h => ?_, by have hb57 := hB57.out; have hbk := HBK.out; exact qL⟩⟩, by simp [intOf] <;> omega⟩
             rw [HLO.out lv' t' h]
             have hbb := HBPq.out
             rw [HLH.out] at hbb
             exact Blk.all2 (x0 := .int .i64 lh) (x1 := .int .i64 1) hbb _ _
end Go.Proofs.YtjmpekanlmepmaaGreatDoor
namespace Go.Proofs.YtjmpekanlmepmaaGreatDoor.treeKills
open Go.ChangeShapes Go.WideShapes Go.ChangeAt Go.RowKit
set_option maxRecDepth 100000 in
theorem contract (H : Type) (enc : TypeId × Value → H) (W : World) (base : Nat) (args : Array Value) (ds gs : List (DataW H)) (before : List MemPlace)
 (hval : ∀ (j : Nat) t v, Tryz.f10.params[j]? = some t → args[j]? = some v → Value.okWide Tryz.prog W .any base t v)
 (hW : DataW.Whole enc Tryz.prog Tryz.f10.params.toList Rows.treeKillsSpec.vars false W args.toList ds gs before) (hlaid : laidMetH Tryz.prog Rows.treeKillsRow.laid W) :
 Calls Tryz.prog 10 args W fun e W' => ∃ v, e = .returned v ∧ Rows.treeKillsSpec.post enc Tryz.prog Tryz.f10 false true false false W args v W' := by
 have hn : NoneAt W := Z8r W hlaid
 have hW' := hW
 obtain ⟨p, q, hA0, hV, rfl, hfz, hnd⟩ := hW
 have hA : DataW.TrodAll enc Tryz.prog W 0 (fun _ => true) true Tryz.f10.params.toList args.toList ds p := hA0
 rw [Tryz.params10] at hA hval
 obtain ⟨v0, vs0, d0, ds0, p0, q0, hargs, rfl, rfl, h0, r0⟩ := trodAll_cons hA
 obtain ⟨v1, vs1, d1, ds1, p1, q1, rfl, rfl, rfl, h1, r1⟩ := trodAll_cons r0
 obtain ⟨rfl, rfl, rfl⟩ := trodAll_nil r1
 obtain rfl : args = #[v0, v1] := arr2 hargs
 obtain ⟨rfl, rfl⟩ := trodVars_none hV
 obtain ⟨pl, ms, cl, rfl, hM, hml⟩ := Z5q (hval 0 44 v0 rfl rfl) h0
 obtain ⟨z1, rfl, rfl, rfl, w1⟩ := open_int Tryz.underlying3 (hval 1 3 v1 rfl rfl) h1
 clear hA0
 have hlt := hW'.lt
 refine (Zcu pl cl ms z1 (bounds_i64 w1) W hn hM (by unfold maxLen at hml; omega)).mono fun e W' ⟨he, hb⟩ => ?_
 subst he
 exact ⟨_, rfl, Z3Z (pa := p0 ++ ([] ++ [])) (pv := []) hW' (fun _ _ _ => trodAll_cons_mk (shut_bool Tryz.underlying4 _) trodAll_mk0)
  (fun sp hs => trodAll_cons_mk (Z4j (by kernel_rfl) (of_decide_eq_true (by kernel_rfl)) h0 hb (fun x hx => hlt x (by simp [hx])) (fun x hx => hs x (by simp [hx])))
   (trodAll_cons_mk (shut_int Tryz.underlying3 w1) trodAll_mk0)) (fun _ _ => rfl) (by simp)
  hb (ok_one (by kernel_rfl) rfl (okWide_bool_mk Tryz.underlying4 _))⟩
noncomputable def laidWorld (os : Os) : World := World.holding Tryz.prog os ⟨#[], #[], []⟩
theorem laid_met (os : Os) : laidMet Tryz.prog Rows.treeKillsRow.laid ((laidWorld os).forCall (fun _ _ => 0) ⟨#[], #[.slice none 0 0, .int .i64 0], []⟩).memory :=
 laidMet_of_run' 8 (by kernel_rfl) (by kernel_rfl)
theorem reads (os : Os) {H : Type} (enc : TypeId × Value → H) : ∃ places, DataW.whole enc Tryz.prog ((laidWorld os).forCall (fun _ _ => 0) ⟨#[], #[.slice none 0 0, .int .i64 0], []⟩).memory Tryz.f10.params.toList Rows.treeKillsSpec.vars false #[Value.slice none 0 0, Value.int .i64 0].toList 8 =
 some ([.nil, .lit (.int .i64 0)], [], places) :=
 ⟨[], by kernel_rfl⟩
set_option maxRecDepth 100000 in
theorem lifted (os : Os) (started : os.Started) (H : Type) (enc : TypeId × Value → H) (F : Stop.Interp) :
 ReturnsInHanded {} Tryz.checked os 10 .any ((OpenSpec.ofChange Rows.treeKillsSpec).preRow enc Tryz.prog Tryz.f10 Rows.treeKillsRow.domain false Rows.treeKillsRow.laid) (((OpenSpec.ofChange Rows.treeKillsSpec).at F).post enc Tryz.prog Tryz.f10 false true false false) := by
 obtain ⟨places, hx⟩ := reads os enc
 refine returnsInHanded_of_row (C := Tryz.checked) (s := OpenSpec.ofChange Rows.treeKillsSpec) Z6R started (by kernel_rfl) Tryz.func10
  (witness_row_at (enc := enc) (C := Tryz.checked) false (laidWorld os) #[.slice none 0 0, .int .i64 0] rfl (by kernel_rfl) (by kernel_rfl) (by kernel_rfl)
   (OpenSpec.preRow_of_cond 8 hx (by kernel_rfl) (fun k hk => by cases hk) (by kernel_rfl) (laid_met os))) ?_
 intro W base args ds gs before hval hW _ _ _ hlaid _ _
 exact contract H enc W base args ds gs before hval hW hlaid
theorem said : Rows.TreeKillsSaid :=
 OpenClaim.holds_of_cond 10 Tryz.f10 rfl rfl rfl rfl rfl rfl rfl ⟨rfl, rfl, rfl, rfl, rfl⟩ rfl rfl rfl rfl rfl (by kernel_rfl) Tryz.func10 (by kernel_rfl)
  (of_decide_eq_true (by kernel_rfl)) (by unfold Func.isWrapper; first | (rw [if_pos (by decide +kernel)]; kernel_rfl) | (rw [if_neg (by decide +kernel)]; exact ⟨rfl, rfl⟩))
  (fun os started H enc _ F => by rw [OpenClaim.pre_eq_preRow]; exact lifted os started H enc F)
theorem plain (f : FuncId) (fn : Func) (hf : Tryz.pinned.checked.prog.funcNamed "bodega/bodegalaw24.TreeKills" = some f) (hfn : Tryz.pinned.checked.prog.funcs[f]? = some fn) :
 false = Tryz.pinned.checked.prog.looks [] ∧ ∀ (j : Nat) t, fn.params[j]? = some t → Tryz.pinned.checked.prog.wantsStandIn t = false := by
 obtain rfl : f = 10 := Option.some.inj ((show Tryz.prog.funcNamed "bodega/bodegalaw24.TreeKills" = some 10 by kernel_rfl).symm.trans hf) |>.symm
 obtain rfl : fn = Tryz.f10 := (Option.some.inj (Tryz.func10.symm.trans hfn)).symm
 refine ⟨by kernel_rfl, fun j t ht => ?_⟩
 rw [Tryz.params10] at ht
 have hm : t ∈ #[44, 3] := Array.mem_of_getElem? ht
 have ht2 : t = 44 ∨ t = 3 := by simpa using hm
 rcases ht2 with rfl | rfl
 ·exact (show Tryz.prog.wantsStandIn 44 = false by kernel_rfl)
 ·exact (show Tryz.prog.wantsStandIn 3 = false by kernel_rfl)
theorem card : Rows.TreeKillsCardSaid :=
 Claim7.holds_tied_plain_at .later [] _ _ _ _ said (fun _ h => by cases h) (by kernel_rfl) (fun _ h => by cases h) treeKills_row_tie rfl ⟨rfl, rfl⟩ (by kernel_rfl) rfl plain (by kernel_rfl)
#print axioms card
end Go.Proofs.YtjmpekanlmepmaaGreatDoor.treeKills
