/- For every list of moves and every three numbers: a scan gives exactly the entries between two keys, ascending, up to its limit; no condition beside what the card lists. -/
import Derived.Test.YtjmpekanlmepmaaGreatDoorB46
import Derived.Test.YtjmpekanlmepmaaGreatDoorUC02
import Derived.BigQuiet
set_option linter.all false
namespace Go.Proofs.YtjmpekanlmepmaaGreatDoor
open Go.RowKit
theorem Bt.scanTake_prefix (lo hi limit : Int) (l : List Bt.Entry) : ∀ acc, ∃ r, Bt.scanTake lo hi limit acc l = acc ++ r := by
 induction l with
 | nil => exact fun acc => ⟨[], by simp [Bt.scanTake]⟩
 | cons e l ih =>
   intro acc
   unfold Bt.scanTake
   split
   · obtain ⟨r, hr⟩ := ih (acc ++ [e])
     exact ⟨e :: r, by rw [hr]; simp⟩
   · exact ih acc
def takenAt (a b n : Int) (es : List Bt.Entry) (i : Nat) : List Bt.Entry := Bt.scanTake a b n [] (es.take i)
theorem takenAt_succ (a b n : Int) (es : List Bt.Entry) (i : Nat) (e : Bt.Entry) (h : es[i]? = some e) : takenAt a b n es (i + 1) = if a ≤ e.key ∧ e.key ≤ b ∧ ((takenAt a b n es i).length : Int) < n then takenAt a b n es i ++ [e] else takenAt a b n es i := by
 unfold takenAt
 have hi := (List.getElem?_eq_some_iff.1 h)
 obtain ⟨hl, he⟩ := hi
 rw [List.take_succ_eq_append_getElem hl, he, Bt.scanTake_append]
 rfl
theorem takenAt_get (a b n : Int) (es : List Bt.Entry) (i : Nat) (e : Bt.Entry) (h : es[i]? = some e) (hp : a ≤ e.key ∧ e.key ≤ b ∧ ((takenAt a b n es i).length : Int) < n) : (Bt.scanTake a b n [] es)[(takenAt a b n es i).length]? = some e := by
 have h1 : Bt.scanTake a b n [] es = Bt.scanTake a b n (takenAt a b n es (i + 1)) (es.drop (i + 1)) := by
  unfold takenAt
  rw [← Bt.scanTake_append, List.take_append_drop]
 obtain ⟨r, hr⟩ := Bt.scanTake_prefix a b n (es.drop (i + 1)) (takenAt a b n es (i + 1))
 rw [h1, hr, takenAt_succ a b n es i e h, if_pos hp]
 simp
theorem takenAt_le (a b n : Int) (es : List Bt.Entry) (i : Nat) (hn : 0 ≤ n) : ((takenAt a b n es i).length : Int) ≤ n := Bt.scanTake_le (by simpa using hn)
def ScanLoop (a b n : Int) (es : List Bt.Entry) (w9 : World) (k i : Value) (wr : World) : Prop :=
 ∃ j : Nat, j ≤ es.length ∧ k = .int .i64 ((takenAt a b n es j).length : Int) ∧ i = .int .i64 j ∧ Hid (Below w9.heap.size w9 wr)
set_option maxRecDepth 10000 in
set_option maxHeartbeats 8000000 in
theorem scans_walk (pl : Option Addr) (cl : Nat) (ms : List Mv) (from_ to_ limit : Int) (hfr : I64 from_) (hto : I64 to_) (hli : I64 limit) (w : World) (hn : NoneAt w) (hl : MvRow w pl ms) (hlong : ms.length ≤ 9223372036854775807) :
 Calls Tryz.prog 5 #[.slice pl ms.length cl, .int .i64 from_, .int .i64 to_, .int .i64 limit] w fun e w' => e = .returned (.bool true) ∧ Below w.heap.size w w' := by
 have HN := Lib.hid hn
 have HL := Lib.hid hl
 have HFR := Lib.hid hfr
 have HTO := Lib.hid hto
 have HLI := Lib.hid hli
 clear hn hl hfr hto hli
 by_cases h70 : 70 < ms.length
 · have b1 : decide ((70 : Int) < (ms.length : Int)) = true := by simp; omega
   have b2 : decide (70 < ms.length) = true := by simp; omega
   clear h70 hlong
   go_enter Tryz.func5, Tryz.ntmps5
   go_wp2_with fail
   go_at_call 21; refine (awake_any _ HN.out).mono ?_
   rintro e1 w1 ⟨rfl, hb1⟩
   go_wp2_with fail
   exact bodyPost_ret (results_tmp rfl _ _ _) rfl ⟨rfl, qL⟩
 have b1 : decide ((70 : Int) < (ms.length : Int)) = false := by simp; omega
 have b2 : decide (70 < ms.length) = false := by simp; omega
 have hm70 : ms.length ≤ 70 := by omega
 clear h70 hlong
 obtain ⟨a1, ha1⟩ : ∃ a1, keyOf from_ = a1 := ⟨_, rfl⟩
 obtain ⟨b0, hb0⟩ : ∃ b0, keyOf to_ = b0 := ⟨_, rfl⟩
 have hra := keyOf_range from_
 have hrb := keyOf_range to_
 rw [ha1] at hra
 rw [hb0] at hrb
 have HA1 := Lib.hid ha1
 have HB0 := Lib.hid hb0
 obtain ⟨q, hq⟩ : ∃ q, pick limit 64 = q := ⟨_, rfl⟩
 have hq1 : 0 ≤ q ∧ q < 64 := by
  have h1 := Int.emod_lt_of_pos limit (show (0 : Int) < 64 by decide)
  have h2 := Int.emod_nonneg limit (show (64 : Int) ≠ 0 by decide)
  have h3 : pick limit 64 = limit % 64 := rfl
  omega
 have HQ9 := Lib.hid hq
 have wq : IntKind.i64.wrap (1 + q) = 1 + q := by rw [IntKind.wrap_i64]; omega
 clear ha1 hb0 hq
 go_enter Tryz.func5, Tryz.ntmps5
 go_wp2_with fail
 go_at_call 21; refine (awake_any _ HN.out).mono ?_
 rintro e1 w1 ⟨rfl, hb1⟩
 have HB1 := Lib.hid hb1
 go_wp2_with fail
 go_at_call 26; refine (play_any pl cl ms _ (HN.out.below hb1) (HL.out.below hb1) hm70).mono ?_
 rintro e5 w5 ⟨x, P, cap, ps, nx, es, T, rfl, hplay⟩
 obtain ⟨vk, vt, vg, hxo, _⟩ := hplay.ix
 have HKO := Lib.hid hxo.keys
 have HTOS := Lib.hid hxo.tos
 have HPG := Lib.hid hxo.pg.row
 have HNO := Lib.hid hxo.none
 have kx0 : w5.cell? ⟨x, 0, none⟩ = some (.slice (some ⟨P, 0, none⟩) ps.length cap) := hxo.blk.cell 0
 have kx2 : w5.cell? ⟨x, 2, none⟩ = some vk := hxo.blk.cell 2
 have kx3 : w5.cell? ⟨x, 3, none⟩ = some vt := hxo.blk.cell 3
 have hxw : x < w5.heap.size := hxo.blk.lt
 have HPLAY := Lib.hid hplay
 have HB5 := Lib.hid hplay.below
 have ne := neq_ptr
 clear hxo hplay hb1
 go_wp2_with fail
 go_at_call 25; refine (Key_any from_ HFR.out _).mono ?_; rintro e0 w0 ⟨rfl, hw0⟩; obtain rfl := hw0.symm; clear hw0
 rw [HA1.out]
 go_wp2_with fail
 go_at_call 25; refine (Key_any to_ HTO.out _).mono ?_; rintro e0 w0 ⟨rfl, hw0⟩; obtain rfl := hw0.symm; clear hw0
 rw [HB0.out]
 have hsw : ∃ A B, ((decide (b0 < a1) = true ∧ A = b0 ∧ B = a1) ∨ (decide (b0 < a1) = false ∧ A = a1 ∧ B = b0)) ∧ 1 ≤ A ∧ A ≤ B ∧ B ≤ Bt.maxKey := by
  by_cases h : b0 < a1
  · exact ⟨b0, a1, .inl ⟨decide_eq_true h, rfl, rfl⟩, hrb.1, by omega, hra.2⟩
  · exact ⟨a1, b0, .inr ⟨decide_eq_false h, rfl, rfl⟩, hra.1, by omega, hrb.2⟩
 obtain ⟨A, B, hsw, hA1, hAB, hBm⟩ := hsw
 clear hra hrb
 rcases hsw with ⟨bs, rfl, rfl⟩ | ⟨bs, rfl, rfl⟩
 all_goals
  go_wp2_with fail
  clear bs HA1 HB0
  go_at_call 13; refine (Pick_any limit 64 HLI.out ⟨by decide, by decide⟩ _).mono ?_; rintro e0 w0 ⟨rfl, hw0⟩; obtain rfl := hw0.symm; clear hw0
  rw [HQ9.out]
  obtain ⟨N, hN⟩ : ∃ N, 1 + q = N := ⟨_, rfl⟩
  rw [hN] at wq
  have hN1 : 1 ≤ N ∧ N ≤ 64 := by omega
  obtain ⟨o, hoc, hoe, hom, hok, hcall⟩ := scan_next HPLAY.out.inv A B N hA1 hAB hBm hN1
  have HC := Lib.hid hcall
  have HOE := Lib.hid hoe
  have HOM := Lib.hid hom
  clear hcall hoe hom
  unfold opCells scanOp Bt.nilP at HC
  go_wp2_with fail
  go_at_call 27; refine (HC.out (some ⟨P, 0, none⟩) ps.length cap _ HPG.out HNO.out).mono ?_
  rintro e9 w9 ⟨vw, ve, vc, rfl, hvw, hve, hvc, hb9⟩
  obtain ⟨CL, hCL⟩ : ∃ CL, o.check.length = CL := ⟨_, rfl⟩
  obtain ⟨EL, hEL⟩ : ∃ EL, o.entries.length = EL := ⟨_, rfl⟩
  have hcl0 : 0 < CL := by rw [← hCL]; exact List.length_pos_iff.2 hok
  rw [hCL] at hvc
  rw [hEL] at hve
  obtain ⟨pw, cw, rfl⟩ := own_shape hvw
  obtain ⟨pe, ce, rfl⟩ := own_shape hve
  obtain ⟨pc, cc, rfl⟩ := own_shape hvc
  have hsw : ∀ (a : Addr) (m : Mode) (wx : World), (store a (.slice pw 0 cw) m).run Tryz.prog wx = stored Tryz.prog wx a (.slice pw 0 cw) m := fun a m wx => run_store Tryz.prog wx a (.slice pw 0 cw) m (own_one hvw)
  have hse : ∀ (a : Addr) (m : Mode) (wx : World), (store a (.slice pe EL ce) m).run Tryz.prog wx = stored Tryz.prog wx a (.slice pe EL ce) m := fun a m wx => run_store Tryz.prog wx a (.slice pe EL ce) m (own_one hve)
  have hsc : ∀ (a : Addr) (m : Mode) (wx : World), (store a (.slice pc CL cc) m).run Tryz.prog wx = stored Tryz.prog wx a (.slice pc CL cc) m := fun a m wx => run_store Tryz.prog wx a (.slice pc CL cc) m (own_one hvc)
  have bck : ((CL : Int) == 0) = false := by rw [beq_eq_false_iff_ne]; omega
  have bck2 : (CL == 0) = false := by rw [beq_eq_false_iff_ne]; omega
  have HVE := Lib.hid hve
  have HB9 := Lib.hid hb9
  have hx9 : x < w9.heap.size := Nat.lt_of_lt_of_le hxw hb9.size
  have kx29 : w9.cell? ⟨x, 2, none⟩ = some vk := (hb9.cell (p := ⟨x, 2, none⟩) hxw).trans kx2
  have kx39 : w9.cell? ⟨x, 3, none⟩ = some vt := (hb9.cell (p := ⟨x, 3, none⟩) hxw).trans kx3
  have hkl2 : (keysOf es).length = es.length := by unfold keysOf; simp
  have htl2 : (tosOf es).length = es.length := by unfold tosOf; simp
  have hes := HPLAY.out.inv.esLen
  have HEL := Lib.hid hEL
  clear hvw hve hvc hb9 hok HC hCL hEL
  simp only [outCells]
  rw [hoc]
  clear hoc
  go_wp2_with fail
  obtain ⟨w10, hw10⟩ : ∃ w10, w10 = w9.alloc (.cells (#[.int .i64 0, .bool o.found, .bool o.done, .bool o.split, .bool o.unposted, .bool o.dead, .bool o.more, .int .i64 o.to.line, .int .i64 o.to.gen, .slice pe EL ce, .slice pc CL cc, .int .i64 o.hops, .int .i64 o.fresh, .int .i64 o.height]) 63) := ⟨_, rfl⟩
  rw [← hw10]
  have B10 : Blk w10 w9.heap.size 63 #[.int .i64 0, .bool o.found, .bool o.done, .bool o.split, .bool o.unposted, .bool o.dead, .bool o.more, .int .i64 o.to.line, .int .i64 o.to.gen, .slice pe EL ce, .slice pc CL cc, .int .i64 o.hops, .int .i64 o.fresh, .int .i64 o.height] := by rw [hw10]; exact Blk.made _ _ _
  have hb10 : Below w9.heap.size w9 w10 := by rw [hw10]; exact qL
  have HB10 := Lib.hid B10
  have hl10 := B10.lt
  have hx10 : x < w10.heap.size := Nat.lt_of_lt_of_le hx9 hb10.size
  have ky2 : w10.cell? ⟨x, 2, none⟩ = some vk := (hb10.cell (p := ⟨x, 2, none⟩) hx9).trans kx29
  have ky3 : w10.cell? ⟨x, 3, none⟩ = some vt := (hb10.cell (p := ⟨x, 3, none⟩) hx9).trans kx39
  have HW510 : Hid (Below w0.heap.size w0 w10) := Lib.hid (below_step HB9.out hb10)
  have HVE10 := Lib.hid (own_below HVE.out hb10)
  clear hw10 hb10 B10
  go_loopw [17, 18] (fun k i wr => ScanLoop A B N es w10 k i wr) (fun _ i _ => ((es.length : Int) - intOf i).toNat)
  case atStart => exact ⟨0, Nat.zero_le _, rfl, rfl, Lib.hid (Below.refl _ _)⟩
  case round =>
   obtain ⟨j, hj, rfl, rfl, HBJ⟩ := hrel
   rename World => wz
   have kb : ∀ i, wz.cell? ⟨w9.heap.size, i, none⟩ = (#[.int .i64 0, .bool o.found, .bool o.done, .bool o.split, .bool o.unposted, .bool o.dead, .bool o.more, .int .i64 o.to.line, .int .i64 o.to.gen, .slice pe EL ce, .slice pc CL cc, .int .i64 o.hops, .int .i64 o.fresh, .int .i64 o.height] : Array Value)[i]? := fun i => (HBJ.out.cell (p := ⟨w9.heap.size, i, none⟩) hl10).trans (HB10.out.cell i)
   have hlz : w9.heap.size < wz.heap.size := Nat.lt_of_lt_of_le hl10 HBJ.out.size
   have hxz : x < wz.heap.size := Nat.lt_of_lt_of_le hx10 HBJ.out.size
   have kz2 : wz.cell? ⟨x, 2, none⟩ = some vk := (HBJ.out.cell (p := ⟨x, 2, none⟩) hx10).trans ky2
   have kz3 : wz.cell? ⟨x, 3, none⟩ = some vt := (HBJ.out.cell (p := ⟨x, 3, none⟩) hx10).trans ky3
   have HW5z : Hid (Below w0.heap.size w0 wz) := Lib.hid (below_step HW510.out HBJ.out)
   obtain ⟨K, hK⟩ : ∃ K, (takenAt A B N es j).length = K := ⟨_, rfl⟩
   have hKN : (K : Int) ≤ N := by rw [← hK]; exact takenAt_le A B N es j (by omega)
   rw [hK]
   by_cases hjl : j < es.length
   · obtain ⟨e, he⟩ : ∃ e, es[j]? = some e := ⟨_, List.getElem?_eq_getElem hjl⟩
     obtain ⟨gk, ck, rfl⟩ := own_form HKO.out (by omega)
     obtain ⟨gt, ct, rfl⟩ := own_form HTOS.out (by omega)
     have y0 : wz.cell? ⟨gk, j, none⟩ = some (.int .u32 e.key) := own_cells (own_below HKO.out HW5z.out) j _ (by unfold keyCells keysOf; simp [he])
     have y1 : wz.cell? ⟨gt, j * 2, none⟩ = some (.int .i64 e.to.line) := own_cells (own_below HTOS.out HW5z.out) _ _ (ptrCells_get (tosOf es) j e.to (by unfold tosOf; simp [he]) 0 _ rfl)
     have y2 : wz.cell? ⟨gt, j * 2 + 1, none⟩ = some (.int .i64 e.to.gen) := own_cells (own_below HTOS.out HW5z.out) _ _ (ptrCells_get (tosOf es) j e.to (by unfold tosOf; simp [he]) 1 _ rfl)
     have hgkz : gk < wz.heap.size := (own_lt (own_below HKO.out HW5z.out)).2
     have hgtz : gt < wz.heap.size := (own_lt (own_below HTOS.out HW5z.out)).2
     have HS := takenAt_succ A B N es j e he
     rw [hK] at HS
     obtain ⟨KL, hKL⟩ : ∃ KL, (keysOf es).length = KL := ⟨_, rfl⟩
     obtain ⟨TL, hTL⟩ : ∃ TL, (tosOf es).length = TL := ⟨_, rfl⟩
     rw [hKL] at kz2
     rw [hTL] at kz3
     have bj0 : (0 : Int) ≤ j := by omega
     have bj1 : (j : Int) < KL := by omega
     have bj2 : (j : Int) < TL := by omega
     have bj3 : decide ((j : Int) < KL) = true := decide_eq_true (by omega)
     have bj4 : decide (j < KL) = true := decide_eq_true (by omega)
     have wj1 : IntKind.i64.wrap ((j : Int) + 1) = (j : Int) + 1 := by rw [IntKind.wrap_i64]; omega
     have skip : ¬ (A ≤ e.key ∧ e.key ≤ B ∧ (K : Int) < N) → ∀ wx, Below wz.heap.size wz wx → ScanLoop A B N es w10 (.int .i64 (K : Int)) (.int .i64 ((j : Int) + 1)) wx := fun hn wx hb => ⟨j + 1, hjl, by rw [HS, if_neg hn, hK], by rw [show ((j : Int) + 1) = ((j + 1 : Nat) : Int) by omega], Lib.hid (below_step HBJ.out hb)⟩
     have SKIP := Lib.hid skip
     have HSS := Lib.hid HS
     have HKK := Lib.hid hK
     have HE := Lib.hid he
     clear skip HS hK he hKL hTL
     by_cases q1 : A ≤ e.key
     · have e1 : decide (e.key < A) = false := decide_eq_false (by omega)
       by_cases q2 : e.key ≤ B
       · have e2 : decide (B < e.key) = false := decide_eq_false (by omega)
         by_cases q3 : (K : Int) < N
         · have e3 : ((K : Int) == N) = false := by rw [beq_eq_false_iff_ne]; omega
           have hget := takenAt_get A B N es j e HE.out ⟨q1, q2, by rw [HKK.out]; exact q3⟩
           rw [HKK.out, ← HOE.out] at hget
           have hKE : K < EL := by rw [← HEL.out]; exact (List.getElem?_eq_some_iff.1 hget).1
           obtain ⟨ge, ce2, hpe⟩ := own_form HVE10.out (by omega)
           simp only [Value.slice.injEq, true_and] at hpe
           obtain ⟨rfl, rfl⟩ := hpe
           have hcells : ∀ q z, (entCells o.entries)[q]? = some z → wz.cell? ⟨ge, q, none⟩ = some z := own_cells (own_below HVE10.out HBJ.out)
           have hgez : ge < wz.heap.size := (own_lt (own_below HVE10.out HBJ.out)).2
           have d0 : wz.cell? ⟨ge, K * 3, none⟩ = some (.int .u32 e.key) := hcells _ _ (entCells_get o.entries K e hget 0 _ rfl)
           have d1 : wz.cell? ⟨ge, K * 3 + 1, none⟩ = some (.int .i64 e.to.line) := hcells _ _ (entCells_get o.entries K e hget 1 _ rfl)
           have d2 : wz.cell? ⟨ge, K * 3 + 2, none⟩ = some (.int .i64 e.to.gen) := hcells _ _ (entCells_get o.entries K e hget 2 _ rfl)
           have bk0 : (0 : Int) ≤ K := by omega
           have bk1 : (K : Int) < EL := by omega
           have bk2 : decide ((EL : Int) ≤ K) = false := decide_eq_false (by omega)
           have bk3 : decide (EL ≤ K) = false := decide_eq_false (by omega)
           have pq : peq e.to.line e.to.gen e.to.line e.to.gen = true := by unfold peq; simp
           have wk1 : IntKind.i64.wrap ((K : Int) + 1) = (K : Int) + 1 := by rw [IntKind.wrap_i64]; omega
           clear hcells hget
           go_wp2_with fail
           go_quiet (fail)
           go_wp2_with fail
           refine ⟨⟨j + 1, hjl, by rw [HSS.out, if_pos ⟨q1, q2, q3⟩, List.length_append, HKK.out]; rfl, by rw [show ((j : Int) + 1) = ((j + 1 : Nat) : Int) by omega], Lib.hid (by have hbj := HBJ.out; exact qL)⟩, by simp [intOf]; omega⟩
         · have e3 : ((K : Int) == N) = true := by rw [beq_iff_eq]; omega
           go_wp2_with fail
           refine ⟨SKIP.out (fun h => q3 h.2.2) _ qL, by simp [intOf]; omega⟩
       · have e2 : decide (B < e.key) = true := decide_eq_true (by omega)
         go_wp2_with fail
         refine ⟨SKIP.out (fun h => q2 h.2.1) _ qL, by simp [intOf]; omega⟩
     · have e1 : decide (e.key < A) = true := decide_eq_true (by omega)
       go_wp2_with fail
       refine ⟨SKIP.out (fun h => q1 h.1) _ qL, by simp [intOf]; omega⟩
   · obtain ⟨pk, ck, rfl⟩ := own_shape HKO.out
     obtain ⟨KL, hKL⟩ : ∃ KL, (keysOf es).length = KL := ⟨_, rfl⟩
     rw [hKL] at kz2
     have bj3 : decide ((j : Int) < KL) = false := decide_eq_false (by omega)
     have bj4 : decide (j < KL) = false := decide_eq_false (by omega)
     have hKE : K = EL := by
      rw [← hK, ← HEL.out, HOE.out]
      unfold takenAt
      rw [List.take_of_length_le (by omega)]
     have hmore : o.more = ((K : Int) == N) := by
      rw [HOM.out, ← HOE.out, HEL.out, ← hKE]
      rfl
     have bke : ((K : Int) == EL) = true := by rw [beq_iff_eq, hKE]
     have bke2 : (K == EL) = true := by rw [beq_iff_eq, hKE]
     rw [hmore] at kb
     have hbf := HW5z.out
     have hb5 := HB5.out
     have hb1 := HB1.out
     have HALL : Hid (Below w.heap.size w wz) := Lib.hid (below_step hb1 (below_step hb5 hbf))
     clear hK hKL hmore hbf hb5 hb1 hKE
     go_wp2_with fail
     refine bodyPost_ret (results_tmp rfl _ _ _) rfl ⟨?_, by have ha := HALL.out; exact qL⟩
     simp
end Go.Proofs.YtjmpekanlmepmaaGreatDoor
namespace Go.Proofs.YtjmpekanlmepmaaGreatDoor.treeScans
open Go.ChangeShapes Go.WideShapes Go.ChangeAt Go.RowKit
set_option maxRecDepth 100000 in
theorem contract (H : Type) (enc : TypeId × Value → H) (W : World) (base : Nat) (args : Array Value) (ds gs : List (DataW H)) (before : List MemPlace)
 (hval : ∀ (j : Nat) t v, Tryz.f5.params[j]? = some t → args[j]? = some v → Value.okWide Tryz.prog W .any base t v)
 (hW : DataW.Whole enc Tryz.prog Tryz.f5.params.toList Rows.treeScansSpec.vars false W args.toList ds gs before) (hlaid : laidMetH Tryz.prog Rows.treeScansRow.laid W) :
 Calls Tryz.prog 5 args W fun e W' => ∃ v, e = .returned v ∧ Rows.treeScansSpec.post enc Tryz.prog Tryz.f5 false true false false W args v W' := by
 have hn : NoneAt W := none_at W hlaid
 have hW' := hW
 obtain ⟨p, q, hA0, hV, rfl, hfz, hnd⟩ := hW
 have hA : DataW.TrodAll enc Tryz.prog W 0 (fun _ => true) true Tryz.f5.params.toList args.toList ds p := hA0
 rw [Tryz.params5] at hA hval
 obtain ⟨v0, vs0, d0, ds0, p0, q0, hargs, rfl, rfl, h0, r0⟩ := trodAll_cons hA
 obtain ⟨v1, vs1, d1, ds1, p1, q1, rfl, rfl, rfl, h1, r1⟩ := trodAll_cons r0
 obtain ⟨v2, vs2, d2, ds2, p2, q2, rfl, rfl, rfl, h2, r2⟩ := trodAll_cons r1
 obtain ⟨v3, vs3, d3, ds3, p3, q3, rfl, rfl, rfl, h3, r3⟩ := trodAll_cons r2
 obtain ⟨rfl, rfl, rfl⟩ := trodAll_nil r3
 obtain rfl : args = #[v0, v1, v2, v3] := arr4 hargs
 obtain ⟨rfl, rfl⟩ := trodVars_none hV
 obtain ⟨pl, ms, cl, rfl, hM, hml⟩ := open_moves (hval 0 44 v0 rfl rfl) h0
 obtain ⟨z1, rfl, rfl, rfl, w1⟩ := open_int Tryz.underlying3 (hval 1 3 v1 rfl rfl) h1
 obtain ⟨z2, rfl, rfl, rfl, w2⟩ := open_int Tryz.underlying3 (hval 2 3 v2 rfl rfl) h2
 obtain ⟨z3, rfl, rfl, rfl, w3⟩ := open_int Tryz.underlying3 (hval 3 3 v3 rfl rfl) h3
 clear hA0
 have hlt := hW'.lt
 refine (scans_walk pl cl ms z1 z2 z3 (bounds_i64 w1) (bounds_i64 w2) (bounds_i64 w3) W hn hM (by unfold maxLen at hml; omega)).mono fun e W' ⟨he, hb⟩ => ?_
 subst he
 exact ⟨_, rfl, post_of_below (pa := p0 ++ ([] ++ ([] ++ ([] ++ [])))) (pv := []) hW' (fun _ _ _ => trodAll_cons_mk (shut_bool Tryz.underlying4 _) trodAll_mk0)
  (fun sp hs => trodAll_cons_mk (reads_again (by kernel_rfl) (of_decide_eq_true (by kernel_rfl)) h0 hb (fun x hx => hlt x (by simp [hx])) (fun x hx => hs x (by simp [hx])))
   (trodAll_cons_mk (shut_int Tryz.underlying3 w1) (trodAll_cons_mk (shut_int Tryz.underlying3 w2) (trodAll_cons_mk (shut_int Tryz.underlying3 w3) trodAll_mk0)))) (fun _ _ => rfl) (by simp)
  hb (ok_one (by kernel_rfl) rfl (okWide_bool_mk Tryz.underlying4 _))⟩
noncomputable def laidWorld (os : Os) : World := World.holding Tryz.prog os ⟨#[], #[], []⟩
theorem laid_met (os : Os) : laidMet Tryz.prog Rows.treeScansRow.laid ((laidWorld os).forCall (fun _ _ => 0) ⟨#[], #[.slice none 0 0, .int .i64 0, .int .i64 0, .int .i64 0], []⟩).memory :=
 laidMet_of_run' 8 (by kernel_rfl) (by kernel_rfl)
theorem reads (os : Os) {H : Type} (enc : TypeId × Value → H) : ∃ places, DataW.whole enc Tryz.prog ((laidWorld os).forCall (fun _ _ => 0) ⟨#[], #[.slice none 0 0, .int .i64 0, .int .i64 0, .int .i64 0], []⟩).memory Tryz.f5.params.toList Rows.treeScansSpec.vars false #[Value.slice none 0 0, Value.int .i64 0, Value.int .i64 0, Value.int .i64 0].toList 8 =
 some ([.nil, .lit (.int .i64 0), .lit (.int .i64 0), .lit (.int .i64 0)], [], places) :=
 ⟨[], by kernel_rfl⟩
set_option maxRecDepth 100000 in
theorem lifted (os : Os) (started : os.Started) (H : Type) (enc : TypeId × Value → H) (F : Stop.Interp) :
 ReturnsInHanded {} Tryz.checked os 5 .any ((OpenSpec.ofChange Rows.treeScansSpec).preRow enc Tryz.prog Tryz.f5 Rows.treeScansRow.domain false Rows.treeScansRow.laid) (((OpenSpec.ofChange Rows.treeScansSpec).at F).post enc Tryz.prog Tryz.f5 false true false false) := by
 obtain ⟨places, hx⟩ := reads os enc
 refine returnsInHanded_of_row (C := Tryz.checked) (s := OpenSpec.ofChange Rows.treeScansSpec) own_knob started (by kernel_rfl) Tryz.func5
  (witness_row_at (enc := enc) (C := Tryz.checked) false (laidWorld os) #[.slice none 0 0, .int .i64 0, .int .i64 0, .int .i64 0] rfl (by kernel_rfl) (by kernel_rfl) (by kernel_rfl)
   (OpenSpec.preRow_of_cond 8 hx (by kernel_rfl) (fun k hk => by cases hk) (by kernel_rfl) (laid_met os))) ?_
 intro W base args ds gs before hval hW _ _ _ hlaid _ _
 exact contract H enc W base args ds gs before hval hW hlaid
theorem said : Rows.TreeScansSaid :=
 OpenClaim.holds_of_cond 5 Tryz.f5 rfl rfl rfl rfl rfl rfl rfl ⟨rfl, rfl, rfl, rfl, rfl⟩ rfl rfl rfl rfl rfl (by kernel_rfl) Tryz.func5 (by kernel_rfl)
  (of_decide_eq_true (by kernel_rfl)) (by unfold Func.isWrapper; first | (rw [if_pos (by decide +kernel)]; kernel_rfl) | (rw [if_neg (by decide +kernel)]; exact ⟨rfl, rfl⟩))
  (fun os started H enc _ F => by rw [OpenClaim.pre_eq_preRow]; exact lifted os started H enc F)
theorem plain (f : FuncId) (fn : Func) (hf : Tryz.pinned.checked.prog.funcNamed "bodega/bodegalaw24.TreeScans" = some f) (hfn : Tryz.pinned.checked.prog.funcs[f]? = some fn) :
 false = Tryz.pinned.checked.prog.looks [] ∧ ∀ (j : Nat) t, fn.params[j]? = some t → Tryz.pinned.checked.prog.wantsStandIn t = false := by
 obtain rfl : f = 5 := Option.some.inj ((show Tryz.prog.funcNamed "bodega/bodegalaw24.TreeScans" = some 5 by kernel_rfl).symm.trans hf) |>.symm
 obtain rfl : fn = Tryz.f5 := (Option.some.inj (Tryz.func5.symm.trans hfn)).symm
 refine ⟨by kernel_rfl, fun j t ht => ?_⟩
 rw [Tryz.params5] at ht
 have hm : t ∈ #[44, 3, 3, 3] := Array.mem_of_getElem? ht
 have ht2 : t = 44 ∨ t = 3 := by simpa using hm
 rcases ht2 with rfl | rfl
 · exact (show Tryz.prog.wantsStandIn 44 = false by kernel_rfl)
 · exact (show Tryz.prog.wantsStandIn 3 = false by kernel_rfl)
theorem card : Rows.TreeScansCardSaid :=
 Claim7.holds_tied_plain_at .later [] _ _ _ _ said (fun _ h => by cases h) (by kernel_rfl) (fun _ h => by cases h) treeScans_row_tie rfl ⟨rfl, rfl⟩ (by kernel_rfl) rfl plain (by kernel_rfl)
#print axioms card
end Go.Proofs.YtjmpekanlmepmaaGreatDoor.treeScans
