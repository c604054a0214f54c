/- For every list of moves: the levels of the program's index have the stated shape; no condition beside what the card lists. -/
import Derived.Test.YtjmpekanlmepmaaGreatDoorB46
import Derived.Test.YtjmpekanlmepmaaGreatDoorUS01
import Derived.BigQuiet
set_option linter.all false
namespace Go.Proofs.YtjmpekanlmepmaaGreatDoor
open Go.RowKit
theorem levels_len : ∀ {T : List (List Bt.Cell)}, Bt.Levels T → T.length ≤ (Bt.flat T).length
 | [], _ => Nat.zero_le _
 | c :: t, h => by
   have h1 := levels_len h.2
   have h2 := List.length_pos_iff.2 h.1.ne
   rw [Bt.flat_cons, List.length_append, List.length_cons]
   omega
def ShapeOuter (T : List (List Bt.Cell)) (w5 : World) (p4 : Nat) (i : Value) (wr : World) : Prop :=
 ∃ pre post, T = pre ++ post ∧ i = .int .i64 ((post.length : Int) - 1) ∧ Hid ((∀ lv t, post = lv :: t → Blk wr p4 27 (Bt.headPtr lv Bt.nilP).cells) ∧ Below w5.heap.size w5 wr)
def ShapeMid (lv : List Bt.Cell) (w7 : World) (low cnt i : Value) (wr : World) : Prop :=
 ∃ k : Nat, k ≤ lv.length ∧ low = .int .u32 (Bt.lowAfter 0 (lv.take k)) ∧ cnt = .int .i64 ((Bt.ents (lv.take k)).length : Int) ∧ i = .int .i64 k ∧ Hid (Below w7.heap.size w7 wr)
def ShapeIn (A : List Bt.Cell) (n : Bt.Node) (w8 : World) (cnt j : Value) (wr : World) : Prop :=
 ∃ m : Nat, m ≤ n.entries.length ∧ cnt = .int .i64 (((Bt.ents A).length + m : Nat) : Int) ∧ j = .int .i64 m ∧ Hid (Below w8.heap.size w8 wr)
set_option maxRecDepth 10000 in
set_option maxHeartbeats 8000000 in
theorem shape_walk (pl : Option Addr) (cl : Nat) (ms : List Mv) (w : World) (hn : NoneAt w) (hl : MvRow w pl ms) (hlong : ms.length ≤ 9223372036854775807) :
 Calls Tryz.prog 7 #[.slice pl ms.length cl] w fun e w' => e = .returned (.bool true) ∧ Below w.heap.size w w' := by
 have HN := Lib.hid hn
 have HL := Lib.hid hl
 clear hn hl
 by_cases h70 : 70 < ms.length
 · have b1 : decide ((70 : Int) < (ms.length : Int)) = true := by simp; omega
   have b2 : decide (70 < ms.length) = true := by simp; omega
   clear h70 hlong
   go_enter Tryz.func7, Tryz.ntmps7
   go_wp2_with fail
   go_at_call 21; refine (awake_any _ HN.out).mono ?_
   rintro e1 w1 ⟨rfl, hb1⟩
   go_wp2_with fail
   exact bodyPost_ret (results_tmp rfl _ _ _) rfl ⟨rfl, qL⟩
 have b1 : decide ((70 : Int) < (ms.length : Int)) = false := by simp; omega
 have b2 : decide (70 < ms.length) = false := by simp; omega
 have hm70 : ms.length ≤ 70 := by omega
 clear h70 hlong
 go_enter Tryz.func7, Tryz.ntmps7
 go_wp2_with fail
 go_at_call 21; refine (awake_any _ HN.out).mono ?_
 rintro e1 w1 ⟨rfl, hb1⟩
 have HB1 := Lib.hid hb1
 go_wp2_with fail
 go_at_call 26; refine (play_any pl cl ms _ (HN.out.below hb1) (HL.out.below hb1) hm70).mono ?_
 rintro e5 w5 ⟨x, P, cap, ps, nx, es, T, rfl, hplay⟩
 obtain ⟨vk, vt, vg, hxo, _⟩ := hplay.ix
 obtain ⟨R, hR⟩ : ∃ R, RootAt P T R w5 := ⟨_, hplay.root⟩
 have HR := Lib.hid hR
 obtain ⟨r0, r1, r2, r3, r4, r5, r6, r7, r8⟩ := hR.nine
 have HKO := Lib.hid hxo.keys
 have HTO := Lib.hid hxo.tos
 have HNO := Lib.hid hxo.none
 have hlen := hplay.inv.ix.len
 have kx0 : w5.cell? ⟨x, 0, none⟩ = some (.slice (some ⟨P, 0, none⟩) ps.length cap) := hxo.blk.cell 0
 have kx2 : w5.cell? ⟨x, 2, none⟩ = some vk := hxo.blk.cell 2
 have kx3 : w5.cell? ⟨x, 3, none⟩ = some vt := hxo.blk.cell 3
 have hxw : x < w5.heap.size := hxo.blk.lt
 have hPw : P < w5.heap.size := hxo.pg.lt
 have HPLAY := Lib.hid hplay
 have HB5 := Lib.hid hplay.below
 have eq := eql_ptr
 have ne := neq_ptr
 rw [hlen] at kx0
 clear hxo hplay hb1 hR
 by_cases hT : T = []
 · subst hT
   have hkl : (keysOf es) = [] := by
    have := HPLAY.out.inv.holds
    rw [← this]; rfl
   rw [hkl] at HKO
   obtain ⟨pk, ck, rfl⟩ := own_shape HKO.out
   have pp : peq 0 0 0 0 = true := rfl
   go_wp2_with fail
   go_at_call 15; refine (ReadRoot_any R HR.out.ok HR.out.line _ ?hng).mono ?_
   case hng => exact HNO.out.below qL
   rintro e6 w6 ⟨he6, hb6⟩
   rw [HR.out.reads] at he6
   obtain rfl := he6
   ((obtain ⟨hc6, hf6, hs6⟩ := qR hb6); (try have := qN0 w5 w6))
   have hx6 : x < w6.heap.size := by omega
   simp only [Bt.rootPtr, Bt.nilP, Bt.Ptr.cells]
   go_wp2_with fail
   have hb5 := HB5.out
   have hb1 := HB1.out
   exact bodyPost_ret (results_tmp rfl _ _ _) rfl ⟨rfl, qL⟩
 obtain ⟨l0, n0, rr, tt, hTT⟩ : ∃ l0 n0 rr tt, T = ((l0, n0) :: rr) :: tt := by
  cases T with
  | nil => exact absurd rfl hT
  | cons up tt =>
    cases up with
    | nil => exact absurd rfl HPLAY.out.inv.tree.levels.1.ne
    | cons c rr => exact ⟨c.1, c.2, rr, tt, rfl⟩
 have hrp : Bt.rootPtr T = Bt.ptr l0 := by rw [hTT]; rfl
 have hl0 := (HPLAY.out.inv.sees (l0, n0) (by rw [hTT]; simp [Bt.flat])).lo
 have pp : peq l0 1 0 0 = false := by
  have h1 : (104 : Int) ≤ l0 := hl0
  unfold peq
  exact decide_eq_false (by omega)
 have hlt : ((T.length - 1 : Nat) : Int) = (tt.length : Int) := by rw [hTT]; simp
 go_wp2_with fail
 go_at_call 15; refine (ReadRoot_any R HR.out.ok HR.out.line _ ?hng).mono ?_
 case hng => exact HNO.out.below qL
 rintro e6 w6 ⟨he6, hb6⟩
 rw [HR.out.reads, hrp, hlt] at he6
 obtain rfl := he6
 ((obtain ⟨hc6, hf6, hs6⟩ := qR hb6); (try have := qN0 w5 w6))
 simp only [Bt.ptr, Bt.Ptr.cells]
 have HB56 : Hid (Below w5.heap.size w5 w6) := Lib.hid qL
 clear hrp hlt hT hl0 hb6
 go_wp2_with fail
 go_loopw [5] (fun i wr => ShapeOuter T w5 w6.heap.size i wr) (fun i _ => ((intOf i) + 1).toNat)
 case atStart =>
  refine ⟨[], T, rfl, by rw [hTT]; simp, Lib.hid ⟨fun lv t hlt => ?_, by have hb56 := HB56.out; exact qL⟩⟩
  rw [hTT] at hlt
  simp only [List.cons.injEq] at hlt
  obtain ⟨rfl, rfl⟩ := hlt
  exact Blk.made _ _ _
 case round =>
  obtain ⟨pre, post, hpp, rfl, HQ⟩ := hrel
  cases post with
  | nil =>
    go_wp2_with fail
    have hbq := HQ.out.2
    have hb5 := HB5.out
    have hb1 := HB1.out
    exact bodyPost_ret (results_tmp rfl _ _ _) rfl ⟨rfl, qL⟩
  | cons lv t =>
    have hlv : Bt.Level ((t.length : Nat) : Int) lv := Bt.Tree.level (pre := pre) (hpp ▸ HPLAY.out.inv.tree)
    have HLV := Lib.hid hlv
    have HLEV := Lib.hid (HPLAY.out.level hpp)
    have HBQ := Lib.hid HQ.out.2
    obtain ⟨lh, nh, lvr, hlh⟩ : ∃ lh nh lvr, lv = (lh, nh) :: lvr := by
     cases lv with
     | nil => exact absurd rfl hlv.ne
     | cons c r => exact ⟨c.1, c.2, r, rfl⟩
    have hbp := HQ.out.1 lv t rfl
    have kp : ∀ i, wr.cell? ⟨w6.heap.size, i, none⟩ = (#[.int .i64 lh, .int .i64 1] : Array Value)[i]? := by
     have := hbp.cell
     rw [hlh] at this
     exact this
    have hplt := hbp.lt
    have HBP := Lib.hid hbp
    have hpf := hbp.free
    have hbl : decide ((0 : Int) ≤ ((t.length : Nat) : Int)) = true := by simp
    have hent := hlv.ne
    have hls : lv.length ≤ 151 := by
     have := HPLAY.out.inv.small
     rw [hpp] at this
     simp only [Bt.flat_append, Bt.flat_cons, List.length_append] at this
     omega
    clear hlv hbp
    simp only [List.length_cons]
    rw [show (((t.length + 1 : Nat) : Int) - 1) = (t.length : Int) by omega]
    go_wp2_with fail
    have hhc : (Bt.headPtr lv Bt.nilP).cells = #[.int .i64 lh, .int .i64 1] := by rw [hlh]; rfl
    have hcall := HLEV.out wr HBQ.out
    rw [hhc] at hcall
    go_at_call 29; refine hcall.mono ?_
    rintro e7 w7 ⟨vn, vp, us, rfl, hN7, _, hb7⟩
    obtain ⟨g, cn, rfl⟩ := own_form hN7.own (List.length_pos_iff.2 hent)
    have HN7 := Lib.hid hN7
    have HB7 := Lib.hid hb7
    have HBP7 := Lib.hid (HBP.out.kept hb7)
    have hg7 : g < w7.heap.size := (own_lt hN7.own).2
    have hlp : 0 < lv.length := List.length_pos_iff.2 hent
    have bz : ((lv.length : Int) == 0) = false := by simp; omega
    have bz2 : (lv.length == 0) = false := by simp; omega
    have hB57 : Hid (Below w5.heap.size w5 w7) := Lib.hid (below_step HBQ.out hb7)
    ((obtain ⟨hc7, hf7, hs7⟩ := qR hb7); (try have := qN0 wr w7))
    have kx27 : w7.cell? ⟨x, 2, none⟩ = some vk := (hB57.out.cell (p := ⟨x, 2, none⟩) hxw).trans kx2
    have kx37 : w7.cell? ⟨x, 3, none⟩ = some vt := (hB57.out.cell (p := ⟨x, 3, none⟩) hxw).trans kx3
    have hx7 : x < w7.heap.size := Nat.lt_of_lt_of_le hxw hB57.out.size
    have HLH := Lib.hid hlh
    have HTT := Lib.hid hTT
    clear hcall hN7 hb7 hent hlh hhc
    go_wp2_with fail
    go_loopw [10, 11, 12] (fun low cnt i wq => ShapeMid lv w7 low cnt i wq) (fun _ _ i _ => ((lv.length : Int) - intOf i).toNat)
    case atStart => exact ⟨0, Nat.zero_le _, rfl, rfl, rfl, Lib.hid (Below.refl _ _)⟩
    case round =>
     obtain ⟨k, hk, rfl, rfl, rfl, HBK⟩ := hrel
     rename World => wq
     have hB5q : Hid (Below w5.heap.size w5 wq) := Lib.hid (below_step hB57.out HBK.out)
     have kxq2 : wq.cell? ⟨x, 2, none⟩ = some vk := (HBK.out.cell (p := ⟨x, 2, none⟩) hx7).trans kx27
     have kxq3 : wq.cell? ⟨x, 3, none⟩ = some vt := (HBK.out.cell (p := ⟨x, 3, none⟩) hx7).trans kx37
     have hxq : x < wq.heap.size := Nat.lt_of_lt_of_le hx7 HBK.out.size
     by_cases hkl : k < lv.length
     · obtain ⟨l, n, hcn⟩ : ∃ l n, lv[k] = (l, n) := ⟨_, _, rfl⟩
       have hget : lv[k]? = some (l, n) := by rw [List.getElem?_eq_getElem hkl, hcn]
       have htake : lv.take (k + 1) = lv.take k ++ [(l, n)] := by rw [List.take_succ_eq_append_getElem hkl, hcn]
       have hsplit : lv = lv.take k ++ (l, n) :: lv.drop (k + 1) := by
        have := List.take_append_drop k lv
        rw [List.drop_eq_getElem_cons hkl, hcn] at this
        exact this.symm
       have hft : Bt.NodeFits ((t.length : Nat) : Int) (lv.take k) n := Bt.Level.fits (l := ((t.length : Nat) : Int)) (A := lv.take k) (R := lv.drop (k + 1)) (x := (l, n)) (hsplit ▸ HLV.out)
       obtain ⟨u, hown, q0, q1, q2, q3, q4, q5, q6⟩ := HN7.out.seven hget
       have he1 : (lv.take k).isEmpty = ((k : Int) == 0) := by
        cases k with
        | zero => simp
        | succ k => cases lv with
          | nil => simp at hkl
          | cons c r => simp; omega
       have c0 : wq.cell? ⟨g, k * 7, none⟩ = some (.int .i64 (t.length : Int)) := (HBK.out.cell (p := ⟨g, k * 7, none⟩) hg7).trans (by rw [q0]; show some (Value.int .i64 n.level) = _; rw [hft.level])
       have c1 : wq.cell? ⟨g, k * 7 + 1, none⟩ = some (.bool ((k : Int) == 0)) := (HBK.out.cell (p := ⟨g, k * 7 + 1, none⟩) hg7).trans (by rw [q1]; show some (Value.bool n.leftmost) = _; rw [hft.left, he1])
       have c2 : wq.cell? ⟨g, k * 7 + 2, none⟩ = some (.bool n.dead) := (HBK.out.cell (p := ⟨g, k * 7 + 2, none⟩) hg7).trans q2
       have c3 : wq.cell? ⟨g, k * 7 + 3, none⟩ = some (.int .u32 n.high) := (HBK.out.cell (p := ⟨g, k * 7 + 3, none⟩) hg7).trans q3
       have c4 : wq.cell? ⟨g, k * 7 + 4, none⟩ = some (.int .i64 n.right.line) := (HBK.out.cell (p := ⟨g, k * 7 + 4, none⟩) hg7).trans q4
       have c5 : wq.cell? ⟨g, k * 7 + 5, none⟩ = some (.int .i64 n.right.gen) := (HBK.out.cell (p := ⟨g, k * 7 + 5, none⟩) hg7).trans q5
       have c6 : wq.cell? ⟨g, k * 7 + 6, none⟩ = some u := (HBK.out.cell (p := ⟨g, k * 7 + 6, none⟩) hg7).trans q6
       have HOW := Lib.hid hown
       have HFT := Lib.hid hft
       have HTK := Lib.hid htake
       have HSP := Lib.hid hsplit
       have hsv := qSt HOW.out
       have bk : decide ((k : Int) < lv.length) = true := by simp; omega
       have bk0 : (0 : Int) ≤ k := by omega
       have bk1 : (k : Int) < lv.length := by omega
       have wk1 : IntKind.i64.wrap ((k : Int) + 1) = (k : Int) + 1 := by rw [IntKind.wrap_i64]; omega
       have hgq : g < wq.heap.size := Nat.lt_of_lt_of_le hg7 HBK.out.size
       clear hown hft htake hsplit hget hcn q0 q1 q2 q3 q4 q5 q6 he1
       rcases hdd : n.dead with _ | _
       · obtain ⟨pu, cu, rfl⟩ := own_shape HOW.out
         rw [hdd] at c2
         obtain ⟨A, hA⟩ : ∃ A, lv.take k = A := ⟨_, rfl⟩
         rw [hA] at HFT HTK HSP ⊢
         have hhl := HFT.out.high hdd
         have bh : decide (n.high ≤ Bt.lowAfter 0 A) = false := decide_eq_false (by omega)
         have HKE := Lib.hid (HFT.out.keys hdd)
         go_wp2_with fail
         generalize hw8 : wq.alloc (.cells #[.int .i64 (t.length : Int), .bool ((k : Int) == 0), .bool false, .int .u32 n.high, .int .i64 n.right.line, .int .i64 n.right.gen, .slice pu n.entries.length cu] 73) = w8
         have hb8 : Below wq.heap.size wq w8 := by rw [← hw8]; exact qL
         have B8 : Blk w8 wq.heap.size 73 #[.int .i64 (t.length : Int), .bool ((k : Int) == 0), .bool false, .int .u32 n.high, .int .i64 n.right.line, .int .i64 n.right.gen, .slice pu n.entries.length cu] := by rw [← hw8]; exact Blk.made _ _ _
         have HO8 := Lib.hid (own_below HOW.out (below_step HBK.out hb8))
         have HB8 := Lib.hid hb8
         have HBL := Lib.hid B8
         have kx82 : w8.cell? ⟨x, 2, none⟩ = some vk := (hb8.cell (p := ⟨x, 2, none⟩) hxq).trans kxq2
         have kx83 : w8.cell? ⟨x, 3, none⟩ = some vt := (hb8.cell (p := ⟨x, 3, none⟩) hxq).trans kxq3
         have hx8 : x < w8.heap.size := Nat.lt_of_lt_of_le hxq hb8.size
         have hq8 : wq.heap.size < w8.heap.size := B8.lt
         have hB58 : Hid (Below w5.heap.size w5 w8) := Lib.hid (below_step hB5q.out hb8)
         clear hw8 hb8 B8 c0 c1 c2 c3 c4 c5 c6 kxq2 kxq3 hhl
         go_loopw [11, 14] (fun cnt j wz => ShapeIn A n w8 cnt j wz) (fun _ j _ => ((n.entries.length : Int) - intOf j).toNat)
         case atStart => exact ⟨0, Nat.zero_le _, rfl, rfl, Lib.hid (Below.refl _ _)⟩
         case round =>
          obtain ⟨m, hm, rfl, rfl, HBM⟩ := hrel
          rename World => wz
          have kz : ∀ i, wz.cell? ⟨wq.heap.size, i, none⟩ = (#[.int .i64 (t.length : Int), .bool ((k : Int) == 0), .bool false, .int .u32 n.high, .int .i64 n.right.line, .int .i64 n.right.gen, .slice pu n.entries.length cu] : Array Value)[i]? := fun i => (HBM.out.cell (p := ⟨wq.heap.size, i, none⟩) hq8).trans (HBL.out.cell i)
          have hqz : wq.heap.size < wz.heap.size := Nat.lt_of_lt_of_le hq8 HBM.out.size
          have kxz2 : wz.cell? ⟨x, 2, none⟩ = some vk := (HBM.out.cell (p := ⟨x, 2, none⟩) hx8).trans kx82
          have kxz3 : wz.cell? ⟨x, 3, none⟩ = some vt := (HBM.out.cell (p := ⟨x, 3, none⟩) hx8).trans kx83
          have hxz : x < wz.heap.size := Nat.lt_of_lt_of_le hx8 HBM.out.size
          have hB5z : Hid (Below w5.heap.size w5 wz) := Lib.hid (below_step hB58.out HBM.out)
          have hn5 : n.entries.length ≤ 5 := (Bt.Node.valid_parts (HLV.out.valid (l, n) (by rw [HSP.out]; simp))).2.2.1
          by_cases hml : m < n.entries.length
          · obtain ⟨e, he⟩ : ∃ e, n.entries[m] = e := ⟨_, rfl⟩
            obtain ⟨gu, cu2, hpu⟩ := own_form HO8.out (by show 0 < n.entries.length; omega)
            simp only [Value.slice.injEq, true_and] at hpu
            obtain ⟨rfl, rfl⟩ := hpu
            have hcells : ∀ j z, (entCells n.entries)[j]? = some z → wz.cell? ⟨gu, j, none⟩ = some z := own_cells (own_below HO8.out HBM.out)
            have hguz : gu < wz.heap.size := (own_lt (own_below HO8.out HBM.out)).2
            have d0 : wz.cell? ⟨gu, m * 3, none⟩ = some (.int .u32 e.key) := by rw [← he]; exact hcells _ _ (entCells_get n.entries m n.entries[m] (List.getElem?_eq_getElem hml) 0 _ rfl)
            have d1 : wz.cell? ⟨gu, m * 3 + 1, none⟩ = some (.int .i64 e.to.line) := by rw [← he]; exact hcells _ _ (entCells_get n.entries m n.entries[m] (List.getElem?_eq_getElem hml) 1 _ rfl)
            have d2 : wz.cell? ⟨gu, m * 3 + 2, none⟩ = some (.int .i64 e.to.gen) := by rw [← he]; exact hcells _ _ (entCells_get n.entries m n.entries[m] (List.getElem?_eq_getElem hml) 2 _ rfl)
            obtain ⟨f1, f2⟩ := HKE.out e (by rw [← he]; exact List.getElem_mem hml)
            have b1 : decide (e.key ≤ Bt.lowAfter 0 A) = false := decide_eq_false (by omega)
            have b2 : decide (n.high < e.key) = false := decide_eq_false (by omega)
            have hat : (Bt.ents lv)[(Bt.ents A).length + m]? = some e := by
             have := Bt.ents_at (A := A) (R := lv.drop (k + 1)) (x := (l, n)) (j := m) hml
             rw [← HSP.out] at this
             rw [this]; exact congrArg some he
            obtain ⟨N, hN⟩ : ∃ N, (Bt.ents A).length + m = N := ⟨_, rfl⟩
            rw [hN] at hat ⊢
            have bm : decide ((m : Int) < n.entries.length) = true := by simp; omega
            have bm0 : (0 : Int) ≤ m := by omega
            have bm1 : (m : Int) < n.entries.length := by omega
            have wm1 : IntKind.i64.wrap ((m : Int) + 1) = (m : Int) + 1 := by rw [IntKind.wrap_i64]; omega
            have hNl : N < (Bt.ents lv).length := (List.getElem?_eq_some_iff.1 hat).1
            have hNb : N ≤ 1000 := by
             have := ents_len lv (fun c hc => (Bt.Node.valid_parts (HLV.out.valid c hc)).2.2.1)
             omega
            have wN : IntKind.i64.wrap ((N : Int) + 1) = (N : Int) + 1 := by rw [IntKind.wrap_i64]; omega
            have HAT := Lib.hid hat
            have HNN := Lib.hid hN
            have pq : peq e.to.line e.to.gen e.to.line e.to.gen = true := by unfold peq; simp
            clear hcells he f1 f2 hat hN
            by_cases ht : t = []
            · have hes : Hid (es = Bt.ents lv) := Lib.hid (by
                have h1 := HPLAY.out.inv.holds
                rw [hpp, ht, Bt.leafEnts_leaf] at h1
                exact h1.symm)
              have hb0 : ((t.length : Int) == 0) = true := by rw [ht]; rfl
              have hesl : es.length = (Bt.ents lv).length := by rw [hes.out]
              have hkl2 : (keysOf es).length = es.length := by unfold keysOf; simp
              have htl2 : (tosOf es).length = es.length := by unfold tosOf; simp
              obtain ⟨gk, ck, rfl⟩ := own_form HKO.out (by omega)
              obtain ⟨gt, ct, rfl⟩ := own_form HTO.out (by omega)
              have hge : es[N]? = some e := by rw [hes.out]; exact HAT.out
              have y0 : wz.cell? ⟨gk, N, none⟩ = some (.int .u32 e.key) := own_cells (own_below HKO.out hB5z.out) N _ (by unfold keyCells keysOf; simp [hge])
              have y1 : wz.cell? ⟨gt, N * 2, none⟩ = some (.int .i64 e.to.line) := own_cells (own_below HTO.out hB5z.out) _ _ (ptrCells_get (tosOf es) N e.to (by unfold tosOf; simp [hge]) 0 _ rfl)
              have y2 : wz.cell? ⟨gt, N * 2 + 1, none⟩ = some (.int .i64 e.to.gen) := own_cells (own_below HTO.out hB5z.out) _ _ (ptrCells_get (tosOf es) N e.to (by unfold tosOf; simp [hge]) 1 _ rfl)
              have hgkz : gk < wz.heap.size := (own_lt (own_below HKO.out hB5z.out)).2
              have hgtz : gt < wz.heap.size := (own_lt (own_below HTO.out hB5z.out)).2
              obtain ⟨KL, hKL⟩ : ∃ KL, (keysOf es).length = KL := ⟨_, rfl⟩
              obtain ⟨TL, hTL⟩ : ∃ TL, (tosOf es).length = TL := ⟨_, rfl⟩
              rw [hKL] at kxz2
              rw [hTL] at kxz3
              have bn0 : (0 : Int) ≤ N := by omega
              have bn1 : (N : Int) < KL := by omega
              have bn2 : (N : Int) < TL := by omega
              have bn3 : decide ((KL : Int) ≤ N) = false := decide_eq_false (by omega)
              have bn4 : decide (KL ≤ N) = false := decide_eq_false (by omega)
              have HKL := Lib.hid hKL
              have HTL := Lib.hid hTL
              clear hge hesl hkl2 htl2 hNl hKL hTL
              go_wp2_with fail
              go_quiet (fail)
              go_wp2_with fail
              go_quiet (fail)
              go_wp2_with fail
              refine ⟨⟨m + 1, hml, by rw [show (N : Int) + 1 = ((N + 1 : Nat) : Int) by omega, ← HNN.out]; rfl, by rw [show ((m : Int) + 1) = ((m + 1 : Nat) : Int) by omega], Lib.hid (by have hbm := HBM.out; exact qL)⟩, by simp [intOf]; omega⟩
            · have hb0 : ((t.length : Int) == 0) = false := by
                have : t.length ≠ 0 := fun h => ht (List.length_eq_zero_iff.1 h)
                simp; omega
              go_wp2_with fail
              go_quiet (fail)
              go_wp2_with fail
              go_quiet (fail)
              go_wp2_with fail
              refine ⟨⟨m + 1, hml, by rw [show (N : Int) + 1 = ((N + 1 : Nat) : Int) by omega, ← HNN.out]; rfl, by rw [show ((m : Int) + 1) = ((m + 1 : Nat) : Int) by omega], Lib.hid (by have hbm := HBM.out; exact qL)⟩, by simp [intOf]; omega⟩
          · have hmm : m = n.entries.length := by omega
            have bm : decide ((m : Int) < n.entries.length) = false := by simp; omega
            go_wp2_with fail
            refine ⟨⟨k + 1, hkl, ?_, ?_, by rw [show ((k : Int) + 1) = ((k + 1 : Nat) : Int) by omega], Lib.hid (by have hbk := HBK.out; have hb8 := HB8.out; have hbm := HBM.out; exact qL)⟩, by simp [intOf]; omega⟩
            · rw [HTK.out, Bt.lowAfter_append, Bt.lowAfter_live _ hdd]
            · rw [HTK.out, Bt.ents_next, hmm]
       · obtain ⟨g1, g2, g3⟩ := HFT.out.dead hdd
         have hbl : decide ((0 : Int) < (t.length : Int)) = false := by rw [g1]; rfl
         have hk0 : ((k : Int) == 0) = false := by
          cases k with
          | zero => simp at g2
          | succ k => simp; omega
         rw [hk0] at c1
         rw [hdd] at c2
         go_wp2_with fail
         refine ⟨⟨k + 1, hkl, ?_, ?_, by rw [show ((k : Int) + 1) = ((k + 1 : Nat) : Int) by omega], Lib.hid (by have hbk := HBK.out; exact qL)⟩, by simp [intOf]; omega⟩
         · rw [HTK.out, Bt.lowAfter_append, Bt.lowAfter_dead _ hdd]
         · rw [HTK.out, Bt.ents_dead _ g3]
     · have hkk : k = lv.length := by omega
       have bk : decide ((k : Int) < lv.length) = false := by simp; omega
       have hlow : Bt.lowAfter 0 (lv.take k) = 4294967295 := by rw [hkk, List.take_length, HLV.out.end_]; rfl
       have hen : lv.take k = lv := by rw [hkk, List.take_length]
       rw [hlow, hen]
       have HBPq := Lib.hid (HBP7.out.kept HBK.out)
       have hpq := HBPq.out.lt
       have hpfq := HBPq.out.free
       have kpq : ∀ i, wq.cell? ⟨w6.heap.size, i, none⟩ = (#[.int .i64 lh, .int .i64 1] : Array Value)[i]? := by
        have := HBPq.out.cell
        rw [HLH.out] at this
        exact this
       have wt1 : IntKind.i64.wrap ((t.length : Int) - 1) = (t.length : Int) - 1 := by
        have := HPLAY.out.inv.root
        have h4 : t.length ≤ 151 := by
         have h1 := HPLAY.out.inv.small
         rw [hpp] at h1
         have h2 := HPLAY.out.inv.tree.levels
         rw [hpp] at h2
         have h3 := levels_len (Bt.Levels.append h2)
         simp only [Bt.flat_append, List.length_append] at h1
         simp only [List.length_cons] at h3
         omega
        rw [IntKind.wrap_i64]; omega
       clear hlow hen hkk
       by_cases ht : t = []
       · have hb0 : ((t.length : Int) == 0) = true := by rw [ht]; rfl
         have hbl0 : decide ((0 : Int) < (t.length : Int)) = false := by rw [ht]; rfl
         have hbn0 : decide (0 < t.length) = false := by rw [ht]; rfl
         have hbn1 : ¬ 0 < t.length := by rw [ht]; simp
         obtain ⟨pk, ck, rfl⟩ := own_shape HKO.out
         have hes : es = Bt.ents lv := by
          have h1 := HPLAY.out.inv.holds
          rw [hpp, ht, Bt.leafEnts_leaf] at h1
          exact h1.symm
         have hkl2 : (keysOf es).length = (Bt.ents lv).length := by unfold keysOf; rw [List.length_map, hes]
         obtain ⟨KL, hKL⟩ : ∃ KL, (Bt.ents lv).length = KL := ⟨_, rfl⟩
         rw [hkl2, hKL] at kxq2
         rw [hKL]
         have HT0 := Lib.hid ht
         clear hes hkl2 hKL ht
         go_wp2_with fail
         refine ⟨⟨pre ++ [lv], t, by rw [hpp]; simp, rfl, Lib.hid ⟨fun lv' t' h => by (rw [HT0.out] at h; cases h), by have hbq := hB5q.out; exact qL⟩⟩, by simp [intOf] <;> omega⟩
       · obtain ⟨lo, t', htt⟩ : ∃ lo t', t = lo :: t' := by
           cases t with
           | nil => exact absurd rfl ht
           | cons lo t' => exact ⟨lo, t', rfl⟩
         have hb0 : ((t.length : Int) == 0) = false := by rw [htt]; simp <;> omega
         have hbl0 : decide ((0 : Int) < (t.length : Int)) = true := by rw [htt]; simp <;> omega
         have hbn0 : decide (0 < t.length) = true := by rw [htt]; simp
         have hbn1 : 0 < t.length := by rw [htt]; simp
         have hlevs : Bt.Levels (lv :: lo :: t') := by have := HPLAY.out.inv.tree.levels; rw [hpp, htt] at this; exact this.append
         have hlnk : Bt.Links (lv :: lo :: t') := by have := HPLAY.out.inv.tree.links; rw [hpp, htt] at this; exact this.append
         obtain ⟨x0, r0, e0, es0, y0, r2, hlv0, hx0, hlo0, hto⟩ := Bt.Levels.first hlevs hlnk
         obtain ⟨u, hown, _, _, _, _, _, _, q6⟩ := HN7.out.seven (i := 0) (c := x0) (by rw [hlv0]; rfl)
         obtain ⟨gu, cu, rfl⟩ := own_form hown (by rw [hx0]; simp)
         have z6 : wq.cell? ⟨g, 6, none⟩ = some (.slice (some ⟨gu, 0, none⟩) x0.2.entries.length cu) := by
          have := (HBK.out.cell (p := ⟨g, 0 * 7 + 6, none⟩) hg7).trans q6
          simpa using this
         have hguq : gu < wq.heap.size := Nat.lt_of_lt_of_le (own_lt hown).2 HBK.out.size
         have hgq : g < wq.heap.size := Nat.lt_of_lt_of_le hg7 HBK.out.size
         have hcells : ∀ j z, (entCells x0.2.entries)[j]? = some z → wq.cell? ⟨gu, j, none⟩ = some z := own_cells (own_below hown HBK.out)
         have z1 : wq.cell? ⟨gu, 1, none⟩ = some (.int .i64 e0.to.line) := hcells 1 _ (by rw [hx0]; rfl)
         have z2 : wq.cell? ⟨gu, 2, none⟩ = some (.int .i64 e0.to.gen) := hcells 2 _ (by rw [hx0]; rfl)
         have hel : (0 : Int) < (x0.2.entries.length : Int) := by rw [hx0]; simp <;> omega
         have hlp2 : (0 : Int) < (lv.length : Int) := by omega
         have HLO : Hid (∀ lv' t'', t = lv' :: t'' → (Bt.headPtr lv' Bt.nilP).cells = #[.int .i64 e0.to.line, .int .i64 e0.to.gen]) := Lib.hid (fun lv' t'' h => by
          rw [htt] at h
          simp only [List.cons.injEq] at h
          obtain ⟨rfl, rfl⟩ := h
          rw [hlo0]
          show (Bt.ptr y0.1).cells = _
          rw [← hto]; rfl)
         clear hlevs hlnk hlv0 hx0 hlo0 hto hown q6 hcells htt
         go_wp2_with fail
         refine ⟨⟨pre ++ [lv], t, by rw [hpp]; simp, rfl, Lib.hid ⟨fun lv' t' h => ?_, by have hbq := hB5q.out; exact qL⟩⟩, by simp [intOf] <;> omega⟩
         rw [HLO.out lv' t' h]
         have hbb := HBPq.out
         rw [HLH.out] at hbb
         exact Blk.all2 (x0 := .int .i64 lh) (x1 := .int .i64 1) hbb _ _
end Go.Proofs.YtjmpekanlmepmaaGreatDoor
namespace Go.Proofs.YtjmpekanlmepmaaGreatDoor.treeShape
open Go.ChangeShapes Go.WideShapes Go.ChangeAt Go.RowKit
set_option maxRecDepth 100000 in
theorem contract (H : Type) (enc : TypeId × Value → H) (W : World) (base : Nat) (args : Array Value) (ds gs : List (DataW H)) (before : List MemPlace)
 (hval : ∀ (j : Nat) t v, Tryz.f7.params[j]? = some t → args[j]? = some v → Value.okWide Tryz.prog W .any base t v)
 (hW : DataW.Whole enc Tryz.prog Tryz.f7.params.toList Rows.treeShapeSpec.vars false W args.toList ds gs before) (hlaid : laidMetH Tryz.prog Rows.treeShapeRow.laid W) :
 Calls Tryz.prog 7 args W fun e W' => ∃ v, e = .returned v ∧ Rows.treeShapeSpec.post enc Tryz.prog Tryz.f7 false true false false W args v W' := by
 have hn : NoneAt W := none_at W hlaid
 have hW' := hW
 obtain ⟨p, q, hA0, hV, rfl, hfz, hnd⟩ := hW
 have hA : DataW.TrodAll enc Tryz.prog W 0 (fun _ => true) true Tryz.f7.params.toList args.toList ds p := hA0
 rw [Tryz.params7] at hA hval
 obtain ⟨v0, vs0, d0, ds0, p0, q0, hargs, rfl, rfl, h0, r0⟩ := trodAll_cons hA
 obtain ⟨rfl, rfl, rfl⟩ := trodAll_nil r0
 obtain rfl : args = #[v0] := arr1 hargs
 obtain ⟨rfl, rfl⟩ := trodVars_none hV
 obtain ⟨pl, ms, cl, rfl, hM, hml⟩ := open_moves (hval 0 44 v0 rfl rfl) h0
 clear hA0
 have hlt := hW'.lt
 refine (shape_walk pl cl ms W hn hM (by unfold maxLen at hml; omega)).mono fun e W' ⟨he, hb⟩ => ?_
 subst he
 exact ⟨_, rfl, post_of_below (pa := p0 ++ []) (pv := []) hW' (fun _ _ _ => trodAll_cons_mk (shut_bool Tryz.underlying4 _) trodAll_mk0)
  (fun sp hs => trodAll_cons_mk (reads_again (by kernel_rfl) (of_decide_eq_true (by kernel_rfl)) h0 hb (fun x hx => hlt x (by simp [hx])) (fun x hx => hs x (by simp [hx])))
   trodAll_mk0) (fun _ _ => rfl) (by simp)
  hb (ok_one (by kernel_rfl) rfl (okWide_bool_mk Tryz.underlying4 _))⟩
noncomputable def laidWorld (os : Os) : World := World.holding Tryz.prog os ⟨#[], #[], []⟩
theorem laid_met (os : Os) : laidMet Tryz.prog Rows.treeShapeRow.laid ((laidWorld os).forCall (fun _ _ => 0) ⟨#[], #[.slice none 0 0], []⟩).memory :=
 laidMet_of_run' 8 (by kernel_rfl) (by kernel_rfl)
theorem reads (os : Os) {H : Type} (enc : TypeId × Value → H) : ∃ places, DataW.whole enc Tryz.prog ((laidWorld os).forCall (fun _ _ => 0) ⟨#[], #[.slice none 0 0], []⟩).memory Tryz.f7.params.toList Rows.treeShapeSpec.vars false #[Value.slice none 0 0].toList 8 =
 some ([.nil], [], places) :=
 ⟨[], by kernel_rfl⟩
set_option maxRecDepth 100000 in
theorem lifted (os : Os) (started : os.Started) (H : Type) (enc : TypeId × Value → H) (F : Stop.Interp) :
 ReturnsInHanded {} Tryz.checked os 7 .any ((OpenSpec.ofChange Rows.treeShapeSpec).preRow enc Tryz.prog Tryz.f7 Rows.treeShapeRow.domain false Rows.treeShapeRow.laid) (((OpenSpec.ofChange Rows.treeShapeSpec).at F).post enc Tryz.prog Tryz.f7 false true false false) := by
 obtain ⟨places, hx⟩ := reads os enc
 refine returnsInHanded_of_row (C := Tryz.checked) (s := OpenSpec.ofChange Rows.treeShapeSpec) own_knob started (by kernel_rfl) Tryz.func7
  (witness_row_at (enc := enc) (C := Tryz.checked) false (laidWorld os) #[.slice none 0 0] rfl (by kernel_rfl) (by kernel_rfl) (by kernel_rfl)
   (OpenSpec.preRow_of_cond 8 hx (by kernel_rfl) (fun k hk => by cases hk) (by kernel_rfl) (laid_met os))) ?_
 intro W base args ds gs before hval hW _ _ _ hlaid _ _
 exact contract H enc W base args ds gs before hval hW hlaid
theorem said : Rows.TreeShapeSaid :=
 OpenClaim.holds_of_cond 7 Tryz.f7 rfl rfl rfl rfl rfl rfl rfl ⟨rfl, rfl, rfl, rfl, rfl⟩ rfl rfl rfl rfl rfl (by kernel_rfl) Tryz.func7 (by kernel_rfl)
  (of_decide_eq_true (by kernel_rfl)) (by unfold Func.isWrapper; first | (rw [if_pos (by decide +kernel)]; kernel_rfl) | (rw [if_neg (by decide +kernel)]; exact ⟨rfl, rfl⟩))
  (fun os started H enc _ F => by rw [OpenClaim.pre_eq_preRow]; exact lifted os started H enc F)
theorem plain (f : FuncId) (fn : Func) (hf : Tryz.pinned.checked.prog.funcNamed "bodega/bodegalaw24.TreeShape" = some f) (hfn : Tryz.pinned.checked.prog.funcs[f]? = some fn) :
 false = Tryz.pinned.checked.prog.looks [] ∧ ∀ (j : Nat) t, fn.params[j]? = some t → Tryz.pinned.checked.prog.wantsStandIn t = false := by
 obtain rfl : f = 7 := Option.some.inj ((show Tryz.prog.funcNamed "bodega/bodegalaw24.TreeShape" = some 7 by kernel_rfl).symm.trans hf) |>.symm
 obtain rfl : fn = Tryz.f7 := (Option.some.inj (Tryz.func7.symm.trans hfn)).symm
 refine ⟨by kernel_rfl, fun j t ht => ?_⟩
 rw [Tryz.params7] at ht
 have hm : t ∈ #[44] := Array.mem_of_getElem? ht
 obtain rfl : t = 44 := by simpa using hm
 exact (show Tryz.prog.wantsStandIn 44 = false by kernel_rfl)
theorem card : Rows.TreeShapeCardSaid :=
 Claim7.holds_tied_plain_at .later [] _ _ _ _ said (fun _ h => by cases h) (by kernel_rfl) (fun _ h => by cases h) treeShape_row_tie rfl ⟨rfl, rfl⟩ (by kernel_rfl) rfl plain (by kernel_rfl)
#print axioms card
end Go.Proofs.YtjmpekanlmepmaaGreatDoor.treeShape
