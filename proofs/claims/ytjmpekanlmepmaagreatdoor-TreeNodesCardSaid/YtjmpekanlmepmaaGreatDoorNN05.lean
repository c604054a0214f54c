/- Package btree: nodes: what can be stored. -/
import Derived.Test.YtjmpekanlmepmaaGreatDoorNN04
import Derived.IntWalk
import Derived.ChangeKeysEq
import Derived.Test.YtjmpekanlmepmaaGreatDoorNN01
import Derived.Lib.SmallJoins
import Derived.Deep.Strs
import Derived.Carry
import Derived.Deep.Light
import Derived.Test.YtjmpekanlmepmaaGreatDoorNN02
set_option linter.all false
set_option maxRecDepth 20000
set_option maxHeartbeats 8000000
open Go.Lib (hid)
namespace Go.Proofs.YtjmpekanlmepmaaGreatDoor
open Go.RowKit
def Bt.Entry.cells (e : Bt.Entry) : Array Value := #[.int .u32 e.key, .int .i64 e.to.line, .int .i64 e.to.gen]
def Bt.Entry.Ok (e : Bt.Entry) : Prop := 0 ≤ e.key ∧ e.key < 4294967296
structure EntRow (w : World) (v : Value) (l : List Bt.Entry) : Prop where
 ok : ∀ e ∈ l, e.Ok
 len : l.length ≤ maxLen
 form : (v = .slice none 0 0 ∧ l = []) ∨ ∃ b off cap, v = .slice (some ⟨b, off, none⟩) l.length cap ∧ b < w.heap.size ∧ ∀ (i : Nat) (p : Bt.Entry), l[i]? = some p → ∀ (j : Nat) (u : Value), p.cells[j]? = some u → w.cell? ⟨b, off + i * 3 + j, none⟩ = some u
theorem EntRow.below {w w' : World} {v : Value} {l : List Bt.Entry} (h : EntRow w v l) (hb : Below w.heap.size w w') : EntRow w' v l := by
 refine ⟨h.ok, h.len, ?_⟩
 rcases h.form with h1 | ⟨b, off, cap, hv, hlt, hcells⟩
 ·exact .inl h1
 ·exact .inr ⟨b, off, cap, hv, Nat.lt_of_lt_of_le hlt hb.size, fun i p hi j u hu => by rw [hb.cell (p := ⟨b, off + i * 3 + j, none⟩) hlt]; exact hcells i p hi j u hu⟩
theorem three {w : World} {b off k : Nat} {l : List Bt.Entry} (hcells : ∀ (i : Nat) (p : Bt.Entry), l[i]? = some p → ∀ (j : Nat) (u : Value), p.cells[j]? = some u → w.cell? ⟨b, off + i * 3 + j, none⟩ = some u) (h : k < l.length) :
 w.cell? ⟨b, off + k * 3, none⟩ = some (.int .u32 l[k].key) ∧ w.cell? ⟨b, off + k * 3 + 1, none⟩ = some (.int .i64 l[k].to.line) ∧ w.cell? ⟨b, off + k * 3 + 2, none⟩ = some (.int .i64 l[k].to.gen) := by
 have hk := List.getElem?_eq_getElem h
 exact ⟨hcells k _ hk 0 _ rfl, hcells k _ hk 1 _ rfl, hcells k _ hk 2 _ rfl⟩
def lastOf (es : List Bt.Entry) (k : Nat) : Int := match k with | 0 => 0 | k + 1 => (es.getD k default).key
theorem rising_step (es : List Bt.Entry) (k : Nat) (h : k < es.length) : Bt.risingFrom (lastOf es k) (es.drop k) = (decide (lastOf es k < es[k].key) && Bt.validP es[k].to && Bt.risingFrom (lastOf es (k + 1)) (es.drop (k + 1))) := by
 rw [List.drop_eq_getElem_cons h]
 simp only [Bt.risingFrom, lastOf, List.getD_eq_getElem?_getD, List.getElem?_eq_getElem h, Option.getD_some]
theorem lastOf_bound (es : List Bt.Entry) (hok : ∀ e ∈ es, e.Ok) (k : Nat) (hk : k ≤ es.length) : 0 ≤ lastOf es k ∧ lastOf es k < 4294967296 := by
 rcases k with _ | k
 ·exact ⟨Int.le_refl 0, by show (0 : Int) < 4294967296; omega⟩
 ·have h : k < es.length := by omega
  have := hok es[k] (List.getElem_mem h)
  unfold Bt.Entry.Ok at this
  simpa [lastOf, List.getD_eq_getElem?_getD, List.getElem?_eq_getElem h] using this
theorem rising_any (es : List Bt.Entry) (v : Value) (w : World) (hk : EntRow w v es) : Calls Tryz.prog 98 #[v] w fun e w' => e = .returned (.bool (Bt.rising es)) ∧ Below w.heap.size w w' := by
 have hok := hid hk.ok
 rcases hk.form with ⟨rfl, rfl⟩ | ⟨b, off, cap, rfl, hlt, hcells⟩
 ·go_enter Tryz.func98, Tryz.ntmps98
  go_wp2
  refine wp_loop_rounds 1 ?_
  rw [rounds_succ]
  go_wp2
  go_ret
  exact ⟨rfl, qL⟩
 ·have hlen := hk.len
  unfold maxLen at hlen
  have Hc := hid hcells
  clear hcells hk
  go_enter Tryz.func98, Tryz.ntmps98
  go_wp2
  go_loopw [3, 8] (fun l i wr => ∃ k : Nat, k ≤ es.length ∧ i = .int .i64 k ∧ l = .int .u32 (lastOf es k) ∧ Hid (Bt.rising es = Bt.risingFrom (lastOf es k) (es.drop k)) ∧ Below w.heap.size w wr) (fun _ i _ => es.length - (intOf i).toNat)
  case atStart => exact ⟨0, Nat.zero_le _, rfl, rfl, hid rfl, Below.refl _ _⟩
  case round =>
   obtain ⟨k, hkl, rfl, rfl, HL, hbw⟩ := hrel
   by_cases hlt2 : k < es.length
   ·obtain ⟨c0, c1, c2⟩ := three Hc.out hlt2
    rw [← hbw.cell (p := ⟨b, off + k * 3, none⟩) hlt] at c0
    rw [← hbw.cell (p := ⟨b, off + k * 3 + 1, none⟩) hlt] at c1
    rw [← hbw.cell (p := ⟨b, off + k * 3 + 2, none⟩) hlt] at c2
    have HS := hid (rising_step es k hlt2)
    have HB := hid (lastOf_bound es hok.out k hkl)
    obtain ⟨p, hp⟩ : ∃ p, p = es[k] := ⟨_, rfl⟩
    have HP := hid hp
    rw [← hp] at c0 c1 c2
    clear hp
    rcases hv : Bt.validP p.to with _ | _
    ·have Hv := hid hv
     clear hv
     go_wp2_with (go_at_call 75; refine (Valid_any _ _ _).mono ?_; rintro e w1 ⟨rfl, hb⟩; rw [Hv.out]; ((obtain ⟨hc1, hf1, hs1⟩ := qR hb); (try have := qN0 wr w1); (try have := qN1 wr w1)))
     all_goals go_ret
     all_goals exact ⟨ret_bool (by rw [HL.out, HS.out, ← HP.out, Hv.out]; simp), qL⟩
    ·have Hv := hid hv
     clear hv
     by_cases hlast : p.key ≤ lastOf es k
     ·go_wp2
      go_ret
      exact ⟨ret_bool (by rw [HL.out, HS.out, ← HP.out, Hv.out]; simp; omega), qL⟩
     ·have hlast' : lastOf es k < p.key := by omega
      go_wp2_with (go_at_call 75; refine (Valid_any _ _ _).mono ?_; rintro e w1 ⟨rfl, hb⟩; rw [Hv.out]; ((obtain ⟨hc1, hf1, hs1⟩ := qR hb); (try have := qN0 wr w1); (try have := qN1 wr w1)))
      go_roundw
      case rel =>
       refine ⟨k + 1, by omega, by go_num, ?_, hid ?_, qL⟩
       ·simp only [lastOf, List.getD_eq_getElem?_getD, List.getElem?_eq_getElem hlt2, Option.getD_some]; rw [← HP.out]
       ·rw [HL.out, HS.out, ← HP.out, Hv.out]; simp [hlast']
      case measure => simp [intOf]; omega
   ·have hke : k = es.length := by omega
    have HE := hid hke
    clear hke
    go_wp2
    go_ret
    exact ⟨ret_bool (by rw [HL.out, HE.out, List.drop_length]; rfl), qL⟩
def nodeCells (n : Bt.Node) (v : Value) : Array Value := #[.int .i64 n.level, .bool n.leftmost, .bool n.dead, .int .u32 n.high, .int .i64 n.right.line, .int .i64 n.right.gen, v]
def peq (a b c d : Int) : Bool := decide (a = c ∧ b = d)
theorem eql_ptr (a b c d : Int) (w : World) : (binOp .eql 27 (.agg #[.int .i64 a, .int .i64 b]) (.agg #[.int .i64 c, .int .i64 d])).run Tryz.prog w = .ok (.bool (peq a b c d)) w := by
 simp [go_sem, peq]
 by_cases h1 : a = c <;> by_cases h2 : b = d <;> simp [h1, h2]
theorem neq_ptr (a b c d : Int) (w : World) : (binOp .neq 27 (.agg #[.int .i64 a, .int .i64 b]) (.agg #[.int .i64 c, .int .i64 d])).run Tryz.prog w = .ok (.bool (!peq a b c d)) w := by
 simp [go_sem, peq]
 by_cases h1 : a = c <;> by_cases h2 : b = d <;> simp [h1, h2]
theorem peq_nil (p : Bt.Ptr) : peq p.line p.gen 0 0 = decide (p = Bt.nilP) := by
 obtain ⟨l, g⟩ := p
 simp [peq, Bt.nilP]
structure NoneAt (w : World) : Prop where
 c0 : w.cell? ⟨0, 0, none⟩ = some (.int .i64 0)
 c1 : w.cell? ⟨0, 1, none⟩ = some (.int .i64 0)
 lt : 0 < w.heap.size
theorem NoneAt.below {w w' : World} (h : NoneAt w) (hb : Below w.heap.size w w') : NoneAt w' :=
 ⟨(hb.cell (p := ⟨0, 0, none⟩) h.lt).trans h.c0, (hb.cell (p := ⟨0, 1, none⟩) h.lt).trans h.c1, Nat.lt_of_lt_of_le h.lt hb.size⟩
theorem wG3 {P : Prop} (h : P := by
 have HX : Hid (n.valid = false) := hid (by simp only [Bt.Node.valid]; rw [if_pos (by simp [h])])
 have He := hid he
 have hlen := he.len
 unfold maxLen at hlen
 unfold nodeCells
 subst hv
 first
  | clear tg15
    have a1 : decide (n.level < 0) = true := by simp [h]
    clear h he
    first
     | clear tg16
       clear hes
       go_enter Tryz.func63, Tryz.ntmps63
       go_wp2
       go_ret
       exact ⟨ret_bool HX.out.symm, qL⟩
     | clear tg17
       go_enter Tryz.func63, Tryz.ntmps63
       go_wp2
       go_ret
       exact ⟨ret_bool HX.out.symm, qL⟩
  | clear tg18
    have a1 : decide (n.level < 0) = false := by simp [h0]
    first
     | clear tg19
       have a2 : decide (8 < n.level) = true := by simp [h]
       clear h0 h he
       first
        | clear tg20
          clear hes
          go_enter Tryz.func63, Tryz.ntmps63
          go_wp2
          go_ret
          exact ⟨ret_bool HX.out.symm, qL⟩
        | clear tg21
          go_enter Tryz.func63, Tryz.ntmps63
          go_wp2
          go_ret
          exact ⟨ret_bool HX.out.symm, qL⟩
     | clear tg22
       have a2 : decide (8 < n.level) = false := by simp [h1]
       first
        | clear tg23
          exact absurd h (by rw [hes]; simp)
        | clear tg24
          have a3 : decide (5 < (n.entries.length : Int)) = true := by simp; omega
          clear h0 h1 h he
          go_enter Tryz.func63, Tryz.ntmps63
          go_wp2
          go_ret
          exact ⟨ret_bool HX.out.symm, qL⟩
        | clear tg25
          have H0 := hid hes
          clear hes
          first
           | clear tg26
             have HR := hid h
             clear h0 h1 h2 h he
             exact sG24
           | clear tg27
             have HR := hid h3
             have a4 : (n.high == 0) = true := by simp [h]
             clear h0 h1 h2 h3 h he
             exact sG24
        | clear tg28
          have a3 : decide (5 < (n.entries.length : Int)) = false := by simp; omega
          first
           | clear tg29
             have HR := hid h
             clear h0 h1 h2 h he
             exact sG24
           | clear tg30
             have HR := hid h3
             have a4 : (n.high == 0) = true := by simp [h]
             clear h0 h1 h2 h3 h he
             exact sG24) : P := h
theorem valid_10n (n : Bt.Node) (v : Value) (w : World) (he : EntRow w v n.entries) (h : n.level < 0) (hv : v = .slice none 0 0) (hes : n.entries = []) :
 Calls Tryz.prog 63 #[.agg (nodeCells n v)] w fun e w' => e = .returned (.bool n.valid) ∧ Below w.heap.size w w' := by
 have tg15 := trivial
 have tg16 := trivial
 exact wG3
theorem valid_10s (n : Bt.Node) (v : Value) (w : World) (he : EntRow w v n.entries) (h : n.level < 0) (b off cap : Nat) (hv : v = .slice (some ⟨b, off, none⟩) n.entries.length cap) :
 Calls Tryz.prog 63 #[.agg (nodeCells n v)] w fun e w' => e = .returned (.bool n.valid) ∧ Below w.heap.size w w' := by
 have tg15 := trivial
 have tg17 := trivial
 exact wG3
theorem valid_11n (n : Bt.Node) (v : Value) (w : World) (he : EntRow w v n.entries) (h0 : 0 ≤ n.level) (h : 8 < n.level) (hv : v = .slice none 0 0) (hes : n.entries = []) :
 Calls Tryz.prog 63 #[.agg (nodeCells n v)] w fun e w' => e = .returned (.bool n.valid) ∧ Below w.heap.size w w' := by
 have tg18 := trivial
 have tg19 := trivial
 have tg20 := trivial
 exact wG3
theorem valid_11s (n : Bt.Node) (v : Value) (w : World) (he : EntRow w v n.entries) (h0 : 0 ≤ n.level) (h : 8 < n.level) (b off cap : Nat) (hv : v = .slice (some ⟨b, off, none⟩) n.entries.length cap) :
 Calls Tryz.prog 63 #[.agg (nodeCells n v)] w fun e w' => e = .returned (.bool n.valid) ∧ Below w.heap.size w w' := by
 have tg18 := trivial
 have tg19 := trivial
 have tg21 := trivial
 exact wG3
theorem valid_12n (n : Bt.Node) (v : Value) (w : World) (he : EntRow w v n.entries) (h0 : 0 ≤ n.level) (h1 : n.level ≤ 8) (h : 5 < n.entries.length) (hv : v = .slice none 0 0) (hes : n.entries = []) :
 Calls Tryz.prog 63 #[.agg (nodeCells n v)] w fun e w' => e = .returned (.bool n.valid) ∧ Below w.heap.size w w' := by
 have tg18 := trivial
 have tg22 := trivial
 have tg23 := trivial
 exact wG3
theorem valid_12s (n : Bt.Node) (v : Value) (w : World) (he : EntRow w v n.entries) (h0 : 0 ≤ n.level) (h1 : n.level ≤ 8) (h : 5 < n.entries.length) (b off cap : Nat) (hv : v = .slice (some ⟨b, off, none⟩) n.entries.length cap) :
 Calls Tryz.prog 63 #[.agg (nodeCells n v)] w fun e w' => e = .returned (.bool n.valid) ∧ Below w.heap.size w w' := by
 have tg18 := trivial
 have tg22 := trivial
 have tg24 := trivial
 exact wG3
theorem wG8 {P : Prop} (h : P := by
 go_enter Tryz.func63, Tryz.ntmps63
 go_wp2_with fail
 go_at_call 98; refine (rising_any n.entries _ _ ?hpg).mono ?_; (case hpg => exact He.out.below qL); rintro e w1 ⟨rfl, hb⟩; rw [HR.out]; ((obtain ⟨hc1, hf1, hs1⟩ := qR hb); (try have := qN0 w w1))
 first
  | clear tg61
    have gl1 : 0 < w1.heap.size := by omega
    go_wp2_with fail
    refine qA fun hSt => ?_
    first
     | clear tg62
       refine qS [0, 1, 2, 3, 4, 5, 6] ?_
       iterate 7 (refine qT ?_; simp only [Act.put, qY])
       refine TakeSeq.done ?_
       refine qH 7 fun K hK => ?_
       go_simp
       go_at_call 75; refine (Valid_any _ _ _).mono ?_; rintro e w2 ⟨rfl, hb2⟩; rw [HV.out]; ((obtain ⟨hc2, hf2, hs2⟩ := qR hb2); (try have := qN0 w w2); (try have := qN0 w1 w2))
       go_wp2_with fail
       refine hK.out _ _ (SteadyAll.of qL) (fun hHeld => ?_)
       clear hK K
       refine qS [8, 9, 10, 11, 12, 13, 14, 15, 16, 17, 18, 19] ?_
       iterate 12 (refine qT ?_; simp only [Act.put, qY])
       refine TakeSeq.done ?_
       refine qD ?_ _
       go_wp2_with fail
       first
        | clear tg63
          all_goals
           go_ret
           refine ⟨ret_bool ?_, qL⟩
           rw [HX.out]
           go_light
           have hz := H0.out
           have hl := congrArg Bt.lastKey hz
           have hn := congrArg List.length hz
           simp only [Bt.lastKey, List.length_nil] at hl hn
           clear hz
           have hni := HN.out
           have hL := HL0.out
           have hD := HD.out
           have hL2 : ¬ (n.level ≤ 0) ∨ ¬ (0 < n.level) := by omega
           first | (rw [if_pos hL]) | (rw [if_neg (by omega)])
           rw [Bool.eq_iff_iff]
           first | (simp [hD, hl, hn, hni, Bt.maxKey, *]; done) | (simp [hD, hl, hn, hni, Bt.maxKey, *]; omega) | skip
        | clear tg64
          go_ret
          exact ⟨ret_bool HX.out.symm, qL⟩
     | clear tg65
       refine qS [0, 1, 2, 3, 4, 5, 6, 7, 8, 9, 10, 11, 12, 13, 14, 15, 16, 17, 18, 19] ?_
       iterate 20 (refine qT ?_; simp only [Act.put, qY])
       refine TakeSeq.done ?_
       refine qD ?_ _
       go_wp2_with fail
       first
        | clear tg66
          all_goals
           go_ret
           refine ⟨ret_bool ?_, qL⟩
           rw [HX.out]
           go_light
           have hz := H0.out
           have hl := congrArg Bt.lastKey hz
           have hn := congrArg List.length hz
           simp only [Bt.lastKey, List.length_nil] at hl hn
           clear hz
           have hni := HN.out
           have hL := HL0.out
           have hD := HD.out
           have hL2 : ¬ (n.level ≤ 0) ∨ ¬ (0 < n.level) := by omega
           first | (rw [if_pos hL]) | (rw [if_neg (by omega)])
           rw [Bool.eq_iff_iff]
           first | (simp [hD, hl, hn, hni, Bt.maxKey, *]; done) | (simp [hD, hl, hn, hni, Bt.maxKey, *]; omega) | skip
        | clear tg67
          go_ret
          exact ⟨ret_bool HX.out.symm, qL⟩
  | clear tg68
    have hlt1 : b < w1.heap.size := by omega
    have gl1 : 0 < w1.heap.size := by omega
    go_wp2_with fail
    refine qA fun hSt => ?_
    first
     | clear tg69
       refine qS [0, 1, 2, 3, 4, 5, 6] ?_
       iterate 7 (refine qT ?_; simp only [Act.put, qY])
       refine TakeSeq.done ?_
       refine qH 7 fun K hK => ?_
       go_simp
       go_at_call 75; refine (Valid_any _ _ _).mono ?_; rintro e w2 ⟨rfl, hb2⟩; rw [HV.out]; ((obtain ⟨hc2, hf2, hs2⟩ := qR hb2); (try have := qN0 w w2); (try have := qN0 w1 w2))
       go_wp2_with fail
       refine hK.out _ _ (SteadyAll.of qL) (fun hHeld => ?_)
       clear hK K
       refine qS [8, 9, 10, 11, 12, 13, 14, 15, 16, 17, 18, 19] ?_
       iterate 12 (refine qT ?_; simp only [Act.put, qY])
       refine TakeSeq.done ?_
       refine qD ?_ _
       go_wp2_with fail
       all_goals
        go_ret
        refine ⟨ret_bool ?_, qL⟩
        rw [HX.out]
        go_light
        have hl := HL.out
        have hn : 0 < n.entries.length := by omega
        have hni := HN.out
        have hL := HL0.out
        have hD := HD.out
        have hL2 : ¬ (n.level ≤ 0) ∨ ¬ (0 < n.level) := by omega
        first | (rw [if_pos hL]) | (rw [if_neg (by omega)])
        rw [Bool.eq_iff_iff]
        first | (simp [hD, hl, hn, hni, Bt.maxKey, *]; done) | (simp [hD, hl, hn, hni, Bt.maxKey, *]; omega) | skip
     | clear tg70
       refine qS [0, 1, 2, 3, 4, 5, 6, 7, 8, 9, 10, 11, 12, 13, 14, 15, 16, 17, 18, 19] ?_
       iterate 20 (refine qT ?_; simp only [Act.put, qY])
       refine TakeSeq.done ?_
       refine qD ?_ _
       go_wp2_with fail
       all_goals
        go_ret
        refine ⟨ret_bool ?_, qL⟩
        rw [HX.out]
        go_light
        have hl := HL.out
        have hn : 0 < n.entries.length := by omega
        have hni := HN.out
        have hL := HL0.out
        have hD := HD.out
        have hL2 : ¬ (n.level ≤ 0) ∨ ¬ (0 < n.level) := by omega
        first | (rw [if_pos hL]) | (rw [if_neg (by omega)])
        rw [Bool.eq_iff_iff]
        first | (simp [hD, hl, hn, hni, Bt.maxKey, *]; done) | (simp [hD, hl, hn, hni, Bt.maxKey, *]; omega) | skip
  | clear tg71
    go_wp2
    go_ret
    exact ⟨ret_bool HX.out.symm, qL⟩) : P := h
theorem sG24 {P : Prop} (h : P := by
 have tg71 := trivial
 exact wG8) : P := h
theorem valid_13n (n : Bt.Node) (v : Value) (w : World) (he : EntRow w v n.entries) (h0 : 0 ≤ n.level) (h1 : n.level ≤ 8) (h2 : n.entries.length ≤ 5) (h : Bt.rising n.entries = false) (hv : v = .slice none 0 0) (hes : n.entries = []) :
 Calls Tryz.prog 63 #[.agg (nodeCells n v)] w fun e w' => e = .returned (.bool n.valid) ∧ Below w.heap.size w w' := by
 have tg18 := trivial
 have tg22 := trivial
 have tg25 := trivial
 have tg26 := trivial
 exact wG3
theorem valid_13s (n : Bt.Node) (v : Value) (w : World) (he : EntRow w v n.entries) (h0 : 0 ≤ n.level) (h1 : n.level ≤ 8) (h2 : n.entries.length ≤ 5) (h : Bt.rising n.entries = false) (b off cap : Nat) (hv : v = .slice (some ⟨b, off, none⟩) n.entries.length cap) :
 Calls Tryz.prog 63 #[.agg (nodeCells n v)] w fun e w' => e = .returned (.bool n.valid) ∧ Below w.heap.size w w' := by
 have tg18 := trivial
 have tg22 := trivial
 have tg28 := trivial
 have tg29 := trivial
 exact wG3
theorem valid_14n (n : Bt.Node) (v : Value) (w : World) (he : EntRow w v n.entries) (h0 : 0 ≤ n.level) (h1 : n.level ≤ 8) (h2 : n.entries.length ≤ 5) (h3 : Bt.rising n.entries = true) (h : n.high = 0) (hv : v = .slice none 0 0) (hes : n.entries = []) :
 Calls Tryz.prog 63 #[.agg (nodeCells n v)] w fun e w' => e = .returned (.bool n.valid) ∧ Below w.heap.size w w' := by
 have tg18 := trivial
 have tg22 := trivial
 have tg25 := trivial
 have tg27 := trivial
 exact wG3
theorem valid_14s (n : Bt.Node) (v : Value) (w : World) (he : EntRow w v n.entries) (h0 : 0 ≤ n.level) (h1 : n.level ≤ 8) (h2 : n.entries.length ≤ 5) (h3 : Bt.rising n.entries = true) (h : n.high = 0) (b off cap : Nat) (hv : v = .slice (some ⟨b, off, none⟩) n.entries.length cap) :
 Calls Tryz.prog 63 #[.agg (nodeCells n v)] w fun e w' => e = .returned (.bool n.valid) ∧ Below w.heap.size w w' := by
 have tg18 := trivial
 have tg22 := trivial
 have tg28 := trivial
 have tg30 := trivial
 exact wG3
theorem valid_1 (n : Bt.Node) (v : Value) (w : World) (he : EntRow w v n.entries) (h : n.level < 0 ∨ 8 < n.level ∨ 5 < n.entries.length ∨ Bt.rising n.entries = false ∨ n.high = 0) :
 Calls Tryz.prog 63 #[.agg (nodeCells n v)] w fun e w' => e = .returned (.bool n.valid) ∧ Below w.heap.size w w' := by
 by_cases x0 : n.level < 0
 ·rcases he.form with ⟨hv, hes⟩ | ⟨b, off, cap, hv, hlt, hcells⟩
  ·exact valid_10n n v w he x0 hv hes
  ·exact valid_10s n v w he x0 b off cap hv
 have x0' : 0 ≤ n.level := by omega
 by_cases x1 : 8 < n.level
 ·rcases he.form with ⟨hv, hes⟩ | ⟨b, off, cap, hv, hlt, hcells⟩
  ·exact valid_11n n v w he x0' x1 hv hes
  ·exact valid_11s n v w he x0' x1 b off cap hv
 have x1' : n.level ≤ 8 := by omega
 by_cases x2 : 5 < n.entries.length
 ·rcases he.form with ⟨hv, hes⟩ | ⟨b, off, cap, hv, hlt, hcells⟩
  ·exact valid_12n n v w he x0' x1' x2 hv hes
  ·exact valid_12s n v w he x0' x1' x2 b off cap hv
 have x2' : n.entries.length ≤ 5 := by omega
 rcases hr : Bt.rising n.entries with _ | _
 ·rcases he.form with ⟨hv, hes⟩ | ⟨b, off, cap, hv, hlt, hcells⟩
  ·exact valid_13n n v w he x0' x1' x2' hr hv hes
  ·exact valid_13s n v w he x0' x1' x2' hr b off cap hv
 have x4 : n.high = 0 := by
  rcases h with h | h | h | h | h
  ·omega
  ·omega
  ·omega
  ·rw [hr] at h; cases h
  ·exact h
 rcases he.form with ⟨hv, hes⟩ | ⟨b, off, cap, hv, hlt, hcells⟩
 ·exact valid_14n n v w he x0' x1' x2' hr x4 hv hes
 ·exact valid_14s n v w he x0' x1' x2' hr x4 b off cap hv
def entCells (es : List Bt.Entry) : List Value := es.flatMap (fun e => e.cells.toList)
theorem entCells_append (a b : List Bt.Entry) : entCells (a ++ b) = entCells a ++ entCells b := by simp [entCells]
theorem entCells_get (es : List Bt.Entry) (i : Nat) (e : Bt.Entry) (h : es[i]? = some e) (j : Nat) (u : Value) (hu : e.cells[j]? = some u) : (entCells es)[i * 3 + j]? = some u := by
 induction es generalizing i with
 | nil => simp at h
 | cons x es ih =>
   have hj : j < 3 := by
    have := (Array.getElem?_eq_some_iff.1 hu).1
    simpa [Bt.Entry.cells] using this
   cases i with
   | zero =>
     simp at h
     subst h
     simp only [entCells, List.flatMap_cons, Nat.zero_mul, Nat.zero_add]
     rw [List.getElem?_append_left (by simp [Bt.Entry.cells]; omega)]
     simpa using hu
   | succ i =>
     simp only [List.getElem?_cons_succ] at h
     have := ih i h
     simp only [entCells, List.flatMap_cons]
     rw [List.getElem?_append_right (by simp [Bt.Entry.cells]; omega)]
     have e1 : (i + 1) * 3 + j - x.cells.toList.length = i * 3 + j := by simp [Bt.Entry.cells]; omega
     rw [e1]
     exact this
theorem EntRow.of_own {w : World} {base n : Nat} {v : Value} {es : List Bt.Entry} (h : w.ownsRow base 69 3 v n (entCells es)) (hn : es.length = n) (hok : ∀ e ∈ es, e.Ok) : EntRow w v es := by
 subst hn
 rcases h.2 with ⟨rfl, h0⟩ | ⟨g, cap, cur, rfl, hb, hc, h1, h2, h3, h4⟩
 ·exact ⟨hok, by omega, .inl ⟨rfl, List.length_eq_zero_iff.1 h0⟩⟩
 ·refine ⟨hok, by omega, .inr ⟨g, 0, cap, rfl, ?_, fun i p hi j u hu => ?_⟩⟩
  ·exact (Array.getElem?_eq_some_iff.1 hc).1
  ·have hx := entCells_get es i p hi j u hu
   rw [Nat.zero_add]
   exact own_cells (w := w) (g := g) ⟨h.1, .inr ⟨g, cap, cur, rfl, hb, hc, h1, h2, h3, h4⟩⟩ _ _ hx
theorem infoEntry : (Tryz.prog.info? 69).map (fun i => (i.zero, i.size, i.bytes)) = some (some (.agg #[.int .u32 0, .int .i64 0, .int .i64 0]), 3, 24) := by kernel_rfl
theorem three_news {w : World} {b : Nat} {x y z : Value} (hx : w.cell? ⟨b, 0, none⟩ = some x) (hy : w.cell? ⟨b, 1, none⟩ = some y) (hz : w.cell? ⟨b, 2, none⟩ = some z) : ∀ j v, [x, y, z][j]? = some v → w.cell? ((⟨b, 0, none⟩ : Addr).add j) = some v := by
 intro j v hv
 match j with
 | 0 => simp at hv; subst hv; exact hx
 | 1 => simp at hv; subst hv; exact hy
 | 2 => simp at hv; subst hv; exact hz
 | j + 3 => simp at hv
section
variable {w w' : World} {base n size : Nat} {e : TypeId} {v : Value} {xs : List Value}
theorem own_below (h : w.ownsRow base e size v n xs) (hb : Below w.heap.size w w') : w'.ownsRow base e size v n xs := by
 refine ⟨h.1, ?_⟩
 rcases h.2 with h1 | ⟨g, cap, cur, hv, hbase, hc, h1, h2, h3, h4⟩
 ·exact .inl h1
 ·exact .inr ⟨g, cap, cur, hv, hbase, (hb.block g (Array.getElem?_eq_some_iff.1 hc).1).trans hc, h1, h2, h3, h4⟩
theorem own_aside (h : w.ownsRow base e size v n xs) {p : Addr} (hp : p.block < base) (u : Value) : (w.setCell p u).ownsRow base e size v n xs := by
 refine ⟨h.1, ?_⟩
 rcases h.2 with h1 | ⟨g, cap, cur, hv, hbase, hc, h1, h2, h3, h4⟩
 ·exact .inl h1
 ·exact .inr ⟨g, cap, cur, hv, hbase, (heap_setCell_other w p g u (by omega)).trans hc, h1, h2, h3, h4⟩
theorem own_ne {b : Nat} (h : w.ownsRow base e size v n xs) (hb : b < base) : some b ≠ v.ownBlock := by
 rcases h.2 with ⟨rfl, _⟩ | ⟨g, cap, cur, rfl, hbase, _⟩
 ·simp [Value.ownBlock]
 ·simp [Value.ownBlock]; omega
theorem own_row_ge (h : w.ownsRow base e size v n xs) : ∀ k, v.ownBlock = some k → base ≤ k := by
 rcases h.2 with ⟨rfl, _⟩ | ⟨g, cap, cur, rfl, hbase, _⟩
 ·simp [Value.ownBlock]
 ·intro k hk; simp [Value.ownBlock] at hk; omega
end
def weq (a0 a1 a2 a3 a4 a5 a6 b0 b1 b2 b3 b4 b5 b6 : Int) : Bool := decide (a0 = b0 ∧ a1 = b1 ∧ a2 = b2 ∧ a3 = b3 ∧ a4 = b4 ∧ a5 = b5 ∧ a6 = b6)
theorem infoWord : (Tryz.prog.info? 22).map (fun i => (i.zero, i.size, i.bytes)) = some (some (.int .u64 0), 1, 8) := by kernel_rfl
theorem neq_words (a0 a1 a2 a3 a4 a5 a6 b0 b1 b2 b3 b4 b5 b6 : Int) (w : World) :
 (binOp .neq 23 (.agg #[.int .u64 a0, .int .u64 a1, .int .u64 a2, .int .u64 a3, .int .u64 a4, .int .u64 a5, .int .u64 a6]) (.agg #[.int .u64 b0, .int .u64 b1, .int .u64 b2, .int .u64 b3, .int .u64 b4, .int .u64 b5, .int .u64 b6])).run Tryz.prog w =
  .ok (.bool (!weq a0 a1 a2 a3 a4 a5 a6 b0 b1 b2 b3 b4 b5 b6)) w := by
 obtain ⟨i, hi, _, hsz, _⟩ := info_parts infoWord
 have hc : Tryz.prog.cellsOf 22 = 1 := by kernel_rfl
 have hu : Tryz.prog.underlying 22 = some (.int .u64) := by kernel_rfl
 rw [run_neq_struct, run_equalIn_array (d := 9999) (hu := Tryz.underlying23) (hi := hi), hc]
 simp [Op.eqItems, List.range, List.range.loop, go_sem, hu, weq]
 repeat' split
 all_goals simp [*]
theorem field_data (x0 x1 x2 x3 x4 x5 x6 x7 x8 : Value) (w : World) : (Instr.field 25 (.agg #[x0, x1, x2, x3, x4, x5, x6, x7, x8]) 2).run Tryz.prog w = .ok (.agg #[x2, x3, x4, x5, x6, x7, x8]) w := by kernel_rfl
theorem fill_same (n : Bt.Node) (p : Bt.Page) : weq (n.fill p).d0 (n.fill p).d1 (n.fill p).d2 (n.fill p).d3 (n.fill p).d4 (n.fill p).d5 (n.fill p).d6 p.d0 p.d1 p.d2 p.d3 p.d4 p.d5 p.d6 = decide (n.fill p = p) := by
 obtain ⟨l, h, d0, d1, d2, d3, d4, d5, d6⟩ := p
 simp only [weq, Bt.Node.fill, Bt.Page.mk.injEq, true_and]
 congr
open Go.ChangeShapes Go.WideShapes Go.ChangeAt Go.RowKit
theorem arr9 {cs : Array Value} (h : cs.size = 9) : ∃ c0 c1 c2 c3 c4 c5 c6 c7 c8, cs = #[c0, c1, c2, c3, c4, c5, c6, c7, c8] := by
 obtain ⟨l⟩ := cs
 match l, h with
 | [c0, c1, c2, c3, c4, c5, c6, c7, c8], _ => exact ⟨c0, c1, c2, c3, c4, c5, c6, c7, c8, rfl⟩
theorem cInt : Tryz.prog.cellsOf 3 = 1 := by kernel_rfl
theorem cWord : Tryz.prog.cellsOf 22 = 1 := by kernel_rfl
theorem cWords : Tryz.prog.cellsOf 23 = 7 := by kernel_rfl
theorem cPage : Tryz.prog.cellsOf 25 = 9 := by kernel_rfl
section
variable {H : Type} {enc : TypeId × Value → H} {w : World} {base : Nat} {spare : Nat → Bool} {held : Bool}
set_option maxRecDepth 100000
theorem open_page {r : Reach} {b0 : Nat} {v : Value} {d : DataW H} {p : List MemPlace} (hv : Value.okWide Tryz.prog w r b0 25 v) (h : DataW.Trod enc Tryz.prog w base spare held 25 v d p) :
 ∃ q : Bt.Page, v = .agg q.cells ∧ p = [] ∧ q.Ok ∧ (-9223372036854775808 ≤ q.line ∧ q.line ≤ 9223372036854775807) := by
 obtain ⟨cs, rfl, hsz⟩ := okWide_struct Tryz.underlying25 hv
 obtain ⟨fuel, hf⟩ := h
 obtain ⟨y0, y1, y2, n, hx, hl, h0, h1, h2⟩ := Go.Deep.trod_struct3 Tryz.underlying25 hf
 obtain ⟨a, e0, rfl, wa⟩ := DataW.trod_int Tryz.underlying3 h0
 obtain ⟨b, e1, rfl, wb⟩ := DataW.trod_int Tryz.underlying22 h1
 obtain ⟨c0, c1, c2, c3, c4, c5, c6, c7, c8, rfl⟩ := arr9 (hsz.trans cPage)
 obtain ⟨xs, m, _, rfl, hl2, hlen, hel⟩ := DataW.trod_array Tryz.underlying23 h2
 rw [cInt] at e0
 rw [cWord] at e1
 rw [cWords] at hel
 simp only [cWord, Value.cells] at hel
 have one : ∀ i (h : i < 7) (c : Value), ((List.take 7 [c2, c3, c4, c5, c6, c7, c8]).drop (i * 1)).take 1 = [c] → ∃ z, c = .int .u64 z ∧ (0 ≤ z ∧ z < 18446744073709551616) ∧ ∃ y, xs[i]? = some y ∧ y.2 = [] := by
  intro i h c hc
  have h3 := hel i h
  have h4 : xs[i]? = some (xs[i]'(by omega)) := List.getElem?_eq_getElem (by omega)
  rw [h4] at h3
  obtain ⟨z, ez, hy, wz⟩ := DataW.trod_int Tryz.underlying22 h3
  have ez' : [c] = [Value.int .u64 z] := hc.symm.trans ez
  simp only [List.cons.injEq, and_true] at ez'
  have := bounds_u64 wz
  exact ⟨z, ez', by omega, _, h4, by rw [hy]⟩
 obtain ⟨d0, rfl, w0, y0, hy0, z0⟩ := one 0 (by omega) c2 rfl
 obtain ⟨d1, rfl, w1, y1, hy1, z1⟩ := one 1 (by omega) c3 rfl
 obtain ⟨d2, rfl, w2, y2, hy2, z2⟩ := one 2 (by omega) c4 rfl
 obtain ⟨d3, rfl, w3, y3, hy3, z3⟩ := one 3 (by omega) c5 rfl
 obtain ⟨d4, rfl, w4, y4, hy4, z4⟩ := one 4 (by omega) c6 rfl
 obtain ⟨d5, rfl, w5, y5, hy5, z5⟩ := one 5 (by omega) c7 rfl
 obtain ⟨d6, rfl, w6, y6, hy6, z6⟩ := one 6 (by omega) c8 rfl
 have e0' : [c0] = [Value.int .i64 a] := e0
 have e1' : [c1] = [Value.int .u64 b] := e1
 simp only [List.cons.injEq, and_true] at e0' e1'
 subst e0'; subst e1'
 simp only [Prod.mk.injEq] at hx
 have hxs : xs.flatMap (·.2) = [] := by
  rw [List.flatMap_eq_nil_iff]
  intro y hy
  obtain ⟨i, hi, rfl⟩ := List.mem_iff_getElem.1 hy
  have hi7 : i < 7 := by omega
  match i, hi7 with
  | 0, _ => rw [List.getElem?_eq_getElem (by omega)] at hy0; rw [Option.some.inj hy0]; exact z0
  | 1, _ => rw [List.getElem?_eq_getElem (by omega)] at hy1; rw [Option.some.inj hy1]; exact z1
  | 2, _ => rw [List.getElem?_eq_getElem (by omega)] at hy2; rw [Option.some.inj hy2]; exact z2
  | 3, _ => rw [List.getElem?_eq_getElem (by omega)] at hy3; rw [Option.some.inj hy3]; exact z3
  | 4, _ => rw [List.getElem?_eq_getElem (by omega)] at hy4; rw [Option.some.inj hy4]; exact z4
  | 5, _ => rw [List.getElem?_eq_getElem (by omega)] at hy5; rw [Option.some.inj hy5]; exact z5
  | 6, _ => rw [List.getElem?_eq_getElem (by omega)] at hy6; rw [Option.some.inj hy6]; exact z6
 have wb' := bounds_u64 wb
 exact ⟨⟨a, b, d0, d1, d2, d3, d4, d5, d6⟩, rfl, by rw [hx.2]; simpa using hxs, ⟨by show 0 ≤ b ∧ b < _; omega, w0, w1, w2, w3, w4, w5, w6⟩, bounds_i64 wa⟩
end
open Go.ChangeShapes Go.WideShapes Go.ChangeAt Go.RowKit
set_option maxRecDepth 100000
theorem gNone : Tryz.prog.globalNamed "bodega/btree.none" = some 0 := by kernel_rfl
theorem gNoneType : (Tryz.prog.globals[0]?).map (·.type) = some 27 := by kernel_rfl
theorem none_at (W : World) (h : laidMetH Tryz.prog [("bodega/btree.none", Rows.laid_bodega_btree_none)] W) : NoneAt W := by
 have h' : laidMet Tryz.prog [("bodega/btree.none", Rows.laid_bodega_btree_none)] W := h
 obtain ⟨ps, ⟨g, t, cs, fuel, p, q, hg, ht, hvar, hd, _, _⟩, _⟩ := h'
 obtain rfl := Option.some.inj (gNone.symm.trans hg)
 obtain rfl := Option.some.inj (gNoneType.symm.trans ht)
 obtain ⟨y0, y1, n, hx, hl, h0, h1⟩ := Go.ChangeShapes.trod_struct2 Tryz.underlying27 hd
 obtain ⟨a, e0, rfl, _⟩ := DataW.trod_int Tryz.underlying3 h0
 obtain ⟨b, e1, rfl, _⟩ := DataW.trod_int Tryz.underlying3 h1
 simp only [Rows.laid_bodega_btree_none, Prod.mk.injEq, DataW.agg.injEq, List.cons.injEq, DataW.lit.injEq, Lit.int.injEq, true_and, and_true] at hx
 obtain ⟨⟨rfl, rfl⟩, _⟩ := hx
 rw [cInt] at e0 e1
 have c0 : cs[0]? = some (.int .i64 0) := by
  have := congrArg (·[0]?) e0
  simpa [List.getElem?_take, List.getElem?_drop] using this
 have c1 : cs[1]? = some (.int .i64 0) := by
  have := congrArg (·[0]?) e1
  simpa [List.getElem?_take, List.getElem?_drop] using this
 have k0 : W.cell? ⟨0, 0, none⟩ = some (.int .i64 0) := (World.var?_cell hg hvar 0).trans c0
 have k1 : W.cell? ⟨0, 1, none⟩ = some (.int .i64 0) := (World.var?_cell hg hvar 1).trans c1
 exact ⟨k0, k1, World.block_lt_of_cell? _ _ k0⟩
theorem laidOutA : laidOutB Tryz.prog = true := by kernel_rfl
theorem reads_same {H : Type} {enc : TypeId × Value → H} {t : TypeId} (hr : Tryz.prog.readableRec t = true) (hrow : t < Tryz.prog.types.size) {W W' : World} {v : Value} {d : DataW H} (h : DataW.Trod enc Tryz.prog W 0 (fun _ => true) true t v d []) (sp : Nat → Bool) :
 DataW.Trod enc Tryz.prog W' 0 sp true t v d [] :=
 WideElems.Trod_stays laidOutA hr hrow h (fun x hx => by cases hx) (fun x hx => by cases hx)
def pick (n k : Int) : Int := n % k
theorem Pick_any (n k : Int) (hn : -9223372036854775808 ≤ n ∧ n ≤ 9223372036854775807) (hk : 1 ≤ k ∧ k ≤ 1000000) (w : World) : Calls Tryz.prog 13 #[.int .i64 n, .int .i64 k] w fun e w' => e = .returned (.int .i64 (pick n k)) ∧ w = w' := by
 have b1 : decide (k < 1) = false := by simp; omega
 have b2 : (k == 0) = false := by simp; omega
 have h1 := Int.tmod_lt_of_pos n (show 0 < k by omega)
 have h2 := Int.lt_tmod_of_pos n (show 0 < k by omega)
 have w1 : wrap64 (n.tmod k + k) = n.tmod k + k := by unfold wrap64; omega
 have w2 : wrap64 (n.tmod k) = n.tmod k := by unfold wrap64; omega
 have e1 : (n.tmod k + k).tmod k = n % k := by
  rw [Int.tmod_eq_emod_of_nonneg (by omega), Int.add_emod_right, tmod_emod_self]
 have h3 := Int.emod_lt_of_pos n (show 0 < k by omega)
 have h4 := Int.emod_nonneg n (show k ≠ 0 by omega)
 go_enter Tryz.func13, Tryz.ntmps13
 go_wp2
 go_ret
 refine ⟨ret_int ?_, rfl⟩
 unfold pick
 first | exact e1 | (rw [e1]; done) | (simp [*]; done)
theorem heapLine_any (l : Int) (w : World) : Calls Tryz.prog 76 #[.int .i64 l] w fun e w' => e = .returned (.bool (Bt.inHeap l)) ∧ w = w' := by
 go_enter Tryz.func76, Tryz.ntmps76
 go_wp2
 all_goals go_ret
 all_goals
  refine ⟨ret_bool ?_, rfl⟩
  unfold Bt.inHeap
  first | (simp [*]; done) | (simp; omega)
theorem ValidPointer_any (l g : Int) (w : World) : Calls Tryz.prog 43 #[.agg #[.int .i64 l, .int .i64 g]] w fun e w' => e = .returned (.bool (Bt.validP ⟨l, g⟩)) ∧ Below w.heap.size w w' := by
 go_enter Tryz.func43, Tryz.ntmps43
 go_wp2_with fail
 go_at_call 76; refine (heapLine_any l _).mono ?_; rintro e w1 ⟨rfl, rfl⟩
 rcases h : Bt.inHeap l with _ | _
 all_goals
  go_wp2
  all_goals go_ret
  all_goals
   refine ⟨ret_bool ?_, qL⟩
   unfold Bt.validP
   first | (simp [*]; done) | (simp [h]; omega)
theorem refPack_any (l g : Int) (w : World) : Calls Tryz.prog 45 #[.agg #[.int .i64 l, .int .i64 g]] w fun e w' => e = .returned (.int .u32 (Bt.pack ⟨l, g⟩)) ∧ Below w.heap.size w w' := by
 rcases h : Bt.validP ⟨l, g⟩ with _ | _
 ·go_enter Tryz.func45, Tryz.ntmps45
  go_wp2_with fail
  go_at_call 43; refine (ValidPointer_any l g _).mono ?_; rintro e w1 ⟨rfl, hb⟩; rw [h]; ((obtain ⟨hc1, hf1, hs1⟩ := qR hb); (try have := qN0 w w1))
  go_wp2
  go_ret
  exact ⟨by simp [Bt.pack, h], qL⟩
 ·have hv : 104 ≤ l ∧ l < 256 ∧ 1 ≤ g ∧ g ≤ 16777215 := by
    simp only [Bt.validP, Bt.inHeap, Bool.and_eq_true, decide_eq_true_eq] at h
    omega
  have e1 : IntKind.u32.wrap l = l := by rw [IntKind.wrap_u32]; omega
  have e2 : IntKind.u32.wrap g = g := by rw [IntKind.wrap_u32]; omega
  have e3 : IntKind.u32.wrap (256 * g) = 256 * g := by rw [IntKind.wrap_u32]; omega
  have e4 : IntKind.u32.wrap (l + 256 * g) = l + 256 * g := by rw [IntKind.wrap_u32]; omega
  go_enter Tryz.func45, Tryz.ntmps45
  go_wp2_with fail
  go_at_call 43; refine (ValidPointer_any l g _).mono ?_; rintro e w1 ⟨rfl, hb⟩; rw [h]; ((obtain ⟨hc1, hf1, hs1⟩ := qR hb); (try have := qN0 w w1))
  go_wp2
  go_ret
  refine ⟨ret_int ?_, qL⟩
  simp only [Bt.pack, h, if_true]
  first | omega | (simp [*]; omega)
theorem refUnpack_any (x : Int) (h0 : 0 ≤ x) (h1 : x < 4294967296) (w : World) : Calls Tryz.prog 42 #[.int .u32 x] w fun e w' => e = .returned (.agg (Bt.unpack x).cells) ∧ Below w.heap.size w w' := by
 have e1 : x.tmod 256 = x % 256 := Int.tmod_eq_emod_of_nonneg h0
 have e2 : x.tdiv 256 = x / 256 := Int.tdiv_eq_ediv_of_nonneg h0
 go_enter Tryz.func42, Tryz.ntmps42
 go_wp2
 simp [bodyPost, results, Tryz.results42, go_sem]
 exact ⟨rfl, qL⟩
theorem ref_any (p : Bt.Ptr) (w : World) : Calls Tryz.prog 19 #[.agg p.cells] w fun e w' => e = .returned (.agg p.cells) ∧ Below w.heap.size w w' := by
 have tg58 := trivial
 exact wG6
theorem SteadyBut.drew' {r : Nat} {w1 wx : World} (h : SteadyBut r w1 wx) : SteadyBut r w1 wx.drew := ⟨h.rule⟩
theorem SteadyBut.realloc {r : Nat} {w1 : World} (o o' : Obj) (hr : r = w1.heap.size) : SteadyBut r (w1.alloc o) (w1.alloc o') :=
 ⟨fun b i hb h => by
  simp only [size_alloc] at hb
  have e1 := Below.heap_alloc w1 o b (by omega)
  have e2 := Below.heap_alloc w1 o' b (by omega)
  simp only [World.cell?, e1, e2]⟩
theorem aim_nil (p : Bt.Ptr) (w : World) (h : p.gen.tmod 7 = 0) : Calls Tryz.prog 14 #[.agg p.cells] w fun e w' => e = .returned (.agg Bt.nilP.cells) ∧ Below w.heap.size w w' := by
 have b1 : (p.gen.tmod 7 == 0) = true := by simp [h]
 unfold Bt.Ptr.cells
 go_enter Tryz.func14, Tryz.ntmps14
 go_wp2
 simp [bodyPost, results, Tryz.results14, go_sem]
 exact ⟨⟨rfl, rfl⟩, qL⟩
theorem aim_some (p : Bt.Ptr) (w : World) (h : p.gen.tmod 7 ≠ 0) (hl : -9223372036854775808 ≤ p.line ∧ p.line ≤ 9223372036854775807) (hg : -9223372036854775808 ≤ p.gen ∧ p.gen ≤ 9223372036854775807) :
 Calls Tryz.prog 14 #[.agg p.cells] w fun e w' => e = .returned (.agg (⟨103 + pick p.line 154, pick p.gen 8⟩ : Bt.Ptr).cells) ∧ Below w.heap.size w w' := by
 have b1 : (p.gen.tmod 7 == 0) = false := by simp [h]
 have e1 : IntKind.i64.wrap (103 + pick p.line 154) = 103 + pick p.line 154 := by
  have h3 := Int.emod_lt_of_pos p.line (show (0 : Int) < 154 by omega)
  have h4 := Int.emod_nonneg p.line (show (154 : Int) ≠ 0 by omega)
  unfold pick
  rw [IntKind.wrap_i64]; omega
 unfold Bt.Ptr.cells
 go_enter Tryz.func14, Tryz.ntmps14
 go_wp2_with fail
 refine qB (w.heap.size + 1) fun hSt => ?_
 refine qS [0, 1, 4, 5] ?_
 iterate 4 (refine qT ?_; simp only [Act.put, qY])
 refine TakeSeq.done ?_
 refine qH 2 fun K hK => ?_
 go_simp
 go_at_call 13; refine (Pick_any p.line 154 hl (by omega) _).mono ?_; rintro e2 w2 ⟨rfl, rfl⟩
 go_wp2_with fail
 refine hK.out _ _ (SteadyBut.of qL) (fun hHeld => ?_)
 clear hK K
 refine qS [3] ?_
 refine qT ?_; simp only [Act.put, qY]
 refine TakeSeq.done ?_
 refine qH 6 fun K hK => ?_
 go_simp
 go_at_call 13; refine (Pick_any p.gen 8 hg (by omega) _).mono ?_; rintro e3 w3 ⟨rfl, rfl⟩
 go_wp2_with fail
 refine hK.out _ _ (SteadyBut.of qL) (fun hHeld => ?_)
 clear hK K
 refine qS [7] ?_
 refine qT ?_; simp only [Act.put, qY]
 refine TakeSeq.done ?_
 refine qH 8 fun K hK => ?_
 go_simp
 refine hK.out _ _ (SteadyBut.drew' (SteadyBut.realloc _ _ (by simp))) (fun hHeld => ?_)
 clear hK K
 refine qD ?_ _
 go_wp2_with fail
 refine bodyPost_ret (results_b rfl _ _ (w.heap.size + 1) _ _ _ rfl (by repeat (first | exact made22 _ | with_reducible apply Blk.drew)) Tryz.underlying27 rfl (by kernel_rfl)) rfl ⟨rfl, qL⟩
theorem refKind_any (p : Bt.Page) (hp : p.Ok) (w : World) : Calls Tryz.prog 69 #[.agg p.cells] w fun e w' => e = .returned (.int .i64 (Bt.tagKind p.d0)) ∧ Below w.heap.size w w' := by
 have hd := hp.d0
 have e1 : p.d0.tmod 256 = p.d0 % 256 := Int.tmod_eq_emod_of_nonneg hd.1
 have e2 : IntKind.i64.wrap (p.d0 % 256) = p.d0 % 256 := by rw [IntKind.wrap_i64]; omega
 have e3 : IntKind.u64.wrap (p.d0 % 256) = p.d0 % 256 := by rw [IntKind.wrap_u64]; omega
 unfold Bt.Page.cells
 go_enter Tryz.func69, Tryz.ntmps69
 go_wp2
 go_ret
 exact ⟨rfl, qL⟩
theorem refAux_any (p : Bt.Page) (hp : p.Ok) (w : World) : Calls Tryz.prog 68 #[.agg p.cells] w fun e w' => e = .returned (.int .u32 (Bt.tagAux p.d0)) ∧ Below w.heap.size w w' := by
 have hd := hp.d0
 have e2 : IntKind.u32.wrap (p.d0 / 4294967296) = p.d0 / 4294967296 := by rw [IntKind.wrap_u32]; omega
 unfold Bt.Page.cells
 go_enter Tryz.func68, Tryz.ntmps68
 go_wp2
 go_ret
 exact ⟨rfl, qL⟩
theorem refGen_any (p : Bt.Page) (hp : p.Ok) (w : World) : Calls Tryz.prog 72 #[.agg p.cells] w fun e w' => e = .returned (.int .i64 (Bt.tagGen p.d0)) ∧ Below w.heap.size w w' := by
 have hd := hp.d0
 have e1 : p.d0.tdiv 256 = p.d0 / 256 := Int.tdiv_eq_ediv_of_nonneg hd.1
 have e4 : IntKind.u64.wrap (p.d0 / 256) = p.d0 / 256 := by rw [IntKind.wrap_u64]; omega
 have e5 : (p.d0 / 256).tmod 16777216 = p.d0 / 256 % 16777216 := Int.tmod_eq_emod_of_nonneg (by omega)
 have e2 : IntKind.i64.wrap (p.d0 / 256 % 16777216) = p.d0 / 256 % 16777216 := by rw [IntKind.wrap_i64]; omega
 unfold Bt.Page.cells
 go_enter Tryz.func72, Tryz.ntmps72
 go_wp2
 go_ret
 exact ⟨rfl, qL⟩
theorem refTag_any (k g a : Int) (hk : 0 ≤ k ∧ k < 256) (hg : 0 ≤ g ∧ g < 16777216) (ha : 0 ≤ a ∧ a < 4294967296) (w : World) : Calls Tryz.prog 71 #[.int .i64 k, .int .i64 g, .int .u32 a] w fun e w' => e = .returned (.int .u64 (Bt.packTag k g a)) ∧ Below w.heap.size w w' := by
 have e1 : IntKind.u64.wrap k = k := by rw [IntKind.wrap_u64]; omega
 have e2 : IntKind.u64.wrap g = g := by rw [IntKind.wrap_u64]; omega
 have e3 : IntKind.u64.wrap a = a := by rw [IntKind.wrap_u64]; omega
 have e4 : k.tmod 256 = k := by rw [Int.tmod_eq_emod_of_nonneg hk.1]; omega
 have e5 : g.tmod 16777216 = g := by rw [Int.tmod_eq_emod_of_nonneg hg.1]; omega
 have e6 : IntKind.u64.wrap (g * 256) = g * 256 := by rw [IntKind.wrap_u64]; omega
 have e7 : IntKind.u64.wrap (k + g * 256) = k + g * 256 := by rw [IntKind.wrap_u64]; omega
 have e8 : IntKind.u64.wrap (a * 4294967296) = a * 4294967296 := by rw [IntKind.wrap_u64]; omega
 have e9 : IntKind.u64.wrap (k + g * 256 + a * 4294967296) = k + g * 256 + a * 4294967296 := by rw [IntKind.wrap_u64]; omega
 have HT : Hid (Bt.packTag k g a = k + g * 256 + a * 4294967296) := hid (by unfold Bt.packTag; rw [show k % 256 = k by omega, show g % 16777216 = g by omega])
 go_enter Tryz.func71, Tryz.ntmps71
 go_wp2
 go_ret
 exact ⟨by rw [HT.out]; rfl, qL⟩
theorem isNaN_any (x : Int) (w : World) : Calls Tryz.prog 123 #[.int .u32 x] w fun e w' => e = .returned (.bool false) ∧ w = w' := by
 go_enter Tryz.func123, Tryz.ntmps123
 go_wp2
 go_ret
 exact ⟨rfl, rfl⟩
def cmpOf (a b : Int) : Int := if a < b then -1 else if b < a then 1 else 0
theorem Compare_any (a b : Int) (w : World) : Calls Tryz.prog 108 #[.int .u32 a, .int .u32 b] w fun e w' => e = .returned (.int .i64 (cmpOf a b)) ∧ w = w' := by
 by_cases h1 : a < b
 ·have HX : Hid (cmpOf a b = -1) := hid (by simp [cmpOf, h1])
  go_enter Tryz.func108, Tryz.ntmps108
  go_wp2_with (go_at_call 123; refine (isNaN_any _ _).mono ?_; rintro e w1 ⟨rfl, rfl⟩)
  go_ret
  exact ⟨ret_int HX.out.symm, rfl⟩
 ·by_cases h2 : b < a
  ·have HX : Hid (cmpOf a b = 1) := hid (by simp [cmpOf, h1, h2])
   have h1' : decide (a < b) = false := by simp [h1]
   clear h1
   go_enter Tryz.func108, Tryz.ntmps108
   go_wp2_with (go_at_call 123; refine (isNaN_any _ _).mono ?_; rintro e w1 ⟨rfl, rfl⟩)
   go_ret
   exact ⟨ret_int HX.out.symm, rfl⟩
  ·have HX : Hid (cmpOf a b = 0) := hid (by simp [cmpOf, h1, h2])
   have h1' : decide (a < b) = false := by simp [h1]
   have h2' : decide (b < a) = false := by simp [h2]
   clear h1 h2
   go_enter Tryz.func108, Tryz.ntmps108
   go_wp2_with (go_at_call 123; refine (isNaN_any _ _).mono ?_; rintro e w1 ⟨rfl, rfl⟩)
   go_ret
   exact ⟨ret_int HX.out.symm, rfl⟩
theorem child1_any (e : Bt.Entry) (k : Int) (w : World) : Calls Tryz.prog 107 #[.agg e.cells, .int .u32 k] w fun r w' => r = .returned (.int .i64 (cmpOf e.key k)) ∧ Below w.heap.size w w' := by
 unfold Bt.Entry.cells
 go_enter Tryz.func107, Tryz.ntmps107
 go_wp2_with (go_at_call 108; refine (Compare_any _ _ _).mono ?_; rintro e w1 ⟨rfl, rfl⟩)
 go_ret
 exact ⟨rfl, qL⟩
def Asc (es : List Bt.Entry) : Prop := es.Pairwise (fun a b => a.key < b.key)
theorem child_le (es : List Bt.Entry) (k : Int) : Bt.child es k ≤ es.length := by
 induction es with
 | nil => exact Nat.le_refl _
 | cons e es ih => simp only [Bt.child]; split <;> simp <;> omega
theorem child_spec (es : List Bt.Entry) (k : Int) (hs : Asc es) (h : Nat) (hh : h < es.length) : es[h].key < k ↔ h < Bt.child es k := by
 induction es generalizing h with
 | nil => simp at hh
 | cons e es ih =>
   have hs' := List.pairwise_cons.1 hs
   simp only [Bt.child]
   by_cases hk : e.key < k
   ·rw [if_pos hk]
    cases h with
    | zero => simpa using hk
    | succ h =>
      have := ih hs'.2 h (by simpa using hh)
      simp only [List.getElem_cons_succ]
      omega
   ·rw [if_neg hk]
    cases h with
    | zero => simpa using hk
    | succ h =>
      have hh' : h < es.length := by simpa using hh
      simp only [List.getElem_cons_succ]
      have := hs'.1 es[h] (List.getElem_mem hh')
      omega
theorem asc_of_rising (es : List Bt.Entry) (last : Int) (h : Bt.risingFrom last es = true) : Asc es ∧ ∀ e ∈ es, last < e.key := by
 induction es generalizing last with
 | nil => exact ⟨List.Pairwise.nil, by simp⟩
 | cons e es ih =>
   simp only [Bt.risingFrom, Bool.and_eq_true, decide_eq_true_eq] at h
   obtain ⟨h1, h2⟩ := ih e.key h.2
   refine ⟨List.pairwise_cons.2 ⟨h2, h1⟩, ?_⟩
   intro x hx
   rcases List.mem_cons.1 hx with rfl | hx
   ·exact h.1.1
   ·have := h2 x hx
    omega
def BsRel (es : List Bt.Entry) (k : Int) (w : World) (i j : Value) (wr : World) : Prop :=
 ∃ a b : Nat, i = .int .i64 a ∧ j = .int .i64 b ∧ a ≤ Bt.child es k ∧ Bt.child es k ≤ b ∧ b ≤ es.length ∧ Below w.heap.size w wr
def SearchPost (es : List Bt.Entry) (k : Int) (w : World) (e : Ending) (w' : World) : Prop :=
 e = .returned (.tuple #[.int .i64 (Bt.child es k), .bool (Bt.hasKey es k)]) ∧ Below w.heap.size w w'
theorem bsearch_any (es : List Bt.Entry) (v : Value) (k : Int) (w : World) (he : EntRow w v es) (hs : Asc es) (h5 : es.length ≤ 5) :
 Calls Tryz.prog 106 #[v, .int .u32 k, .func (.func 107) #[] #[]] w (SearchPost es k w) := by
 have hcl := hid (child_le es k)
 have Hs := hid hs
 rcases he.form with ⟨rfl, rfl⟩ | ⟨b, off, cap, rfl, hlt, hcells⟩
 ·go_enter Tryz.func106, Tryz.ntmps106
  go_wp2_with fail
  refine wp_loop_rounds 1 ?_
  rw [rounds_succ]
  go_wp2_with fail
  go_ret2
  exact ⟨rfl, Below.refl _ _⟩
 ·have Hc := hid hcells
  clear hcells he hs
  go_enter Tryz.func106, Tryz.ntmps106
  go_wp2_with fail
  go_loopw [9, 10] (fun i j wr => BsRel es k w i j wr) (fun i j _ => (intOf j - intOf i).toNat)
  case atStart => exact ⟨0, es.length, rfl, rfl, Nat.zero_le _, hcl.out, Nat.le_refl _, Below.refl _ _⟩
  case round =>
   obtain ⟨a, c, rfl, rfl, h1, h2, h3, hbw⟩ := hrel
   have HB := hid (And.intro h1 h2)
   clear h1 h2
   by_cases hac : a < c
   ·obtain ⟨h, hh⟩ : ∃ h : Nat, h = (a + c) / 2 := ⟨_, rfl⟩
    have hh1 : a ≤ h := by omega
    have hh2 : h < c := by omega
    have hh3 : ((a : Int) + c) / 2 = (h : Int) := by omega
    have hlt2 : h < es.length := by omega
    obtain ⟨c0, c1, c2⟩ := three Hc.out hlt2
    rw [← hbw.cell (p := ⟨b, off + h * 3, none⟩) hlt] at c0
    rw [← hbw.cell (p := ⟨b, off + h * 3 + 1, none⟩) hlt] at c1
    rw [← hbw.cell (p := ⟨b, off + h * 3 + 2, none⟩) hlt] at c2
    have HS := hid (child_spec es k Hs.out h hlt2)
    by_cases hk : es[h].key < k
    ·have hcmp : cmpOf es[h].key k = -1 := by simp [cmpOf, hk]
     have HK := hid hk
     clear hk hh
     go_wp2_with (go_at_call 107; refine (child1_any es[h] k _).mono ?_; rintro e w1 ⟨rfl, hb⟩; rw [hcmp]; ((obtain ⟨hc1, hf1, hs1⟩ := qR hb); (try have := qN0 wr w1)))
     all_goals
      have hb1 := HB.out
      refine ⟨⟨h + 1, c, by go_num, rfl, ?_, hb1.2, h3, qL⟩, by simp [intOf]; omega⟩
      have := HS.out.1 HK.out
      omega
    ·have hcmp : decide (cmpOf es[h].key k < 0) = false := by simp [cmpOf, hk]; split <;> omega
     have HK := hid hk
     clear hk hh
     go_wp2_with (go_at_call 107; refine (child1_any es[h] k _).mono ?_; rintro e w1 ⟨rfl, hb⟩; ((obtain ⟨hc1, hf1, hs1⟩ := qR hb); (try have := qN0 wr w1)))
     all_goals
      have hb1 := HB.out
      refine ⟨⟨a, h, rfl, rfl, hb1.1, ?_, by omega, qL⟩, by simp [intOf]; omega⟩
      have h9 := HS.out
      have h8 := HK.out
      by_cases h7 : h < Bt.child es k
      ·have := h9.2 h7; omega
      ·omega
   ·have hb1 := HB.out
    have hae : Bt.child es k = a := by omega
    have HE := hid hae
    clear hae hb1
    by_cases hlt2 : a < es.length
    ·obtain ⟨c0, c1, c2⟩ := three Hc.out hlt2
     rw [← hbw.cell (p := ⟨b, off + a * 3, none⟩) hlt] at c0
     rw [← hbw.cell (p := ⟨b, off + a * 3 + 1, none⟩) hlt] at c1
     rw [← hbw.cell (p := ⟨b, off + a * 3 + 2, none⟩) hlt] at c2
     have HH : Hid (Bt.hasKey es k = decide (es[a].key = k)) := hid (by simp [Bt.hasKey, HE.out, List.getElem?_eq_getElem hlt2])
     have HC : Hid ((cmpOf es[a].key k == 0) = decide (es[a].key = k)) := hid (by
      unfold cmpOf
      by_cases h7 : es[a].key < k
      ·have : ¬ es[a].key = k := by omega
       simp [h7, this]
      ·by_cases h8 : k < es[a].key
       ·have : ¬ es[a].key = k := by omega
        simp [h7, h8, this]
       ·have : es[a].key = k := by omega
        simp [this])
     have hlt3 : decide (a < es.length) = true := by simp [hlt2]
     go_wp2_with (go_at_call 107; refine (child1_any es[a] k _).mono ?_; rintro e w1 ⟨rfl, hb⟩; ((obtain ⟨hc1, hf1, hs1⟩ := qR hb); (try have := qN0 wr w1)))
     all_goals go_ret2
     all_goals exact ⟨by rw [HE.out, HH.out, ← HC.out]; rfl, qL⟩
    ·have HH : Hid (Bt.hasKey es k = false) := hid (by simp [Bt.hasKey, HE.out, List.getElem?_eq_none (Nat.le_of_not_lt hlt2)])
     have hlt3 : decide (a < es.length) = false := by simp [hlt2]
     go_wp2_with fail
     all_goals go_ret2
     all_goals exact ⟨by rw [HE.out, HH.out]; rfl, qL⟩
theorem valid_asc (n : Bt.Node) (hv : n.valid = true) : Asc n.entries ∧ n.entries.length ≤ 5 := by
 unfold Bt.Node.valid at hv
 split at hv
 ·cases hv
 ·rename_i h
  have hr : Bt.rising n.entries = true := by
   cases hr : Bt.rising n.entries with
   | true => rfl
   | false => exact absurd (Or.inr (Or.inr (Or.inr (Or.inl hr)))) h
  exact ⟨(asc_of_rising _ 0 hr).1, by omega⟩
theorem child_any (n : Bt.Node) (v : Value) (k : Int) (w : World) (he : EntRow w v n.entries) (hs : Asc n.entries) (h5 : n.entries.length ≤ 5) : Calls Tryz.prog 91 #[.agg (nodeCells n v), .int .u32 k] w
 fun e w' => e = .returned (.int .i64 (Bt.child n.entries k)) ∧ Below w.heap.size w w' := by
 have He := hid he
 clear he
 unfold nodeCells
 go_enter Tryz.func91, Tryz.ntmps91
 go_wp2_with fail
 go_at_call 106; refine (bsearch_any n.entries v k _ ?hpg hs h5).mono ?_
 case hpg => exact He.out.below qL
 rintro e w1 ⟨rfl, hb⟩
 go_wp2_with fail
 go_ret
 exact ⟨rfl, qL⟩
theorem search_any (n : Bt.Node) (v : Value) (k : Int) (w : World) (he : EntRow w v n.entries) (hs : Asc n.entries) (h5 : n.entries.length ≤ 5) : Calls Tryz.prog 84 #[.agg (nodeCells n v), .int .u32 k] w (SearchPost n.entries k w) := by
 have He := hid he
 have Hs := hid hs
 obtain ⟨c, hc⟩ : ∃ c, c = Bt.child n.entries k := ⟨_, rfl⟩
 have hcl : c ≤ n.entries.length := by rw [hc]; exact child_le _ _
 have HC := hid hc
 clear hs hc
 unfold nodeCells
 rcases he.form with ⟨rfl, hes⟩ | ⟨b, off, cap, rfl, hlt, hcells⟩
 ·have hl0 : n.entries.length = 0 := by rw [hes]; rfl
  have hc0 : c = 0 := by omega
  subst hc0
  have HH : Hid (Bt.hasKey n.entries k = false) := hid (by rw [hes]; rfl)
  clear hes he hl0 hcl
  go_enter Tryz.func84, Tryz.ntmps84
  go_wp2_with fail
  go_at_call 91; refine (child_any n _ k _ ?hpg Hs.out h5).mono ?_
  case hpg => exact He.out.below qL
  rintro e w1 ⟨rfl, hb⟩; rw [← HC.out]; ((obtain ⟨hc1, hf1, hs1⟩ := qR hb); (try have := qN0 w w1); (try have := qN1 w w1))
  go_wp2_with fail
  refine qA fun hSt => ?_
  refine qS [0, 1, 2, 3, 4, 5, 6, 7, 8, 9, 10, 11, 12, 13, 14, 15, 16, 17] ?_
  iterate 18 (refine qT ?_; simp only [Act.put, qY])
  refine TakeSeq.done ?_
  refine qD ?_ _
  go_wp2_with fail
  go_ret2
  exact ⟨by rw [← HC.out, HH.out]; rfl, qL⟩
 ·have Hc := hid hcells
  clear hcells he
  by_cases hlt2 : c < n.entries.length
  ·obtain ⟨c0, c1, c2⟩ := three Hc.out hlt2
   have HH : Hid (Bt.hasKey n.entries k = (n.entries[c].key == k)) := hid (by simp only [Bt.hasKey, ← HC.out, List.getElem?_eq_getElem hlt2]; rfl)
   have hlt3 : decide (c < n.entries.length) = true := by simp [hlt2]
   have hi1 : (0 : Int) ≤ c := by omega
   have hi2 : (c : Int) < n.entries.length := by omega
   go_enter Tryz.func84, Tryz.ntmps84
   go_wp2_with fail
   go_at_call 91; refine (child_any n _ k _ ?hpg Hs.out h5).mono ?_
   case hpg => exact He.out.below qL
   rintro e w1 ⟨rfl, hb⟩; rw [← HC.out]; ((obtain ⟨hc1, hf1, hs1⟩ := qR hb); (try have := qN0 w w1); (try have := qN1 w w1))
   have hlt4 : b < w1.heap.size := by omega
   go_wp2_with fail
   refine qA fun hSt => ?_
   refine qS [0, 1, 2, 3, 4, 5, 6, 7, 8, 9, 10, 11, 12, 13, 14, 15, 16, 17] ?_
   iterate 18 (refine qT ?_; simp only [Act.put, qY])
   refine TakeSeq.done ?_
   refine qD ?_ _
   go_wp2_with fail
   go_ret2
   exact ⟨by rw [← HC.out, HH.out]; rfl, qL⟩
  ·have HH : Hid (Bt.hasKey n.entries k = false) := hid (by simp only [Bt.hasKey, ← HC.out, List.getElem?_eq_none (Nat.le_of_not_lt hlt2)])
   have hlt3 : decide (c < n.entries.length) = false := by simp [hlt2]
   go_enter Tryz.func84, Tryz.ntmps84
   go_wp2_with fail
   go_at_call 91; refine (child_any n _ k _ ?hpg Hs.out h5).mono ?_
   case hpg => exact He.out.below qL
   rintro e w1 ⟨rfl, hb⟩; rw [← HC.out]; ((obtain ⟨hc1, hf1, hs1⟩ := qR hb); (try have := qN0 w w1); (try have := qN1 w w1))
   go_wp2_with fail
   refine qA fun hSt => ?_
   refine qS [0, 1, 2, 3, 4, 5, 6, 7, 8, 9, 10, 11, 12, 13, 14, 15, 16, 17] ?_
   iterate 18 (refine qT ?_; simp only [Act.put, qY])
   refine TakeSeq.done ?_
   refine qD ?_ _
   go_wp2_with fail
   go_ret2
   exact ⟨by rw [← HC.out, HH.out]; rfl, qL⟩
end Go.Proofs.YtjmpekanlmepmaaGreatDoor
