/- Package btree: nodes: what can be stored. -/
import Derived.Test.YtjmpekanlmepmaaGreatDoorBB07
import Derived.IntWalk
import Derived.Deep.Light
set_option linter.all false
set_option maxRecDepth 20000
set_option maxHeartbeats 8000000
open Go.Lib (hid)
namespace Go.Proofs.YtjmpekanlmepmaaGreatDoor
open Go.RowKit
def Bt.Entry.cells (e : Bt.Entry) : Array Value := #[.int .u32 e.key, .int .i64 e.to.line, .int .i64 e.to.gen]
def Bt.Entry.Ok (e : Bt.Entry) : Prop := 0 ≤ e.key ∧ e.key < 4294967296
structure EntRow (w : World) (v : Value) (l : List Bt.Entry) : Prop where
 ok : ∀ e ∈ l, e.Ok
 len : l.length ≤ maxLen
 form : (v = .slice none 0 0 ∧ l = []) ∨ ∃ b off cap, v = .slice (some ⟨b, off, none⟩) l.length cap ∧ b < w.heap.size ∧ ∀ (i : Nat) (p : Bt.Entry), l[i]? = some p → ∀ (j : Nat) (u : Value), p.cells[j]? = some u → w.cell? ⟨b, off + i * 3 + j, none⟩ = some u
theorem EntRow.below {w w' : World} {v : Value} {l : List Bt.Entry} (h : EntRow w v l) (hb : Below w.heap.size w w') : EntRow w' v l := by
 refine ⟨h.ok, h.len, ?_⟩
 rcases h.form with h1 | ⟨b, off, cap, hv, hlt, hcells⟩
 ·exact .inl h1
 ·exact .inr ⟨b, off, cap, hv, Nat.lt_of_lt_of_le hlt hb.size, fun i p hi j u hu => by rw [hb.cell (p := ⟨b, off + i * 3 + j, none⟩) hlt]; exact hcells i p hi j u hu⟩
theorem three {w : World} {b off k : Nat} {l : List Bt.Entry} (hcells : ∀ (i : Nat) (p : Bt.Entry), l[i]? = some p → ∀ (j : Nat) (u : Value), p.cells[j]? = some u → w.cell? ⟨b, off + i * 3 + j, none⟩ = some u) (h : k < l.length) :
 w.cell? ⟨b, off + k * 3, none⟩ = some (.int .u32 l[k].key) ∧ w.cell? ⟨b, off + k * 3 + 1, none⟩ = some (.int .i64 l[k].to.line) ∧ w.cell? ⟨b, off + k * 3 + 2, none⟩ = some (.int .i64 l[k].to.gen) := by
 have hk := List.getElem?_eq_getElem h
 exact ⟨hcells k _ hk 0 _ rfl, hcells k _ hk 1 _ rfl, hcells k _ hk 2 _ rfl⟩
def lastOf (es : List Bt.Entry) (k : Nat) : Int := match k with | 0 => 0 | k + 1 => (es.getD k default).key
theorem Z8d (es : List Bt.Entry) (k : Nat) (h : k < es.length) : Bt.Z09 (lastOf es k) (es.drop k) = (decide (lastOf es k < es[k].key) && Bt.Z0w es[k].to && Bt.Z09 (lastOf es (k + 1)) (es.drop (k + 1))) := by
 rw [List.drop_eq_getElem_cons h]
 simp only [Bt.Z09, lastOf, List.getD_eq_getElem?_getD, List.getElem?_eq_getElem h, Option.getD_some]
theorem Z7B (es : List Bt.Entry) (hok : ∀ e ∈ es, e.Ok) (k : Nat) (hk : k ≤ es.length) : 0 ≤ lastOf es k ∧ lastOf es k < 4294967296 := by
 rcases k with _ | k
 ·exact ⟨Int.le_refl 0, by show (0 : Int) < 4294967296; omega⟩
 ·have h : k < es.length := by omega
  have := hok es[k] (List.getElem_mem h)
  unfold Bt.Entry.Ok at this
  simpa [lastOf, List.getD_eq_getElem?_getD, List.getElem?_eq_getElem h] using this
theorem Z0v (es : List Bt.Entry) (v : Value) (w : World) (hk : EntRow w v es) : Calls Tryz.prog 98 #[v] w fun e w' => e = .returned (.bool (Bt.rising es)) ∧ Below w.heap.size w w' := by
 have hok := hid hk.ok
 rcases hk.form with ⟨rfl, rfl⟩ | ⟨b, off, cap, rfl, hlt, hcells⟩
 ·go_enter Tryz.func98, Tryz.ntmps98
  go_wp2
  refine wp_loop_rounds 1 ?_
  rw [rounds_succ]
  go_wp2
  go_ret
  exact ⟨rfl, qL⟩
 ·have hlen := hk.len
  unfold maxLen at hlen
  have Hc := hid hcells
  clear hcells hk
  go_enter Tryz.func98, Tryz.ntmps98
  go_wp2
  go_loopw [3, 8] (fun l i wr => ∃ k : Nat, k ≤ es.length ∧ i = .int .i64 k ∧ l = .int .u32 (lastOf es k) ∧ Hid (Bt.rising es = Bt.Z09 (lastOf es k) (es.drop k)) ∧ Below w.heap.size w wr) (fun _ i _ => es.length - (intOf i).toNat)
  case atStart => exact ⟨0, Nat.zero_le _, rfl, rfl, hid rfl, Below.refl _ _⟩
  case round =>
   obtain ⟨k, hkl, rfl, rfl, HL, hbw⟩ := hrel
   by_cases hlt2 : k < es.length
   ·obtain ⟨c0, c1, c2⟩ := three Hc.out hlt2
    rw [← hbw.cell (p := ⟨b, off + k * 3, none⟩) hlt] at c0
    rw [← hbw.cell (p := ⟨b, off + k * 3 + 1, none⟩) hlt] at c1
    rw [← hbw.cell (p := ⟨b, off + k * 3 + 2, none⟩) hlt] at c2
    have HS := hid (Z8d es k hlt2)
    have HB := hid (Z7B es hok.out k hkl)
    obtain ⟨p, hp⟩ : ∃ p, p = es[k] := ⟨_, rfl⟩
    have HP := hid hp
    rw [← hp] at c0 c1 c2
    clear hp
    rcases hv : Bt.Z0w p.to with _ | _
    ·have Hv := hid hv
     clear hv
     go_wp2_with (go_at_call 75; refine (Z0E _ _ _).mono ?_; rintro e w1 ⟨rfl, hb⟩; rw [Hv.out]; ((obtain ⟨hc1, hf1, hs1⟩ := qR hb); (try have := qN0 wr w1); (try have := qN1 wr w1)))
     all_goals go_ret
     all_goals exact ⟨Z0s (by rw [HL.out, HS.out, ← HP.out, Hv.out]; simp), qL⟩
    ·have Hv := hid hv
     clear hv
     by_cases hlast : p.key ≤ lastOf es k
     ·go_wp2
      go_ret
      exact ⟨Z0s (by rw [HL.out, HS.out, ← HP.out, Hv.out]; simp; omega), qL⟩
     ·have hlast' : lastOf es k < p.key := by omega
      go_wp2_with (go_at_call 75; refine (Z0E _ _ _).mono ?_; rintro e w1 ⟨rfl, hb⟩; rw [Hv.out]; ((obtain ⟨hc1, hf1, hs1⟩ := qR hb); (try have := qN0 wr w1); (try have := qN1 wr w1)))
      go_roundw
      case rel =>
       refine ⟨k + 1, by omega, by go_num, ?_, hid ?_, qL⟩
       ·simp only [lastOf, List.getD_eq_getElem?_getD, List.getElem?_eq_getElem hlt2, Option.getD_some]; rw [← HP.out]
       ·rw [HL.out, HS.out, ← HP.out, Hv.out]; simp [hlast']
      case measure => simp [intOf]; omega
   ·have hke : k = es.length := by omega
    have HE := hid hke
    clear hke
    go_wp2
    go_ret
    exact ⟨Z0s (by rw [HL.out, HE.out, List.drop_length]; rfl), qL⟩
def Z02 (n : Bt.Node) (v : Value) : Array Value := #[.int .i64 n.level, .bool n.leftmost, .bool n.dead, .int .u32 n.high, .int .i64 n.right.line, .int .i64 n.right.gen, v]
def peq (a b c d : Int) : Bool := decide (a = c ∧ b = d)
theorem eql_ptr (a b c d : Int) (w : World) : (binOp .eql 27 (.agg #[.int .i64 a, .int .i64 b]) (.agg #[.int .i64 c, .int .i64 d])).run Tryz.prog w = .ok (.bool (peq a b c d)) w := by
 simp [go_sem, peq]
 by_cases h1 : a = c <;> by_cases h2 : b = d <;> simp [h1, h2]
theorem Z0U (a b c d : Int) (w : World) : (binOp .neq 27 (.agg #[.int .i64 a, .int .i64 b]) (.agg #[.int .i64 c, .int .i64 d])).run Tryz.prog w = .ok (.bool (!peq a b c d)) w := by
 simp [go_sem, peq]
 by_cases h1 : a = c <;> by_cases h2 : b = d <;> simp [h1, h2]
theorem Z0j (p : Bt.Ptr) : peq p.line p.gen 0 0 = decide (p = Bt.nilP) := by
 obtain ⟨l, g⟩ := p
 simp [peq, Bt.nilP]
structure NoneAt (w : World) : Prop where
 c0 : w.cell? ⟨0, 0, none⟩ = some (.int .i64 0)
 c1 : w.cell? ⟨0, 1, none⟩ = some (.int .i64 0)
 lt : 0 < w.heap.size
theorem NoneAt.below {w w' : World} (h : NoneAt w) (hb : Below w.heap.size w w') : NoneAt w' :=
 ⟨(hb.cell (p := ⟨0, 0, none⟩) h.lt).trans h.c0, (hb.cell (p := ⟨0, 1, none⟩) h.lt).trans h.c1, Nat.lt_of_lt_of_le h.lt hb.size⟩
theorem wG5 {P : Prop} (h : P := by
 have HX : Hid (n.valid = false) := hid (by simp only [Bt.Node.valid]; rw [if_pos (by simp [h])])
 have He := hid he
 have hlen := he.len
 unfold maxLen at hlen
 unfold Z02
 subst hv
 first
  | clear tg23
    have a1 : decide (n.level < 0) = true := by simp [h]
    clear h he
    first
     | clear tg24
       clear hes
       go_enter Tryz.func63, Tryz.ntmps63
       go_wp2
       go_ret
       exact ⟨Z0s HX.out.symm, qL⟩
     | clear tg25
       go_enter Tryz.func63, Tryz.ntmps63
       go_wp2
       go_ret
       exact ⟨Z0s HX.out.symm, qL⟩
  | clear tg26
    have a1 : decide (n.level < 0) = false := by simp [h0]
    first
     | clear tg27
       have a2 : decide (8 < n.level) = true := by simp [h]
       clear h0 h he
       first
        | clear tg28
          clear hes
          go_enter Tryz.func63, Tryz.ntmps63
          go_wp2
          go_ret
          exact ⟨Z0s HX.out.symm, qL⟩
        | clear tg29
          go_enter Tryz.func63, Tryz.ntmps63
          go_wp2
          go_ret
          exact ⟨Z0s HX.out.symm, qL⟩
     | clear tg30
       have a2 : decide (8 < n.level) = false := by simp [h1]
       first
        | clear tg31
          exact absurd h (by rw [hes]; simp)
        | clear tg32
          have a3 : decide (5 < (n.entries.length : Int)) = true := by simp; omega
          clear h0 h1 h he
          go_enter Tryz.func63, Tryz.ntmps63
          go_wp2
          go_ret
          exact ⟨Z0s HX.out.symm, qL⟩
        | clear tg33
          have H0 := hid hes
          clear hes
          first
           | clear tg34
             have HR := hid h
             clear h0 h1 h2 h he
             exact sG31
           | clear tg35
             have HR := hid h3
             have a4 : (n.high == 0) = true := by simp [h]
             clear h0 h1 h2 h3 h he
             exact sG31
        | clear tg36
          have a3 : decide (5 < (n.entries.length : Int)) = false := by simp; omega
          first
           | clear tg37
             have HR := hid h
             clear h0 h1 h2 h he
             exact sG31
           | clear tg38
             have HR := hid h3
             have a4 : (n.high == 0) = true := by simp [h]
             clear h0 h1 h2 h3 h he
             exact sG31) : P := h
theorem Zab (n : Bt.Node) (v : Value) (w : World) (he : EntRow w v n.entries) (h : n.level < 0) (hv : v = .slice none 0 0) (hes : n.entries = []) :
 Calls Tryz.prog 63 #[.agg (Z02 n v)] w fun e w' => e = .returned (.bool n.valid) ∧ Below w.heap.size w w' := by
 have tg23 := trivial
 have tg24 := trivial
 exact wG5
theorem Zaa (n : Bt.Node) (v : Value) (w : World) (he : EntRow w v n.entries) (h : n.level < 0) (b off cap : Nat) (hv : v = .slice (some ⟨b, off, none⟩) n.entries.length cap) :
 Calls Tryz.prog 63 #[.agg (Z02 n v)] w fun e w' => e = .returned (.bool n.valid) ∧ Below w.heap.size w w' := by
 have tg23 := trivial
 have tg25 := trivial
 exact wG5
theorem Za9 (n : Bt.Node) (v : Value) (w : World) (he : EntRow w v n.entries) (h0 : 0 ≤ n.level) (h : 8 < n.level) (hv : v = .slice none 0 0) (hes : n.entries = []) :
 Calls Tryz.prog 63 #[.agg (Z02 n v)] w fun e w' => e = .returned (.bool n.valid) ∧ Below w.heap.size w w' := by
 have tg26 := trivial
 have tg27 := trivial
 have tg28 := trivial
 exact wG5
theorem Za8 (n : Bt.Node) (v : Value) (w : World) (he : EntRow w v n.entries) (h0 : 0 ≤ n.level) (h : 8 < n.level) (b off cap : Nat) (hv : v = .slice (some ⟨b, off, none⟩) n.entries.length cap) :
 Calls Tryz.prog 63 #[.agg (Z02 n v)] w fun e w' => e = .returned (.bool n.valid) ∧ Below w.heap.size w w' := by
 have tg26 := trivial
 have tg27 := trivial
 have tg29 := trivial
 exact wG5
theorem Za7 (n : Bt.Node) (v : Value) (w : World) (he : EntRow w v n.entries) (h0 : 0 ≤ n.level) (h1 : n.level ≤ 8) (h : 5 < n.entries.length) (hv : v = .slice none 0 0) (hes : n.entries = []) :
 Calls Tryz.prog 63 #[.agg (Z02 n v)] w fun e w' => e = .returned (.bool n.valid) ∧ Below w.heap.size w w' := by
 have tg26 := trivial
 have tg30 := trivial
 have tg31 := trivial
 exact wG5
theorem Za6 (n : Bt.Node) (v : Value) (w : World) (he : EntRow w v n.entries) (h0 : 0 ≤ n.level) (h1 : n.level ≤ 8) (h : 5 < n.entries.length) (b off cap : Nat) (hv : v = .slice (some ⟨b, off, none⟩) n.entries.length cap) :
 Calls Tryz.prog 63 #[.agg (Z02 n v)] w fun e w' => e = .returned (.bool n.valid) ∧ Below w.heap.size w w' := by
 have tg26 := trivial
 have tg30 := trivial
 have tg32 := trivial
 exact wG5
theorem wG17 {P : Prop} (h : P := by
 go_enter Tryz.func63, Tryz.ntmps63
 go_wp2_with fail
 go_at_call 98; refine (Z0v n.entries _ _ ?hpg).mono ?_; (case hpg => exact He.out.below qL); rintro e w1 ⟨rfl, hb⟩; rw [HR.out]; ((obtain ⟨hc1, hf1, hs1⟩ := qR hb); (try have := qN0 w w1))
 first
  | clear tg108
    have gl1 : 0 < w1.heap.size := by omega
    go_wp2_with fail
    refine qA fun hSt => ?_
    first
     | clear tg109
       refine qS [0, 1, 2, 3, 4, 5, 6] ?_
       iterate 7 (refine qT ?_; simp only [Act.put, qY])
       refine Z00.done ?_
       refine qH 7 fun K hK => ?_
       go_simp
       go_at_call 75; refine (Z0E _ _ _).mono ?_; rintro e w2 ⟨rfl, hb2⟩; rw [HV.out]; ((obtain ⟨hc2, hf2, hs2⟩ := qR hb2); (try have := qN0 w w2); (try have := qN0 w1 w2))
       go_wp2_with fail
       refine hK.out _ _ (SteadyAll.of qL) (fun hHeld => ?_)
       clear hK K
       refine qS [8, 9, 10, 11, 12, 13, 14, 15, 16, 17, 18, 19] ?_
       iterate 12 (refine qT ?_; simp only [Act.put, qY])
       refine Z00.done ?_
       refine qD ?_ _
       go_wp2_with fail
       first
        | clear tg110
          all_goals
           go_ret
           refine ⟨Z0s ?_, qL⟩
           rw [HX.out]
           go_light
           have hz := H0.out
           have hl := congrArg Bt.Z03 hz
           have hn := congrArg List.length hz
           simp only [Bt.Z03, List.length_nil] at hl hn
           clear hz
           have hni := HN.out
           have hL := HL0.out
           have hD := HD.out
           have hL2 : ¬ (n.level ≤ 0) ∨ ¬ (0 < n.level) := by omega
           first | (rw [if_pos hL]) | (rw [if_neg (by omega)])
           rw [Bool.eq_iff_iff]
           first | (simp [hD, hl, hn, hni, Bt.Z0e, *]; done) | (simp [hD, hl, hn, hni, Bt.Z0e, *]; omega) | skip
        | clear tg111
          go_ret
          exact ⟨Z0s HX.out.symm, qL⟩
     | clear tg112
       refine qS [0, 1, 2, 3, 4, 5, 6, 7, 8, 9, 10, 11, 12, 13, 14, 15, 16, 17, 18, 19] ?_
       iterate 20 (refine qT ?_; simp only [Act.put, qY])
       refine Z00.done ?_
       refine qD ?_ _
       go_wp2_with fail
       first
        | clear tg113
          all_goals
           go_ret
           refine ⟨Z0s ?_, qL⟩
           rw [HX.out]
           go_light
           have hz := H0.out
           have hl := congrArg Bt.Z03 hz
           have hn := congrArg List.length hz
           simp only [Bt.Z03, List.length_nil] at hl hn
           clear hz
           have hni := HN.out
           have hL := HL0.out
           have hD := HD.out
           have hL2 : ¬ (n.level ≤ 0) ∨ ¬ (0 < n.level) := by omega
           first | (rw [if_pos hL]) | (rw [if_neg (by omega)])
           rw [Bool.eq_iff_iff]
           first | (simp [hD, hl, hn, hni, Bt.Z0e, *]; done) | (simp [hD, hl, hn, hni, Bt.Z0e, *]; omega) | skip
        | clear tg114
          go_ret
          exact ⟨Z0s HX.out.symm, qL⟩
  | clear tg115
    have hlt1 : b < w1.heap.size := by omega
    have gl1 : 0 < w1.heap.size := by omega
    go_wp2_with fail
    refine qA fun hSt => ?_
    first
     | clear tg116
       refine qS [0, 1, 2, 3, 4, 5, 6] ?_
       iterate 7 (refine qT ?_; simp only [Act.put, qY])
       refine Z00.done ?_
       refine qH 7 fun K hK => ?_
       go_simp
       go_at_call 75; refine (Z0E _ _ _).mono ?_; rintro e w2 ⟨rfl, hb2⟩; rw [HV.out]; ((obtain ⟨hc2, hf2, hs2⟩ := qR hb2); (try have := qN0 w w2); (try have := qN0 w1 w2))
       go_wp2_with fail
       refine hK.out _ _ (SteadyAll.of qL) (fun hHeld => ?_)
       clear hK K
       refine qS [8, 9, 10, 11, 12, 13, 14, 15, 16, 17, 18, 19] ?_
       iterate 12 (refine qT ?_; simp only [Act.put, qY])
       refine Z00.done ?_
       refine qD ?_ _
       go_wp2_with fail
       all_goals
        go_ret
        refine ⟨Z0s ?_, qL⟩
        rw [HX.out]
        go_light
        have hl := HL.out
        have hn : 0 < n.entries.length := by omega
        have hni := HN.out
        have hL := HL0.out
        have hD := HD.out
        have hL2 : ¬ (n.level ≤ 0) ∨ ¬ (0 < n.level) := by omega
        first | (rw [if_pos hL]) | (rw [if_neg (by omega)])
        rw [Bool.eq_iff_iff]
        first | (simp [hD, hl, hn, hni, Bt.Z0e, *]; done) | (simp [hD, hl, hn, hni, Bt.Z0e, *]; omega) | skip
     | clear tg117
       refine qS [0, 1, 2, 3, 4, 5, 6, 7, 8, 9, 10, 11, 12, 13, 14, 15, 16, 17, 18, 19] ?_
       iterate 20 (refine qT ?_; simp only [Act.put, qY])
       refine Z00.done ?_
       refine qD ?_ _
       go_wp2_with fail
       all_goals
        go_ret
        refine ⟨Z0s ?_, qL⟩
        rw [HX.out]
        go_light
        have hl := HL.out
        have hn : 0 < n.entries.length := by omega
        have hni := HN.out
        have hL := HL0.out
        have hD := HD.out
        have hL2 : ¬ (n.level ≤ 0) ∨ ¬ (0 < n.level) := by omega
        first | (rw [if_pos hL]) | (rw [if_neg (by omega)])
        rw [Bool.eq_iff_iff]
        first | (simp [hD, hl, hn, hni, Bt.Z0e, *]; done) | (simp [hD, hl, hn, hni, Bt.Z0e, *]; omega) | skip
  | clear tg118
    go_wp2
    go_ret
    exact ⟨Z0s HX.out.symm, qL⟩) : P := h
theorem sG31 {P : Prop} (h : P := by
 have tg118 := trivial
 exact wG17) : P := h
theorem Za5 (n : Bt.Node) (v : Value) (w : World) (he : EntRow w v n.entries) (h0 : 0 ≤ n.level) (h1 : n.level ≤ 8) (h2 : n.entries.length ≤ 5) (h : Bt.rising n.entries = false) (hv : v = .slice none 0 0) (hes : n.entries = []) :
 Calls Tryz.prog 63 #[.agg (Z02 n v)] w fun e w' => e = .returned (.bool n.valid) ∧ Below w.heap.size w w' := by
 have tg26 := trivial
 have tg30 := trivial
 have tg33 := trivial
 have tg34 := trivial
 exact wG5
theorem Za4 (n : Bt.Node) (v : Value) (w : World) (he : EntRow w v n.entries) (h0 : 0 ≤ n.level) (h1 : n.level ≤ 8) (h2 : n.entries.length ≤ 5) (h : Bt.rising n.entries = false) (b off cap : Nat) (hv : v = .slice (some ⟨b, off, none⟩) n.entries.length cap) :
 Calls Tryz.prog 63 #[.agg (Z02 n v)] w fun e w' => e = .returned (.bool n.valid) ∧ Below w.heap.size w w' := by
 have tg26 := trivial
 have tg30 := trivial
 have tg36 := trivial
 have tg37 := trivial
 exact wG5
theorem Za3 (n : Bt.Node) (v : Value) (w : World) (he : EntRow w v n.entries) (h0 : 0 ≤ n.level) (h1 : n.level ≤ 8) (h2 : n.entries.length ≤ 5) (h3 : Bt.rising n.entries = true) (h : n.high = 0) (hv : v = .slice none 0 0) (hes : n.entries = []) :
 Calls Tryz.prog 63 #[.agg (Z02 n v)] w fun e w' => e = .returned (.bool n.valid) ∧ Below w.heap.size w w' := by
 have tg26 := trivial
 have tg30 := trivial
 have tg33 := trivial
 have tg35 := trivial
 exact wG5
theorem Za2 (n : Bt.Node) (v : Value) (w : World) (he : EntRow w v n.entries) (h0 : 0 ≤ n.level) (h1 : n.level ≤ 8) (h2 : n.entries.length ≤ 5) (h3 : Bt.rising n.entries = true) (h : n.high = 0) (b off cap : Nat) (hv : v = .slice (some ⟨b, off, none⟩) n.entries.length cap) :
 Calls Tryz.prog 63 #[.agg (Z02 n v)] w fun e w' => e = .returned (.bool n.valid) ∧ Below w.heap.size w w' := by
 have tg26 := trivial
 have tg30 := trivial
 have tg36 := trivial
 have tg38 := trivial
 exact wG5
theorem ZbX (n : Bt.Node) (v : Value) (w : World) (he : EntRow w v n.entries) (h : n.level < 0 ∨ 8 < n.level ∨ 5 < n.entries.length ∨ Bt.rising n.entries = false ∨ n.high = 0) :
 Calls Tryz.prog 63 #[.agg (Z02 n v)] w fun e w' => e = .returned (.bool n.valid) ∧ Below w.heap.size w w' := by
 by_cases x0 : n.level < 0
 ·rcases he.form with ⟨hv, hes⟩ | ⟨b, off, cap, hv, hlt, hcells⟩
  ·exact Zab n v w he x0 hv hes
  ·exact Zaa n v w he x0 b off cap hv
 have x0' : 0 ≤ n.level := by omega
 by_cases x1 : 8 < n.level
 ·rcases he.form with ⟨hv, hes⟩ | ⟨b, off, cap, hv, hlt, hcells⟩
  ·exact Za9 n v w he x0' x1 hv hes
  ·exact Za8 n v w he x0' x1 b off cap hv
 have x1' : n.level ≤ 8 := by omega
 by_cases x2 : 5 < n.entries.length
 ·rcases he.form with ⟨hv, hes⟩ | ⟨b, off, cap, hv, hlt, hcells⟩
  ·exact Za7 n v w he x0' x1' x2 hv hes
  ·exact Za6 n v w he x0' x1' x2 b off cap hv
 have x2' : n.entries.length ≤ 5 := by omega
 rcases hr : Bt.rising n.entries with _ | _
 ·rcases he.form with ⟨hv, hes⟩ | ⟨b, off, cap, hv, hlt, hcells⟩
  ·exact Za5 n v w he x0' x1' x2' hr hv hes
  ·exact Za4 n v w he x0' x1' x2' hr b off cap hv
 have x4 : n.high = 0 := by
  rcases h with h | h | h | h | h
  ·omega
  ·omega
  ·omega
  ·rw [hr] at h; cases h
  ·exact h
 rcases he.form with ⟨hv, hes⟩ | ⟨b, off, cap, hv, hlt, hcells⟩
 ·exact Za3 n v w he x0' x1' x2' hr x4 hv hes
 ·exact Za2 n v w he x0' x1' x2' hr x4 b off cap hv
theorem Z66 (x : Int) (w : World) : Calls Tryz.prog 123 #[.int .u32 x] w fun e w' => e = .returned (.bool false) ∧ w = w' := by
 go_enter Tryz.func123, Tryz.ntmps123
 go_wp2
 go_ret
 exact ⟨rfl, rfl⟩
def cmpOf (a b : Int) : Int := if a < b then -1 else if b < a then 1 else 0
theorem Z8J (a b : Int) (w : World) : Calls Tryz.prog 108 #[.int .u32 a, .int .u32 b] w fun e w' => e = .returned (.int .i64 (cmpOf a b)) ∧ w = w' := by
 by_cases h1 : a < b
 ·have HX : Hid (cmpOf a b = -1) := hid (by simp [cmpOf, h1])
  go_enter Tryz.func108, Tryz.ntmps108
  go_wp2_with (go_at_call 123; refine (Z66 _ _).mono ?_; rintro e w1 ⟨rfl, rfl⟩)
  go_ret
  exact ⟨Z4L HX.out.symm, rfl⟩
 ·by_cases h2 : b < a
  ·have HX : Hid (cmpOf a b = 1) := hid (by simp [cmpOf, h1, h2])
   have h1' : decide (a < b) = false := by simp [h1]
   clear h1
   go_enter Tryz.func108, Tryz.ntmps108
   go_wp2_with (go_at_call 123; refine (Z66 _ _).mono ?_; rintro e w1 ⟨rfl, rfl⟩)
   go_ret
   exact ⟨Z4L HX.out.symm, rfl⟩
  ·have HX : Hid (cmpOf a b = 0) := hid (by simp [cmpOf, h1, h2])
   have h1' : decide (a < b) = false := by simp [h1]
   have h2' : decide (b < a) = false := by simp [h2]
   clear h1 h2
   go_enter Tryz.func108, Tryz.ntmps108
   go_wp2_with (go_at_call 123; refine (Z66 _ _).mono ?_; rintro e w1 ⟨rfl, rfl⟩)
   go_ret
   exact ⟨Z4L HX.out.symm, rfl⟩
theorem Z5w (e : Bt.Entry) (k : Int) (w : World) : Calls Tryz.prog 107 #[.agg e.cells, .int .u32 k] w fun r w' => r = .returned (.int .i64 (cmpOf e.key k)) ∧ Below w.heap.size w w' := by
 unfold Bt.Entry.cells
 go_enter Tryz.func107, Tryz.ntmps107
 go_wp2_with (go_at_call 108; refine (Z8J _ _ _).mono ?_; rintro e w1 ⟨rfl, rfl⟩)
 go_ret
 exact ⟨rfl, qL⟩
def Asc (es : List Bt.Entry) : Prop := es.Pairwise (fun a b => a.key < b.key)
theorem Z5i (es : List Bt.Entry) (k : Int) : Bt.child es k ≤ es.length := by
 induction es with
 | nil => exact Nat.le_refl _
 | cons e es ih => simp only [Bt.child]; split <;> simp <;> omega
theorem Z9x (es : List Bt.Entry) (k : Int) (hs : Asc es) (h : Nat) (hh : h < es.length) : es[h].key < k ↔ h < Bt.child es k := by
 induction es generalizing h with
 | nil => simp at hh
 | cons e es ih =>
   have hs' := List.pairwise_cons.1 hs
   simp only [Bt.child]
   by_cases hk : e.key < k
   ·rw [if_pos hk]
    cases h with
    | zero => simpa using hk
    | succ h =>
      have := ih hs'.2 h (by simpa using hh)
      simp only [List.getElem_cons_succ]
      omega
   ·rw [if_neg hk]
    cases h with
    | zero => simpa using hk
    | succ h =>
      have hh' : h < es.length := by simpa using hh
      simp only [List.getElem_cons_succ]
      have := hs'.1 es[h] (List.getElem_mem hh')
      omega
theorem Z79 (es : List Bt.Entry) (last : Int) (h : Bt.Z09 last es = true) : Asc es ∧ ∀ e ∈ es, last < e.key := by
 induction es generalizing last with
 | nil => exact ⟨List.Pairwise.nil, by simp⟩
 | cons e es ih =>
   simp only [Bt.Z09, Bool.and_eq_true, decide_eq_true_eq] at h
   obtain ⟨h1, h2⟩ := ih e.key h.2
   refine ⟨List.pairwise_cons.2 ⟨h2, h1⟩, ?_⟩
   intro x hx
   rcases List.mem_cons.1 hx with rfl | hx
   ·exact h.1.1
   ·have := h2 x hx
    omega
def BsRel (es : List Bt.Entry) (k : Int) (w : World) (i j : Value) (wr : World) : Prop :=
 ∃ a b : Nat, i = .int .i64 a ∧ j = .int .i64 b ∧ a ≤ Bt.child es k ∧ Bt.child es k ≤ b ∧ b ≤ es.length ∧ Below w.heap.size w wr
def Z6H (es : List Bt.Entry) (k : Int) (w : World) (e : Ending) (w' : World) : Prop :=
 e = .returned (.tuple #[.int .i64 (Bt.child es k), .bool (Bt.Z0T es k)]) ∧ Below w.heap.size w w'
theorem Z8G (es : List Bt.Entry) (v : Value) (k : Int) (w : World) (he : EntRow w v es) (hs : Asc es) (h5 : es.length ≤ 5) :
 Calls Tryz.prog 106 #[v, .int .u32 k, .func (.func 107) #[] #[]] w (Z6H es k w) := by
 have hcl := hid (Z5i es k)
 have Hs := hid hs
 rcases he.form with ⟨rfl, rfl⟩ | ⟨b, off, cap, rfl, hlt, hcells⟩
 ·go_enter Tryz.func106, Tryz.ntmps106
  go_wp2_with fail
  refine wp_loop_rounds 1 ?_
  rw [rounds_succ]
  go_wp2_with fail
  go_ret2
  exact ⟨rfl, Below.refl _ _⟩
 ·have Hc := hid hcells
  clear hcells he hs
  go_enter Tryz.func106, Tryz.ntmps106
  go_wp2_with fail
  go_loopw [9, 10] (fun i j wr => BsRel es k w i j wr) (fun i j _ => (intOf j - intOf i).toNat)
  case atStart => exact ⟨0, es.length, rfl, rfl, Nat.zero_le _, hcl.out, Nat.le_refl _, Below.refl _ _⟩
  case round =>
   obtain ⟨a, c, rfl, rfl, h1, h2, h3, hbw⟩ := hrel
   have HB := hid (And.intro h1 h2)
   clear h1 h2
   by_cases hac : a < c
   ·obtain ⟨h, hh⟩ : ∃ h : Nat, h = (a + c) / 2 := ⟨_, rfl⟩
    have hh1 : a ≤ h := by omega
    have hh2 : h < c := by omega
    have hh3 : ((a : Int) + c) / 2 = (h : Int) := by omega
    have hlt2 : h < es.length := by omega
    obtain ⟨c0, c1, c2⟩ := three Hc.out hlt2
    rw [← hbw.cell (p := ⟨b, off + h * 3, none⟩) hlt] at c0
    rw [← hbw.cell (p := ⟨b, off + h * 3 + 1, none⟩) hlt] at c1
    rw [← hbw.cell (p := ⟨b, off + h * 3 + 2, none⟩) hlt] at c2
    have HS := hid (Z9x es k Hs.out h hlt2)
    by_cases hk : es[h].key < k
    ·have hcmp : cmpOf es[h].key k = -1 := by simp [cmpOf, hk]
     have HK := hid hk
     clear hk hh
     go_wp2_with (go_at_call 107; refine (Z5w es[h] k _).mono ?_; rintro e w1 ⟨rfl, hb⟩; rw [hcmp]; ((obtain ⟨hc1, hf1, hs1⟩ := qR hb); (try have := qN0 wr w1)))
     all_goals
      have hb1 := HB.out
      refine ⟨⟨h + 1, c, by go_num, rfl, ?_, hb1.2, h3, qL⟩, by simp [intOf]; omega⟩
      have := HS.out.1 HK.out
      omega
    ·have hcmp : decide (cmpOf es[h].key k < 0) = false := by simp [cmpOf, hk]; split <;> omega
     have HK := hid hk
     clear hk hh
     go_wp2_with (go_at_call 107; refine (Z5w es[h] k _).mono ?_; rintro e w1 ⟨rfl, hb⟩; ((obtain ⟨hc1, hf1, hs1⟩ := qR hb); (try have := qN0 wr w1)))
     all_goals
      have hb1 := HB.out
      refine ⟨⟨a, h, rfl, rfl, hb1.1, ?_, by omega, qL⟩, by simp [intOf]; omega⟩
      have h9 := HS.out
      have h8 := HK.out
      by_cases h7 : h < Bt.child es k
      ·have := h9.2 h7; omega
      ·omega
   ·have hb1 := HB.out
    have hae : Bt.child es k = a := by omega
    have HE := hid hae
    clear hae hb1
    by_cases hlt2 : a < es.length
    ·obtain ⟨c0, c1, c2⟩ := three Hc.out hlt2
     rw [← hbw.cell (p := ⟨b, off + a * 3, none⟩) hlt] at c0
     rw [← hbw.cell (p := ⟨b, off + a * 3 + 1, none⟩) hlt] at c1
     rw [← hbw.cell (p := ⟨b, off + a * 3 + 2, none⟩) hlt] at c2
     have HH : Hid (Bt.Z0T es k = decide (es[a].key = k)) := hid (by simp [Bt.Z0T, HE.out, List.getElem?_eq_getElem hlt2])
     have HC : Hid ((cmpOf es[a].key k == 0) = decide (es[a].key = k)) := hid (by
      unfold cmpOf
      by_cases h7 : es[a].key < k
      ·have : ¬ es[a].key = k := by omega
       simp [h7, this]
      ·by_cases h8 : k < es[a].key
       ·have : ¬ es[a].key = k := by omega
        simp [h7, h8, this]
       ·have : es[a].key = k := by omega
        simp [this])
     have hlt3 : decide (a < es.length) = true := by simp [hlt2]
     go_wp2_with (go_at_call 107; refine (Z5w es[a] k _).mono ?_; rintro e w1 ⟨rfl, hb⟩; ((obtain ⟨hc1, hf1, hs1⟩ := qR hb); (try have := qN0 wr w1)))
     all_goals go_ret2
     all_goals exact ⟨by rw [HE.out, HH.out, ← HC.out]; rfl, qL⟩
    ·have HH : Hid (Bt.Z0T es k = false) := hid (by simp [Bt.Z0T, HE.out, List.getElem?_eq_none (Nat.le_of_not_lt hlt2)])
     have hlt3 : decide (a < es.length) = false := by simp [hlt2]
     go_wp2_with fail
     all_goals go_ret2
     all_goals exact ⟨by rw [HE.out, HH.out]; rfl, qL⟩
theorem Z0Z (n : Bt.Node) (hv : n.valid = true) : Asc n.entries ∧ n.entries.length ≤ 5 := by
 unfold Bt.Node.valid at hv
 split at hv
 ·cases hv
 ·rename_i h
  have hr : Bt.rising n.entries = true := by
   cases hr : Bt.rising n.entries with
   | true => rfl
   | false => exact absurd (Or.inr (Or.inr (Or.inr (Or.inl hr)))) h
  exact ⟨(Z79 _ 0 hr).1, by omega⟩
theorem Z2v (n : Bt.Node) (v : Value) (k : Int) (w : World) (he : EntRow w v n.entries) (hs : Asc n.entries) (h5 : n.entries.length ≤ 5) : Calls Tryz.prog 91 #[.agg (Z02 n v), .int .u32 k] w
 fun e w' => e = .returned (.int .i64 (Bt.child n.entries k)) ∧ Below w.heap.size w w' := by
 have He := hid he
 clear he
 unfold Z02
 go_enter Tryz.func91, Tryz.ntmps91
 go_wp2_with fail
 go_at_call 106; refine (Z8G n.entries v k _ ?hpg hs h5).mono ?_
 case hpg => exact He.out.below qL
 rintro e w1 ⟨rfl, hb⟩
 go_wp2_with fail
 go_ret
 exact ⟨rfl, qL⟩
theorem Z3K (n : Bt.Node) (v : Value) (k : Int) (w : World) (he : EntRow w v n.entries) (hs : Asc n.entries) (h5 : n.entries.length ≤ 5) : Calls Tryz.prog 84 #[.agg (Z02 n v), .int .u32 k] w (Z6H n.entries k w) := by
 have He := hid he
 have Hs := hid hs
 obtain ⟨c, hc⟩ : ∃ c, c = Bt.child n.entries k := ⟨_, rfl⟩
 have hcl : c ≤ n.entries.length := by rw [hc]; exact Z5i _ _
 have HC := hid hc
 clear hs hc
 unfold Z02
 rcases he.form with ⟨rfl, hes⟩ | ⟨b, off, cap, rfl, hlt, hcells⟩
 ·have hl0 : n.entries.length = 0 := by rw [hes]; rfl
  have hc0 : c = 0 := by omega
  subst hc0
  have HH : Hid (Bt.Z0T n.entries k = false) := hid (by rw [hes]; rfl)
  clear hes he hl0 hcl
  go_enter Tryz.func84, Tryz.ntmps84
  go_wp2_with fail
  go_at_call 91; refine (Z2v n _ k _ ?hpg Hs.out h5).mono ?_
  case hpg => exact He.out.below qL
  rintro e w1 ⟨rfl, hb⟩; rw [← HC.out]; ((obtain ⟨hc1, hf1, hs1⟩ := qR hb); (try have := qN0 w w1); (try have := qN1 w w1))
  go_wp2_with fail
  refine qA fun hSt => ?_
  refine qS [0, 1, 2, 3, 4, 5, 6, 7, 8, 9, 10, 11, 12, 13, 14, 15, 16, 17] ?_
  iterate 18 (refine qT ?_; simp only [Act.put, qY])
  refine Z00.done ?_
  refine qD ?_ _
  go_wp2_with fail
  go_ret2
  exact ⟨by rw [← HC.out, HH.out]; rfl, qL⟩
 ·have Hc := hid hcells
  clear hcells he
  by_cases hlt2 : c < n.entries.length
  ·obtain ⟨c0, c1, c2⟩ := three Hc.out hlt2
   have HH : Hid (Bt.Z0T n.entries k = (n.entries[c].key == k)) := hid (by simp only [Bt.Z0T, ← HC.out, List.getElem?_eq_getElem hlt2]; rfl)
   have hlt3 : decide (c < n.entries.length) = true := by simp [hlt2]
   have hi1 : (0 : Int) ≤ c := by omega
   have hi2 : (c : Int) < n.entries.length := by omega
   go_enter Tryz.func84, Tryz.ntmps84
   go_wp2_with fail
   go_at_call 91; refine (Z2v n _ k _ ?hpg Hs.out h5).mono ?_
   case hpg => exact He.out.below qL
   rintro e w1 ⟨rfl, hb⟩; rw [← HC.out]; ((obtain ⟨hc1, hf1, hs1⟩ := qR hb); (try have := qN0 w w1); (try have := qN1 w w1))
   have hlt4 : b < w1.heap.size := by omega
   go_wp2_with fail
   refine qA fun hSt => ?_
   refine qS [0, 1, 2, 3, 4, 5, 6, 7, 8, 9, 10, 11, 12, 13, 14, 15, 16, 17] ?_
   iterate 18 (refine qT ?_; simp only [Act.put, qY])
   refine Z00.done ?_
   refine qD ?_ _
   go_wp2_with fail
   go_ret2
   exact ⟨by rw [← HC.out, HH.out]; rfl, qL⟩
  ·have HH : Hid (Bt.Z0T n.entries k = false) := hid (by simp only [Bt.Z0T, ← HC.out, List.getElem?_eq_none (Nat.le_of_not_lt hlt2)])
   have hlt3 : decide (c < n.entries.length) = false := by simp [hlt2]
   go_enter Tryz.func84, Tryz.ntmps84
   go_wp2_with fail
   go_at_call 91; refine (Z2v n _ k _ ?hpg Hs.out h5).mono ?_
   case hpg => exact He.out.below qL
   rintro e w1 ⟨rfl, hb⟩; rw [← HC.out]; ((obtain ⟨hc1, hf1, hs1⟩ := qR hb); (try have := qN0 w w1); (try have := qN1 w w1))
   go_wp2_with fail
   refine qA fun hSt => ?_
   refine qS [0, 1, 2, 3, 4, 5, 6, 7, 8, 9, 10, 11, 12, 13, 14, 15, 16, 17] ?_
   iterate 18 (refine qT ?_; simp only [Act.put, qY])
   refine Z00.done ?_
   refine qD ?_ _
   go_wp2_with fail
   go_ret2
   exact ⟨by rw [← HC.out, HH.out]; rfl, qL⟩
theorem sG10 {P : Prop} (h : P := by
 have ne := Z0U
 have eq := eql_ptr
 have tg108 := trivial
 have tg109 := trivial
 have tg111 := trivial
 exact wG17) : P := h
theorem wG4 {P : Prop} (h : P := by
 have HX : Hid (n.valid = false) := hid (by simp only [Bt.Node.valid]; rw [if_neg h, if_pos (by simp [Bt.Z08, h1, h2])])
 have He := hid he
 obtain ⟨g0, g1, gl⟩ := hg
 have hlen := he.len
 unfold maxLen at hlen
 unfold Z02
 have a1 : decide (n.level < 0) = false := by simp; omega
 have a2 : decide (8 < n.level) = false := by simp; omega
 have a3 : decide (5 < (n.entries.length : Int)) = false := by simp; omega
 have a4 : (n.high == 0) = false := by simp; omega
 have HR : Hid (Bt.rising n.entries = true) := hid (by cases hr : Bt.rising n.entries <;> simp_all)
 first
  | clear tg13
    have hp : peq n.right.line n.right.gen 0 0 = false := by rw [Z0j]; simp [h1]
    have HV := hid h2
    first
     | clear tg14
       subst hv
       first
        | clear tg15
          have H0 := hid hes
          have l0 : n.entries.length = 0 := by rw [hes]; rfl
          have L0 := hid l0
          clear hes l0
          clear h h1 h2 he
          exact sG10
        | clear tg16
          clear h h1 h2 he
          exact sG10
     | clear tg17
       rw [hes] at hv
       subst hv
       have H0 := hid hes
       have l0 : n.entries.length = 0 := by rw [hes]; rfl
       have L0 := hid l0
       clear hes l0
       clear h h1 h2 he
       exact sG10
  | clear tg18
    have hp : peq n.right.line n.right.gen 0 0 = true := by rw [Z0j]; simp [h1]
    have hm : (n.high == 4294967295) = false := by simp [h2]
    first
     | clear tg19
       subst hv
       first
        | clear tg20
          have H0 := hid hes
          have l0 : n.entries.length = 0 := by rw [hes]; rfl
          have L0 := hid l0
          clear hes l0
          exact sG18
        | clear tg21
          exact sG18
     | clear tg22
       rw [hes] at hv
       subst hv
       have H0 := hid hes
       have l0 : n.entries.length = 0 := by rw [hes]; rfl
       have L0 := hid l0
       clear hes l0
       exact sG18) : P := h
set_option maxRecDepth 100000 in
theorem Zbk (n : Bt.Node) (v : Value) (w : World) (he : EntRow w v n.entries) (hg : NoneAt w) (h : ¬ (n.level < 0 ∨ 8 < n.level ∨ 5 < n.entries.length ∨ Bt.rising n.entries = false ∨ n.high = 0))
 (h1 : n.right ≠ Bt.nilP) (h2 : Bt.Z0w n.right = false)  (hv : v = .slice none 0 0) (hes : n.entries = []) :
 Calls Tryz.prog 63 #[.agg (Z02 n v)] w fun e w' => e = .returned (.bool n.valid) ∧ Below w.heap.size w w' := by
 have tg13 := trivial
 have tg14 := trivial
 have tg15 := trivial
 exact wG4
set_option maxRecDepth 100000 in
theorem Zbj (n : Bt.Node) (v : Value) (w : World) (he : EntRow w v n.entries) (hg : NoneAt w) (h : ¬ (n.level < 0 ∨ 8 < n.level ∨ 5 < n.entries.length ∨ Bt.rising n.entries = false ∨ n.high = 0))
 (h1 : n.right ≠ Bt.nilP) (h2 : Bt.Z0w n.right = false)  (b off cap : Nat) (hv : v = .slice (some ⟨b, off, none⟩) n.entries.length cap) (hes : n.entries = []) :
 Calls Tryz.prog 63 #[.agg (Z02 n v)] w fun e w' => e = .returned (.bool n.valid) ∧ Below w.heap.size w w' := by
 have tg13 := trivial
 have tg17 := trivial
 exact wG4
set_option maxRecDepth 100000 in
theorem Zbi (n : Bt.Node) (v : Value) (w : World) (he : EntRow w v n.entries) (hg : NoneAt w) (h : ¬ (n.level < 0 ∨ 8 < n.level ∨ 5 < n.entries.length ∨ Bt.rising n.entries = false ∨ n.high = 0))
 (h1 : n.right ≠ Bt.nilP) (h2 : Bt.Z0w n.right = false)  (b off cap : Nat) (hv : v = .slice (some ⟨b, off, none⟩) n.entries.length cap) (hes : 0 < n.entries.length) :
 Calls Tryz.prog 63 #[.agg (Z02 n v)] w fun e w' => e = .returned (.bool n.valid) ∧ Below w.heap.size w w' := by
 have tg13 := trivial
 have tg14 := trivial
 have tg16 := trivial
 exact wG4
theorem sG18 {P : Prop} (h : P := by
 clear h h1 h2 he
 have ne := Z0U
 have eq := eql_ptr
 have tg108 := trivial
 have tg112 := trivial
 have tg114 := trivial
 exact wG17) : P := h
set_option maxRecDepth 100000 in
theorem Zbh (n : Bt.Node) (v : Value) (w : World) (he : EntRow w v n.entries) (hg : NoneAt w) (h : ¬ (n.level < 0 ∨ 8 < n.level ∨ 5 < n.entries.length ∨ Bt.rising n.entries = false ∨ n.high = 0))
 (h1 : n.right = Bt.nilP) (h2 : n.high ≠ 4294967295)  (hv : v = .slice none 0 0) (hes : n.entries = []) :
 Calls Tryz.prog 63 #[.agg (Z02 n v)] w fun e w' => e = .returned (.bool n.valid) ∧ Below w.heap.size w w' := by
 have tg18 := trivial
 have tg19 := trivial
 have tg20 := trivial
 exact wG4
set_option maxRecDepth 100000 in
theorem Zbg (n : Bt.Node) (v : Value) (w : World) (he : EntRow w v n.entries) (hg : NoneAt w) (h : ¬ (n.level < 0 ∨ 8 < n.level ∨ 5 < n.entries.length ∨ Bt.rising n.entries = false ∨ n.high = 0))
 (h1 : n.right = Bt.nilP) (h2 : n.high ≠ 4294967295)  (b off cap : Nat) (hv : v = .slice (some ⟨b, off, none⟩) n.entries.length cap) (hes : n.entries = []) :
 Calls Tryz.prog 63 #[.agg (Z02 n v)] w fun e w' => e = .returned (.bool n.valid) ∧ Below w.heap.size w w' := by
 have tg18 := trivial
 have tg22 := trivial
 exact wG4
set_option maxRecDepth 100000 in
theorem Zbf (n : Bt.Node) (v : Value) (w : World) (he : EntRow w v n.entries) (hg : NoneAt w) (h : ¬ (n.level < 0 ∨ 8 < n.level ∨ 5 < n.entries.length ∨ Bt.rising n.entries = false ∨ n.high = 0))
 (h1 : n.right = Bt.nilP) (h2 : n.high ≠ 4294967295)  (b off cap : Nat) (hv : v = .slice (some ⟨b, off, none⟩) n.entries.length cap) (hes : 0 < n.entries.length) :
 Calls Tryz.prog 63 #[.agg (Z02 n v)] w fun e w' => e = .returned (.bool n.valid) ∧ Below w.heap.size w w' := by
 have tg18 := trivial
 have tg19 := trivial
 have tg21 := trivial
 exact wG4
theorem wG3 {P : Prop} (h : P := by
 have HX : Hid (n.valid = false) := hid (by simp only [Bt.Node.valid]; rw [if_neg h, if_pos (by simp [Bt.Z08, h1, h2, h3])])
 have He := hid he
 obtain ⟨g0, g1, gl⟩ := hg
 have hlen := he.len
 unfold maxLen at hlen
 unfold Z02
 have a1 : decide (n.level < 0) = false := by simp; omega
 have a2 : decide (8 < n.level) = false := by simp; omega
 have a3 : decide (5 < (n.entries.length : Int)) = false := by simp; omega
 have a4 : (n.high == 0) = false := by simp; omega
 have HR : Hid (Bt.rising n.entries = true) := hid (by cases hr : Bt.rising n.entries <;> simp_all)
 have hp : peq n.right.line n.right.gen 0 0 = false := by rw [Z0j]; simp [h1]
 have HV := hid h2
 have hm : (n.high == 4294967295) = true := by simp [h3]
 first
  | clear tg9
    subst hv
    first
     | clear tg10
       have H0 := hid hes
       have l0 : n.entries.length = 0 := by rw [hes]; rfl
       have L0 := hid l0
       clear hes l0
       clear h h1 h2 he h3
       exact sG10
     | clear tg11
       clear h h1 h2 he h3
       exact sG10
  | clear tg12
    rw [hes] at hv
    subst hv
    have H0 := hid hes
    have l0 : n.entries.length = 0 := by rw [hes]; rfl
    have L0 := hid l0
    clear hes l0
    clear h h1 h2 he h3
    exact sG10) : P := h
set_option maxRecDepth 100000 in
theorem Zbe (n : Bt.Node) (v : Value) (w : World) (he : EntRow w v n.entries) (hg : NoneAt w) (h : ¬ (n.level < 0 ∨ 8 < n.level ∨ 5 < n.entries.length ∨ Bt.rising n.entries = false ∨ n.high = 0))
 (h1 : n.right ≠ Bt.nilP) (h2 : Bt.Z0w n.right = true) (h3 : n.high = 4294967295)  (hv : v = .slice none 0 0) (hes : n.entries = []) :
 Calls Tryz.prog 63 #[.agg (Z02 n v)] w fun e w' => e = .returned (.bool n.valid) ∧ Below w.heap.size w w' := by
 have tg9 := trivial
 have tg10 := trivial
 exact wG3
set_option maxRecDepth 100000 in
theorem Zbd (n : Bt.Node) (v : Value) (w : World) (he : EntRow w v n.entries) (hg : NoneAt w) (h : ¬ (n.level < 0 ∨ 8 < n.level ∨ 5 < n.entries.length ∨ Bt.rising n.entries = false ∨ n.high = 0))
 (h1 : n.right ≠ Bt.nilP) (h2 : Bt.Z0w n.right = true) (h3 : n.high = 4294967295)  (b off cap : Nat) (hv : v = .slice (some ⟨b, off, none⟩) n.entries.length cap) (hes : n.entries = []) :
 Calls Tryz.prog 63 #[.agg (Z02 n v)] w fun e w' => e = .returned (.bool n.valid) ∧ Below w.heap.size w w' := by
 have tg12 := trivial
 exact wG3
set_option maxRecDepth 100000 in
theorem Zbc (n : Bt.Node) (v : Value) (w : World) (he : EntRow w v n.entries) (hg : NoneAt w) (h : ¬ (n.level < 0 ∨ 8 < n.level ∨ 5 < n.entries.length ∨ Bt.rising n.entries = false ∨ n.high = 0))
 (h1 : n.right ≠ Bt.nilP) (h2 : Bt.Z0w n.right = true) (h3 : n.high = 4294967295)  (b off cap : Nat) (hv : v = .slice (some ⟨b, off, none⟩) n.entries.length cap) (hes : 0 < n.entries.length) :
 Calls Tryz.prog 63 #[.agg (Z02 n v)] w fun e w' => e = .returned (.bool n.valid) ∧ Below w.heap.size w w' := by
 have tg9 := trivial
 have tg11 := trivial
 exact wG3
end Go.Proofs.YtjmpekanlmepmaaGreatDoor
