/- Package btree: nodes: what can be stored. Package btree: nodes: what can be stored, second part. -/
import Derived.Test.YtjmpekanlmepmaaGreatDoorWA4
set_option linter.unusedVariables false
set_option linter.unusedSimpArgs false
set_option linter.unusedSectionVars false
set_option linter.constructorNameAsVariable false
namespace Go.Proofs.YtjmpekanlmepmaaGreatDoor
open Go.RowKit

def Bt.Entry.cells (e : Bt.Entry) : Array Value := #[.int .u32 e.key, .int .i64 e.to.line, .int .i64 e.to.gen]
def Bt.Entry.Ok (e : Bt.Entry) : Prop := 0 ≤ e.key ∧ e.key < 4294967296
/-- A slice that reads as a list of entries. -/
structure EntRow (w : World) (v : Value) (l : List Bt.Entry) : Prop where
  ok : ∀ e ∈ l, e.Ok
  len : l.length ≤ maxLen
  form : (v = .slice none 0 0 ∧ l = []) ∨ ∃ b off cap, v = .slice (some ⟨b, off, none⟩) l.length cap ∧ b < w.heap.size ∧ ∀ (i : Nat) (p : Bt.Entry), l[i]? = some p → ∀ (j : Nat) (u : Value), p.cells[j]? = some u → w.cell? ⟨b, off + i * 3 + j, none⟩ = some u
theorem EntRow.below {w w' : World} {v : Value} {l : List Bt.Entry} (h : EntRow w v l) (hb : Below w.heap.size w w') : EntRow w' v l := by
  refine ⟨h.ok, h.len, ?_⟩
  rcases h.form with h1 | ⟨b, off, cap, hv, hlt, hcells⟩
  · exact .inl h1
  · exact .inr ⟨b, off, cap, hv, Nat.lt_of_lt_of_le hlt hb.size, fun i p hi j u hu => by rw [hb.cell (p := ⟨b, off + i * 3 + j, none⟩) hlt]; exact hcells i p hi j u hu⟩

theorem three {w : World} {b off k : Nat} {l : List Bt.Entry} (hcells : ∀ (i : Nat) (p : Bt.Entry), l[i]? = some p → ∀ (j : Nat) (u : Value), p.cells[j]? = some u → w.cell? ⟨b, off + i * 3 + j, none⟩ = some u) (h : k < l.length) :
    w.cell? ⟨b, off + k * 3, none⟩ = some (.int .u32 l[k].key) ∧ w.cell? ⟨b, off + k * 3 + 1, none⟩ = some (.int .i64 l[k].to.line) ∧ w.cell? ⟨b, off + k * 3 + 2, none⟩ = some (.int .i64 l[k].to.gen) := by
  have hk := List.getElem?_eq_getElem h
  exact ⟨hcells k _ hk 0 _ rfl, hcells k _ hk 1 _ rfl, hcells k _ hk 2 _ rfl⟩

def lastOf (es : List Bt.Entry) (k : Nat) : Int := match k with | 0 => 0 | k + 1 => (es.getD k default).key

theorem rising_step (es : List Bt.Entry) (k : Nat) (h : k < es.length) : Bt.risingFrom (lastOf es k) (es.drop k) = (decide (lastOf es k < es[k].key) && Bt.validP es[k].to && Bt.risingFrom (lastOf es (k + 1)) (es.drop (k + 1))) := by
  rw [List.drop_eq_getElem_cons h]
  simp only [Bt.risingFrom, lastOf, List.getD_eq_getElem?_getD, List.getElem?_eq_getElem h, Option.getD_some]
theorem lastOf_bound (es : List Bt.Entry) (hok : ∀ e ∈ es, e.Ok) (k : Nat) (hk : k ≤ es.length) : 0 ≤ lastOf es k ∧ lastOf es k < 4294967296 := by
  rcases k with _ | k
  · exact ⟨Int.le_refl 0, by show (0 : Int) < 4294967296; omega⟩
  · have h : k < es.length := by omega
    have := hok es[k] (List.getElem_mem h)
    unfold Bt.Entry.Ok at this
    simpa [lastOf, List.getD_eq_getElem?_getD, List.getElem?_eq_getElem h] using this

theorem rising_any (es : List Bt.Entry) (v : Value) (w : World) (hk : EntRow w v es) : Calls Tryz.prog 98 #[v] w fun e w' => e = .returned (.bool (Bt.rising es)) ∧ Below w.heap.size w w' := by
  have hok := Lib.hid hk.ok
  rcases hk.form with ⟨rfl, rfl⟩ | ⟨b, off, cap, rfl, hlt, hcells⟩
  · go_enter Tryz.func98, Tryz.ntmps98
    go_wp2
    refine wp_loop_rounds 1 ?_
    rw [rounds_succ]
    go_wp2
    go_ret
    exact ⟨rfl, by (repeat (first | with_reducible exact Below.refl _ _ | with_reducible assumption | with_reducible refine Below.setCell ?_ (by first | (simp; done) | (simp; omega)) _ | with_reducible refine below_alloc ?_ _ | with_reducible refine below_drewN ?_ _ | with_reducible refine Below.drew ?_ | with_reducible refine below_step ?_ (by assumption)))⟩
  · have hlen := hk.len
    unfold maxLen at hlen
    have Hc := Lib.hid hcells
    clear hcells hk
    go_enter Tryz.func98, Tryz.ntmps98
    go_wp2
    go_loopw [3, 8] (fun l i wr => ∃ k : Nat, k ≤ es.length ∧ i = .int .i64 k ∧ l = .int .u32 (lastOf es k) ∧ Hid (Bt.rising es = Bt.risingFrom (lastOf es k) (es.drop k)) ∧ Below w.heap.size w wr) (fun _ i _ => es.length - (intOf i).toNat)
    case atStart => exact ⟨0, Nat.zero_le _, rfl, rfl, Lib.hid rfl, Below.refl _ _⟩
    case round =>
      obtain ⟨k, hkl, rfl, rfl, HL, hbw⟩ := hrel
      by_cases hlt2 : k < es.length
      · obtain ⟨c0, c1, c2⟩ := three Hc.out hlt2
        rw [← hbw.cell (p := ⟨b, off + k * 3, none⟩) hlt] at c0
        rw [← hbw.cell (p := ⟨b, off + k * 3 + 1, none⟩) hlt] at c1
        rw [← hbw.cell (p := ⟨b, off + k * 3 + 2, none⟩) hlt] at c2
        have HS := Lib.hid (rising_step es k hlt2)
        have HB := Lib.hid (lastOf_bound es hok.out k hkl)
        obtain ⟨p, hp⟩ : ∃ p, p = es[k] := ⟨_, rfl⟩
        have HP := Lib.hid hp
        rw [← hp] at c0 c1 c2
        clear hp
        rcases hv : Bt.validP p.to with _ | _
        · have Hv := Lib.hid hv
          clear hv
          go_wp2_with (go_at_call 75; refine (Valid_any _ _ _).mono ?_; rintro e w1 ⟨rfl, hb⟩; rw [Hv.out]; ((obtain ⟨hc1, hf1⟩ := below_rules hb; have hs1 := Below.size hb; try simp only [size_alloc, size_setCell, size_drew, size_drewN] at hs1 hc1 hf1); (try have z1_wr_0 : wr.heap.size < w1.heap.size := by omega); (try have z1_wr_1 : wr.heap.size + 1 < w1.heap.size := by omega)))
          all_goals go_ret
          all_goals exact ⟨ret_bool (by rw [HL.out, HS.out, ← HP.out, Hv.out]; simp), by (repeat (first | with_reducible exact Below.refl _ _ | with_reducible assumption | with_reducible refine Below.setCell ?_ (by first | (simp; done) | (simp; omega)) _ | with_reducible refine below_alloc ?_ _ | with_reducible refine below_drewN ?_ _ | with_reducible refine Below.drew ?_ | with_reducible refine below_step ?_ (by assumption)))⟩
        · have Hv := Lib.hid hv
          clear hv
          by_cases hlast : p.key ≤ lastOf es k
          · go_wp2
            go_ret
            exact ⟨ret_bool (by rw [HL.out, HS.out, ← HP.out, Hv.out]; simp; omega), by (repeat (first | with_reducible exact Below.refl _ _ | with_reducible assumption | with_reducible refine Below.setCell ?_ (by first | (simp; done) | (simp; omega)) _ | with_reducible refine below_alloc ?_ _ | with_reducible refine below_drewN ?_ _ | with_reducible refine Below.drew ?_ | with_reducible refine below_step ?_ (by assumption)))⟩
          · have hlast' : lastOf es k < p.key := by omega
            go_wp2_with (go_at_call 75; refine (Valid_any _ _ _).mono ?_; rintro e w1 ⟨rfl, hb⟩; rw [Hv.out]; ((obtain ⟨hc1, hf1⟩ := below_rules hb; have hs1 := Below.size hb; try simp only [size_alloc, size_setCell, size_drew, size_drewN] at hs1 hc1 hf1); (try have z1_wr_0 : wr.heap.size < w1.heap.size := by omega); (try have z1_wr_1 : wr.heap.size + 1 < w1.heap.size := by omega)))
            go_roundw
            case rel =>
              refine ⟨k + 1, by omega, by go_num, ?_, Lib.hid ?_, by (repeat (first | with_reducible exact Below.refl _ _ | with_reducible assumption | with_reducible refine Below.setCell ?_ (by first | (simp; done) | (simp; omega)) _ | with_reducible refine below_alloc ?_ _ | with_reducible refine below_drewN ?_ _ | with_reducible refine Below.drew ?_ | with_reducible refine below_step ?_ (by assumption)))⟩
              · simp only [lastOf, List.getD_eq_getElem?_getD, List.getElem?_eq_getElem hlt2, Option.getD_some]; rw [← HP.out]
              · rw [HL.out, HS.out, ← HP.out, Hv.out]; simp [hlast']
            case measure => simp [intOf]; omega
      · have hke : k = es.length := by omega
        have HE := Lib.hid hke
        clear hke
        go_wp2
        go_ret
        exact ⟨ret_bool (by rw [HL.out, HE.out, List.drop_length]; rfl), by (repeat (first | with_reducible exact Below.refl _ _ | with_reducible assumption | with_reducible refine Below.setCell ?_ (by first | (simp; done) | (simp; omega)) _ | with_reducible refine below_alloc ?_ _ | with_reducible refine below_drewN ?_ _ | with_reducible refine Below.drew ?_ | with_reducible refine below_step ?_ (by assumption)))⟩
end Go.Proofs.YtjmpekanlmepmaaGreatDoor
namespace Go.Proofs.YtjmpekanlmepmaaGreatDoor
open Go.RowKit

def nodeCells (n : Bt.Node) (v : Value) : Array Value := #[.int .i64 n.level, .bool n.leftmost, .bool n.dead, .int .u32 n.high, .int .i64 n.right.line, .int .i64 n.right.gen, v]

theorem EntRow.len_run {w : World} {v : Value} {es : List Bt.Entry} (h : EntRow w v es) : v = .slice none 0 0 ∧ es = [] ∨ ∃ b off cap, v = .slice (some ⟨b, off, none⟩) es.length cap := by
  rcases h.form with h1 | ⟨b, off, cap, hv, _⟩
  · exact .inl h1
  · exact .inr ⟨b, off, cap, hv⟩

/-- Are two pointers the same? -/
def peq (a b c d : Int) : Bool := decide (a = c ∧ b = d)
theorem eql_ptr (a b c d : Int) (w : World) : (binOp .eql 27 (.agg #[.int .i64 a, .int .i64 b]) (.agg #[.int .i64 c, .int .i64 d])).run Tryz.prog w = .ok (.bool (peq a b c d)) w := by
  simp [go_sem, peq]
  by_cases h1 : a = c <;> by_cases h2 : b = d <;> simp [h1, h2]
theorem neq_ptr (a b c d : Int) (w : World) : (binOp .neq 27 (.agg #[.int .i64 a, .int .i64 b]) (.agg #[.int .i64 c, .int .i64 d])).run Tryz.prog w = .ok (.bool (!peq a b c d)) w := by
  simp [go_sem, peq]
  by_cases h1 : a = c <;> by_cases h2 : b = d <;> simp [h1, h2]
theorem peq_nil (p : Bt.Ptr) : peq p.line p.gen 0 0 = decide (p = Bt.nilP) := by
  obtain ⟨l, g⟩ := p
  simp [peq, Bt.nilP]

/-- The package's nil pointer, in memory. -/
structure NoneAt (w : World) : Prop where
  c0 : w.cell? ⟨0, 0, none⟩ = some (.int .i64 0)
  c1 : w.cell? ⟨0, 1, none⟩ = some (.int .i64 0)
  lt : 0 < w.heap.size
theorem NoneAt.below {w w' : World} (h : NoneAt w) (hb : Below w.heap.size w w') : NoneAt w' :=
  ⟨(hb.cell (p := ⟨0, 0, none⟩) h.lt).trans h.c0, (hb.cell (p := ⟨0, 1, none⟩) h.lt).trans h.c1, Nat.lt_of_lt_of_le h.lt hb.size⟩

theorem valid_10n (n : Bt.Node) (v : Value) (w : World) (he : EntRow w v n.entries) (h : n.level < 0) (hv : v = .slice none 0 0) (hes : n.entries = []) :
    Calls Tryz.prog 63 #[.agg (nodeCells n v)] w fun e w' => e = .returned (.bool n.valid) ∧ Below w.heap.size w w' := by
  have HX : Hid (n.valid = false) := Lib.hid (by simp only [Bt.Node.valid]; rw [if_pos (by simp [h])])
  have He := Lib.hid he
  have hlen := he.len
  unfold maxLen at hlen
  unfold nodeCells
  subst hv
  have a1 : decide (n.level < 0) = true := by simp [h]
  clear h he
  clear hes
  go_enter Tryz.func63, Tryz.ntmps63
  go_wp2
  go_ret
  exact ⟨ret_bool HX.out.symm, by (repeat (first | with_reducible exact Below.refl _ _ | with_reducible assumption | with_reducible refine Below.setCell ?_ (by first | (simp; done) | (simp; omega)) _ | with_reducible refine below_alloc ?_ _ | with_reducible refine below_drewN ?_ _ | with_reducible refine Below.drew ?_ | with_reducible refine below_step ?_ (by assumption)))⟩

theorem valid_10s (n : Bt.Node) (v : Value) (w : World) (he : EntRow w v n.entries) (h : n.level < 0) (b off cap : Nat) (hv : v = .slice (some ⟨b, off, none⟩) n.entries.length cap) :
    Calls Tryz.prog 63 #[.agg (nodeCells n v)] w fun e w' => e = .returned (.bool n.valid) ∧ Below w.heap.size w w' := by
  have HX : Hid (n.valid = false) := Lib.hid (by simp only [Bt.Node.valid]; rw [if_pos (by simp [h])])
  have He := Lib.hid he
  have hlen := he.len
  unfold maxLen at hlen
  unfold nodeCells
  subst hv
  have a1 : decide (n.level < 0) = true := by simp [h]
  clear h he
  go_enter Tryz.func63, Tryz.ntmps63
  go_wp2
  go_ret
  exact ⟨ret_bool HX.out.symm, by (repeat (first | with_reducible exact Below.refl _ _ | with_reducible assumption | with_reducible refine Below.setCell ?_ (by first | (simp; done) | (simp; omega)) _ | with_reducible refine below_alloc ?_ _ | with_reducible refine below_drewN ?_ _ | with_reducible refine Below.drew ?_ | with_reducible refine below_step ?_ (by assumption)))⟩

theorem valid_11n (n : Bt.Node) (v : Value) (w : World) (he : EntRow w v n.entries) (h0 : 0 ≤ n.level) (h : 8 < n.level) (hv : v = .slice none 0 0) (hes : n.entries = []) :
    Calls Tryz.prog 63 #[.agg (nodeCells n v)] w fun e w' => e = .returned (.bool n.valid) ∧ Below w.heap.size w w' := by
  have HX : Hid (n.valid = false) := Lib.hid (by simp only [Bt.Node.valid]; rw [if_pos (by simp [h])])
  have He := Lib.hid he
  have hlen := he.len
  unfold maxLen at hlen
  unfold nodeCells
  subst hv
  have a1 : decide (n.level < 0) = false := by simp [h0]
  have a2 : decide (8 < n.level) = true := by simp [h]
  clear h0 h he
  clear hes
  go_enter Tryz.func63, Tryz.ntmps63
  go_wp2
  go_ret
  exact ⟨ret_bool HX.out.symm, by (repeat (first | with_reducible exact Below.refl _ _ | with_reducible assumption | with_reducible refine Below.setCell ?_ (by first | (simp; done) | (simp; omega)) _ | with_reducible refine below_alloc ?_ _ | with_reducible refine below_drewN ?_ _ | with_reducible refine Below.drew ?_ | with_reducible refine below_step ?_ (by assumption)))⟩

theorem valid_11s (n : Bt.Node) (v : Value) (w : World) (he : EntRow w v n.entries) (h0 : 0 ≤ n.level) (h : 8 < n.level) (b off cap : Nat) (hv : v = .slice (some ⟨b, off, none⟩) n.entries.length cap) :
    Calls Tryz.prog 63 #[.agg (nodeCells n v)] w fun e w' => e = .returned (.bool n.valid) ∧ Below w.heap.size w w' := by
  have HX : Hid (n.valid = false) := Lib.hid (by simp only [Bt.Node.valid]; rw [if_pos (by simp [h])])
  have He := Lib.hid he
  have hlen := he.len
  unfold maxLen at hlen
  unfold nodeCells
  subst hv
  have a1 : decide (n.level < 0) = false := by simp [h0]
  have a2 : decide (8 < n.level) = true := by simp [h]
  clear h0 h he
  go_enter Tryz.func63, Tryz.ntmps63
  go_wp2
  go_ret
  exact ⟨ret_bool HX.out.symm, by (repeat (first | with_reducible exact Below.refl _ _ | with_reducible assumption | with_reducible refine Below.setCell ?_ (by first | (simp; done) | (simp; omega)) _ | with_reducible refine below_alloc ?_ _ | with_reducible refine below_drewN ?_ _ | with_reducible refine Below.drew ?_ | with_reducible refine below_step ?_ (by assumption)))⟩

theorem valid_12n (n : Bt.Node) (v : Value) (w : World) (he : EntRow w v n.entries) (h0 : 0 ≤ n.level) (h1 : n.level ≤ 8) (h : 5 < n.entries.length) (hv : v = .slice none 0 0) (hes : n.entries = []) :
    Calls Tryz.prog 63 #[.agg (nodeCells n v)] w fun e w' => e = .returned (.bool n.valid) ∧ Below w.heap.size w w' := by
  have HX : Hid (n.valid = false) := Lib.hid (by simp only [Bt.Node.valid]; rw [if_pos (by simp [h])])
  have He := Lib.hid he
  have hlen := he.len
  unfold maxLen at hlen
  unfold nodeCells
  subst hv
  have a1 : decide (n.level < 0) = false := by simp [h0]
  have a2 : decide (8 < n.level) = false := by simp [h1]
  exact absurd h (by rw [hes]; simp)

theorem valid_12s (n : Bt.Node) (v : Value) (w : World) (he : EntRow w v n.entries) (h0 : 0 ≤ n.level) (h1 : n.level ≤ 8) (h : 5 < n.entries.length) (b off cap : Nat) (hv : v = .slice (some ⟨b, off, none⟩) n.entries.length cap) :
    Calls Tryz.prog 63 #[.agg (nodeCells n v)] w fun e w' => e = .returned (.bool n.valid) ∧ Below w.heap.size w w' := by
  have HX : Hid (n.valid = false) := Lib.hid (by simp only [Bt.Node.valid]; rw [if_pos (by simp [h])])
  have He := Lib.hid he
  have hlen := he.len
  unfold maxLen at hlen
  unfold nodeCells
  subst hv
  have a1 : decide (n.level < 0) = false := by simp [h0]
  have a2 : decide (8 < n.level) = false := by simp [h1]
  have a3 : decide (5 < (n.entries.length : Int)) = true := by simp; omega
  clear h0 h1 h he
  go_enter Tryz.func63, Tryz.ntmps63
  go_wp2
  go_ret
  exact ⟨ret_bool HX.out.symm, by (repeat (first | with_reducible exact Below.refl _ _ | with_reducible assumption | with_reducible refine Below.setCell ?_ (by first | (simp; done) | (simp; omega)) _ | with_reducible refine below_alloc ?_ _ | with_reducible refine below_drewN ?_ _ | with_reducible refine Below.drew ?_ | with_reducible refine below_step ?_ (by assumption)))⟩

theorem valid_13n (n : Bt.Node) (v : Value) (w : World) (he : EntRow w v n.entries) (h0 : 0 ≤ n.level) (h1 : n.level ≤ 8) (h2 : n.entries.length ≤ 5) (h : Bt.rising n.entries = false) (hv : v = .slice none 0 0) (hes : n.entries = []) :
    Calls Tryz.prog 63 #[.agg (nodeCells n v)] w fun e w' => e = .returned (.bool n.valid) ∧ Below w.heap.size w w' := by
  have HX : Hid (n.valid = false) := Lib.hid (by simp only [Bt.Node.valid]; rw [if_pos (by simp [h])])
  have He := Lib.hid he
  have hlen := he.len
  unfold maxLen at hlen
  unfold nodeCells
  subst hv
  have a1 : decide (n.level < 0) = false := by simp [h0]
  have a2 : decide (8 < n.level) = false := by simp [h1]
  have H0 := Lib.hid hes
  clear hes
  have HR := Lib.hid h
  clear h0 h1 h2 h he
  go_enter Tryz.func63, Tryz.ntmps63
  go_wp2_with fail
  go_at_call 98; refine (rising_any n.entries _ _ ?hpg).mono ?_; (case hpg => exact He.out.below (by (repeat (first | with_reducible exact Below.refl _ _ | with_reducible assumption | with_reducible refine Below.setCell ?_ (by first | (simp; done) | (simp; omega)) _ | with_reducible refine below_alloc ?_ _ | with_reducible refine below_drewN ?_ _ | with_reducible refine Below.drew ?_ | with_reducible refine below_step ?_ (by assumption))))); rintro e w1 ⟨rfl, hb⟩; rw [HR.out]; ((obtain ⟨hc1, hf1⟩ := below_rules hb; have hs1 := Below.size hb; try simp only [size_alloc, size_setCell, size_drew, size_drewN] at hs1 hc1 hf1); (try have z1_w_0 : w.heap.size < w1.heap.size := by omega))
  go_wp2
  go_ret
  exact ⟨ret_bool HX.out.symm, by (repeat (first | with_reducible exact Below.refl _ _ | with_reducible assumption | with_reducible refine Below.setCell ?_ (by first | (simp; done) | (simp; omega)) _ | with_reducible refine below_alloc ?_ _ | with_reducible refine below_drewN ?_ _ | with_reducible refine Below.drew ?_ | with_reducible refine below_step ?_ (by assumption)))⟩

theorem valid_13s (n : Bt.Node) (v : Value) (w : World) (he : EntRow w v n.entries) (h0 : 0 ≤ n.level) (h1 : n.level ≤ 8) (h2 : n.entries.length ≤ 5) (h : Bt.rising n.entries = false) (b off cap : Nat) (hv : v = .slice (some ⟨b, off, none⟩) n.entries.length cap) :
    Calls Tryz.prog 63 #[.agg (nodeCells n v)] w fun e w' => e = .returned (.bool n.valid) ∧ Below w.heap.size w w' := by
  have HX : Hid (n.valid = false) := Lib.hid (by simp only [Bt.Node.valid]; rw [if_pos (by simp [h])])
  have He := Lib.hid he
  have hlen := he.len
  unfold maxLen at hlen
  unfold nodeCells
  subst hv
  have a1 : decide (n.level < 0) = false := by simp [h0]
  have a2 : decide (8 < n.level) = false := by simp [h1]
  have a3 : decide (5 < (n.entries.length : Int)) = false := by simp; omega
  have HR := Lib.hid h
  clear h0 h1 h2 h he
  go_enter Tryz.func63, Tryz.ntmps63
  go_wp2_with fail
  go_at_call 98; refine (rising_any n.entries _ _ ?hpg).mono ?_; (case hpg => exact He.out.below (by (repeat (first | with_reducible exact Below.refl _ _ | with_reducible assumption | with_reducible refine Below.setCell ?_ (by first | (simp; done) | (simp; omega)) _ | with_reducible refine below_alloc ?_ _ | with_reducible refine below_drewN ?_ _ | with_reducible refine Below.drew ?_ | with_reducible refine below_step ?_ (by assumption))))); rintro e w1 ⟨rfl, hb⟩; rw [HR.out]; ((obtain ⟨hc1, hf1⟩ := below_rules hb; have hs1 := Below.size hb; try simp only [size_alloc, size_setCell, size_drew, size_drewN] at hs1 hc1 hf1); (try have z1_w_0 : w.heap.size < w1.heap.size := by omega))
  go_wp2
  go_ret
  exact ⟨ret_bool HX.out.symm, by (repeat (first | with_reducible exact Below.refl _ _ | with_reducible assumption | with_reducible refine Below.setCell ?_ (by first | (simp; done) | (simp; omega)) _ | with_reducible refine below_alloc ?_ _ | with_reducible refine below_drewN ?_ _ | with_reducible refine Below.drew ?_ | with_reducible refine below_step ?_ (by assumption)))⟩

theorem valid_14n (n : Bt.Node) (v : Value) (w : World) (he : EntRow w v n.entries) (h0 : 0 ≤ n.level) (h1 : n.level ≤ 8) (h2 : n.entries.length ≤ 5) (h3 : Bt.rising n.entries = true) (h : n.high = 0) (hv : v = .slice none 0 0) (hes : n.entries = []) :
    Calls Tryz.prog 63 #[.agg (nodeCells n v)] w fun e w' => e = .returned (.bool n.valid) ∧ Below w.heap.size w w' := by
  have HX : Hid (n.valid = false) := Lib.hid (by simp only [Bt.Node.valid]; rw [if_pos (by simp [h])])
  have He := Lib.hid he
  have hlen := he.len
  unfold maxLen at hlen
  unfold nodeCells
  subst hv
  have a1 : decide (n.level < 0) = false := by simp [h0]
  have a2 : decide (8 < n.level) = false := by simp [h1]
  have H0 := Lib.hid hes
  clear hes
  have HR := Lib.hid h3
  have a4 : (n.high == 0) = true := by simp [h]
  clear h0 h1 h2 h3 h he
  go_enter Tryz.func63, Tryz.ntmps63
  go_wp2_with fail
  go_at_call 98; refine (rising_any n.entries _ _ ?hpg).mono ?_; (case hpg => exact He.out.below (by (repeat (first | with_reducible exact Below.refl _ _ | with_reducible assumption | with_reducible refine Below.setCell ?_ (by first | (simp; done) | (simp; omega)) _ | with_reducible refine below_alloc ?_ _ | with_reducible refine below_drewN ?_ _ | with_reducible refine Below.drew ?_ | with_reducible refine below_step ?_ (by assumption))))); rintro e w1 ⟨rfl, hb⟩; rw [HR.out]; ((obtain ⟨hc1, hf1⟩ := below_rules hb; have hs1 := Below.size hb; try simp only [size_alloc, size_setCell, size_drew, size_drewN] at hs1 hc1 hf1); (try have z1_w_0 : w.heap.size < w1.heap.size := by omega))
  go_wp2
  go_ret
  exact ⟨ret_bool HX.out.symm, by (repeat (first | with_reducible exact Below.refl _ _ | with_reducible assumption | with_reducible refine Below.setCell ?_ (by first | (simp; done) | (simp; omega)) _ | with_reducible refine below_alloc ?_ _ | with_reducible refine below_drewN ?_ _ | with_reducible refine Below.drew ?_ | with_reducible refine below_step ?_ (by assumption)))⟩

theorem valid_14s (n : Bt.Node) (v : Value) (w : World) (he : EntRow w v n.entries) (h0 : 0 ≤ n.level) (h1 : n.level ≤ 8) (h2 : n.entries.length ≤ 5) (h3 : Bt.rising n.entries = true) (h : n.high = 0) (b off cap : Nat) (hv : v = .slice (some ⟨b, off, none⟩) n.entries.length cap) :
    Calls Tryz.prog 63 #[.agg (nodeCells n v)] w fun e w' => e = .returned (.bool n.valid) ∧ Below w.heap.size w w' := by
  have HX : Hid (n.valid = false) := Lib.hid (by simp only [Bt.Node.valid]; rw [if_pos (by simp [h])])
  have He := Lib.hid he
  have hlen := he.len
  unfold maxLen at hlen
  unfold nodeCells
  subst hv
  have a1 : decide (n.level < 0) = false := by simp [h0]
  have a2 : decide (8 < n.level) = false := by simp [h1]
  have a3 : decide (5 < (n.entries.length : Int)) = false := by simp; omega
  have HR := Lib.hid h3
  have a4 : (n.high == 0) = true := by simp [h]
  clear h0 h1 h2 h3 h he
  go_enter Tryz.func63, Tryz.ntmps63
  go_wp2_with fail
  go_at_call 98; refine (rising_any n.entries _ _ ?hpg).mono ?_; (case hpg => exact He.out.below (by (repeat (first | with_reducible exact Below.refl _ _ | with_reducible assumption | with_reducible refine Below.setCell ?_ (by first | (simp; done) | (simp; omega)) _ | with_reducible refine below_alloc ?_ _ | with_reducible refine below_drewN ?_ _ | with_reducible refine Below.drew ?_ | with_reducible refine below_step ?_ (by assumption))))); rintro e w1 ⟨rfl, hb⟩; rw [HR.out]; ((obtain ⟨hc1, hf1⟩ := below_rules hb; have hs1 := Below.size hb; try simp only [size_alloc, size_setCell, size_drew, size_drewN] at hs1 hc1 hf1); (try have z1_w_0 : w.heap.size < w1.heap.size := by omega))
  go_wp2
  go_ret
  exact ⟨ret_bool HX.out.symm, by (repeat (first | with_reducible exact Below.refl _ _ | with_reducible assumption | with_reducible refine Below.setCell ?_ (by first | (simp; done) | (simp; omega)) _ | with_reducible refine below_alloc ?_ _ | with_reducible refine below_drewN ?_ _ | with_reducible refine Below.drew ?_ | with_reducible refine below_step ?_ (by assumption)))⟩

theorem valid_1 (n : Bt.Node) (v : Value) (w : World) (he : EntRow w v n.entries) (h : n.level < 0 ∨ 8 < n.level ∨ 5 < n.entries.length ∨ Bt.rising n.entries = false ∨ n.high = 0) :
    Calls Tryz.prog 63 #[.agg (nodeCells n v)] w fun e w' => e = .returned (.bool n.valid) ∧ Below w.heap.size w w' := by
  by_cases x0 : n.level < 0
  · rcases he.form with ⟨hv, hes⟩ | ⟨b, off, cap, hv, hlt, hcells⟩
    · exact valid_10n n v w he x0 hv hes
    · exact valid_10s n v w he x0 b off cap hv
  have x0' : 0 ≤ n.level := by omega
  by_cases x1 : 8 < n.level
  · rcases he.form with ⟨hv, hes⟩ | ⟨b, off, cap, hv, hlt, hcells⟩
    · exact valid_11n n v w he x0' x1 hv hes
    · exact valid_11s n v w he x0' x1 b off cap hv
  have x1' : n.level ≤ 8 := by omega
  by_cases x2 : 5 < n.entries.length
  · rcases he.form with ⟨hv, hes⟩ | ⟨b, off, cap, hv, hlt, hcells⟩
    · exact valid_12n n v w he x0' x1' x2 hv hes
    · exact valid_12s n v w he x0' x1' x2 b off cap hv
  have x2' : n.entries.length ≤ 5 := by omega
  rcases hr : Bt.rising n.entries with _ | _
  · rcases he.form with ⟨hv, hes⟩ | ⟨b, off, cap, hv, hlt, hcells⟩
    · exact valid_13n n v w he x0' x1' x2' hr hv hes
    · exact valid_13s n v w he x0' x1' x2' hr b off cap hv
  have x4 : n.high = 0 := by
    rcases h with h | h | h | h | h
    · omega
    · omega
    · omega
    · rw [hr] at h; cases h
    · exact h
  rcases he.form with ⟨hv, hes⟩ | ⟨b, off, cap, hv, hlt, hcells⟩
  · exact valid_14n n v w he x0' x1' x2' hr x4 hv hes
  · exact valid_14s n v w he x0' x1' x2' hr x4 b off cap hv

end Go.Proofs.YtjmpekanlmepmaaGreatDoor
