/- Package crc: some word comes out; which one does not matter here. Package crc: the checksum of words is some word. Rows of pages, of what was seen, of members; package logrec: a record is valid. -/
import Derived.Test.YtoidjgongafnkaaGreatDoorQb
import Derived.LoopTactic
import Derived.Laws.Closers25b
import Derived.OwnWalk
set_option linter.unusedVariables false
set_option linter.unusedSimpArgs false
set_option linter.unusedSectionVars false
set_option linter.constructorNameAsVariable false
namespace Go.Proofs.YtoidjgongafnkaaGreatDoor
open Go.RowKit

/-- An array of 256 words. -/
def Tab (cs : Array Value) : Prop := cs.size = 256 ∧ ∀ j, j < 256 → ∃ x : Int, cs[j]? = some (.int .u64 x)
theorem Tab.put {cs : Array Value} (h : Tab cs) (k : Nat) (x : Int) : Tab (cs.setIfInBounds k (.int .u64 x)) := by
  refine ⟨by simpa using h.1, fun j hj => ?_⟩
  rw [Array.getElem?_setIfInBounds]
  split
  · rename_i e; subst e
    rw [if_pos (by rw [h.1]; exact hj)]
    exact ⟨x, rfl⟩
  · exact h.2 j hj
theorem Tab.zero : Tab (Array.replicate 256 (.int .u64 0)) := ⟨by simp, fun j hj => ⟨0, by simp [hj]⟩⟩
theorem Tab.one {cs : Array Value} (h : Tab cs) : cs.all (·.oneCell') = true := by
  rw [Array.all_eq_true]
  intro i hi
  obtain ⟨x, hx⟩ := h.2 i (by have := h.1; omega)
  rw [Array.getElem?_eq_getElem hi] at hx
  rw [Option.some.inj hx]
  rfl

set_option maxRecDepth 100000 in
theorem table_any (w : World) : Calls Tryz.prog 248 #[] w fun e w' => ∃ cs, e = .returned (.agg cs) ∧ Tab cs ∧ Below w.heap.size w w' := by
  go_enter Tryz.func248, Tryz.ntmps248
  go_wp2_with fail
  go_loopw [3] (fun i wr => ∃ (k : Nat) (cs : Array Value), k ≤ 256 ∧ i = .int .i64 k ∧ Hid (Blk wr w.heap.size 353 cs ∧ Tab cs ∧ Below w.heap.size w wr)) (fun i _ => (256 - intOf i).toNat)
  case atStart => exact ⟨0, _, by omega, rfl, Lib.hid ⟨Blk.made _ _ _, Tab.zero, by (repeat (first | with_reducible exact Below.refl _ _ | with_reducible assumption | with_reducible refine Below.setCell ?_ (by first | (simp; done) | (simp; omega)) _ | with_reducible refine below_alloc ?_ _ | with_reducible refine below_drewN ?_ _ | with_reducible refine Below.drew ?_ | with_reducible refine below_step ?_ (by assumption)))⟩⟩
  case round =>
    obtain ⟨k, cs, hk, rfl, H⟩ := hrel
    by_cases hk2 : k < 256
    · have b1 : decide ((k : Int) < 256) = true := by simp; omega
      go_wp2_with fail
      obtain ⟨wo, rfl⟩ : ∃ wo : World, wo = wr := ⟨_, rfl⟩
      go_loop [8, 2] (fun i r => ∃ (m : Nat) (x : Int), m ≤ 8 ∧ i = .int .i64 m ∧ r = .int .u64 x) (fun i _ => (8 - intOf i).toNat)
      case atStart => exact ⟨0, _, by omega, rfl, rfl⟩
      case round =>
        obtain ⟨m, x, hm, rfl, rfl⟩ := hrel
        have f0 := H.out.1.free
        have bk0 : (0 : Int) ≤ k := by omega
        have bk1 : (k : Int) < 256 := by omega
        obtain ⟨x0, hx0⟩ := H.out.2.1.2 k hk2
        have c0 : wo.cell? ⟨w.heap.size, k, none⟩ = some (.int .u64 x0) := (H.out.1.cell k).trans hx0
        clear hx0
        go_wp2_with fail
        · exact ⟨⟨m + 1, _, by omega, by simp, rfl⟩, by simp [intOf]; omega⟩
        · exact ⟨⟨m + 1, _, by omega, by simp, rfl⟩, by simp [intOf]; omega⟩
        · refine ⟨⟨k + 1, _, by omega, by simp, Lib.hid ⟨H.out.1.put k _, H.out.2.1.put k _, ?_⟩⟩, by simp [intOf]; omega⟩
          have hb := H.out.2.2
          (repeat (first | with_reducible exact Below.refl _ _ | with_reducible assumption | with_reducible refine Below.setCell ?_ (by first | (simp; done) | (simp; omega)) _ | with_reducible refine below_alloc ?_ _ | with_reducible refine below_drewN ?_ _ | with_reducible refine Below.drew ?_ | with_reducible refine below_step ?_ (by assumption)))
    · obtain rfl : k = 256 := by omega
      have H1 := H.out.1
      have h1 := H.out.2.1.one
      have hs := H.out.2.1.1
      go_upto_region 13 with (fail)
      go_step
      refine wpList_load_blk rfl 353 (.tmp 0) rfl (w.heap.size) rfl _ _ _ H1 Tryz.underlying353 rfl (by rw [hs]; kernel_rfl) ?_
      refine wpList_store_self rfl 353 (.tmp 0) (.tmp 23) rfl (w.heap.size) _ rfl rfl _ H1 (by rw [hs]; kernel_rfl) h1 ?_
      go_wp2_with fail
      refine bodyPost_ret (results_b rfl _ _ (w.heap.size) _ _ _ rfl H1 Tryz.underlying353 rfl (by rw [hs]; kernel_rfl)) rfl ⟨_, rfl, H.out.2.1, H.out.2.2⟩

set_option maxRecDepth 100000 in
theorem add_any (r : Int) (g : Nat) (cs : Array Value) (v : Value) (lo n : Nat) (xs : List Value) (hx : ∀ u ∈ xs, ∃ x : Int, u = .int .u8 x) (w : World) (ht : Blk w g 353 cs) (hc : Tab cs) (hv : RowAt w lo v 5 1 n xs) (hn : n ≤ 1000) :
    Calls Tryz.prog 249 #[.int .u64 r, .pointer (some ⟨g, 0, none⟩), v] w fun e w' => ∃ x : Int, e = .returned (.int .u64 x) ∧ w = w' := by
  by_cases h0 : n = 0
  · subst h0
    obtain ⟨p, c, rfl⟩ := hv.shape
    clear hv
    go_enter Tryz.func249, Tryz.ntmps249
    go_wp2_with fail
    refine wp_loop_rounds 1 ?_
    rw [rounds_succ]
    go_wp2_with fail
    refine bodyPost_ret (results_tmp rfl _ _ _) rfl ⟨_, rfl, rfl⟩
  · have hl : xs.length = n := by have := hv.1; omega
    obtain ⟨b, o, cap, rfl, _, hlt, hcell⟩ := hv.form (by omega)
    have HC : Hid (∀ k, k < n → ∃ x : Int, w.cell? ⟨b, o + k, none⟩ = some (.int .u8 x)) := Lib.hid (fun k hk => by
      have h1 : xs[k]? = some xs[k] := List.getElem?_eq_getElem (by omega)
      obtain ⟨x, hx⟩ := hx _ (List.getElem_mem (l := xs) (n := k) (by omega))
      exact ⟨x, by rw [← hx]; exact hcell k _ h1⟩)
    have HT := Lib.hid (And.intro ht hc)
    clear hv hcell hx hl ht hc
    go_enter Tryz.func249, Tryz.ntmps249
    go_wp2_with fail
    go_loop [11, 0] (fun i r => ∃ (k : Nat) (x : Int), k ≤ n ∧ i = .int .i64 k ∧ r = .int .u64 x) (fun i _ => ((n : Int) - intOf i).toNat)
    case atStart => exact ⟨0, _, by omega, rfl, rfl⟩
    case round =>
      obtain ⟨k, x, hk, rfl, rfl⟩ := hrel
      by_cases hk2 : k < n
      · have b1 : decide ((k : Int) < n) = true := by simp; omega
        have bk0 : (0 : Int) ≤ k := by omega
        have bk1 : (k : Int) < n := by omega
        obtain ⟨y, c0⟩ := HC.out k hk2
        obtain ⟨z, hz⟩ : ∃ z, bits .xor .u8 (x % 256) y = z := ⟨_, rfl⟩
        have z0 : 0 ≤ z := hz ▸ bits_lo_u8 .xor (x % 256) y
        have z1 : z < 256 := by have : z ≤ 255 := hz ▸ bits_hi_u8 .xor (x % 256) y; omega
        obtain ⟨x0, hx0⟩ := HT.out.2.2 z.toNat (by omega)
        have c1 : w.cell? ⟨g, z.toNat, none⟩ = some (.int .u64 x0) := (HT.out.1.cell _).trans hx0
        clear hx0
        go_wp2_with fail
        exact ⟨⟨k + 1, _, by omega, by simp, rfl⟩, by simp [intOf]; omega⟩
      · have b1 : decide ((k : Int) < n) = false := by simp; omega
        go_wp2_with fail
        refine bodyPost_ret (results_tmp rfl _ _ _) rfl ⟨⟨_, rfl⟩, rfl⟩

set_option maxRecDepth 100000 in
theorem extend_any (s : Int) (v : Value) (lo n : Nat) (xs : List Value) (hx : ∀ u ∈ xs, ∃ x : Int, u = .int .u8 x) (w : World) (hv : RowAt w lo v 5 1 n xs) (hn : n ≤ 1000) :
    Calls Tryz.prog 231 #[.int .u64 s, v] w fun e w' => ∃ x : Int, e = .returned (.int .u64 x) ∧ Below w.heap.size w w' := by
  go_enter Tryz.func231, Tryz.ntmps231
  go_wp2_with fail
  go_at_call 248
  refine (table_any _).mono ?_
  rintro e w1 ⟨cs, rfl, hc, hb⟩
  have hs := hc.1
  have h1 := hc.one
  dsimp only
  iterate 4 go_step
  refine wpList_store_cut rfl 353 (.tmp 5) (.tmp 6) rfl (w1.heap.size) cs rfl rfl _ (Array.replicate 256 (.int .u64 0)) (Blk.made _ _ _) (by rw [hs]; kernel_rfl) (by simp [hs]) h1 (fun wx B_wx ho_wx hz_wx => ?_)
  simp only [Act.put, List.setIfInBounds_toArray, List.set_cons_zero, List.set_cons_succ, List.getElem_toArray, List.getElem_cons_zero, List.getElem_cons_succ]
  have hbx : Below w.heap.size w wx := below_grown (w := w) (w1 := w1.alloc _) (by (repeat (first | with_reducible exact Below.refl _ _ | with_reducible assumption | with_reducible refine Below.setCell ?_ (by first | (simp; done) | (simp; omega)) _ | with_reducible refine below_alloc ?_ _ | with_reducible refine below_drewN ?_ _ | with_reducible refine Below.drew ?_ | with_reducible refine below_step ?_ (by assumption)))) ho_wx (fun k hk => by injection hk with hk; subst hk; exact hb.size)
  have HVX := Lib.hid (hv.below hbx)
  have HBX := Lib.hid hbx
  have HTB := Lib.hid (And.intro B_wx hc)
  clear B_wx ho_wx hbx hb hc hs h1 hv
  go_wp2_with fail
  go_at_call 249
  refine (add_any _ _ cs v lo n xs hx _ HTB.out.1 HTB.out.2 HVX.out hn).mono ?_
  rintro e w2 ⟨x, rfl, rfl⟩
  go_wp2_with fail
  refine bodyPost_ret (results_tmp rfl _ _ _) rfl ⟨_, rfl, HBX.out⟩

theorem bytes_any (v : Value) (lo n : Nat) (xs : List Value) (hx : ∀ u ∈ xs, ∃ x : Int, u = .int .u8 x) (w : World) (hv : RowAt w lo v 5 1 n xs) (hn : n ≤ 1000) :
    Calls Tryz.prog 188 #[v] w fun e w' => ∃ x : Int, e = .returned (.int .u64 x) ∧ Below w.heap.size w w' := by
  go_enter Tryz.func188, Tryz.ntmps188
  go_wp2_with fail
  go_at_call 231
  refine (extend_any _ v lo n xs hx _ hv hn).mono ?_
  rintro e w1 ⟨x, rfl, hb⟩
  go_wp2_with fail
  refine bodyPost_ret (results_tmp rfl _ _ _) rfl ⟨_, rfl, hb⟩
end Go.Proofs.YtoidjgongafnkaaGreatDoor
namespace Go.Proofs.YtoidjgongafnkaaGreatDoor
open Go.RowKit

/-- A row of bytes under way: v is the call's own. -/
def Bytes (w : World) (base : Nat) (v : Value) (n : Nat) : Prop := ∃ xs : List Value, w.ownsRow base 5 1 v n xs ∧ ∀ u ∈ xs, ∃ x : Int, u = .int .u8 x
theorem infoU8 : (Tryz.prog.info? 5).map (fun i => (i.zero, i.size, i.bytes)) = some (some (.int .u8 0), 1, 1) := by kernel_rfl
def WLoop (w : World) (l : Nat) (v i : Value) (wr : World) : Prop := ∃ k : Nat, k ≤ l ∧ i = .int .i64 k ∧ Hid (Bytes wr w.heap.size v (8 * k) ∧ Below w.heap.size w wr)
def WIn (w : World) (k : Nat) (v x i : Value) (wr : World) : Prop := ∃ (m : Nat) (y : Int), m ≤ 8 ∧ i = .int .i64 m ∧ x = .int .u64 y ∧ Hid (Bytes wr w.heap.size v (8 * k + m) ∧ Below w.heap.size w wr)

set_option maxRecDepth 10000 in
theorem crcWords_any (v : Value) (lo : Nat) (l : List Int) (hl : l.length ≤ 100) (h0 : 0 < l.length) (w : World) (hv : WordsAt w lo v l) :
    Calls Tryz.prog 121 #[v] w fun e w' => ∃ x : Int, e = .returned (.int .u64 x) ∧ Below w.heap.size w w' := by
  obtain ⟨i0, hi, hz0, hz1, hz2⟩ := info_parts infoU8
  obtain ⟨b, o, cap, rfl, _, hlt, hcell⟩ := hv.form h0
  obtain ⟨n, hn⟩ : ∃ n, n = l.length := ⟨_, rfl⟩
  have HC : Hid (∀ k, k < n → ∃ x : Int, w.cell? ⟨b, o + k, none⟩ = some (.int .u64 x)) := Lib.hid (fun k hk => by
    refine ⟨l[k]'(by omega), hcell k _ ?_⟩
    simp [u64s, hn ▸ hk])
  rw [← hn] at h0 hl ⊢
  clear hv hcell hn
  go_enter Tryz.func121, Tryz.ntmps121
  go_wp2_with (at_make; refine halt ?_)
  refine unhalt ?_
  refine wpList_make_own _ rfl _ _ 236 rfl w.heap.size 5 i0 _ 1 Tryz.underlying236 hi hz0 hz1 _ _ _ (8 * n) rfl rfl (by simp) (by rw [hz2]; omega) (by unfold maxLen; omega) (Nat.le_refl _) ?_
  intro w1 hown1 hg1
  have hb1 : Below w.heap.size w w1 := below_grown (Below.refl _ _) hg1 (fun k hk => by cases hk)
  have H1 : Hid (Bytes w1 w.heap.size (.slice (some ⟨w.heap.size, 0, none⟩) 0 (8 * n)) (8 * 0) ∧ Below w.heap.size w w1) := Lib.hid ⟨⟨[], hown1, by simp⟩, hb1⟩
  clear hown1 hg1 hb1
  go_wp2_with fail
  go_loopw [3, 12] (fun v i wr => WLoop w n v i wr) (fun _ i _ => ((n : Int) - intOf i).toNat)
  case atStart => exact ⟨0, by omega, rfl, H1⟩
  case round =>
    obtain ⟨k, hk, rfl, H⟩ := hrel
    by_cases hk2 : k < n
    · have b1 : decide ((k : Int) < n) = true := by simp; omega
      have bk0 : (0 : Int) ≤ k := by omega
      have bk1 : (k : Int) < n := by omega
      obtain ⟨y, c0⟩ := HC.out k hk2
      have c0' : wr.cell? ⟨b, o + k, none⟩ = some (.int .u64 y) := (H.out.2.cell (p := ⟨b, o + k, none⟩) hlt).trans c0
      clear c0
      go_wp2_with fail
      obtain ⟨wo, rfl⟩ : ∃ wo : World, wo = wr := ⟨_, rfl⟩
      go_loopw [3, 5, 16] (fun v x i wr => WIn w k v x i wr) (fun _ _ i _ => (8 - intOf i).toNat)
      case atStart => exact ⟨0, _, by omega, rfl, rfl, H⟩
      case round =>
        obtain ⟨m, z, hm, rfl, rfl, HI⟩ := hrel
        by_cases hm2 : m < 8
        · have b2 : decide ((m : Int) < 8) = true := by simp; omega
          obtain ⟨⟨xs, hown, hxs⟩, hb⟩ := HI.out
          go_wp2_with (at_builtin; refine halt ?_)
          refine unhalt ?_
          refine wpList_append_mine rfl (.tmp 18) (.tmp 21) 236 rfl w.heap.size 5 i0 _ 1 1 Tryz.underlying236 hi hz0 hz1 hz2 rfl (by decide) _ (8 * k + m) xs rfl
            (own_below hown (below_alloc (Below.refl _ _) _)) ⟨wr.heap.size, 0, none⟩ 1 1 [.int .u8 (z % 256)] rfl rfl (lit_news (o := 0) (cs := #[.int .u8 (z % 256)]) (Blk.made _ _ _))
            (by intro u hu; simp at hu; subst hu; rfl) (by omega) (by unfold maxLen; omega) (by omega) (by simp; have := hb.size; omega) ?_
          intro g cap2 w3 hown3 hg3
          have hb3 : Below w.heap.size w w3 := below_grown (w := w) (w1 := wr.alloc _) (by (repeat (first | with_reducible exact Below.refl _ _ | with_reducible assumption | with_reducible refine Below.setCell ?_ (by first | (simp; done) | (simp; omega)) _ | with_reducible refine below_alloc ?_ _ | with_reducible refine below_drewN ?_ _ | with_reducible refine Below.drew ?_ | with_reducible refine below_step ?_ (by assumption)))) hg3 (fun j hj => own_row_ge hown j hj)
          have H3 : Hid (Bytes w3 w.heap.size (.slice (some ⟨g, 0, none⟩) (8 * k + m + 1) cap2) (8 * k + (m + 1)) ∧ Below w.heap.size w w3) := Lib.hid ⟨⟨_, hown3, fun u hu => by
            rcases List.mem_append.1 hu with hu | hu
            · exact hxs u hu
            · simp at hu; exact ⟨_, hu⟩⟩, hb3⟩
          clear hown3 hg3 hb3 hown hb
          go_wp2_with fail
          exact ⟨⟨m + 1, _, by omega, by simp, rfl, H3⟩, by simp [intOf]; omega⟩
        · have b2 : decide ((m : Int) < 8) = false := by simp; omega
          obtain rfl : m = 8 := by omega
          go_wp2_with fail
          exact ⟨⟨k + 1, by omega, by simp, HI⟩, by simp [intOf]; omega⟩
    · have b1 : decide ((k : Int) < n) = false := by simp; omega
      obtain ⟨⟨xs, hown, hxs⟩, hb⟩ := H.out
      have HR := Lib.hid (RowAt.of_own hown)
      have HB := Lib.hid hb
      clear hown hb
      go_wp2_with fail
      go_at_call 188
      refine (bytes_any _ _ _ xs hxs _ HR.out (by omega)).mono ?_
      rintro e w2 ⟨x, rfl, hb2⟩
      go_wp2_with fail
      refine bodyPost_ret (results_tmp rfl _ _ _) rfl ⟨_, rfl, below_step HB.out hb2⟩
end Go.Proofs.YtoidjgongafnkaaGreatDoor
namespace Go.Proofs.YtoidjgongafnkaaGreatDoor
open Go.RowKit

theorem flat_get {α : Type} (f : Nat → List α) (sz : Nat) (hf : ∀ i, (f i).length = sz) : ∀ (n k j : Nat), k < n → j < sz → ((List.range n).flatMap f)[k * sz + j]? = (f k)[j]? := by
  intro n
  induction n with
  | zero => intro k j hk; omega
  | succ n ih =>
    intro k j hk hj
    have hlen : ((List.range n).flatMap f).length = n * sz := by
      rw [List.length_flatMap]
      clear ih hk
      induction n with
      | zero => simp
      | succ n ih2 => rw [List.range_succ, List.map_append, List.sum_append, ih2]; simp [hf, Nat.succ_mul]
    rw [List.range_succ, List.flatMap_append]
    by_cases hk2 : k < n
    · rw [List.getElem?_append_left (by rw [hlen]; calc k * sz + j < k * sz + sz := by omega
                                              _ = (k + 1) * sz := by rw [Nat.succ_mul]
                                              _ ≤ n * sz := Nat.mul_le_mul_right _ hk2)]
      exact ih k j hk2 hj
    · obtain rfl : k = n := by omega
      rw [List.getElem?_append_right (by omega), hlen]
      simp
theorem flat_succ {α : Type} (f : Nat → List α) (n : Nat) : (List.range (n + 1)).flatMap f = (List.range n).flatMap f ++ f n := by rw [List.range_succ, List.flatMap_append]; simp

/-- The pages that are written, 96 and so on. -/
def pgCells (n : Nat) : List Value := (List.range n).flatMap fun i : Nat => (pgVals (96 + (i : Int))).toList
/-- The pages that were seen. -/
def seenCells (n : Nat) : List Value := (List.range n).flatMap fun i : Nat => [.int .i64 (101 + (i : Int)), .int .u64 256]
/-- The members. -/
def memCells (n : Nat) : List Value := (List.range n).flatMap fun i : Nat => [.int .i64 (i : Int), .int .i64 1, .bool true]
theorem pg_cell {w : World} {lo g n cap : Nat} (h : w.ownsRow lo 36 9 (.slice (some ⟨g, 0, none⟩) n cap) n (pgCells n)) (k : Nat) (hk : k < n) (j : Nat) (hj : j < 9) : w.cell? ⟨g, k * 9 + j, none⟩ = (pgVals (96 + (k : Int)))[j]? := by
  have h1 := flat_get (fun i : Nat => (pgVals (96 + (i : Int))).toList) 9 (fun _ => rfl) n k j hk hj
  have h2 : (pgVals (96 + (k : Int)))[j]? = some ((pgVals (96 + (k : Int)))[j]'(by simpa [pgVals] using hj)) := Array.getElem?_eq_getElem _
  rw [h2]
  refine own_cells h _ _ ?_
  unfold pgCells
  rw [h1, ← h2]
  simp
theorem seen_cell {w : World} {lo g n cap : Nat} (h : w.ownsRow lo 38 2 (.slice (some ⟨g, 0, none⟩) n cap) n (seenCells n)) (k : Nat) (hk : k < n) : w.cell? ⟨g, k * 2, none⟩ = some (.int .i64 (101 + (k : Int))) ∧ w.cell? ⟨g, k * 2 + 1, none⟩ = some (.int .u64 256) := by
  have h1 := flat_get (fun i : Nat => [Value.int .i64 (101 + (i : Int)), Value.int .u64 256]) 2 (fun _ => rfl) n k
  exact ⟨own_cells h (k * 2) _ ((h1 0 hk (by omega)).trans rfl), own_cells h _ _ ((h1 1 hk (by omega)).trans rfl)⟩
theorem mem_cell {w : World} {lo g n cap : Nat} (h : w.ownsRow lo 75 3 (.slice (some ⟨g, 0, none⟩) n cap) n (memCells n)) (k : Nat) (hk : k < n) : w.cell? ⟨g, k * 3, none⟩ = some (.int .i64 (k : Int)) ∧ w.cell? ⟨g, k * 3 + 1, none⟩ = some (.int .i64 1) ∧ w.cell? ⟨g, k * 3 + 2, none⟩ = some (.bool true) := by
  have h1 := flat_get (fun i : Nat => [Value.int .i64 (i : Int), Value.int .i64 1, Value.bool true]) 3 (fun _ => rfl) n k
  exact ⟨own_cells h (k * 3) _ ((h1 0 hk (by omega)).trans rfl), own_cells h _ _ ((h1 1 hk (by omega)).trans rfl), own_cells h _ _ ((h1 2 hk (by omega)).trans rfl)⟩

/-- logrec.Valid's test of a page's line. -/
theorem inLines_ok (l lines : Int) (h1 : 96 ≤ l) (h2 : l < lines) (c : Nat) (w : World) (hc : w.cell? ⟨c, 0, none⟩ = some (.int .i64 lines)) (hlt : c < w.heap.size) :
    Calls Tryz.prog 63 #[.agg (pgVals l), .pointer (some ⟨c, 0, none⟩)] w fun e w' => e = .returned (.bool false) ∧ Below w.heap.size w w' := by
  unfold pgVals
  have b1 : decide (l < 96) = false := by simp; omega
  have b2 : decide (lines ≤ l) = false := by simp; omega
  go_enter Tryz.func63, Tryz.ntmps63
  go_wp2_with fail
  refine bodyPost_ret (results_tmp rfl _ _ _) rfl ⟨rfl, by (repeat (first | with_reducible exact Below.refl _ _ | with_reducible assumption | with_reducible refine Below.setCell ?_ (by first | (simp; done) | (simp; omega)) _ | with_reducible refine below_alloc ?_ _ | with_reducible refine below_drewN ?_ _ | with_reducible refine Below.drew ?_ | with_reducible refine below_step ?_ (by assumption)))⟩
end Go.Proofs.YtoidjgongafnkaaGreatDoor
