/- The arguments of bodegalaw31.ExecValid, opened: lists of statements, of lines, of numbers, a job. -/
import Derived.Test.YtcoiehgcfjfhaaaGreatDoorQ38
import Derived.Test.YtcoiehgcfjfhaaaGreatDoorQ39
import Derived.Carry
import Derived.Deep.Slices
set_option linter.all false
set_option maxRecDepth 20000
set_option maxHeartbeats 8000000
namespace Go.Proofs.YtcoiehgcfjfhaaaGreatDoor
open Go.ChangeShapes Go.WideShapes Go.ChangeAt Go.RowKit
instance : Inhabited Sq.St := ⟨Sq.zero 0⟩
theorem cI64 : Tryz.prog.cellsOf 2 = 1 := by kernel_rfl
theorem cU32 : Tryz.prog.cellsOf 49 = 1 := by kernel_rfl
theorem cStm : Tryz.prog.cellsOf 54 = 12 := by kernel_rfl
theorem cLine : Tryz.prog.cellsOf 57 = 9 := by kernel_rfl
theorem cJob : Tryz.prog.cellsOf 28 = 12 := by kernel_rfl
section
variable {H : Type} {enc : TypeId × Value → H} {w : World} {base : Nat} {spare : Nat → Bool} {held : Bool}
set_option maxRecDepth 100000
theorem leafN {t : TypeId} {k : IntKind} (hu : Tryz.prog.underlying t = some (.int k)) (hc : Tryz.prog.cellsOf t = 1) {n : Nat} {L : List Value} {c : Value} {r : Option (DataW H × List MemPlace)} (h : DataW.trod enc Tryz.prog w base spare held n t L = r) (hr : r.isSome = true) (hL : L = [c]) : ∃ z, c = .int k z ∧ (Lit.int k z).wf = true := by
  obtain ⟨y, rfl⟩ := Option.isSome_iff_exists.1 hr
  obtain ⟨z, e, _, hw⟩ := DataW.trod_int hu h
  rw [hL] at e
  simp only [List.cons.injEq, and_true] at e
  exact ⟨z, e, hw⟩
theorem open_cols {fuel : Nat} {a b c : Value} {r : Option (DataW H × List MemPlace)} (h : DataW.trod enc Tryz.prog w base spare held fuel 50 [a, b, c] = r) (hr : r.isSome = true) : ∃ x y z, a = .int .i64 x ∧ b = .int .i64 y ∧ c = .int .i64 z ∧ i64ok x ∧ i64ok y ∧ i64ok z := by
  obtain ⟨y, rfl⟩ := Option.isSome_iff_exists.1 hr
  obtain ⟨xs, m, _, rfl, hl2, hlen, hel⟩ := DataW.trod_array Tryz.underlying50 h
  rw [cI64] at hel
  have ok : ∀ i, i < 3 → (xs[i]?).isSome = true := fun i hi => by rw [List.getElem?_eq_getElem (by omega)]; rfl
  obtain ⟨x, e0, w0⟩ := leafN Tryz.underlying2 cI64 (hel 0 (by omega)) (ok 0 (by omega)) (c := a) rfl
  obtain ⟨y, e1, w1⟩ := leafN Tryz.underlying2 cI64 (hel 1 (by omega)) (ok 1 (by omega)) (c := b) rfl
  obtain ⟨z, e2, w2⟩ := leafN Tryz.underlying2 cI64 (hel 2 (by omega)) (ok 2 (by omega)) (c := c) rfl
  exact ⟨x, y, z, e0, e1, e2, bounds_i64 w0, bounds_i64 w1, bounds_i64 w2⟩
theorem open_cond {fuel : Nat} {a b c : Value} {r : Option (DataW H × List MemPlace)} (h : DataW.trod enc Tryz.prog w base spare held fuel 52 [a, b, c] = r) (hr : r.isSome = true) : ∃ x y z, a = .int .i64 x ∧ b = .int .i64 y ∧ c = .int .i64 z ∧ i64ok x ∧ i64ok y ∧ i64ok z := by
  obtain ⟨y, rfl⟩ := Option.isSome_iff_exists.1 hr
  obtain ⟨y0, y1, y2, n, _, _, h0, h1, h2⟩ := Go.Deep.trod_struct3 Tryz.underlying52 h
  obtain ⟨x, e0, w0⟩ := leafN Tryz.underlying3 cInt h0 rfl (c := a) rfl
  obtain ⟨y, e1, w1⟩ := leafN Tryz.underlying3 cInt h1 rfl (c := b) rfl
  obtain ⟨z, e2, w2⟩ := leafN Tryz.underlying2 cI64 h2 rfl (c := c) rfl
  exact ⟨x, y, z, e0, e1, e2, bounds_i64 w0, bounds_i64 w1, bounds_i64 w2⟩
theorem open_stm {fuel : Nat} {cs : List Value} {x : DataW H × List MemPlace} (h : DataW.trod enc Tryz.prog w base spare held fuel 54 cs = some x) : ∃ s : Sq.St, cs = s.arr.toList ∧ s.Typed := by
  obtain ⟨xs, n, _, rfl, hl, hlen, hf⟩ := DataW.trod_struct Tryz.underlying54 h
  rw [cStm] at hl
  have hlen8 : xs.length = 8 := hlen
  have ok : ∀ i, i < 8 → (xs[i]?).isSome = true := fun i hi => by rw [List.getElem?_eq_getElem (by omega)]; rfl
  match cs, hl with
  | [c0, c1, c2, c3, c4, c5, c6, c7, c8, c9, c10, c11], _ =>
    obtain ⟨z0, e0, w0⟩ := leafN Tryz.underlying3 cInt (hf 0 _ rfl) (ok 0 (by omega)) (c := c0) rfl
    obtain ⟨z1, e1, w1⟩ := leafN Tryz.underlying49 cU32 (hf 1 _ rfl) (ok 1 (by omega)) (c := c1) rfl
    obtain ⟨z2, e2, w2⟩ := leafN Tryz.underlying49 cU32 (hf 2 _ rfl) (ok 2 (by omega)) (c := c2) rfl
    obtain ⟨z3, z4, z5, e3, e4, e5, w3, w4, w5⟩ := open_cols (a := c3) (b := c4) (c := c5) (hf 3 _ rfl) (ok 3 (by omega))
    obtain ⟨z6, e6, w6⟩ := leafN Tryz.underlying3 cInt (hf 4 _ rfl) (ok 4 (by omega)) (c := c6) rfl
    obtain ⟨z7, e7, w7⟩ := leafN Tryz.underlying2 cI64 (hf 5 _ rfl) (ok 5 (by omega)) (c := c7) rfl
    obtain ⟨z8, z9, z10, e8, e9, e10, w8, w9, w10⟩ := open_cond (a := c8) (b := c9) (c := c10) (hf 6 _ rfl) (ok 6 (by omega))
    obtain ⟨z11, e11, w11⟩ := leafN Tryz.underlying3 cInt (hf 7 _ rfl) (ok 7 (by omega)) (c := c11) rfl
    subst e0 e1 e2 e3 e4 e5 e6 e7 e8 e9 e10 e11
    exact ⟨⟨z0, z1, z2, z3, z4, z5, z6, z7, z8, z9, z10, z11⟩, rfl, bounds_i64 w0, bounds_u32 w1, bounds_u32 w2, w3, w4, w5, bounds_i64 w6, bounds_i64 w7, w8, w9, w10, bounds_i64 w11⟩
theorem open_line {fuel : Nat} {cs : List Value} {x : DataW H × List MemPlace} (h : DataW.trod enc Tryz.prog w base spare held fuel 57 cs = some x) : ∃ l : Ln, cs = l.arr.toList ∧ l.Typed := by
  obtain ⟨xs, n, _, rfl, hl, hlen, hf⟩ := DataW.trod_struct Tryz.underlying57 h
  rw [cLine] at hl
  have hlen9 : xs.length = 9 := hlen
  have ok : ∀ i, i < 9 → (xs[i]?).isSome = true := fun i hi => by rw [List.getElem?_eq_getElem (by omega)]; rfl
  match cs, hl with
  | [c0, c1, c2, c3, c4, c5, c6, c7, c8], _ =>
    obtain ⟨z0, e0, w0⟩ := leafN Tryz.underlying3 cInt (hf 0 _ rfl) (ok 0 (by omega)) (c := c0) rfl
    obtain ⟨z1, e1, w1⟩ := leafN Tryz.underlying3 cInt (hf 1 _ rfl) (ok 1 (by omega)) (c := c1) rfl
    obtain ⟨z2, e2, w2⟩ := leafN Tryz.underlying3 cInt (hf 2 _ rfl) (ok 2 (by omega)) (c := c2) rfl
    obtain ⟨z3, e3, w3⟩ := leafN Tryz.underlying3 cInt (hf 3 _ rfl) (ok 3 (by omega)) (c := c3) rfl
    obtain ⟨z4, e4, w4⟩ := leafN Tryz.underlying3 cInt (hf 4 _ rfl) (ok 4 (by omega)) (c := c4) rfl
    obtain ⟨z5, e5, w5⟩ := leafN Tryz.underlying3 cInt (hf 5 _ rfl) (ok 5 (by omega)) (c := c5) rfl
    obtain ⟨z6, e6, w6⟩ := leafN Tryz.underlying2 cI64 (hf 6 _ rfl) (ok 6 (by omega)) (c := c6) rfl
    obtain ⟨z7, e7, w7⟩ := leafN Tryz.underlying2 cI64 (hf 7 _ rfl) (ok 7 (by omega)) (c := c7) rfl
    obtain ⟨z8, e8, w8⟩ := leafN Tryz.underlying2 cI64 (hf 8 _ rfl) (ok 8 (by omega)) (c := c8) rfl
    subst e0 e1 e2 e3 e4 e5 e6 e7 e8
    exact ⟨⟨z0, z1, z2, z3, z4, z5, z6, z7, z8⟩, rfl, bounds_i64 w0, bounds_i64 w1, bounds_i64 w2, bounds_i64 w3, bounds_i64 w4, bounds_i64 w5, bounds_i64 w6, bounds_i64 w7, bounds_i64 w8⟩
theorem open_stms {fuel : Nat} {v : Value} {y : DataW H × List MemPlace} (hf : DataW.trod enc Tryz.prog w base spare held fuel 22 [v] = some y) :
    ∃ pl ms c, v = .slice pl (ms : List Sq.St).length c ∧ StmRow w pl ms ∧ ms.length ≤ maxLen := by
  rcases Go.Deep.open_slice Tryz.underlying22 hf with ⟨h0, _⟩ | ⟨a', len', cap', m, n, D, Pl, h0, hb, hl, hm, hmm, hx, hel⟩
  · simp only [List.cons.injEq, and_true] at h0
    subst h0
    exact ⟨none, [], 0, rfl, ⟨(fun m hm => by cases hm), .inl rfl⟩, by simp⟩
  · simp only [List.cons.injEq, and_true] at h0
    subst h0
    have hlm : len' ≤ m := by rw [hmm]; split <;> omega
    have each : ∀ i, i < len' → ∃ s : Sq.St, s.Typed ∧ ∀ (j : Nat) u, s.arr[j]? = some u → w.cell? (a'.add (i * 12 + j)) = some u := by
      intro i hi
      obtain ⟨cs', h1, h2⟩ := hel i (by omega)
      rw [cStm] at h1
      obtain ⟨_, hlen, hcell⟩ := World.cells?_some h1
      obtain ⟨s, hs, hty⟩ := open_stm h2
      refine ⟨s, hty, fun j u hu => ?_⟩
      have hj : j < 12 := by have := (Array.getElem?_eq_some_iff.1 hu).1; simpa [Sq.St.arr] using this
      have h3 := hcell j hj
      rw [Go.Deep.add_add] at h3
      rw [h3, hs]
      simpa using hu
    obtain ⟨f, hfm⟩ := Go.Deep.choose_lt each
    refine ⟨some a', (List.range len').map f, cap', by simp, ⟨fun s hs => ?_, ?_⟩, by simp; omega⟩
    · obtain ⟨i, hi, rfl⟩ := List.mem_map.1 hs
      exact (hfm i (List.mem_range.1 hi)).1
    · by_cases hz : len' = 0
      · left; rw [hz]; rfl
      · right
        have h00 := (hfm 0 (by omega)).2 0 _ rfl
        obtain ⟨b, o, spot⟩ := a'
        have hspot : spot = none := by simpa [Addr.add] using World.cell?_spot h00
        subst hspot
        refine ⟨b, o, rfl, ?_, fun i s hi j u hu => ?_⟩
        · rw [Addr.add_lit] at h00
          exact World.block_lt_of_cell? _ _ h00
        · have hil : i < len' := by have := (List.getElem?_eq_some_iff.1 hi).1; simpa using this
          have he : f i = s := by simpa [hil] using hi
          have q0 := (hfm i hil).2 j u (by rw [he]; exact hu)
          rw [Addr.add_lit] at q0
          rw [← q0]
          congr 2
          omega
theorem open_lines {fuel : Nat} {v : Value} {y : DataW H × List MemPlace} (hf : DataW.trod enc Tryz.prog w base spare held fuel 29 [v] = some y) :
    ∃ pl ms c, v = .slice pl (ms : List Ln).length c ∧ LnRow w pl ms ∧ ms.length ≤ maxLen := by
  rcases Go.Deep.open_slice Tryz.underlying29 hf with ⟨h0, _⟩ | ⟨a', len', cap', m, n, D, Pl, h0, hb, hl, hm, hmm, hx, hel⟩
  · simp only [List.cons.injEq, and_true] at h0
    subst h0
    exact ⟨none, [], 0, rfl, ⟨(fun m hm => by cases hm), .inl rfl⟩, by simp⟩
  · simp only [List.cons.injEq, and_true] at h0
    subst h0
    have hlm : len' ≤ m := by rw [hmm]; split <;> omega
    have each : ∀ i, i < len' → ∃ s : Ln, s.Typed ∧ ∀ (j : Nat) u, s.arr[j]? = some u → w.cell? (a'.add (i * 9 + j)) = some u := by
      intro i hi
      obtain ⟨cs', h1, h2⟩ := hel i (by omega)
      rw [cLine] at h1
      obtain ⟨_, hlen, hcell⟩ := World.cells?_some h1
      obtain ⟨s, hs, hty⟩ := open_line h2
      refine ⟨s, hty, fun j u hu => ?_⟩
      have hj : j < 9 := by have := (Array.getElem?_eq_some_iff.1 hu).1; simpa [Ln.arr] using this
      have h3 := hcell j hj
      rw [Go.Deep.add_add] at h3
      rw [h3, hs]
      simpa using hu
    obtain ⟨f, hfm⟩ := Go.Deep.choose_lt each
    refine ⟨some a', (List.range len').map f, cap', by simp, ⟨fun s hs => ?_, ?_⟩, by simp; omega⟩
    · obtain ⟨i, hi, rfl⟩ := List.mem_map.1 hs
      exact (hfm i (List.mem_range.1 hi)).1
    · by_cases hz : len' = 0
      · left; rw [hz]; rfl
      · right
        have h00 := (hfm 0 (by omega)).2 0 _ rfl
        obtain ⟨b, o, spot⟩ := a'
        have hspot : spot = none := by simpa [Addr.add] using World.cell?_spot h00
        subst hspot
        refine ⟨b, o, rfl, ?_, fun i s hi j u hu => ?_⟩
        · rw [Addr.add_lit] at h00
          exact World.block_lt_of_cell? _ _ h00
        · have hil : i < len' := by have := (List.getElem?_eq_some_iff.1 hi).1; simpa using this
          have he : f i = s := by simpa [hil] using hi
          have q0 := (hfm i hil).2 j u (by rw [he]; exact hu)
          rw [Addr.add_lit] at q0
          rw [← q0]
          congr 2
          omega
theorem open_accs {fuel : Nat} {v : Value} {y : DataW H × List MemPlace} (hf : DataW.trod enc Tryz.prog w base spare held fuel 23 [v] = some y) :
    ∃ pl ms c, v = .slice pl (ms : List Int).length c ∧ AskRow w pl ms ∧ ms.length ≤ maxLen := by
  rcases Go.Deep.open_slice Tryz.underlying23 hf with ⟨h0, _⟩ | ⟨a', len', cap', m, n, D, Pl, h0, hb, hl, hm, hmm, hx, hel⟩
  · simp only [List.cons.injEq, and_true] at h0
    subst h0
    exact ⟨none, [], 0, rfl, ⟨(fun m hm => by cases hm), .inl rfl⟩, by simp⟩
  · simp only [List.cons.injEq, and_true] at h0
    subst h0
    have hlm : len' ≤ m := by rw [hmm]; split <;> omega
    have each : ∀ i, i < len' → ∃ z : Int, i64ok z ∧ w.cell? (a'.add i) = some (.int .i64 z) := by
      intro i hi
      obtain ⟨cs', h1, h2⟩ := hel i (by omega)
      rw [cInt] at h1
      obtain ⟨_, hlen, hcell⟩ := World.cells?_some h1
      obtain ⟨z, e, _, hw⟩ := DataW.trod_int Tryz.underlying3 h2
      have h3 := hcell 0 (by omega)
      rw [Go.Deep.add_add] at h3
      refine ⟨z, bounds_i64 hw, ?_⟩
      rw [e] at h3
      simpa using h3
    obtain ⟨f, hfm⟩ := Go.Deep.choose_lt each
    refine ⟨some a', (List.range len').map f, cap', by simp, ⟨fun s hs => ?_, ?_⟩, by simp; omega⟩
    · obtain ⟨i, hi, rfl⟩ := List.mem_map.1 hs
      exact (hfm i (List.mem_range.1 hi)).1
    · by_cases hz : len' = 0
      · left; rw [hz]; rfl
      · right
        have h00 := (hfm 0 (by omega)).2
        obtain ⟨b, o, spot⟩ := a'
        have hspot : spot = none := by simpa [Addr.add] using World.cell?_spot h00
        subst hspot
        refine ⟨b, o, rfl, ?_, fun i s hi => ?_⟩
        · rw [Addr.add_lit] at h00
          exact World.block_lt_of_cell? _ _ h00
        · have hil : i < len' := by have := (List.getElem?_eq_some_iff.1 hi).1; simpa using this
          have he : f i = s := by simpa [hil] using hi
          have q0 := (hfm i hil).2
          rw [Addr.add_lit, he] at q0
          exact q0
theorem open_vec {fuel : Nat} {a b c d e f : Value} {r : Option (DataW H × List MemPlace)} (h : DataW.trod enc Tryz.prog w base spare held fuel 26 [a, b, c, d, e, f] = r) (hr : r.isSome = true) : ∃ x0 x1 x2 x3 x4 x5, a = .int .u64 x0 ∧ b = .int .u64 x1 ∧ c = .int .u64 x2 ∧ d = .int .u64 x3 ∧ e = .int .u64 x4 ∧ f = .int .u64 x5 := by
  obtain ⟨y, rfl⟩ := Option.isSome_iff_exists.1 hr
  obtain ⟨xs, m, _, rfl, hl2, hlen, hel⟩ := DataW.trod_array Tryz.underlying26 h
  rw [cWord] at hel
  have ok : ∀ i, i < 6 → (xs[i]?).isSome = true := fun i hi => by rw [List.getElem?_eq_getElem (by omega)]; rfl
  obtain ⟨x0, e0, _⟩ := leafN Tryz.underlying24 cWord (hel 0 (by omega)) (ok 0 (by omega)) (c := a) rfl
  obtain ⟨x1, e1, _⟩ := leafN Tryz.underlying24 cWord (hel 1 (by omega)) (ok 1 (by omega)) (c := b) rfl
  obtain ⟨x2, e2, _⟩ := leafN Tryz.underlying24 cWord (hel 2 (by omega)) (ok 2 (by omega)) (c := c) rfl
  obtain ⟨x3, e3, _⟩ := leafN Tryz.underlying24 cWord (hel 3 (by omega)) (ok 3 (by omega)) (c := d) rfl
  obtain ⟨x4, e4, _⟩ := leafN Tryz.underlying24 cWord (hel 4 (by omega)) (ok 4 (by omega)) (c := e) rfl
  obtain ⟨x5, e5, _⟩ := leafN Tryz.underlying24 cWord (hel 5 (by omega)) (ok 5 (by omega)) (c := f) rfl
  exact ⟨x0, x1, x2, x3, x4, x5, e0, e1, e2, e3, e4, e5⟩
theorem open_job {r : Reach} {b0 : Nat} {v : Value} {d : DataW H} {p : List MemPlace} (hv : Value.okWide Tryz.prog w r b0 28 v) (h : DataW.Trod enc Tryz.prog w base spare held 28 v d p) :
    ∃ (j : Jb) (q qa : Option Addr) (c ca : Nat), v = .agg (j.cells (.slice q j.prog.length c) (.slice qa j.acc.length ca)) ∧ StmRow w q j.prog ∧ AskRow w qa j.acc ∧ j.prog.length ≤ maxLen ∧ j.acc.length ≤ maxLen ∧ i64ok j.client ∧ i64ok j.seq ∧ i64ok j.lines := by
  obtain ⟨cs, rfl, hsz⟩ := okWide_struct Tryz.underlying28 hv
  obtain ⟨fuel, hf0⟩ := h
  have hf1 : DataW.trod enc Tryz.prog w base spare held fuel 28 cs.toList = some (d, p) := by simpa [Value.cells] using hf0
  obtain ⟨xs, n, _, hx, hl, hlen, hf⟩ := DataW.trod_struct Tryz.underlying28 hf1
  rw [cJob] at hl
  have hlen7 : xs.length = 7 := hlen
  have ok : ∀ i, i < 7 → (xs[i]?).isSome = true := fun i hi => by rw [List.getElem?_eq_getElem (by omega)]; rfl
  obtain ⟨L⟩ := cs
  match L, hl with
  | [c0, c1, c2, c3, c4, c5, c6, c7, c8, c9, c10, c11], _ =>
    obtain ⟨z0, e0, w0⟩ := leafN Tryz.underlying3 cInt (hf 0 _ rfl) (ok 0 (by omega)) (c := c0) rfl
    obtain ⟨z1, e1, w1⟩ := leafN Tryz.underlying3 cInt (hf 1 _ rfl) (ok 1 (by omega)) (c := c1) rfl
    obtain ⟨z2, e2, w2⟩ := leafN Tryz.underlying3 cInt (hf 2 _ rfl) (ok 2 (by omega)) (c := c2) rfl
    obtain ⟨y3, hy3⟩ := Option.isSome_iff_exists.1 (ok 3 (by omega))
    obtain ⟨y4, hy4⟩ := Option.isSome_iff_exists.1 (ok 4 (by omega))
    obtain ⟨y5, hy5⟩ := Option.isSome_iff_exists.1 (ok 5 (by omega))
    obtain ⟨q, ms, c, e3, hr, hm⟩ := open_stms (v := c3) ((hf 3 _ rfl).trans hy3)
    obtain ⟨qa, as_, ca, e4, ha, hma⟩ := open_accs (v := c4) ((hf 4 _ rfl).trans hy4)
    obtain ⟨b, e5, _⟩ := DataW.trod_bool Tryz.underlying4 ((hf 5 _ rfl).trans hy5)
    have e5' : [c5] = [Value.bool b] := e5
    simp only [List.cons.injEq, and_true] at e5'
    obtain ⟨x0, x1, x2, x3, x4, x5, e6, e7, e8, e9, e10, e11⟩ := open_vec (a := c6) (b := c7) (c := c8) (d := c9) (e := c10) (f := c11) (hf 6 _ rfl) (ok 6 (by omega))
    subst e0 e1 e2 e3 e4 e5' e6 e7 e8 e9 e10 e11
    exact ⟨⟨z0, z1, z2, ms, as_, b, x0, x1, x2, x3, x4, x5⟩, q, qa, c, ca, rfl, hr, ha, hm, hma, bounds_i64 w0, bounds_i64 w1, bounds_i64 w2⟩
end
theorem laidOutA : laidOutB Tryz.prog = true := by kernel_rfl
theorem reads_again {H : Type} {enc : TypeId × Value → H} {t : TypeId} (hr : Tryz.prog.readableRec t = true) (hrow : t < Tryz.prog.types.size) {W W' : World} {v : Value} {d : DataW H} {ps : List MemPlace} (h : DataW.Trod enc Tryz.prog W 0 (fun _ => true) true t v d ps)
    (hb : Below W.heap.size W W') (hlt : ∀ p ∈ ps, p.block < W.heap.size) {sp : Nat → Bool} (hs : ∀ p ∈ ps, sp p.block = true) : DataW.Trod enc Tryz.prog W' 0 sp true t v d ps :=
  WideElems.Trod_stays laidOutA hr hrow h (fun x hx => hb.same (hlt x hx)) hs
set_option maxRecDepth 100000
theorem gNone : Tryz.prog.globalNamed "bodega/btree.none" = some 1 := by kernel_rfl
theorem gNoneType : (Tryz.prog.globals[1]?).map (·.type) = some 154 := by kernel_rfl
theorem hNone : Tryz.prog.globalNamed "bodega/hashindex.none" = some 2 := by kernel_rfl
theorem hNoneType : (Tryz.prog.globals[2]?).map (·.type) = some 154 := by kernel_rfl
theorem two_cells {H : Type} {enc : TypeId × Value → H} {P : Program} (hP : P = Tryz.prog) {W : World} {base fuel : Nat} {spare : Nat → Bool} {held : Bool} {cs : List Value} {x : DataW H × List MemPlace} (hd : DataW.trod enc P W base spare held fuel 154 cs = some x)
    (hx : ∀ a b, x.1 = .agg [.lit (.int .i64 a), .lit (.int .i64 b)] → a = 0 ∧ b = 0) : cs[0]? = some (.int .i64 0) ∧ cs[1]? = some (.int .i64 0) := by
  subst hP
  obtain ⟨y0, y1, n, hx1, hl, h0, h1⟩ := Go.ChangeShapes.trod_struct2 Tryz.underlying154 hd
  obtain ⟨a, e0, rfl, _⟩ := DataW.trod_int Tryz.underlying3 h0
  obtain ⟨b, e1, rfl, _⟩ := DataW.trod_int Tryz.underlying3 h1
  obtain ⟨rfl, rfl⟩ := hx a b (by rw [hx1])
  rw [cInt] at e0 e1
  refine ⟨?_, ?_⟩
  · have := congrArg (·[0]?) e0
    simpa [List.getElem?_take, List.getElem?_drop] using this
  · have := congrArg (·[0]?) e1
    simpa [List.getElem?_take, List.getElem?_drop] using this
theorem nones_at (W : World) (h : laidMetH Tryz.prog [("bodega/hashindex.none", Rows.laid_bodega_hashindex_none), ("bodega/btree.none", Rows.laid_bodega_btree_none)] W) : NoneAt W ∧ HNone W := by
  have h' : laidMet Tryz.prog [("bodega/hashindex.none", Rows.laid_bodega_hashindex_none), ("bodega/btree.none", Rows.laid_bodega_btree_none)] W := h
  obtain ⟨ps, ⟨g, t, cs, fuel, p, q, hg, ht, hvar, hd, hr2, _⟩, _⟩ := h'
  obtain ⟨g2, t2, cs2, fuel2, p2, q2, hg2, ht2, hvar2, hd2, _, _⟩ := hr2
  obtain rfl := Option.some.inj (hNone.symm.trans hg)
  obtain rfl := Option.some.inj (hNoneType.symm.trans ht)
  obtain rfl := Option.some.inj (gNone.symm.trans hg2)
  obtain rfl := Option.some.inj (gNoneType.symm.trans ht2)
  obtain ⟨h0, h1⟩ := two_cells rfl hd (by intro a b e; simpa [Rows.laid_bodega_hashindex_none, eq_comm] using e)
  obtain ⟨b0, b1⟩ := two_cells rfl hd2 (by intro a b e; simpa [Rows.laid_bodega_btree_none, eq_comm] using e)
  have k0 : W.cell? ⟨2, 0, none⟩ = some (.int .i64 0) := (World.var?_cell hg hvar 0).trans (by simpa using h0)
  have k1 : W.cell? ⟨2, 1, none⟩ = some (.int .i64 0) := (World.var?_cell hg hvar 1).trans (by simpa using h1)
  have l0 : W.cell? ⟨1, 0, none⟩ = some (.int .i64 0) := (World.var?_cell hg2 hvar2 0).trans (by simpa using b0)
  have l1 : W.cell? ⟨1, 1, none⟩ = some (.int .i64 0) := (World.var?_cell hg2 hvar2 1).trans (by simpa using b1)
  have hl := World.block_lt_of_cell? _ _ l0
  exact ⟨⟨l0, l1, hl, by omega⟩, ⟨k0, k1, World.block_lt_of_cell? _ _ k0⟩⟩
end Go.Proofs.YtcoiehgcfjfhaaaGreatDoor
