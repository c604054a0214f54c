/- executor.Valid: which jobs can be executed. -/
import Derived.Test.YtcoiehgcfjfhaaaGreatDoorQ12
import Derived.Test.YtcoiehgcfjfhaaaGreatDoorQ02
import Derived.Test.YtcoiehgcfjfhaaaGreatDoorQ06
import Derived.Test.YtcoiehgcfjfhaaaGreatDoorQ03
import Derived.Test.YtcoiehgcfjfhaaaGreatDoorQ09
set_option linter.all false
set_option maxRecDepth 20000
set_option maxHeartbeats 8000000
open Go.Lib (hid)
namespace Go.Proofs.YtcoiehgcfjfhaaaGreatDoor
open Go.RowKit
theorem exWrites (s : Sq.St) (w : World) : Calls Tryz.prog 18 #[.agg s.arr] w fun e w' => e = .returned (.bool s.wr) ∧ Below w.heap.size w w' := by
  unfold Sq.St.arr Sq.St.wr
  cases h1 : decide (1 ≤ s.kind)
  · go_enter Tryz.func18, Tryz.ntmps18
    go_wp2_with fail
    exact bodyPost_ret (results_tmp rfl _ _ _) rfl ⟨rfl, qL⟩
  · cases h2 : decide (s.kind ≤ 4)
    · go_enter Tryz.func18, Tryz.ntmps18
      go_wp2_with fail
      exact bodyPost_ret (results_tmp rfl _ _ _) rfl ⟨rfl, qL⟩
    · go_enter Tryz.func18, Tryz.ntmps18
      go_wp2_with fail
      exact bodyPost_ret (results_tmp rfl _ _ _) rfl ⟨rfl, qL⟩
structure AskRow (w : World) (p : Option Addr) (xs : List Int) : Prop where
  typed : ∀ a ∈ xs, i64ok a
  row : xs = [] ∨ ∃ b o, p = some ⟨b, o, none⟩ ∧ b < w.heap.size ∧ ∀ (i : Nat) (a : Int), xs[i]? = some a → w.cell? ⟨b, o + i, none⟩ = some (.int .i64 a)
theorem AskRow.below {w w' : World} {p : Option Addr} {xs : List Int} (h : AskRow w p xs) (hb : Below w.heap.size w w') : AskRow w' p xs := by
  refine ⟨h.typed, ?_⟩
  rcases h.row with h1 | ⟨b, o, hp, hlt, hc⟩
  · exact .inl h1
  · exact .inr ⟨b, o, hp, Nat.lt_of_lt_of_le hlt hb.size, fun i a hi => (hb.cell (p := ⟨b, o + i, none⟩) hlt).trans (hc i a hi)⟩
theorem format_any (p : Option Addr) (c n : Nat) (l : List Sq.St) (hl : l.length = n) (hn : n ≤ maxLen) (w : World) (hr : StmRow w p l) : Calls Tryz.prog 16 #[.slice p n c] w (FmtPost l w) := by
  by_cases h : n < 1 ∨ 8 < n
  · exact format_len p c n l hl h hn w
  · rcases hr.row with h0 | ⟨b, o, rfl, hlt, hc⟩
    · subst h0
      simp at hl
      omega
    · exact format_some b o c n l hl (by omega) (by omega) w hr.typed hlt hc
structure Jb where
  client : Int
  seq : Int
  lines : Int
  prog : List Sq.St
  acc : List Int
  snap : Bool
  v0 : Int
  v1 : Int
  v2 : Int
  v3 : Int
  v4 : Int
  v5 : Int
def Jb.cells (j : Jb) (vp va : Value) : Array Value := #[.int .i64 j.client, .int .i64 j.seq, .int .i64 j.lines, vp, va, .bool j.snap, .int .u64 j.v0, .int .u64 j.v1, .int .u64 j.v2, .int .u64 j.v3, .int .u64 j.v4, .int .u64 j.v5]
def Jb.head (j : Jb) : Bool := !decide (j.client < 0) && !decide (6 ≤ j.client) && !decide (j.seq < 1) && !decide (1073741824 ≤ j.seq) && !decide (j.lines < 104) && !decide (256 < j.lines)
def Sq.St.fit (s : Sq.St) (a : Int) (snap : Bool) : Bool := !((s.range && (a != 3)) || (!s.range && !(a == 1 || a == 2)) || (snap && s.wr))
def fits (l : List Sq.St) (r : List Int) (b : Bool) : Bool := (l.zip r).all (fun x => x.1.fit x.2 b)
def Jb.ok (j : Jb) : Bool := j.head && Sq.good j.prog && decide (j.acc.length = j.prog.length) && fits j.prog j.acc j.snap
theorem fits_take (b : Bool) (l : List Sq.St) (r : List Int) (k : Nat) (s : Sq.St) (a : Int) (h1 : l[k]? = some s) (h2 : r[k]? = some a) : fits (l.take (k + 1)) (r.take (k + 1)) b = (fits (l.take k) (r.take k) b && s.fit a b) := by
  unfold fits
  have hz : (l.zip r)[k]? = some (s, a) := List.getElem?_zip_eq_some.2 ⟨h1, h2⟩
  obtain ⟨hk, he⟩ := List.getElem?_eq_some_iff.1 hz
  have hzt : ∀ m, (l.take m).zip (r.take m) = (l.zip r).take m := fun m => by simp only [List.zip_eq_zipWith, List.take_zipWith]
  rw [hzt, hzt, List.take_succ_eq_append_getElem hk, List.all_append, he]
  simp
theorem fits_false (b : Bool) (l : List Sq.St) (r : List Int) (k : Nat) (s : Sq.St) (a : Int) (h1 : l[k]? = some s) (h2 : r[k]? = some a) (h : s.fit a b = false) : fits l r b = false := by
  unfold fits
  have hz : (l.zip r)[k]? = some (s, a) := List.getElem?_zip_eq_some.2 ⟨h1, h2⟩
  rw [List.all_eq_false]
  exact ⟨(s, a), List.mem_of_getElem? hz, by simp [h]⟩
def VjPost (j : Jb) (w : World) (e : Ending) (w' : World) : Prop := e = .returned (.int .i64 (okCode j.ok)) ∧ Below w.heap.size w w'
structure VjAt (j : Jb) (w : World) (vp va : Value) (wr : World) : Prop where
  box : Blk wr w.heap.size 28 (j.cells vp va)
  below : Below w.heap.size w wr
theorem exValid (j : Jb) (p pa : Option Addr) (c ca n na : Nat) (hn : j.prog.length = n) (hna : j.acc.length = na) (hnm : n ≤ maxLen) (hnam : na ≤ maxLen) (w : World) (hr : StmRow w p j.prog) (ha : AskRow w pa j.acc) :
    Calls Tryz.prog 9 #[.agg (j.cells (.slice p n c) (.slice pa na ca))] w (VjPost j w) := by
  obtain ⟨g, hg⟩ : ∃ g, okCode (Sq.good j.prog) = g := ⟨_, rfl⟩
  have HFM : Hid (∀ W, Below w.heap.size w W → Calls Tryz.prog 16 #[.slice p n c] W fun e w' => (∃ s, e = .returned (.tuple #[.string s, .int .i64 g])) ∧ Below W.heap.size W w') := hid (fun W hb => by
    have h := format_any p c n j.prog hn hnm W (hr.below hb)
    unfold FmtPost at h
    rwa [hg] at h)
  have HIR := hid (fun s W => exIsRange s W)
  have HWR := hid (fun s W => exWrites s W)
  have HJ := hid (And.intro hn (And.intro hna (And.intro hg (And.intro hr ha))))
  obtain ⟨gd, hgd⟩ : ∃ b, Sq.good j.prog = b := ⟨_, rfl⟩
  have hgc : g = okCode gd := by rw [← hg, hgd]
  obtain ⟨HH, hHH⟩ : ∃ b, (j.head && gd && decide (na = n)) = b := ⟨_, rfl⟩
  have HOKe : Hid (j.ok = (HH && fits j.prog j.acc j.snap)) := hid (by unfold Jb.ok; rw [hgd, hn, hna, hHH])
  have HHD := hid (And.intro hHH (And.intro hgd hgc))
  clear hn hna hr ha hg hgd hgc hHH
  obtain ⟨jc, js, jl, jp, ja, jn, v0, v1, v2, v3, v4, v5⟩ := j
  unfold Jb.cells
  simp only at HOKe HHD HJ ⊢
  go_enter Tryz.func9, Tryz.ntmps9
  go_wp2_with fail
  go_at_call 16
  refine (HFM.out _ qL).mono ?_
  rintro e w1 ⟨⟨sx, rfl⟩, hb1⟩
  have BJ : Blk w1 w.heap.size 28 #[.int .i64 jc, .int .i64 js, .int .i64 jl, .slice p n c, .slice pa na ca, .bool jn, .int .u64 v0, .int .u64 v1, .int .u64 v2, .int .u64 v3, .int .u64 v4, .int .u64 v5] := (Blk.made w _ _).kept hb1
  have hbw : Below w.heap.size w w1 := qL
  have HB := hid (And.intro BJ hbw)
  have kj := BJ.cell
  have lj := BJ.lt
  clear BJ hbw hb1
  go_upto_region 2 with (fail)
  go_cut [54] from 14 to 54 (fun c wx => c = .bool (!HH) ∧ wx = w1)
  case first =>
    cases t0 : decide (jc < 0)
    · cases t1 : decide (6 ≤ jc)
      · cases t2 : decide (js < 1)
        · cases t3 : decide (1073741824 ≤ js)
          · cases t4 : decide (jl < 104)
            · cases t5 : decide (256 < jl)
              · cases gd
                · have hg1 : g = 1 := HHD.out.2.2
                  have HE : Hid (HH = false) := hid (by rw [← HHD.out.1]; simp)
                  clear HHD HOKe
                  subst hg1
                  go_wp2_with fail
                  go_meet
                  exact ⟨by rw [HE.out]; rfl, rfl⟩
                · have hg0 : g = 0 := HHD.out.2.2
                  cases tn : ((na : Int) != n)
                  · have hq : na = n := by simp at tn; omega
                    have HE : Hid (HH = true) := hid (by rw [← HHD.out.1, decide_eq_true hq]; simp only [Jb.head, t0, t1, t2, t3, t4, t5]; rfl)
                    clear HHD HOKe hq
                    subst hg0
                    go_wp2_with fail
                    go_meet
                    exact ⟨by rw [HE.out]; rfl, rfl⟩
                  · have hq : ¬(na = n) := by simp at tn; omega
                    have HE : Hid (HH = false) := hid (by rw [← HHD.out.1, decide_eq_false hq]; simp)
                    clear HHD HOKe hq
                    subst hg0
                    go_wp2_with fail
                    go_meet
                    exact ⟨by rw [HE.out]; rfl, rfl⟩
              · have HE : Hid (HH = false) := hid (by rw [← HHD.out.1]; simp only [Jb.head, t0, t1, t2, t3, t4, t5]; simp)
                clear HHD HOKe
                go_wp2_with fail
                go_meet
                exact ⟨by rw [HE.out]; rfl, rfl⟩
            · have HE : Hid (HH = false) := hid (by rw [← HHD.out.1]; simp only [Jb.head, t0, t1, t2, t3, t4]; simp)
              clear HHD HOKe
              go_wp2_with fail
              go_meet
              exact ⟨by rw [HE.out]; rfl, rfl⟩
          · have HE : Hid (HH = false) := hid (by rw [← HHD.out.1]; simp only [Jb.head, t0, t1, t2, t3]; simp)
            clear HHD HOKe
            go_wp2_with fail
            go_meet
            exact ⟨by rw [HE.out]; rfl, rfl⟩
        · have HE : Hid (HH = false) := hid (by rw [← HHD.out.1]; simp only [Jb.head, t0, t1, t2]; simp)
          clear HHD HOKe
          go_wp2_with fail
          go_meet
          exact ⟨by rw [HE.out]; rfl, rfl⟩
      · have HE : Hid (HH = false) := hid (by rw [← HHD.out.1]; simp only [Jb.head, t0, t1]; simp)
        clear HHD HOKe
        go_wp2_with fail
        go_meet
        exact ⟨by rw [HE.out]; rfl, rfl⟩
    · have HE : Hid (HH = false) := hid (by rw [← HHD.out.1]; simp only [Jb.head, t0]; simp)
      clear HHD HOKe
      go_wp2_with fail
      go_meet
      exact ⟨by rw [HE.out]; rfl, rfl⟩
  case rest =>
    obtain ⟨rfl, hw⟩ := hcut
    have hw2 := hw.symm
    clear hw
    subst hw2
    cases HH
    · have HF : Hid (okCode (Jb.ok ⟨jc, js, jl, jp, ja, jn, v0, v1, v2, v3, v4, v5⟩) = 1) := hid (by rw [HOKe.out]; rfl)
      go_wp2_with fail
      exact bodyPost_ret (results_tmp rfl _ _ _) rfl ⟨by rw [HF.out]; rfl, HB.out.2⟩
    · have hna : na = n := by have h := HHD.out.1; simp at h; exact h.2
      subst hna
      have hn8 : 1 ≤ na ∧ na ≤ 8 := by
        have h1 := HHD.out.1
        have h2 := HHD.out.2.1
        have h3 := HJ.out.1
        simp only [Bool.and_eq_true] at h1
        rw [h1.1.2] at h2
        simp only [Sq.good, Bool.and_eq_true, decide_eq_true_eq] at h2
        omega
      obtain ⟨ob, oo, hp, holt, hoc⟩ : ∃ b o, p = some ⟨b, o, none⟩ ∧ b < w.heap.size ∧ ∀ (i : Nat) s, jp[i]? = some s → ∀ (j : Nat) u, s.arr[j]? = some u → w.cell? ⟨b, o + i * 12 + j, none⟩ = some u := by
        rcases HJ.out.2.2.2.1.row with h | h
        · subst h; have := HJ.out.1; simp at this; omega
        · exact h
      obtain ⟨ab, ao, hpa, halt, hac⟩ : ∃ b o, pa = some ⟨b, o, none⟩ ∧ b < w.heap.size ∧ ∀ (i : Nat) (a : Int), ja[i]? = some a → w.cell? ⟨b, o + i, none⟩ = some (.int .i64 a) := by
        rcases HJ.out.2.2.2.2.row with h | h
        · subst h; have := HJ.out.2.1; simp at this; omega
        · exact h
      subst hp hpa
      have HC := hid (And.intro hoc hac)
      clear hoc hac
      go_wp2_with fail
      go_loopw [58] (fun i wr => ∃ (k : Nat), i = .int .i64 k ∧ k ≤ na ∧ Hid (fits (jp.take k) (ja.take k) jn = true ∧ Below w1.heap.size w1 wr)) (fun i _ => ((na : Int) - intOf i).toNat)
      case atStart => exact ⟨0, rfl, by omega, hid ⟨by simp [fits], Below.refl _ _⟩⟩
      case round =>
        obtain ⟨k, rfl, hkn, HR⟩ := hrel
        obtain ⟨w2, hw2⟩ : ∃ w2, w2 = wr := ⟨_, rfl⟩
        subst hw2
        have hwb : Below w.heap.size w w2 := by have h1 := HB.out.2; have h2 := HR.out.2; exact qL
        by_cases hk : k < na
        · have b1 : decide ((k : Int) < na) = true := by simp; omega
          have wk : IntKind.i64.wrap ((k : Int) + 1) = (k : Int) + 1 := by rw [IntKind.wrap_i64]; omega
          have k4 : decide ((k : Int) < 0) = false := by simp
          have k5 : (0 : Int) ≤ k := by omega
          have k6 : (k : Int) < na := by omega
          obtain ⟨s, hs⟩ : ∃ s, jp[k]? = some s := ⟨_, List.getElem?_eq_getElem (by have := HJ.out.1; omega)⟩
          obtain ⟨a, has⟩ : ∃ a, ja[k]? = some a := ⟨_, List.getElem?_eq_getElem (by have := HJ.out.2.1; omega)⟩
          have hcs : ∀ (j : Nat) u, s.arr[j]? = some u → w2.cell? ⟨ob, oo + k * 12 + j, none⟩ = some u := fun j u hu => (hwb.cell (p := ⟨ob, oo + k * 12 + j, none⟩) holt).trans (HC.out.1 k s hs j u hu)
          have ca0 : w2.cell? ⟨ab, ao + k, none⟩ = some (.int .i64 a) := (hwb.cell (p := ⟨ab, ao + k, none⟩) halt).trans (HC.out.2 k a has)
          have d0 : w2.cell? ⟨ob, oo + k * 12, none⟩ = some (.int .i64 s.kind) := hcs 0 _ rfl
          have d1 : w2.cell? ⟨ob, oo + k * 12 + 1, none⟩ = some (.int .u32 s.key) := hcs 1 _ rfl
          have d2 : w2.cell? ⟨ob, oo + k * 12 + 2, none⟩ = some (.int .u32 s.last) := hcs 2 _ rfl
          have d3 : w2.cell? ⟨ob, oo + k * 12 + 3, none⟩ = some (.int .i64 s.c0) := hcs 3 _ rfl
          have d4 : w2.cell? ⟨ob, oo + k * 12 + 4, none⟩ = some (.int .i64 s.c1) := hcs 4 _ rfl
          have d5 : w2.cell? ⟨ob, oo + k * 12 + 5, none⟩ = some (.int .i64 s.c2) := hcs 5 _ rfl
          have d6 : w2.cell? ⟨ob, oo + k * 12 + 6, none⟩ = some (.int .i64 s.col) := hcs 6 _ rfl
          have d7 : w2.cell? ⟨ob, oo + k * 12 + 7, none⟩ = some (.int .i64 s.value) := hcs 7 _ rfl
          have d8 : w2.cell? ⟨ob, oo + k * 12 + 8, none⟩ = some (.int .i64 s.wcol) := hcs 8 _ rfl
          have d9 : w2.cell? ⟨ob, oo + k * 12 + 9, none⟩ = some (.int .i64 s.wop) := hcs 9 _ rfl
          have d10 : w2.cell? ⟨ob, oo + k * 12 + 10, none⟩ = some (.int .i64 s.wval) := hcs 10 _ rfl
          have d11 : w2.cell? ⟨ob, oo + k * 12 + 11, none⟩ = some (.int .i64 s.limit) := hcs 11 _ rfl
          have hob : ob < w2.heap.size := Nat.lt_of_lt_of_le holt hwb.size
          have hab : ab < w2.heap.size := Nat.lt_of_lt_of_le halt hwb.size
          have BJ2 := HB.out.1.kept HR.out.2
          have kj2 := BJ2.cell
          have lj2 := BJ2.lt
          obtain ⟨rg, hrg⟩ : ∃ b, s.range = b := ⟨_, rfl⟩
          obtain ⟨wr2, hwr2⟩ : ∃ b, s.wr = b := ⟨_, rfl⟩
          obtain ⟨ft, hft⟩ : ∃ b, s.fit a jn = b := ⟨_, rfl⟩
          have HRG : Hid (∀ W, Calls Tryz.prog 17 #[.agg #[.int .i64 s.kind, .int .u32 s.key, .int .u32 s.last, .int .i64 s.c0, .int .i64 s.c1, .int .i64 s.c2, .int .i64 s.col, .int .i64 s.value, .int .i64 s.wcol, .int .i64 s.wop, .int .i64 s.wval, .int .i64 s.limit]] W fun e w' => e = .returned (.bool rg) ∧ Below W.heap.size W w') := hid (fun W => by have h := HIR.out s W; rwa [hrg] at h)
          have HWT : Hid (∀ W, Calls Tryz.prog 18 #[.agg #[.int .i64 s.kind, .int .u32 s.key, .int .u32 s.last, .int .i64 s.c0, .int .i64 s.c1, .int .i64 s.c2, .int .i64 s.col, .int .i64 s.value, .int .i64 s.wcol, .int .i64 s.wop, .int .i64 s.wval, .int .i64 s.limit]] W fun e w' => e = .returned (.bool wr2) ∧ Below W.heap.size W w') := hid (fun W => by have h := HWR.out s W; rwa [hwr2] at h)
          have HFT : Hid (ft = !((rg && (a != 3)) || (!rg && !(a == 1 || a == 2)) || (jn && wr2))) := hid (by rw [← hft, ← hrg, ← hwr2]; rfl)
          have HS := hid (And.intro hs (And.intro has hft))
          have HWB := hid hwb
          clear hcs hrg hwr2 hft hs has BJ2 kj
          obtain ⟨pt, hpt⟩ : ∃ b : Bool, ((a == 1) || (a == 2)) = b := ⟨_, rfl⟩
          have HPT := hid hpt
          clear hpt
          go_upto_region 7 with (fail)
          go_cut [7] from 63 to 76 (fun c wx => c = .bool pt ∧ wx = w2.alloc (.cells #[.int .i64 s.kind, .int .u32 s.key, .int .u32 s.last, .int .i64 s.c0, .int .i64 s.c1, .int .i64 s.c2, .int .i64 s.col, .int .i64 s.value, .int .i64 s.wcol, .int .i64 s.wop, .int .i64 s.wval, .int .i64 s.limit] 54))
          case first =>
            cases a1 : (a == 1)
            · cases a2 : (a == 2)
              · have HE : Hid (pt = false) := hid (by rw [← HPT.out, a1, a2]; rfl)
                go_wp2_with fail
                go_meet
                exact ⟨by rw [HE.out], rfl⟩
              · have HE : Hid (pt = true) := hid (by rw [← HPT.out, a1, a2]; rfl)
                go_wp2_with fail
                go_meet
                exact ⟨by rw [HE.out], rfl⟩
            · have HE : Hid (pt = true) := hid (by rw [← HPT.out, a1]; rfl)
              go_wp2_with fail
              go_meet
              exact ⟨by rw [HE.out], rfl⟩
          case rest =>
            obtain ⟨rfl, rfl⟩ := hcut
            clear d0 d1 d2 d3 d4 d5 d6 d7 d8 d9 d10 d11
            go_upto_region 8 with (fail)
            go_cut [103] from 77 to 103 (fun c wx => c = .bool (!ft) ∧ Below w2.heap.size w2 wx)
            case first =>
              cases jn
              · cases rg
                · cases pt
                  · have HE : Hid (ft = false) := hid (by rw [HFT.out, HPT.out]; rfl)
                    clear HFT HPT
                    go_wp2_with fail
                    go_at_call 17
                    refine (HRG.out _).mono ?_
                    rintro e w3 ⟨rfl, hb3⟩
                    ((obtain ⟨hc3, hf3, hs3⟩ := qR hb3); (try have := qN0 w2 w3))
                    have lj3 : w.heap.size < w3.heap.size := by omega
                    clear hf3
                    go_wp2_with fail
                    go_at_call 17
                    refine (HRG.out _).mono ?_
                    rintro e w4 ⟨rfl, hb4⟩
                    ((obtain ⟨hc4, hf4, hs4⟩ := qR hb4); (try have := qN0 w2 w4); (try have := qN0 w3 w4))
                    have lj4 : w.heap.size < w4.heap.size := by omega
                    clear hf4
                    go_wp2_with fail
                    go_meet
                    exact ⟨by rw [HE.out]; rfl, qL⟩
                  · have HE : Hid (ft = true) := hid (by rw [HFT.out, HPT.out]; rfl)
                    clear HFT HPT
                    go_wp2_with fail
                    go_at_call 17
                    refine (HRG.out _).mono ?_
                    rintro e w3 ⟨rfl, hb3⟩
                    ((obtain ⟨hc3, hf3, hs3⟩ := qR hb3); (try have := qN0 w2 w3))
                    have lj3 : w.heap.size < w3.heap.size := by omega
                    clear hf3
                    go_wp2_with fail
                    go_at_call 17
                    refine (HRG.out _).mono ?_
                    rintro e w4 ⟨rfl, hb4⟩
                    ((obtain ⟨hc4, hf4, hs4⟩ := qR hb4); (try have := qN0 w2 w4); (try have := qN0 w3 w4))
                    have lj4 : w.heap.size < w4.heap.size := by omega
                    clear hf4
                    go_wp2_with fail
                    go_meet
                    exact ⟨by rw [HE.out]; rfl, qL⟩
                · cases a3 : (a != 3)
                  · have HE : Hid (ft = true) := hid (by rw [HFT.out, a3]; rfl)
                    clear HFT HPT
                    go_wp2_with fail
                    go_at_call 17
                    refine (HRG.out _).mono ?_
                    rintro e w3 ⟨rfl, hb3⟩
                    ((obtain ⟨hc3, hf3, hs3⟩ := qR hb3); (try have := qN0 w2 w3))
                    have lj3 : w.heap.size < w3.heap.size := by omega
                    clear hf3
                    go_wp2_with fail
                    go_at_call 17
                    refine (HRG.out _).mono ?_
                    rintro e w4 ⟨rfl, hb4⟩
                    ((obtain ⟨hc4, hf4, hs4⟩ := qR hb4); (try have := qN0 w2 w4); (try have := qN0 w3 w4))
                    have lj4 : w.heap.size < w4.heap.size := by omega
                    clear hf4
                    go_wp2_with fail
                    go_meet
                    exact ⟨by rw [HE.out]; rfl, qL⟩
                  · have HE : Hid (ft = false) := hid (by rw [HFT.out, a3]; rfl)
                    clear HFT HPT
                    go_wp2_with fail
                    go_at_call 17
                    refine (HRG.out _).mono ?_
                    rintro e w3 ⟨rfl, hb3⟩
                    ((obtain ⟨hc3, hf3, hs3⟩ := qR hb3); (try have := qN0 w2 w3))
                    have lj3 : w.heap.size < w3.heap.size := by omega
                    clear hf3
                    go_wp2_with fail
                    go_meet
                    exact ⟨by rw [HE.out]; rfl, qL⟩
              · cases rg
                · cases pt
                  · have HE : Hid (ft = false) := hid (by rw [HFT.out, HPT.out]; rfl)
                    clear HFT HPT
                    go_wp2_with fail
                    go_at_call 17
                    refine (HRG.out _).mono ?_
                    rintro e w3 ⟨rfl, hb3⟩
                    ((obtain ⟨hc3, hf3, hs3⟩ := qR hb3); (try have := qN0 w2 w3))
                    have lj3 : w.heap.size < w3.heap.size := by omega
                    clear hf3
                    go_wp2_with fail
                    go_at_call 17
                    refine (HRG.out _).mono ?_
                    rintro e w4 ⟨rfl, hb4⟩
                    ((obtain ⟨hc4, hf4, hs4⟩ := qR hb4); (try have := qN0 w2 w4); (try have := qN0 w3 w4))
                    have lj4 : w.heap.size < w4.heap.size := by omega
                    clear hf4
                    go_wp2_with fail
                    go_meet
                    exact ⟨by rw [HE.out]; rfl, qL⟩
                  · have HE : Hid (ft = !wr2) := hid (by rw [HFT.out, HPT.out]; cases wr2 <;> rfl)
                    clear HFT HPT
                    go_wp2_with fail
                    go_at_call 17
                    refine (HRG.out _).mono ?_
                    rintro e w3 ⟨rfl, hb3⟩
                    ((obtain ⟨hc3, hf3, hs3⟩ := qR hb3); (try have := qN0 w2 w3))
                    have lj3 : w.heap.size < w3.heap.size := by omega
                    clear hf3
                    go_wp2_with fail
                    go_at_call 17
                    refine (HRG.out _).mono ?_
                    rintro e w4 ⟨rfl, hb4⟩
                    ((obtain ⟨hc4, hf4, hs4⟩ := qR hb4); (try have := qN0 w2 w4); (try have := qN0 w3 w4))
                    have lj4 : w.heap.size < w4.heap.size := by omega
                    clear hf4
                    go_wp2_with fail
                    go_at_call 18
                    refine (HWT.out _).mono ?_
                    rintro e w5 ⟨rfl, hb5⟩
                    ((obtain ⟨hc5, hf5, hs5⟩ := qR hb5); (try have := qN0 w2 w5); (try have := qN0 w4 w5))
                    have lj5 : w.heap.size < w5.heap.size := by omega
                    clear hf5
                    go_wp2_with fail
                    go_meet
                    exact ⟨by rw [HE.out, Bool.not_not], qL⟩
                · cases a3 : (a != 3)
                  · have HE : Hid (ft = !wr2) := hid (by rw [HFT.out, a3]; cases wr2 <;> rfl)
                    clear HFT HPT
                    go_wp2_with fail
                    go_at_call 17
                    refine (HRG.out _).mono ?_
                    rintro e w3 ⟨rfl, hb3⟩
                    ((obtain ⟨hc3, hf3, hs3⟩ := qR hb3); (try have := qN0 w2 w3))
                    have lj3 : w.heap.size < w3.heap.size := by omega
                    clear hf3
                    go_wp2_with fail
                    go_at_call 17
                    refine (HRG.out _).mono ?_
                    rintro e w4 ⟨rfl, hb4⟩
                    ((obtain ⟨hc4, hf4, hs4⟩ := qR hb4); (try have := qN0 w2 w4); (try have := qN0 w3 w4))
                    have lj4 : w.heap.size < w4.heap.size := by omega
                    clear hf4
                    go_wp2_with fail
                    go_at_call 18
                    refine (HWT.out _).mono ?_
                    rintro e w5 ⟨rfl, hb5⟩
                    ((obtain ⟨hc5, hf5, hs5⟩ := qR hb5); (try have := qN0 w2 w5); (try have := qN0 w4 w5))
                    have lj5 : w.heap.size < w5.heap.size := by omega
                    clear hf5
                    go_wp2_with fail
                    go_meet
                    exact ⟨by rw [HE.out, Bool.not_not], qL⟩
                  · have HE : Hid (ft = false) := hid (by rw [HFT.out, a3]; rfl)
                    clear HFT HPT
                    go_wp2_with fail
                    go_at_call 17
                    refine (HRG.out _).mono ?_
                    rintro e w3 ⟨rfl, hb3⟩
                    ((obtain ⟨hc3, hf3, hs3⟩ := qR hb3); (try have := qN0 w2 w3))
                    have lj3 : w.heap.size < w3.heap.size := by omega
                    clear hf3
                    go_wp2_with fail
                    go_meet
                    exact ⟨by rw [HE.out]; rfl, qL⟩
            case rest =>
              obtain ⟨rfl, hbc⟩ := hcut
              have HBC := hid (And.intro (below_step hwb hbc) (below_step HR.out.2 hbc))
              clear hbc
              cases ft
              · have HF : Hid (okCode (Jb.ok ⟨jc, js, jl, jp, ja, jn, v0, v1, v2, v3, v4, v5⟩) = 1) := hid (by rw [HOKe.out, fits_false jn jp ja k s a HS.out.1 HS.out.2.1 HS.out.2.2]; rfl)
                go_wp2_with fail
                exact bodyPost_ret (results_tmp rfl _ _ _) rfl ⟨by rw [HF.out]; rfl, HBC.out.1⟩
              · go_wp2_with fail
                exact ⟨⟨k + 1, by simp, by omega, hid ⟨by rw [fits_take jn jp ja k s a HS.out.1 HS.out.2.1, HR.out.1, HS.out.2.2]; rfl, HBC.out.2⟩⟩, by simp [intOf]; omega⟩
        · have b1 : decide ((k : Int) < na) = false := by simp; omega
          obtain rfl : k = na := by omega
          have HG : Hid (okCode (Jb.ok ⟨jc, js, jl, jp, ja, jn, v0, v1, v2, v3, v4, v5⟩) = 0) := hid (by
            have h := HR.out.1
            rw [List.take_of_length_le (by have := HJ.out.1; omega), List.take_of_length_le (by have := HJ.out.2.1; omega)] at h
            rw [HOKe.out, h]; rfl)
          go_wp2_with fail
          exact bodyPost_ret (results_tmp rfl _ _ _) rfl ⟨by rw [HG.out]; rfl, hwb⟩
def pick (n k : Int) : Int := n % k
theorem PgRow.row {w : World} {v : Value} {l : List Bt.Page} (h : PgRow w v l) {k : Nat} (hk : k < l.length) : ∃ g c, v = .slice (some ⟨g, 0, none⟩) l.length c ∧ g < w.heap.size ∧ w.rangeAt g (k * 9) l[k].cells.toList := by
  rcases h.form with ⟨_, rfl⟩ | ⟨b, cap, hv, hlt, hc⟩
  · simp at hk
  · exact ⟨b, cap, hv, hlt, page_cells hc k hk⟩
theorem PgRow.shape {w : World} {v : Value} {l : List Bt.Page} (h : PgRow w v l) : ∃ p c, v = .slice p l.length c := by
  rcases h.form with ⟨rfl, rfl⟩ | ⟨b, cap, rfl, _⟩
  · exact ⟨none, 0, rfl⟩
  · exact ⟨_, _, rfl⟩
def foundPage (l : List Bt.Page) (line : Int) : Bt.Page := (Bt.latest l line).getD Bt.zeroPage
def LatestAt (line : Int) (l : List Bt.Page) (w : World) (k : Nat) (wr : World) : Prop :=
  Blk wr (w.heap.size + 1) 75 (foundPage (l.take k) line).cells ∧ Blk wr w.heap.size 75 Bt.zeroPage.cells ∧ Below w.heap.size w wr
theorem refLatest_any (l : List Bt.Page) (v : Value) (line : Int) (w : World) (hk : PgRow w v l) (hsm : l.length ≤ 1000000) : Calls Tryz.prog 46 #[v, .int .i64 line] w
    fun e w' => e = .returned (.tuple #[.agg (foundPage l line).cells, .bool (Bt.latest l line).isSome]) ∧ Below w.heap.size w w' := by
  obtain ⟨p, c, rfl⟩ := hk.shape
  obtain ⟨n, hn⟩ : ∃ n, l.length = n := ⟨_, rfl⟩
  rw [hn] at hk hsm ⊢
  have HK := hid (And.intro hk hn)
  clear hk hn
  have HZ : Bt.zeroPage.cells = #[.int .i64 0, .int .u64 0, .int .u64 0, .int .u64 0, .int .u64 0, .int .u64 0, .int .u64 0, .int .u64 0, .int .u64 0] := rfl
  go_enter Tryz.func46, Tryz.ntmps46
  go_wp2_with fail
  go_loopw [7, 8] (fun f i wr => ∃ (k : Nat) (b : Bool), k ≤ n ∧ f = .bool b ∧ i = .int .i64 k ∧ Hid (b = (Bt.latest (l.take k) line).isSome ∧ LatestAt line l w k wr)) (fun _ i _ => ((n : Int) - intOf i).toNat)
  case atStart => exact ⟨0, false, by omega, rfl, rfl, hid ⟨by simp [Bt.latest], by rw [List.take_zero]; exact Blk.made' (by simp), (Blk.made _ _ _).alloc _, qL⟩⟩
  case round =>
    obtain ⟨k, b, hkn, rfl, rfl, HR⟩ := hrel
    have hbx := HR.out.2.1
    have hsz := hbx.lt
    by_cases hk2 : k < n
    · have b1 : decide ((k : Int) < n) = true := by simp; omega
      have wk : IntKind.i64.wrap ((k : Int) + 1) = (k : Int) + 1 := by rw [IntKind.wrap_i64]; omega
      have hkl : k < l.length := by have := HK.out.2; omega
      obtain ⟨g, c', hv, hg, hrow⟩ := HK.out.1.row hkl
      have hv2 := hv
      rw [HK.out.2] at hv2
      simp only [Value.slice.injEq, true_and] at hv2
      obtain ⟨rfl, rfl⟩ := hv2
      obtain ⟨x, hx⟩ : ∃ x, l[k] = x := ⟨_, rfl⟩
      have hrow2 : wr.rangeAt g (k * 9) x.cells.toList := fun j u hu => by rw [HR.out.2.2.2.cell (p := ⟨g, k * 9 + j, none⟩) hg]; exact hrow j u (by rw [hx]; exact hu)
      obtain ⟨c0, c1, c2, c3, c4, c5, c6, c7, c8⟩ := nine hrow2
      have hgr : g < wr.heap.size := Nat.lt_of_lt_of_le hg HR.out.2.2.2.size
      have HX : Hid (l.take (k + 1) = l.take k ++ [x]) := hid (by rw [List.take_succ_eq_append_getElem hkl, hx])
      have j2 : decide ((k : Int) < 0) = false := by simp
      have j4 : (0 : Int) ≤ k := by omega
      have j5 : (k : Int) < n := by omega
      obtain ⟨q, hq⟩ : ∃ q, foundPage (l.take k) line = q := ⟨_, rfl⟩
      rw [hq] at hbx
      clear hq
      unfold Bt.Page.cells at hbx
      have kb := hbx.cell
      have fb := hbx.free
      have HBX := hid hbx
      clear hx hrow hrow2 hv hbx
      by_cases he : x.line = line
      · have be : (x.line == line) = true := by simpa using he
        have HE := hid he
        clear he
        go_wp2_with fail
        refine ⟨⟨k + 1, true, by omega, rfl, by simp, hid ⟨?_, ?_, ?_, ?_⟩⟩, by simp [intOf]; omega⟩
        · rw [HX.out]; unfold Bt.latest; rw [List.reverse_append]; simp [HE.out]
        · have e1 : foundPage (l.take (k + 1)) line = x := by rw [HX.out]; unfold foundPage Bt.latest; rw [List.reverse_append]; simp [HE.out]
          rw [e1]
          exact HBX.out.all9 _ _ _ _ _ _ _ _ _
        · have := HR.out.2.2.1
          (repeat (first | with_reducible exact this | with_reducible apply Blk.put | with_reducible apply Blk.alloc | (with_reducible apply Blk.aside; (case hp => first | (simp; done) | (simp; omega))) | with_reducible apply Blk.drew))
        · have := HR.out.2.2.2
          exact qL
      · have be : (x.line == line) = false := by simpa using he
        have HE := hid he
        clear he
        go_wp2_with fail
        have e1 : Bt.latest (l.take (k + 1)) line = Bt.latest (l.take k) line := by rw [HX.out]; unfold Bt.latest; rw [List.reverse_append]; simp [HE.out]
        exact ⟨⟨k + 1, b, by omega, rfl, by simp, hid ⟨by rw [e1]; exact HR.out.1, by unfold foundPage; rw [e1]; exact HR.out.2.1, HR.out.2.2.1, HR.out.2.2.2⟩⟩, by simp [intOf]; omega⟩
    · have b1 : decide ((k : Int) < n) = false := by simp; omega
      have hkn' : l.take k = l := List.take_of_length_le (by have := HK.out.2; omega)
      have HF : Hid (b = (Bt.latest l line).isSome ∧ Blk wr (w.heap.size + 1) 75 (foundPage l line).cells) := hid (by have h1 := HR.out.1; have h2 := HR.out.2.1; rw [hkn'] at h1 h2; exact ⟨h1, h2⟩)
      have kb := HF.out.2.cell
      have B0 := HR.out.2.2.1
      have k0 := B0.cell
      have f0 := B0.free
      have l0 := B0.lt
      have HB0 := hid B0
      obtain ⟨q, hq⟩ : ∃ q, foundPage l line = q := ⟨_, rfl⟩
      rw [hq] at kb
      have HQ := hid hq
      clear hbx hkn' B0 hq
      unfold Bt.Page.cells at kb
      go_wp2_with fail
      refine bodyPost_ret (results_bt rfl _ _ w.heap.size _ _ _ rfl (HB0.out.all9 _ _ _ _ _ _ _ _ _) Tryz.underlying75 rfl (by kernel_rfl)) rfl ⟨?_, ?_⟩
      · rw [HF.out.1, HQ.out]; rfl
      · have := HR.out.2.2.2
        exact qL
theorem refLocked_any (p : Bt.Page) (hp : p.Ok) (w : World) : Calls Tryz.prog 47 #[.agg p.cells] w fun e w' => e = .returned (.bool (Bt.locked p)) ∧ Below w.heap.size w w' := by
  have h1 := hp.head
  have e1 : IntKind.u64.wrap (p.head % 256) = p.head % 256 := by rw [IntKind.wrap_u64]; omega
  unfold Bt.Page.cells
  go_enter Tryz.func47, Tryz.ntmps47
  go_wp2
  refine bodyPost_ret (results_tmp rfl _ _ _) rfl ⟨?_, qL⟩
  simp [Bt.locked, Int.tmod_eq_emod_of_nonneg h1.1]
  by_cases h : p.head % 256 = 0 <;> simp [h]
def segCount (lines : Int) : Int := if lines < 104 ∨ 256 < lines then 0 else (lines - 104) / 16
theorem refCount_any (n : Int) (w : World) : Calls Tryz.prog 44 #[.int .i64 n] w fun e w' => e = .returned (.int .i64 (segCount n)) ∧ w = w' := by
  by_cases h1 : n < 104
  · have b1 : decide (n < 104) = true := by simpa using h1
    go_enter Tryz.func44, Tryz.ntmps44
    go_wp2_with fail
    refine bodyPost_ret (results_tmp rfl _ _ _) rfl ⟨by simp [segCount, h1], rfl⟩
  · by_cases h2 : 256 < n
    · have b1 : decide (n < 104) = false := by simpa using h1
      have b2 : decide (256 < n) = true := by simpa using h2
      go_enter Tryz.func44, Tryz.ntmps44
      go_wp2_with fail
      refine bodyPost_ret (results_tmp rfl _ _ _) rfl ⟨by simp [segCount, h2], rfl⟩
    · have b1 : decide (n < 104) = false := by simpa using h1
      have b2 : decide (256 < n) = false := by simpa using h2
      obtain ⟨m, hm⟩ : ∃ m, n - 104 = m := ⟨_, rfl⟩
      have w1 : IntKind.i64.wrap (n - 104) = m := by rw [IntKind.wrap_i64]; omega
      have w2 : IntKind.i64.wrap (m.tdiv 16) = m / 16 := by rw [Int.tdiv_eq_ediv_of_nonneg (by omega), IntKind.wrap_i64]; omega
      have w3 : m.tdiv 16 = m / 16 := Int.tdiv_eq_ediv_of_nonneg (by omega)
      have hs : segCount n = m / 16 := by simp [segCount, h1, h2, hm]
      rw [hs]
      have hm0 : 0 ≤ m := by omega
      have hm1 : m ≤ 200 := by omega
      clear hm hs
      go_enter Tryz.func44, Tryz.ntmps44
      go_wp2_with fail
      refine bodyPost_ret (results_tmp rfl _ _ _) rfl ⟨by first | rfl | rw [w3], rfl⟩
def segLine (s : Int) : Int := if s < 0 ∨ 8 < s then -1 else 104 + 16 * s
theorem refHeaderLine_any (s : Int) (w : World) : Calls Tryz.prog 45 #[.int .i64 s] w fun e w' => e = .returned (.int .i64 (segLine s)) ∧ w = w' := by
  by_cases h1 : s < 0
  · have b1 : decide (s < 0) = true := by simpa using h1
    go_enter Tryz.func45, Tryz.ntmps45
    go_wp2_with fail
    refine bodyPost_ret (results_tmp rfl _ _ _) rfl ⟨by simp [segLine, h1], rfl⟩
  · by_cases h2 : 8 < s
    · have b1 : decide (s < 0) = false := by simpa using h1
      have b2 : decide (8 < s) = true := by simpa using h2
      go_enter Tryz.func45, Tryz.ntmps45
      go_wp2_with fail
      refine bodyPost_ret (results_tmp rfl _ _ _) rfl ⟨by simp [segLine, h2], rfl⟩
    · have b1 : decide (s < 0) = false := by simpa using h1
      have b2 : decide (8 < s) = false := by simpa using h2
      have w1 : IntKind.i64.wrap (16 * s) = 16 * s := by rw [IntKind.wrap_i64]; omega
      have w2 : IntKind.i64.wrap (104 + 16 * s) = 104 + 16 * s := by rw [IntKind.wrap_i64]; omega
      go_enter Tryz.func45, Tryz.ntmps45
      go_wp2_with fail
      refine bodyPost_ret (results_tmp rfl _ _ _) rfl ⟨by rw [segLine, if_neg (by omega)]; rfl, rfl⟩
def ownLine (l : Int) : Bool := decide (98 ≤ l) && decide (l < 104)
theorem refIsOwn_any (l : Int) (w : World) : Calls Tryz.prog 81 #[.int .i64 l] w fun e w' => e = .returned (.bool (ownLine l)) ∧ w = w' := by
  by_cases h1 : 98 ≤ l
  · have b1 : decide (98 ≤ l) = true := by simpa using h1
    go_enter Tryz.func81, Tryz.ntmps81
    go_wp2_with fail
    refine bodyPost_ret (results_tmp rfl _ _ _) rfl ⟨by simp [ownLine, h1], rfl⟩
  · have b1 : decide (98 ≤ l) = false := by simpa using h1
    go_enter Tryz.func81, Tryz.ntmps81
    go_wp2_with fail
    refine bodyPost_ret (results_tmp rfl _ _ _) rfl ⟨by simp [ownLine]; omega, rfl⟩
structure IRow (w : World) (v : Value) (l : List Int) : Prop where
  form : (v = .slice none 0 0 ∧ l = []) ∨ ∃ b cap, v = .slice (some ⟨b, 0, none⟩) l.length cap ∧ b < w.heap.size ∧ ∀ (i : Nat) (x : Int), l[i]? = some x → w.cell? ⟨b, i, none⟩ = some (.int .i64 x)
theorem IRow.nil (w : World) : IRow w (.slice none 0 0) [] := ⟨.inl ⟨rfl, rfl⟩⟩
theorem IRow.shape {w : World} {v : Value} {l : List Int} (h : IRow w v l) : ∃ p c, v = .slice p l.length c := by
  rcases h.form with ⟨rfl, rfl⟩ | ⟨b, cap, rfl, _⟩
  · exact ⟨none, 0, rfl⟩
  · exact ⟨_, _, rfl⟩
theorem IRow.row {w : World} {v : Value} {l : List Int} (h : IRow w v l) {k : Nat} (hk : k < l.length) : ∃ g c, v = .slice (some ⟨g, 0, none⟩) l.length c ∧ g < w.heap.size ∧ w.cell? ⟨g, k, none⟩ = some (.int .i64 l[k]) := by
  rcases h.form with ⟨_, rfl⟩ | ⟨b, cap, hv, hlt, hc⟩
  · simp at hk
  · exact ⟨b, cap, hv, hlt, hc k _ (List.getElem?_eq_getElem hk)⟩
theorem IRow.of_own {w : World} {base n : Nat} {v : Value} {l : List Int} (h : w.ownsRow base 3 1 v n (intCells l)) (hn : n = l.length) : IRow w v l := by
  subst hn
  rcases h.2 with ⟨rfl, h0⟩ | ⟨g, cap, cur, rfl, hb, hg, _⟩
  · exact ⟨.inl ⟨rfl, List.length_eq_zero_iff.1 h0⟩⟩
  · refine ⟨.inr ⟨g, cap, rfl, (own_lt h).2, fun i x hi => own_cells h i _ (by simp [intCells, hi])⟩⟩
theorem IRow.of_blk {w : World} {b cap : Nat} {l : List Int} (h : Blk w b 3 (intCells l).toArray) (hc : cap = l.length) : IRow w (.slice (some ⟨b, 0, none⟩) cap cap) l := by
  subst hc
  refine ⟨.inr ⟨b, _, rfl, h.lt, fun i x hi => by rw [h.cell]; simp [intCells, hi]⟩⟩
theorem missing_none (known : List Bt.Page) (v : Value) (lines : List Int) (vl : Value) (w : World) (hk : PgRow w v known) (hsm : known.length ≤ 1000000) (hl : IRow w vl lines) (hls : lines.length ≤ 1000) (hall : ∀ x ∈ lines, (Bt.latest known x).isSome = true) :
    Calls Tryz.prog 42 #[v, vl] w fun e w' => e = .returned (.slice none 0 0) ∧ Below w.heap.size w w' := by
  obtain ⟨p, c, rfl⟩ := hl.shape
  obtain ⟨n, hn⟩ : ∃ n, lines.length = n := ⟨_, rfl⟩
  rw [hn] at hl hls ⊢
  have HL := hid (And.intro hl (And.intro hn hall))
  have HK := hid (fun W x (hb : Below w.heap.size w W) => refLatest_any known v x W (hk.below hb) hsm)
  have hv : v.oneCell' = true := by obtain ⟨p, c, rfl⟩ := hk.shape; rfl
  clear hl hn hall hk
  go_enter Tryz.func42, Tryz.ntmps42
  go_wp2_with fail
  go_loopw [5, 6] (fun z i wr => ∃ (k : Nat), k ≤ n ∧ z = .slice none 0 0 ∧ i = .int .i64 k ∧ Hid (Below w.heap.size w wr)) (fun _ i _ => ((n : Int) - intOf i).toNat)
  case atStart => exact ⟨0, by omega, rfl, rfl, hid (Below.refl _ _)⟩
  case round =>
    obtain ⟨k, hkn, rfl, rfl, HR⟩ := hrel
    by_cases hk2 : k < n
    · have b1 : decide ((k : Int) < n) = true := by simp; omega
      have wk : IntKind.i64.wrap ((k : Int) + 1) = (k : Int) + 1 := by rw [IntKind.wrap_i64]; omega
      have hkl : k < lines.length := by have := HL.out.2.1; omega
      obtain ⟨g, c', hv2, hg, hrow⟩ := HL.out.1.row hkl
      rw [HL.out.2.1] at hv2
      simp only [Value.slice.injEq, true_and] at hv2
      obtain ⟨rfl, rfl⟩ := hv2
      obtain ⟨x, hx⟩ : ∃ x, lines[k] = x := ⟨_, rfl⟩
      rw [hx] at hrow
      have hrow2 : wr.cell? ⟨g, k, none⟩ = some (.int .i64 x) := (HR.out.cell (p := ⟨g, k, none⟩) hg).trans hrow
      have HX : Hid ((Bt.latest known x).isSome = true) := hid (HL.out.2.2 x (by rw [← hx]; exact List.getElem_mem hkl))
      have hgr : g < wr.heap.size := Nat.lt_of_lt_of_le hg HR.out.size
      have j2 : decide ((k : Int) < 0) = false := by simp
      have j4 : (0 : Int) ≤ k := by omega
      have j5 : (k : Int) < n := by omega
      clear hx hrow
      go_wp2_with fail
      go_at_call 46; refine (HK.out _ x HR.out).mono ?_; rintro e1 w1 ⟨rfl, hb⟩; rw [HX.out]; ((obtain ⟨hc1, hf1, hs1⟩ := qR hb); (try have := qN0 wr w1))
      have HB1 : Hid (Below w.heap.size w w1) := hid (by have := HR.out; exact qL)
      obtain ⟨q, hq⟩ : ∃ q, foundPage known x = q := ⟨_, rfl⟩
      rw [hq]
      clear hb hq
      unfold Bt.Page.cells
      go_wp2_with fail
      exact ⟨⟨k + 1, by omega, rfl, by simp, hid (by have := HB1.out; exact qL)⟩, by simp [intOf]; omega⟩
    · have b1 : decide ((k : Int) < n) = false := by simp; omega
      go_wp2_with fail
      refine bodyPost_ret (results_tmp rfl _ _ _) rfl ⟨rfl, HR.out⟩
theorem slice_own {w : World} {base n size : Nat} {t e : TypeId} {v : Value} {xs : List Value} (h : w.ownsRow base e size v n xs) (i0 : TypeInfo) (ht : Tryz.prog.underlying t = some (.slice e)) (hel : Tryz.prog.elem t = e) (hi : Tryz.prog.info? e = some i0) (hsz : i0.size = size)
    (at' : Nat) (hat : at' ≤ n) (h1 : ∀ u ∈ xs, u.oneCell' = true) :
    ∃ v1 v2, (∀ wx, (Instr.slice t v none (some (.int .i64 (at' : Int))) none).run Tryz.prog wx = .ok v1 wx) ∧ (∀ wx, (Instr.slice t v (some (.int .i64 (at' : Int))) none none).run Tryz.prog wx = .ok v2 wx) ∧ v1.ownBlock = v.ownBlock ∧
      (∀ wx : World, (∀ b, v.ownBlock = some b → wx.heap[b]? = w.heap[b]?) → wx.ownsRow base e size v1 at' (xs.take (at' * size)) ∧ SrcAt wx v2 (n - at') (xs.drop (at' * size))) := by
  have hu : Tryz.prog.underlying t = some (.slice (Tryz.prog.elem t)) := by rw [hel]; exact ht
  have hs : ∀ wx, (sizeOf (Tryz.prog.elem t)).run Tryz.prog wx = .ok size wx := fun wx => by rw [hel]; simp [sizeOf, typeInfo, hi, hsz]
  have hlen := h.1
  rcases h.2 with ⟨rfl, rfl⟩ | ⟨g, cap, cur, rfl, hb, hg, hnc, hcm, hcs, htake⟩
  · obtain rfl : at' = 0 := by omega
    have hx : xs = [] := List.length_eq_zero_iff.1 (by simpa using hlen)
    subst hx
    refine ⟨.slice none 0 0, .slice none 0 0, fun wx => ?_, fun wx => ?_, rfl, fun wx _ => ⟨by simpa using World.ownsRow_nil _ _ _ _, .inl ⟨rfl, rfl, by simp⟩⟩⟩
    · rw [run_slice_h wx t none 0 0 hu .i64 _ (by omega) (by omega), hs]
      simp [Result.andThen, sliced]
    · rw [run_slice_l wx t none 0 0 hu .i64 _ (by omega) (by omega), hs]
      simp [Result.andThen, sliced]
  · refine ⟨.slice (some ⟨g, 0, none⟩) at' cap, .slice (some (if cap = at' then ⟨g, 0, none⟩ else ⟨g, at' * size, none⟩)) (n - at') (cap - at'), fun wx => ?_, fun wx => ?_, rfl, fun wx hk => ?_⟩
    · rw [run_slice_h wx t (some ⟨g, 0, none⟩) n cap hu .i64 _ (by omega) (by omega), hs]
      simp [Result.andThen, sliced, Addr.add]
    · rw [run_slice_l wx t (some ⟨g, 0, none⟩) n cap hu .i64 _ (by omega) (by omega), hs]
      simp [Result.andThen, sliced, Addr.add]
      by_cases h1 : cap = at'
      · simp [h1]
      · rw [if_neg h1, if_neg h1]
        by_cases h2 : at' * size = 0
        · rw [if_pos h2, h2]
        · rw [if_neg h2]
    · have hgx : wx.heap[g]? = some (.cells cur e (0, 0)) := (hk g rfl).trans hg
      have hle : at' * size ≤ n * size := Nat.mul_le_mul_right _ hat
      refine ⟨⟨by rw [List.length_take, hlen]; omega, .inr ⟨g, cap, cur, rfl, hb, hgx, by omega, hcm, hcs, ?_⟩⟩, .inr ⟨_, _, rfl, fun j u hj => ?_, fun u hu => h1 u (List.mem_of_mem_drop hu)⟩⟩
      · rw [← htake, List.take_take, Nat.min_eq_left hle]
      · rw [List.getElem?_drop] at hj
        have hjl : at' * size + j < n * size := by have := (List.getElem?_eq_some_iff.1 hj).1; omega
        have hne : ¬ cap = at' := by
          intro e2
          have : n * size ≤ at' * size := Nat.mul_le_mul_right _ (by omega)
          omega
        rw [if_neg hne, Addr.add_mid]
        have hB : Blk wx g e cur := hgx
        rw [hB.cell]
        rw [← htake, List.getElem?_take_of_lt hjl] at hj
        simpa using hj
theorem pgc_one (l : List Bt.Page) : ∀ u ∈ pageCells l, u.oneCell' = true := by
  intro u hu
  simp only [pageCells, List.mem_flatMap] at hu
  obtain ⟨p, _, hp⟩ := hu
  simp [Bt.Page.cells] at hp
  rcases hp with rfl | rfl | rfl | rfl | rfl | rfl | rfl | rfl | rfl <;> rfl
theorem pgc_take (l : List Bt.Page) (k : Nat) : (pageCells l).take (k * 9) = pageCells (l.take k) := by
  apply List.ext_getElem?
  intro j
  have hj : j = j / 9 * 9 + j % 9 := by omega
  by_cases h : j < k * 9
  · rw [List.getElem?_take_of_lt h, hj, pgc_at _ _ _ (Nat.mod_lt _ (by omega)), pgc_at _ _ _ (Nat.mod_lt _ (by omega)), List.getElem?_take_of_lt (by omega)]
  · rw [List.getElem?_eq_none (by simp; omega), List.getElem?_eq_none (by rw [pgc_len, List.length_take]; omega)]
theorem pgc_drop (l : List Bt.Page) (k : Nat) : (pageCells l).drop (k * 9) = pageCells (l.drop k) := by
  have h : pageCells l = pageCells (l.take k) ++ pageCells (l.drop k) := by
    show pageCells l = List.flatMap (fun p : Bt.Page => p.cells.toList) (l.take k) ++ List.flatMap (fun p : Bt.Page => p.cells.toList) (l.drop k)
    rw [← List.flatMap_append, List.take_append_drop]
    rfl
  by_cases hk : k ≤ l.length
  · rw [h, List.drop_left' (by rw [pgc_len, List.length_take, Nat.min_eq_left hk])]
  · rw [List.drop_eq_nil_of_le (by rw [pgc_len]; omega), List.drop_eq_nil_of_le (by omega)]
    rfl
theorem pageElem : Tryz.prog.elem 42 = 75 := by kernel_rfl
structure KeepAt (c : Nat) (t : TypeId) (cs : Array Value) (wx : World) : Prop where
  blk : Blk wx c t cs
theorem KeepAt.rule {c : Nat} {t : TypeId} {cs : Array Value} {wx : World} (h : KeepAt c t cs wx) : ∀ i, wx.cell? ⟨c, i, none⟩ = cs[i]? := h.blk.cell
theorem set_world (w : World) (g i : Nat) (q : Bt.Page) : w.setCells g i q.cells.toList =
    ((((((((w.setCell ⟨g, i, none⟩ (.int .i64 q.line)).setCell ⟨g, i + 1, none⟩ (.int .u64 q.head)).setCell ⟨g, i + 2, none⟩ (.int .u64 q.d0)).setCell ⟨g, i + 3, none⟩ (.int .u64 q.d1)).setCell ⟨g, i + 4, none⟩ (.int .u64 q.d2)).setCell ⟨g, i + 5, none⟩ (.int .u64 q.d3)).setCell ⟨g, i + 6, none⟩ (.int .u64 q.d4)).setCell ⟨g, i + 7, none⟩ (.int .u64 q.d5)).setCell ⟨g, i + 8, none⟩ (.int .u64 q.d6) := by
  simp only [Bt.Page.cells, World.setCells]
theorem PRow.own_base {w : World} {base g cap : Nat} {l : List Bt.Page} (h : PRow w g cap l) (hb : base ≤ g) : w.ownsRow base 75 9 (.slice (some ⟨g, 0, none⟩) l.length cap) l.length (pageCells l) := by
  have h1 := h.own
  refine ⟨h1.1, ?_⟩
  rcases h1.2 with h2 | ⟨g', cap', cur, hv, h3⟩
  · exact .inl h2
  · refine .inr ⟨g', cap', cur, hv, ?_, h3.2⟩
    simp at hv
    omega
theorem own_src {w : World} {base n size : Nat} {e : TypeId} {v : Value} {xs : List Value} (h : w.ownsRow base e size v n xs) (h1 : ∀ u ∈ xs, u.oneCell' = true) : SrcAt w v n xs := by
  rcases h.2 with ⟨rfl, rfl⟩ | ⟨g, c, cur, rfl, hb, hg, _⟩
  · exact .inl ⟨rfl, rfl, List.length_eq_zero_iff.1 (by simpa using h.1)⟩
  · refine .inr ⟨_, c, rfl, fun j u hj => ?_, h1⟩
    rw [Addr.add_mid, Nat.zero_add]
    exact own_cells h j u hj
theorem own_pg {w : World} {base n : Nat} {v : Value} {l : List Bt.Page} (h : w.ownsRow base 75 9 v n (pageCells l)) (hn : n = l.length) {k : Nat} (hk : k < n) : ∃ g c, v = .slice (some ⟨g, 0, none⟩) n c ∧ base ≤ g ∧ g < w.heap.size ∧ w.rangeAt g (k * 9) (l[k]'(by omega)).cells.toList := by
  subst hn
  rcases h.2 with ⟨rfl, h0⟩ | ⟨g, c, cur, rfl, hb, hg, _⟩
  · omega
  · have P1 := PRow.of_own h
    exact ⟨g, c, rfl, hb, P1.lt, P1.cells k _ (List.getElem?_eq_getElem hk)⟩
def ownPage (line head segs inc : Int) : Bt.Page := ⟨line, head, 0, segs, inc, 0, 0, 0, 0⟩
def ownCells (segs inc : Int) : Array Value := #[.bool false, .int .u32 0, .int .u32 segs, .int .i64 inc, .int .i64 0, .int .i64 0, .int .u32 0, .int .i64 0, .int .i64 0, .int .u32 0, .int .i64 0, .int .i64 0, .int .u32 0, .int .i64 0, .int .i64 0, .int .u32 0]
theorem refReadNode_own (line head segs inc : Int) (h1 : 98 ≤ line) (h2 : line < 104) (hs : 0 ≤ segs ∧ segs ≤ 511) (hi : 0 ≤ inc ∧ inc ≤ 59) (w : World) :
    Calls Tryz.prog 79 #[.agg (ownPage line head segs inc).cells] w fun e w' => e = .returned (.tuple #[.agg (ownCells segs inc), .int .i64 0]) ∧ Below w.heap.size w w' := by
  have HO := hid (fun W => refIsOwn_any line W)
  have ho : ownLine line = true := by simp [ownLine]; omega
  rw [ho] at HO
  clear ho
  have e1 : segs.tmod 512 = segs := by rw [Int.tmod_eq_emod_of_nonneg hs.1]; omega
  have e2 : inc.tmod 1024 = inc := by rw [Int.tmod_eq_emod_of_nonneg hi.1]; omega
  have e3 : IntKind.u32.wrap segs = segs := by rw [IntKind.wrap_u32]; omega
  have b1 : decide (511 < segs) = false := by simp; omega
  have b2 : decide (59 < inc) = false := by simp; omega
  have e4 : segs % 512 = segs := by omega
  have e5 : inc % 1024 = inc := by omega
  obtain ⟨hs1, hs2⟩ := hs
  obtain ⟨hi1, hi2⟩ := hi
  unfold Bt.Page.cells ownPage
  go_enter Tryz.func79, Tryz.ntmps79
  go_wp2_with fail
  go_at_call 81; refine (HO.out _).mono ?_; rintro e w1 ⟨rfl, hw⟩; obtain rfl := hw
  go_wp2_with fail
  refine wp_loop_rounds 5 ?_
  rw [rounds_succ]
  go_wp2_with fail
  rw [rounds_succ]
  go_wp2_with fail
  rw [rounds_succ]
  go_wp2_with fail
  rw [rounds_succ]
  go_wp2_with fail
  rw [rounds_succ]
  go_wp2_with fail
  simp [bodyPost, results, Tryz.results79, go_sem]
  exact ⟨rfl, qL⟩
theorem refWriteNode_own (line head x0 x1 x2 x3 x4 x5 x6 segs inc : Int) (h1 : 98 ≤ line) (h2 : line < 104) (hs : 0 ≤ segs ∧ segs ≤ 511) (hi : 0 ≤ inc ∧ inc ≤ 59) (w : World) :
    Calls Tryz.prog 49 #[.agg (⟨line, head, x0, x1, x2, x3, x4, x5, x6⟩ : Bt.Page).cells, .agg (ownCells segs inc)] w fun e w' => e = .returned (.tuple #[.agg (ownPage line head segs inc).cells, .int .i64 0]) ∧ Below w.heap.size w w' := by
  have HO := hid (fun W => refIsOwn_any line W)
  have ho : ownLine line = true := by simp [ownLine]; omega
  rw [ho] at HO
  clear ho
  have b1 : decide (511 < segs) = false := by simp; omega
  have b2 : decide (59 < inc) = false := by simp; omega
  have b3 : decide (inc < 0) = false := by simp; omega
  have e3 : IntKind.u64.wrap segs = segs := by rw [IntKind.wrap_u64]; omega
  have e4 : IntKind.u64.wrap inc = inc := by rw [IntKind.wrap_u64]; omega
  obtain ⟨hs1, hs2⟩ := hs
  obtain ⟨hi1, hi2⟩ := hi
  unfold Bt.Page.cells ownPage ownCells
  go_enter Tryz.func49, Tryz.ntmps49
  go_wp2_with fail
  go_at_call 81; refine (HO.out _).mono ?_; rintro e w1 ⟨rfl, hw⟩; obtain rfl := hw
  go_wp2_with fail
  refine wp_loop_rounds 5 ?_
  rw [rounds_succ]
  go_wp2_with fail
  rw [rounds_succ]
  go_wp2_with fail
  rw [rounds_succ]
  go_wp2_with fail
  rw [rounds_succ]
  go_wp2_with fail
  rw [rounds_succ]
  go_wp2_with fail
  simp [bodyPost, results, Tryz.results49, go_sem]
  exact qL
end Go.Proofs.YtcoiehgcfjfhaaaGreatDoor
