/- slices.SortStableFunc on pages. -/
import Derived.Test.YtcoiehgcfjfhaaaGreatDoorQ08
import Derived.Test.YtcoiehgcfjfhaaaGreatDoorQ03
import Derived.Lib.AppendZeros
import Derived.Shelf.Spec.SlicesGrow
import Derived.Test.YtcoiehgcfjfhaaaGreatDoorQ01
import Derived.Maps.RangeWalk
set_option linter.all false
set_option maxRecDepth 20000
set_option maxHeartbeats 8000000
open Go.Lib (hid)
namespace Go.Proofs.YtcoiehgcfjfhaaaGreatDoor
open Go.RowKit
namespace Srt
open Bt
def Blocks (c n : Nat) (l : List Page) : Prop := ∀ j, Asc (j * c) (min (j * c + c) n) l
def Mixed (k c n : Nat) (l : List Page) : Prop := (∀ j, j < k → Asc (j * (2 * c)) (j * (2 * c) + 2 * c) l) ∧ (∀ j, 2 * k ≤ j → Asc (j * c) (min (j * c + c) n) l)
theorem asc_none {a b : Nat} {l : List Page} (h : b ≤ a) : Asc a b l := fun i j h1 h2 h3 => by omega
theorem Asc.aside {a b x y : Nat} {l l' : List Page} (h : Asc a b l) (p : Part x y l l') (hd : b ≤ x ∨ y ≤ a) : Asc a b l' := fun i j h1 h2 h3 => by
  rw [p.ln_out (by omega), p.ln_out (by omega)]
  exact h i j h1 h2 h3
theorem mul_before {j k c : Nat} (h : j < k) : j * c + c ≤ k * c := by
  have := Nat.mul_le_mul_right c (show j + 1 ≤ k by omega)
  rw [Nat.add_mul, Nat.one_mul] at this
  exact this
theorem mixed_start {c n : Nat} {l : List Page} (h : Blocks c n l) : Mixed 0 c n l := ⟨fun j hj => by omega, fun j _ => h j⟩
theorem mixed_step {k c n A : Nat} {l l' : List Page} (h : Mixed k c n l) (hA : k * (2 * c) = A) (p : Part A (A + 2 * c) l l') (ha : Asc A (A + 2 * c) l') : Mixed (k + 1) c n l' := by
  refine ⟨fun j hj => ?_, fun j hj => ?_⟩
  · by_cases e : j = k
    · subst e; rw [hA]; exact ha
    · exact (h.1 j (by omega)).aside p (.inl (by have := mul_before (c := 2 * c) (show j < k by omega); omega))
  · refine (h.2 j (by omega)).aside p (.inr ?_)
    have e : (2 * (k + 1)) * c = A + 2 * c := by rw [← hA]; simp [Nat.mul_add, Nat.add_mul, Nat.mul_comm, Nat.mul_left_comm, Nat.mul_assoc]
    have := Nat.mul_le_mul_right c hj
    omega
theorem mixed_pair {k c n A : Nat} {l : List Page} (h : Mixed k c n l) (hA : k * (2 * c) = A) : Asc A (min (A + c) n) l ∧ Asc (A + c) (min (A + 2 * c) n) l := by
  have h1 := h.2 (2 * k) (Nat.le_refl _)
  have h2 := h.2 (2 * k + 1) (by omega)
  have e1 : 2 * k * c = A := by rw [← hA]; simp [Nat.mul_comm, Nat.mul_left_comm]
  have e2 : (2 * k + 1) * c = A + c := by rw [Nat.add_mul, e1, Nat.one_mul]
  rw [e1] at h1
  rw [e2, show A + c + c = A + 2 * c by omega] at h2
  exact ⟨h1, h2⟩
theorem mixed_end {k c n A : Nat} {l l' : List Page} (h : Mixed k c n l) (hA : k * (2 * c) = A) (hn : n < A + 2 * c) (p : Part A n l l') (ha : Asc A n l') : Blocks (2 * c) n l' := by
  intro j
  rcases Nat.lt_trichotomy j k with e | e | e
  · have := mul_before (c := 2 * c) e
    exact ((h.1 j e).aside p (.inl (by omega))).less (by omega)
  · subst e; rw [hA, Nat.min_eq_right (by omega)]; exact ha
  · have := mul_before (c := 2 * c) e
    exact asc_none (by omega)
theorem blocks_first {k n A : Nat} {l l' : List Page} (h : ∀ j, j < k → Asc (j * 20) (j * 20 + 20) l) (hA : k * 20 = A) (hn : n < A + 20) (p : Part A n l l') (ha : Asc A n l') : Blocks 20 n l' := by
  intro j
  rcases Nat.lt_trichotomy j k with e | e | e
  · exact ((h j e).aside p (.inl (by omega))).less (by omega)
  · subst e; rw [hA, Nat.min_eq_right (by omega)]; exact ha
  · exact asc_none (by omega)
end Srt
def StablePost (g cap n : Nat) (l0 : List Bt.Page) (w : World) (e : Ending) (w' : World) : Prop :=
  e = .returned (.tuple #[]) ∧ (∃ l', PRow w' g cap l' ∧ l'.Perm l0 ∧ Srt.Asc 0 n l') ∧ Over g w w'
theorem stable (g cap : Nat) (l0 : List Bt.Page) (n : Nat) (hn : n = l0.length) (hsm : n ≤ 1000000) (w : World) (h : PRow w g cap l0) :
    Calls Tryz.prog 291 #[.slice (some ⟨g, 0, none⟩) n cap, .int .i64 n, cmpAsc] w (StablePost g cap n l0 w) := by
  have HP := hid h
  have HN := hid hn
  clear h hn
  unfold StablePost
  have HIS : Hid (∀ (l : List Bt.Page) (a b : Nat), l.length = n → a ≤ b → b ≤ n → ∀ W, PRow W g cap l → Calls Tryz.prog 241 #[.slice (some ⟨g, 0, none⟩) n cap, .int .i64 a, .int .i64 b, cmpAsc] W (SortPost g cap a b l W)) :=
    hid fun l a b hl hab hb W hW => isort g cap l a b n hl.symm hsm hab hb W hW
  have HSM : Hid (∀ (l : List Bt.Page) (a m b : Nat), l.length = n → a < m → m < b → b ≤ n → ∀ W, PRow W g cap l → Srt.Asc a m l → Srt.Asc m b l → Calls Tryz.prog 309 #[.slice (some ⟨g, 0, none⟩) n cap, .int .i64 a, .int .i64 m, .int .i64 b, cmpAsc] W (SortPost g cap a b l W)) :=
    hid fun l a m b hl ham hmb hb W hW h1 h2 => sym_all (b - a) g cap l a m b n (Nat.le_refl _) hl.symm hsm ham hmb hb W hW h1 h2
  unfold cmpAsc at HIS HSM ⊢
  go_enter Tryz.func291, Tryz.ntmps291
  go_wp2_with fail
  go_loopw [7, 8] (fun x y wr => ∃ (k a : Nat) (l : List Bt.Page), x = .int .i64 a ∧ y = .int .i64 ((a : Int) + 20) ∧ a ≤ n ∧ Hid (k * 20 = a ∧ PRow wr g cap l ∧ l.length = n ∧ l.Perm l0 ∧ (∀ j, j < k → Srt.Asc (j * 20) (j * 20 + 20) l) ∧ Over g w wr)) (fun x _ _ => ((n : Int) - intOf x).toNat)
  case atStart => exact ⟨0, 0, l0, rfl, rfl, by omega, hid ⟨rfl, HP.out, HN.out.symm, List.Perm.refl _, fun j hj => by omega, Over.refl _ _⟩⟩
  case round =>
    obtain ⟨k, a, l, rfl, rfl, han, HR⟩ := hrel
    obtain ⟨w2, hw2⟩ : ∃ w2, w2 = wr := ⟨_, rfl⟩
    subst hw2
    by_cases hb : a + 20 ≤ n
    · obtain ⟨B, hB⟩ : ∃ B : Int, (a : Int) + 20 = B := ⟨_, rfl⟩
      have b1 : decide (B ≤ (n : Int)) = true := by simp; omega
      have wB : IntKind.i64.wrap (B + 20) = B + 20 := by rw [IntKind.wrap_i64]; omega
      have hBn : B = ((a + 20 : Nat) : Int) := by omega
      rw [hB]
      have HC : Hid (Calls Tryz.prog 241 #[.slice (some ⟨g, 0, none⟩) n cap, .int .i64 a, .int .i64 B, .func (.func 251) #[] #[]] w2 (SortPost g cap a (a + 20) l w2)) :=
        hid (by rw [hBn]; exact HIS.out l a (a + 20) HR.out.2.2.1 (by omega) hb _ HR.out.2.1)
      have HB := hid hBn
      clear hB hBn
      go_wp2_with fail
      go_at_call 241; refine HC.out.mono ?_; rintro e1 w1 ⟨rfl, ⟨l', P1, S1, A1⟩, o1⟩
      have H1 := hid (And.intro P1 (And.intro S1 (And.intro A1 o1)))
      clear P1 S1 A1 o1
      go_wp2_with fail
      exact ⟨⟨k + 1, a + 20, l', by rw [HB.out], by rw [HB.out], hb, hid ⟨by have := HR.out.1; omega, H1.out.1, H1.out.2.1.len.trans HR.out.2.2.1, H1.out.2.1.perm.trans HR.out.2.2.2.1, fun j hj => by
        by_cases e : j = k
        · subst e; rw [HR.out.1]; exact H1.out.2.2.1
        · exact (HR.out.2.2.2.2.1 j (by omega)).aside H1.out.2.1 (.inl (by have := HR.out.1; omega)), HR.out.2.2.2.2.2.trans H1.out.2.2.2⟩⟩, by have := HB.out; simp [intOf]; omega⟩
    · obtain ⟨B, hB⟩ : ∃ B : Int, (a : Int) + 20 = B := ⟨_, rfl⟩
      have b1 : decide (B ≤ (n : Int)) = false := by simp; omega
      rw [hB]
      clear hB
      go_wp2_with fail
      go_at_call 241; refine (HIS.out l a n HR.out.2.2.1 han (Nat.le_refl _) _ HR.out.2.1).mono ?_; rintro e1 w1 ⟨rfl, ⟨l1, P1, S1, A1⟩, o1⟩
      have H1 : Hid (PRow w1 g cap l1 ∧ l1.length = n ∧ l1.Perm l0 ∧ Srt.Blocks 20 n l1 ∧ Over g w w1) := hid ⟨P1, S1.len.trans HR.out.2.2.1, S1.perm.trans HR.out.2.2.2.1, Srt.blocks_first HR.out.2.2.2.2.1 HR.out.1 (by omega) S1 A1, HR.out.2.2.2.2.2.trans o1⟩
      clear P1 S1 A1 o1 HR
      go_wp2_with fail
      go_loopw [6] (fun x wr => ∃ (c : Nat) (l : List Bt.Page), x = .int .i64 c ∧ 1 ≤ c ∧ c ≤ 2000020 ∧ Hid (PRow wr g cap l ∧ l.length = n ∧ l.Perm l0 ∧ Srt.Blocks c n l ∧ Over g w wr)) (fun x _ => ((n : Int) - intOf x).toNat)
      case atStart => exact ⟨20, l1, rfl, by omega, by omega, H1⟩
      case round =>
        obtain ⟨c, l, rfl, hc1, hc2, HR⟩ := hrel
        by_cases hcn : c < n
        · have b2 : decide ((c : Int) < n) = true := by simp; omega
          obtain ⟨C2, hC2⟩ : ∃ B : Int, 2 * (c : Int) = B := ⟨_, rfl⟩
          have wC : IntKind.i64.wrap (2 * (c : Int)) = C2 := by rw [IntKind.wrap_i64]; omega
          have wC' : IntKind.i64.wrap ((c : Int) * 2) = C2 := by rw [IntKind.wrap_i64]; omega
          have HC2 : Hid (C2 = ((2 * c : Nat) : Int)) := hid (by omega)
          clear hC2
          obtain ⟨w3, hw3⟩ : ∃ w3, w3 = wr := ⟨_, rfl⟩
          subst hw3
          go_wp2_with fail
          go_loopw [7, 8] (fun x y wr => ∃ (k a : Nat) (B : Int) (l : List Bt.Page), x = .int .i64 a ∧ y = .int .i64 B ∧ a ≤ n ∧ Hid (B = ((a + 2 * c : Nat) : Int) ∧ k * (2 * c) = a ∧ PRow wr g cap l ∧ l.length = n ∧ l.Perm l0 ∧ Srt.Mixed k c n l ∧ Over g w wr)) (fun x _ _ => ((n : Int) - intOf x).toNat)
          case atStart => exact ⟨0, 0, C2, l, rfl, rfl, by omega, hid ⟨by rw [HC2.out]; simp, by simp, HR.out.1, HR.out.2.1, HR.out.2.2.1, Srt.mixed_start HR.out.2.2.2.1, HR.out.2.2.2.2⟩⟩
          case round =>
            obtain ⟨k, a, B, l', rfl, rfl, han2, HQ⟩ := hrel
            obtain ⟨w4, hw4⟩ : ∃ w4, w4 = wr := ⟨_, rfl⟩
            subst hw4
            obtain ⟨M, hM⟩ : ∃ B : Int, (a : Int) + c = B := ⟨_, rfl⟩
            have wM : IntKind.i64.wrap ((a : Int) + c) = M := by rw [IntKind.wrap_i64]; omega
            have HM : Hid (M = ((a + c : Nat) : Int)) := hid (by omega)
            clear hM
            by_cases hb2 : a + 2 * c ≤ n
            · have hBn := HQ.out.1
              have b3 : decide (B ≤ (n : Int)) = true := by simp; omega
              obtain ⟨B2, hB2⟩ : ∃ X : Int, B + C2 = X := ⟨_, rfl⟩
              have wB2 : IntKind.i64.wrap (B + C2) = B2 := by rw [IntKind.wrap_i64]; have := HC2.out; omega
              have HB2 : Hid (B2 = ((a + 2 * c + 2 * c : Nat) : Int)) := hid (by have := HC2.out; omega)
              have HPA := hid (Srt.mixed_pair HQ.out.2.2.2.2.2.1 HQ.out.2.1)
              have HCL : Hid (Calls Tryz.prog 309 #[.slice (some ⟨g, 0, none⟩) n cap, .int .i64 a, .int .i64 M, .int .i64 B, .func (.func 251) #[] #[]] w4 (SortPost g cap a (a + 2 * c) l' w4)) :=
                hid (by rw [HM.out, hBn]; exact HSM.out l' a (a + c) (a + 2 * c) HQ.out.2.2.2.1 (by omega) (by omega) hb2 _ HQ.out.2.2.1 (HPA.out.1.less (by omega)) (HPA.out.2.less (by omega)))
              clear hBn hB2
              go_wp2_with fail
              go_at_call 309; refine HCL.out.mono ?_; rintro e1 w1' ⟨rfl, ⟨l2, P1, S1, A1⟩, o1⟩
              have H2 := hid (And.intro P1 (And.intro S1 (And.intro A1 o1)))
              clear P1 S1 A1 o1
              go_wp2_with fail
              exact ⟨⟨k + 1, a + 2 * c, B2, l2, by rw [HQ.out.1], rfl, hb2, hid ⟨HB2.out, by rw [Nat.add_mul, HQ.out.2.1]; omega, H2.out.1, H2.out.2.1.len.trans HQ.out.2.2.2.1, H2.out.2.1.perm.trans HQ.out.2.2.2.2.1, Srt.mixed_step HQ.out.2.2.2.2.2.1 HQ.out.2.1 H2.out.2.1 H2.out.2.2.1, HQ.out.2.2.2.2.2.2.trans H2.out.2.2.2⟩⟩, by have := HQ.out.1; simp [intOf]; omega⟩
            · have hBn := HQ.out.1
              have b3 : decide (B ≤ (n : Int)) = false := by simp; omega
              clear hBn
              have HPA := hid (Srt.mixed_pair HQ.out.2.2.2.2.2.1 HQ.out.2.1)
              by_cases hmn : a + c < n
              · have b4 : decide (M < (n : Int)) = true := by have := HM.out; simp; omega
                have HCL : Hid (Calls Tryz.prog 309 #[.slice (some ⟨g, 0, none⟩) n cap, .int .i64 a, .int .i64 M, .int .i64 n, .func (.func 251) #[] #[]] w4 (SortPost g cap a n l' w4)) :=
                  hid (by rw [HM.out]; exact HSM.out l' a (a + c) n HQ.out.2.2.2.1 (by omega) hmn (Nat.le_refl _) _ HQ.out.2.2.1 (HPA.out.1.less (by omega)) (HPA.out.2.less (by omega)))
                go_wp2_with fail
                go_at_call 309; refine HCL.out.mono ?_; rintro e1 w1' ⟨rfl, ⟨l2, P1, S1, A1⟩, o1⟩
                have H2 := hid (And.intro P1 (And.intro S1 (And.intro A1 o1)))
                clear P1 S1 A1 o1
                go_wp2_with fail
                exact ⟨⟨2 * c, l2, by rw [HC2.out], by omega, by omega, hid ⟨H2.out.1, H2.out.2.1.len.trans HQ.out.2.2.2.1, H2.out.2.1.perm.trans HQ.out.2.2.2.2.1, Srt.mixed_end HQ.out.2.2.2.2.2.1 HQ.out.2.1 (by omega) H2.out.2.1 H2.out.2.2.1, HQ.out.2.2.2.2.2.2.trans H2.out.2.2.2⟩⟩, by have := HC2.out; simp [intOf]; omega⟩
              · have b4 : decide (M < (n : Int)) = false := by have := HM.out; simp; omega
                go_wp2_with fail
                exact ⟨⟨2 * c, l', by rw [HC2.out], by omega, by omega, hid ⟨HQ.out.2.2.1, HQ.out.2.2.2.1, HQ.out.2.2.2.2.1, Srt.mixed_end HQ.out.2.2.2.2.2.1 HQ.out.2.1 (by omega) (Srt.Part.refl _ _ _) (HPA.out.1.less (by omega)), HQ.out.2.2.2.2.2.2⟩⟩, by have := HC2.out; simp [intOf]; omega⟩
        · have b2 : decide ((c : Int) < n) = false := by simp; omega
          go_wp2_with fail
          have hb := HR.out.2.2.2.1 0
          rw [Nat.zero_mul, Nat.zero_add, Nat.min_eq_right (by omega)] at hb
          exact bodyPost_end (results_none rfl _ _ _) rfl ⟨rfl, ⟨l, HR.out.1, HR.out.2.2.1, hb⟩, HR.out.2.2.2.2⟩
theorem infoPage : (Tryz.prog.info? 75).map (fun i => (i.zero, i.size, i.bytes)) = some (some (.agg #[.int .i64 0, .int .u64 0, .int .u64 0, .int .u64 0, .int .u64 0, .int .u64 0, .int .u64 0, .int .u64 0, .int .u64 0]), 9, 72) := by kernel_rfl
def newPage (i : Nat) : Bt.Page := ⟨96 + i, 256, 0, 0, 0, 0, 0, 0, 0⟩
def newPages (k : Nat) : List Bt.Page := (List.range k).map newPage
theorem newPages_succ (k : Nat) : pageCells (newPages (k + 1)) = pageCells (newPages k) ++ [.int .i64 (96 + k), .int .u64 256, .int .u64 0, .int .u64 0, .int .u64 0, .int .u64 0, .int .u64 0, .int .u64 0, .int .u64 0] := by
  simp [newPages, pageCells, List.range_succ, newPage, Bt.Page.cells]
theorem nine_news {w : World} {b : Nat} {cs : Array Value} {t : TypeId} (h : Blk w b t cs) : ∀ j v, cs.toList[j]? = some v → w.cell? ((⟨b, 0, none⟩ : Addr).add j) = some v := by
  intro j v hv
  have e : ((⟨b, 0, none⟩ : Addr).add j) = ⟨b, j, none⟩ := by simp [Addr.add]; omega
  rw [e, h.cell]
  simpa using hv
structure NewAt (w : World) (n k : Nat) (v : Value) (wr : World) : Prop where
  blk : Blk wr w.heap.size 72 #[v, .int .i64 (96 + n : Int), .int .i64 0, .slice none 0 0, .int .i64 1, .int .i64 0, .int .u32 1]
  own : wr.ownsRow (w.heap.size + 1) 75 9 v k (pageCells (newPages k))
  below : Below w.heap.size w wr
def NewRel (w : World) (n : Nat) (i : Value) (wr : World) : Prop := ∃ (k : Nat) (v : Value), k ≤ n ∧ i = .int .i64 (96 + k) ∧ Hid (NewAt w n k v wr)
theorem heapNew (n : Nat) (hn : n ≤ 160) (w : World) : Calls Tryz.prog 14 #[.int .i64 (96 + n : Int)] w fun e w' => ∃ v, e = .returned (.pointer (some ⟨w.heap.size, 0, none⟩)) ∧ NewAt w n n v w' := by
  obtain ⟨i0, hi, hz0, hz1, hz2⟩ := info_parts infoPage
  go_enter Tryz.func14, Tryz.ntmps14
  go_wp2_with fail
  go_loopw [4] (fun i wr => NewRel w n i wr) (fun i _ => (96 + (n : Int) - intOf i).toNat)
  case atStart => exact ⟨0, _, by omega, rfl, hid ⟨Blk.made _ _ _, World.ownsRow_nil _ _ _ _, qL⟩⟩
  case round =>
    obtain ⟨k, v, hk, rfl, HA⟩ := hrel
    have kb := HA.out.blk.cell 0
    have kb' : wr.cell? ⟨w.heap.size, 0, none⟩ = some v := kb
    have hfb := HA.out.blk.free 0
    have hlt : w.heap.size < wr.heap.size := HA.out.blk.lt
    clear kb
    by_cases hk2 : k < n
    · have b1 : decide ((96 : Int) + k < 96 + n) = true := by simp; omega
      go_wp2_with (at_builtin; refine halt ?_)
      refine unhalt ?_
      refine wpList_append_mine rfl (.tmp 18) (.tmp 21) 42 rfl (w.heap.size + 1) 75 i0 _ 9 72 Tryz.underlying42 hi hz0 hz1 hz2 rfl (by decide) v k (pageCells (newPages k)) rfl
        (own_below HA.out.own (below_alloc (Below.refl _ _) _)) ⟨wr.heap.size, 0, none⟩ 1 1
        [.int .i64 (96 + k), .int .u64 256, .int .u64 0, .int .u64 0, .int .u64 0, .int .u64 0, .int .u64 0, .int .u64 0, .int .u64 0] rfl rfl (nine_news (cs := #[.int .i64 (96 + k), .int .u64 256, .int .u64 0, .int .u64 0, .int .u64 0, .int .u64 0, .int .u64 0, .int .u64 0, .int .u64 0]) (Blk.made _ _ _))
        (by intro u hu; simp at hu; rcases hu with rfl | rfl | rfl <;> rfl) (by omega) (by unfold maxLen; omega) (by omega) (by simp; omega) ?_
      intro g3 cap3 w3 hown3 hg3
      have hB3 := (HA.out.blk.alloc (.cells #[.int .i64 (96 + k), .int .u64 256, .int .u64 0, .int .u64 0, .int .u64 0, .int .u64 0, .int .u64 0, .int .u64 0, .int .u64 0] 75)).grown hg3 (own_ne HA.out.own (by omega))
      have hL3 := below_grown (w := w) (by have hbw := HA.out.below; exact qL) hg3 (fun j hj => by have := own_row_ge HA.out.own j hj; omega)
      have HB3 := hid hB3
      have HL3 := hid hL3
      have HW3 := hid hown3
      have k0 := hB3.cell 0
      have k0' : w3.cell? ⟨w.heap.size, 0, none⟩ = some v := k0
      have f0 := hB3.free 0
      clear hB3 hL3 hown3 hg3 k0
      go_wp2_with fail
      refine ⟨⟨k + 1, _, by omega, by rw [show (96 + (k : Int) + 1) = 96 + ((k + 1 : Nat) : Int) by omega], hid ⟨(HB3.out.put 0 _).cast rfl, ?_, HL3.out.setCell (by show w.heap.size ≤ w.heap.size; omega) _⟩⟩, by simp [intOf]; omega⟩
      rw [newPages_succ]
      exact own_aside HW3.out (by show w.heap.size < w.heap.size + 1; omega) _
    · obtain rfl : k = n := by omega
      go_wp2_with fail
      refine bodyPost_ret (results_tmp rfl _ _ _) rfl ⟨v, rfl, HA.out⟩
def SrcAt (w : World) (v : Value) (m : Nat) (news : List Value) : Prop :=
  (v = .slice none 0 0 ∧ m = 0 ∧ news = []) ∨ ∃ ad c, v = .slice (some ad) m c ∧ (∀ j u, news[j]? = some u → w.cell? (ad.add j) = some u) ∧ (∀ u ∈ news, u.oneCell' = true)
theorem wp_append_src {P : Program} {w : World} {o : Oper} {a : Act} {K : Act → World → Prop} {Q : Exit → Act → World → Prop} (s x : Operand) (t : TypeId)
    (ho : o.op = .call { callee := .builtin .append, args := #[s, x], argTypes := #[t, t] })
    (base : Nat) (e : TypeId) (i : TypeInfo) (z : Value) (size bytes : Nat) (ht : P.underlying t = some (.slice e)) (hi : P.info? e = some i) (hz : i.zero = some z)
    (hsize : i.size = size) (hby : i.bytes = bytes) (hzs : z.cells.size = size) (hsz : 0 < size)
    (v : Value) (n : Nat) (xs : List Value) (hs : a.eval s = v) (hown : w.ownsRow base e size v n xs)
    (vx : Value) (m : Nat) (news : List Value) (hx : a.eval x = vx) (hsrc : SrcAt w vx m news) (hl : news.length = m * size)
    (h63 : n + m ≤ maxLen) (hbytes : (n + m) * bytes ≤ 140737488355328) (hbase : base ≤ w.heap.size)
    (h : ∀ v' w', w'.ownsRow base e size v' (n + m) (xs ++ news) → w.grownBy w' v.ownBlock → K (a.put o.dst v') w') : o.wp P a w K Q := by
  rcases hsrc with ⟨rfl, rfl, rfl⟩ | ⟨ad, c, rfl, hnews, h1⟩
  · have hr := run_append_owned_none (P := P) (w := w) base t o.type e i size ht hi v n xs hown
    unfold Oper.wp execOp
    simp only [ho, resolve, invoke, builtin, Sem.run_bind, Sem.run_pure, Result.andThen_ok, List.map_toArray, List.map_cons, List.map_nil, hs, hx, hr]
    exact h v w (by simpa using hown) ⟨rfl, rfl, rfl, Nat.le_refl _, fun _ _ _ => rfl⟩
  · exact wp_append_own w s x t ho base e i z size bytes ht hi hz hsize hby hzs hsz v n xs hs hown ad m c news hx hl hnews h1 h63 hbytes hbase fun v' w' h2 h3 _ => h v' w' h2 h3
theorem isortNone (p : Option Addr) (cap : Nat) (w : World) : Calls Tryz.prog 241 #[.slice p 0 cap, .int .i64 0, .int .i64 0, cmpAsc] w fun e w' => e = .returned (.tuple #[]) ∧ Below w.heap.size w w' := by
  unfold cmpAsc
  go_enter Tryz.func241, Tryz.ntmps241
  go_wp2_with fail
  refine wp_loop_rounds 1 ?_
  rw [rounds_succ]
  go_wp2_with fail
  exact bodyPost_end (results_none rfl _ _ _) rfl ⟨rfl, qL⟩
theorem stableNone (p : Option Addr) (cap : Nat) (w : World) : Calls Tryz.prog 291 #[.slice p 0 cap, .int .i64 0, cmpAsc] w fun e w' => e = .returned (.tuple #[]) ∧ Below w.heap.size w w' := by
  have HI := hid (fun W => isortNone p cap W)
  unfold cmpAsc at HI ⊢
  go_enter Tryz.func291, Tryz.ntmps291
  go_wp2_with fail
  refine wp_loop_rounds 1 ?_
  rw [rounds_succ]
  go_wp2_with fail
  go_at_call 241; refine (HI.out _).mono ?_; rintro e1 w1 ⟨rfl, hb⟩
  have HB := hid hb
  clear hb
  go_wp2_with fail
  refine wp_loop_rounds 1 ?_
  rw [rounds_succ]
  go_wp2_with fail
  exact bodyPost_end (results_none rfl _ _ _) rfl ⟨rfl, HB.out⟩
theorem ascNone (p : Option Addr) (cap : Nat) (w : World) : Calls Tryz.prog 197 #[.slice p 0 cap] w fun e w' => e = .returned (.slice p 0 cap) ∧ Below w.heap.size w w' := by
  have HS : Hid (∀ W, Calls Tryz.prog 250 #[.slice p 0 cap, cmpAsc] W fun e w' => e = .returned (.tuple #[]) ∧ Below W.heap.size W w') := hid (by
    intro W
    have HI := hid (fun W => stableNone p cap W)
    unfold cmpAsc at HI ⊢
    go_enter Tryz.func250, Tryz.ntmps250
    go_wp2_with fail
    go_at_call 291; refine (HI.out _).mono ?_; rintro e1 w1 ⟨rfl, hb⟩
    have HB := hid hb
    clear hb
    go_wp2_with fail
    exact bodyPost_end (results_none rfl _ _ _) rfl ⟨rfl, HB.out⟩)
  unfold cmpAsc at HS
  go_enter Tryz.func197, Tryz.ntmps197
  go_wp2_with fail
  go_at_call 250; refine (HS.out _).mono ?_; rintro e1 w1 ⟨rfl, hb⟩
  have HB := hid hb
  clear hb
  go_wp2_with fail
  refine bodyPost_ret (results_tmp rfl _ _ _) rfl ⟨rfl, HB.out⟩
theorem asc_ok (g cap : Nat) (l0 : List Bt.Page) (n : Nat) (hn : n = l0.length) (hsm : n ≤ 1000000) (w : World) (h : PRow w g cap l0) :
    Calls Tryz.prog 197 #[.slice (some ⟨g, 0, none⟩) n cap] w fun e w' => e = .returned (.slice (some ⟨g, 0, none⟩) n cap) ∧ (∃ l', PRow w' g cap l' ∧ l'.Perm l0 ∧ Srt.Asc 0 n l') ∧ Over g w w' := by
  have HS : Hid (Calls Tryz.prog 250 #[.slice (some ⟨g, 0, none⟩) n cap, cmpAsc] w (StablePost g cap n l0 w)) := hid (by
    have HI := hid (stable g cap l0 n hn hsm w h)
    clear hn h
    unfold cmpAsc at HI ⊢
    go_enter Tryz.func250, Tryz.ntmps250
    go_wp2_with fail
    go_at_call 291; refine HI.out.mono ?_; rintro e1 w1 ⟨rfl, hb⟩
    have HB := hid hb
    clear hb
    go_wp2_with fail
    exact bodyPost_end (results_none rfl _ _ _) rfl ⟨rfl, HB.out⟩)
  clear hn h
  unfold cmpAsc at HS
  go_enter Tryz.func197, Tryz.ntmps197
  go_wp2_with fail
  go_at_call 250; refine HS.out.mono ?_; rintro e1 w1 ⟨rfl, hb⟩
  have HB := hid hb
  clear hb
  go_wp2_with fail
  refine bodyPost_ret (results_tmp rfl _ _ _) rfl ⟨rfl, HB.out⟩
theorem PgRow.src {w : World} {v : Value} {l : List Bt.Page} (h : PgRow w v l) : SrcAt w v l.length (pageCells l) := by
  have h1 : ∀ u ∈ pageCells l, u.oneCell' = true := by
    intro u hu
    simp only [pageCells, List.mem_flatMap] at hu
    obtain ⟨p, _, hp⟩ := hu
    simp [Bt.Page.cells] at hp
    rcases hp with rfl | rfl | rfl | rfl | rfl | rfl | rfl | rfl | rfl <;> rfl
  rcases h.form with ⟨rfl, rfl⟩ | ⟨b, cap, rfl, hlt, hc⟩
  · exact .inl ⟨rfl, rfl, rfl⟩
  · refine .inr ⟨_, cap, rfl, fun j u hj => ?_, h1⟩
    have e : (⟨b, 0, none⟩ : Addr).add j = ⟨b, j, none⟩ := by rw [Addr.add_mid, Nat.zero_add]
    rw [e]
    have hk : j = j / 9 * 9 + j % 9 := by omega
    rw [hk, pgc_at l _ _ (Nat.mod_lt _ (by omega))] at hj
    rw [hk]
    rcases hp : l[j / 9]? with _ | p
    · rw [hp] at hj; simp at hj
    · rw [hp] at hj; exact hc _ p hp _ u (by simpa using hj)
theorem PgRow.slice {w : World} {v : Value} {l : List Bt.Page} (h : PgRow w v l) : ∃ p c, v = .slice p l.length c := by
  rcases h.form with ⟨rfl, rfl⟩ | ⟨b, cap, rfl, _⟩
  · exact ⟨none, 0, rfl⟩
  · exact ⟨_, _, rfl⟩
theorem growNil (n : Nat) (hn : n ≤ 1000000) (w : World) : Calls Tryz.prog 249 #[.slice none 0 0, .int .i64 n] w fun e w' => ∃ v, e = .returned v ∧ w'.ownsRow w.heap.size 75 9 v 0 [] ∧ Below w.heap.size w w' := by
  obtain ⟨i0, hi, hz0, hz1, hz2⟩ := info_parts infoPage
  by_cases h0 : n = 0
  · subst h0
    go_enter Tryz.func249, Tryz.ntmps249
    go_wp2_with fail
    refine bodyPost_ret (results_tmp rfl _ _ _) rfl ⟨_, rfl, World.ownsRow_nil _ _ _ _, qL⟩
  · have hz := fun ty => Lib.run_append_nil_zeros (P := Tryz.prog) w 42 3 ty 75 i0 _ .i64 .i64 Tryz.underlying42 Tryz.underlying3 hi hz0 n (by omega) (by rw [hz1]; omega) (by omega) (by rw [hz2]; omega)
    have hGn : n ≤ grownCap w n 0 75 := grownCap_ge w _ _ _
    obtain ⟨G, hG⟩ : ∃ G, G = grownCap w n 0 75 := ⟨_, rfl⟩
    rw [← hG] at hz hGn
    have hG63 : G ≤ 9223372036854775807 := by
      have := grownCap_le_maxLen w n 0 75 (by unfold maxLen; omega)
      rw [← hG] at this
      unfold maxLen at this
      omega
    clear hG
    have HZ := hid hz
    clear hz
    have b1 : decide ((n : Int) < 0) = false := by simp
    have b2 : decide ((0 : Int) < n) = true := by simp; omega
    have b3 : decide (0 < n) = true := by simp; omega
    have b4 : IntKind.i64.wrap ((n : Int) - 0) = n := by rw [IntKind.wrap_i64]; omega
    go_enter Tryz.func249, Tryz.ntmps249
    go_wp2_with (at_builtin; refine Lib.wpList_append_run _ rfl _ _ _ _ rfl _ _ rfl rfl _ _ (HZ.out _) ?_)
    refine bodyPost_ret (results_tmp rfl _ _ _) rfl ⟨_, rfl, ⟨rfl, .inr ⟨w.heap.size, G, _, rfl, Nat.le_refl _, Blk.made _ _ _, by omega, by unfold maxLen; omega, ?_, rfl⟩⟩, qL⟩
    simp [Builtin.zeroCells, Value.cells]
    omega
theorem concat2 (K W : List Bt.Page) (vK vW : Value) (g2 : Nat) (w : World) (hK : PgRow w vK K) (hW : PgRow w vW W) (h0 : w.cell? ⟨g2, 0, none⟩ = some vK) (h1 : w.cell? ⟨g2, 1, none⟩ = some vW) (hg : g2 < w.heap.size) (hsm : K.length + W.length ≤ 1000000) :
    Calls Tryz.prog 196 #[.slice (some ⟨g2, 0, none⟩) 2 2] w fun e w' => ∃ v, e = .returned v ∧ w'.ownsRow w.heap.size 75 9 v (K.length + W.length) (pageCells (K ++ W)) ∧ Below w.heap.size w w' := by
  obtain ⟨i0, hi, hz0, hz1, hz2⟩ := info_parts infoPage
  obtain ⟨pK, cK, rfl⟩ := hK.slice
  obtain ⟨pW, cW, rfl⟩ := hW.slice
  have HK := hid hK
  have HW := hid hW
  obtain ⟨k, hk⟩ : ∃ k, K.length = k := ⟨_, rfl⟩
  obtain ⟨m, hm⟩ : ∃ k, W.length = k := ⟨_, rfl⟩
  rw [hk] at HK h0 hsm ⊢
  rw [hm] at HW h1 hsm ⊢
  have HKM := hid (And.intro hk hm)
  clear hK hW hk hm
  have s1 : IntKind.i64.wrap ((k : Int) + m) = ((k + m : Nat) : Int) := by rw [IntKind.wrap_i64]; omega
  have s2 : decide (((k + m : Nat) : Int) < 0) = false := by simp; omega
  have HGR : Hid (∀ W, Calls Tryz.prog 249 #[.slice none 0 0, .int .i64 ((k : Int) + m)] W fun e w' => ∃ v, e = .returned v ∧ w'.ownsRow W.heap.size 75 9 v 0 [] ∧ Below W.heap.size W w') :=
    hid (fun W => by rw [show (k : Int) + m = ((k + m : Nat) : Int) by omega]; exact growNil (k + m) (by omega) W)
  go_enter Tryz.func196, Tryz.ntmps196
  go_wp2_with fail
  refine wp_loop_rounds 3 ?_
  rw [rounds_succ]
  go_wp2_with fail
  rw [rounds_succ]
  go_wp2_with fail
  rw [rounds_succ]
  go_wp2_with fail
  go_at_call 249; refine (HGR.out _).mono ?_; rintro e1 w1 ⟨v, rfl, hown, hb⟩
  ((obtain ⟨hc1, hf1, hs1⟩ := qR hb); (try have := qN0 w w1))
  have HB1 := hid hb
  have HO1 := hid hown
  clear hb hown
  go_wp2_with fail
  refine wp_loop_rounds 3 ?_
  rw [rounds_succ]
  go_wp2_with (at_builtin; refine halt ?_)
  refine unhalt ?_
  refine wpList_plain rfl fun K hK => ?_
  refine wp_append_src (.tmp 31) (.tmp 32) 42 rfl w.heap.size 75 i0 _ 9 72 Tryz.underlying42 hi hz0 hz1 hz2 rfl (by decide) v 0 [] rfl HO1.out (.slice pK k cK) k (pageCells _) rfl (HKM.out.1 ▸ (HK.out.below HB1.out).src) (by rw [pgc_len, HKM.out.1]) (by unfold maxLen; omega) (by omega) (by omega) ?_
  intro v1 w2 hown2 hg2
  refine hK _ _ ?_
  clear hK K
  rw [Nat.zero_add, List.nil_append] at hown2
  have hb2 : Below w.heap.size w w2 := below_grown HB1.out hg2 (fun j hj => by have := own_row_ge HO1.out j hj; omega)
  ((obtain ⟨hc2, hf2, hs2⟩ := qR hb2); (try have := qN0 w w2))
  have HB2 := hid hb2
  have HO2 := hid hown2
  clear hb2 hown2 hg2
  go_wp2_with fail
  rw [rounds_succ]
  go_wp2_with (at_builtin; refine halt ?_)
  refine unhalt ?_
  refine wpList_plain rfl fun K hK => ?_
  refine wp_append_src (.tmp 31) (.tmp 32) 42 rfl w.heap.size 75 i0 _ 9 72 Tryz.underlying42 hi hz0 hz1 hz2 rfl (by decide) v1 k _ rfl HO2.out (.slice pW m cW) m (pageCells _) rfl (HKM.out.2 ▸ (HW.out.below HB2.out).src) (by rw [pgc_len, HKM.out.2]) (by unfold maxLen; omega) (by omega) (by omega) ?_
  intro v2 w3 hown3 hg3
  refine hK _ _ ?_
  clear hK K
  have hb3 : Below w.heap.size w w3 := below_grown HB2.out hg3 (fun j hj => by have := own_row_ge HO2.out j hj; omega)
  ((obtain ⟨hc3, hf3, hs3⟩ := qR hb3); (try have := qN0 w w3))
  have HB3 := hid hb3
  have HO3 := hid hown3
  clear hb3 hown3 hg3
  go_wp2_with fail
  rw [rounds_succ]
  go_wp2_with fail
  refine bodyPost_ret (results_tmp rfl _ _ _) rfl ⟨v2, rfl, ?_, HB3.out⟩
  have := HO3.out
  rwa [show pageCells _ ++ pageCells _ = pageCells (_ ++ _) from List.flatMap_append.symm] at this
end Go.Proofs.YtcoiehgcfjfhaaaGreatDoor
namespace Go.Proofs.YtcoiehgcfjfhaaaGreatDoor
namespace Rf
open Bt
section
variable {α : Type} {f : α → Bool} {l : List α} {k : Nat}
def pos (f : α → Bool) (l : List α) : Nat := (l.takeWhile f).length
theorem pos_le (f : α → Bool) (l : List α) : pos f l ≤ l.length := (List.takeWhile_prefix f).length_le
theorem pos_all (f : α → Bool) : ∀ (l : List α) (i : Nat) (h : i < l.length), i < pos f l → f l[i] = true := by
  intro l
  induction l with
  | nil => intro i h; simp at h
  | cons a l ih =>
    intro i h hi
    unfold pos at hi
    rw [List.takeWhile_cons] at hi
    split at hi
    · rename_i hf
      rcases i with _ | i
      · simpa using hf
      · simp only [List.getElem_cons_succ]
        exact ih i (by simpa using h) (by simpa [pos] using hi)
    · simp at hi
theorem pos_not (f : α → Bool) : ∀ (l : List α) (h : pos f l < l.length), f l[pos f l] = false := by
  intro l
  induction l with
  | nil => intro h; simp at h
  | cons a l ih =>
    intro h
    rcases hf : f a with _ | _
    · have : pos f (a :: l) = 0 := by simp [pos, List.takeWhile_cons, hf]
      simp [this, hf]
    · have e : pos f (a :: l) = pos f l + 1 := by simp [pos, List.takeWhile_cons, hf]
      have h' : pos f l < l.length := by rw [e] at h; simpa using h
      simp only [e, List.getElem_cons_succ]
      exact ih h'
theorem pos_next (hk : k ≤ pos f l) (h : k < l.length) (hf : f l[k] = true) : k + 1 ≤ pos f l := by
  rcases Nat.lt_or_ge k (pos f l) with h1 | h1
  · omega
  · have e : pos f l = k := by omega
    have := pos_not f l (by omega)
    simp only [e] at this
    rw [this] at hf
    cases hf
theorem pos_stop (hk : k ≤ pos f l) (h : k < l.length) (hf : f l[k] = false) : pos f l = k := by
  rcases Nat.lt_or_ge k (pos f l) with h1 | h1
  · have := pos_all f l k h h1
    rw [this] at hf
    cases hf
  · omega
theorem pos_end (hk : k ≤ pos f l) (h : ¬ k < l.length) : pos f l = k := by have := pos_le f l; omega
end
def addLine (l : List Int) (x : Int) : List Int :=
  let i := pos (fun y => decide (y < x)) l
  if l[i]? = some x then l else l.take i ++ x :: l.drop i
def missing (known : List Page) (lines : List Int) : List Int := lines.foldl (fun out x => if (latest known x).isSome then out else addLine out x) []
def putPage (l : List Page) (p : Page) : List Page :=
  let i := pos (fun q => decide (q.line < p.line)) l
  if (l[i]?).map (·.line) = some p.line then l.set i p else l.take i ++ p :: l.drop i
def merge (below above : List Page) : List Page := (below ++ above).foldl putPage []
theorem putPage_len (l : List Page) (p : Page) : (putPage l p).length ≤ l.length + 1 := by
  unfold putPage
  simp only
  split
  · simp
  · have := pos_le (fun q : Page => decide (q.line < p.line)) l
    simp; omega
theorem merge_len_aux (xs : List Page) : ∀ l : List Page, (xs.foldl putPage l).length ≤ l.length + xs.length := by
  induction xs with
  | nil => intro l; simp
  | cons p xs ih =>
    intro l
    have h1 := ih (putPage l p)
    have h2 := putPage_len l p
    simp only [List.foldl_cons, List.length_cons]
    omega
theorem merge_len (a b : List Page) : (merge a b).length ≤ a.length + b.length := by
  have := merge_len_aux (a ++ b) []
  simpa [merge] using this
theorem putPage_mem {l : List Page} {p q : Page} (h : q ∈ putPage l p) : q = p ∨ q ∈ l := by
  unfold putPage at h
  simp only at h
  split at h
  · exact (List.mem_or_eq_of_mem_set h).symm
  · rcases List.mem_append.1 h with h | h
    · exact .inr (List.mem_of_mem_take h)
    · rcases List.mem_cons.1 h with h | h
      · exact .inl h
      · exact .inr (List.mem_of_mem_drop h)
theorem merge_mem_aux (xs : List Page) : ∀ (l : List Page) (q : Page), q ∈ xs.foldl putPage l → q ∈ xs ∨ q ∈ l := by
  induction xs with
  | nil => intro l q h; exact .inr h
  | cons p xs ih =>
    intro l q h
    rcases ih _ q h with h | h
    · exact .inl (List.mem_cons_of_mem _ h)
    · rcases putPage_mem h with h | h
      · exact .inl (h ▸ List.mem_cons_self)
      · exact .inr h
theorem merge_mem {a b : List Page} {q : Page} (h : q ∈ merge a b) : q ∈ a ∨ q ∈ b := by
  rcases merge_mem_aux _ [] q h with h | h
  · exact List.mem_append.1 h
  · simp at h
theorem merge_ok {a b : List Page} (ha : ∀ p ∈ a, p.Ok) (hb : ∀ p ∈ b, p.Ok) : ∀ p ∈ merge a b, p.Ok := fun p h => (merge_mem h).elim (ha p) (hb p)
end Rf
end Go.Proofs.YtcoiehgcfjfhaaaGreatDoor
namespace Go.Proofs.YtcoiehgcfjfhaaaGreatDoor
open Go.RowKit
def heldR (v : Value) : Option (DataW Value × List MemPlace) := some (.held v, [])
def mapD (l : List Bt.Page) : DataW Value := l.foldl (fun D p => D.put (.int .i64 p.line) (.held (.agg p.cells))) (.map [])
theorem mapD_snoc (l : List Bt.Page) (p : Bt.Page) : mapD (l ++ [p]) = (mapD l).put (.int .i64 p.line) (.held (.agg p.cells)) := by simp [mapD, List.foldl_append]
theorem latest_snoc (l : List Bt.Page) (p : Bt.Page) (x : Int) : Bt.latest (l ++ [p]) x = if p.line = x then some p else Bt.latest l x := by
  unfold Bt.latest
  rw [List.reverse_append]
  simp only [List.reverse_cons, List.reverse_nil, List.nil_append, List.singleton_append, List.find?_cons]
  by_cases h : p.line = x <;> simp [h]
theorem mapD_facts (l : List Bt.Page) : Maps.IsMap (mapD l) ∧ ∀ x, Maps.has (mapD l) (.int .i64 x) = (Bt.latest l x).isSome ∧ ∀ p, Bt.latest l x = some p → ∀ z, (mapD l).atKey (.int .i64 x) z = .held (.agg p.cells) := by
  have main : ∀ (n : Nat) (l : List Bt.Page), l.length = n → Maps.IsMap (mapD l) ∧ ∀ x, Maps.has (mapD l) (.int .i64 x) = (Bt.latest l x).isSome ∧ ∀ p, Bt.latest l x = some p → ∀ z, (mapD l).atKey (.int .i64 x) z = .held (.agg p.cells) := by
    intro n
    induction n with
    | zero =>
      intro l hl
      obtain rfl := List.length_eq_zero_iff.1 hl
      exact ⟨Maps.isMap_empty, fun x => ⟨rfl, fun p hp => by simp [Bt.latest] at hp⟩⟩
    | succ n ih =>
      intro l hl
      obtain ⟨l', p, rfl⟩ : ∃ l' p, l = l' ++ [p] := by
        rcases List.eq_nil_or_concat l with rfl | ⟨l', p, rfl⟩
        · simp at hl
        · exact ⟨l', p, by simp⟩
      obtain ⟨h1, h2⟩ := ih l' (by simpa using hl)
      refine ⟨by rw [mapD_snoc]; exact h1.put _ _, fun x => ?_⟩
      rw [mapD_snoc, latest_snoc]
      by_cases hx : p.line = x
      · subst hx
        refine ⟨by rw [Maps.has_put_same h1 (show WideAt.IsKeyLit (.int .i64 p.line) from trivial)]; simp, fun q hq z => ?_⟩
        rw [if_pos rfl] at hq
        obtain rfl := Option.some.inj hq
        exact Maps.atKey_put_same h1 (show WideAt.IsKeyLit (.int .i64 p.line) from trivial) _ _
      · have hne : (Lit.int .i64 x) ≠ .int .i64 p.line := by intro e; simp at e; exact hx e.symm
        rw [if_neg hx]
        refine ⟨by rw [Maps.has_put_other hne]; exact (h2 x).1, fun q hq z => ?_⟩
        rw [Maps.atKey_put_other hne]
        exact (h2 x).2 q hq z
  exact main _ l rfl
theorem mapD_size (l : List Bt.Page) : Maps.Tidy (mapD l) ∧ Maps.size (mapD l) ≤ l.length := by
  have main : ∀ (n : Nat) (l : List Bt.Page), l.length = n → Maps.Tidy (mapD l) ∧ Maps.size (mapD l) ≤ l.length := by
    intro n
    induction n with
    | zero =>
      intro l hl
      obtain rfl := List.length_eq_zero_iff.1 hl
      exact ⟨Maps.tidy_empty, Nat.le_refl _⟩
    | succ n ih =>
      intro l hl
      obtain ⟨l', p, rfl⟩ : ∃ l' p, l = l' ++ [p] := by
        rcases List.eq_nil_or_concat l with rfl | ⟨l', p, rfl⟩
        · simp at hl
        · exact ⟨l', p, by simp⟩
      obtain ⟨h1, h2⟩ := ih l' (by simpa using hl)
      rw [mapD_snoc]
      refine ⟨h1.put (show WideAt.IsKeyLit (.int .i64 p.line) from trivial) _, ?_⟩
      rw [Maps.size_put h1]
      simp only [List.length_append, List.length_cons, List.length_nil]
      split <;> omega
  exact main _ l rfl
theorem latest_line {l : List Bt.Page} {x : Int} {p : Bt.Page} (h : Bt.latest l x = some p) : p.line = x ∧ p ∈ l := by
  unfold Bt.latest at h
  have h1 := List.find?_some h
  have h2 := List.mem_of_find?_eq_some h
  exact ⟨by simpa using h1, by simpa using h2⟩
structure Gathered (l : List Bt.Page) (left : Lit → Bool) (L : List Bt.Page) : Prop where
  from_ : ∀ p ∈ L, Bt.latest l p.line = some p ∧ left (.int .i64 p.line) = false
  all : ∀ x p, Bt.latest l x = some p → left (.int .i64 x) = false → p ∈ L
  nodup : (L.map (·.line)).Nodup
theorem gathered_start (l : List Bt.Page) : Gathered l (Maps.has (mapD l)) [] :=
  ⟨fun p hp => (by simp at hp), fun x p hp hl => (by rw [((mapD_facts l).2 x).1, hp] at hl; cases hl), (by simp)⟩
theorem gathered_step {l : List Bt.Page} {left : Lit → Bool} {L : List Bt.Page} {p : Bt.Page} (h : Gathered l left L) (hp : Bt.latest l p.line = some p) (hl : left (.int .i64 p.line) = true) :
    Gathered l (fun z => left z && !z.sameKey (.int .i64 p.line)) (L ++ [p]) := by
  have hnot : p ∉ L := fun hm => by rw [(h.from_ p hm).2] at hl; cases hl
  have hline : ∀ q ∈ L, q.line ≠ p.line := fun q hq e => by
    have := (h.from_ q hq).2
    rw [e, hl] at this
    cases this
  refine ⟨fun q hq => ?_, fun x q hq hf => ?_, ?_⟩
  · rcases List.mem_append.1 hq with hq | hq
    · exact ⟨(h.from_ q hq).1, by rw [(h.from_ q hq).2]; rfl⟩
    · obtain rfl : q = p := by simpa using hq
      refine ⟨hp, ?_⟩
      rw [hl]
      have : (Lit.int .i64 q.line).sameKey (.int .i64 q.line) = true := by simp [Lit.sameKey]
      rw [this]
      rfl
  · by_cases e : x = p.line
    · subst e
      rw [hp] at hq
      obtain rfl := Option.some.inj hq
      exact List.mem_append_right _ (by simp)
    · have hne : (Lit.int .i64 x) ≠ .int .i64 p.line := fun e2 => e (by simpa using e2)
      rw [Maps.sameKey_ne hne] at hf
      exact List.mem_append_left _ (h.all x q hq (by simpa using hf))
  · rw [List.map_append, List.nodup_append]
    refine ⟨h.nodup, by simp, fun a ha b hb => ?_⟩
    simp at hb
    subst hb
    obtain ⟨q, hq, rfl⟩ := List.mem_map.1 ha
    exact hline q hq
def Sorted (l : List Bt.Page) : Prop := l.Pairwise (fun p q => p.line < q.line)
theorem putPage_sorted {l : List Bt.Page} (h : Sorted l) (p : Bt.Page) : Sorted (Rf.putPage l p) ∧ ∀ q, q ∈ Rf.putPage l p ↔ q = p ∨ (q ∈ l ∧ q.line ≠ p.line) := by
  induction l with
  | nil =>
    have e : Rf.putPage [] p = [p] := by simp [Rf.putPage, Rf.pos]
    rw [e]
    exact ⟨List.pairwise_singleton _ _, fun q => by simp⟩
  | cons a l ih =>
    obtain ⟨h1, h2⟩ := List.pairwise_cons.1 h
    rcases Int.lt_trichotomy a.line p.line with hc | hc | hc
    · have e : Rf.putPage (a :: l) p = a :: Rf.putPage l p := by
        have hp : Rf.pos (fun q : Bt.Page => decide (q.line < p.line)) (a :: l) = Rf.pos (fun q : Bt.Page => decide (q.line < p.line)) l + 1 := by simp [Rf.pos, List.takeWhile_cons, hc]
        simp only [Rf.putPage, hp, List.getElem?_cons_succ, List.set_cons_succ, List.take_succ_cons, List.drop_succ_cons]
        split <;> rfl
      obtain ⟨i1, i2⟩ := ih h2
      rw [e]
      refine ⟨List.pairwise_cons.2 ⟨fun q hq => ?_, i1⟩, fun q => ?_⟩
      · rcases (i2 q).1 hq with rfl | ⟨hq, _⟩
        · exact hc
        · exact h1 q hq
      · rw [List.mem_cons, i2, List.mem_cons]
        constructor
        · rintro (rfl | rfl | ⟨h3, h4⟩)
          · exact .inr ⟨.inl rfl, by omega⟩
          · exact .inl rfl
          · exact .inr ⟨.inr h3, h4⟩
        · rintro (rfl | ⟨rfl | h3, h4⟩)
          · exact .inr (.inl rfl)
          · exact .inl rfl
          · exact .inr (.inr ⟨h3, h4⟩)
    · have e : Rf.putPage (a :: l) p = p :: l := by
        have hp : Rf.pos (fun q : Bt.Page => decide (q.line < p.line)) (a :: l) = 0 := by simp [Rf.pos, List.takeWhile_cons, hc]
        simp [Rf.putPage, hp, hc]
      rw [e]
      refine ⟨List.pairwise_cons.2 ⟨fun q hq => by have := h1 q hq; omega, h2⟩, fun q => ?_⟩
      rw [List.mem_cons, List.mem_cons]
      constructor
      · rintro (rfl | h3)
        · exact .inl rfl
        · exact .inr ⟨.inr h3, by have := h1 q h3; omega⟩
      · rintro (rfl | ⟨rfl | h3, h4⟩)
        · exact .inl rfl
        · exact absurd hc h4
        · exact .inr h3
    · have e : Rf.putPage (a :: l) p = p :: a :: l := by
        have hp : Rf.pos (fun q : Bt.Page => decide (q.line < p.line)) (a :: l) = 0 := by
          simp only [Rf.pos, List.takeWhile_cons]
          rw [if_neg (by simp; omega)]
          rfl
        simp [Rf.putPage, hp]
        intro e
        omega
      rw [e]
      refine ⟨List.pairwise_cons.2 ⟨fun q hq => ?_, h⟩, fun q => ?_⟩
      · rcases List.mem_cons.1 hq with rfl | hq
        · exact hc
        · have := h1 q hq; omega
      · rw [List.mem_cons, List.mem_cons]
        constructor
        · rintro (rfl | rfl | h3)
          · exact .inl rfl
          · exact .inr ⟨.inl rfl, by omega⟩
          · exact .inr ⟨.inr h3, by have := h1 q h3; omega⟩
        · rintro (rfl | ⟨h3, h4⟩)
          · exact .inl rfl
          · exact .inr h3
theorem fold_sorted (l : List Bt.Page) : Sorted (l.foldl Rf.putPage []) ∧ ∀ q, q ∈ l.foldl Rf.putPage [] ↔ Bt.latest l q.line = some q := by
  have main : ∀ (n : Nat) (l : List Bt.Page), l.length = n → Sorted (l.foldl Rf.putPage []) ∧ ∀ q, q ∈ l.foldl Rf.putPage [] ↔ Bt.latest l q.line = some q := by
    intro n
    induction n with
    | zero =>
      intro l hl
      obtain rfl := List.length_eq_zero_iff.1 hl
      exact ⟨List.Pairwise.nil, fun q => by simp [Bt.latest]⟩
    | succ n ih =>
      intro l hl
      obtain ⟨l', p, rfl⟩ : ∃ l' p, l = l' ++ [p] := by
        rcases List.eq_nil_or_concat l with rfl | ⟨l', p, rfl⟩
        · simp at hl
        · exact ⟨l', p, by simp⟩
      obtain ⟨h1, h2⟩ := ih l' (by simpa using hl)
      obtain ⟨h3, h4⟩ := putPage_sorted h1 p
      rw [List.foldl_append]
      refine ⟨h3, fun q => ?_⟩
      show q ∈ Rf.putPage _ p ↔ _
      rw [h4, h2, latest_snoc]
      by_cases e : p.line = q.line
      · rw [if_pos e]
        constructor
        · rintro (rfl | ⟨_, h6⟩)
          · rfl
          · exact absurd e.symm h6
        · intro h5
          exact .inl (Option.some.inj h5).symm
      · rw [if_neg e]
        constructor
        · rintro (rfl | ⟨h5, _⟩)
          · exact absurd rfl e
          · exact h5
        · intro h5
          exact .inr ⟨h5, fun e2 => e e2.symm⟩
  exact main _ l rfl
theorem gathered_end {l : List Bt.Page} {left : Lit → Bool} {L L' : List Bt.Page} (h : Gathered l left L) (hl : ∀ kl, left kl = false) (hp : L'.Perm L) (ha : Srt.Asc 0 L'.length L') : L' = l.foldl Rf.putPage [] := by
  obtain ⟨h1, h2⟩ := fold_sorted l
  refine Srt.asc_unique (Srt.asc_sorted ha (Srt.perm_lines hp h.nodup)) h1 fun q => ?_
  rw [hp.mem_iff, h2]
  exact ⟨fun hq => (h.from_ q hq).1, fun hq => h.all _ q hq (hl _)⟩
theorem own_shape {w : World} {base n size : Nat} {e : TypeId} {v : Value} {xs : List Value} (h : w.ownsRow base e size v n xs) : ∃ p cap, v = .slice p n cap := by
  rcases h.2 with ⟨rfl, h0⟩ | ⟨g, cap, _, hv, _⟩
  · exact ⟨none, 0, by rw [h0]⟩
  · exact ⟨_, cap, hv⟩
end Go.Proofs.YtcoiehgcfjfhaaaGreatDoor
