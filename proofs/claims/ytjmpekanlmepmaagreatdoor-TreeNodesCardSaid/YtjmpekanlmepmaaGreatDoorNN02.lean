/- Package pointer, third part: pages that are known. -/
import Derived.Test.YtjmpekanlmepmaaGreatDoorNN01
import Derived.Deep.MidRow
set_option linter.all false
set_option maxRecDepth 20000
set_option maxHeartbeats 8000000
open Go.Lib (hid)
namespace Go.Proofs.YtjmpekanlmepmaaGreatDoor
open Go.RowKit
structure PgRow (w : World) (v : Value) (l : List Bt.Page) : Prop where
 ok : ∀ p ∈ l, p.Ok
 len : l.length ≤ maxLen
 form : (v = .slice none 0 0 ∧ l = []) ∨ ∃ b cap, v = .slice (some ⟨b, 0, none⟩) l.length cap ∧ b < w.heap.size ∧ ∀ (i : Nat) (p : Bt.Page), l[i]? = some p → ∀ (j : Nat) (u : Value), p.cells[j]? = some u → w.cell? ⟨b, i * 9 + j, none⟩ = some u
theorem PgRow.kept {w w' : World} {v : Value} {l : List Bt.Page} {B : Nat} (h : PgRow w v l) (hb : Below B w w') (hB : ∀ b n c, v = .slice (some ⟨b, 0, none⟩) n c → b < B) : PgRow w' v l := by
 refine ⟨h.ok, h.len, ?_⟩
 rcases h.form with h1 | ⟨b, cap, hv, hlt, hcells⟩
 ·exact .inl h1
 ·exact .inr ⟨b, cap, hv, Nat.lt_of_lt_of_le hlt hb.size, fun i p hi j u hu => by rw [hb.cell (p := ⟨b, i * 9 + j, none⟩) (hB b _ _ hv)]; exact hcells i p hi j u hu⟩
theorem PgRow.below {w w' : World} {v : Value} {l : List Bt.Page} (h : PgRow w v l) (hb : Below w.heap.size w w') : PgRow w' v l := by
 refine h.kept hb fun b n c hv => ?_
 rcases h.form with ⟨h1, _⟩ | ⟨b', cap, hv', hlt, _⟩
 ·rw [hv] at h1; simp at h1
 ·rw [hv] at hv'; simp at hv'; omega
theorem Unpack_any (x : Int) (h0 : 0 ≤ x) (h1 : x < 4294967296) (w : World) : Calls Tryz.prog 40 #[.int .u32 x] w
 fun e w' => e = .returned (.agg #[.int .i64 (x % 256), .int .i64 (x / 256)]) ∧ Below w.heap.size w w' := by
 have e1 := and_u32_8 x h0 h1
 go_enter Tryz.func40, Tryz.ntmps40
 go_wp2
 refine bodyPost_ret (results_blk rfl _ _ w.heap.size 27 _ _ rfl (Blk.made _ _ _) Tryz.underlying27 rfl (by kernel_rfl)) rfl ⟨rfl, below_alloc (Below.refl _ _) _⟩
theorem latest_yes (known : List Bt.Page) (line : Int) (k : Nat) (h : k < known.length) (he : known[k].line = line) : Bt.latest (known.take (k + 1)) line = some known[k] := by
 unfold Bt.latest
 rw [List.take_succ_eq_append_getElem h, List.reverse_append]
 simp [he]
theorem latest_no (known : List Bt.Page) (line : Int) (k : Nat) (h : k < known.length) (he : ¬ known[k].line = line) : Bt.latest (known.take (k + 1)) line = Bt.latest (known.take k) line := by
 unfold Bt.latest
 rw [List.take_succ_eq_append_getElem h, List.reverse_append]
 simp [he]
theorem page_cells {w : World} {b : Nat} {known : List Bt.Page} (hcells : ∀ (i : Nat) (p : Bt.Page), known[i]? = some p → ∀ (j : Nat) (u : Value), p.cells[j]? = some u → w.cell? ⟨b, i * 9 + j, none⟩ = some u) (k : Nat) (h : k < known.length) :
 w.rangeAt b (k * 9) known[k].cells.toList := fun j u hu => hcells k known[k] (List.getElem?_eq_getElem h) j u (by simpa using hu)
theorem nine {w : World} {b k : Nat} {p : Bt.Page} (h : w.rangeAt b (k * 9) p.cells.toList) :
 w.cell? ⟨b, k * 9, none⟩ = some (.int .i64 p.line) ∧ w.cell? ⟨b, k * 9 + 1, none⟩ = some (.int .u64 p.head) ∧ w.cell? ⟨b, k * 9 + 2, none⟩ = some (.int .u64 p.d0) ∧
 w.cell? ⟨b, k * 9 + 3, none⟩ = some (.int .u64 p.d1) ∧ w.cell? ⟨b, k * 9 + 4, none⟩ = some (.int .u64 p.d2) ∧ w.cell? ⟨b, k * 9 + 5, none⟩ = some (.int .u64 p.d3) ∧
 w.cell? ⟨b, k * 9 + 6, none⟩ = some (.int .u64 p.d4) ∧ w.cell? ⟨b, k * 9 + 7, none⟩ = some (.int .u64 p.d5) ∧ w.cell? ⟨b, k * 9 + 8, none⟩ = some (.int .u64 p.d6) :=
 ⟨h 0 _ rfl, h 1 _ rfl, h 2 _ rfl, h 3 _ rfl, h 4 _ rfl, h 5 _ rfl, h 6 _ rfl, h 7 _ rfl, h 8 _ rfl⟩
theorem Latest_any (known : List Bt.Page) (v : Value) (line : Int) (w : World) (hk : PgRow w v known) : Calls Tryz.prog 78 #[v, .int .i64 line] w
 fun e w' => e = .returned (.tuple #[.agg ((Bt.latest known line).getD Bt.zeroPage).cells, .bool (Bt.latest known line).isSome]) ∧ Below w.heap.size w w' := by
 rcases hk.form with ⟨rfl, rfl⟩ | ⟨b, cap, rfl, hlt, hcells⟩
 ·go_enter Tryz.func78, Tryz.ntmps78
  go_wp2
  refine wp_loop_rounds 1 ?_
  rw [rounds_succ]
  go_wp2
  simp [bodyPost, results, Tryz.results78, go_sem]
  exact ⟨⟨rfl, rfl⟩, qL⟩
 ·have hlen := hk.len
  unfold maxLen at hlen
  have Hc := hid hcells
  clear hcells
  go_enter Tryz.func78, Tryz.ntmps78
  go_wp2
  go_loop [6] (fun i => ∃ k : Nat, k ≤ known.length ∧ i = .int .i64 ((k : Int) - 1) ∧ Hid (Bt.latest (known.take k) line = Bt.latest known line)) (fun i => (intOf i + 1).toNat)
  case atStart => exact ⟨known.length, Nat.le_refl _, rfl, hid (by rw [List.take_length])⟩
  case round =>
   obtain ⟨k, hkl, rfl, HL⟩ := hrel
   rcases k with _ | k
   ·have HN : Hid (none = Bt.latest known line) := hid HL.out
    go_wp2
    simp [bodyPost, results, Tryz.results78, go_sem]
    rw [← HN.out]
    exact ⟨⟨rfl, rfl⟩, qL⟩
   ·have hr := page_cells Hc.out k (by omega)
    obtain ⟨c0, c1, c2, c3, c4, c5, c6, c7, c8⟩ := nine hr
    clear hr
    have h0' : (((k + 1 : Nat) : Int) - 1) = (k : Int) := by omega
    rw [h0']
    by_cases he : known[k].line = line
    ·have hy := hid (latest_yes known line k (by omega) he)
     clear h0'
     rw [he] at c0
     obtain ⟨p, hp⟩ : ∃ p, p = known[k] := ⟨_, rfl⟩
     have HP := hid hp
     rw [← hp] at c1 c2 c3 c4 c5 c6 c7 c8
     clear hp
     go_wp2
     simp [bodyPost, results, Tryz.results78, go_sem]
     rw [← HL.out, hy.out, ← HP.out]
     have hl : p.line = line := by rw [HP.out]; exact he
     exact ⟨⟨by rw [← hl]; rfl, rfl⟩, qL⟩
    ·go_wp2
     go_round
     case rel => exact ⟨k, by omega, rfl, by rw [← latest_no known line k (by omega) he]; exact HL⟩
     case measure => simp [intOf]
def Bt.Look.page : Bt.Look → Bt.Page
 | .found p => p
 | _ => Bt.zeroPage
def Bt.Look.have_ : Bt.Look → Bool
 | .found _ => true
 | _ => false
def Bt.Look.code : Bt.Look → Int
 | .bad c => c
 | _ => 0
theorem latest_mem {known : List Bt.Page} {line : Int} {p : Bt.Page} (h : Bt.latest known line = some p) : p ∈ known ∧ p.line = line := by
 unfold Bt.latest at h
 have h1 := List.mem_of_find?_eq_some h
 have h2 := List.find?_some h
 exact ⟨by simpa using h1, by simpa using h2⟩
def LookPost (known : List Bt.Page) (p : Bt.Ptr) (kind : Int) (locks : Bool) (w : World) (e : Ending) (w' : World) : Prop :=
 e = .returned (.tuple #[.agg (Bt.lookup known p kind locks).page.cells, .bool (Bt.lookup known p kind locks).have_, .int .i64 (Bt.lookup known p kind locks).code]) ∧ Below w.heap.size w w'
theorem wG6 {P : Prop} (h : P := by
 unfold Bt.Ptr.cells
 first
  | clear tg51
    go_enter Tryz.func65, Tryz.ntmps65
    first
     | clear tg52
       go_wp2_with (go_at_call 75; refine (Valid_any _ _ _).mono ?_; rintro e w1 ⟨rfl, hb⟩; rw [Hv.out]; ((obtain ⟨hc1, hf1, hs1⟩ := qR hb); (try have := qN0 w w1); (try have := qN1 w w1)))
       have B := (made22 w (t := 25) (cs := Bt.zeroPage.cells)).kept hb
       refine bodyPost_ret (results_btt rfl _ _ (w.heap.size + 1) _ _ _ rfl (B.put9 _ _ _ _ _ _ _ _ _) Tryz.underlying25 rfl (by kernel_rfl)) rfl ⟨?_, qL⟩
       simp only [Bt.lookup, Hv.out]
       rfl
     | clear tg53
       go_wp2_with fail
       go_at_call 75; refine (Valid_any _ _ _).mono ?_; rintro e w1 ⟨rfl, hb⟩; rw [Hv.out]; ((obtain ⟨hc1, hf1, hs1⟩ := qR hb); (try have := qN0 w w1); (try have := qN1 w w1))
       have P1 : Hid (PgRow w1 v known) := hid (Hk.out.below (below_step qL hb))
       go_wp2_with fail
       go_at_call 78; refine (Latest_any known v _ _ P1.out).mono ?_; rintro e w2 ⟨rfl, hb2⟩; rw [Hl.out]; ((obtain ⟨hc2, hf2, hs2⟩ := qR hb2); (try have := qN0 w w2); (try have := qN1 w w2))
       first
        | clear tg54
          simp only [Option.getD_none, Option.isSome_none, Bt.Page.cells, Bt.zeroPage]
          go_wp2
          have B := ((made22 w (t := 25) (cs := Bt.zeroPage.cells)).kept hb).kept hb2
          (refine bodyPost_ret (results_btt rfl _ _ (w.heap.size + 1) _ _ _ rfl (by exact qK) Tryz.underlying25 rfl (by kernel_rfl)) rfl ⟨?_, ?_⟩)
          ·simp only [Bt.lookup, Hv.out, Hl.out]; rfl
          ·exact qL
        | clear tg55
          simp only [Option.getD_some, Option.isSome_some, Bt.Page.cells]
          go_wp2_with fail
          go_at_call 66; refine (tagOf_any page Hpok.out _).mono ?_; rintro e w3 ⟨rfl, hb3⟩; ((obtain ⟨hc3, hf3, hs3⟩ := qR hb3); (try have := qN0 w w3); (try have := qN1 w w3); (try have := qN0 w2 w3); (try have := qN1 w2 w3))
          have B := (((made22 w (t := 25) (cs := Bt.zeroPage.cells)).kept hb).kept hb2).alloc (.cells page.cells 25) |>.kept hb3
          simp only [Bt.zeroPage, Bt.Page.cells] at B
          first
           | clear tg56
             go_wp2_with fail
             go_at_call 80; refine (Locked_any page Hpok.out _).mono ?_; rintro e w4 ⟨rfl, hb4⟩; rw [HK.out]; ((obtain ⟨hc4, hf4, hs4⟩ := qR hb4); (try have := qN0 w w4); (try have := qN1 w w4); (try have := qN0 w2 w4); (try have := qN1 w2 w4); (try have := qN0 w3 w4); (try have := qN1 w3 w4))
             have B4 := (B.alloc _).kept hb4
             go_wp2
             all_goals ((refine bodyPost_ret (results_btt rfl _ _ (w.heap.size + 1) _ _ _ rfl (by have B := B4; exact qK) Tryz.underlying25 rfl (by kernel_rfl)) rfl ⟨?_, ?_⟩); (rotate_left; exact qL); (rw [HX.out, set9]; rfl))
           | clear tg57
             go_wp2
             all_goals ((refine bodyPost_ret (results_btt rfl _ _ (w.heap.size + 1) _ _ _ rfl (by exact qK) Tryz.underlying25 rfl (by kernel_rfl)) rfl ⟨?_, ?_⟩); (rotate_left; exact qL); (rw [HX.out, set9]; rfl))
  | clear tg58
    go_enter Tryz.func19, Tryz.ntmps19
    go_wp2
    simp [bodyPost, results, Tryz.results19, go_sem]
    exact qL) : P := h
theorem lookup_bad (known : List Bt.Page) (v : Value) (p : Bt.Ptr) (kind : Int) (locks : Bool) (w : World) (Hv : Hid (Bt.validP p = false)) : Calls Tryz.prog 65 #[v, .agg p.cells, .int .i64 kind, .bool locks] w (LookPost known p kind locks w) := by
 have tg51 := trivial
 have tg52 := trivial
 exact wG6
theorem lookup_none (known : List Bt.Page) (v : Value) (p : Bt.Ptr) (kind : Int) (locks : Bool) (w : World) (Hk : Hid (PgRow w v known)) (Hv : Hid (Bt.validP p = true)) (Hl : Hid (Bt.latest known p.line = none)) :
 Calls Tryz.prog 65 #[v, .agg p.cells, .int .i64 kind, .bool locks] w (LookPost known p kind locks w) := by
 have tg51 := trivial
 have tg53 := trivial
 have tg54 := trivial
 exact wG6
end Go.Proofs.YtjmpekanlmepmaaGreatDoor
