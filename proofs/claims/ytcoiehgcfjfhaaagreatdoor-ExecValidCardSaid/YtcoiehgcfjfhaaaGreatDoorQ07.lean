/- slices.symMergeCmpFunc on pages. -/
import Derived.Test.YtcoiehgcfjfhaaaGreatDoorQ06
set_option linter.all false
set_option maxRecDepth 20000
set_option maxHeartbeats 8000000
open Go.Lib (hid)
namespace Go.Proofs.YtcoiehgcfjfhaaaGreatDoor
open Go.RowKit
def SymAt (N : Nat) : Prop := ∀ (g cap : Nat) (l0 : List Bt.Page) (a m b n : Nat), b - a ≤ N → n = l0.length → n ≤ 1000000 → a < m → m < b → b ≤ n → ∀ (w : World), PRow w g cap l0 → Srt.Asc a m l0 → Srt.Asc m b l0 →
    Calls Tryz.prog 309 #[.slice (some ⟨g, 0, none⟩) n cap, .int .i64 a, .int .i64 m, .int .i64 b, cmpAsc] w (SortPost g cap a b l0 w)
theorem sym_left (g cap : Nat) (l0 : List Bt.Page) (a m b n : Nat) (hn : n = l0.length) (hsm : n ≤ 1000000) (ham : m = a + 1) (hmb : m < b) (hb : b ≤ n) (w : World) (h : PRow w g cap l0) (h2 : Srt.Asc m b l0) :
    Calls Tryz.prog 309 #[.slice (some ⟨g, 0, none⟩) n cap, .int .i64 a, .int .i64 m, .int .i64 b, cmpAsc] w (SortPost g cap a b l0 w) := by
  have HP := hid h
  have HN := hid hn
  have HA := hid ham
  have w1 : IntKind.i64.wrap ((m : Int) - a) = 1 := by rw [IntKind.wrap_i64]; omega
  have h2' : Srt.Asc (a + 1) b l0 := by rw [← ham]; exact h2
  have H2 := hid h2'
  have ham' : a < m := by omega
  obtain ⟨p, hp⟩ : ∃ p, l0[a]'(by omega) = p := ⟨_, rfl⟩
  have hpa := h.cells a p (by rw [← hp]; exact List.getElem?_eq_getElem (by omega))
  have hlt := h.lt
  have HPE : Hid (l0[a]? = some p) := hid (by rw [← hp]; exact List.getElem?_eq_getElem (by omega))
  have HLP : Hid (Srt.ln l0 a = p.line) := hid (by rw [Srt.ln_at (by omega), hp])
  have a2 : decide ((a : Int) < 0) = false := by simp
  have a3 : decide ((a : Int) < (n : Int)) = true := by simp; omega
  have a4 : (0 : Int) ≤ a := by omega
  have a5 : (a : Int) < (n : Int) := by omega
  clear h hn h2 h2' ham hp hpa
  unfold cmpAsc SortPost
  go_enter Tryz.func309, Tryz.ntmps309
  go_wp2_with fail
  go_loopw [10, 11] (fun x y wr => ∃ (i j : Nat), x = .int .i64 i ∧ y = .int .i64 j ∧ m ≤ i ∧ i ≤ j ∧ j ≤ b ∧ Hid ((i = m ∨ Srt.ln l0 (i - 1) < Srt.ln l0 a) ∧ (j = b ∨ Srt.ln l0 a ≤ Srt.ln l0 j) ∧ Below w.heap.size w wr)) (fun x y _ => (intOf y - intOf x).toNat)
  case atStart => exact ⟨m, b, rfl, rfl, by omega, by omega, by omega, hid ⟨.inl rfl, .inl rfl, Below.refl _ _⟩⟩
  case round =>
    obtain ⟨i, j, rfl, rfl, hmi, hij, hjb, HR⟩ := hrel
    by_cases hlij : i < j
    · have b1 : decide ((i : Int) < j) = true := by simp; omega
      have b2 : decide (i < j) = true := by simp; omega
      obtain ⟨S, hS⟩ : ∃ S : Int, (i : Int) + j = S := ⟨_, rfl⟩
      have wS : IntKind.i64.wrap ((i : Int) + j) = S := by rw [IntKind.wrap_i64]; omega
      have wU : IntKind.u64.wrap S = S := by rw [IntKind.wrap_u64]; omega
      obtain ⟨H, hH⟩ : ∃ H : Int, S / 2 = H := ⟨_, rfl⟩
      have hHn : H = (((i + j) / 2 : Nat) : Int) := by omega
      have j2 : decide (H < 0) = false := by simp; omega
      have j3 : decide (H < (n : Int)) = true := by simp; omega
      have j4 : 0 ≤ H := by omega
      have j5 : H < (n : Int) := by omega
      have wH : IntKind.i64.wrap (H + 1) = H + 1 := by rw [IntKind.wrap_i64]; omega
      have hHt : H.toNat = (i + j) / 2 := by omega
      have hHl : H.toNat < l0.length := by have := HN.out; omega
      have hbw : Below w.heap.size w wr := HR.out.2.2
      have PR : PRow wr g cap l0 := HP.out.below hbw
      have hltr := PR.lt
      obtain ⟨x, hx⟩ : ∃ x, l0[H.toNat] = x := ⟨_, rfl⟩
      obtain ⟨c0, c1, c2, c3, c4, c5, c6, c7, c8⟩ := nine (PR.cells H.toNat x (by rw [← hx]; exact List.getElem?_eq_getElem hHl))
      obtain ⟨d0, d1, d2, d3, d4, d5, d6, d7, d8⟩ := nine (PR.cells a p (by have := HPE.out; exact this))
      have HX : Hid (Srt.ln l0 ((i + j) / 2) = x.line) := hid (by rw [← hHt, Srt.ln_at hHl, hx])
      have HBW := hid hbw
      have HHN := hid hHn
      clear hx hHt hHn hS PR hbw
      by_cases hxy : x.line < p.line
      · have hcmp : decide (Lib.compareInt x.line p.line < 0) = true := by rw [cmp_neg]; simp [hxy]
        go_wp2_with fail
        refine qA fun hSt => ?_
        refine qS [0, 1, 2, 3, 4, 5, 6, 7, 8] ?_
        iterate 9 (refine qT ?_; simp only [Act.put, qY])
        refine TakeSeq.done ?_
        refine qH 9 fun K hK => ?_
        go_simp
        go_at_call 251; refine (cmpAsc_any x p _).mono ?_; rintro e w2 ⟨rfl, hb⟩; ((obtain ⟨hc1, hf1, hs1⟩ := qR hb); (try have := qN0 wr w2))
        go_wp2_with fail
        refine hK.out _ _ (SteadyAll.of qL) (fun hHeld => ?_)
        clear hK K
        refine qS [10] ?_
        refine qT ?_; simp only [Act.put, qY]
        refine TakeSeq.done ?_
        refine qD ?_ _
        go_wp2_with fail
        have hb2 : Below w.heap.size w w2 := by have := HBW.out; exact qL
        have e1 := HHN.out
        exact ⟨⟨(i + j) / 2 + 1, j, by rw [e1]; simp, rfl, by omega, by omega, by omega, hid ⟨.inr (by rw [show (i + j) / 2 + 1 - 1 = (i + j) / 2 by omega, HX.out, HLP.out]; exact hxy), HR.out.2.1, hb2⟩⟩, by simp [intOf]; omega⟩
      · have hcmp : decide (Lib.compareInt x.line p.line < 0) = false := by rw [cmp_neg]; simp [hxy]
        go_wp2_with fail
        refine qA fun hSt => ?_
        refine qS [0, 1, 2, 3, 4, 5, 6, 7, 8] ?_
        iterate 9 (refine qT ?_; simp only [Act.put, qY])
        refine TakeSeq.done ?_
        refine qH 9 fun K hK => ?_
        go_simp
        go_at_call 251; refine (cmpAsc_any x p _).mono ?_; rintro e w2 ⟨rfl, hb⟩; ((obtain ⟨hc1, hf1, hs1⟩ := qR hb); (try have := qN0 wr w2))
        go_wp2_with fail
        refine hK.out _ _ (SteadyAll.of qL) (fun hHeld => ?_)
        clear hK K
        refine qS [10] ?_
        refine qT ?_; simp only [Act.put, qY]
        refine TakeSeq.done ?_
        refine qD ?_ _
        go_wp2_with fail
        have hb2 : Below w.heap.size w w2 := by have := HBW.out; exact qL
        have e1 := HHN.out
        exact ⟨⟨i, (i + j) / 2, rfl, by rw [e1], by omega, by omega, by omega, hid ⟨HR.out.1, .inr (by rw [HX.out, HLP.out]; omega), hb2⟩⟩, by simp [intOf]; omega⟩
    · obtain rfl : i = j := by omega
      have b1 : decide ((i : Int) < i) = false := by simp
      have HI : Hid ((∀ y, a + 1 ≤ y → y < i → Srt.ln l0 y ≤ Srt.ln l0 a) ∧ (∀ y, i ≤ y → y < b → Srt.ln l0 a ≤ Srt.ln l0 y)) := hid ⟨fun y y1 y2 => by
        rcases HR.out.1 with e | e
        · have := HA.out; omega
        · have := H2.out y (i - 1) y1 (by omega) (by omega); omega, fun y y1 y2 => by
        rcases HR.out.2.1 with e | e
        · omega
        · have := H2.out i y (by have := HA.out; omega) y1 y2; omega⟩
      obtain ⟨I1, hI1⟩ : ∃ I : Int, (i : Int) - 1 = I := ⟨_, rfl⟩
      have wI1 : IntKind.i64.wrap ((i : Int) - 1) = I1 := by rw [IntKind.wrap_i64]; omega
      obtain ⟨w0, hw0⟩ : ∃ w0, w0 = wr := ⟨_, rfl⟩
      have PR : PRow w0 g cap l0 := hw0 ▸ HP.out.below HR.out.2.2
      have OR : Over g w w0 := hw0 ▸ Over.of_below HR.out.2.2
      have HPR := hid (And.intro PR OR)
      clear PR OR
      subst hw0
      go_wp2_with fail
      go_loopw [13] (fun z wr => ∃ (k : Nat) (l : List Bt.Page), z = .int .i64 k ∧ a ≤ k ∧ k + 1 ≤ i ∧ Hid (PRow wr g cap l ∧ Srt.Turn a (a + 1) (k + 1) l0 l ∧ Over g w wr)) (fun z _ => ((i : Int) - intOf z).toNat)
      case atStart => exact ⟨a, l0, rfl, by omega, by omega, hid ⟨HPR.out.1, Srt.turn_none _ _ _ _ (.inr rfl) (by omega) (by omega), HPR.out.2⟩⟩
      case round =>
        obtain ⟨k, l, rfl, hak, hki, HQ⟩ := hrel
        have hlen : l.length = n := by have := HQ.out.2.1.part.len; have := HN.out; omega
        by_cases hk1 : k + 1 < i
        · have b3 : decide ((k : Int) < I1) = true := by simp; omega
          obtain ⟨J, hJ⟩ : ∃ J : Int, (k : Int) = J := ⟨_, rfl⟩
          obtain ⟨K, hK⟩ : ∃ K : Int, (k : Int) + 1 = K := ⟨_, rfl⟩
          have wK : IntKind.i64.wrap (J + 1) = K := by rw [IntKind.wrap_i64]; omega
          rw [hJ] at b3 ⊢
          have hJt : J.toNat = k := by omega
          have hKt : K.toNat = k + 1 := by omega
          have j2 : decide (J < 0) = false := by simp; omega
          have j3 : decide (J < (n : Int)) = true := by simp; omega
          have j4 : 0 ≤ J := by omega
          have j5 : J < (n : Int) := by omega
          have k2 : decide (K < 0) = false := by simp; omega
          have k3 : decide (K < (n : Int)) = true := by simp; omega
          have k4 : 0 ≤ K := by omega
          have k5 : K < (n : Int) := by omega
          have hjl : J.toNat < l.length := by omega
          have hkl : K.toNat < l.length := by omega
          have hltr := HQ.out.1.lt
          have hfr := HQ.out.1.free
          obtain ⟨x, hx⟩ : ∃ x, l[J.toNat] = x := ⟨_, rfl⟩
          obtain ⟨y, hy⟩ : ∃ y, l[K.toNat] = y := ⟨_, rfl⟩
          obtain ⟨c0, c1, c2, c3, c4, c5, c6, c7, c8⟩ := nine (HQ.out.1.cells J.toNat x (by rw [← hx]; exact List.getElem?_eq_getElem hjl))
          obtain ⟨d0, d1, d2, d3, d4, d5, d6, d7, d8⟩ := nine (HQ.out.1.cells K.toNat y (by rw [← hy]; exact List.getElem?_eq_getElem hkl))
          have HX := hid (And.intro hx hy)
          have HL := hid (And.intro (And.intro hJ hK) (And.intro hlen (And.intro hJt hKt)))
          clear hx hy hJ hK hlen hJt hKt
          have n00 : (J.toNat * 9 = K.toNat * 9) = False := eq_false (by have := HL.out; omega)
          have n01 : ∀ b, b < 9 → (J.toNat * 9 = K.toNat * 9 + b) = False := fun b hb => eq_false (by have := HL.out; omega)
          have n10 : ∀ a, a < 9 → (J.toNat * 9 + a = K.toNat * 9) = False := fun b hb => eq_false (by have := HL.out; omega)
          have n11 : ∀ a b, a < 9 → b < 9 → (J.toNat * 9 + a = K.toNat * 9 + b) = False := fun a b ha hb => eq_false (by have := HL.out; omega)
          go_wp2_with fail
          go_region
          go_wp2_with fail
          have P1 := HQ.out.1.swap hjl hkl
          rw [HX.out.1, HX.out.2, swap_world] at P1
          have ho := HQ.out.2.2
          obtain ⟨⟨e4, e5⟩, e1, e2, e3⟩ := HL.out
          refine ⟨⟨k + 1, Srt.sw l k (k + 1), by rw [← e5]; simp, by omega, by omega, hid ⟨?_, Srt.turn_up HQ.out.2.1 hak (by have := HN.out; omega), ?_⟩⟩, by simp [intOf]; omega⟩
          · rw [e2, e3] at P1 ⊢
            first | with_reducible exact P1 | with_reducible exact P1.drew
          · exact qV
        · have b3 : decide ((k : Int) < I1) = false := by simp; omega
          have e : k + 1 = i := by omega
          go_wp2_with fail
          have := Srt.one_left H2.out (by have := HA.out; omega) hjb HI.out.1 HI.out.2 (e ▸ HQ.out.2.1)
          exact bodyPost_ret (results_none rfl _ _ _) rfl ⟨rfl, ⟨l, HQ.out.1, this.1, this.2⟩, HQ.out.2.2⟩
theorem sym_right (g cap : Nat) (l0 : List Bt.Page) (a m b n : Nat) (hn : n = l0.length) (hsm : n ≤ 1000000) (ham : b = m + 1) (ham1 : a + 1 < m) (hb : b ≤ n) (w : World) (h : PRow w g cap l0) (h2 : Srt.Asc a m l0) :
    Calls Tryz.prog 309 #[.slice (some ⟨g, 0, none⟩) n cap, .int .i64 a, .int .i64 m, .int .i64 b, cmpAsc] w (SortPost g cap a b l0 w) := by
  have HP := hid h
  have HN := hid hn
  have HA := hid ham
  obtain ⟨D0, hD0⟩ : ∃ D : Int, (m : Int) - a = D := ⟨_, rfl⟩
  have w0 : IntKind.i64.wrap ((m : Int) - a) = D0 := by rw [IntKind.wrap_i64]; omega
  have d0e : (D0 == 1) = false := by simp; omega
  have w1 : IntKind.i64.wrap ((b : Int) - m) = 1 := by rw [IntKind.wrap_i64]; omega
  have H2 := hid h2
  have hmb : m < b := by omega
  have hmn : m < n := by omega
  clear hD0
  obtain ⟨p, hp⟩ : ∃ p, l0[m]'(by omega) = p := ⟨_, rfl⟩
  have hpa := h.cells m p (by rw [← hp]; exact List.getElem?_eq_getElem (by omega))
  have hlt := h.lt
  have HPE : Hid (l0[m]? = some p) := hid (by rw [← hp]; exact List.getElem?_eq_getElem (by omega))
  have HLP : Hid (Srt.ln l0 m = p.line) := hid (by rw [Srt.ln_at (by omega), hp])
  have a2 : decide ((m : Int) < 0) = false := by simp
  have a3 : decide ((m : Int) < (n : Int)) = true := by simp; omega
  have a4 : (0 : Int) ≤ m := by omega
  have a5 : (m : Int) < (n : Int) := by omega
  clear h hn h2 ham hp hpa
  unfold cmpAsc SortPost
  go_enter Tryz.func309, Tryz.ntmps309
  go_wp2_with fail
  go_loopw [14, 15] (fun x y wr => ∃ (i j : Nat), x = .int .i64 i ∧ y = .int .i64 j ∧ a ≤ i ∧ i ≤ j ∧ j ≤ m ∧ Hid ((i = a ∨ Srt.ln l0 (i - 1) ≤ Srt.ln l0 m) ∧ (j = m ∨ Srt.ln l0 m < Srt.ln l0 j) ∧ Below w.heap.size w wr)) (fun x y _ => (intOf y - intOf x).toNat)
  case atStart => exact ⟨a, m, rfl, rfl, by omega, by omega, by omega, hid ⟨.inl rfl, .inl rfl, Below.refl _ _⟩⟩
  case round =>
    obtain ⟨i, j, rfl, rfl, hmi, hij, hjb, HR⟩ := hrel
    by_cases hlij : i < j
    · have b1 : decide ((i : Int) < j) = true := by simp; omega
      have b2 : decide (i < j) = true := by simp; omega
      obtain ⟨S, hS⟩ : ∃ S : Int, (i : Int) + j = S := ⟨_, rfl⟩
      have wS : IntKind.i64.wrap ((i : Int) + j) = S := by rw [IntKind.wrap_i64]; omega
      have wU : IntKind.u64.wrap S = S := by rw [IntKind.wrap_u64]; omega
      obtain ⟨H, hH⟩ : ∃ H : Int, S / 2 = H := ⟨_, rfl⟩
      have hHn : H = (((i + j) / 2 : Nat) : Int) := by omega
      have j2 : decide (H < 0) = false := by simp; omega
      have j3 : decide (H < (n : Int)) = true := by simp; omega
      have j4 : 0 ≤ H := by omega
      have j5 : H < (n : Int) := by omega
      have wH : IntKind.i64.wrap (H + 1) = H + 1 := by rw [IntKind.wrap_i64]; omega
      have hHt : H.toNat = (i + j) / 2 := by omega
      have hHl : H.toNat < l0.length := by have := HN.out; omega
      have hbw : Below w.heap.size w wr := HR.out.2.2
      have PR : PRow wr g cap l0 := HP.out.below hbw
      have hltr := PR.lt
      obtain ⟨x, hx⟩ : ∃ x, l0[H.toNat] = x := ⟨_, rfl⟩
      obtain ⟨c0, c1, c2, c3, c4, c5, c6, c7, c8⟩ := nine (PR.cells H.toNat x (by rw [← hx]; exact List.getElem?_eq_getElem hHl))
      obtain ⟨d0, d1, d2, d3, d4, d5, d6, d7, d8⟩ := nine (PR.cells m p (by have := HPE.out; exact this))
      have HX : Hid (Srt.ln l0 ((i + j) / 2) = x.line) := hid (by rw [← hHt, Srt.ln_at hHl, hx])
      have HBW := hid hbw
      have HHN := hid hHn
      clear hx hHt hHn hS PR hbw
      by_cases hxy : ¬ p.line < x.line
      · have hcmp : decide (Lib.compareInt p.line x.line < 0) = false := by rw [cmp_neg]; simpa using hxy
        go_wp2_with fail
        refine qA fun hSt => ?_
        refine qS [0, 1, 2, 3, 4, 5, 6, 7, 8] ?_
        iterate 9 (refine qT ?_; simp only [Act.put, qY])
        refine TakeSeq.done ?_
        refine qH 9 fun K hK => ?_
        go_simp
        go_at_call 251; refine (cmpAsc_any p x _).mono ?_; rintro e w2 ⟨rfl, hb⟩; ((obtain ⟨hc1, hf1, hs1⟩ := qR hb); (try have := qN0 wr w2))
        go_wp2_with fail
        refine hK.out _ _ (SteadyAll.of qL) (fun hHeld => ?_)
        clear hK K
        refine qS [10, 11] ?_
        iterate 2 (refine qT ?_; simp only [Act.put, qY])
        refine TakeSeq.done ?_
        refine qD ?_ _
        go_wp2_with fail
        have hb2 : Below w.heap.size w w2 := by have := HBW.out; exact qL
        have e1 := HHN.out
        exact ⟨⟨(i + j) / 2 + 1, j, by rw [e1]; simp, rfl, by omega, by omega, by omega, hid ⟨.inr (by rw [show (i + j) / 2 + 1 - 1 = (i + j) / 2 by omega, HX.out, HLP.out]; omega), HR.out.2.1, hb2⟩⟩, by simp [intOf]; omega⟩
      · have hcmp : decide (Lib.compareInt p.line x.line < 0) = true := by rw [cmp_neg]; simpa using hxy
        go_wp2_with fail
        refine qA fun hSt => ?_
        refine qS [0, 1, 2, 3, 4, 5, 6, 7, 8] ?_
        iterate 9 (refine qT ?_; simp only [Act.put, qY])
        refine TakeSeq.done ?_
        refine qH 9 fun K hK => ?_
        go_simp
        go_at_call 251; refine (cmpAsc_any p x _).mono ?_; rintro e w2 ⟨rfl, hb⟩; ((obtain ⟨hc1, hf1, hs1⟩ := qR hb); (try have := qN0 wr w2))
        go_wp2_with fail
        refine hK.out _ _ (SteadyAll.of qL) (fun hHeld => ?_)
        clear hK K
        refine qS [10, 11] ?_
        iterate 2 (refine qT ?_; simp only [Act.put, qY])
        refine TakeSeq.done ?_
        refine qD ?_ _
        go_wp2_with fail
        have hb2 : Below w.heap.size w w2 := by have := HBW.out; exact qL
        have e1 := HHN.out
        exact ⟨⟨i, (i + j) / 2, rfl, by rw [e1], by omega, by omega, by omega, hid ⟨HR.out.1, .inr (by rw [HX.out, HLP.out]; omega), hb2⟩⟩, by simp [intOf]; omega⟩
    · obtain rfl : i = j := by omega
      have b1 : decide ((i : Int) < i) = false := by simp
      have HI : Hid ((∀ y, a ≤ y → y < i → Srt.ln l0 y ≤ Srt.ln l0 m) ∧ (∀ y, i ≤ y → y < m → Srt.ln l0 m ≤ Srt.ln l0 y)) := hid ⟨fun y y1 y2 => by
        rcases HR.out.1 with e | e
        · omega
        · have := H2.out y (i - 1) y1 (by omega) (by omega); omega, fun y y1 y2 => by
        rcases HR.out.2.1 with e | e
        · omega
        · have := H2.out i y hmi y1 y2; omega⟩
      obtain ⟨w0, hw0⟩ : ∃ w0, w0 = wr := ⟨_, rfl⟩
      have PR : PRow w0 g cap l0 := hw0 ▸ HP.out.below HR.out.2.2
      have OR : Over g w w0 := hw0 ▸ Over.of_below HR.out.2.2
      have HPR := hid (And.intro PR OR)
      clear PR OR
      subst hw0
      go_wp2_with fail
      go_loopw [17] (fun z wr => ∃ (k : Nat) (l : List Bt.Page), z = .int .i64 k ∧ i ≤ k ∧ k ≤ m ∧ Hid (PRow wr g cap l ∧ Srt.Turn k m (m + 1) l0 l ∧ Over g w wr)) (fun z _ => (intOf z).toNat)
      case atStart => exact ⟨m, l0, rfl, by omega, by omega, hid ⟨HPR.out.1, Srt.turn_none _ _ _ _ (.inl rfl) (by omega) (by omega), HPR.out.2⟩⟩
      case round =>
        obtain ⟨k, l, rfl, hak, hki, HQ⟩ := hrel
        have hlen : l.length = n := by have := HQ.out.2.1.part.len; have := HN.out; omega
        by_cases hk1 : i < k
        · have b3 : decide ((i : Int) < k) = true := by simp; omega
          obtain ⟨J, hJ⟩ : ∃ J : Int, (k : Int) = J := ⟨_, rfl⟩
          obtain ⟨K, hK⟩ : ∃ K : Int, (k : Int) - 1 = K := ⟨_, rfl⟩
          have wK : IntKind.i64.wrap (J - 1) = K := by rw [IntKind.wrap_i64]; omega
          rw [hJ] at b3 ⊢
          have hJt : J.toNat = k := by omega
          have hKt : K.toNat = k - 1 := by omega
          have j2 : decide (J < 0) = false := by simp; omega
          have j3 : decide (J < (n : Int)) = true := by simp; omega
          have j4 : 0 ≤ J := by omega
          have j5 : J < (n : Int) := by omega
          have k2 : decide (K < 0) = false := by simp; omega
          have k3 : decide (K < (n : Int)) = true := by simp; omega
          have k4 : 0 ≤ K := by omega
          have k5 : K < (n : Int) := by omega
          have hjl : J.toNat < l.length := by omega
          have hkl : K.toNat < l.length := by omega
          have hltr := HQ.out.1.lt
          have hfr := HQ.out.1.free
          obtain ⟨x, hx⟩ : ∃ x, l[J.toNat] = x := ⟨_, rfl⟩
          obtain ⟨y, hy⟩ : ∃ y, l[K.toNat] = y := ⟨_, rfl⟩
          obtain ⟨c0, c1, c2, c3, c4, c5, c6, c7, c8⟩ := nine (HQ.out.1.cells J.toNat x (by rw [← hx]; exact List.getElem?_eq_getElem hjl))
          obtain ⟨d0, d1, d2, d3, d4, d5, d6, d7, d8⟩ := nine (HQ.out.1.cells K.toNat y (by rw [← hy]; exact List.getElem?_eq_getElem hkl))
          have HX := hid (And.intro hx hy)
          have HL := hid (And.intro (And.intro hJ hK) (And.intro hlen (And.intro hJt hKt)))
          clear hx hy hJ hK hlen hJt hKt
          have n00 : (J.toNat * 9 = K.toNat * 9) = False := eq_false (by have := HL.out; omega)
          have n01 : ∀ b, b < 9 → (J.toNat * 9 = K.toNat * 9 + b) = False := fun b hb => eq_false (by have := HL.out; omega)
          have n10 : ∀ a, a < 9 → (J.toNat * 9 + a = K.toNat * 9) = False := fun b hb => eq_false (by have := HL.out; omega)
          have n11 : ∀ a b, a < 9 → b < 9 → (J.toNat * 9 + a = K.toNat * 9 + b) = False := fun a b ha hb => eq_false (by have := HL.out; omega)
          go_wp2_with fail
          go_region
          go_wp2_with fail
          have P1 := HQ.out.1.swap hjl hkl
          rw [HX.out.1, HX.out.2, swap_world] at P1
          have ho := HQ.out.2.2
          obtain ⟨⟨e4, e5⟩, e1, e2, e3⟩ := HL.out
          refine ⟨⟨k - 1, Srt.sw l k (k - 1), by rw [show K = ((k - 1 : Nat) : Int) by omega], by omega, by omega, hid ⟨?_, Srt.turn_down HQ.out.2.1 (by omega) hki (by have := HN.out; omega), ?_⟩⟩, by simp [intOf]; omega⟩
          · rw [e2, e3] at P1 ⊢
            first | with_reducible exact P1 | with_reducible exact P1.drew
          · exact qV
        · have b3 : decide ((i : Int) < k) = false := by simp; omega
          have e : k = i := by omega
          go_wp2_with fail
          have := Srt.one_right H2.out hmi hjb HI.out.1 HI.out.2 (e ▸ HQ.out.2.1)
          rw [← HA.out] at this
          exact bodyPost_ret (results_none rfl _ _ _) rfl ⟨rfl, ⟨l, HQ.out.1, this.1, this.2⟩, HQ.out.2.2⟩
end Go.Proofs.YtcoiehgcfjfhaaaGreatDoor
