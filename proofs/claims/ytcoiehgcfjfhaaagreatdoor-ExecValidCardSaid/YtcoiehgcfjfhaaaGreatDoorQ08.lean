/- slices.symMergeCmpFunc on pages, whole. -/
import Derived.Test.YtcoiehgcfjfhaaaGreatDoorQ07
import Derived.Deep.CutBlock
import Derived.Deep.DeepCutAuto
import Derived.Deep.CutRange
set_option linter.all false
set_option maxRecDepth 20000
set_option maxHeartbeats 8000000
open Go.Lib (hid)
namespace Go.Proofs.YtcoiehgcfjfhaaaGreatDoor
open Go.RowKit
structure Found (l0 : List Bt.Page) (lo hi P s r : Nat) : Prop where
  left : s = lo ∨ Srt.ln l0 (s - 1) ≤ Srt.ln l0 (P - (s - 1))
  right : r = hi ∨ Srt.ln l0 (P - r) < Srt.ln l0 r
theorem sym_step (N : Nat) (IH : SymAt N) (g cap : Nat) (l0 : List Bt.Page) (a m b n : Nat) (hN : b - a ≤ N + 1) (hn : n = l0.length) (hsm : n ≤ 1000000) (ham : a + 1 < m) (hmb : m + 1 < b) (hb : b ≤ n) (w : World) (h : PRow w g cap l0) (h1 : Srt.Asc a m l0) (h2 : Srt.Asc m b l0) :
    Calls Tryz.prog 309 #[.slice (some ⟨g, 0, none⟩) n cap, .int .i64 a, .int .i64 m, .int .i64 b, cmpAsc] w (SortPost g cap a b l0 w) := by
  have HP := hid h
  have HN := hid hn
  have HH := hid (And.intro h1 h2)
  have HI := hid IH
  have HNN := hid hN
  obtain ⟨D0, hD0⟩ : ∃ D : Int, (m : Int) - a = D := ⟨_, rfl⟩
  have wD0 : IntKind.i64.wrap ((m : Int) - a) = D0 := by rw [IntKind.wrap_i64]; omega
  have d0e : (D0 == 1) = false := by simp; omega
  obtain ⟨D1, hD1⟩ : ∃ D : Int, (b : Int) - m = D := ⟨_, rfl⟩
  have wD1 : IntKind.i64.wrap ((b : Int) - m) = D1 := by rw [IntKind.wrap_i64]; omega
  have d1e : (D1 == 1) = false := by simp; omega
  obtain ⟨S0, hS0⟩ : ∃ D : Int, (a : Int) + b = D := ⟨_, rfl⟩
  have wS0 : IntKind.i64.wrap ((a : Int) + b) = S0 := by rw [IntKind.wrap_i64]; omega
  have wU0 : IntKind.u64.wrap S0 = S0 := by rw [IntKind.wrap_u64]; omega
  obtain ⟨mid, hmid⟩ : ∃ k : Nat, (a + b) / 2 = k := ⟨_, rfl⟩
  obtain ⟨MID, hMID⟩ : ∃ k : Int, S0 / 2 = k := ⟨_, rfl⟩
  have hMm : MID = (mid : Int) := by omega
  obtain ⟨NN, hNN⟩ : ∃ k : Int, MID + m = k := ⟨_, rfl⟩
  have wNN : IntKind.i64.wrap (MID + m) = NN := by rw [IntKind.wrap_i64]; omega
  obtain ⟨PP, hPP⟩ : ∃ k : Int, NN - 1 = k := ⟨_, rfl⟩
  have wPP : IntKind.i64.wrap (NN - 1) = PP := by rw [IntKind.wrap_i64]; omega
  obtain ⟨P, hP⟩ : ∃ k : Nat, mid + m - 1 = k := ⟨_, rfl⟩
  have hPPn : PP = (P : Int) := by omega
  obtain ⟨ST, hST⟩ : ∃ k : Int, NN - b = k := ⟨_, rfl⟩
  have wST : IntKind.i64.wrap (NN - b) = ST := by rw [IntKind.wrap_i64]; omega
  have HF := hid (And.intro hMm (And.intro hPPn (And.intro hmid (And.intro hP (And.intro hNN (And.intro hST hn))))))
  obtain ⟨lo, hi, hlh⟩ : ∃ lo hi : Nat, (mid < m ∧ lo = mid + m - b ∧ hi = mid) ∨ (¬ mid < m ∧ lo = a ∧ hi = m) := by
    by_cases hh : mid < m
    · exact ⟨_, _, .inl ⟨hh, rfl, rfl⟩⟩
    · exact ⟨_, _, .inr ⟨hh, rfl, rfl⟩⟩
  have hM0 : 0 ≤ MID := by omega
  have hM1 : MID ≤ 1000000 := by omega
  have HLH : Hid (lo ≤ hi ∧ a ≤ lo ∧ hi ≤ m ∧ hi ≤ mid ∧ P + 1 ≤ lo + b ∧ m + hi ≤ P + 1 ∧ (lo ≤ a ∨ b ≤ P + 1 - lo) ∧ (m ≤ hi ∨ P + 1 - hi ≤ m)) := hid (by rcases hlh with ⟨x1, x2, x3⟩ | ⟨x1, x2, x3⟩ <;> omega)
  have bm : decide (MID < (m : Int)) = decide (mid < m) := by rw [hMm]; simp
  obtain ⟨cb, hcb⟩ : ∃ cb : Bool, decide (MID < (m : Int)) = cb := ⟨_, rfl⟩
  have HHL := hid (And.intro hlh (And.intro bm hcb))
  clear h hn h1 h2 IH hN hD0 hD1 hS0 hmid hMm hNN hPP hP hPPn hST hlh bm hcb
  unfold cmpAsc SortPost
  go_enter Tryz.func309, Tryz.ntmps309
  go_upto_region 27 with (fail)
  go_cut [140] from 138 to 140 (fun c wx => c = .bool cb ∧ wx = w)
  case first =>
    -- DONE
    have bm := HHL.out.2.2
    go_wp2_with fail
    go_meet
    exact ⟨rfl, rfl⟩
    -- /DONE
  case rest =>
    obtain ⟨rfl, rfl⟩ := hcut
    go_step
    go_cut [20, 21] from 140 to 146 (fun x y wx => x = .int .i64 lo ∧ y = .int .i64 hi ∧ wx = wc)
    case first =>
      -- DONE
      cases cb with
      | true =>
        have HX : Hid (lo = mid + m - b ∧ hi = mid ∧ mid < m) := hid (by
          obtain ⟨hlh, bm, hcb⟩ := HHL.out
          rw [bm] at hcb
          have := of_decide_eq_true hcb
          omega)
        go_wp2_with fail
        go_meet
        exact ⟨by rw [show ST = (lo : Int) by have := HF.out; have := HX.out; omega], by rw [show MID = (hi : Int) by have := HF.out; have := HX.out; omega], rfl⟩
      | false =>
        have HX : Hid (lo = a ∧ hi = m) := hid (by
          obtain ⟨hlh, bm, hcb⟩ := HHL.out
          rw [bm] at hcb
          have := of_decide_eq_false hcb
          omega)
        go_wp2_with fail
        go_meet
        exact ⟨by rw [HX.out.1], by rw [HX.out.2], rfl⟩
      -- /DONE
    case rest =>
      obtain ⟨rfl, rfl, rfl⟩ := hcut
      obtain ⟨wy, hwy⟩ : ∃ wy, wy = wc := ⟨_, rfl⟩
      have HPY : Hid (PRow wy g cap l0) := hid (hwy ▸ HP.out)
      subst hwy
      clear HHL
      go_wp2_with fail
      go_loopw [20, 21] (fun x y wr => ∃ (s r : Nat), x = .int .i64 s ∧ y = .int .i64 r ∧ lo ≤ s ∧ s ≤ r ∧ r ≤ hi ∧ Hid (Found l0 lo hi P s r ∧ Below wy.heap.size wy wr)) (fun x y _ => (intOf y - intOf x).toNat)
      case atStart => exact ⟨lo, hi, rfl, rfl, by omega, HLH.out.1, by omega, hid ⟨⟨.inl rfl, .inl rfl⟩, Below.refl _ _⟩⟩
      case round =>
        obtain ⟨s, r, rfl, rfl, hls, hsr, hrh, HR⟩ := hrel
        by_cases hlsr : s < r
        · skip
          -- DONE
          have b1 : decide ((s : Int) < r) = true := by simp; omega
          have b2 : decide (s < r) = true := by simp; omega
          obtain ⟨q1, q2, q3, q4, q5, q6, q7, q8⟩ := HLH.out
          obtain ⟨p1, p2, p3, p4, p5, p6, p7⟩ := HF.out
          obtain ⟨S, hS⟩ : ∃ S : Int, (s : Int) + r = S := ⟨_, rfl⟩
          have wS : IntKind.i64.wrap ((s : Int) + r) = S := by rw [IntKind.wrap_i64]; omega
          have wU : IntKind.u64.wrap S = S := by rw [IntKind.wrap_u64]; omega
          obtain ⟨C, hC⟩ : ∃ H : Int, S / 2 = H := ⟨_, rfl⟩
          obtain ⟨c, hc⟩ : ∃ c : Nat, (s + r) / 2 = c := ⟨_, rfl⟩
          have hCn : C = (c : Int) := by omega
          obtain ⟨K, hK⟩ : ∃ H : Int, PP - C = H := ⟨_, rfl⟩
          have wK : IntKind.i64.wrap (PP - C) = K := by rw [IntKind.wrap_i64]; omega
          have j1 : C ≤ 1000000 := by omega
          have j2 : decide (C < 0) = false := by simp; omega
          have j3 : decide (C < (n : Int)) = true := by simp; omega
          have j4 : 0 ≤ C := by omega
          have j5 : C < (n : Int) := by omega
          have k2 : decide (K < 0) = false := by simp; omega
          have k3 : decide (K < (n : Int)) = true := by simp; omega
          have k4 : 0 ≤ K := by omega
          have k5 : K < (n : Int) := by omega
          have wC : IntKind.i64.wrap (C + 1) = C + 1 := by rw [IntKind.wrap_i64]; omega
          have hCt : C.toNat = c := by omega
          have hKt : K.toNat = P - c := by omega
          have hCl : C.toNat < l0.length := by omega
          have hKl : K.toNat < l0.length := by omega
          have hbw : Below wy.heap.size wy wr := HR.out.2
          have PR : PRow wr g cap l0 := HPY.out.below hbw
          have hltr := PR.lt
          obtain ⟨x, hx⟩ : ∃ x, l0[C.toNat] = x := ⟨_, rfl⟩
          obtain ⟨y, hy⟩ : ∃ y, l0[K.toNat] = y := ⟨_, rfl⟩
          obtain ⟨c0, c1, c2, c3, c4, c5, c6, c7, c8⟩ := nine (PR.cells C.toNat x (by rw [← hx]; exact List.getElem?_eq_getElem hCl))
          obtain ⟨d0, d1, d2, d3, d4, d5, d6, d7, d8⟩ := nine (PR.cells K.toNat y (by rw [← hy]; exact List.getElem?_eq_getElem hKl))
          have HX : Hid (Srt.ln l0 c = x.line ∧ Srt.ln l0 (P - c) = y.line) := hid ⟨by rw [← hCt, Srt.ln_at hCl, hx], by rw [← hKt, Srt.ln_at hKl, hy]⟩
          have HBW := hid hbw
          have HC := hid (And.intro hCn hc)
          clear hx hy hCt hKt hCn hc hS PR hbw hK q1 q2 q3 q4 q5 q6 q7 q8 p1 p2 p3 p4 p5 p6 p7
          by_cases hxy : ¬ y.line < x.line
          · have hcmp : decide (Lib.compareInt y.line x.line < 0) = false := by rw [cmp_neg]; simpa using hxy
            go_wp2_with fail
            refine qA fun hSt => ?_
            refine qS [0, 1, 2, 3, 4, 5, 6, 7, 8, 9, 10] ?_
            iterate 11 (refine qT ?_; simp only [Act.put, qY])
            refine TakeSeq.done ?_
            refine qH 11 fun K hK => ?_
            go_simp
            go_at_call 251; refine (cmpAsc_any y x _).mono ?_; rintro e w2 ⟨rfl, hb⟩; ((obtain ⟨hc1, hf1, hs1⟩ := qR hb); (try have := qN0 wr w2))
            go_wp2_with fail
            refine hK.out _ _ (SteadyAll.of qL) (fun hHeld => ?_)
            clear hK K
            refine qS [12, 13] ?_
            iterate 2 (refine qT ?_; simp only [Act.put, qY])
            refine TakeSeq.done ?_
            refine qD ?_ _
            go_wp2_with fail
            have hb2 : Below wy.heap.size wy w2 := by have := HBW.out; exact qL
            obtain ⟨e1, e2⟩ := HC.out
            exact ⟨⟨c + 1, r, by rw [e1]; simp, rfl, by omega, by omega, by omega, hid ⟨⟨.inr (by rw [Nat.add_sub_cancel, HX.out.1, HX.out.2]; omega), HR.out.1.right⟩, hb2⟩⟩, by simp [intOf]; omega⟩
          · have hcmp : decide (Lib.compareInt y.line x.line < 0) = true := by rw [cmp_neg]; simpa using hxy
            go_wp2_with fail
            refine qA fun hSt => ?_
            refine qS [0, 1, 2, 3, 4, 5, 6, 7, 8, 9, 10] ?_
            iterate 11 (refine qT ?_; simp only [Act.put, qY])
            refine TakeSeq.done ?_
            refine qH 11 fun K hK => ?_
            go_simp
            go_at_call 251; refine (cmpAsc_any y x _).mono ?_; rintro e w2 ⟨rfl, hb⟩; ((obtain ⟨hc1, hf1, hs1⟩ := qR hb); (try have := qN0 wr w2))
            go_wp2_with fail
            refine hK.out _ _ (SteadyAll.of qL) (fun hHeld => ?_)
            clear hK K
            refine qS [12, 13] ?_
            iterate 2 (refine qT ?_; simp only [Act.put, qY])
            refine TakeSeq.done ?_
            refine qD ?_ _
            go_wp2_with fail
            have hb2 : Below wy.heap.size wy w2 := by have := HBW.out; exact qL
            obtain ⟨e1, e2⟩ := HC.out
            exact ⟨⟨s, c, rfl, by rw [e1], by omega, by omega, by omega, hid ⟨⟨HR.out.1.left, .inr (by rw [HX.out.1, HX.out.2]; omega)⟩, hb2⟩⟩, by simp [intOf]; omega⟩
          -- /DONE
        · obtain rfl : s = r := by omega
          have b1 : decide ((s : Int) < s) = false := by simp
          obtain ⟨q1, q2, q3, q4, q5, q6, q7, q8⟩ := HLH.out
          obtain ⟨p1, p2, p3, p4, p5, p6, p7⟩ := HF.out
          obtain ⟨e, he⟩ : ∃ e : Nat, P + 1 - s = e := ⟨_, rfl⟩
          obtain ⟨EE, hEE⟩ : ∃ D : Int, NN - s = D := ⟨_, rfl⟩
          have wEE : IntKind.i64.wrap (NN - s) = EE := by rw [IntKind.wrap_i64]; omega
          have hEn : EE = (e : Int) := by omega
          have HO : Hid (a ≤ s ∧ s ≤ m ∧ m ≤ e ∧ e ≤ b ∧ s + e = mid + m ∧ mid ≤ b ∧ a < mid ∧ mid < b ∧ EE = (e : Int) ∧ MID = (mid : Int)) := hid (by omega)
          have HOR : Hid (∀ l1, Srt.Turn s m e l0 l1 → ∀ x y, a ≤ x → x < mid → mid ≤ y → y < b → Srt.ln l1 x ≤ Srt.ln l1 y) := hid fun l1 t => by
            refine Srt.halves_order HH.out.1 HH.out.2 (by omega) (by omega) (by omega) (by omega) (by omega) t ?_ ?_
            · have := Srt.search_low (s := s) (p := P) HH.out.1 HH.out.2 (by omega) (by omega) (by omega) (by omega) (by
                rcases HR.out.1.left with x | x
                · rcases q7 with x7 | x7 <;> omega
                · by_cases has : a < s
                  · exact .inr (.inr ⟨has, x⟩)
                  · exact .inl (by omega))
              rw [he] at this
              exact this
            · intro x y x1 x2 y1 y2
              by_cases hsp : s ≤ P
              · have := Srt.search_high (s := s) (p := P) HH.out.1 HH.out.2 (by omega) (by omega) hsp (by
                  rcases HR.out.1.right with z | z
                  · rcases q8 with x8 | x8 <;> omega
                  · exact .inr (.inr z))
                rw [he] at this
                exact this x y x1 x2 y1 y2
              · omega
          have HHV := hid (fun l1 (t : Srt.Turn s m e l0 l1) => Srt.halves HH.out.1 HH.out.2 (s := s) (e := e) (mid := mid) (by omega) (by omega) (by omega) (by omega) (by omega) t)
          obtain ⟨wz, hwz⟩ : ∃ wz, wz = wr := ⟨_, rfl⟩
          have HPZ : Hid (PRow wz g cap l0 ∧ Over g wy wz) := hid (hwz ▸ ⟨HPY.out.below HR.out.2, Over.of_below HR.out.2⟩)
          subst hwz
          clear HR q1 q2 q3 q4 q5 q6 q7 q8 p1 p2 p3 p4 p5 p6 p7 he hEE hEn
          obtain ⟨ca, hca⟩ : ∃ ca : Bool, decide (s < m ∧ m < e) = ca := ⟨_, rfl⟩
          have HCA := hid hca
          clear hca
          go_upto_region 39 with (fail)
          go_cut [185] from 178 to 185 (fun c wx => c = .bool ca ∧ wx = wz)
          case first =>
            -- DONE
            by_cases y1 : s < m
            · have bb : decide ((s : Int) < m) = true := by simp [y1]
              have bc : decide ((m : Int) < EE) = decide (m < e) := by rw [HO.out.2.2.2.2.2.2.2.2.1]; simp
              go_wp2_with fail
              go_meet
              exact ⟨by rw [← HCA.out]; simp [y1], rfl⟩
            · have bb : decide ((s : Int) < m) = false := by simp; omega
              go_wp2_with fail
              go_meet
              exact ⟨by rw [← HCA.out]; simp [y1], rfl⟩
            -- /DONE
          case rest =>
            obtain ⟨rfl, rfl⟩ := hcut
            go_step
            go_cut [] from 185 to 191 (fun wx => ∃ l1, PRow wx g cap l1 ∧ Srt.Turn s m e l0 l1 ∧ Over g wy wx)
            case first =>
              -- DONE
              cases ca with
              | true =>
                have hse := of_decide_eq_true HCA.out
                have HRT : Hid (Calls Tryz.prog 318 #[.slice (some ⟨g, 0, none⟩) n cap, .int .i64 s, .int .i64 m, .int .i64 EE, .func (.func 251) #[] #[]] wc
                    fun e1 w' => e1 = .returned (.tuple #[]) ∧ (∃ l', PRow w' g cap l' ∧ Srt.Turn s m e l0 l') ∧ Over g wc w') := hid (by
                  rw [HO.out.2.2.2.2.2.2.2.2.1]
                  exact rotate g cap l0 s m e n HN.out hsm hse.1 hse.2 (by have := HO.out; omega) _ HPZ.out.1 _)
                clear hse
                go_wp2_with fail
                go_at_call 318; refine HRT.out.mono ?_; rintro e1 w1 ⟨rfl, ⟨l', P1, S1⟩, o1⟩
                have H1 := hid (And.intro P1 (And.intro S1 o1))
                clear P1 S1 o1
                go_wp2_with fail
                go_meet
                exact ⟨l', H1.out.1, H1.out.2.1, HPZ.out.2.trans H1.out.2.2⟩
              | false =>
                have hse := of_decide_eq_false HCA.out
                have HSE := hid hse
                clear hse
                go_wp2_with fail
                go_meet
                exact ⟨l0, HPZ.out.1, Srt.turn_none _ _ _ _ (by have := HSE.out; have := HO.out; omega) (by have := HO.out; omega) (by have := HO.out; omega), HPZ.out.2⟩
              -- /DONE
            case rest =>
              obtain ⟨l1, P1, T1, o1⟩ := hcut
              have HT1 := hid (And.intro P1 (And.intro T1 o1))
              clear P1 T1 o1
              obtain ⟨cd, hcd⟩ : ∃ cd : Bool, decide (a < s ∧ s < mid) = cd := ⟨_, rfl⟩
              have HCD := hid hcd
              clear hcd
              obtain ⟨wv, hwv⟩ : ∃ wv, wv = wc := ⟨_, rfl⟩
              have HT1' := hid (hwv ▸ HT1.out)
              clear HT1
              subst hwv
              go_upto_region 41 with (fail)
              go_cut [199] from 192 to 199 (fun c wx => c = .bool cd ∧ wx = wv)
              case first =>
                by_cases y1 : a < s
                · have bb : decide ((a : Int) < s) = true := by simp [y1]
                  have bc : decide ((s : Int) < MID) = decide (s < mid) := by rw [HO.out.2.2.2.2.2.2.2.2.2]; simp
                  go_wp2_with fail
                  go_meet
                  exact ⟨by rw [← HCD.out]; simp [y1], rfl⟩
                · have bb : decide ((a : Int) < s) = false := by simp; omega
                  go_wp2_with fail
                  go_meet
                  exact ⟨by rw [← HCD.out]; simp [y1], rfl⟩
              case rest =>
                obtain ⟨rfl, rfl⟩ := hcut
                go_step
                go_cut [] from 199 to 205 (fun wx => ∃ l2, PRow wx g cap l2 ∧ (∃ l1, Srt.Turn s m e l0 l1 ∧ Srt.Part a mid l1 l2) ∧ Srt.Asc a mid l2 ∧ Over g wy wx)
                case first =>
                  obtain ⟨P1, T1, o1⟩ := HT1'.out
                  obtain ⟨v1, v2, v3, v4⟩ := HHV.out l1 T1
                  have HV := hid (And.intro T1 (And.intro v1 (And.intro v2 (And.intro P1 o1))))
                  clear v1 v2 v3 v4 P1 T1 o1
                  cases cd with
                  | true =>
                    have HRT : Hid (Calls Tryz.prog 309 #[.slice (some ⟨g, 0, none⟩) n cap, .int .i64 a, .int .i64 s, .int .i64 MID, .func (.func 251) #[] #[]] wc
                        (SortPost g cap a mid l1 wc)) := hid (by
                      have hse := of_decide_eq_true HCD.out
                      rw [HO.out.2.2.2.2.2.2.2.2.2]
                      exact HI.out g cap l1 a s mid n (by have := HO.out; have := HNN.out; omega) (by have := HV.out.1.part.len; have := HN.out; omega) hsm hse.1 hse.2 (by have := HO.out; omega) _ HV.out.2.2.2.1 HV.out.2.1 HV.out.2.2.1)
                    go_wp2_with fail
                    go_at_call 309; refine HRT.out.mono ?_; rintro e1 w1 ⟨rfl, ⟨l', P1, S1, A1⟩, o1⟩
                    have H1 := hid (And.intro P1 (And.intro S1 (And.intro A1 o1)))
                    clear P1 S1 A1 o1
                    go_wp2_with fail
                    go_meet
                    exact ⟨l', H1.out.1, ⟨l1, HV.out.1, H1.out.2.1⟩, H1.out.2.2.1, HV.out.2.2.2.2.trans H1.out.2.2.2⟩
                  | false =>
                    have HAM : Hid (Srt.Asc a mid l1) := hid (by
                      have hse := of_decide_eq_false HCD.out
                      by_cases has : a < s
                      · exact HV.out.2.1.less (by omega)
                      · obtain rfl : a = s := by have := HO.out; omega
                        exact HV.out.2.2.1)
                    go_wp2_with fail
                    go_meet
                    exact ⟨l1, HV.out.2.2.2.1, ⟨l1, HV.out.1, Srt.Part.refl _ _ _⟩, HAM.out, HV.out.2.2.2.2⟩
                case rest =>
                  obtain ⟨l2, P2, ⟨l1, T1, S2⟩, A2, o2⟩ := hcut
                  obtain ⟨wu, hwu⟩ : ∃ wu, wu = wc := ⟨_, rfl⟩
                  have HT2 : Hid (PRow wu g cap l2 ∧ Srt.Turn s m e l0 l1 ∧ Srt.Part a mid l1 l2 ∧ Srt.Asc a mid l2 ∧ Over g wy wu) := hid (hwu ▸ ⟨P2, T1, S2, A2, o2⟩)
                  clear P2 T1 S2 A2 o2 HT1'
                  subst hwu
                  obtain ⟨ce, hce⟩ : ∃ ce : Bool, decide (mid < e ∧ e < b) = ce := ⟨_, rfl⟩
                  have HCE := hid hce
                  clear hce
                  go_upto_region 43 with (fail)
                  go_cut [213] from 206 to 213 (fun c wx => c = .bool ce ∧ wx = wu)
                  case first =>
                    have bd : decide (MID < EE) = decide (mid < e) := by rw [HO.out.2.2.2.2.2.2.2.2.2, HO.out.2.2.2.2.2.2.2.2.1]; simp
                    by_cases y1 : mid < e
                    · have bb : decide (MID < EE) = true := by rw [bd]; simp [y1]
                      have bc : decide (EE < (b : Int)) = decide (e < b) := by rw [HO.out.2.2.2.2.2.2.2.2.1]; simp
                      clear bd
                      go_wp2_with fail
                      go_meet
                      exact ⟨by rw [← HCE.out]; simp [y1], rfl⟩
                    · have bb : decide (MID < EE) = false := by rw [bd]; simp; omega
                      clear bd
                      go_wp2_with fail
                      go_meet
                      exact ⟨by rw [← HCE.out]; simp [y1], rfl⟩
                  case rest =>
                    obtain ⟨rfl, rfl⟩ := hcut
                    have HFIN : Hid (∀ l3, Srt.Part mid b l2 l3 → Srt.Asc mid b l3 → Srt.Part a b l0 l3 ∧ Srt.Asc a b l3) := hid fun l3 p3 a3 =>
                      Srt.join (by have := HO.out; omega) (by have := HO.out; omega) (HT2.out.2.1.part.wide (by have := HO.out; omega) (by have := HO.out; omega)) HT2.out.2.2.1 HT2.out.2.2.2.1 p3 a3 (HOR.out l1 HT2.out.2.1)
                    have HV2 : Hid (Srt.Asc mid e l2 ∧ Srt.Asc e b l2) := hid (by
                      obtain ⟨v1, v2, v3, v4⟩ := HHV.out l1 HT2.out.2.1
                      have := HO.out
                      refine ⟨fun x y x1 x2 x3 => ?_, fun x y x1 x2 x3 => ?_⟩
                      · rw [HT2.out.2.2.1.ln_out (.inr x1), HT2.out.2.2.1.ln_out (.inr (by omega))]; exact v3 x y x1 x2 x3
                      · rw [HT2.out.2.2.1.ln_out (.inr (by omega)), HT2.out.2.2.1.ln_out (.inr (by omega))]; exact v4 x y x1 x2 x3)
                    cases ce with
                    | true =>
                      have HRT : Hid (Calls Tryz.prog 309 #[.slice (some ⟨g, 0, none⟩) n cap, .int .i64 MID, .int .i64 EE, .int .i64 b, .func (.func 251) #[] #[]] wc
                          (SortPost g cap mid b l2 wc)) := hid (by
                        have hse := of_decide_eq_true HCE.out
                        rw [HO.out.2.2.2.2.2.2.2.2.2, HO.out.2.2.2.2.2.2.2.2.1]
                        exact HI.out g cap l2 mid e b n (by have := HO.out; have := HNN.out; omega) (by have := HT2.out.2.1.part.len; have := HT2.out.2.2.1.len; have := HN.out; omega) hsm hse.1 hse.2 hb _ HT2.out.1 HV2.out.1 HV2.out.2)
                      go_wp2_with fail
                      go_at_call 309; refine HRT.out.mono ?_; rintro e1 w1 ⟨rfl, ⟨l3, P1, S1, A1⟩, o1⟩
                      have H1 := hid (And.intro P1 (And.intro S1 (And.intro A1 o1)))
                      clear P1 S1 A1 o1
                      go_wp2_with fail
                      have hf := HFIN.out l3 H1.out.2.1 H1.out.2.2.1
                      exact bodyPost_end (results_none rfl _ _ _) rfl ⟨rfl, ⟨l3, H1.out.1, hf.1, hf.2⟩, HT2.out.2.2.2.2.trans H1.out.2.2.2⟩
                    | false =>
                      have HAM : Hid (Srt.Asc mid b l2) := hid (by
                        have hse := of_decide_eq_false HCE.out
                        by_cases has : mid < e
                        · exact HV2.out.1.less (by have := HO.out; omega)
                        · obtain rfl : mid = e := by have := HO.out; omega
                          exact HV2.out.2)
                      go_wp2_with fail
                      have hf := HFIN.out l2 (Srt.Part.refl _ _ _) HAM.out
                      exact bodyPost_end (results_none rfl _ _ _) rfl ⟨rfl, ⟨l2, HT2.out.1, hf.1, hf.2⟩, HT2.out.2.2.2.2⟩
theorem sym_all : ∀ N, SymAt N := by
  intro N
  induction N with
  | zero => intro g cap l0 a m b n hN; intros; omega
  | succ N ih =>
    intro g cap l0 a m b n hN hn hsm ham hmb hb w h h1 h2
    by_cases e1 : m = a + 1
    · exact sym_left g cap l0 a m b n hn hsm e1 hmb hb w h h2
    · by_cases e2 : b = m + 1
      · exact sym_right g cap l0 a m b n hn hsm e2 (by omega) hb w h h1
      · exact sym_step N ih g cap l0 a m b n hN hn hsm (by omega) (by omega) hb w h h1 h2
end Go.Proofs.YtcoiehgcfjfhaaaGreatDoor
