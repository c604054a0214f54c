/- What an operation on an index without any known page needs: the root page. -/
import Derived.Test.YtcoiehgcfjfhaaaGreatDoorQ05
import Derived.Test.YtcoiehgcfjfhaaaGreatDoorQ10
import Derived.Test.YtcoiehgcfjfhaaaGreatDoorQ04
import Derived.Laws.Tables
import Derived.Deep.CutBlock
import Derived.Deep.DeepCutAuto
import Derived.Deep.CutRange
import Derived.Test.YtcoiehgcfjfhaaaGreatDoorQ09
import Derived.Lib.AppendZeros
import Derived.Shelf.Spec.SlicesGrow
set_option linter.all false
set_option maxRecDepth 20000
set_option maxHeartbeats 8000000
open Go.Lib (hid)
namespace Go.Proofs.YtcoiehgcfjfhaaaGreatDoor
open Go.RowKit
def NeedPost (l : Int) (w : World) (e : Ending) (w' : World) : Prop :=
  ∃ vn, e = .returned (.tuple #[vn, .slice none 0 0, .agg (outCells {} (.slice none 0 0) (.slice none 0 0)), .bool false]) ∧ w'.ownsRow w.heap.size 3 1 vn 1 [.int .i64 l] ∧ Below w.heap.size w w'
theorem readRoot_miss (A : Nat → Prop) (op : Bt.Op) (known : List Bt.Page) (vf vk : Value) (s : Bt.St) (b : Nat) (w : World) (h : IsRun A op known vf vk s b w) (hA : ∀ c, A c → c < w.heap.size) (hl : Bt.latest known 96 = none) :
    Calls Tryz.prog 138 #[.pointer (some ⟨b, 0, none⟩)] w (RunPost A op known vf vk (s.wait 96) b (.bool false) w) := by
  have HR := hid h
  have HL := hid hl
  have HAL := hid hA
  have HK : Hid (PgRow w vk known) := hid h.knownRow
  have HZ : Hid (Bt.zeroPage.cells = #[.int .i64 0, .int .u64 0, .int .u64 0, .int .u64 0, .int .u64 0, .int .u64 0, .int .u64 0, .int .u64 0, .int .u64 0]) := hid rfl
  have hlt := h.lt
  have hlt1 : b < w.heap.size + 1 := by omega
  obtain ⟨vn, vw, ve, vc, hc⟩ := h.cells
  have k8 : w.cell? ⟨b, 8, none⟩ = some vk := hc 8
  clear h hl hc hA
  go_enter Tryz.func138, Tryz.ntmps138
  go_wp2_with fail
  go_at_call 60; refine (Latest_any known vk 96 _ ?hpg).mono ?_; (case hpg => exact HK.out.below qL); rintro e1 w1 ⟨rfl, hb1⟩; rw [HL.out]; ((obtain ⟨hc1, hf1, hs1⟩ := qR hb1); (try have := qN0 w w1))
  simp only [Option.getD_none, Option.isSome_none, HZ.out]
  have hb1' : b < w1.heap.size := by omega
  go_wp2_with fail
  go_at_call 177; refine (wait_any A op known vf vk s b 96 _ (HR.out.below qL)).mono ?_
  rintro e2 w2 ⟨rfl, hrun2, ho2⟩
  have HR2 := hid hrun2
  have HO2 := hid ho2
  clear hrun2
  go_wp2_with fail
  have hs1 : w.heap.size ≤ w1.heap.size + 1 := by omega
  have ho2 := HO2.out
  refine bodyPost_ret (results_tmp rfl _ _ _) rfl ⟨rfl, HR2.out.imp (fun c hc => ?_), qV⟩
  rcases hc with h1 | h1
  · exact .inl h1
  · exact .inr (by simp at h1; omega)
theorem next_root_need4 (op : Bt.Op) (known : List Bt.Page) (fa ka : Option Addr) (fn fc kn kc : Nat) (w : World) (hf : PgRow w (.slice fa fn fc) op.fresh) (hk : PgRow w (.slice ka kn kc) known) (hn : NoneAt w)
    (hv : ∀ wx, Calls Tryz.prog 137 #[.agg (opCells op (.slice fa fn fc))] wx fun e w' => e = .returned (.bool true) ∧ Below wx.heap.size wx w') (hl : Bt.latest known 96 = none) :
    Calls Tryz.prog 93 #[.agg (opCells op (.slice fa fn fc)), .slice ka kn kc] w (NeedPost 96 w) := by
  have Hf := hid hf
  have Hk := hid hk
  have Hn := hid hn
  have HV := hid hv
  have HRR := hid (fun b wx h1 h2 => readRoot_miss (fun _ => False) op known (.slice fa fn fc) (.slice ka kn kc) {} b wx h1 h2 hl)
  clear hf hk hn hv hl
  unfold opCells at HV ⊢
  go_enter Tryz.func93, Tryz.ntmps93
  go_wp2_with fail
  go_at_call 137; refine (HV.out _).mono ?_; rintro e1 w1 ⟨rfl, hb1⟩; ((obtain ⟨hc1, hf1, hs1⟩ := qR hb1); (try have := qN0 w w1); (try have z1_w_1 := qN1 w w1))
  have HB1 := hid hb1
  go_wp2_with fail
  go_at_call 138; refine (HRR.out w1.heap.size _ ?hrun ?hlow).mono ?_
  case hrun => exact IsRun.start op known _ _ w1 (Hf.out.below qL) (Hk.out.below qL) (Hn.out.below qL)
  case hlow => exact fun c hc => hc.elim
  rintro e3 w3 ⟨rfl, ⟨vn, vw, ve, vc, hr3, _⟩, ho3⟩
  have HR3 := hid hr3
  have HO3 := hid ho3
  have hneed := hr3.need
  have hsn : (({} : Bt.St).wait 96).need = [96] := rfl
  rw [hsn] at hneed
  obtain ⟨gn, cn, rfl⟩ := own_form hneed (by simp)
  have HND : Hid (w3.ownsRow (w1.heap.size + 1) 3 1 (.slice (some ⟨gn, 0, none⟩) 1 cn) 1 [.int .i64 96]) := hid hneed
  have hc := hr3.blk.cell
  have hb3 := hr3.blk.lt
  have k9 : w3.cell? ⟨w1.heap.size, 9, none⟩ = some (.slice (some ⟨gn, 0, none⟩) 1 cn) := hc 9
  clear hr3 hc hneed hsn
  ((obtain ⟨hc3, hf3, hs3⟩ := qO ho3); (try have := qN0 w w3); (try have := qN1 w w3); (try have := qN0 w1 w3))
  go_wp2_with fail
  have hb1 := HB1.out
  have ho3 := HO3.out
  have hov : Over w1.heap.size w w3 := qV
  have hgb : w.heap.size + 1 < w1.heap.size + 1 := by omega
  have hbs : w.heap.size ≤ w1.heap.size + 1 := by omega
  have O1 := Blk.kept (b := w.heap.size + 1) (t := 164) (cs := #[.int .i64 0, .bool false, .bool false, .bool false, .bool false, .bool false, .bool false, .int .i64 0, .int .i64 0, .slice none 0 0, .slice none 0 0, .int .i64 0, .int .i64 0, .int .i64 0]) (made22 w) hb1
  have O3 := (O1.alloc _).grown ho3 (by simp; omega)
  refine bodyPost_ret (results_ttbt rfl _ _ (w.heap.size + 1) _ _ _ rfl (by have B := O3; exact qK) Tryz.underlying164 rfl (by kernel_rfl)) rfl ⟨.slice (some ⟨gn, 0, none⟩) 1 cn, ?_, ?_, ?_⟩
  · rw [set14]
    rfl
  · exact own_base (own_put14 HND.out hgb _ _ _ _ _ _ _ _ _ _ _ _ _ _) hbs
  · exact Over.to_below (b := w1.heap.size) (Over.put14 hov (by omega) _ _ _ _ _ _ _ _ _ _ _ _ _ _) (by omega)
def hrWait (key : Int) (vk : Value) (g : Nat) : Array Value :=
  #[.int .i64 1, .int .u32 key, .int .i64 0, .int .i64 0, .slice none 0 0, vk, .slice (some ⟨g, 0, none⟩) 1 1, .slice none 0 0, .int .i64 0, .bool false, .bool false, .bool false, .bool false, .bool false, .int .i64 0, .int .i64 0, .slice none 0 0, .int .i64 0, .int .i64 0,
    .int .i64 0, .int .u64 0, .int .u64 0, .int .u64 0, .int .u64 0, .int .u64 0, .int .u64 0, .int .u64 0, .int .u64 0,
    .int .i64 0, .int .i64 0, .int .i64 0, .int .i64 0, .int .i64 0, .int .i64 0, .int .i64 0, .int .i64 0, .int .i64 0, .int .i64 0, .int .i64 0]
theorem hiWait (r : Nat) (key : Int) (vk : Value) (w : World) (B : Blk w r 337 (hrCells 1 key 0 0 (.slice none 0 0) vk (.slice none 0 0) 0 false (.slice none 0 0) 0 0 0)) :
    Calls Tryz.prog 252 #[.pointer (some ⟨r, 0, none⟩), .int .i64 96] w fun e w' => e = .returned (.bool false) ∧ (∃ g, Blk w' r 337 (hrWait key vk g)) ∧ Over r w w' := by
  have kc := B.cell
  have fc := B.free
  have lc := B.lt
  have HB := hid B
  clear B
  unfold hrCells at kc
  go_enter Tryz.func252, Tryz.ntmps252
  go_wp2_with fail
  refine bodyPost_ret (results_tmp rfl _ _ _) rfl ⟨rfl, ⟨w.heap.size, ?_⟩, ?_⟩
  · exact Blk.cast ((HB.out.put 6 _).alloc _) (by kernel_rfl)
  · exact qV
theorem hiReadRoot_miss (r : Nat) (key : Int) (vk : Value) (w : World) (B : Blk w r 337 (hrCells 1 key 0 0 (.slice none 0 0) vk (.slice none 0 0) 0 false (.slice none 0 0) 0 0 0)) (hp : PgRow w vk []) :
    Calls Tryz.prog 200 #[.pointer (some ⟨r, 0, none⟩)] w fun e w' => e = .returned (.bool false) ∧ (∃ g, Blk w' r 337 (hrWait key vk g)) ∧ Over r w w' := by
  have HW := hid (fun W h => hiWait r key vk W h)
  have HLA : Hid (Calls Tryz.prog 60 #[vk, .int .i64 96] w fun e w' => e = .returned (.tuple #[.agg Bt.zeroPage.cells, .bool false]) ∧ Below w.heap.size w w') := hid (Latest_any [] vk 96 w hp)
  have kc := B.cell
  have lc := B.lt
  have HB := hid B
  clear B hp
  unfold hrCells at kc
  unfold Bt.Page.cells Bt.zeroPage at HLA
  simp only at HLA
  go_enter Tryz.func200, Tryz.ntmps200
  go_wp2_with fail
  go_at_call 60; refine HLA.out.mono ?_; rintro e w1 ⟨rfl, hb1⟩; ((obtain ⟨hc1, hf1, hs1⟩ := qR hb1); (try have := qN0 w w1))
  go_wp2_with fail
  go_at_call 252
  refine (HW.out _ ((HB.out.kept hb1).alloc _)).mono ?_
  rintro e w2 ⟨rfl, hg, ho2⟩
  have HX := hid (And.intro hg (((Over.of_below (b := r) hb1).trans (Over.of_below (below_alloc (Below.refl _ _) _))).trans ho2))
  clear hg ho2 hb1
  go_wp2_with fail
  exact bodyPost_ret (results_tmp rfl _ _ _) rfl ⟨rfl, HX.out.1, HX.out.2⟩
theorem hiValidKey (key : Int) (h1 : 1 ≤ key) (h2 : key ≤ 4294967294) (w : World) : Calls Tryz.prog 199 #[.agg #[.int .i64 1, .int .u32 key, .int .i64 0, .int .i64 0, .slice none 0 0]] w fun e w' => e = .returned (.bool true) ∧ Below w.heap.size w w' := by
  have k1 : decide (1 ≤ key) = true := by simpa using h1
  have k2 : decide (key < 1) = false := by simp; omega
  have k3 : decide (key ≤ 4294967294) = true := by simpa using h2
  have k4 : decide (4294967294 < key) = false := by simp; omega
  clear h1 h2
  go_enter Tryz.func199, Tryz.ntmps199
  go_wp2_with fail
  refine bodyPost_ret (results_tmp rfl _ _ _) rfl ⟨rfl, qL⟩
theorem hiNextMiss (key : Int) (h1 : 1 ≤ key) (h2 : key ≤ 4294967294) (pv : Option Addr) (cv : Nat) (w : World) (hp : PgRow w (.slice pv 0 cv) []) :
    Calls Tryz.prog 156 #[.agg #[.int .i64 1, .int .u32 key, .int .i64 0, .int .i64 0, .slice none 0 0], .slice pv 0 cv] w fun e w' =>
      (∃ g, e = .returned (.tuple #[.slice (some ⟨g, 0, none⟩) 1 1, .slice none 0 0, .agg (hoCells 0 false (.slice none 0 0) 0), .bool false])) ∧ Below w.heap.size w w' := by
  have HV := hid (fun W => hiValidKey key h1 h2 W)
  have HR := hid (fun r W hb hq => hiReadRoot_miss r key (.slice pv 0 cv) W hb hq)
  have HP := hid hp
  clear hp h1 h2
  go_enter Tryz.func156, Tryz.ntmps156
  go_wp2_with fail
  go_at_call 199; refine (HV.out _).mono ?_; rintro e w1 ⟨rfl, hb1⟩; ((obtain ⟨hc1, hf1, hs1⟩ := qR hb1); (try have := qN0 w w1); (try have z1_w_1 := qN1 w w1))
  go_wp2_with fail
  have hbX : Below w.heap.size w (w1.alloc (.cells (hrCells 1 key 0 0 (.slice none 0 0) (.slice pv 0 cv) (.slice none 0 0) 0 false (.slice none 0 0) 0 0 0) 337)) := qL
  go_at_call 200
  refine (HR.out w1.heap.size _ (Blk.made w1 337 (hrCells 1 key 0 0 (.slice none 0 0) (.slice pv 0 cv) (.slice none 0 0) 0 false (.slice none 0 0) 0 0 0)) (HP.out.below hbX)).mono ?_
  rintro e w2 ⟨rfl, ⟨g, B2⟩, ho2⟩
  have hr : w.heap.size + 1 < w1.heap.size := z1_w_1
  have hb12 : Below w1.heap.size w1 w2 := below_grown (below_alloc (Below.refl w1.heap.size w1) _) ho2 (fun j hj => by cases hj; exact Nat.le_refl _)
  have hbw2 : Below w.heap.size w w2 := below_grown hbX ho2 (fun j hj => by cases hj; omega)
  have KT := ((Blk.made' (w := w.alloc (.cells #[.int .i64 1, .int .u32 key, .int .i64 0, .int .i64 0, .slice none 0 0] 228)) (t := 224) (cs := hoCells 0 false (.slice none 0 0) 0) rfl).kept hb1).kept hb12
  rw [size_alloc] at KT
  have k2 := B2.cell
  have l2 := B2.lt
  have kt := KT.cell
  have ft := KT.free
  have lt := KT.lt
  unfold hrWait at k2
  unfold hoCells at kt
  have HX := hid (And.intro KT hbw2)
  clear KT B2 hbw2 hb12 ho2 hbX hc1 hf1 hb1
  go_wp2_with fail
  have hbb := HX.out.2
  have hll : w.heap.size ≤ w.heap.size + 1 := by omega
  exact bodyPost_ret (results_ttbt rfl _ _ (w.heap.size + 1) _ _ _ rfl (Blk.cast (((((((((((HX.out.1.put 0 _).put 1 _).put 2 _).put 3 _).put 4 _).put 5 _).put 6 _).put 7 _).put 8 _).put 9 _).put 10 _) (by kernel_rfl)) Tryz.underlying224 rfl (by kernel_rfl)) rfl ⟨⟨g, rfl⟩, (((((((((((hbb.setCell hll _).setCell hll _).setCell hll _).setCell hll _).setCell hll _).setCell hll _).setCell hll _).setCell hll _).setCell hll _).setCell hll _).setCell hll _)⟩
section
variable {P : Program} {ops : Array Oper} {Q : Exit → Act → World → Prop} {md : Region.Mode}
theorem wpAnyH_stronger {S0 S1 : World → Prop} (hs : ∀ w, S1 w → S0 w) : ∀ (fuel : Nat) (l : Array Bool) (a : Act) (w : World), wpAnyH P md ops Q S1 fuel l a w → wpAnyH P md ops Q S0 fuel l a w
  | 0, _, _, _, h => h
  | fuel + 1, _, _, _, h => ⟨h.1, fun i hi => wpOp_mono (fun a' w' h' => ⟨hs _ h'.1, wpAnyH_stronger hs fuel _ a' w' h'.2⟩) (h.2 i hi)⟩
end
theorem SteadyAll.trans {w0 w1 wq : World} (h0 : SteadyAll w0 w1) (hs : w0.heap.size ≤ w1.heap.size) (h : SteadyAll w1 wq) : SteadyAll w0 wq :=
  ⟨fun b o hb => (h.rule b o (Nat.lt_of_lt_of_le hb hs)).trans (h0.rule b o hb)⟩
def StrsPost (n : Nat) (w : World) (e : Ending) (w' : World) : Prop :=
  ∃ b, e = .returned (.slice (some ⟨b, 0, none⟩) n n) ∧ b < w'.heap.size ∧ (∀ i, i < n → ∃ s : ByteArray, w'.cell? ⟨b, i, none⟩ = some (.string s) ∧ s.data.toList.length ≤ 2) ∧ Below w.heap.size w w'
theorem columns_ok (w : World) : Calls Tryz.prog 53 #[] w (StrsPost 3 w) := by
  go_enter Tryz.func53, Tryz.ntmps53
  go_wp2
  go_ret
  refine ⟨_, rfl, by simp, ?_, qL⟩
  intro i hi
  rcases i with _ | _ | _ | i
  · exact ⟨_, by simp [go_sem]; rfl, by decide⟩
  · exact ⟨_, by simp [go_sem]; rfl, by decide⟩
  · exact ⟨_, by simp [go_sem]; rfl, by decide⟩
  · omega
theorem comparisons_ok (w : World) : Calls Tryz.prog 54 #[] w (StrsPost 7 w) := by
  go_enter Tryz.func54, Tryz.ntmps54
  go_wp2
  go_ret
  refine ⟨_, rfl, by simp, ?_, qL⟩
  intro i hi
  rcases i with _ | _ | _ | _ | _ | _ | _ | i
  · exact ⟨_, by simp [go_sem]; rfl, by decide⟩
  · exact ⟨_, by simp [go_sem]; rfl, by decide⟩
  · exact ⟨_, by simp [go_sem]; rfl, by decide⟩
  · exact ⟨_, by simp [go_sem]; rfl, by decide⟩
  · exact ⟨_, by simp [go_sem]; rfl, by decide⟩
  · exact ⟨_, by simp [go_sem]; rfl, by decide⟩
  · exact ⟨_, by simp [go_sem]; rfl, by decide⟩
  · omega
def Sq.word : Nat → List UInt8
  | 1 => [105, 110, 115, 101, 114, 116]
  | 2 => [115, 101, 116]
  | 3 => [97, 100, 100]
  | 4 => [100, 101, 108, 101, 116, 101]
  | 5 => [103, 101, 116]
  | 6 => [115, 99, 97, 110]
  | 7 => [99, 111, 117, 110, 116]
  | 8 => [115, 117, 109]
  | 9 => [99, 104, 101, 99, 107]
  | _ => []
def FormAt (w : World) (lo b k : Nat) : Prop :=
  ∃ b2, w.cell? ⟨b, 2 * k, none⟩ = some (.string ⟨(Sq.word k).toArray⟩) ∧ w.cell? ⟨b, 2 * k + 1, none⟩ = some (.slice (some ⟨b2, 0, none⟩) (Sq.parts k).length (Sq.parts k).length) ∧
    lo ≤ b2 ∧ b2 < w.heap.size ∧ ∀ (i p : Nat), (Sq.parts k)[i]? = some p → w.cell? ⟨b2, i, none⟩ = some (.int .i64 p)
def FormsPost (w : World) (e : Ending) (w' : World) : Prop :=
  ∃ b, e = .returned (.slice (some ⟨b, 0, none⟩) 10 10) ∧ w.heap.size ≤ b ∧ b < w'.heap.size ∧ (∀ k, 1 ≤ k → k ≤ 9 → FormAt w' w.heap.size b k) ∧ Below w.heap.size w w'
set_option maxRecDepth 100000
set_option maxHeartbeats 2000000
theorem forms_ok (w : World) : Calls Tryz.prog 29 #[] w (FormsPost w) := by
  go_enter Tryz.func29, Tryz.ntmps29
  go_wp2
  go_ret
  refine ⟨_, rfl, ?_, ?_, ?_, ?_⟩
  · omega
  · simp
  · intro k h1 h2
    rcases (by omega : k = 1 ∨ k = 2 ∨ k = 3 ∨ k = 4 ∨ k = 5 ∨ k = 6 ∨ k = 7 ∨ k = 8 ∨ k = 9) with rfl | rfl | rfl | rfl | rfl | rfl | rfl | rfl | rfl
    · refine ⟨w.heap.size, by simp [go_sem, Sq.word], by simp [go_sem, Sq.parts], by omega, by (first | (simp; done) | (simp; omega)), ?_⟩
      intro i p hp
      rcases i with _ | _ | i <;> simp [Sq.parts] at hp <;> subst hp <;> simp [go_sem]
    · refine ⟨w.heap.size + 1, by simp [go_sem, Sq.word], by simp [go_sem, Sq.parts], by omega, by (first | (simp; done) | (simp; omega)), ?_⟩
      intro i p hp
      rcases i with _ | _ | _ | i <;> simp [Sq.parts] at hp <;> subst hp <;> simp [go_sem]
    · refine ⟨w.heap.size + 1 + 1, by simp [go_sem, Sq.word], by simp [go_sem, Sq.parts], by omega, by (first | (simp; done) | (simp; omega)), ?_⟩
      intro i p hp
      rcases i with _ | _ | _ | i <;> simp [Sq.parts] at hp <;> subst hp <;> simp [go_sem]
    · refine ⟨w.heap.size + 1 + 1 + 1, by simp [go_sem, Sq.word], by simp [go_sem, Sq.parts], by omega, by (first | (simp; done) | (simp; omega)), ?_⟩
      intro i p hp
      rcases i with _ | i <;> simp [Sq.parts] at hp <;> subst hp <;> simp [go_sem]
    · refine ⟨w.heap.size + 1 + 1 + 1 + 1, by simp [go_sem, Sq.word], by simp [go_sem, Sq.parts], by omega, by (first | (simp; done) | (simp; omega)), ?_⟩
      intro i p hp
      rcases i with _ | i <;> simp [Sq.parts] at hp <;> subst hp <;> simp [go_sem]
    · refine ⟨w.heap.size + 1 + 1 + 1 + 1 + 1, by simp [go_sem, Sq.word], by simp [go_sem, Sq.parts], by omega, by (first | (simp; done) | (simp; omega)), ?_⟩
      intro i p hp
      rcases i with _ | _ | _ | _ | i <;> simp [Sq.parts] at hp <;> subst hp <;> simp [go_sem]
    · refine ⟨w.heap.size + 1 + 1 + 1 + 1 + 1 + 1, by simp [go_sem, Sq.word], by simp [go_sem, Sq.parts], by omega, by (first | (simp; done) | (simp; omega)), ?_⟩
      intro i p hp
      rcases i with _ | _ | _ | i <;> simp [Sq.parts] at hp <;> subst hp <;> simp [go_sem]
    · refine ⟨w.heap.size + 1 + 1 + 1 + 1 + 1 + 1 + 1, by simp [go_sem, Sq.word], by simp [go_sem, Sq.parts], by omega, by (first | (simp; done) | (simp; omega)), ?_⟩
      intro i p hp
      rcases i with _ | _ | _ | _ | i <;> simp [Sq.parts] at hp <;> subst hp <;> simp [go_sem]
    · refine ⟨w.heap.size + 1 + 1 + 1 + 1 + 1 + 1 + 1 + 1, by simp [go_sem, Sq.word], by simp [go_sem, Sq.parts], by omega, by (first | (simp; done) | (simp; omega)), ?_⟩
      intro i p hp
      rcases i with _ | _ | i <;> simp [Sq.parts] at hp <;> subst hp <;> simp [go_sem]
  · exact qL
theorem infoI64 : (Tryz.prog.info? 2).map (fun i => (i.zero, i.size, i.bytes)) = some (some (.int .i64 0), 1, 8) := by kernel_rfl
theorem Sq.St.same_def (s t : Sq.St) : s.same t = decide (s.kind = t.kind ∧ s.key = t.key ∧ s.last = t.last ∧ (s.c0 = t.c0 ∧ s.c1 = t.c1 ∧ s.c2 = t.c2) ∧ s.col = t.col ∧ s.value = t.value ∧ (s.wcol = t.wcol ∧ s.wop = t.wop ∧ s.wval = t.wval) ∧ s.limit = t.limit) := by
  rw [Bool.eq_iff_iff]
  simp only [Sq.St.same, Bool.and_eq_true, decide_eq_true_eq, and_assoc]
theorem eql_stmt (s t : Sq.St) (w : World) : (binOp .eql 54 (.agg s.arr) (.agg t.arr)).run Tryz.prog w = .ok (.bool (s.same t)) w := by
  obtain ⟨i, hi, _, hsz, _⟩ := info_parts infoI64
  have hc : Tryz.prog.cellsOf 2 = 1 := by kernel_rfl
  have hu : Tryz.prog.underlying 2 = some (.int .i64) := by kernel_rfl
  rw [Sq.St.same_def]
  unfold Sq.St.arr
  simp [go_sem, run_equalIn_array (hu := Tryz.underlying50) (hi := hi), hc, Op.eqItems, List.range, List.range.loop, hu]
  by_cases h0 : s.kind = t.kind
  case neg => simp [h0]
  by_cases h1 : s.key = t.key
  case neg => simp [h0, h1]
  by_cases h2 : s.last = t.last
  case neg => simp [h0, h1, h2]
  by_cases h3 : s.c0 = t.c0
  case neg => simp [h0, h1, h2, h3]
  by_cases h4 : s.c1 = t.c1
  case neg => simp [h0, h1, h2, h3, h4]
  by_cases h5 : s.c2 = t.c2
  case neg => simp [h0, h1, h2, h3, h4, h5]
  by_cases h6 : s.col = t.col
  case neg => simp [h0, h1, h2, h3, h4, h5, h6]
  by_cases h7 : s.value = t.value
  case neg => simp [h0, h1, h2, h3, h4, h5, h6, h7]
  by_cases h8 : s.wcol = t.wcol
  case neg => simp [h0, h1, h2, h3, h4, h5, h6, h7, h8]
  by_cases h9 : s.wop = t.wop
  case neg => simp [h0, h1, h2, h3, h4, h5, h6, h7, h8, h9]
  by_cases h10 : s.wval = t.wval
  case neg => simp [h0, h1, h2, h3, h4, h5, h6, h7, h8, h9, h10]
  by_cases h11 : s.limit = t.limit
  case neg => simp [h0, h1, h2, h3, h4, h5, h6, h7, h8, h9, h10, h11]
  simp [h0, h1, h2, h3, h4, h5, h6, h7, h8, h9, h10, h11]
theorem neq_stmt (s t : Sq.St) (w : World) : (binOp .neq 62 (.agg s.arr) (.agg t.arr)).run Tryz.prog w = .ok (.bool (!s.same t)) w := by
  obtain ⟨i, hi, _, hsz, _⟩ := info_parts infoI64
  have hc : Tryz.prog.cellsOf 2 = 1 := by kernel_rfl
  have hu : Tryz.prog.underlying 2 = some (.int .i64) := by kernel_rfl
  rw [Sq.St.same_def]
  unfold Sq.St.arr
  simp [go_sem, run_equalIn_array (hu := Tryz.underlying50) (hi := hi), hc, Op.eqItems, List.range, List.range.loop, hu]
  by_cases h0 : s.kind = t.kind
  case neg => simp [h0]
  by_cases h1 : s.key = t.key
  case neg => simp [h0, h1]
  by_cases h2 : s.last = t.last
  case neg => simp [h0, h1, h2]
  by_cases h3 : s.c0 = t.c0
  case neg => simp [h0, h1, h2, h3]
  by_cases h4 : s.c1 = t.c1
  case neg => simp [h0, h1, h2, h3, h4]
  by_cases h5 : s.c2 = t.c2
  case neg => simp [h0, h1, h2, h3, h4, h5]
  by_cases h6 : s.col = t.col
  case neg => simp [h0, h1, h2, h3, h4, h5, h6]
  by_cases h7 : s.value = t.value
  case neg => simp [h0, h1, h2, h3, h4, h5, h6, h7]
  by_cases h8 : s.wcol = t.wcol
  case neg => simp [h0, h1, h2, h3, h4, h5, h6, h7, h8]
  by_cases h9 : s.wop = t.wop
  case neg => simp [h0, h1, h2, h3, h4, h5, h6, h7, h8, h9]
  by_cases h10 : s.wval = t.wval
  case neg => simp [h0, h1, h2, h3, h4, h5, h6, h7, h8, h9, h10]
  by_cases h11 : s.limit = t.limit
  case neg => simp [h0, h1, h2, h3, h4, h5, h6, h7, h8, h9, h10, h11]
  simp [h0, h1, h2, h3, h4, h5, h6, h7, h8, h9, h10, h11]
def gotPage (r : Option (Bt.Page × Bt.Node)) : Bt.Page := match r with | none => Bt.zeroPage | some x => x.1
def gotNode (r : Option (Bt.Page × Bt.Node)) : Bt.Node := match r with | none => Bt.zeroNode | some x => x.2
structure GotAt (A : Nat → Prop) (op : Bt.Op) (known : List Bt.Page) (vf vk : Value) (b : Nat) (res : Bt.St × Option (Bt.Page × Bt.Node)) (g : Nat) (v : Value) (w wx : World) : Prop where
  run : IsRun A op known vf vk res.1 b wx
  over : Over b w wx
  blk : Blk wx g 310 (foundCells (gotPage res.2) (gotNode res.2) v)
  own : wx.ownsRow w.heap.size 173 3 v (gotNode res.2).entries.length (entCells (gotNode res.2).entries)
  not : v.ownBlock ≠ some g
  apart : ¬ A g
theorem setRow_self {w : World} {g : Nat} {t : TypeId} {cs : Array Value} (h : Blk w g t cs) : w.setRow g cs = w := by
  have hlt := h.lt
  have hv : w.heap[g] = .cells cs t (0, 0) := (Array.getElem?_eq_some_iff.1 h).2
  unfold World.setRow
  cases w with
  | mk heap tape drawn os output =>
    congr 1
    apply Array.ext
    · simp
    · intro k h1 h2
      simp only [Array.getElem_modify]
      split
      · rename_i hk; subst hk; simp at hv; simp [hv]
      · rfl
theorem setRow_over (w : World) (g : Nat) (cs : Array Value) : Over g w (w.setRow g cs) := ⟨rfl, rfl, rfl, by simp, fun k _ hn => setRow_other w g k cs (by simpa using hn)⟩
section
variable {P : Program} {ops : Array Oper} {rest : List Oper} {o : Oper} {a : Act} {w : World} {Q : Exit → Act → World → Prop}
theorem wpList_store_cut (hgd : o.guard = none) (ty : TypeId) (x y : Operand) (ho : o.op = .store ty x y) (g : Nat) (cells : Array Value) (hx : a.eval x = .pointer (some ⟨g, 0, none⟩)) (hy : a.eval y = .agg cells)
    (t : TypeId) (old : Array Value) (hg : Blk w g t old) (hi : (P.info? ty).map (·.size) = some cells.size) (hold : old.size = cells.size) (h1 : cells.all (·.oneCell') = true)
    (h : ∀ wx, Blk wx g t cells → Over g w wx → wx.heap.size = w.heap.size → wpList P ops Q rest (a.put o.dst undef) wx) : wpList P ops Q (o :: rest) a w :=
  wpList_store_row hgd ty x y ho g cells hx hy t old hg hi hold h1 (h _ (setRow_heap w g old cells t (0, 0) hg) (setRow_over w g cells) (by simp))
theorem wpList_store_self (hgd : o.guard = none) (ty : TypeId) (x y : Operand) (ho : o.op = .store ty x y) (g : Nat) (cells : Array Value) (hx : a.eval x = .pointer (some ⟨g, 0, none⟩)) (hy : a.eval y = .agg cells)
    (t : TypeId) (hg : Blk w g t cells) (hi : (P.info? ty).map (·.size) = some cells.size) (h1 : cells.all (·.oneCell') = true)
    (h : wpList P ops Q rest (a.put o.dst undef) w) : wpList P ops Q (o :: rest) a w :=
  wpList_store_row hgd ty x y ho g cells hx hy t cells hg hi rfl h1 (by rw [setRow_self hg]; exact h)
end
def QvPost (s : Sq.St) (w : World) (e : Ending) (w' : World) : Prop := e = .returned (.bool s.valid) ∧ Below w.heap.size w w'
theorem qValid_kind (s : Sq.St) (hk : ¬(1 ≤ s.kind ∧ s.kind ≤ 9)) (w : World) : Calls Tryz.prog 28 #[.agg s.arr] w (QvPost s w) := by
  have HF : Hid (s.valid = false) := hid (by
    rw [Bool.eq_false_iff]
    intro hc
    simp only [Sq.St.valid, Bool.and_eq_true, decide_eq_true_eq] at hc
    exact hk hc.1.1)
  obtain ⟨c, hc⟩ : ∃ b, decide (s.kind < 1) = b := ⟨_, rfl⟩
  have hc2 : c = false → decide (9 < s.kind) = true := fun h => by subst h; have := of_decide_eq_false hc; simp; omega
  clear hk
  unfold QvPost
  rw [HF.out]
  unfold Sq.St.arr
  cases c
  · have hc2 := hc2 rfl
    go_enter Tryz.func28, Tryz.ntmps28
    go_wp2_with fail
    exact bodyPost_ret (results_tmp rfl _ _ _) rfl ⟨rfl, qL⟩
  · clear hc2
    go_enter Tryz.func28, Tryz.ntmps28
    go_wp2_with fail
    exact bodyPost_ret (results_tmp rfl _ _ _) rfl ⟨rfl, qL⟩
def Sq.St.upto (s : Sq.St) (j : Nat) : Sq.St := ((Sq.parts s.kind.toNat).take j).foldl s.keep (Sq.zero s.kind)
theorem Sq.St.upto_succ (s : Sq.St) {j p : Nat} (h : (Sq.parts s.kind.toNat)[j]? = some p) : s.upto (j + 1) = s.keep (s.upto j) p := by
  unfold Sq.St.upto
  obtain ⟨hj, he⟩ := List.getElem?_eq_some_iff.1 h
  rw [List.take_succ_eq_append_getElem hj, List.foldl_append, he]
  rfl
theorem Sq.St.valid_false (s : Sq.St) {j p : Nat} (h : (Sq.parts s.kind.toNat)[j]? = some p) (ho : s.okp p = false) : s.valid = false := by
  have h1 : (Sq.parts s.kind.toNat).all s.okp = false := by
    rw [List.all_eq_false]
    exact ⟨p, List.mem_of_getElem? h, by simp [ho]⟩
  simp [Sq.St.valid, h1]
theorem Sq.St.valid_end (s : Sq.St) (hk : 1 ≤ s.kind ∧ s.kind ≤ 9) {n : Nat} (hn : (Sq.parts s.kind.toNat).length = n) (h : ((Sq.parts s.kind.toNat).take n).all s.okp = true) : s.valid = (s.upto n).same s := by
  unfold Sq.St.upto
  rw [← hn] at h ⊢
  rw [List.take_length] at h ⊢
  simp [Sq.St.valid, h, hk.1, hk.2]
theorem stm_one (s : Sq.St) : s.arr.all (·.oneCell') = true := by simp [Sq.St.arr, Value.oneCell']
theorem parts_lt : ∀ (k j p : Nat), (Sq.parts k)[j]? = some p → p < 8 := by
  intro k j p h
  have hm := List.mem_of_getElem? h
  rcases k with _ | _ | _ | _ | _ | _ | _ | _ | _ | _ | k <;> simp [Sq.parts] at hm <;> omega
theorem parts_len (k : Nat) : (Sq.parts k).length ≤ 4 := by
  rcases k with _ | _ | _ | _ | _ | _ | _ | _ | _ | _ | k <;> simp [Sq.parts]
structure QvAt (s : Sq.St) (w : World) (b2 j : Nat) (wr : World) : Prop where
  box : Blk wr w.heap.size 54 s.arr
  only : Blk wr (w.heap.size + 1) 54 (s.upto j).arr
  below : Below w.heap.size w wr
  good : ((Sq.parts s.kind.toNat).take j).all s.okp = true
  row : ∀ (i p : Nat), (Sq.parts s.kind.toNat)[i]? = some p → wr.cell? ⟨b2, i, none⟩ = some (.int .i64 p)
  lt : b2 < wr.heap.size
  ne : w.heap.size + 2 ≤ b2
theorem QvAt.next {s : Sq.St} {w : World} {b2 j p : Nat} {wr w1 w2 : World} (h : QvAt s w b2 j wr) (hj : (Sq.parts s.kind.toNat)[j]? = some p) (hok : s.okp p = true) (hb : Below wr.heap.size wr w1)
    (ho : Over (w.heap.size + 1) w1 w2) (hB : Blk w2 (w.heap.size + 1) 54 (s.keep (s.upto j) p).arr) : QvAt s w b2 (j + 1) w2 := by
  have hlt := h.lt
  have hs1 := hb.size
  have hs2 := ho.size
  have hne := h.ne
  refine ⟨?_, by rw [s.upto_succ hj]; exact hB, ?_, ?_, ?_, by omega, h.ne⟩
  · have h1 := h.box.kept hb
    exact (ho.block _ h1.lt (by simp)).trans h1
  · exact over_below ((Over.of_below (b := w.heap.size + 1) (below_step h.below hb)).trans ho) (by omega)
  · obtain ⟨hlt', he⟩ := List.getElem?_eq_some_iff.1 hj
    rw [List.take_succ_eq_append_getElem hlt', List.all_append, h.good, he]
    simp [hok]
  · intro i q hq
    have e1 : w1.heap[b2]? = wr.heap[b2]? := hb.block b2 hlt
    have e2 : w2.heap[b2]? = w1.heap[b2]? := ho.block b2 (by omega) (by simp; omega)
    have h1 := h.row i q hq
    simp only [World.cell?, e2, e1] at h1 ⊢
    exact h1
theorem qValid_rest (s : Sq.St) (hk : 1 ≤ s.kind ∧ s.kind ≤ 9) (w : World) : Calls Tryz.prog 28 #[.agg s.arr] w (QvPost s w) := by
  have HFO := hid (fun W => forms_ok W)
  have HKP := hid (fun d p hp W => kept_ok s d p hp W)
  have HK := hid hk
  have c1 : decide (s.kind < 1) = false := by simp; omega
  have c9 : decide (9 < s.kind) = false := by simp; omega
  have j1 : decide (s.kind < 0) = false := by simp; omega
  have j2 : (0 : Int) ≤ s.kind := by omega
  have j3 : s.kind < 10 := by omega
  obtain ⟨n, hn⟩ : ∃ n, (Sq.parts s.kind.toNat).length = n := ⟨_, rfl⟩
  have HN : Hid ((Sq.parts s.kind.toNat).length = n ∧ n ≤ 4) := hid ⟨hn, hn ▸ parts_len _⟩
  unfold QvPost
  unfold Sq.St.arr
  clear hk hn
  go_enter Tryz.func28, Tryz.ntmps28
  go_wp2_with fail
  refine qA fun hSt => ?_
  refine qS [1, 2, 7] ?_
  iterate 3 (refine qT ?_; simp only [Act.put, qY])
  refine TakeSeq.done ?_
  refine qH 0 fun K hK => ?_
  go_simp
  go_at_call 29; refine (HFO.out _).mono ?_; rintro e w1 ⟨b, rfl, hbb, hbl, hF, hb⟩; ((obtain ⟨hc1, hf1, hs1⟩ := qR hb); (try have := qN0 w w1); (try have := qN1 w w1))
  go_wp2_with fail
  refine hK.out _ _ (SteadyAll.of qL) (fun hHeld => ?_)
  clear hK K
  obtain ⟨b2, hw1, hp1, hlo, hb2, hrow⟩ := hF s.kind.toNat (by have := HK.out; omega) (by have := HK.out; omega)
  rw [HN.out.1] at hp1
  have cP : w1.cell? ⟨b, s.kind.toNat * 2 + 1, none⟩ = some (.slice (some ⟨b2, 0, none⟩) n n) := by rw [Nat.mul_comm]; exact hp1
  have HR := hid (And.intro hrow (And.intro hlo hb2))
  clear hw1 hp1 hF hrow hlo
  refine qH 3 fun K hK => ?_
  go_simp
  refine hK.out _ _ (SteadyAll.of qL) (fun hHeld => ?_)
  clear hK K
  refine qH 4 fun K hK => ?_
  go_simp
  refine hK.out _ _ (SteadyAll.of qL) (fun hHeld => ?_)
  clear hK K
  refine qH 5 fun K hK => ?_
  go_simp
  refine hK.out _ _ (SteadyAll.of qL) (fun hHeld => ?_)
  clear hK K
  refine qH 6 fun K hK => ?_
  go_simp
  refine hK.out _ _ (SteadyAll.of qL) (fun hHeld => ?_)
  clear hK K
  refine qD ?_ _
  have hsz : w.heap.size + 2 ≤ b2 := by have := HR.out.2.1; simpa using this
  have H0 : Hid (QvAt s w b2 0 w1) := hid ⟨(((Blk.made w _ _).alloc _).drew).kept hb, ((Blk.made' (n := w.heap.size + 1) (w := w.alloc _) (by simp)).drew).kept hb, qL, by simp, HR.out.1, HR.out.2.2, hsz⟩
  clear hb hc1 hf1 cP hbb hbl
  go_wp2_with fail
  go_loopw [25] (fun i wr => ∃ (j : Nat), i = .int .i64 j ∧ j ≤ n ∧ Hid (QvAt s w b2 j wr)) (fun i _ => ((n : Int) - intOf i).toNat)
  case atStart => exact ⟨0, rfl, by omega, H0⟩
  case round =>
    obtain ⟨j, rfl, hjn, HQ⟩ := hrel
    obtain ⟨d, hd⟩ : ∃ d, s.upto j = d := ⟨_, rfl⟩
    have BO := HQ.out.only
    rw [hd] at BO
    have BX := HQ.out.box
    unfold Sq.St.arr at BO BX
    have ko := BO.cell
    have fo := BO.free
    have lo := BO.lt
    have kx := BX.cell
    have lx := BX.lt
    have HBO := hid BO
    have HD := hid hd
    clear BO BX hd
    by_cases hj : j < n
    · have b1 : decide ((j : Int) < n) = true := by simp; omega
      have wk : IntKind.i64.wrap ((j : Int) + 1) = (j : Int) + 1 := by rw [IntKind.wrap_i64]; have := HN.out.2; omega
      have j4 : decide ((j : Int) < 0) = false := by simp
      have j5 : (0 : Int) ≤ j := by omega
      have j6 : (j : Int) < n := by omega
      obtain ⟨p, hp⟩ : ∃ p, (Sq.parts s.kind.toNat)[j]? = some p := ⟨_, List.getElem?_eq_getElem (by have := HN.out.1; omega)⟩
      have cp := HQ.out.row j p hp
      have lb := HQ.out.lt
      have HP := hid hp
      obtain ⟨q, hq⟩ : ∃ q, s.keep d p = q := ⟨_, rfl⟩
      obtain ⟨ok, hok⟩ : ∃ o, s.okp p = o := ⟨_, rfl⟩
      have HKJ : Hid (∀ W, Calls Tryz.prog 52 #[.agg #[.int .i64 s.kind, .int .u32 s.key, .int .u32 s.last, .int .i64 s.c0, .int .i64 s.c1, .int .i64 s.c2, .int .i64 s.col, .int .i64 s.value, .int .i64 s.wcol, .int .i64 s.wop, .int .i64 s.wval, .int .i64 s.limit], .agg #[.int .i64 d.kind, .int .u32 d.key, .int .u32 d.last, .int .i64 d.c0, .int .i64 d.c1, .int .i64 d.c2, .int .i64 d.col, .int .i64 d.value, .int .i64 d.wcol, .int .i64 d.wop, .int .i64 d.wval, .int .i64 d.limit], .int .i64 p] W fun e w' => e = .returned (.tuple #[.agg #[.int .i64 q.kind, .int .u32 q.key, .int .u32 q.last, .int .i64 q.c0, .int .i64 q.c1, .int .i64 q.c2, .int .i64 q.col, .int .i64 q.value, .int .i64 q.wcol, .int .i64 q.wop, .int .i64 q.wval, .int .i64 q.limit], .bool ok]) ∧ Below W.heap.size W w') := hid (fun W => by have h := HKP.out d p (parts_lt _ _ _ hp) W; unfold KeptPost at h; rw [hq, hok] at h; exact h)
      have HO := hid (And.intro hq hok)
      clear hq hok hp
      go_wp2_with fail
      go_at_call 52
      refine (HKJ.out _).mono ?_
      rintro e w2 ⟨rfl, hb2⟩
      ((obtain ⟨hc2, hf2, hs2⟩ := qR hb2); (try have := qN0 wr w2))
      have BO2 := HBO.out.kept hb2
      dsimp only
      iterate 9 go_step
      iterate 1 go_step
      refine wpList_store_cut rfl 54 (.tmp 3) (.tmp 34) rfl (w.heap.size + 1) _ rfl rfl _ _ BO2 (by kernel_rfl) rfl (stm_one q) (fun wx B_wx ho_wx hz_wx => ?_)
      simp only [Act.put, qY]
      have HNX : Hid (ok = true → QvAt s w b2 (j + 1) wx) := hid (fun h => HQ.out.next HP.out (HO.out.2.trans h) hb2 ho_wx (by rw [HD.out, HO.out.1]; exact B_wx))
      have HBL : Hid (Below w.heap.size w wx) := hid (over_below ((Over.of_below (b := w.heap.size + 1) (below_step HQ.out.below hb2)).trans ho_wx) (by omega))
      clear BO2 B_wx ho_wx hb2 hc2 hf2
      cases ok
      · have HF : Hid (s.valid = false) := hid (s.valid_false HP.out HO.out.2)
        go_wp2_with fail
        exact bodyPost_ret (results_tmp rfl _ _ _) rfl ⟨by rw [HF.out]; rfl, HBL.out⟩
      · go_wp2_with fail
        exact ⟨⟨j + 1, by simp, by omega, hid (HNX.out rfl)⟩, by simp [intOf]; omega⟩
    · have b1 : decide ((j : Int) < n) = false := by simp; omega
      obtain rfl : j = n := by omega
      have HV : Hid (s.valid = d.same s) := hid (by rw [s.valid_end HK.out HN.out.1 HQ.out.good, HD.out])
      obtain ⟨z, hz⟩ : ∃ z, d.same s = z := ⟨_, rfl⟩
      have ne : ∀ W, (binOp .eql 54 (.agg #[.int .i64 d.kind, .int .u32 d.key, .int .u32 d.last, .int .i64 d.c0, .int .i64 d.c1, .int .i64 d.c2, .int .i64 d.col, .int .i64 d.value, .int .i64 d.wcol, .int .i64 d.wop, .int .i64 d.wval, .int .i64 d.limit]) (.agg #[.int .i64 s.kind, .int .u32 s.key, .int .u32 s.last, .int .i64 s.c0, .int .i64 s.c1, .int .i64 s.c2, .int .i64 s.col, .int .i64 s.value, .int .i64 s.wcol, .int .i64 s.wop, .int .i64 s.wval, .int .i64 s.limit])).run Tryz.prog W = .ok (.bool z) W := fun W => by rw [← hz]; exact eql_stmt d s W
      rw [hz] at HV
      go_wp2_with fail
      exact bodyPost_ret (results_tmp rfl _ _ _) rfl ⟨by rw [HV.out]; rfl, HQ.out.below⟩
theorem qValid (s : Sq.St) (w : World) : Calls Tryz.prog 28 #[.agg s.arr] w (QvPost s w) := by
  by_cases hk : 1 ≤ s.kind ∧ s.kind ≤ 9
  · exact qValid_rest s hk w
  · exact qValid_kind s hk w
theorem infoStr : (Tryz.prog.info? 9).map (fun i => (i.zero, i.size, i.bytes)) = some (some (.string ⟨#[]⟩), 1, 16) := by kernel_rfl
def strCells (xs : List ByteArray) : List Value := xs.map Value.string
theorem strCells_one (xs : List ByteArray) : ∀ u ∈ strCells xs, u.oneCell' = true := by
  intro u hu
  simp only [strCells, List.mem_map] at hu
  obtain ⟨x, _, rfl⟩ := hu
  rfl
structure StrRow (w : World) (v : Value) (xs : List ByteArray) (b c : Nat) : Prop where
  shape : v = .slice (some ⟨b, 0, none⟩) xs.length c
  lt : b < w.heap.size
  cells : ∀ (j : Nat) u, (strCells xs)[j]? = some u → w.cell? ⟨b, j, none⟩ = some u
theorem StrRow.below {w w' : World} {v : Value} {xs : List ByteArray} {b c : Nat} (h : StrRow w v xs b c) (hb : Below w.heap.size w w') : StrRow w' v xs b c :=
  ⟨h.shape, Nat.lt_of_lt_of_le h.lt hb.size, fun j u hu => (hb.cell (p := ⟨b, j, none⟩) h.lt).trans (h.cells j u hu)⟩
theorem StrRow.src {w : World} {v : Value} {xs : List ByteArray} {b c : Nat} (h : StrRow w v xs b c) : SrcAt w v xs.length (strCells xs) :=
  .inr ⟨⟨b, 0, none⟩, c, h.shape, fun j u hu => by rcases j with _ | j <;> simpa [Addr.add] using h.cells _ u hu, strCells_one xs⟩
theorem growStr (n : Nat) (hn : n ≤ 1000000) (h0 : n ≠ 0) (w : World) : Calls Tryz.prog 88 #[.slice none 0 0, .int .i64 n] w fun e w' => ∃ v, e = .returned v ∧ w'.ownsRow w.heap.size 9 1 v 0 [] ∧ Below w.heap.size w w' := by
  obtain ⟨i0, hi, hz0, hz1, hz2⟩ := info_parts infoStr
  have hz := fun ty => Lib.run_append_nil_zeros (P := Tryz.prog) w 93 3 ty 9 i0 _ .i64 .i64 Tryz.underlying93 Tryz.underlying3 hi hz0 n (by omega) (by rw [hz1]; omega) (by omega) (by rw [hz2]; omega)
  have hGn : n ≤ grownCap w n 0 9 := grownCap_ge w _ _ _
  obtain ⟨G, hG⟩ : ∃ G, G = grownCap w n 0 9 := ⟨_, rfl⟩
  rw [← hG] at hz hGn
  have hG63 : G ≤ 9223372036854775807 := by
    have := grownCap_le_maxLen w n 0 9 (by unfold maxLen; omega)
    rw [← hG] at this
    unfold maxLen at this
    omega
  clear hG
  have HZ := hid hz
  clear hz
  have b1 : decide ((n : Int) < 0) = false := by simp
  have b2 : decide ((0 : Int) < n) = true := by simp; omega
  have b3 : decide (0 < n) = true := by simp; omega
  have b4 : IntKind.i64.wrap ((n : Int) - 0) = n := by rw [IntKind.wrap_i64]; omega
  go_enter Tryz.func88, Tryz.ntmps88
  go_wp2_with (at_builtin; refine Lib.wpList_append_run _ rfl _ _ _ _ rfl _ _ rfl rfl _ _ (HZ.out _) ?_)
  refine bodyPost_ret (results_tmp rfl _ _ _) rfl ⟨_, rfl, ⟨rfl, .inr ⟨w.heap.size, G, _, rfl, Nat.le_refl _, Blk.made _ _ _, by omega, by unfold maxLen; omega, ?_, rfl⟩⟩, qL⟩
  simp [Builtin.zeroCells, Value.cells]
  omega
theorem concatStr (xs ys : List ByteArray) (b1 c1 b2 c2 g2 k m : Nat) (hk : xs.length = k) (hm : ys.length = m) (w : World) (hX : StrRow w (.slice (some ⟨b1, 0, none⟩) k c1) xs b1 c1) (hY : StrRow w (.slice (some ⟨b2, 0, none⟩) m c2) ys b2 c2)
    (h0 : w.cell? ⟨g2, 0, none⟩ = some (.slice (some ⟨b1, 0, none⟩) k c1)) (h1 : w.cell? ⟨g2, 1, none⟩ = some (.slice (some ⟨b2, 0, none⟩) m c2)) (hg : g2 < w.heap.size) (hk0 : 0 < k) (hsm : k + m ≤ 1000) :
    Calls Tryz.prog 56 #[.slice (some ⟨g2, 0, none⟩) 2 2] w fun e w' => ∃ v, e = .returned v ∧ w'.ownsRow w.heap.size 9 1 v (k + m) (strCells (xs ++ ys)) ∧ Below w.heap.size w w' := by
  obtain ⟨i0, hi, hz0, hz1, hz2⟩ := info_parts infoStr
  have HX := hid hX
  have HY := hid hY
  have HKM := hid (And.intro hk hm)
  clear hX hY hk hm
  have s1 : IntKind.i64.wrap ((k : Int) + m) = ((k + m : Nat) : Int) := by rw [IntKind.wrap_i64]; omega
  have s2 : decide (((k + m : Nat) : Int) < 0) = false := by simp; omega
  have HGR : Hid (∀ W, Calls Tryz.prog 88 #[.slice none 0 0, .int .i64 ((k : Int) + m)] W fun e w' => ∃ v, e = .returned v ∧ w'.ownsRow W.heap.size 9 1 v 0 [] ∧ Below W.heap.size W w') :=
    hid (fun W => by rw [show (k : Int) + m = ((k + m : Nat) : Int) by omega]; exact growStr (k + m) (by omega) (by omega) W)
  go_enter Tryz.func56, Tryz.ntmps56
  go_wp2_with fail
  refine wp_loop_rounds 3 ?_
  rw [rounds_succ]
  go_wp2_with fail
  rw [rounds_succ]
  go_wp2_with fail
  rw [rounds_succ]
  go_wp2_with fail
  go_at_call 88; refine (HGR.out _).mono ?_; rintro e1 w1 ⟨v, rfl, hown, hb⟩
  ((obtain ⟨hc1, hf1, hs1⟩ := qR hb); (try have := qN0 w w1))
  have HB1 := hid hb
  have HO1 := hid hown
  clear hb hown
  go_wp2_with fail
  refine wp_loop_rounds 3 ?_
  rw [rounds_succ]
  go_wp2_with (at_builtin; refine halt ?_)
  refine unhalt ?_
  refine wpList_plain rfl fun K hK => ?_
  refine wp_append_src (.tmp 31) (.tmp 32) 93 rfl w.heap.size 9 i0 _ 1 16 Tryz.underlying93 hi hz0 hz1 hz2 rfl (by decide) v 0 [] rfl HO1.out (.slice (some ⟨b1, 0, none⟩) k c1) k (strCells _) rfl (HKM.out.1 ▸ (HX.out.below HB1.out).src) (by simp [strCells, HKM.out.1]) (by unfold maxLen; omega) (by omega) (by omega) ?_
  intro v1 w2 hown2 hg2
  refine hK _ _ ?_
  clear hK K
  rw [Nat.zero_add, List.nil_append] at hown2
  have hb2 : Below w.heap.size w w2 := below_grown HB1.out hg2 (fun j hj => by have := own_row_ge HO1.out j hj; omega)
  ((obtain ⟨hc2, hf2, hs2⟩ := qR hb2); (try have := qN0 w w2))
  have HB2 := hid hb2
  have HO2 := hid hown2
  clear hb2 hown2 hg2
  go_wp2_with fail
  rw [rounds_succ]
  go_wp2_with (at_builtin; refine halt ?_)
  refine unhalt ?_
  refine wpList_plain rfl fun K hK => ?_
  refine wp_append_src (.tmp 31) (.tmp 32) 93 rfl w.heap.size 9 i0 _ 1 16 Tryz.underlying93 hi hz0 hz1 hz2 rfl (by decide) v1 k _ rfl HO2.out (.slice (some ⟨b2, 0, none⟩) m c2) m (strCells _) rfl (HKM.out.2 ▸ (HY.out.below HB2.out).src) (by simp [strCells, HKM.out.2]) (by unfold maxLen; omega) (by omega) (by omega) ?_
  intro v2 w3 hown3 hg3
  refine hK _ _ ?_
  clear hK K
  have hb3 : Below w.heap.size w w3 := below_grown HB2.out hg3 (fun j hj => by have := own_row_ge HO2.out j hj; omega)
  ((obtain ⟨hc3, hf3, hs3⟩ := qR hb3); (try have := qN0 w w3))
  have HB3 := hid hb3
  have HO3 := hid hown3
  clear hb3 hown3 hg3
  go_wp2_with fail
  rw [rounds_succ]
  go_wp2_with fail
  refine bodyPost_ret (results_tmp rfl _ _ _) rfl ⟨v2, rfl, ?_, HB3.out⟩
  have := HO3.out
  rwa [show strCells _ ++ strCells _ = strCells (_ ++ _) from List.map_append.symm] at this
end Go.Proofs.YtcoiehgcfjfhaaaGreatDoor
