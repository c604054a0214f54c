/- Package btree: entries are stored in a node's page, where they fit. -/
import Derived.Test.YtjmpekanlmepmaaGreatDoorWI6
set_option linter.unusedVariables false
set_option linter.unusedSimpArgs false
set_option linter.unusedSectionVars false
set_option linter.constructorNameAsVariable false
namespace Go.Proofs.YtjmpekanlmepmaaGreatDoor
open Go.RowKit

set_option maxRecDepth 10000 in
set_option maxHeartbeats 2000000 in
theorem store_fit (A : Nat → Prop) (op : Bt.Op) (known : List Bt.Page) (vf vk : Value) (s : Bt.St) (b : Nat) (page : Bt.Page) (n : Bt.Node) (es : List Bt.Entry) (a0 : Option Addr) (n0 c0 g cap : Nat) (w : World) (h : IsRun A op known vf vk s b w) (hA : ∀ c, A c → c < w.heap.size)
    (hp : page.Ok) (hn : NodeOk { n with entries := es }) (he : EntRow w (.slice (some ⟨g, 0, none⟩) es.length cap) es) (h5 : es.length ≤ 5) :
    Calls Tryz.prog 86 #[.pointer (some ⟨b, 0, none⟩), .agg (foundCells page n (.slice a0 n0 c0)), .slice (some ⟨g, 0, none⟩) es.length cap, .slice none 0 0] w (RunPost A op known vf vk (s.store op page n es []) b (.tuple #[]) w) := by
  have HX : Hid (s.store op page n es [] = s.finish [({ n with entries := es } : Bt.Node).fill page] []) := Lib.hid (by simp [Bt.St.store, h5])
  have HR := Lib.hid h
  have HP := Lib.hid hp
  have HN := Lib.hid hn
  have HE := Lib.hid he
  have HRC : ∀ r : Bt.Page, Hid (r.cells = #[.int .i64 r.line, .int .u64 r.head, .int .u64 r.d0, .int .u64 r.d1, .int .u64 r.d2, .int .u64 r.d3, .int .u64 r.d4, .int .u64 r.d5, .int .u64 r.d6]) := fun r => Lib.hid rfl
  have HFC := HRC (({ n with entries := es } : Bt.Node).fill page)
  have hlt := h.lt
  have hlt1 : b < w.heap.size + 1 := by omega
  have b1 : decide ((es.length : Int) ≤ 5) = true := by simp; omega
  clear h hp hn he
  unfold foundCells
  go_enter Tryz.func86, Tryz.ntmps86
  go_wp2_with fail
  go_at_call 64; refine (fill_any { n with entries := es } (.slice (some ⟨g, 0, none⟩) es.length cap) page HP.out HN.out _ ?hpf).mono ?_
  case hpf => exact HE.out.below (by (repeat (first | with_reducible exact Below.refl _ _ | with_reducible assumption | with_reducible refine Below.setCell ?_ (by first | (simp; done) | (simp; omega)) _ | with_reducible refine below_alloc ?_ _ | with_reducible refine below_drewN ?_ _ | with_reducible refine Below.drew ?_ | with_reducible refine below_step ?_ (by assumption))))
  rintro e1 w1 ⟨rfl, hb1⟩
  rw [HFC.out]
  ((obtain ⟨hc1, hf1⟩ := below_rules hb1; have hs1 := Below.size hb1; try simp only [size_alloc, size_setCell, size_drew, size_drewN] at hs1 hc1 hf1); (try have z1_w_0 : w.heap.size < w1.heap.size := by omega); (try have z1_w_1 : w.heap.size + 1 < w1.heap.size := by omega))
  have HB1 := Lib.hid hb1
  go_wp2_with fail
  go_at_call 94; refine (done_none (New A w) op known vf vk s b [({ n with entries := es } : Bt.Node).fill page] w1.heap.size 1 1 _ ?hrun ?hw (.inr (by omega))).mono ?_
  case hrun => exact (HR.out.imp (fun c hc => .inl hc)).below (by (repeat (first | with_reducible exact Below.refl _ _ | with_reducible assumption | with_reducible refine Below.setCell ?_ (by first | (simp; done) | (simp; omega)) _ | with_reducible refine below_alloc ?_ _ | with_reducible refine below_drewN ?_ _ | with_reducible refine Below.drew ?_ | with_reducible refine below_step ?_ (by assumption))))
  case hw => exact own_pages1 _ _ _ (by omega)
  rintro e2 w2 ⟨rfl, hrun2, ho2⟩
  have HR2 := Lib.hid hrun2
  clear hrun2
  go_wp2_with fail
  refine bodyPost_ret (results_none rfl _ _ _) rfl ⟨rfl, ?_, by (repeat (first | with_reducible exact Over.refl _ _ | with_reducible assumption | with_reducible refine Over.put ?_ _ _ | with_reducible refine Over.alloc ?_ _ | with_reducible refine Over.drew ?_ | with_reducible refine Over.own ?_ (by first | (simp; done) | (simp; omega)) _ | with_reducible refine Over.trans ?_ (by assumption) | with_reducible refine Over.then_below ?_ (by assumption)))⟩
  rw [HX.out]
  refine HR2.out.imp (fun c hc => ?_)
  rcases hc with h1 | h1
  · exact h1
  · exact .inr (by simp at h1; omega)
end Go.Proofs.YtjmpekanlmepmaaGreatDoor
