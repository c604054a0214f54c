/- Package btree: (*run).store: six entries and no fresh page. -/
import Derived.Test.YtjmpekanlmepmaaGreatDoorNN23
set_option linter.all false
set_option maxRecDepth 20000
set_option maxHeartbeats 8000000
open Go.Lib (hid)
namespace Go.Proofs.YtjmpekanlmepmaaGreatDoor
open Go.RowKit
theorem store_limit (A : Nat → Prop) (op : Bt.Op) (known : List Bt.Page) (vf vk : Value) (s : Bt.St) (b : Nat) (page : Bt.Page) (n : Bt.Node) (es : List Bt.Entry) (a0 : Option Addr) (n0 c0 g cap : Nat) (w : World) (h : IsRun A op known vf vk s b w) (hA : ∀ c, A c → c < w.heap.size)
 (h6 : es.length = 6) (hf : op.fresh = []) :
 Calls Tryz.prog 86 #[.pointer (some ⟨b, 0, none⟩), .agg (foundCells page n (.slice a0 n0 c0)), .slice (some ⟨g, 0, none⟩) 6 cap, .slice none 0 0] w (RunPost A op known vf vk (s.store op page n es []) b (.tuple #[]) w) := by
 have HX : Hid (s.store op page n es [] = (s.fresh op [page.line]).1) := hid (by simp [Bt.St.store, h6, Bt.St.fresh, hf])
 have HY : Hid ((s.fresh op [page.line]).2 = none) := hid (by simp [Bt.St.fresh, hf])
 have HF := hid hf
 have HR := hid h
 obtain ⟨i0, hi, hz0, hz1, hz2⟩ := info_parts infoInt'
 have hlt := h.lt
 have hlt1 : b < w.heap.size + 1 := by omega
 have hlt2 : b < w.heap.size + 1 + 1 := by omega
 clear h hf
 unfold foundCells
 go_enter Tryz.func86, Tryz.ntmps86
 go_wp2_with (at_builtin; refine halt ?_)
 refine unhalt ?_
 refine wpList_append_mine rfl (.tmp 29) (.tmp 33) 45 rfl 0 3 i0 _ 1 8 Tryz.underlying45 hi hz0 hz1 hz2 rfl (by decide) (.slice none 0 0) 0 [] rfl (World.ownsRow_nil _ _ _ _) ⟨w.heap.size + 1 + 1, 0, none⟩ 1 1
  [.int .i64 page.line] rfl rfl (one_news (u := .int .i64 page.line) ((Blk.made' (by simp)).cell 0)) (by intro u hu; simp at hu; subst hu; rfl) (by omega) (by unfold maxLen; omega) (by omega) (by omega) ?_
 intro g1 cap1 w1 hown1 hg1
 have hb1 := below_grown (Below.refl _ _) hg1 (fun k hk => by cases hk)
 ((obtain ⟨hc1, hf1, hs1⟩ := qR hb1); (try have := qN0 w w1); (try have := qN1 w w1); (try have := qN2 w w1))
 clear hown1 hg1
 go_wp2_with fail
 go_at_call 93; refine (fresh_empty A op known vf vk s b _ [page.line] _ ?hrun ?hlow HF.out).mono ?_
 case hrun => exact HR.out.below qL
 case hlow => exact fun c hc => by have := hA c hc; omega
 rintro e2 w2 ⟨hrun2, ho2, rfl⟩
 rw [HY.out]
 rw [HY.out] at hrun2
 have HR2 := hid (show IsRun (New A _) op known vf vk _ b w2 from hrun2)
 clear hrun2
 ((obtain ⟨hc2, hf2, hs2⟩ := qO ho2); (try have := qN0 w w2); (try have := qN1 w w2); (try have := qN2 w w2); (try have := qN0 w1 w2))
 simp only [Option.getD_none, Option.isSome_none, zeroPage_cells]
 go_wp2_with fail
 refine bodyPost_ret (results_none rfl _ _ _) rfl ⟨rfl, ?_, qV⟩
 rw [HX.out]
 refine IsRun.alloc (IsRun.imp HR2.out (fun c hc => ?_)) _
 rcases hc with h1 | h1
 ·exact .inl h1
 ·exact .inr (by omega)
end Go.Proofs.YtjmpekanlmepmaaGreatDoor
