/- Package btree: entries are stored in a node's page, which is split. -/
import Derived.Test.YtjmpekanlmepmaaGreatDoorNN22
set_option linter.all false
set_option maxRecDepth 20000
set_option maxHeartbeats 8000000
open Go.Lib (hid)
namespace Go.Proofs.YtjmpekanlmepmaaGreatDoor
open Go.RowKit
theorem infoInt' : (Tryz.prog.info? 3).map (fun i => (i.zero, i.size, i.bytes)) = some (some (.int .i64 0), 1, 8) := by kernel_rfl
def lowerHalf (q : Bt.Page) (n : Bt.Node) (es : List Bt.Entry) (kk : Int) : Bt.Node := { n with high := kk, right := Bt.at_ q, entries := es.take 3 }
def upperHalf (n : Bt.Node) (es : List Bt.Entry) : Bt.Node := ⟨n.level, false, false, n.high, n.right, es.drop 3⟩
theorem EntRow.sub3 {w : World} {g cap : Nat} {es : List Bt.Entry} (h : EntRow w (.slice (some ⟨g, 0, none⟩) es.length cap) es) (h6 : es.length = 6) :
 EntRow w (.slice (some ⟨g, 0, none⟩) 3 cap) (es.take 3) ∧ EntRow w (.slice (some ⟨g, 9, none⟩) 3 (cap - 3)) (es.drop 3) := by
 rcases h.form with ⟨h1, _⟩ | ⟨b, off, cp, hv, hlt, hcells⟩
 ·simp at h1
 ·simp only [Value.slice.injEq, Option.some.injEq, Addr.mk.injEq, and_true, true_and] at hv
  obtain ⟨⟨rfl, rfl⟩, rfl⟩ := hv
  refine ⟨⟨fun e he => h.ok e (List.mem_of_mem_take he), by simp [maxLen, h6], .inr ⟨g, 0, cap, by simp [h6], hlt, fun i p hi j u hu => ?_⟩⟩,
   ⟨fun e he => h.ok e (List.mem_of_mem_drop he), by simp [maxLen, h6], .inr ⟨g, 9, cap - 3, by simp [h6], hlt, fun i p hi j u hu => ?_⟩⟩⟩
  ·have hi3 : i < 3 := by
     have := (List.getElem?_eq_some_iff.1 hi).1
     simp at this; omega
   rw [List.getElem?_take_of_lt hi3] at hi
   exact hcells i p hi j u hu
  ·rw [List.getElem?_drop] at hi
   have := hcells (3 + i) p hi j u hu
   rw [show 9 + i * 3 + j = 0 + (3 + i) * 3 + j by omega]
   exact this
theorem EntRow.over {w w' : World} {v : Value} {l : List Bt.Entry} {b : Nat} (h : EntRow w v l) (ho : Over b w w') (hne : ∀ c o n m, v = .slice (some ⟨c, o, none⟩) n m → c < b ∨ b < c) : EntRow w' v l := by
 refine ⟨h.ok, h.len, ?_⟩
 rcases h.form with h1 | ⟨c, off, cap, hv, hlt, hcells⟩
 ·exact .inl h1
 ·exact .inr ⟨c, off, cap, hv, Nat.lt_of_lt_of_le hlt ho.size, fun i p hi j u hu => by rw [(over_rules ho).1 c _ hlt (hne c _ _ _ hv)]; exact hcells i p hi j u hu⟩
theorem store_split (A : Nat → Prop) (op : Bt.Op) (known : List Bt.Page) (vf vk : Value) (s : Bt.St) (b : Nat) (page : Bt.Page) (n : Bt.Node) (es : List Bt.Entry) (a0 : Option Addr) (n0 c0 g cap : Nat) (w : World) (h : IsRun A op known vf vk s b w) (hA : ∀ c, A c → c < w.heap.size)
 (hp : page.Ok) (hn : 0 ≤ n.level ∧ n.level ≤ 8) (hnh : 0 ≤ n.high ∧ n.high < 4294967296) (he : EntRow w (.slice (some ⟨g, 0, none⟩) 6 cap) es) (h6 : es.length = 6) (hcap : 6 ≤ cap) (hgb : b < g)
 (p q : Bt.Page) (rest : List Bt.Page) (hf : op.fresh = p :: rest) (hpo : p.Ok) (ha : Bt.allocate p 4 0 = (q, 0)) (hpl : q.line ≠ page.line) :
 Calls Tryz.prog 86 #[.pointer (some ⟨b, 0, none⟩), .agg (foundCells page n (.slice a0 n0 c0)), .slice (some ⟨g, 0, none⟩) 6 cap, .slice none 0 0] w (RunPost A op known vf vk (s.store op page n es []) b (.tuple #[]) w) := by
 obtain ⟨kk, hkk⟩ : ∃ kk, kk = (es.getD 2 default).key := ⟨_, rfl⟩
 have HX : Hid (s.store op page n es [] = ({ s with out := { s.out with split := true } } : Bt.St).finish [(lowerHalf q n es kk).fill page, (upperHalf n es).fill q] []) := hid (by simp [Bt.St.store, h6, Bt.St.fresh, hf, ha, hpl, hkk, lowerHalf, upperHalf])
 obtain ⟨hqo, hqv, hql, hqh, hqd⟩ := alloc_good hpo ha
 have HRC : ∀ r : Bt.Page, Hid (r.cells = #[.int .i64 r.line, .int .u64 r.head, .int .u64 r.d0, .int .u64 r.d1, .int .u64 r.d2, .int .u64 r.d3, .int .u64 r.d4, .int .u64 r.d5, .int .u64 r.d6]) := fun r => hid rfl
 have HQ := HRC q
 have HAC : Hid ((Bt.at_ q).cells = #[.int .i64 (Bt.at_ q).line, .int .i64 (Bt.at_ q).gen]) := hid rfl
 have HQO := hid hqo
 have HAL := hid ha
 have HFR := hid hf
 have HPL := hid hpl
 obtain ⟨hs1, hs2⟩ := EntRow.sub3 (by rw [h6]; exact he) h6
 have HS1 := hid hs1
 have HS2 := hid hs2
 have hk2 : 2 < es.length := by omega
 have hk2e : (es.getD 2 default) = es[2] := by rw [List.getD_eq_getElem?_getD, List.getElem?_eq_getElem hk2]; rfl
 have hkb := he.ok es[2] (List.getElem_mem hk2)
 have HNL : Hid (NodeOk (lowerHalf q n es kk)) := hid ⟨⟨hn.1, by show n.level ≤ 255; omega⟩, by show 0 ≤ kk ∧ kk < 4294967296; rw [hkk, hk2e]; exact hkb, by simp [lowerHalf, h6]⟩
 have HNU : Hid (NodeOk (upperHalf n es)) := hid ⟨⟨hn.1, by show n.level ≤ 255; omega⟩, hnh, by simp [upperHalf, h6]⟩
 have k2 : w.cell? ⟨g, 6, none⟩ = some (.int .u32 kk) := by
  rcases he.form with ⟨h1, _⟩ | ⟨b', off, cp, hv, hlt, hcells⟩
  ·simp at h1
  ·simp only [Value.slice.injEq, Option.some.injEq, Addr.mk.injEq, and_true, true_and] at hv
   obtain ⟨⟨rfl, rfl⟩, _, rfl⟩ := hv
   rw [hkk, hk2e]
   exact hcells 2 es[2] (List.getElem?_eq_getElem hk2) 0 _ rfl
 have hgw : g < w.heap.size := by
  rcases he.form with ⟨h1, _⟩ | ⟨b', off, cp, hv, hlt, hcells⟩
  ·simp at h1
  ·simp only [Value.slice.injEq, Option.some.injEq, Addr.mk.injEq, and_true, true_and] at hv
   obtain ⟨⟨rfl, rfl⟩, _, rfl⟩ := hv
   exact hlt
 have HR := hid h
 have HP := hid hp
 obtain ⟨i0, hi, hz0, hz1, hz2⟩ := info_parts infoInt'
 have hlt := h.lt
 have hlt1 : b < w.heap.size + 1 := by omega
 have hlt2 : b < w.heap.size + 1 + 1 := by omega
 have hlt2' : b < w.heap.size + 1 := by omega
 have cp1 : (3 : Int) ≤ 6 := by omega
 have cp2 : (3 : Int) ≤ cap := by omega
 clear h hp hn hnh he hs1 hs2 hkk hk2 hk2e hkb hqo hqv hql hqh hqd ha hf hpl
 unfold foundCells
 go_enter Tryz.func86, Tryz.ntmps86
 go_wp2_with (at_builtin; refine halt ?_)
 refine unhalt ?_
 refine wpList_append_mine rfl (.tmp 29) (.tmp 33) 45 rfl 0 3 i0 _ 1 8 Tryz.underlying45 hi hz0 hz1 hz2 rfl (by decide) (.slice none 0 0) 0 [] rfl (World.ownsRow_nil _ _ _ _) ⟨w.heap.size + 1 + 1, 0, none⟩ 1 1
  [.int .i64 page.line] rfl rfl (one_news (u := .int .i64 page.line) ((Blk.made' (by simp)).cell 0)) (by intro u hu; simp at hu; subst hu; rfl) (by omega) (by unfold maxLen; omega) (by omega) (by omega) ?_
 intro g1 cap1 w1 hown1 hg1
 have hb1 := below_grown (Below.refl _ _) hg1 (fun k hk => by cases hk)
 ((obtain ⟨hc1, hf1, hs1⟩ := qR hb1); (try have := qN0 w w1); (try have := qN1 w w1); (try have := qN2 w w1))
 have HW1 : Hid (w1.ownsRow 0 3 1 (.slice (some ⟨g1, 0, none⟩) (0 + 1) cap1) ([page.line] : List Int).length (intCells [page.line])) := hid hown1
 clear hown1 hg1
 go_wp2_with fail
 go_at_call 93; refine (fresh_one A op known vf vk s b _ [page.line] _ ?hrun ?hlow p q rest HFR.out HAL.out (by simpa using HPL.out) ?ht).mono ?_
 case hrun => exact HR.out.below qL
 case hlow => exact fun c hc => by have := hA c hc; omega
 case ht => exact HW1.out
 rintro e2 w2 ⟨hrun2, ho2, rfl⟩
 have HR2 := hid hrun2
 clear hrun2
 ((obtain ⟨hc2, hf2, hs2⟩ := qO ho2); (try have := qN0 w w2); (try have := qN1 w w2); (try have := qN2 w w2); (try have := qN0 w1 w2))
 simp only [Option.getD_some, Option.isSome_some, HQ.out]
 obtain ⟨un, uw, ue, uc, hc⟩ := HR2.out.cells
 have j14 : w2.cell? ⟨b, 14, none⟩ = some (.bool s.out.split) := hc 14
 have hfb := HR2.out.free
 have x0 : b < w2.heap.size := by omega
 have x1 : b < w2.heap.size + 1 := by omega
 have x2 : b < w2.heap.size + 1 + 1 := by omega
 clear hc
 go_wp2_with fail
 refine qA fun hSt => ?_
 refine qS [0, 1, 2, 3, 4, 5, 6, 7, 8] ?_
 iterate 9 (refine qT ?_; simp only [Act.put, qY])
 refine TakeSeq.done ?_
 refine qH 9 fun K hK => ?_
 go_simp
 refine hK.out _ _ (SteadyAll.of qL) (fun hHeld => ?_)
 clear hK K
 refine qH 10 fun K hK => ?_
 go_simp
 refine hK.out _ _ (SteadyAll.of qL) (fun hHeld => ?_)
 clear hK K
 refine qD ?_ _
 go_wp2_with fail
 have y0 : g < w.heap.size + 1 := by omega
 have y01 : g < w.heap.size + 1 + 1 := by omega
 have y02 : g < w.heap.size + 1 + 1 + 1 := by omega
 have y1 : g < w1.heap.size := by omega
 have y2 : g < w2.heap.size := by omega
 have y3 : g < w2.heap.size + 1 := by omega
 have y4 : g < w2.heap.size + 1 + 1 := by omega
 have y5 : w.heap.size + 1 < w2.heap.size := by omega
 have y6 : w.heap.size + 1 < w2.heap.size + 1 := by omega
 have y7 : w.heap.size + 1 < w2.heap.size + 1 + 1 := by omega
 have y8 : w.heap.size < w2.heap.size + 1 + 1 := by omega
 refine qB (w.heap.size + 1) fun hSt => ?_
 refine qS [0, 1, 2, 3, 4, 6, 7, 8] ?_
 iterate 8 (refine qT ?_; simp only [Act.put, qY])
 refine TakeSeq.done ?_
 refine qH 5 fun K hK => ?_
 go_simp
 go_at_call 33; refine (At_any q HQO.out _).mono ?_; rintro e3 w3 ⟨rfl, hb3⟩; rw [HAC.out]; ((obtain ⟨hc3, hf3, hs3⟩ := qR hb3); (try have := qN0 w w3); (try have := qN1 w w3); (try have := qN2 w w3); (try have := qN0 w1 w3); (try have := qN0 w2 w3); (try have := qN1 w2 w3))
 go_wp2_with fail
 refine hK.out _ _ (SteadyBut.of qL) (fun hHeld => ?_)
 clear hK K
 refine qH 9 fun K hK => ?_
 go_simp
 refine hK.out _ _ qE (fun hHeld => ?_)
 clear hK K
 refine qS [10] ?_
 refine qT ?_; simp only [Act.put, qY]
 refine TakeSeq.done ?_
 refine qH 11 fun K hK => ?_
 go_simp
 refine hK.out _ _ qE (fun hHeld => ?_)
 clear hK K
 refine qS [12] ?_
 refine qT ?_; simp only [Act.put, qY]
 refine TakeSeq.done ?_
 refine qH 13 fun K hK => ?_
 go_simp
 refine hK.out _ _ qE (fun hHeld => ?_)
 clear hK K
 refine qD ?_ _
 have x3 : b < w3.heap.size := by omega
 go_wp2_with fail
 have hO3 : Over b w w3 := qV
 have X1 := Blk.kept (b := w.heap.size) (t := 145) (cs := #[.int .i64 page.line, .int .u64 page.head, .int .u64 page.d0, .int .u64 page.d1, .int .u64 page.d2, .int .u64 page.d3, .int .u64 page.d4, .int .u64 page.d5, .int .u64 page.d6, .int .i64 n.level, .bool n.leftmost, .bool n.dead, .int .u32 n.high, .int .i64 n.right.line, .int .i64 n.right.gen, .slice a0 n0 c0]) (made13 w) hb1
 have X2 := X1.grown ho2 (by simp; omega)
 have X3 : Blk w3 w.heap.size 145 #[.int .i64 page.line, .int .u64 page.head, .int .u64 page.d0, .int .u64 page.d1, .int .u64 page.d2, .int .u64 page.d3, .int .u64 page.d4, .int .u64 page.d5, .int .u64 page.d6, .int .i64 n.level, .bool n.leftmost, .bool n.dead, .int .u32 n.high, .int .i64 n.right.line, .int .i64 n.right.gen, .slice a0 n0 c0] := Blk.kept (by (repeat (first | with_reducible exact X2 | with_reducible apply Blk.put | with_reducible apply Blk.alloc | (with_reducible apply Blk.aside; (case hp => first | (simp; done) | (simp; omega))) | with_reducible apply Blk.drew | with_reducible refine Blk.kept ?_ (by assumption)))) hb3
 have N1 := Blk.kept (b := w.heap.size + 1) (t := 73) (cs := #[.int .i64 n.level, .bool n.leftmost, .bool n.dead, .int .u32 n.high, .int .i64 n.right.line, .int .i64 n.right.gen, .slice (some ⟨g, 0, none⟩) 6 cap]) (made23 w) hb1
 have N2 := N1.grown ho2 (by simp; omega)
 have N3 : Blk w3 (w.heap.size + 1) 73 #[.int .i64 n.level, .bool n.leftmost, .bool n.dead, .int .u32 n.high, .int .i64 n.right.line, .int .i64 n.right.gen, .slice (some ⟨g, 0, none⟩) 6 cap] := Blk.kept (by (repeat (first | with_reducible exact N2 | with_reducible apply Blk.put | with_reducible apply Blk.alloc | (with_reducible apply Blk.aside; (case hp => first | (simp; done) | (simp; omega))) | with_reducible apply Blk.drew | with_reducible refine Blk.kept ?_ (by assumption)))) hb3
 have Q1 := Blk.made w2 25 #[.int .i64 q.line, .int .u64 q.head, .int .u64 q.d0, .int .u64 q.d1, .int .u64 q.d2, .int .u64 q.d3, .int .u64 q.d4, .int .u64 q.d5, .int .u64 q.d6]
 have Q3 : Blk w3 w2.heap.size 25 #[.int .i64 q.line, .int .u64 q.head, .int .u64 q.d0, .int .u64 q.d1, .int .u64 q.d2, .int .u64 q.d3, .int .u64 q.d4, .int .u64 q.d5, .int .u64 q.d6] := Blk.kept (by (repeat (first | with_reducible exact Q1 | with_reducible apply Blk.put | with_reducible apply Blk.alloc | (with_reducible apply Blk.aside; (case hp => first | (simp; done) | (simp; omega))) | with_reducible apply Blk.drew | with_reducible refine Blk.kept ?_ (by assumption)))) hb3
 have U3 : Blk w3 (w2.heap.size + 1) 73 #[.int .i64 n.level, .bool false, .bool false, .int .u32 n.high, .int .i64 n.right.line, .int .i64 n.right.gen, .slice (some ⟨g, 9, none⟩) 3 (cap - 3)] := Blk.kept (by repeat (first | exact Blk.made' (by simp) | with_reducible apply Blk.drew)) hb3
 generalize hwx : World.setCell _ ⟨b, 14, none⟩ (.bool true) = wx
 have X4 : Blk wx w.heap.size 145 #[.int .i64 page.line, .int .u64 page.head, .int .u64 page.d0, .int .u64 page.d1, .int .u64 page.d2, .int .u64 page.d3, .int .u64 page.d4, .int .u64 page.d5, .int .u64 page.d6, .int .i64 n.level, .bool n.leftmost, .bool n.dead, .int .u32 n.high, .int .i64 n.right.line, .int .i64 n.right.gen, .slice a0 n0 c0] := by rw [← hwx]; (repeat (first | with_reducible exact X3 | with_reducible apply Blk.put | with_reducible apply Blk.alloc | (with_reducible apply Blk.aside; (case hp => first | (simp; done) | (simp; omega))) | with_reducible apply Blk.drew))
 have N4 : Blk wx (w.heap.size + 1) 73 #[.int .i64 n.level, .bool n.leftmost, .bool n.dead, .int .u32 kk, .int .i64 (Bt.at_ q).line, .int .i64 (Bt.at_ q).gen, .slice (some ⟨g, 0, none⟩) 3 cap] := by
  rw [← hwx]
  exact (((((N3.put 3 (.int .u32 kk)).put 4 (.int .i64 (Bt.at_ q).line)).put 5 (.int .i64 (Bt.at_ q).gen)).put 6 (.slice (some ⟨g, 0, none⟩) 3 cap)).aside (p := ⟨b, 14, none⟩) (by show w.heap.size + 1 ≠ b; omega) (.bool true)).cast rfl
 have Q4 : Blk wx w2.heap.size 25 #[.int .i64 q.line, .int .u64 q.head, .int .u64 q.d0, .int .u64 q.d1, .int .u64 q.d2, .int .u64 q.d3, .int .u64 q.d4, .int .u64 q.d5, .int .u64 q.d6] := by rw [← hwx]; (repeat (first | with_reducible exact Q3 | with_reducible apply Blk.put | with_reducible apply Blk.alloc | (with_reducible apply Blk.aside; (case hp => first | (simp; done) | (simp; omega))) | with_reducible apply Blk.drew))
 have U4 : Blk wx (w2.heap.size + 1) 73 #[.int .i64 n.level, .bool false, .bool false, .int .u32 n.high, .int .i64 n.right.line, .int .i64 n.right.gen, .slice (some ⟨g, 9, none⟩) 3 (cap - 3)] := by rw [← hwx]; (repeat (first | with_reducible exact U3 | with_reducible apply Blk.put | with_reducible apply Blk.alloc | (with_reducible apply Blk.aside; (case hp => first | (simp; done) | (simp; omega))) | with_reducible apply Blk.drew))
 have hOx : Over b w wx := by rw [← hwx]; exact qV
 have RX : IsRun (New A w) op known vf vk { s with out := { s.out with split := true } } b wx := by
  rw [← hwx]
  have hnw : ¬ New A w1 (w.heap.size + 1) := by
   rintro (h1 | h1)
   ·have := hA _ h1; omega
   ·omega
  have R2 : IsRun (New A w1) op known vf vk s b w2 := HR2.out.imp (fun c hc => .inl hc)
  have R3 : IsRun (New A w1) op known vf vk s b w3 := (((R2.alloc _).drew.alloc _).drew).below hb3
  refine IsRun.imp ((((((R3.cell hlt2' hnw 3 _).cell hlt2' hnw 4 _).cell hlt2' hnw 5 _).cell hlt2' hnw 6 _).field (s' := { s with out := { s.out with split := true } }) 14 (.bool true) (fun _ _ _ _ => rfl))) (fun c hc => ?_)
  rcases hc with h1 | h1
  ·exact .inl h1
  ·exact .inr (by omega)
 have E1 : EntRow wx (.slice (some ⟨g, 0, none⟩) 3 cap) (es.take 3) := HS1.out.over hOx (fun c o n m hv => by simp at hv; omega)
 have E2 : EntRow wx (.slice (some ⟨g, 9, none⟩) 3 (cap - 3)) (es.drop 3) := HS2.out.over hOx (fun c o n m hv => by simp at hv; omega)
 have HE1 := hid E1
 have HE2 := hid E2
 have HRX := hid RX
 have HOX := hid hOx
 have gX := X4.cell
 have gN := N4.cell
 have gQ := Q4.cell
 have gU := U4.cell
 have lX := X4.lt
 have lN := N4.lt
 have lQ := Q4.lt
 have lU := U4.lt
 have lb : b < wx.heap.size := by omega
 have HF1 := HRC ((lowerHalf q n es kk).fill page)
 have HF2 := HRC ((upperHalf n es).fill q)
 clear RX E1 E2 hOx X1 X2 X3 X4 N1 N2 N3 N4 Q1 Q3 Q4 U3 U4 hwx hO3 hc1 hc2 hc3 hf1 hf2 hf3 j14 hfb k2
 refine qB (b) fun hSt => ?_
 refine qS [0, 1, 2, 3, 5, 6, 9] ?_
 iterate 7 (refine qT ?_; simp only [Act.put, qY])
 refine TakeSeq.done ?_
 refine qH 4 fun K hK => ?_
 go_simp
 go_at_call 64; refine (fill_any (lowerHalf q n es kk) (.slice (some ⟨g, 0, none⟩) 3 cap) page HP.out HNL.out _ ?hpf).mono ?_; (case hpf => exact HE1.out.below qL); rintro e5 w5 ⟨rfl, hb5⟩; rw [HF1.out]; ((obtain ⟨hc5, hf5, hs5⟩ := qR hb5); (try have := qN0 w w5))
 go_wp2_with fail
 refine hK.out _ _ (SteadyBut.of qL) (fun hHeld => ?_)
 clear hK K
 refine qH 7 fun K hK => ?_
 go_simp
 go_at_call 64; refine (fill_any (upperHalf n es) (.slice (some ⟨g, 9, none⟩) 3 (cap - 3)) q HQO.out HNU.out _ ?hpf2).mono ?_; (case hpf2 => exact HE2.out.below qL); rintro e6 w6 ⟨rfl, hb6⟩; rw [HF2.out]; ((obtain ⟨hc6, hf6, hs6⟩ := qR hb6); (try have := qN0 w w6))
 go_wp2_with fail
 refine hK.out _ _ (SteadyBut.of qL) (fun hHeld => ?_)
 clear hK K
 refine qH 8 fun K hK => ?_
 go_simp
 refine hK.out _ _ (SteadyBut.of qL) (fun hHeld => ?_)
 clear hK K
 refine qH 10 fun K hK => ?_
 go_simp
 go_at_call 94; refine (done_none (New A w) op known vf vk { s with out := { s.out with split := true } } b [(lowerHalf q n es kk).fill page, (upperHalf n es).fill q] w6.heap.size 2 2 _ ?hrun ?hw (.inr (by omega))).mono ?_; (case hrun => exact HRX.out.below qL); (case hw => exact own_pages2 _ _ _ _ (by omega)); rintro e7 w7 ⟨rfl, hrun7, ho7⟩; have HR7 := hid hrun7; clear hrun7
 go_wp2_with fail
 refine hK.out _ _ (SteadyBut.over qV) (fun hHeld => ?_)
 clear hK K
 refine qD ?_ _
 go_wp2_with fail
 have hOx := HOX.out
 refine bodyPost_end (results_none rfl _ _ _) rfl ⟨rfl, ?_, qV⟩
 rw [HX.out]
 refine HR7.out.imp (fun c hc => ?_)
 rcases hc with h1 | h1
 ·exact h1
 ·exact .inr (by simp at h1; omega)
end Go.Proofs.YtjmpekanlmepmaaGreatDoor
