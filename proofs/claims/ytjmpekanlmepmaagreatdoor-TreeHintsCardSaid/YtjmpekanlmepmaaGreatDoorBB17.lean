/- Package btree: entries are stored in a node's page, which is split. -/
import Derived.Test.YtjmpekanlmepmaaGreatDoorBB16
import Derived.Test.YtjmpekanlmepmaaGreatDoorBB13
import Derived.Test.YtjmpekanlmepmaaGreatDoorBB15
set_option linter.all false
set_option maxRecDepth 20000
set_option maxHeartbeats 8000000
open Go.Lib (hid)
namespace Go.Proofs.YtjmpekanlmepmaaGreatDoor
open Go.RowKit
theorem infoInt' : (Tryz.prog.info? 3).map (fun i => (i.zero, i.size, i.bytes)) = some (some (.int .i64 0), 1, 8) := by kernel_rfl
def Z0o (q : Bt.Page) (n : Bt.Node) (es : List Bt.Entry) (kk : Int) : Bt.Node := { n with high := kk, right := Bt.at_ q, entries := es.take 3 }
def Z0p (n : Bt.Node) (es : List Bt.Entry) : Bt.Node := ⟨n.level, false, false, n.high, n.right, es.drop 3⟩
theorem EntRow.sub3 {w : World} {g cap : Nat} {es : List Bt.Entry} (h : EntRow w (.slice (some ⟨g, 0, none⟩) es.length cap) es) (h6 : es.length = 6) :
 EntRow w (.slice (some ⟨g, 0, none⟩) 3 cap) (es.take 3) ∧ EntRow w (.slice (some ⟨g, 9, none⟩) 3 (cap - 3)) (es.drop 3) := by
 rcases h.form with ⟨h1, _⟩ | ⟨b, off, cp, hv, hlt, hcells⟩
 ·simp at h1
 ·simp only [Value.slice.injEq, Option.some.injEq, Addr.mk.injEq, and_true, true_and] at hv
  obtain ⟨⟨rfl, rfl⟩, rfl⟩ := hv
  refine ⟨⟨fun e he => h.ok e (List.mem_of_mem_take he), by simp [maxLen, h6], .inr ⟨g, 0, cap, by simp [h6], hlt, fun i p hi j u hu => ?_⟩⟩,
   ⟨fun e he => h.ok e (List.mem_of_mem_drop he), by simp [maxLen, h6], .inr ⟨g, 9, cap - 3, by simp [h6], hlt, fun i p hi j u hu => ?_⟩⟩⟩
  ·have hi3 : i < 3 := by
     have := (List.getElem?_eq_some_iff.1 hi).1
     simp at this; omega
   rw [List.getElem?_take_of_lt hi3] at hi
   exact hcells i p hi j u hu
  ·rw [List.getElem?_drop] at hi
   have := hcells (3 + i) p hi j u hu
   rw [show 9 + i * 3 + j = 0 + (3 + i) * 3 + j by omega]
   exact this
theorem EntRow.over {w w' : World} {v : Value} {l : List Bt.Entry} {b : Nat} (h : EntRow w v l) (ho : Over b w w') (hne : ∀ c o n m, v = .slice (some ⟨c, o, none⟩) n m → c < b ∨ b < c) : EntRow w' v l := by
 refine ⟨h.ok, h.len, ?_⟩
 rcases h.form with h1 | ⟨c, off, cap, hv, hlt, hcells⟩
 ·exact .inl h1
 ·exact .inr ⟨c, off, cap, hv, Nat.lt_of_lt_of_le hlt ho.size, fun i p hi j u hu => by rw [(Z29 ho).1 c _ hlt (hne c _ _ _ hv)]; exact hcells i p hi j u hu⟩
theorem Z8a (A : Nat → Prop) (op : Bt.Op) (known : List Bt.Page) (vf vk : Value) (s : Bt.St) (b : Nat) (page : Bt.Page) (n : Bt.Node) (es : List Bt.Entry) (a0 : Option Addr) (n0 c0 g cap : Nat) (w : World) (h : IsRun A op known vf vk s b w) (hA : ∀ c, A c → c < w.heap.size)
 (hp : page.Ok) (hn : 0 ≤ n.level ∧ n.level ≤ 8) (hnh : 0 ≤ n.high ∧ n.high < 4294967296) (he : EntRow w (.slice (some ⟨g, 0, none⟩) 6 cap) es) (h6 : es.length = 6) (hcap : 6 ≤ cap) (hgb : b < g)
 (p q : Bt.Page) (rest : List Bt.Page) (hf : op.fresh = p :: rest) (hpo : p.Ok) (ha : Bt.allocate p 4 0 = (q, 0)) (hpl : q.line ≠ page.line) :
 Calls Tryz.prog 86 #[.pointer (some ⟨b, 0, none⟩), .agg (Z0g page n (.slice a0 n0 c0)), .slice (some ⟨g, 0, none⟩) 6 cap, .slice none 0 0] w (Z0y A op known vf vk (s.store op page n es []) b (.tuple #[]) w) := by
 obtain ⟨kk, hkk⟩ : ∃ kk, kk = (es.getD 2 default).key := ⟨_, rfl⟩
 have HX : Hid (s.store op page n es [] = ({ s with out := { s.out with split := true } } : Bt.St).finish [(Z0o q n es kk).fill page, (Z0p n es).fill q] []) := hid (by simp [Bt.St.store, h6, Bt.St.fresh, hf, ha, hpl, hkk, Z0o, Z0p])
 obtain ⟨hqo, hqv, hql, hqh, hqd⟩ := Z4C hpo ha
 have HRC : ∀ r : Bt.Page, Hid (r.cells = #[.int .i64 r.line, .int .u64 r.head, .int .u64 r.d0, .int .u64 r.d1, .int .u64 r.d2, .int .u64 r.d3, .int .u64 r.d4, .int .u64 r.d5, .int .u64 r.d6]) := fun r => hid rfl
 have HQ := HRC q
 have HAC : Hid ((Bt.at_ q).cells = #[.int .i64 (Bt.at_ q).line, .int .i64 (Bt.at_ q).gen]) := hid rfl
 have HQO := hid hqo
 have HAL := hid ha
 have HFR := hid hf
 have HPL := hid hpl
 obtain ⟨hs1, hs2⟩ := EntRow.sub3 (by rw [h6]; exact he) h6
 have HS1 := hid hs1
 have HS2 := hid hs2
 have hk2 : 2 < es.length := by omega
 have hk2e : (es.getD 2 default) = es[2] := by rw [List.getD_eq_getElem?_getD, List.getElem?_eq_getElem hk2]; rfl
 have hkb := he.ok es[2] (List.getElem_mem hk2)
 have HNL : Hid (NodeOk (Z0o q n es kk)) := hid ⟨⟨hn.1, by show n.level ≤ 255; omega⟩, by show 0 ≤ kk ∧ kk < 4294967296; rw [hkk, hk2e]; exact hkb, by simp [Z0o, h6]⟩
 have HNU : Hid (NodeOk (Z0p n es)) := hid ⟨⟨hn.1, by show n.level ≤ 255; omega⟩, hnh, by simp [Z0p, h6]⟩
 have k2 : w.cell? ⟨g, 6, none⟩ = some (.int .u32 kk) := by
  rcases he.form with ⟨h1, _⟩ | ⟨b', off, cp, hv, hlt, hcells⟩
  ·simp at h1
  ·simp only [Value.slice.injEq, Option.some.injEq, Addr.mk.injEq, and_true, true_and] at hv
   obtain ⟨⟨rfl, rfl⟩, _, rfl⟩ := hv
   rw [hkk, hk2e]
   exact hcells 2 es[2] (List.getElem?_eq_getElem hk2) 0 _ rfl
 have hgw : g < w.heap.size := by
  rcases he.form with ⟨h1, _⟩ | ⟨b', off, cp, hv, hlt, hcells⟩
  ·simp at h1
  ·simp only [Value.slice.injEq, Option.some.injEq, Addr.mk.injEq, and_true, true_and] at hv
   obtain ⟨⟨rfl, rfl⟩, _, rfl⟩ := hv
   exact hlt
 have HR := hid h
 have HP := hid hp
 obtain ⟨i0, hi, hz0, hz1, hz2⟩ := info_parts infoInt'
 have hlt := h.lt
 have hlt1 : b < w.heap.size + 1 := by omega
 have hlt2 : b < w.heap.size + 1 + 1 := by omega
 have hlt2' : b < w.heap.size + 1 := by omega
 have cp1 : (3 : Int) ≤ 6 := by omega
 have cp2 : (3 : Int) ≤ cap := by omega
 clear h hp hn hnh he hs1 hs2 hkk hk2 hk2e hkb hqo hqv hql hqh hqd ha hf hpl
 unfold Z0g
 go_enter Tryz.func86, Tryz.ntmps86
 go_wp2_with (at_builtin; refine halt ?_)
 refine Z4g ?_
 refine Z1E rfl (.tmp 29) (.tmp 33) 45 rfl 0 3 i0 _ 1 8 Tryz.underlying45 hi hz0 hz1 hz2 rfl (by decide) (.slice none 0 0) 0 [] rfl (World.ownsRow_nil _ _ _ _) ⟨w.heap.size + 1 + 1, 0, none⟩ 1 1
  [.int .i64 page.line] rfl rfl (Z42 (u := .int .i64 page.line) ((Blk.made' (by simp)).cell 0)) (by intro u hu; simp at hu; subst hu; rfl) (by omega) (by unfold maxLen; omega) (by omega) (by omega) ?_
 intro g1 cap1 w1 hown1 hg1
 have hb1 := below_grown (Below.refl _ _) hg1 (fun k hk => by cases hk)
 ((obtain ⟨hc1, hf1, hs1⟩ := qR hb1); (try have := qN0 w w1); (try have := qN1 w w1); (try have := qN2 w w1))
 have HW1 : Hid (w1.ownsRow 0 3 1 (.slice (some ⟨g1, 0, none⟩) (0 + 1) cap1) ([page.line] : List Int).length (intCells [page.line])) := hid hown1
 clear hown1 hg1
 go_wp2_with fail
 go_at_call 93; refine (Z5b A op known vf vk s b _ [page.line] _ ?hrun ?hlow p q rest HFR.out HAL.out (by simpa using HPL.out) ?ht).mono ?_
 case hrun => exact HR.out.below qL
 case hlow => exact fun c hc => by have := hA c hc; omega
 case ht => exact HW1.out
 rintro e2 w2 ⟨hrun2, ho2, rfl⟩
 have HR2 := hid hrun2
 clear hrun2
 ((obtain ⟨hc2, hf2, hs2⟩ := qO ho2); (try have := qN0 w w2); (try have := qN1 w w2); (try have := qN2 w w2); (try have := qN0 w1 w2))
 simp only [Option.getD_some, Option.isSome_some, HQ.out]
 obtain ⟨un, uw, ue, uc, hc⟩ := HR2.out.cells
 have j14 : w2.cell? ⟨b, 14, none⟩ = some (.bool s.out.split) := hc 14
 have hfb := HR2.out.free
 have x0 : b < w2.heap.size := by omega
 have x1 : b < w2.heap.size + 1 := by omega
 have x2 : b < w2.heap.size + 1 + 1 := by omega
 clear hc
 go_wp2_with fail
 refine qA fun hSt => ?_
 refine qS [0, 1, 2, 3, 4, 5, 6, 7, 8] ?_
 iterate 9 (refine qT ?_; simp only [Act.put, qY])
 refine Z00.done ?_
 refine qH 9 fun K hK => ?_
 go_simp
 refine hK.out _ _ (SteadyAll.of qL) (fun hHeld => ?_)
 clear hK K
 refine qH 10 fun K hK => ?_
 go_simp
 refine hK.out _ _ (SteadyAll.of qL) (fun hHeld => ?_)
 clear hK K
 refine qD ?_ _
 go_wp2_with fail
 have y0 : g < w.heap.size + 1 := by omega
 have y01 : g < w.heap.size + 1 + 1 := by omega
 have y02 : g < w.heap.size + 1 + 1 + 1 := by omega
 have y1 : g < w1.heap.size := by omega
 have y2 : g < w2.heap.size := by omega
 have y3 : g < w2.heap.size + 1 := by omega
 have y4 : g < w2.heap.size + 1 + 1 := by omega
 have y5 : w.heap.size + 1 < w2.heap.size := by omega
 have y6 : w.heap.size + 1 < w2.heap.size + 1 := by omega
 have y7 : w.heap.size + 1 < w2.heap.size + 1 + 1 := by omega
 have y8 : w.heap.size < w2.heap.size + 1 + 1 := by omega
 refine qB (w.heap.size + 1) fun hSt => ?_
 refine qS [0, 1, 2, 3, 4, 6, 7, 8] ?_
 iterate 8 (refine qT ?_; simp only [Act.put, qY])
 refine Z00.done ?_
 refine qH 5 fun K hK => ?_
 go_simp
 go_at_call 33; refine (Z4r q HQO.out _).mono ?_; rintro e3 w3 ⟨rfl, hb3⟩; rw [HAC.out]; ((obtain ⟨hc3, hf3, hs3⟩ := qR hb3); (try have := qN0 w w3); (try have := qN1 w w3); (try have := qN2 w w3); (try have := qN0 w1 w3); (try have := qN0 w2 w3); (try have := qN1 w2 w3))
 go_wp2_with fail
 refine hK.out _ _ (SteadyBut.of qL) (fun hHeld => ?_)
 clear hK K
 refine qH 9 fun K hK => ?_
 go_simp
 refine hK.out _ _ qE (fun hHeld => ?_)
 clear hK K
 refine qS [10] ?_
 refine qT ?_; simp only [Act.put, qY]
 refine Z00.done ?_
 refine qH 11 fun K hK => ?_
 go_simp
 refine hK.out _ _ qE (fun hHeld => ?_)
 clear hK K
 refine qS [12] ?_
 refine qT ?_; simp only [Act.put, qY]
 refine Z00.done ?_
 refine qH 13 fun K hK => ?_
 go_simp
 refine hK.out _ _ qE (fun hHeld => ?_)
 clear hK K
 refine qD ?_ _
 have x3 : b < w3.heap.size := by omega
 go_wp2_with fail
 have hO3 : Over b w w3 := qV
 have X1 := Blk.kept (b := w.heap.size) (t := 145) (cs := #[.int .i64 page.line, .int .u64 page.head, .int .u64 page.d0, .int .u64 page.d1, .int .u64 page.d2, .int .u64 page.d3, .int .u64 page.d4, .int .u64 page.d5, .int .u64 page.d6, .int .i64 n.level, .bool n.leftmost, .bool n.dead, .int .u32 n.high, .int .i64 n.right.line, .int .i64 n.right.gen, .slice a0 n0 c0]) (Zax w) hb1
 have X2 := X1.grown ho2 (by simp; omega)
 have X3 : Blk w3 w.heap.size 145 #[.int .i64 page.line, .int .u64 page.head, .int .u64 page.d0, .int .u64 page.d1, .int .u64 page.d2, .int .u64 page.d3, .int .u64 page.d4, .int .u64 page.d5, .int .u64 page.d6, .int .i64 n.level, .bool n.leftmost, .bool n.dead, .int .u32 n.high, .int .i64 n.right.line, .int .i64 n.right.gen, .slice a0 n0 c0] := Blk.kept (by (repeat (first | with_reducible exact X2 | with_reducible apply Blk.put | with_reducible apply Blk.alloc | (with_reducible apply Blk.aside; (case hp => first | (simp; done) | (simp; omega))) | with_reducible apply Blk.drew | with_reducible refine Blk.kept ?_ (by assumption)))) hb3
 have N1 := Blk.kept (b := w.heap.size + 1) (t := 73) (cs := #[.int .i64 n.level, .bool n.leftmost, .bool n.dead, .int .u32 n.high, .int .i64 n.right.line, .int .i64 n.right.gen, .slice (some ⟨g, 0, none⟩) 6 cap]) (Z3M w) hb1
 have N2 := N1.grown ho2 (by simp; omega)
 have N3 : Blk w3 (w.heap.size + 1) 73 #[.int .i64 n.level, .bool n.leftmost, .bool n.dead, .int .u32 n.high, .int .i64 n.right.line, .int .i64 n.right.gen, .slice (some ⟨g, 0, none⟩) 6 cap] := Blk.kept (by (repeat (first | with_reducible exact N2 | with_reducible apply Blk.put | with_reducible apply Blk.alloc | (with_reducible apply Blk.aside; (case hp => first | (simp; done) | (simp; omega))) | with_reducible apply Blk.drew | with_reducible refine Blk.kept ?_ (by assumption)))) hb3
 have Q1 := Blk.made w2 25 #[.int .i64 q.line, .int .u64 q.head, .int .u64 q.d0, .int .u64 q.d1, .int .u64 q.d2, .int .u64 q.d3, .int .u64 q.d4, .int .u64 q.d5, .int .u64 q.d6]
 have Q3 : Blk w3 w2.heap.size 25 #[.int .i64 q.line, .int .u64 q.head, .int .u64 q.d0, .int .u64 q.d1, .int .u64 q.d2, .int .u64 q.d3, .int .u64 q.d4, .int .u64 q.d5, .int .u64 q.d6] := Blk.kept (by (repeat (first | with_reducible exact Q1 | with_reducible apply Blk.put | with_reducible apply Blk.alloc | (with_reducible apply Blk.aside; (case hp => first | (simp; done) | (simp; omega))) | with_reducible apply Blk.drew | with_reducible refine Blk.kept ?_ (by assumption)))) hb3
 have U3 : Blk w3 (w2.heap.size + 1) 73 #[.int .i64 n.level, .bool false, .bool false, .int .u32 n.high, .int .i64 n.right.line, .int .i64 n.right.gen, .slice (some ⟨g, 9, none⟩) 3 (cap - 3)] := Blk.kept (by repeat (first | exact Blk.made' (by simp) | with_reducible apply Blk.drew)) hb3
 generalize hwx : World.setCell _ ⟨b, 14, none⟩ (.bool true) = wx
 have X4 : Blk wx w.heap.size 145 #[.int .i64 page.line, .int .u64 page.head, .int .u64 page.d0, .int .u64 page.d1, .int .u64 page.d2, .int .u64 page.d3, .int .u64 page.d4, .int .u64 page.d5, .int .u64 page.d6, .int .i64 n.level, .bool n.leftmost, .bool n.dead, .int .u32 n.high, .int .i64 n.right.line, .int .i64 n.right.gen, .slice a0 n0 c0] := by rw [← hwx]; (repeat (first | with_reducible exact X3 | with_reducible apply Blk.put | with_reducible apply Blk.alloc | (with_reducible apply Blk.aside; (case hp => first | (simp; done) | (simp; omega))) | with_reducible apply Blk.drew))
 have N4 : Blk wx (w.heap.size + 1) 73 #[.int .i64 n.level, .bool n.leftmost, .bool n.dead, .int .u32 kk, .int .i64 (Bt.at_ q).line, .int .i64 (Bt.at_ q).gen, .slice (some ⟨g, 0, none⟩) 3 cap] := by
  rw [← hwx]
  exact (((((N3.put 3 (.int .u32 kk)).put 4 (.int .i64 (Bt.at_ q).line)).put 5 (.int .i64 (Bt.at_ q).gen)).put 6 (.slice (some ⟨g, 0, none⟩) 3 cap)).aside (p := ⟨b, 14, none⟩) (by show w.heap.size + 1 ≠ b; omega) (.bool true)).cast rfl
 have Q4 : Blk wx w2.heap.size 25 #[.int .i64 q.line, .int .u64 q.head, .int .u64 q.d0, .int .u64 q.d1, .int .u64 q.d2, .int .u64 q.d3, .int .u64 q.d4, .int .u64 q.d5, .int .u64 q.d6] := by rw [← hwx]; (repeat (first | with_reducible exact Q3 | with_reducible apply Blk.put | with_reducible apply Blk.alloc | (with_reducible apply Blk.aside; (case hp => first | (simp; done) | (simp; omega))) | with_reducible apply Blk.drew))
 have U4 : Blk wx (w2.heap.size + 1) 73 #[.int .i64 n.level, .bool false, .bool false, .int .u32 n.high, .int .i64 n.right.line, .int .i64 n.right.gen, .slice (some ⟨g, 9, none⟩) 3 (cap - 3)] := by rw [← hwx]; (repeat (first | with_reducible exact U3 | with_reducible apply Blk.put | with_reducible apply Blk.alloc | (with_reducible apply Blk.aside; (case hp => first | (simp; done) | (simp; omega))) | with_reducible apply Blk.drew))
 have hOx : Over b w wx := by rw [← hwx]; exact qV
 have RX : IsRun (New A w) op known vf vk { s with out := { s.out with split := true } } b wx := by
  rw [← hwx]
  have hnw : ¬ New A w1 (w.heap.size + 1) := by
   rintro (h1 | h1)
   ·have := hA _ h1; omega
   ·omega
  have R2 : IsRun (New A w1) op known vf vk s b w2 := HR2.out.imp (fun c hc => .inl hc)
  have R3 : IsRun (New A w1) op known vf vk s b w3 := (((R2.alloc _).drew.alloc _).drew).below hb3
  refine IsRun.imp ((((((R3.cell hlt2' hnw 3 _).cell hlt2' hnw 4 _).cell hlt2' hnw 5 _).cell hlt2' hnw 6 _).field (s' := { s with out := { s.out with split := true } }) 14 (.bool true) (fun _ _ _ _ => rfl))) (fun c hc => ?_)
  rcases hc with h1 | h1
  ·exact .inl h1
  ·exact .inr (by omega)
 have E1 : EntRow wx (.slice (some ⟨g, 0, none⟩) 3 cap) (es.take 3) := HS1.out.over hOx (fun c o n m hv => by simp at hv; omega)
 have E2 : EntRow wx (.slice (some ⟨g, 9, none⟩) 3 (cap - 3)) (es.drop 3) := HS2.out.over hOx (fun c o n m hv => by simp at hv; omega)
 have HE1 := hid E1
 have HE2 := hid E2
 have HRX := hid RX
 have HOX := hid hOx
 have gX := X4.cell
 have gN := N4.cell
 have gQ := Q4.cell
 have gU := U4.cell
 have lX := X4.lt
 have lN := N4.lt
 have lQ := Q4.lt
 have lU := U4.lt
 have lb : b < wx.heap.size := by omega
 have HF1 := HRC ((Z0o q n es kk).fill page)
 have HF2 := HRC ((Z0p n es).fill q)
 clear RX E1 E2 hOx X1 X2 X3 X4 N1 N2 N3 N4 Q1 Q3 Q4 U3 U4 hwx hO3 hc1 hc2 hc3 hf1 hf2 hf3 j14 hfb k2
 refine qB (b) fun hSt => ?_
 refine qS [0, 1, 2, 3, 5, 6, 9] ?_
 iterate 7 (refine qT ?_; simp only [Act.put, qY])
 refine Z00.done ?_
 refine qH 4 fun K hK => ?_
 go_simp
 go_at_call 64; refine (Z2g (Z0o q n es kk) (.slice (some ⟨g, 0, none⟩) 3 cap) page HP.out HNL.out _ ?hpf).mono ?_; (case hpf => exact HE1.out.below qL); rintro e5 w5 ⟨rfl, hb5⟩; rw [HF1.out]; ((obtain ⟨hc5, hf5, hs5⟩ := qR hb5); (try have := qN0 w w5))
 go_wp2_with fail
 refine hK.out _ _ (SteadyBut.of qL) (fun hHeld => ?_)
 clear hK K
 refine qH 7 fun K hK => ?_
 go_simp
 go_at_call 64; refine (Z2g (Z0p n es) (.slice (some ⟨g, 9, none⟩) 3 (cap - 3)) q HQO.out HNU.out _ ?hpf2).mono ?_; (case hpf2 => exact HE2.out.below qL); rintro e6 w6 ⟨rfl, hb6⟩; rw [HF2.out]; ((obtain ⟨hc6, hf6, hs6⟩ := qR hb6); (try have := qN0 w w6))
 go_wp2_with fail
 refine hK.out _ _ (SteadyBut.of qL) (fun hHeld => ?_)
 clear hK K
 refine qH 8 fun K hK => ?_
 go_simp
 refine hK.out _ _ (SteadyBut.of qL) (fun hHeld => ?_)
 clear hK K
 refine qH 10 fun K hK => ?_
 go_simp
 go_at_call 94; refine (Z5g (New A w) op known vf vk { s with out := { s.out with split := true } } b [(Z0o q n es kk).fill page, (Z0p n es).fill q] w6.heap.size 2 2 _ ?hrun ?hw (.inr (by omega))).mono ?_; (case hrun => exact HRX.out.below qL); (case hw => exact Z3L _ _ _ _ (by omega)); rintro e7 w7 ⟨rfl, hrun7, ho7⟩; have HR7 := hid hrun7; clear hrun7
 go_wp2_with fail
 refine hK.out _ _ (SteadyBut.over qV) (fun hHeld => ?_)
 clear hK K
 refine qD ?_ _
 go_wp2_with fail
 have hOx := HOX.out
 refine bodyPost_end (results_none rfl _ _ _) rfl ⟨rfl, ?_, qV⟩
 rw [HX.out]
 refine HR7.out.imp (fun c hc => ?_)
 rcases hc with h1 | h1
 ·exact h1
 ·exact .inr (by simp at h1; omega)
def Zcj (base g n : Nat) (es : List Bt.Entry) (e : Bt.Entry) (w : World) (r : Ending) (w' : World) : Prop :=
 ∃ g' cap', r = .returned (.slice (some ⟨g', 0, none⟩) (n + 1) cap') ∧ w'.ownsRow base 69 3 (.slice (some ⟨g', 0, none⟩) (n + 1) cap') (n + 1) (Z04 (es ++ [e])) ∧ w.grownBy w' (some g)
theorem Z9q (base g n cap gE : Nat) (es : List Bt.Entry) (e : Bt.Entry) (w : World) (hown : w.ownsRow base 69 3 (.slice (some ⟨g, 0, none⟩) n cap) n (Z04 es)) (hn : n ≤ 1000) (hbase : base ≤ w.heap.size)
 (h0 : w.cell? ⟨gE, 0, none⟩ = some (.int .u32 e.key)) (h1 : w.cell? ⟨gE, 1, none⟩ = some (.int .i64 e.to.line)) (h2 : w.cell? ⟨gE, 2, none⟩ = some (.int .i64 e.to.gen)) :
 Calls Tryz.prog 87 #[.slice (some ⟨g, 0, none⟩) n cap, .int .i64 n, .slice (some ⟨gE, 0, none⟩) 1 1] w (Zcj base g n es e w) := by
 obtain ⟨i0, hi, hz0, hz1, hz2⟩ := info_parts Z4e
 have HO := hid hown
 have hcap := Z3o hown
 have b1 : ((n : Int) == (n : Int)) = true := by simp
 have b2 : (0 : Int) ≤ (n : Int) := by omega
 have b3 : (n : Int) ≤ (n : Int) := Int.le_refl _
 clear hown
 by_cases hcn : n = cap
 ·subst hcn
  go_enter Tryz.func87, Tryz.ntmps87
  go_wp2_with (at_builtin; refine halt ?_)
  all_goals
   refine Z4g ?_
   refine Z1E rfl (.tmp 23) (.tmp 24) 61 rfl base 69 i0 _ 3 24 Tryz.underlying61 hi hz0 hz1 hz2 rfl (by decide) _ n (Z04 es) rfl HO.out ⟨gE, 0, none⟩ 1 1
    [.int .u32 e.key, .int .i64 e.to.line, .int .i64 e.to.gen] rfl rfl (Z2U h0 h1 h2) (by intro u hu; simp at hu; rcases hu with rfl | rfl | rfl <;> rfl) (by omega) (by unfold maxLen; omega) (by omega) hbase ?_
   intro g3 cap3 w3 hown3 hg3
   go_wp2
   refine bodyPost_ret (results_tmp rfl _ _ _) rfl ⟨g3, cap3, rfl, ?_, hg3⟩
   rw [Z1s]
   exact hown3
 ·have hcn2 : ¬ cap = n := fun h => hcn h.symm
  have hcn3 : n < cap := by omega
  go_enter Tryz.func87, Tryz.ntmps87
  go_wp2_with (at_builtin; refine halt ?_)
  all_goals
   refine Z4g ?_
   refine Z1E rfl (.tmp 23) (.tmp 24) 61 rfl base 69 i0 _ 3 24 Tryz.underlying61 hi hz0 hz1 hz2 rfl (by decide) _ n (Z04 es) rfl HO.out ⟨gE, 0, none⟩ 1 1
    [.int .u32 e.key, .int .i64 e.to.line, .int .i64 e.to.gen] rfl rfl (Z2U h0 h1 h2) (by intro u hu; simp at hu; rcases hu with rfl | rfl | rfl <;> rfl) (by omega) (by unfold maxLen; omega) (by omega) hbase ?_
   intro g3 cap3 w3 hown3 hg3
   go_wp2
   refine bodyPost_ret (results_tmp rfl _ _ _) rfl ⟨g3, cap3, rfl, ?_, hg3⟩
   rw [Z1s]
   exact hown3
theorem wG12 {P : Prop} (h : P := by
 go_enter Tryz.func52, Tryz.ntmps52
 go_wp2_with fail
 refine qA fun hSt => ?_
 refine qS [0, 1, 2, 3, 4, 5, 6, 7, 8, 9, 10] ?_
 iterate 11 (refine qT ?_; simp only [Act.put, qY])
 refine Z00.done ?_
 refine qH 11 fun K hK => ?_
 go_simp
 refine hK.out _ _ (SteadyAll.of qL) (fun hHeld => ?_)
 clear hK K
 refine qH 12 fun K hK => ?_
 go_simp
 refine hK.out _ _ (SteadyAll.of qL) (fun hHeld => ?_)
 clear hK K
 refine qD ?_ _
 first
  | clear tg80
    go_wp2_with fail
    refine qA fun hSt => ?_
    refine qS [0, 1, 2, 3, 4, 5] ?_
    iterate 6 (refine qT ?_; simp only [Act.put, qY])
    refine Z00.done ?_
    refine qD ?_ _
    go_wp2_with fail
    go_at_call 85; refine (HP.out _ ?hrun ?hlow).mono ?_
    case hrun => exact HR.out.below qL
    case hlow => exact fun c hc => by have := hA c hc; simp; omega
    rintro e w1 ⟨rfl, hrun1, ho1⟩
    have HR1 := hid hrun1
    clear hrun1
    go_wp2_with fail
    refine bodyPost_ret (results_none rfl _ _ _) rfl ⟨rfl, ?_, qV⟩
    rw [HX.out]
    refine HR1.out.imp (fun c hc => ?_)
    rcases hc with h1 | h1
    ·exact .inl h1
    ·exact .inr (by simp at h1; omega)
  | clear tg81
    obtain ⟨W0, hW0⟩ : ∃ W0, W0 = (w.alloc (.cells #[.int .u32 op.key, .int .i64 op.to.line, .int .i64 op.to.gen] 69)).drew := ⟨_, rfl⟩
    rw [← hW0]
    have HB0 : Hid (Below w.heap.size w W0) := hid (by rw [hW0]; exact qL)
    have HE0 : Hid (Blk W0 w.heap.size 69 (⟨op.key, op.to⟩ : Bt.Entry).cells) := hid (by
     rw [hW0]
     exact (Blk.made w 69 #[.int .u32 op.key, .int .i64 op.to.line, .int .i64 op.to.gen]).drew)
    have hs0 : W0.heap.size = w.heap.size + 1 := by rw [hW0]; simp
    have HR0 := hid (HR.out.below HB0.out)
    obtain ⟨hc0, hf0⟩ := Z4a HB0.out
    have z0 : w.heap.size < W0.heap.size := by omega
    have z0b : b < W0.heap.size := by omega
    have glW : 0 < W0.heap.size := by omega
    have hs0' : W0.heap.size ≤ w.heap.size + 1 := by omega
    clear hW0 hs0
    go_wp2_with fail
    refine qA fun hSt => ?_
    refine qS [0, 1, 2, 3, 4, 5] ?_
    iterate 6 (refine qT ?_; simp only [Act.put, qY])
    refine Z00.done ?_
    refine qD ?_ _
    go_wp2_with fail
    go_at_call 83; refine (Z1H A op known vf vk s b t page n _ ?hrun ?hlow hh0 HD.out).mono ?_
    case hrun => exact HR0.out.below qL
    case hlow => exact fun c hc => by have := hA c hc; show c < W0.heap.size; omega
    rintro e w1 ⟨hrun1, ho1, v, rfl, hown⟩
    have hb1 := hrun1.lt
    have hv1 : ∀ c, v.ownBlock = some c → c < w1.heap.size := fun c hc => own_lt' hown c hc
    have HR1 := hid hrun1.low
    have HOWN := hid hown
    have hsz : W0.heap.size ≤ w1.heap.size := by have h9 := World.grownBy.size ho1; exact h9
    have HO1 := hid ho1
    have HE1 := hid (Blk.grown (HE0.out.drew) ho1 (by simp; omega))
    clear hrun1 ho1 hown
    dsimp only
    iterate 13 go_step
    refine Z07 rfl 145 (.tmp 3) (.tmp 30) rfl (w1.heap.size) _ rfl rfl _ _ (Blk.made _ _ _) (by kernel_rfl) rfl (Z0A (Z0Q HOWN.out)) (fun wx B_wx ho_wx hz_wx => ?_)
    simp only [Act.put, qY]
    have kx := B_wx.cell
    rw [found_eq] at kx
    have BE := (HE1.out.alloc (.cells #[.int .i64 0, .int .u64 0, .int .u64 0, .int .u64 0, .int .u64 0, .int .u64 0, .int .u64 0, .int .u64 0, .int .u64 0, .int .i64 0, .bool false, .bool false, .int .u32 0, .int .i64 0, .int .i64 0, .slice none 0 0] 145)).grown ho_wx (by simp; omega)
    have kE0 : wx.cell? ⟨w.heap.size, 0, none⟩ = some (.int .u32 op.key) := BE.cell 0
    have kE1 : wx.cell? ⟨w.heap.size, 1, none⟩ = some (.int .i64 op.to.line) := BE.cell 1
    have kE2 : wx.cell? ⟨w.heap.size, 2, none⟩ = some (.int .i64 op.to.gen) := BE.cell 2
    have HRX := hid ((HR1.out.alloc (.cells #[.int .i64 0, .int .u64 0, .int .u64 0, .int .u64 0, .int .u64 0, .int .u64 0, .int .u64 0, .int .u64 0, .int .u64 0, .int .i64 0, .bool false, .bool false, .int .u32 0, .int .i64 0, .int .i64 0, .slice none 0 0] 145)).grown ho_wx (by omega) (fun h1 => by omega))
    have HWX := hid (Z13 (own_below HOWN.out (Z06 (Below.refl _ _) _)) ho_wx (fun e => by have := hv1 _ e; omega))
    have HOX : Hid (Over b w wx) := hid (Over.new (Over.alloc (Over.trans (Over.drew (Over.of_below HB0.out)) HO1.out) _) ho_wx (by omega))
    have HER : Hid (EntRow wx v n.entries) := hid (EntRow.of_own HWX.out rfl HEO.out)
    obtain ⟨un, uw, ue, uc, hc⟩ := HRX.out.cells
    have j1 : wx.cell? ⟨b, 1, none⟩ = some (.int .u32 op.key) := hc 1
    have jf := HRX.out.free
    have hbx : b < wx.heap.size := HRX.out.lt
    have hgx : w1.heap.size < wx.heap.size := by rw [hz_wx]; simp
    have hgx2 : wx.heap.size ≤ w1.heap.size + 1 := by rw [hz_wx]; simp
    have hex : w.heap.size < wx.heap.size := by omega
    have hvE : v.ownBlock ≠ some b := Z2F HOWN.out (by show b < W0.heap.size; omega)
    clear hc B_wx ho_wx hz_wx BE
    go_wp2_with fail
    refine qA fun hSt => ?_
    refine qS [0, 1, 2, 3, 4, 5, 6] ?_
    iterate 7 (refine qT ?_; simp only [Act.put, qY])
    refine Z00.done ?_
    refine qH 7 fun K hK => ?_
    go_simp
    go_at_call 84; refine (Z3K n v op.key _ ?hpf HAS.out.1 HAS.out.2).mono ?_; (case hpf => exact HER.out.below qL); rintro e2 w2 ⟨rfl, hb2⟩; rw [← HC.out, HHK.out]; ((obtain ⟨hc2, hf2, hs2⟩ := qR hb2); (try have := qN0 w w2); (try have := qN0 w1 w2); (try have := qN0 wx w2))
    go_wp2_with fail
    refine hK.out _ _ (SteadyAll.of qL) (fun hHeld => ?_)
    clear hK K
    refine qS [8, 9, 10, 11, 12] ?_
    iterate 5 (refine qT ?_; simp only [Act.put, qY])
    refine Z00.done ?_
    refine qD ?_ _
    go_wp2_with fail
    first
     | clear tg82
       have hox := HOX.out
       have HOW : Hid (Over b w w2) := hid qV
       clear hox
       obtain ⟨G, hG⟩ : ∃ G, G = v.ownBlock.getD b := ⟨_, rfl⟩
       have hGv : ∀ g, v.ownBlock = some g → g = G ∧ W0.heap.size ≤ g ∧ g < w1.heap.size := fun g hg => ⟨by rw [hG, hg]; rfl, Z0k HOWN.out g hg, hv1 g hg⟩
       have hGc : G = b ∨ (W0.heap.size ≤ G ∧ G < w1.heap.size) := by
        rcases hvb : v.ownBlock with _ | g
        ·left; rw [hG, hvb]; rfl
        ·right
         obtain ⟨h1, h2, h3⟩ := hGv g hvb
         subst h1
         exact ⟨h2, h3⟩
       have hGE : w.heap.size < G ∨ G < w.heap.size := by rcases hGc with h | h <;> omega
       have hGx : w1.heap.size < G ∨ G < w1.heap.size := by rcases hGc with h | h <;> omega
       have HGV := hid hGv
       have HWB : Hid (∀ wy, Below w2.heap.size w2 wy → wy.ownsRow (w.heap.size + 1) 69 3 v n.entries.length (Z04 n.entries)) := hid (fun wy h => own_below (own_below (own_base HWX.out (by show w.heap.size + 1 ≤ W0.heap.size; omega)) qL) h)
       have hs12 : w1.heap.size < w2.heap.size := by omega
       have hnE : v.ownBlock ≠ some w2.heap.size := fun e => by have := (HGV.out _ e).2.2; omega
       clear hG hGv hGc
       refine wp_region_held_drew (S := SteadyTwo b G _) (by kernel_rfl) (SteadyTwo.of (Below.refl _ _).drew) ?_
       intro hSt
       refine qS [0, 1, 2, 3, 4, 5, 6] ?_
       iterate 7 (refine qT ?_; simp only [Act.put, qY])
       refine Z00.done ?_
       refine qH 7 fun K hK => ?_
       go_simp
       refine hK.out _ _ (SteadyTwo.of qL) (fun hHeld => ?_)
       clear hK K
       refine qH 8 fun K hK => ?_
       go_simp
       go_at_call 87; refine (Z6C (w.heap.size + 1) n.entries.length w2.heap.size c v n.entries ⟨op.key, op.to⟩ _ ?hown rfl hcle (by omega) ?hbase hnE 69 ?hE).mono ?_; (case hown => exact HWB.out _ qL); (case hbase => simp only [size_alloc, size_drew]; omega); (case hE => exact Blk.made' (by simp)); rintro e3 w3 ⟨g3, cap3, rfl, hown3, hg3⟩; have HW3 := hid hown3; have HG3 := hid hg3; clear hown3 hg3
       go_wp2_with fail
       refine hK.out _ _ (SteadyTwo.grown qL (Z71 HG3.out (fun g hg => (HGV.out g hg).1))) (fun hHeld => ?_)
       clear hK K
       refine qH 9 fun K hK => ?_
       go_simp
       have hl3 := Z0X HW3.out; have hz3 := World.grownBy.size HG3.out; simp only [size_alloc, size_drew] at hz3; go_at_call 86; refine (HS.out (fun c => A c ∧ c < w1.heap.size) _ v g3 (n.entries.length + 1) cap3 (Z3n HWX.out) ?hrun ?hlow (by omega) HES.out.2.1.symm (Z3o HW3.out).1 (EntRow.of_own (by rw [HES.out.1]; exact HW3.out) HES.out.2.1 HES.out.2.2)).mono ?_; (case hrun => exact IsRun.grownV (HRX.out.below qL) HG3.out (fun g hg => ⟨by have := (HGV.out g hg).2.1; omega, fun h1 => by have h2 := hA _ h1.1; have := (HGV.out g hg).2.1; omega⟩)); (case hlow => exact fun c hc => by have := hc.2; omega); rintro e4 w4 ⟨rfl, hrun4, ho4⟩; have HR4 := hid hrun4; have HO4 := hid ho4; clear hrun4 ho4
       go_wp2_with fail
       refine hK.out _ _ (SteadyTwo.over (SteadyTwo.grown qL (Z71 HG3.out (fun g hg => (HGV.out g hg).1))) (by have := World.grownBy.size HG3.out; simp only [size_alloc, size_drew] at this ⊢; omega) HO4.out) (fun hHeld => ?_)
       clear hK K
       refine qD ?_ _
       go_wp2_with fail
       have how := HOW.out
       have hO3 : Over b w w3 := Over.growV qV HG3.out (fun g hg => by have := (HGV.out g hg).2.1; omega)
       have ho4 := HO4.out
       refine bodyPost_end (results_none rfl _ _ _) rfl ⟨rfl, ?_, qV⟩
       rw [HX.out]
       refine HR4.out.imp (fun c hc => ?_)
       have hz3 := World.grownBy.size hO3
       rcases hc with h1 | h1
       ·exact .inl h1.1
       ·exact .inr (by omega)
     | clear tg83
       go_at_call 81; refine (Z3e (fun c => A c ∧ c < w1.heap.size) op known vf vk t b w2.heap.size 1 1 [page.line] 17 _ ?hrun ?hq rfl (by omega) ?hg).mono ?_
       case hrun => exact (HRX.out.below qL).alloc _
       case hq => exact own_line1' rfl (by omega)
       case hg => exact fun h1 => by have := h1.2; omega
       rintro e w3 ⟨rfl, hrun3, ho3⟩
       have HR3 := hid hrun3
       have HO3 := hid ho3
       clear hrun3 ho3
       go_wp2_with fail
       have hox := HOX.out
       have hov : Over b w (w2.alloc (.cells #[.int .i64 page.line] 3)) := qV
       refine bodyPost_end (results_none rfl _ _ _) rfl ⟨rfl, ?_, Over.two hov HO3.out (by omega)⟩
       rw [HX.out]
       refine HR3.out.imp (fun c hc => ?_)
       rcases hc with h1 | h1
       ·exact .inl h1.1
       ·exact .inr (by omega)) : P := h
theorem Z7H (A : Nat → Prop) (op : Bt.Op) (known : List Bt.Page) (vf vk : Value) (s : Bt.St) (b : Nat) (w : World) (h : IsRun A op known vf vk s b w) (hA : ∀ c, A c → c < w.heap.size) (hroot : s.root = Bt.nilP)
 (HP : Hid (∀ w', IsRun A op known vf vk s b w' → (∀ c, A c → c < w'.heap.size) → Calls Tryz.prog 85 #[.pointer (some ⟨b, 0, none⟩), .agg (⟨op.key, op.to⟩ : Bt.Entry).cells] w' (Z0y A op known vf vk (s.plant op ⟨op.key, op.to⟩) b (.tuple #[]) w'))) :
 Calls Tryz.prog 52 #[.pointer (some ⟨b, 0, none⟩)] w (Z0y A op known vf vk (s.insert op known) b (.tuple #[]) w) := by
 have HX : Hid (s.insert op known = s.plant op ⟨op.key, op.to⟩) := hid (by simp [Bt.St.insert, hroot])
 have HR := hid h
 have hlt := h.lt
 have hlt1 : b < w.heap.size + 1 := by omega
 obtain ⟨vn, vw, ve, vc, hc⟩ := h.cells
 have k1 : w.cell? ⟨b, 1, none⟩ = some (.int .u32 op.key) := hc 1
 have k3 : w.cell? ⟨b, 3, none⟩ = some (.int .i64 op.to.line) := hc 3
 have k4 : w.cell? ⟨b, 4, none⟩ = some (.int .i64 op.to.gen) := hc 4
 have k34 : w.cell? ⟨b, 34, none⟩ = some (.int .i64 s.root.line) := hc 34
 have k35 : w.cell? ⟨b, 35, none⟩ = some (.int .i64 s.root.gen) := hc 35
 have hp : peq s.root.line s.root.gen 0 0 = true := by rw [Z0j]; simp [hroot]
 have eq := eql_ptr
 have hn : NoneAt w := by obtain ⟨vn, vw, ve, vc, hr, _⟩ := h; exact hr.none
 obtain ⟨g0, g1, gl⟩ := hn
 have gl1 : 0 < w.heap.size + 1 := by omega
 clear h hc hroot
 have tg80 := trivial
 exact wG12
structure SteadyTwo (r g : Nat) (w1 wx : World) : Prop where
 rule : ∀ b o, b < w1.heap.size → (b < r ∨ r < b) → (b < g ∨ g < b) → wx.cell? ⟨b, o, none⟩ = w1.cell? ⟨b, o, none⟩
theorem SteadyTwo.of {r g : Nat} {w1 wx : World} (h : Below w1.heap.size w1 wx) : SteadyTwo r g w1 wx := ⟨fun b o hb _ _ => h.cell (p := ⟨b, o, none⟩) hb⟩
theorem SteadyTwo.grown {r g : Nat} {w1 wx wy : World} (h : Below w1.heap.size w1 wx) (h2 : wx.grownBy wy (some g)) : SteadyTwo r g w1 wy :=
 ⟨fun b o hb _ hg => by
  have e1 := h2.block b (Nat.lt_of_lt_of_le hb h.size) (by simp; omega)
  have : wy.cell? ⟨b, o, none⟩ = wx.cell? ⟨b, o, none⟩ := by simp only [World.cell?, e1]
  rw [this]
  exact h.cell (p := ⟨b, o, none⟩) hb⟩
theorem SteadyTwo.over {r g : Nat} {w1 wx wy : World} (h : SteadyTwo r g w1 wx) (hs : w1.heap.size ≤ wx.heap.size) (h2 : Over r wx wy) : SteadyTwo r g w1 wy :=
 ⟨fun b o hb hr hg => by rw [(Z29 h2).1 b o (Nat.lt_of_lt_of_le hb hs) hr]; exact h.rule b o hb hr hg⟩
theorem IsRun.grown {A : Nat → Prop} {op : Bt.Op} {known : List Bt.Page} {vf vk : Value} {s : Bt.St} {b g : Nat} {w w' : World} (h : IsRun A op known vf vk s b w) (hg : w.grownBy w' (some g)) (hb : b < g) (hA : ¬ A g) : IsRun A op known vf vk s b w' := by
 obtain ⟨vn, vw, ve, vc, hr, h1, h2, h3, h4⟩ := h
 have hne : ∀ c, c < w.heap.size → c < g → w'.heap[c]? = w.heap[c]? := fun c hc hn => hg.block c hc (by simp; omega)
 have hcell : ∀ c o, c < w.heap.size → c < g → w'.cell? ⟨c, o, none⟩ = w.cell? ⟨c, o, none⟩ := fun c o hc hn => by simp only [World.cell?, hne c hc hn]
 have hpg : ∀ (v : Value) (l : List Bt.Page), PgRow w v l → (∀ c n m, v = .slice (some ⟨c, 0, none⟩) n m → c < b) → PgRow w' v l := fun v l hp hv => by
  refine ⟨hp.ok, hp.len, ?_⟩
  rcases hp.form with h1 | ⟨c, cap, hv', hlt, hcells⟩
  ·exact .inl h1
  ·have := hv c _ _ hv'
   exact .inr ⟨c, cap, hv', Nat.lt_of_lt_of_le hlt hg.size, fun i p hi j u hu => by rw [hcell c _ hlt (by omega)]; exact hcells i p hi j u hu⟩
 have hown : ∀ (base n size : Nat) (e : TypeId) (v : Value) (xs : List Value), w.ownsRow base e size v n xs → (∀ c, v.ownBlock = some c → A c) → w'.ownsRow base e size v n xs := fun base n size e v xs ho hv => ho.kept hg (by
  rcases hvb : v.ownBlock with _ | c
  ·exact .inl rfl
  ·exact .inr (by intro e; injection e with e; subst e; exact hA (hv _ hvb)))
 have hpos := hr.pos
 have hnone : NoneAt w' := ⟨(hcell _ _ hr.none.lt (by omega)).trans hr.none.c0, (hcell _ _ hr.none.lt (by omega)).trans hr.none.c1, Nat.lt_of_lt_of_le hr.none.lt hg.size⟩
 refine ⟨vn, vw, ve, vc, RunAt.mk (hr.blk.grown hg (by simp; omega)) (hpg _ _ hr.known hr.apart) hr.apart (hpg _ _ hr.fresh hr.apartf) hr.apartf ?_ ?_ ?_ ?_ hnone hr.pos, h1, h2, h3, h4⟩
 ·exact hown _ _ _ _ _ _ hr.need h1
 ·exact hown _ _ _ _ _ _ hr.writes h2
 ·exact hown _ _ _ _ _ _ hr.ents h3
 ·exact hown _ _ _ _ _ _ hr.check h4
theorem Over.grow_new {b g : Nat} {w w1 w2 : World} (h : Over b w w1) (hg : w1.grownBy w2 (some g)) (hge : w.heap.size ≤ g) : Over b w w2 :=
 ⟨hg.os.trans h.os, hg.tape.trans h.tape, hg.output.trans h.output, Nat.le_trans h.size hg.size, fun k hk hn => (hg.block k (Nat.lt_of_lt_of_le hk h.size) (by simp; omega)).trans (h.block k hk hn)⟩
end Go.Proofs.YtjmpekanlmepmaaGreatDoor
