/- Package btree: entries are stored, with one line to be checked. (Printed by wip/store_gen.py.) -/
import Derived.Test.YtjmpekanlmepmaaGreatDoorBB31
import Derived.Test.YtjmpekanlmepmaaGreatDoorBB25
import Derived.ArgAppend
set_option linter.all false
set_option maxRecDepth 20000
set_option maxHeartbeats 8000000
open Go.Lib (hid)
namespace Go.Proofs.YtjmpekanlmepmaaGreatDoor
open Go.RowKit
theorem wpList_append_grows {P : Program} {w : World} {ops : Array Oper} {rest : List Oper} {o : Oper} {a : Act} {Q : Exit → Act → World → Prop} (hgd : o.guard = none) (s x : Operand) (t : TypeId)
 (ho : o.op = .call { callee := .builtin .append, args := #[s, x], argTypes := #[t, t] })
 (e : TypeId) (i : TypeInfo) (z : Value) (size bytes : Nat) (ht : P.underlying t = some (.slice e)) (hi : P.info? e = some i) (hz : i.zero = some z)
 (hsize : i.size = size) (hby : i.bytes = bytes) (hzs : z.cells.size = size) (hsz : 0 < size)
 (b : Addr) (n cap : Nat) (olds : List Value) (hs : a.eval s = .slice (some b) n cap) (hlo : olds.length = n * size) (holds : ∀ j u, olds[j]? = some u → w.cell? (b.add j) = some u)
 (ad : Addr) (m c : Nat) (news : List Value) (hx : a.eval x = .slice (some ad) m c) (hl : news.length = m * size) (hnews : ∀ j u, news[j]? = some u → w.cell? (ad.add j) = some u)
 (hg : cap < n + m) (h63 : n + m ≤ maxLen) (hbytes : (n + m) * bytes ≤ 140737488355328)
 (h : ∀ g cap' w', w'.ownsRow w.heap.size e size (.slice (some ⟨g, 0, none⟩) (n + m) cap') (n + m) (olds ++ news) → Below w.heap.size w w' → wpList P ops Q rest (a.put o.dst (.slice (some ⟨g, 0, none⟩) (n + m) cap')) w') : wpList P ops Q (o :: rest) a w := by
 refine wpList_plain hgd fun K hK => ?_
 obtain ⟨v', w', hrun, r1, r2⟩ := run_append_arg_grows (P := P) w t o.type e i z size bytes ht hi hz hsize hby hzs hsz b n cap olds hlo holds ad m c news hl hnews hg h63 hbytes
 obtain ⟨g, cap', rfl⟩ := Z0D r1 (by omega)
 unfold Oper.wp execOp
 simp only [ho, resolve, invoke, builtin, Sem.run_bind, Sem.run_pure, Result.andThen_ok, List.map_toArray, List.map_cons, List.map_nil, hs, hx, hrun]
 exact hK _ _ (h g cap' w' r1 ⟨r2.os, r2.tape, r2.output, r2.size, fun k hk => r2.block k hk (by simp)⟩)
theorem Z5C (A : Nat → Prop) (op : Bt.Op) (known : List Bt.Page) (vf vk : Value) (s : Bt.St) (b N : Nat) (writes : List Bt.Page) (check : List Int) (w : World) (h : IsRun A op known vf vk s b w) (hAN : ∀ c, A c → c < N) {G g m cw n cap : Nat} (hNG : N ≤ G) (hNg : N ≤ g) (hGg : G ≠ g)
 (hw : w.ownsRow (b + 1) 25 9 (.slice (some ⟨G, 0, none⟩) m cw) writes.length (Z0q writes)) (hq : w.ownsRow (b + 1) 3 1 (.slice (some ⟨g, 0, none⟩) n cap) n (intCells check)) (hn : check.length = n) (hsmall : n ≤ 1000000) :
 Calls Tryz.prog 94 #[.pointer (some ⟨b, 0, none⟩), (.slice (some ⟨G, 0, none⟩) m cw), .slice (some ⟨g, 0, none⟩) n cap] w
  (fun e w' => e = .returned (.tuple #[]) ∧ IsRun (fun c => A c ∨ N ≤ c) op known vf vk (s.finish writes check) b w' ∧ OverTwo b g w w') := by
 refine (Z4q (fun c => A c ∨ c = G) op known vf vk s b g n cap writes check G m cw w (h.imp (fun c hc => .inl hc)) hw (.inr rfl) hq hn hsmall (fun h1 => ?_)).mono ?_
 ·rcases h1 with h1 | h1
  ·have := hAN _ h1; omega
  ·omega
 ·rintro e w' ⟨h1, h2, h3⟩
  refine ⟨h1, h2.imp (fun c hc => ?_), h3⟩
  rcases hc with (hc | hc) | hc
  ·exact .inl hc
  ·exact .inr (by omega)
  ·exact .inr (by omega)
theorem OverTwo.below_of {b k : Nat} {w w0 w' : World} (h : Below w.heap.size w w0) (h2 : OverTwo b k w0 w') : OverTwo b k w w' := (OverTwo.of_below h).trans h2
theorem SteadyTwo.overTwo {r g : Nat} {w1 wx wy : World} (h : SteadyTwo r g w1 wx) (hs : w1.heap.size ≤ wx.heap.size) (h2 : OverTwo r g wx wy) : SteadyTwo r g w1 wy :=
 ⟨fun b o hb hr hg => by
  have e1 := h2.block b (Nat.lt_of_lt_of_le hb hs) (by omega) (by omega)
  have : wy.cell? ⟨b, o, none⟩ = wx.cell? ⟨b, o, none⟩ := by simp only [World.cell?, e1]
  rw [this]
  exact h.rule b o hb hr hg⟩
theorem Z9b (A : Nat → Prop) (op : Bt.Op) (known : List Bt.Page) (vf vk : Value) (s : Bt.St) (b : Nat) (page : Bt.Page) (n : Bt.Node) (es : List Bt.Entry) (a0 : Option Addr) (n0 c0 g cap : Nat) (w : World) (h : IsRun A op known vf vk s b w) (hA : ∀ c, A c → c < w.heap.size) (N c0b : Nat) (ln : Int) (hAN : ∀ c, A c → c < N) (hNc : N ≤ c0b) (hNw : N ≤ w.heap.size) (hbc : b < c0b) (hgc : c0b ≠ g) (hq : w.ownsRow (b + 1) 3 1 (.slice (some ⟨c0b, 0, none⟩) 1 1) 1 (intCells [ln]))
 (hp : page.Ok) (hn : NodeOk { n with entries := es }) (he : EntRow w (.slice (some ⟨g, 0, none⟩) es.length cap) es) (h5 : es.length ≤ 5) :
 Calls Tryz.prog 86 #[.pointer (some ⟨b, 0, none⟩), .agg (Z0g page n (.slice a0 n0 c0)), .slice (some ⟨g, 0, none⟩) es.length cap, .slice (some ⟨c0b, 0, none⟩) 1 1] w (fun e w' => e = .returned (.tuple #[]) ∧ IsRun (fun c => A c ∨ N ≤ c) op known vf vk (s.store op page n es [ln]) b w' ∧ ∃ k, N ≤ k ∧ OverTwo b k w w') := by
 have HX : Hid (s.store op page n es [ln] = s.finish [({ n with entries := es } : Bt.Node).fill page] [ln]) := hid (by simp [Bt.St.store, h5])
 have HR := hid h
 have HP := hid hp
 have HN := hid hn
 have HE := hid he
 have HRC : ∀ r : Bt.Page, Hid (r.cells = #[.int .i64 r.line, .int .u64 r.head, .int .u64 r.d0, .int .u64 r.d1, .int .u64 r.d2, .int .u64 r.d3, .int .u64 r.d4, .int .u64 r.d5, .int .u64 r.d6]) := fun r => hid rfl
 have HFC := HRC (({ n with entries := es } : Bt.Node).fill page)
 have hlt := h.lt
 have hlt1 : b < w.heap.size + 1 := by omega
 have b1 : decide ((es.length : Int) ≤ 5) = true := by simp; omega
 have HQ := hid hq
 have hcw := (Z0X hq).2
 clear h hp hn he hq
 unfold Z0g
 go_enter Tryz.func86, Tryz.ntmps86
 go_wp2_with fail
 go_at_call 64; refine (Z2g { n with entries := es } (.slice (some ⟨g, 0, none⟩) es.length cap) page HP.out HN.out _ ?hpf).mono ?_
 case hpf => exact HE.out.below qL
 rintro e1 w1 ⟨rfl, hb1⟩
 rw [HFC.out]
 ((obtain ⟨hc1, hf1, hs1⟩ := qR hb1); (try have := qN0 w w1); (try have := qN1 w w1))
 have HB1 := hid hb1
 go_wp2_with fail
 go_at_call 94; refine (Z5C A op known vf vk s b N [({ n with entries := es } : Bt.Node).fill page] [ln] _ ?hrun hAN ?hNG hNc ?hGg ?hw ?hq rfl (by simp)).mono ?_
 case hrun => exact HR.out.below qL
 case hw => exact own_pages1' (n := w1.heap.size) rfl (by omega)
 case hNG => omega
 case hGg => omega
 case hq => exact own_below HQ.out qL
 rintro e2 w2 ⟨rfl, hrun2, ho2⟩
 have HR2 := hid hrun2
 have HO2 := hid ho2
 clear hrun2 ho2
 go_wp2_with fail
 refine bodyPost_ret (results_none rfl _ _ _) rfl ⟨rfl, ?_, c0b, hNc, OverTwo.below_of qL HO2.out⟩
 rw [HX.out]
 exact HR2.out
theorem Z7k (A : Nat → Prop) (op : Bt.Op) (known : List Bt.Page) (vf vk : Value) (s : Bt.St) (b : Nat) (page : Bt.Page) (n : Bt.Node) (es : List Bt.Entry) (a0 : Option Addr) (n0 c0 g cap : Nat) (w : World) (h : IsRun A op known vf vk s b w) (hA : ∀ c, A c → c < w.heap.size) (N c0b : Nat) (ln : Int) (hAN : ∀ c, A c → c < N) (hNc : N ≤ c0b) (hNw : N ≤ w.heap.size) (hbc : b < c0b) (hgc : c0b ≠ g) (hq : w.ownsRow (b + 1) 3 1 (.slice (some ⟨c0b, 0, none⟩) 1 1) 1 (intCells [ln]))
 (h6 : es.length = 6) (hf : op.fresh = []) :
 Calls Tryz.prog 86 #[.pointer (some ⟨b, 0, none⟩), .agg (Z0g page n (.slice a0 n0 c0)), .slice (some ⟨g, 0, none⟩) 6 cap, .slice (some ⟨c0b, 0, none⟩) 1 1] w (fun e w' => e = .returned (.tuple #[]) ∧ IsRun (fun c => A c ∨ N ≤ c) op known vf vk (s.store op page n es [ln]) b w' ∧ ∃ k, N ≤ k ∧ OverTwo b k w w') := by
 have HX : Hid (s.store op page n es [ln] = (s.fresh op [ln, page.line]).1) := hid (by simp [Bt.St.store, h6, Bt.St.fresh, hf])
 have HY : Hid ((s.fresh op [ln, page.line]).2 = none) := hid (by simp [Bt.St.fresh, hf])
 have HF := hid hf
 have HR := hid h
 obtain ⟨i0, hi, hz0, hz1, hz2⟩ := info_parts infoInt'
 have hlt := h.lt
 have hlt1 : b < w.heap.size + 1 := by omega
 have hlt2 : b < w.heap.size + 1 + 1 := by omega
 have HQ := hid hq
 have hcw := (Z0X hq).2
 clear h hf hq
 unfold Z0g
 go_enter Tryz.func86, Tryz.ntmps86
 go_wp2_with (at_builtin; refine halt ?_)
 refine Z4g ?_
 refine wpList_append_grows rfl (.tmp 29) (.tmp 33) 45 rfl 3 i0 _ 1 8 Tryz.underlying45 hi hz0 hz1 hz2 rfl (by decide) ⟨c0b, 0, none⟩ 1 1 [.int .i64 ln] rfl rfl ?holds ⟨w.heap.size + 1 + 1, 0, none⟩ 1 1
  [.int .i64 page.line] rfl rfl (Z42 (u := .int .i64 page.line) ((Blk.made' (by simp)).cell 0)) (by omega) (by unfold maxLen; omega) (by omega) ?_
 case holds => exact Z42 (u := .int .i64 ln) (Z0i (own_below HQ.out qL) 0 _ rfl)
 intro g1 cap1 w1 hown1 hb1
 ((obtain ⟨hc1, hf1, hs1⟩ := qR hb1); (try have := qN0 w w1); (try have := qN1 w w1); (try have := qN2 w w1))
 clear hown1
 go_wp2_with fail
 go_at_call 93; refine (Z47 A op known vf vk s b _ [ln, page.line] _ ?hrun ?hlow HF.out).mono ?_
 case hrun => exact HR.out.below qL
 case hlow => exact fun c hc => by have := hA c hc; omega
 rintro e2 w2 ⟨hrun2, ho2, rfl⟩
 rw [HY.out]
 rw [HY.out] at hrun2
 have HR2 := hid (show IsRun (New A _) op known vf vk _ b w2 from hrun2)
 clear hrun2
 ((obtain ⟨hc2, hf2, hs2⟩ := qO ho2); (try have := qN0 w w2); (try have := qN1 w w2); (try have := qN2 w w2); (try have := qN0 w1 w2))
 simp only [Option.getD_none, Option.isSome_none, Z0x]
 go_wp2_with fail
 have hov : Over b w w2 := qV
 refine bodyPost_ret (results_none rfl _ _ _) rfl ⟨rfl, ?_, c0b, hNc, OverTwo.of_left (Over.alloc hov _)⟩
 rw [HX.out]
 refine IsRun.alloc (IsRun.imp HR2.out (fun c hc => ?_)) _
 rcases hc with h1 | h1
 ·exact .inl h1
 ·exact .inr (by omega)
theorem Z7j (A : Nat → Prop) (op : Bt.Op) (known : List Bt.Page) (vf vk : Value) (s : Bt.St) (b : Nat) (page : Bt.Page) (n : Bt.Node) (es : List Bt.Entry) (a0 : Option Addr) (n0 c0 g cap : Nat) (w : World) (h : IsRun A op known vf vk s b w) (hA : ∀ c, A c → c < w.heap.size) (N c0b : Nat) (ln : Int) (hAN : ∀ c, A c → c < N) (hNc : N ≤ c0b) (hNw : N ≤ w.heap.size) (hbc : b < c0b) (hgc : c0b ≠ g) (hq : w.ownsRow (b + 1) 3 1 (.slice (some ⟨c0b, 0, none⟩) 1 1) 1 (intCells [ln]))
 (hp : page.Ok) (hn : 0 ≤ n.level ∧ n.level ≤ 8) (hnh : 0 ≤ n.high ∧ n.high < 4294967296) (he : EntRow w (.slice (some ⟨g, 0, none⟩) 6 cap) es) (h6 : es.length = 6) (hcap : 6 ≤ cap) (hgb : b < g)
 (p q : Bt.Page) (rest : List Bt.Page) (hf : op.fresh = p :: rest) (hpo : p.Ok) (ha : Bt.allocate p 4 0 = (q, 0)) (hpl : q.line ≠ page.line) (hpl2 : q.line ≠ ln) :
 Calls Tryz.prog 86 #[.pointer (some ⟨b, 0, none⟩), .agg (Z0g page n (.slice a0 n0 c0)), .slice (some ⟨g, 0, none⟩) 6 cap, .slice (some ⟨c0b, 0, none⟩) 1 1] w (fun e w' => e = .returned (.tuple #[]) ∧ IsRun (fun c => A c ∨ N ≤ c) op known vf vk (s.store op page n es [ln]) b w' ∧ ∃ k, N ≤ k ∧ OverTwo b k w w') := by
 obtain ⟨kk, hkk⟩ : ∃ kk, kk = (es.getD 2 default).key := ⟨_, rfl⟩
 have HX : Hid (s.store op page n es [ln] = ({ s with out := { s.out with split := true } } : Bt.St).finish [(Z0o q n es kk).fill page, (Z0p n es).fill q] [ln]) := hid (by simp [Bt.St.store, h6, Bt.St.fresh, hf, ha, hpl, hpl2, hkk, Z0o, Z0p])
 obtain ⟨hqo, hqv, hql, hqh, hqd⟩ := Z4C hpo ha
 have HRC : ∀ r : Bt.Page, Hid (r.cells = #[.int .i64 r.line, .int .u64 r.head, .int .u64 r.d0, .int .u64 r.d1, .int .u64 r.d2, .int .u64 r.d3, .int .u64 r.d4, .int .u64 r.d5, .int .u64 r.d6]) := fun r => hid rfl
 have HQ := HRC q
 have HAC : Hid ((Bt.at_ q).cells = #[.int .i64 (Bt.at_ q).line, .int .i64 (Bt.at_ q).gen]) := hid rfl
 have HQO := hid hqo
 have HAL := hid ha
 have HFR := hid hf
 have HPL : Hid (q.line ∉ [ln, page.line]) := hid (by simp [hpl, hpl2])
 have HQ1 := hid hq
 have hcw := (Z0X hq).2
 obtain ⟨hs1, hs2⟩ := EntRow.sub3 (by rw [h6]; exact he) h6
 have HS1 := hid hs1
 have HS2 := hid hs2
 have hk2 : 2 < es.length := by omega
 have hk2e : (es.getD 2 default) = es[2] := by rw [List.getD_eq_getElem?_getD, List.getElem?_eq_getElem hk2]; rfl
 have hkb := he.ok es[2] (List.getElem_mem hk2)
 have HNL : Hid (NodeOk (Z0o q n es kk)) := hid ⟨⟨hn.1, by show n.level ≤ 255; omega⟩, by show 0 ≤ kk ∧ kk < 4294967296; rw [hkk, hk2e]; exact hkb, by simp [Z0o, h6]⟩
 have HNU : Hid (NodeOk (Z0p n es)) := hid ⟨⟨hn.1, by show n.level ≤ 255; omega⟩, hnh, by simp [Z0p, h6]⟩
 have k2 : w.cell? ⟨g, 6, none⟩ = some (.int .u32 kk) := by
  rcases he.form with ⟨h1, _⟩ | ⟨b', off, cp, hv, hlt, hcells⟩
  ·simp at h1
  ·simp only [Value.slice.injEq, Option.some.injEq, Addr.mk.injEq, and_true, true_and] at hv
   obtain ⟨⟨rfl, rfl⟩, _, rfl⟩ := hv
   rw [hkk, hk2e]
   exact hcells 2 es[2] (List.getElem?_eq_getElem hk2) 0 _ rfl
 have hgw : g < w.heap.size := by
  rcases he.form with ⟨h1, _⟩ | ⟨b', off, cp, hv, hlt, hcells⟩
  ·simp at h1
  ·simp only [Value.slice.injEq, Option.some.injEq, Addr.mk.injEq, and_true, true_and] at hv
   obtain ⟨⟨rfl, rfl⟩, _, rfl⟩ := hv
   exact hlt
 have HR := hid h
 have HP := hid hp
 obtain ⟨i0, hi, hz0, hz1, hz2⟩ := info_parts infoInt'
 have hlt := h.lt
 have hlt1 : b < w.heap.size + 1 := by omega
 have hlt2 : b < w.heap.size + 1 + 1 := by omega
 have hlt2' : b < w.heap.size + 1 := by omega
 have cp1 : (3 : Int) ≤ 6 := by omega
 have cp2 : (3 : Int) ≤ cap := by omega
 clear h hp hn hnh he hs1 hs2 hkk hk2 hk2e hkb hqo hqv hql hqh hqd ha hf hpl hpl2 hq
 unfold Z0g
 go_enter Tryz.func86, Tryz.ntmps86
 go_wp2_with (at_builtin; refine halt ?_)
 refine Z4g ?_
 refine wpList_append_grows rfl (.tmp 29) (.tmp 33) 45 rfl 3 i0 _ 1 8 Tryz.underlying45 hi hz0 hz1 hz2 rfl (by decide) ⟨c0b, 0, none⟩ 1 1 [.int .i64 ln] rfl rfl ?holds ⟨w.heap.size + 1 + 1, 0, none⟩ 1 1
  [.int .i64 page.line] rfl rfl (Z42 (u := .int .i64 page.line) ((Blk.made' (by simp)).cell 0)) (by omega) (by unfold maxLen; omega) (by omega) ?_
 case holds => exact Z42 (u := .int .i64 ln) (Z0i (own_below HQ1.out qL) 0 _ rfl)
 intro g1 cap1 w1 hown1 hb1
 ((obtain ⟨hc1, hf1, hs1⟩ := qR hb1); (try have := qN0 w w1); (try have := qN1 w w1); (try have := qN2 w w1))
 have HW1 : Hid (w1.ownsRow 0 3 1 (.slice (some ⟨g1, 0, none⟩) (1 + 1) cap1) ([ln, page.line] : List Int).length (intCells [ln, page.line])) := hid (own_base hown1 (Nat.zero_le _))
 clear hown1
 go_wp2_with fail
 go_at_call 93; refine (Z5b A op known vf vk s b _ [ln, page.line] _ ?hrun ?hlow p q rest HFR.out HAL.out HPL.out ?ht).mono ?_
 case hrun => exact HR.out.below qL
 case hlow => exact fun c hc => by have := hA c hc; omega
 case ht => exact HW1.out
 rintro e2 w2 ⟨hrun2, ho2, rfl⟩
 have HR2 := hid hrun2
 clear hrun2
 ((obtain ⟨hc2, hf2, hs2⟩ := qO ho2); (try have := qN0 w w2); (try have := qN1 w w2); (try have := qN2 w w2); (try have := qN0 w1 w2))
 simp only [Option.getD_some, Option.isSome_some, HQ.out]
 obtain ⟨un, uw, ue, uc, hc⟩ := HR2.out.cells
 have j14 : w2.cell? ⟨b, 14, none⟩ = some (.bool s.out.split) := hc 14
 have hfb := HR2.out.free
 have x0 : b < w2.heap.size := by omega
 have x1 : b < w2.heap.size + 1 := by omega
 have x2 : b < w2.heap.size + 1 + 1 := by omega
 clear hc
 go_wp2_with fail
 refine qA fun hSt => ?_
 refine qS [0, 1, 2, 3, 4, 5, 6, 7, 8] ?_
 iterate 9 (refine qT ?_; simp only [Act.put, qY])
 refine Z00.done ?_
 refine qH 9 fun K hK => ?_
 go_simp
 refine hK.out _ _ (SteadyAll.of qL) (fun hHeld => ?_)
 clear hK K
 refine qH 10 fun K hK => ?_
 go_simp
 refine hK.out _ _ (SteadyAll.of qL) (fun hHeld => ?_)
 clear hK K
 refine qD ?_ _
 go_wp2_with fail
 have y0 : g < w.heap.size + 1 := by omega
 have y01 : g < w.heap.size + 1 + 1 := by omega
 have y02 : g < w.heap.size + 1 + 1 + 1 := by omega
 have y1 : g < w1.heap.size := by omega
 have y2 : g < w2.heap.size := by omega
 have y3 : g < w2.heap.size + 1 := by omega
 have y4 : g < w2.heap.size + 1 + 1 := by omega
 have y5 : w.heap.size + 1 < w2.heap.size := by omega
 have y6 : w.heap.size + 1 < w2.heap.size + 1 := by omega
 have y7 : w.heap.size + 1 < w2.heap.size + 1 + 1 := by omega
 have y8 : w.heap.size < w2.heap.size + 1 + 1 := by omega
 refine qB (w.heap.size + 1) fun hSt => ?_
 refine qS [0, 1, 2, 3, 4, 6, 7, 8] ?_
 iterate 8 (refine qT ?_; simp only [Act.put, qY])
 refine Z00.done ?_
 refine qH 5 fun K hK => ?_
 go_simp
 go_at_call 33; refine (Z4r q HQO.out _).mono ?_; rintro e3 w3 ⟨rfl, hb3⟩; rw [HAC.out]; ((obtain ⟨hc3, hf3, hs3⟩ := qR hb3); (try have := qN0 w w3); (try have := qN1 w w3); (try have := qN2 w w3); (try have := qN0 w1 w3); (try have := qN0 w2 w3); (try have := qN1 w2 w3))
 go_wp2_with fail
 refine hK.out _ _ (SteadyBut.of qL) (fun hHeld => ?_)
 clear hK K
 refine qH 9 fun K hK => ?_
 go_simp
 refine hK.out _ _ qE (fun hHeld => ?_)
 clear hK K
 refine qS [10] ?_
 refine qT ?_; simp only [Act.put, qY]
 refine Z00.done ?_
 refine qH 11 fun K hK => ?_
 go_simp
 refine hK.out _ _ qE (fun hHeld => ?_)
 clear hK K
 refine qS [12] ?_
 refine qT ?_; simp only [Act.put, qY]
 refine Z00.done ?_
 refine qH 13 fun K hK => ?_
 go_simp
 refine hK.out _ _ qE (fun hHeld => ?_)
 clear hK K
 refine qD ?_ _
 have x3 : b < w3.heap.size := by omega
 go_wp2_with fail
 have hO3 : Over b w w3 := qV
 have X1 := Blk.kept (b := w.heap.size) (t := 145) (cs := #[.int .i64 page.line, .int .u64 page.head, .int .u64 page.d0, .int .u64 page.d1, .int .u64 page.d2, .int .u64 page.d3, .int .u64 page.d4, .int .u64 page.d5, .int .u64 page.d6, .int .i64 n.level, .bool n.leftmost, .bool n.dead, .int .u32 n.high, .int .i64 n.right.line, .int .i64 n.right.gen, .slice a0 n0 c0]) (Zax w) hb1
 have X2 := X1.grown ho2 (by simp; omega)
 have X3 : Blk w3 w.heap.size 145 #[.int .i64 page.line, .int .u64 page.head, .int .u64 page.d0, .int .u64 page.d1, .int .u64 page.d2, .int .u64 page.d3, .int .u64 page.d4, .int .u64 page.d5, .int .u64 page.d6, .int .i64 n.level, .bool n.leftmost, .bool n.dead, .int .u32 n.high, .int .i64 n.right.line, .int .i64 n.right.gen, .slice a0 n0 c0] := Blk.kept (by (repeat (first | with_reducible exact X2 | with_reducible apply Blk.put | with_reducible apply Blk.alloc | (with_reducible apply Blk.aside; (case hp => first | (simp; done) | (simp; omega))) | with_reducible apply Blk.drew | with_reducible refine Blk.kept ?_ (by assumption)))) hb3
 have N1 := Blk.kept (b := w.heap.size + 1) (t := 73) (cs := #[.int .i64 n.level, .bool n.leftmost, .bool n.dead, .int .u32 n.high, .int .i64 n.right.line, .int .i64 n.right.gen, .slice (some ⟨g, 0, none⟩) 6 cap]) (Z3M w) hb1
 have N2 := N1.grown ho2 (by simp; omega)
 have N3 : Blk w3 (w.heap.size + 1) 73 #[.int .i64 n.level, .bool n.leftmost, .bool n.dead, .int .u32 n.high, .int .i64 n.right.line, .int .i64 n.right.gen, .slice (some ⟨g, 0, none⟩) 6 cap] := Blk.kept (by (repeat (first | with_reducible exact N2 | with_reducible apply Blk.put | with_reducible apply Blk.alloc | (with_reducible apply Blk.aside; (case hp => first | (simp; done) | (simp; omega))) | with_reducible apply Blk.drew | with_reducible refine Blk.kept ?_ (by assumption)))) hb3
 have Q1 := Blk.made w2 25 #[.int .i64 q.line, .int .u64 q.head, .int .u64 q.d0, .int .u64 q.d1, .int .u64 q.d2, .int .u64 q.d3, .int .u64 q.d4, .int .u64 q.d5, .int .u64 q.d6]
 have Q3 : Blk w3 w2.heap.size 25 #[.int .i64 q.line, .int .u64 q.head, .int .u64 q.d0, .int .u64 q.d1, .int .u64 q.d2, .int .u64 q.d3, .int .u64 q.d4, .int .u64 q.d5, .int .u64 q.d6] := Blk.kept (by (repeat (first | with_reducible exact Q1 | with_reducible apply Blk.put | with_reducible apply Blk.alloc | (with_reducible apply Blk.aside; (case hp => first | (simp; done) | (simp; omega))) | with_reducible apply Blk.drew | with_reducible refine Blk.kept ?_ (by assumption)))) hb3
 have U3 : Blk w3 (w2.heap.size + 1) 73 #[.int .i64 n.level, .bool false, .bool false, .int .u32 n.high, .int .i64 n.right.line, .int .i64 n.right.gen, .slice (some ⟨g, 9, none⟩) 3 (cap - 3)] := Blk.kept (by repeat (first | exact Blk.made' (by simp) | with_reducible apply Blk.drew)) hb3
 generalize hwx : World.setCell _ ⟨b, 14, none⟩ (.bool true) = wx
 have X4 : Blk wx w.heap.size 145 #[.int .i64 page.line, .int .u64 page.head, .int .u64 page.d0, .int .u64 page.d1, .int .u64 page.d2, .int .u64 page.d3, .int .u64 page.d4, .int .u64 page.d5, .int .u64 page.d6, .int .i64 n.level, .bool n.leftmost, .bool n.dead, .int .u32 n.high, .int .i64 n.right.line, .int .i64 n.right.gen, .slice a0 n0 c0] := by rw [← hwx]; (repeat (first | with_reducible exact X3 | with_reducible apply Blk.put | with_reducible apply Blk.alloc | (with_reducible apply Blk.aside; (case hp => first | (simp; done) | (simp; omega))) | with_reducible apply Blk.drew))
 have N4 : Blk wx (w.heap.size + 1) 73 #[.int .i64 n.level, .bool n.leftmost, .bool n.dead, .int .u32 kk, .int .i64 (Bt.at_ q).line, .int .i64 (Bt.at_ q).gen, .slice (some ⟨g, 0, none⟩) 3 cap] := by
  rw [← hwx]
  exact (((((N3.put 3 (.int .u32 kk)).put 4 (.int .i64 (Bt.at_ q).line)).put 5 (.int .i64 (Bt.at_ q).gen)).put 6 (.slice (some ⟨g, 0, none⟩) 3 cap)).aside (p := ⟨b, 14, none⟩) (by show w.heap.size + 1 ≠ b; omega) (.bool true)).cast rfl
 have Q4 : Blk wx w2.heap.size 25 #[.int .i64 q.line, .int .u64 q.head, .int .u64 q.d0, .int .u64 q.d1, .int .u64 q.d2, .int .u64 q.d3, .int .u64 q.d4, .int .u64 q.d5, .int .u64 q.d6] := by rw [← hwx]; (repeat (first | with_reducible exact Q3 | with_reducible apply Blk.put | with_reducible apply Blk.alloc | (with_reducible apply Blk.aside; (case hp => first | (simp; done) | (simp; omega))) | with_reducible apply Blk.drew))
 have U4 : Blk wx (w2.heap.size + 1) 73 #[.int .i64 n.level, .bool false, .bool false, .int .u32 n.high, .int .i64 n.right.line, .int .i64 n.right.gen, .slice (some ⟨g, 9, none⟩) 3 (cap - 3)] := by rw [← hwx]; (repeat (first | with_reducible exact U3 | with_reducible apply Blk.put | with_reducible apply Blk.alloc | (with_reducible apply Blk.aside; (case hp => first | (simp; done) | (simp; omega))) | with_reducible apply Blk.drew))
 have hOx : Over b w wx := by rw [← hwx]; exact qV
 have RX : IsRun A op known vf vk { s with out := { s.out with split := true } } b wx := by
  rw [← hwx]
  have hnw : ¬ A (w.heap.size + 1) := fun h1 => by have := hA _ h1; omega
  have R2 : IsRun A op known vf vk s b w2 := HR2.out
  have R3 : IsRun A op known vf vk s b w3 := (((R2.alloc _).drew.alloc _).drew).below hb3
  exact (((((R3.cell hlt2' hnw 3 _).cell hlt2' hnw 4 _).cell hlt2' hnw 5 _).cell hlt2' hnw 6 _).field (s' := { s with out := { s.out with split := true } }) 14 (.bool true) (fun _ _ _ _ => rfl))
 have E1 : EntRow wx (.slice (some ⟨g, 0, none⟩) 3 cap) (es.take 3) := HS1.out.over hOx (fun c o n m hv => by simp at hv; omega)
 have E2 : EntRow wx (.slice (some ⟨g, 9, none⟩) 3 (cap - 3)) (es.drop 3) := HS2.out.over hOx (fun c o n m hv => by simp at hv; omega)
 have HE1 := hid E1
 have HE2 := hid E2
 have HRX := hid RX
 have HQX := hid (Z0H HQ1.out hOx (by omega))
 have hwx9 : w.heap.size ≤ wx.heap.size := hOx.size
 have cq1 : c0b < w.heap.size + 1 := by omega
 have cq2 : c0b < w2.heap.size := by omega
 have cq3 : c0b < w2.heap.size + 1 := by omega
 have HOX := hid hOx
 have gX := X4.cell
 have gN := N4.cell
 have gQ := Q4.cell
 have gU := U4.cell
 have lX := X4.lt
 have lN := N4.lt
 have lQ := Q4.lt
 have lU := U4.lt
 have lb : b < wx.heap.size := by omega
 have HF1 := HRC ((Z0o q n es kk).fill page)
 have HF2 := HRC ((Z0p n es).fill q)
 clear RX E1 E2 hOx X1 X2 X3 X4 N1 N2 N3 N4 Q1 Q3 Q4 U3 U4 hwx hO3 hc1 hc2 hc3 hf1 hf2 hf3 j14 hfb k2
 refine wp_region_held_drew (S := SteadyTwo b c0b _) (by kernel_rfl) (SteadyTwo.of (Below.refl _ _).drew) ?_
 intro hSt
 refine qS [0, 1, 2, 3, 5, 6, 9] ?_
 iterate 7 (refine qT ?_; simp only [Act.put, qY])
 refine Z00.done ?_
 refine qH 4 fun K hK => ?_
 go_simp
 go_at_call 64; refine (Z2g (Z0o q n es kk) (.slice (some ⟨g, 0, none⟩) 3 cap) page HP.out HNL.out _ ?hpf).mono ?_; (case hpf => exact HE1.out.below qL); rintro e5 w5 ⟨rfl, hb5⟩; rw [HF1.out]; ((obtain ⟨hc5, hf5, hs5⟩ := qR hb5); (try have := qN0 w w5))
 go_wp2_with fail
 refine hK.out _ _ (SteadyTwo.of qL) (fun hHeld => ?_)
 clear hK K
 refine qH 7 fun K hK => ?_
 go_simp
 go_at_call 64; refine (Z2g (Z0p n es) (.slice (some ⟨g, 9, none⟩) 3 (cap - 3)) q HQO.out HNU.out _ ?hpf2).mono ?_; (case hpf2 => exact HE2.out.below qL); rintro e6 w6 ⟨rfl, hb6⟩; rw [HF2.out]; ((obtain ⟨hc6, hf6, hs6⟩ := qR hb6); (try have := qN0 w w6))
 go_wp2_with fail
 refine hK.out _ _ (SteadyTwo.of qL) (fun hHeld => ?_)
 clear hK K
 refine qH 8 fun K hK => ?_
 go_simp
 refine hK.out _ _ (SteadyTwo.of qL) (fun hHeld => ?_)
 clear hK K
 refine qH 10 fun K hK => ?_
 go_simp
 go_at_call 94; refine (Z5C A op known vf vk { s with out := { s.out with split := true } } b N [(Z0o q n es kk).fill page, (Z0p n es).fill q] [ln] _ ?hrun hAN ?hNG hNc ?hGg ?hw ?hq rfl (by simp)).mono ?_; (case hrun => exact HRX.out.below qL); (case hw => exact own_pages2' (n := w6.heap.size) rfl (by omega)); (case hNG => omega); (case hGg => omega); (case hq => exact own_below HQX.out qL); rintro e7 w7 ⟨rfl, hrun7, ho7⟩; have HR7 := hid hrun7; have HO7 := hid ho7; clear hrun7 ho7
 go_wp2_with fail
 refine hK.out _ _ (SteadyTwo.overTwo (SteadyTwo.of qL) (by simp only [size_alloc, size_drew]; omega) HO7.out) (fun hHeld => ?_)
 clear hK K
 refine qD ?_ _
 go_wp2_with fail
 have hOx := HOX.out
 have hov : Over b w w6 := qV
 refine bodyPost_end (results_none rfl _ _ _) rfl ⟨rfl, ?_, c0b, hNc, OverTwo.of_over (Over.alloc hov _) HO7.out⟩
 rw [HX.out]
 exact HR7.out
end Go.Proofs.YtjmpekanlmepmaaGreatDoor
