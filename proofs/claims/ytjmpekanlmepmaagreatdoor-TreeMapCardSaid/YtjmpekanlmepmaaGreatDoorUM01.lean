/- Package bodegalaw24: a lookup gives the right answer. (Printed by wip/right_gen.py.) -/
import Derived.Test.YtjmpekanlmepmaaGreatDoorB45
import Derived.Test.YtjmpekanlmepmaaGreatDoorB46
set_option linter.all false
namespace Go.Proofs.YtjmpekanlmepmaaGreatDoor
open Go.RowKit
set_option maxRecDepth 20000 in
theorem UMsG1 {P : Prop} (h : P := by
 have HB2 := Lib.hid hb2
 clear hb2
 go_wp2_with fail
 refine qA fun hSt => ?_
 refine qS [0, 1, 2, 3, 4, 5, 6, 7, 8, 9, 10, 11, 12, 13, 14, 15, 16, 17, 18, 19, 20, 21, 22, 23] ?_
 iterate 24 (refine qT ?_; simp only [Act.put, qY])
 refine TakeSeq.done ?_
 refine qD ?_ _
 go_wp2_with fail
 have hb1 := HB1.out
 have hb2 := HB2.out
 refine bodyPost_ret (results_tmp rfl _ _ _) rfl ⟨rfl, qL⟩) : P := h
set_option maxRecDepth 20000 in
theorem UMwG1 {P : Prop} (h : P := by
 go_enter Tryz.func24, Tryz.ntmps24
 go_wp2_with fail
 go_at_call 27; refine (HN.out _ qL).mono ?_
 rintro e1 w1 ⟨vw, ve, vc, rfl, how, hoe, hoc, hb1⟩
 obtain ⟨pw, cw, rfl⟩ := own_zero how
 obtain ⟨ca, cc, rfl⟩ := own_len hoc
 rw [HOK.out]
 have hse := qSt hoe
 clear how hoe hoc
 simp only [outCells]
 rw [HF.out]
 ((obtain ⟨hc1, hf1, hs1⟩ := qR hb1); (try have := qN0 w w1))
 have HB1 := Lib.hid hb1
 have hxl1 : x < w1.heap.size := by omega
 clear hb1
 go_wp2_with fail
 first
  | clear tg1
    go_at_call 48; refine (place_any x (x + 1) (.slice (some ⟨P, 0, none⟩) pages.length cap) vk vt vg next keys key _ ?hb ?hk hlen).mono ?_
    case hb => exact (HX.out.blk.kept HB1.out).alloc _
    case hk => exact own_below HX.out.keys (by have hb1 := HB1.out; exact qL)
    rintro e2 w2 ⟨rfl, hb2⟩
    rw [HTH.out, ← HAT.out]
    ((obtain ⟨hc2, hf2, hs2⟩ := qR hb2); (try have := qN0 w w2); (try have := qN0 w1 w2))
    have hxl2 : x < w2.heap.size := by omega
    exact UMsG1
  | clear tg2
    go_at_call 48; refine (place_any x (x + 1) (.slice (some ⟨P, 0, none⟩) pages.length cap) vk (Value.slice (some ⟨gt, 0, none⟩) tos.length ct) vg next keys key _ ?hb ?hk hlen).mono ?_
    case hb => exact (HX.out.blk.kept HB1.out).alloc _
    case hk => exact own_below HX.out.keys (by have hb1 := HB1.out; exact qL)
    rintro e2 w2 ⟨rfl, hb2⟩
    rw [HTH.out, ← HAT.out]
    ((obtain ⟨hc2, hf2, hs2⟩ := qR hb2); (try have := qN0 w w2); (try have := qN0 w1 w2))
    have hxl2 : x < w2.heap.size := by omega
    have hgt3 : gt < w2.heap.size := by omega
    have hgt4 : gt < w1.heap.size := by omega
    exact UMsG1) : P := h
set_option maxRecDepth 10000 in
set_option maxHeartbeats 4000000 in
theorem right_none (x P cap G : Nat) (pages : List Bt.Page) (next : Int) (keys : List Int) (tos : List Bt.Ptr) (key : Int) (va : Option Addr) (n c : Nat) (o : Bt.Out) (w : World) (h : IxG x P cap G pages next keys tos w) (hth : isThere keys key = false) (hfo : o.found = false) (hto : o.to = Bt.nilP) (hlen : keys.length ≤ 1000) (htl : tos.length = keys.length) (hoc : o.code = 0) (hok : o.check.length = 1)
 (HN : Hid (∀ w', Below w.heap.size w w' → Calls Tryz.prog 27 #[.agg (opCells ⟨1, key, 0, Bt.nilP, 0, 0, []⟩ (.slice none 0 0)), .slice va n c] w' (NextPost [] o w'))) :
 Calls Tryz.prog 24 #[.pointer (some ⟨x, 0, none⟩), .int .u32 key, .slice va n c] w (fun e w' => e = .returned (.bool true) ∧ Below w.heap.size w w') := by
 obtain ⟨vk, vt, vg, hx, hgo⟩ := h
 have hxlt := hx.blk.lt
 have kx := hx.blk.cell
 unfold ixCells at kx
 have pz : peq o.to.line o.to.gen 0 0 = true := by rw [hto]; rfl
 obtain ⟨at1, hat⟩ : ∃ at1, at1 = placeOf keys key := ⟨_, rfl⟩
 have HAT := Lib.hid hat
 have eq := eql_ptr
 clear hat
 have HX := Lib.hid hx
 have HTH := Lib.hid hth
 have HF := Lib.hid hfo
 have HOK := Lib.hid hok
 have bn0 : (o.code != 0) = false := by simp [hoc]
 clear hx hth hgo hfo hok hoc hto
 unfold opCells Bt.nilP at HN
 have tg1 := trivial
 exact UMwG1
set_option maxRecDepth 10000 in
set_option maxHeartbeats 4000000 in
theorem right_there (x P cap G : Nat) (pages : List Bt.Page) (next : Int) (keys : List Int) (tos : List Bt.Ptr) (key : Int) (va : Option Addr) (n c : Nat) (o : Bt.Out) (w : World) (h : IxG x P cap G pages next keys tos w) (hth : isThere keys key = true) (hfo : o.found = true) (hto : o.to = tos.getD (placeOf keys key) default) (hlen : keys.length ≤ 1000) (htl : tos.length = keys.length) (hoc : o.code = 0) (hok : o.check.length = 1)
 (HN : Hid (∀ w', Below w.heap.size w w' → Calls Tryz.prog 27 #[.agg (opCells ⟨1, key, 0, Bt.nilP, 0, 0, []⟩ (.slice none 0 0)), .slice va n c] w' (NextPost [] o w'))) :
 Calls Tryz.prog 24 #[.pointer (some ⟨x, 0, none⟩), .int .u32 key, .slice va n c] w (fun e w' => e = .returned (.bool true) ∧ Below w.heap.size w w') := by
 obtain ⟨vk, vt, vg, hx, hgo⟩ := h
 have hxlt := hx.blk.lt
 have kx := hx.blk.cell
 unfold ixCells at kx
 have hpl2 : placeOf keys key < keys.length := isThere_lt hth
 have hatl : placeOf keys key < tos.length := by omega
 have hgd : tos.getD (placeOf keys key) default = tos[placeOf keys key] := by rw [List.getD_eq_getElem?_getD, List.getElem?_eq_getElem hatl]; rfl
 obtain ⟨q, hq⟩ : ∃ q, tos[placeOf keys key] = q := ⟨_, rfl⟩
 rw [hgd, hq] at hto
 have pq : peq o.to.line o.to.gen q.line q.gen = true := by simp [peq, hto]
 obtain ⟨gt, ct, rfl⟩ := own_form hx.tos (by omega)
 have tc0 : w.cell? ⟨gt, placeOf keys key * 2, none⟩ = some (.int .i64 q.line) := by rw [← hq]; exact own_cells hx.tos _ _ (ptrCells_get tos _ _ (List.getElem?_eq_getElem hatl) 0 _ rfl)
 have tc1 : w.cell? ⟨gt, placeOf keys key * 2 + 1, none⟩ = some (.int .i64 q.gen) := by rw [← hq]; exact own_cells hx.tos _ _ (ptrCells_get tos _ _ (List.getElem?_eq_getElem hatl) 1 _ rfl)
 have hgt := own_lt hx.tos
 have hgt2 : gt < w.heap.size := hgt.2
 obtain ⟨at1, hat⟩ : ∃ at1, at1 = placeOf keys key := ⟨_, rfl⟩
 rw [← hat] at tc0 tc1 hatl
 have HAT := Lib.hid hat
 have ha1 : (0 : Int) ≤ at1 := by omega
 have ha2 : (at1 : Int) < tos.length := by omega
 have ha3 : (at1 : Int) < keys.length := by omega
 have ha4 : at1 < keys.length := by omega
 have eq := eql_ptr
 clear hgt hgd hq hat hpl2
 have HX := Lib.hid hx
 have HTH := Lib.hid hth
 have HF := Lib.hid hfo
 have HOK := Lib.hid hok
 have bn0 : (o.code != 0) = false := by simp [hoc]
 clear hx hth hgo hfo hok hoc hto
 unfold opCells Bt.nilP at HN
 have tg2 := trivial
 exact UMwG1
abbrev findOp (k : Int) : Bt.Op := ⟨1, k, 0, Bt.nilP, 0, 0, []⟩
theorem all_find {ps : List Bt.Page} {nx : Int} {es : List Bt.Entry} {T : List (List Bt.Cell)} (h : Bt.Inv ps nx es T) (k : Int) (hk : 1 ≤ k) (hk2 : k ≤ Bt.maxKey) : StepsAll ps nx (findOp k) := fun fr ws o hf hn fa ka fn fc kn kc w =>
 steps_find_ix h _ (by unfold Bt.Op.isValid; simp [findOp, Bt.isKey, hk, hk2]) hn fa ka fn fc kn kc w rfl
/-- A lookup over the pages themselves. -/
theorem right_ix {ps : List Bt.Page} {nx : Int} {es : List Bt.Entry} {T : List (List Bt.Cell)} (h : Bt.Inv ps nx es T) (k : Int) (hk : 1 ≤ k) (hk2 : k ≤ Bt.maxKey) {x P cap G : Nat} (w : World) (hx : IxG x P cap G ps nx (keysOf es) (tosOf es) w) :
 Calls Tryz.prog 24 #[.pointer (some ⟨x, 0, none⟩), .int .u32 k, .slice (some ⟨P, 0, none⟩) ps.length cap] w (fun e w' => e = .returned (.bool true) ∧ Below w.heap.size w w') := by
 obtain ⟨o, ho, hoc, hof, hot, hok, _⟩ := h.find (op := findOp k) rfl hk hk2
 have hlen := h.esLen
 have hlk : (keysOf es).length ≤ 1000 := by unfold keysOf; rw [List.length_map]; omega
 have hlt : (tosOf es).length = (keysOf es).length := by unfold keysOf tosOf; simp
 have hth := isThere_es es k
 obtain ⟨vk, vt, vg, hxo, hgo⟩ := hx
 have HN : Hid (∀ w', Below w.heap.size w w' → Calls Tryz.prog 27 #[.agg (opCells ⟨1, k, 0, Bt.nilP, 0, 0, []⟩ (.slice none 0 0)), .slice (some ⟨P, 0, none⟩) ps.length cap] w' (NextPost [] o w')) := Lib.hid (fun w' hb =>
  all_find h k hk hk2 [] [] o (.inl rfl) ho none (some ⟨P, 0, none⟩) 0 0 ps.length cap w' (nilRow w') ((hxo.over hb).pg.row) ((hxo.over hb).none))
 cases hhk : Bt.hasKey es k with
 | true =>
   rw [hhk] at hth
   have hot2 : o.to = (tosOf es).getD (placeOf (keysOf es) k) default := by
    rw [placeOf_es, getD_to es _ (hasKey_lt hhk)]
    rw [hot, if_pos hhk]
   exact right_there x P cap G ps nx (keysOf es) (tosOf es) k (some ⟨P, 0, none⟩) ps.length cap o w ⟨vk, vt, vg, hxo, hgo⟩ hth (by rw [hof]; exact hhk) hot2 hlk hlt hoc hok HN
 | false =>
   rw [hhk] at hth
   exact right_none x P cap G ps nx (keysOf es) (tosOf es) k (some ⟨P, 0, none⟩) ps.length cap o w ⟨vk, vt, vg, hxo, hgo⟩ hth (by rw [hof]; exact hhk) (by rw [hot, if_neg (by show ¬ Bt.hasKey es k = true; rw [hhk]; simp)]) hlk hlt hoc hok HN
end Go.Proofs.YtjmpekanlmepmaaGreatDoor
