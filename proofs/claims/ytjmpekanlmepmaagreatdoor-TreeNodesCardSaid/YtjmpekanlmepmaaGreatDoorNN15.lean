/- slices.Sort and slices.Compact on rows of the call's own. -/
import Derived.Test.YtjmpekanlmepmaaGreatDoorNN14
set_option linter.all false
set_option maxRecDepth 20000
set_option maxHeartbeats 8000000
open Go.Lib (hid)
namespace Go.Proofs.YtjmpekanlmepmaaGreatDoor
open Go.RowKit
theorem map_block (w : World) (blk k : Nat) (f : Array Value → Array Value) : (Go.Sort.mapBlock w blk f).heap[k]? = if blk = k then (w.heap[k]?).map (Go.Sort.onCells f) else w.heap[k]? := by
 unfold Go.Sort.mapBlock
 simp only [Array.getElem?_modify]
theorem put_take (zs : List Int) (cur : Array Value) (h : zs.length ≤ cur.size) : (Go.Sort.putCells (Value.int .i64) 0 zs.toArray cur).toList.take zs.length = intCells zs := by
 apply List.ext_getElem?
 intro j
 by_cases hj : j < zs.length
 ·rw [List.getElem?_take_of_lt hj]
  have h1 : j < cur.size := by omega
  have hg : zs.toArray[j]! = zs[j] := by rw [getElem!_pos zs.toArray j (by simpa using hj)]; simp
  simp [Go.Sort.putCells, intCells, h1, hj, hg]
 ·rw [List.getElem?_eq_none (by simp; omega), List.getElem?_eq_none (by simp [intCells]; omega)]
theorem put_rest (zs : List Int) (n : Nat) (cur : Array Value) (h : n ≤ zs.length) (h2 : zs.length ≤ cur.size) : (Go.Sort.putCells (Value.int .i64) 0 zs.toArray cur).toList.take n = intCells (zs.take n) := by
 have := congrArg (List.take n) (put_take zs cur h2)
 rw [List.take_take, Nat.min_eq_left h] at this
 rw [this]
 simp [intCells, List.map_take]
theorem put_size {α : Type} [Inhabited α] (enc : α → Value) (o : Nat) (d : Array α) (c : Array Value) : (Go.Sort.putCells enc o d c).size = c.size := by simp [Go.Sort.putCells]
theorem own_holds {w : World} {base g n cap : Nat} {zs : List Int} (h : w.ownsRow base 3 1 (.slice (some ⟨g, 0, none⟩) n cap) n (intCells zs)) : Go.Sort.Holds (Value.int .i64) w g 0 zs.toArray := by
 intro j hj
 have hj' : j < zs.length := by simpa using hj
 have hg : zs.toArray[j]! = zs[j] := by rw [getElem!_pos zs.toArray j hj]; simp
 rw [hg, Nat.zero_add]
 refine ⟨own_cells h j _ (by simp [intCells, hj']), ?_⟩
 rcases h.2 with ⟨h0, _⟩ | ⟨g', cap', cur, hv, _, hc, _⟩
 ·simp at h0
 ·simp only [Value.slice.injEq, Option.some.injEq, Addr.mk.injEq, and_true, true_and] at hv
  obtain ⟨rfl, rfl⟩ := hv
  exact frozen_of_row w g j cur _ hc
theorem sort_own (base g n cap : Nat) (zs : List Int) (w : World) (hn : zs.length = n) (h : w.ownsRow base 3 1 (.slice (some ⟨g, 0, none⟩) n cap) n (intCells zs)) (hsmall : n ≤ 1000000) :
 Calls Tryz.prog 101 #[.slice (some ⟨g, 0, none⟩) n cap] w fun e w' => e = .returned (.tuple #[]) ∧ w'.ownsRow base 3 1 (.slice (some ⟨g, 0, none⟩) n cap) n (intCells (Bt.sortInts zs)) ∧ Over g w w' := by
 subst hn
 have hlt := (own_lt h).2
 refine (Tryz.slices_Sort_int g 0 cap zs w (own_holds h) hlt (by omega)).mono ?_
 rintro e w' ⟨rfl, q, os, rfl⟩
 rw [mergeSort_eq]
 have hl : (Bt.sortInts zs).length = zs.length := (sortInts_perm zs).length_eq
 have hblock : ∀ k, k < w.heap.size → (Go.Sort.grow (Go.Sort.putRow (Value.int .i64) (Go.Sort.ahead w q) g 0 (Bt.sortInts zs).toArray) os).heap[k]? = if g = k then (w.heap[k]?).map (Go.Sort.onCells (Go.Sort.putCells (Value.int .i64) 0 (Bt.sortInts zs).toArray)) else w.heap[k]? := by
  intro k hk
  unfold Go.Sort.grow Go.Sort.putRow
  have hsz : (Go.Sort.mapBlock (Go.Sort.ahead w q) g (Go.Sort.putCells (Value.int .i64) 0 (Bt.sortInts zs).toArray)).heap.size = w.heap.size := by simp [Go.Sort.mapBlock, Go.Sort.ahead]
  rw [Array.getElem?_append_left (by rw [hsz]; exact hk), map_block]
  rfl
 refine ⟨rfl, ⟨by simp [intCells, hl], ?_⟩, ?_⟩
 ·rcases h.2 with ⟨h0, _⟩ | ⟨g', cap', cur, hv, hbase, hc, h1, h2, h3, h4⟩
  ·simp at h0
  ·simp only [Value.slice.injEq, Option.some.injEq, Addr.mk.injEq, and_true, true_and] at hv
   obtain ⟨rfl, rfl⟩ := hv
   refine .inr ⟨g, cap, Go.Sort.putCells (Value.int .i64) 0 (Bt.sortInts zs).toArray cur, rfl, hbase, ?_, h1, h2, by rw [put_size]; exact h3, ?_⟩
   ·rw [hblock g hlt, if_pos rfl, hc]
    rfl
   ·rw [Nat.mul_one, ← hl]
    exact put_take _ _ (by omega)
 ·exact ⟨rfl, rfl, rfl, by simp [Go.Sort.putRow, Go.Sort.mapBlock, Go.Sort.ahead], fun k hk hn => by rw [hblock k hk, if_neg (by intro e; exact hn (by rw [e]))]⟩
theorem compact_own (base g n cap : Nat) (zs : List Int) (w : World) (hn : zs.length = n) (h : w.ownsRow base 3 1 (.slice (some ⟨g, 0, none⟩) n cap) n (intCells zs)) (hsmall : n ≤ 1000000) :
 Calls Tryz.prog 102 #[.slice (some ⟨g, 0, none⟩) n cap] w fun e w' => e = .returned (.slice (some ⟨g, 0, none⟩) (Bt.compact zs).length cap) ∧
  w'.ownsRow base 3 1 (.slice (some ⟨g, 0, none⟩) (Bt.compact zs).length cap) (Bt.compact zs).length (intCells (Bt.compact zs)) ∧ Over g w w' := by
 subst hn
 have hlt := (own_lt h).2
 have hcap := own_cap h
 refine (Tryz.slices_Compact_int g 0 cap zs w (own_holds h) (by omega) hcap.1).mono ?_
 rintro e w' ⟨rfl, q, rfl⟩
 have hle : (Bt.compact zs).length ≤ zs.length := by rw [← compact_lib]; exact Go.Lib.compact_length_le zs
 rw [compact_lib]
 generalize hd : (Bt.compact zs ++ List.replicate (zs.length - (Bt.compact zs).length) 0) = d
 have hdl : d.length = zs.length := by rw [← hd]; simp; omega
 have hdt : d.take (Bt.compact zs).length = Bt.compact zs := by rw [← hd]; simp
 have hblock : ∀ k, k < w.heap.size → (Go.Sort.putRow (Value.int .i64) (Go.Sort.ahead w q) g 0 d.toArray).heap[k]? = if g = k then (w.heap[k]?).map (Go.Sort.onCells (Go.Sort.putCells (Value.int .i64) 0 d.toArray)) else w.heap[k]? := by
  intro k hk
  unfold Go.Sort.putRow
  rw [map_block]
  rfl
 refine ⟨rfl, ⟨by simp [intCells], ?_⟩, ?_⟩
 ·rcases h.2 with ⟨h0, _⟩ | ⟨g', cap', cur, hv, hbase, hc, h1, h2, h3, h4⟩
  ·simp at h0
  ·simp only [Value.slice.injEq, Option.some.injEq, Addr.mk.injEq, and_true, true_and] at hv
   obtain ⟨rfl, rfl⟩ := hv
   refine .inr ⟨g, cap, Go.Sort.putCells (Value.int .i64) 0 d.toArray cur, rfl, hbase, ?_, by omega, h2, by rw [put_size]; exact h3, ?_⟩
   ·rw [hblock g hlt, if_pos rfl, hc]
    rfl
   ·rw [Nat.mul_one, put_rest d _ cur (by omega) (by omega), hdt]
 ·exact ⟨rfl, rfl, rfl, by simp [Go.Sort.putRow, Go.Sort.mapBlock, Go.Sort.ahead], fun k hk hn => by rw [hblock k hk, if_neg (by intro e; exact hn (by rw [e]))]⟩
theorem fail_none (A : Nat → Prop) (op : Bt.Op) (known : List Bt.Page) (vf vk : Value) (s : Bt.St) (b : Nat) (c : Int) (w : World) (h : IsRun A op known vf vk s b w) :
 Calls Tryz.prog 81 #[.pointer (some ⟨b, 0, none⟩), .int .i64 c, .slice none 0 0] w (RunPost A op known vf vk (s.fail c []) b (.bool false) w) := by
 obtain ⟨vn, vw, ve, vc, hr, h1, h2, h3, h4⟩ := h
 have HR := hid hr
 have HA := hid (And.intro h1 (And.intro h2 h3))
 have hlt := hr.blk.lt
 have k11 : w.cell? ⟨b, 11, none⟩ = some (.int .i64 s.out.code) := hr.blk.cell 11
 have k21 : w.cell? ⟨b, 21, none⟩ = some vc := hr.blk.cell 21
 have f9 := hr.blk.free
 clear hr h1 h2 h3 h4
 go_enter Tryz.func81, Tryz.ntmps81
 go_wp2_with fail
 go_at_call 101; refine (Tryz.slices_Sort_int_none none 0 _).mono ?_; rintro e w1 ⟨rfl, hw⟩; obtain rfl : w = w1 := hw.symm; clear hw
 go_wp2_with fail
 go_at_call 102; refine (Tryz.slices_Compact_int_empty none 0 _).mono ?_; rintro e w2 ⟨rfl, hw⟩; obtain rfl : w = w2 := hw.symm; clear hw
 go_wp2_with fail
 go_ret
 have hr := HR.out
 refine ⟨rfl, ⟨vn, vw, ve, .slice none 0 0, ?_, fun c hc => .inl (HA.out.1 c hc), fun c hc => .inl (HA.out.2.1 c hc), fun c hc => .inl (HA.out.2.2 c hc), fun c hc => by simp [Value.ownBlock] at hc⟩, qV⟩
 have ho : Over b w ((w.setCell ⟨b, 11, none⟩ (.int .i64 c)).setCell ⟨b, 21, none⟩ (.slice none 0 0)) := qV
 exact ⟨((hr.blk.put 11 _).put 21 _).cast rfl, hr.known.over ho hr.apart, hr.apart, hr.fresh.over ho hr.apartf, hr.apartf,
  own_over hr.need ho (by omega), own_over hr.writes ho (by omega), own_over hr.ents ho (by omega), World.ownsRow_nil _ _ _ _, hr.none.over ho hr.pos, hr.pos⟩
structure OverTwo (b g : Nat) (w w' : World) : Prop where
 os : w'.os = w.os
 tape : w'.tape = w.tape
 output : w'.output = w.output
 size : w.heap.size ≤ w'.heap.size
 block : ∀ k, k < w.heap.size → k ≠ b → k ≠ g → w'.heap[k]? = w.heap[k]?
theorem Over.two {b g : Nat} {w0 w w' : World} (h : Over b w0 w) (h2 : OverTwo b g w w') (hg : w0.heap.size ≤ g) : Over b w0 w' :=
 ⟨h2.os.trans h.os, h2.tape.trans h.tape, h2.output.trans h.output, Nat.le_trans h.size h2.size, fun k hk hn => (h2.block k (Nat.lt_of_lt_of_le hk h.size) (by intro e; exact hn (by rw [e])) (by omega)).trans (h.block k hk hn)⟩
theorem PgRow.two {w w' : World} {v : Value} {l : List Bt.Page} {b g : Nat} (h : PgRow w v l) (ho : OverTwo b g w w') (hb : ∀ c n m, v = .slice (some ⟨c, 0, none⟩) n m → c < b) (hg : b < g) : PgRow w' v l := by
 refine ⟨h.ok, h.len, ?_⟩
 rcases h.form with h1 | ⟨c, cap, hv, hlt, hcells⟩
 ·exact .inl h1
 ·have hcb := hb c _ _ hv
  have hk := ho.block c hlt (by omega) (by omega)
  exact .inr ⟨c, cap, hv, Nat.lt_of_lt_of_le hlt ho.size, fun i p hi j u hu => by
   have := hcells i p hi j u hu
   simpa only [World.cell?, hk] using this⟩
theorem NoneAt.two {w w' : World} {b g : Nat} (h : NoneAt w) (ho : OverTwo b g w w') (hb : 0 < b) (hg : b < g) : NoneAt w' := by
 have hk := ho.block 0 h.lt (by omega) (by omega)
 refine ⟨?_, ?_, Nat.lt_of_lt_of_le h.lt ho.size⟩
 ·have := h.c0; simpa only [World.cell?, hk] using this
 ·have := h.c1; simpa only [World.cell?, hk] using this
theorem own_two {w w' : World} {base n size b g : Nat} {e : TypeId} {v : Value} {xs : List Value} (h : w.ownsRow base e size v n xs) (ho : OverTwo b g w w') (hb : b < base) (hd : v.ownBlock ≠ some g) : w'.ownsRow base e size v n xs := by
 refine ⟨h.1, ?_⟩
 rcases h.2 with h1 | ⟨c, cap, cur, hv, hbase, hc, h1, h2, h3, h4⟩
 ·exact .inl h1
 ·subst hv
  simp [Value.ownBlock] at hd
  exact .inr ⟨c, cap, cur, rfl, hbase, (ho.block c (Array.getElem?_eq_some_iff.1 hc).1 (by omega) hd).trans hc, h1, h2, h3, h4⟩
def FailPost (op : Bt.Op) (known : List Bt.Page) (vf vk : Value) (s : Bt.St) (b g : Nat) (vn vw ve : Value) (w : World) (e : Ending) (w' : World) : Prop :=
 e = .returned (.bool false) ∧ (∃ m cap, RunAt op known vf vk s b vn vw ve (.slice (some ⟨g, 0, none⟩) m cap) w') ∧ OverTwo b g w w'
theorem fail_some (op : Bt.Op) (known : List Bt.Page) (vf vk : Value) (s : Bt.St) (b g n cap : Nat) (vn vw ve vc : Value) (check : List Int) (c : Int) (w : World) (hr : RunAt op known vf vk s b vn vw ve vc w)
 (hq : w.ownsRow (b + 1) 3 1 (.slice (some ⟨g, 0, none⟩) n cap) n (intCells check)) (hn : check.length = n) (hsmall : n ≤ 1000000) (d1 : vn.ownBlock ≠ some g) (d2 : vw.ownBlock ≠ some g) (d3 : ve.ownBlock ≠ some g) :
 Calls Tryz.prog 81 #[.pointer (some ⟨b, 0, none⟩), .int .i64 c, .slice (some ⟨g, 0, none⟩) n cap] w (FailPost op known vf vk (s.fail c check) b g vn vw ve w) := by
 have HR := hid hr
 have HQ := hid hq
 have HN := hid hn
 have hgb := (own_lt hq).1
 have hcap := own_cap hq
 have hsl : (Bt.sortInts check).length = n := by rw [(sortInts_perm check).length_eq]; exact hn
 have HSL := hid hsl
 clear hr hq hn hsl
 go_enter Tryz.func81, Tryz.ntmps81
 go_wp2_with fail
 go_at_call 101; refine (sort_own (b + 1) g n cap check _ HN.out HQ.out hsmall).mono ?_
 rintro e w1 ⟨rfl, hown1, ho1⟩
 have HO1 := hid ho1
 have HW1 := hid hown1
 clear hown1 ho1
 go_wp2_with fail
 go_at_call 102; refine (compact_own (b + 1) g n cap (Bt.sortInts check) _ HSL.out HW1.out hsmall).mono ?_
 rintro e w2 ⟨rfl, hown2, ho2⟩
 have HB2 := hid ((HR.out.blk.grown HO1.out (by simp; omega)).grown ho2 (by simp; omega))
 have HO2 := hid (HO1.out.trans ho2)
 have HW2 := hid hown2
 have k11 : w2.cell? ⟨b, 11, none⟩ = some (.int .i64 s.out.code) := HB2.out.cell 11
 have k21 : w2.cell? ⟨b, 21, none⟩ = some vc := HB2.out.cell 21
 have f9 := HB2.out.free
 clear hown2 ho2
 go_wp2_with fail
 go_ret
 have hr := HR.out
 have ho2 := HO2.out
 have ht : OverTwo b g w ((w2.setCell ⟨b, 11, none⟩ (.int .i64 c)).setCell ⟨b, 21, none⟩ (.slice (some ⟨g, 0, none⟩) (Bt.compact (Bt.sortInts check)).length cap)) :=
  ⟨ho2.os, ho2.tape, ho2.output, by simpa [World.setCell] using ho2.size, fun k hk hn hg => by
   rw [heap_setCell_other _ _ k _ (by exact hn), heap_setCell_other _ _ k _ (by exact hn)]
   exact ho2.block k hk (by simpa using hg)⟩
 refine ⟨rfl, ⟨(Bt.compact (Bt.sortInts check)).length, cap, ?_⟩, ht⟩
 exact ⟨((HB2.out.put 11 _).put 21 _).cast rfl, hr.known.two ht hr.apart (by omega), hr.apart, hr.fresh.two ht hr.apartf (by omega), hr.apartf,
  own_two hr.need ht (by omega) d1, own_two hr.writes ht (by omega) d2, own_two hr.ents ht (by omega) d3, own_aside (own_aside HW2.out (by show b < b + 1; omega) _) (by show b < b + 1; omega) _, hr.none.two ht hr.pos (by omega), hr.pos⟩
end Go.Proofs.YtjmpekanlmepmaaGreatDoor
