/- PlannerCounts, walked: the job and the fabric. -/
import Derived.Test.YtoidjgongafnkaaGreatDoorWFn
import Derived.Test.YtoidjgongafnkaaGreatDoorWFj
import Derived.Test.YtoidjgongafnkaaGreatDoorQj
set_option linter.unusedVariables false
set_option linter.unusedSimpArgs false
set_option linter.unusedSectionVars false
set_option linter.constructorNameAsVariable false
namespace Go.Proofs.YtoidjgongafnkaaGreatDoor
open Go.RowKit

theorem infoPg : (Tryz.prog.info? 36).map (fun i => (i.zero, i.size, i.bytes)) = some (some (.agg #[.int .i64 0, .int .u64 0, .int .u64 0, .int .u64 0, .int .u64 0, .int .u64 0, .int .u64 0, .int .u64 0, .int .u64 0]), 9, 72) := by kernel_rfl
theorem infoSn : (Tryz.prog.info? 38).map (fun i => (i.zero, i.size, i.bytes)) = some (some (.agg #[.int .i64 0, .int .u64 0]), 2, 16) := by kernel_rfl
theorem infoDns : (Tryz.prog.info? 50).map (fun i => (i.zero, i.size, i.bytes)) = some (some (.slice none 0 0), 1, 24) := by kernel_rfl
theorem own_mod {S : Nat → Prop} {w w' : World} {base n size : Nat} {e : TypeId} {v : Value} {xs : List Value} (h : w.ownsRow base e size v n xs) (hm : Mod S w w') (hs : ∀ k, S k → k < base) : w'.ownsRow base e size v n xs := by
  refine ⟨h.1, ?_⟩
  rcases h.2 with h1 | ⟨g, cap, cur, hv, hbase, hc, h1, h2, h3, h4⟩
  · exact .inl h1
  · exact .inr ⟨g, cap, cur, hv, hbase, (hm.block g (Array.getElem?_eq_some_iff.1 hc).1 (fun e => by have := hs g e; omega)).trans hc, h1, h2, h3, h4⟩
theorem own_mod' {S : Nat → Prop} {w w' : World} {base n size : Nat} {e : TypeId} {v : Value} {xs : List Value} (h : w.ownsRow base e size v n xs) (hm : Mod S w w') (hs : ∀ k, S k → k < base ∨ ∃ t' cs', Blk w k t' cs' ∧ t' ≠ e) : w'.ownsRow base e size v n xs := by
  refine ⟨h.1, ?_⟩
  rcases h.2 with h1 | ⟨g, cap, cur, hv, hbase, hc, h1, h2, h3, h4⟩
  · exact .inl h1
  · refine .inr ⟨g, cap, cur, hv, hbase, (hm.block g (Array.getElem?_eq_some_iff.1 hc).1 (fun e' => ?_)).trans hc, h1, h2, h3, h4⟩
    rcases hs g e' with h | ⟨t', cs', hb, ht⟩
    · omega
    · exact ht ((show Blk w g e cur from hc).type hb).1.symm
theorem own_rowblk {w : World} {base n size : Nat} {e : TypeId} {v : Value} {xs : List Value} (h : w.ownsRow base e size v n xs) : ∀ k, some k = v.ownBlock → ∃ cs, Blk w k e cs := by
  intro k hk
  rcases h.2 with ⟨rfl, _⟩ | ⟨g, cap, cur, rfl, _, hc, _⟩
  · simp [Value.ownBlock] at hk
  · simp only [Value.ownBlock, Option.some.injEq] at hk
    subst hk
    exact ⟨cur, hc⟩
theorem mod_grown {w w' : World} {row : Option Nat} (h : w.grownBy w' row) : Mod (fun k => some k = row) w w' := ⟨h.os, h.tape, h.output, h.size, fun k hk hn => h.block k hk hn⟩
theorem Mod.grown {S : Nat → Prop} {W w1 w2 : World} {row : Option Nat} (h : Mod S W w1) (hg : w1.grownBy w2 row) (hr : ∀ k, row = some k → W.heap.size ≤ k) : Mod S W w2 :=
  ⟨hg.os.trans h.os, hg.tape.trans h.tape, hg.output.trans h.output, Nat.le_trans h.size hg.size, fun k hk hn => (hg.block k (Nat.lt_of_lt_of_le hk h.size) (fun e => by
    have := hr k e.symm
    omega)).trans (h.block k hk hn)⟩
theorem over_below {b : Nat} {w w1 w2 : World} (h : Below w.heap.size w w1) (ho : Over b w1 w2) (hb : w.heap.size ≤ b) : Below w.heap.size w w2 :=
  ⟨ho.os.trans h.os, ho.tape.trans h.tape, ho.output.trans h.output, Nat.le_trans h.size ho.size, fun k hk => (ho.block k (Nat.lt_of_lt_of_le hk h.size) (fun e => by injection e with e; omega)).trans (h.block k hk)⟩
theorem JobAt.mod {S : Nat → Prop} {w w' : World} {lo m r k : Nat} {vm vr vw : Value} (h : JobAt w lo m r k vm vr vw) (hm : Mod S w w') (hs : ∀ b, S b → b < lo ∨ ∃ t' cs', Blk w b t' cs' ∧ t' ≠ 75 ∧ t' ≠ 38 ∧ t' ≠ 36) : JobAt w' lo m r k vm vr vw := by
  have h1 : ∀ b, S b → b < lo ∨ ∃ t' cs', Blk w b t' cs' ∧ t' ≠ 75 := fun b hb => (hs b hb).imp id (fun ⟨t', cs', a, b, c, d⟩ => ⟨t', cs', a, b⟩)
  have h2 : ∀ b, S b → b < lo ∨ ∃ t' cs', Blk w b t' cs' ∧ t' ≠ 38 := fun b hb => (hs b hb).imp id (fun ⟨t', cs', a, b, c, d⟩ => ⟨t', cs', a, c⟩)
  have h3 : ∀ b, S b → b < lo ∨ ∃ t' cs', Blk w b t' cs' ∧ t' ≠ 36 := fun b hb => (hs b hb).imp id (fun ⟨t', cs', a, b, c, d⟩ => ⟨t', cs', a, d⟩)
  exact ⟨own_mod' h.mem hm h1, own_mod' h.reads hm h2, own_mod' h.writes hm h3, h.m1, h.m4, h.r4, h.k4⟩
/-- Nothing of a fabric lies in rows of completions. -/
theorem Geo.Off.mod {S : Nat → Prop} {g : Geo} {w w' : World} {B : Nat} {s : Cm.St} (h : g.Off w B s) (hm : Mod S w w') (hs : ∀ k, S k → ∃ cs, Blk w k 50 cs) : g.Off w' B s := by
  obtain ⟨hat, hcl, hpr, hms⟩ := h
  obtain ⟨csn, hnd, -⟩ := hat.nodes
  obtain ⟨csl, hlv, -⟩ := hat.live
  obtain ⟨-, csp, hpp, -⟩ := id hpr
  obtain ⟨csc, _, _, hcb, -⟩ := id hcl
  refine ⟨hat.mod hm (fun e => ?_) (fun e => ?_) (fun e => ?_), hcl.mod hm (fun e => ?_), hpr.mod hm (fun e => ?_) (fun k hk => ?_), hms.mod hm (fun b hb e => ?_)⟩
  · obtain ⟨cs, h⟩ := hs _ e; exact hat.fab.ne h (by decide) rfl
  · obtain ⟨cs, h⟩ := hs _ e; exact hnd.ne h (by decide) rfl
  · obtain ⟨cs, h⟩ := hs _ e; exact hlv.ne h (by decide) rfl
  · obtain ⟨cs, h⟩ := hs _ e; exact hcb.ne h (by decide) rfl
  · obtain ⟨cs, h⟩ := hs _ e; exact hpp.ne h (by decide) rfl
  · obtain ⟨cs, h⟩ := hs _ hk; exact .inr ⟨_, _, h, by decide, by decide⟩
  · obtain ⟨cs, h⟩ := hs _ e
    obtain ⟨i, hi, hk2⟩ := List.mem_iff_getElem.1 hb
    have hk3 : g.mb[i]? = some b := by rw [List.getElem?_eq_getElem hi, hk2]
    obtain ⟨m2, hm2⟩ : ∃ m2, s.mem[i]? = some m2 := ⟨_, List.getElem?_eq_getElem (by rw [hms.1]; exact hi)⟩
    exact (hms.2 i _ m2 hk3 hm2).ne h (by decide) rfl
theorem pgCells_succ (j : Nat) : pgCells (j + 1) = pgCells j ++ (pgVals (96 + (j : Int))).toList := by simp [pgCells, List.range_succ]
theorem seenCells_succ (j : Nat) : seenCells (j + 1) = seenCells j ++ [.int .i64 (101 + (j : Int)), .int .u64 256] := by simp [seenCells, List.range_succ]
/-- The job while its writes are laid down, and while its reads are. -/
def WrLoop2 (W : World) (b n B : Nat) (vm : Value) (iv : Value) (wr : World) : Prop :=
  ∃ j : Nat, j ≤ n ∧ iv = .int .i64 j ∧ Hid (∃ v, Blk wr b 32 (jobCells vm (.slice none 0 0) v) ∧ wr.ownsRow W.heap.size 36 9 v j (pgCells j) ∧ Over b W wr)
def RdLoop (W : World) (b n : Nat) (vm vw : Value) (iv : Value) (wr : World) : Prop :=
  ∃ j : Nat, j ≤ n ∧ iv = .int .i64 j ∧ Hid (∃ v, Blk wr b 32 (jobCells vm v vw) ∧ wr.ownsRow W.heap.size 38 2 v j (seenCells j) ∧ Over b W wr)
/-- The trips. -/
structure TripSt (g : Geo) (B M K R b : Nat) (vm vr vw : Value) (i : Nat) (vg : Value) (s : Cm.St) (W wr : World) : Prop where
  hi : i ≤ (Cm.asks (M + 1) K R 0).length
  job : JobAt wr B (M + 1) R K vm vr vw
  blk : Blk wr b 32 (jobCells vm vr vw)
  off : g.Off wr B s
  got : ∃ vs, wr.ownsRow W.heap.size 50 1 vg i vs ∧ ∀ (j : Nat) gr, ((replies (Cm.asks (M + 1) K R 0)).take i)[j]? = some gr → ∃ u, vs[j]? = some u ∧ DonesAt wr B u gr
  plays : ∀ c, Cm.plays2 s ((Cm.asks (M + 1) K R c).drop i) = true
  mod : Mod g.own W wr
def TrLoop (g : Geo) (B M K R b : Nat) (vm vr vw : Value) (W : World) (tv nv vg : Value) (wr : World) : Prop :=
  ∃ i : Nat, i ≤ 5 ∧ tv = .int .i64 i ∧ nv = .int .i64 (((lens (Cm.asks (M + 1) K R 0)).take i).sum : Nat) ∧ Hid (∃ s, TripSt g B M K R b vm vr vw i vg s W wr)
def LawPost (w : World) (e : Ending) (w' : World) : Prop := e = .returned (.bool true) ∧ Below w.heap.size w w'

set_option maxRecDepth 10000 in
set_option maxHeartbeats 4000000 in
theorem law_walk (m r k : Int) (w : World) (hAw : ∀ w, Calls Tryz.prog 10 #[] w fun e w' => e = .returned (.bool true) ∧ Below w.heap.size w w') :
    Calls Tryz.prog 3 #[.int .i64 m, .int .i64 r, .int .i64 k] w (LawPost w) := by
  obtain ⟨i0, hi, hz0, hz1, hz2⟩ := info_parts infoPg
  obtain ⟨j0, hj, hy0, hy1, hy2⟩ := info_parts infoSn
  obtain ⟨k0, hk, hx0, hx1, hx2⟩ := info_parts infoDns
  have HAw := Lib.hid hAw
  obtain ⟨M, hM4, hM⟩ : ∃ M : Nat, M < 4 ∧ m % 4 = M := ⟨(m % 4).toNat, by omega, by omega⟩
  obtain ⟨R, hR4, hR⟩ : ∃ R : Nat, R ≤ 4 ∧ r % 5 = R := ⟨(r % 5).toNat, by omega, by omega⟩
  obtain ⟨K, hK4, hK⟩ : ∃ K : Nat, K ≤ 4 ∧ k % 5 = K := ⟨(k % 5).toNat, by omega, by omega⟩
  have HP1 : Hid (∀ w, Calls Tryz.prog 4 #[.int .i64 m, .int .i64 4] w fun e w' => e = .returned (.int .i64 (M : Nat)) ∧ w = w') := Lib.hid (fun w => by have := pick_any m 4 (by omega) (by omega) w; rwa [hM] at this)
  have HP2 : Hid (∀ w, Calls Tryz.prog 4 #[.int .i64 r, .int .i64 5] w fun e w' => e = .returned (.int .i64 (R : Nat)) ∧ w = w') := Lib.hid (fun w => by have := pick_any r 5 (by omega) (by omega) w; rwa [hR] at this)
  have HP3 : Hid (∀ w, Calls Tryz.prog 4 #[.int .i64 k, .int .i64 5] w fun e w' => e = .returned (.int .i64 (K : Nat)) ∧ w = w') := Lib.hid (fun w => by have := pick_any k 5 (by omega) (by omega) w; rwa [hK] at this)
  have hw1 : IntKind.i64.wrap ((M : Int) + 1) = ((M + 1 : Nat) : Int) := by rw [IntKind.wrap_i64]; omega
  clear hM hR hK hAw
  obtain ⟨M1, hM1⟩ : ∃ M1, M1 = M + 1 := ⟨_, rfl⟩
  rw [← hM1] at hw1
  have HM1 := Lib.hid hM1
  have hM1a : 1 ≤ M1 := by omega
  have hM1b : M1 ≤ 4 := by omega
  clear hM1
  go_enter Tryz.func3, Tryz.ntmps3
  go_wp2_with fail
  go_at_call 4
  refine (HP1.out _).mono ?_
  rintro e w1 ⟨rfl, rfl⟩
  go_wp2_with fail
  go_at_call 4
  refine (HP2.out _).mono ?_
  rintro e w1 ⟨rfl, rfl⟩
  go_wp2_with fail
  go_at_call 4
  refine (HP3.out _).mono ?_
  rintro e w1 ⟨rfl, rfl⟩
  go_wp2_with fail
  go_at_call 5
  refine (new_ok M1 _ hM1a hM1b).mono ?_
  rintro e w2 ⟨g0, rfl, hpre, hb2, hg1, hg2, hg3⟩
  obtain ⟨x, hx⟩ : ∃ x : Int, ∀ w, Calls Tryz.prog 30 #[.int .i64 M1] w fun e w' => e = .returned (.tuple #[.int .u64 x, .int .i64 0]) ∧ w = w' := by
    obtain ⟨x, hx⟩ := initVal_any M hM4
    refine ⟨x, fun w => ?_⟩
    rw [HM1.out]
    exact hx w
  have HG0 := Lib.hid (And.intro hpre (And.intro hb2 (And.intro hg1 (And.intro hg2 hg3))))
  have HF := Lib.hid (fun w => formatted_ok M1 x w hx)
  clear hpre hb2 hg1 hg2 hg3 hx
  go_wp2_with fail
  go_at_call 6
  refine (format_ok g0 M1 _ _ hM1a hM1b HG0.out.1 HF.out).mono ?_
  rintro e w3 ⟨rfl, mb, hmb, hoff, hm3, hmbs⟩
  have HG := Lib.hid (And.intro hmb (And.intro hoff (And.intro hm3 hmbs)))
  clear hmb hoff hm3 hmbs
  go_wp2_with fail
  go_at_call 7
  refine (start_ok M1 _ hM1a hM1b).mono ?_
  rintro e w4 ⟨⟨vm, rfl, hown4⟩, hb4⟩
  obtain ⟨pm, cm, rfl⟩ := own_shape hown4
  have HS := Lib.hid (And.intro hown4 hb4)
  clear hown4 hb4
  go_wp2_with fail
  have BJ : Blk (w4.alloc (.cells #[.int .i64 0, .int .i64 1, .int .i64 108, .int .i64 0, .slice pm M1 cm, .slice none 0 0, .slice none 0 0] 32)) w4.heap.size 32 (jobCells (.slice pm M1 cm) (.slice none 0 0) (.slice none 0 0)) := Blk.made _ _ _
  have hb5 : Below w4.heap.size w4 (w4.alloc (.cells #[.int .i64 0, .int .i64 1, .int .i64 108, .int .i64 0, .slice pm M1 cm, .slice none 0 0, .slice none 0 0] 32)) := by (repeat (first | with_reducible exact Below.refl _ _ | with_reducible assumption | with_reducible refine Below.setCell ?_ (by first | (simp; done) | (simp; omega)) _ | with_reducible refine below_alloc ?_ _ | with_reducible refine below_drewN ?_ _ | with_reducible refine Below.drew ?_ | with_reducible refine below_step ?_ (by assumption)))
  have hs5 : w4.heap.size < (w4.alloc (.cells #[.int .i64 0, .int .i64 1, .int .i64 108, .int .i64 0, .slice pm M1 cm, .slice none 0 0, .slice none 0 0] 32)).heap.size := by simp
  generalize hW5 : World.alloc w4 _ = w5 at *
  have HJ := Lib.hid (And.intro BJ hb5)
  clear hW5 BJ hb5
  go_loopw [10] (fun iv wr => WrLoop2 w5 w4.heap.size K 0 (.slice pm M1 cm) iv wr) (fun iv _ => ((K : Int) - intOf iv).toNat)
  case atStart => exact ⟨0, by omega, rfl, Lib.hid ⟨_, HJ.out.1, (World.ownsRow_nil _ _ _ _ : w5.ownsRow w5.heap.size 36 9 (.slice none 0 0) 0 []), Over.refl _ _⟩⟩
  case round =>
    obtain ⟨j, hj9, rfl, H⟩ := hrel
    obtain ⟨v, hb, hown, ho⟩ := H.out
    obtain ⟨pv, cv, rfl⟩ := own_shape hown
    have hsz := ho.size
    unfold jobCells at hb
    have kb := hb.cell
    have fb := hb.free
    have lb := hb.lt
    have HX := Lib.hid (And.intro hb (And.intro hown ho))
    clear H hb hown ho
    by_cases hj2 : j < K
    · have b1 : decide ((j : Int) < K) = true := by simp; omega
      have hw96 : IntKind.i64.wrap (96 + (j : Int)) = 96 + (j : Int) := by rw [IntKind.wrap_i64]; omega
      go_wp2_with (at_builtin; refine halt ?_)
      refine unhalt ?_
      refine wpList_append_mine rfl (.tmp 41) (.tmp 45) 30 rfl w5.heap.size 36 i0 _ 9 72 Tryz.underlying30 hi hz0 hz1 hz2 rfl (by decide) (.slice pv j cv) j (pgCells j) rfl
        (own_below HX.out.2.1 (below_alloc (Below.refl _ _) _)) ⟨wr.heap.size, 0, none⟩ 1 1 (#[.int .i64 (96 + (j : Int)), .int .u64 256, .int .u64 0, .int .u64 0, .int .u64 0, .int .u64 0, .int .u64 0, .int .u64 0, .int .u64 0] : Array Value).toList rfl rfl (lit_news (o := 0) (cs := #[.int .i64 (96 + (j : Int)), .int .u64 256, .int .u64 0, .int .u64 0, .int .u64 0, .int .u64 0, .int .u64 0, .int .u64 0, .int .u64 0]) (Blk.made _ _ _))
        (by intro u hu; simp at hu; rcases hu with rfl | rfl | rfl | rfl | rfl | rfl | rfl | rfl | rfl <;> rfl) (by omega) (by unfold maxLen; omega) (by omega) (by simp; omega) ?_
      intro g6 c6 w6 hown6 hg6
      have hown0 := own_below HX.out.2.1 (below_alloc (Below.refl wr.heap.size wr) (.cells #[.int .i64 (96 + (j : Int)), .int .u64 256, .int .u64 0, .int .u64 0, .int .u64 0, .int .u64 0, .int .u64 0, .int .u64 0, .int .u64 0] 36))
      have B6 := (HX.out.1.alloc (.cells #[.int .i64 (96 + (j : Int)), .int .u64 256, .int .u64 0, .int .u64 0, .int .u64 0, .int .u64 0, .int .u64 0, .int .u64 0, .int .u64 0] 36)).grown hg6 (own_ne hown0 (by omega))
      have ho6 := Over.grown2 (HX.out.2.2.alloc (.cells #[.int .i64 (96 + (j : Int)), .int .u64 256, .int .u64 0, .int .u64 0, .int .u64 0, .int .u64 0, .int .u64 0, .int .u64 0, .int .u64 0] 36)) hg6 (fun k hk => own_row_ge hown0 k hk)
      have hg6b := (own_blk hown6).1
      have k6 := B6.cell
      have f6 := B6.free
      have l6 := B6.lt
      have HN : Hid (WrLoop2 w5 w4.heap.size K 0 (.slice pm M1 cm) (.int .i64 ((j + 1 : Nat) : Int)) (w6.setCell ⟨w4.heap.size, 6, none⟩ (.slice (some ⟨g6, 0, none⟩) (j + 1) c6))) := Lib.hid ⟨j + 1, by omega, rfl, Lib.hid ⟨_, (B6.put 6 (.slice (some ⟨g6, 0, none⟩) (j + 1) c6)).cast rfl, own_set (own_cast hown6 rfl (pgCells_succ j).symm) (by simp [Value.ownBlock]; omega) _, ho6.put 6 _⟩⟩
      clear kb fb lb hown6 hg6 hown0 B6 ho6
      go_wp2_with fail
      have := HN.out
      exact ⟨by simpa using this, by simp [intOf]; omega⟩
    · have e : K = j := by omega
      subst e
      have b1 : ¬ (K : Int) < K := by omega
      obtain ⟨w7, hw7, H7⟩ : ∃ w7, w7 = wr ∧ Hid (Blk w7 w4.heap.size 32 (jobCells (.slice pm M1 cm) (.slice none 0 0) (.slice pv K cv)) ∧ w7.ownsRow w5.heap.size 36 9 (.slice pv K cv) K (pgCells K) ∧ Over w4.heap.size w5 w7) := ⟨wr, rfl, HX⟩
      subst hw7
      clear kb fb lb HX
      go_wp2_with fail
      go_loopw [11] (fun iv wr => RdLoop w7 w4.heap.size R (.slice pm M1 cm) (.slice pv K cv) iv wr) (fun iv _ => ((R : Int) - intOf iv).toNat)
      case atStart => exact ⟨0, by omega, rfl, Lib.hid ⟨_, H7.out.1, (World.ownsRow_nil _ _ _ _ : w7.ownsRow w7.heap.size 38 2 (.slice none 0 0) 0 []), Over.refl _ _⟩⟩
      case round =>
        obtain ⟨j, hj9, rfl, H⟩ := hrel
        obtain ⟨v, hb, hown, ho⟩ := H.out
        obtain ⟨pr, cr, rfl⟩ := own_shape hown
        have hsz8 := ho.size
        unfold jobCells at hb
        have kb := hb.cell
        have fb := hb.free
        have lb := hb.lt
        have HX := Lib.hid (And.intro hb (And.intro hown ho))
        clear H hb hown ho
        by_cases hj2 : j < R
        · have b1 : decide ((j : Int) < R) = true := by simp; omega
          have hw101 : IntKind.i64.wrap (101 + (j : Int)) = 101 + (j : Int) := by rw [IntKind.wrap_i64]; omega
          go_wp2_with (at_builtin; refine halt ?_)
          refine unhalt ?_
          refine wpList_append_mine rfl (.tmp 54) (.tmp 58) 29 rfl w7.heap.size 38 j0 _ 2 16 Tryz.underlying29 hj hy0 hy1 hy2 rfl (by decide) (.slice pr j cr) j (seenCells j) rfl
            (own_below HX.out.2.1 (below_alloc (Below.refl _ _) _)) ⟨wr.heap.size, 0, none⟩ 1 1 [.int .i64 (101 + (j : Int)), .int .u64 256] rfl rfl (lit_news (o := 0) (cs := #[.int .i64 (101 + (j : Int)), .int .u64 256]) (Blk.made _ _ _))
            (by intro u hu; simp at hu; rcases hu with rfl | rfl <;> rfl) (by omega) (by unfold maxLen; omega) (by omega) (by simp; omega) ?_
          intro g6 c6 w6 hown6 hg6
          have hown0 := own_below HX.out.2.1 (below_alloc (Below.refl wr.heap.size wr) (.cells #[.int .i64 (101 + (j : Int)), .int .u64 256] 38))
          have B6 := (HX.out.1.alloc (.cells #[.int .i64 (101 + (j : Int)), .int .u64 256] 38)).grown hg6 (own_ne hown0 (by omega))
          have ho6 := Over.grown2 (HX.out.2.2.alloc (.cells #[.int .i64 (101 + (j : Int)), .int .u64 256] 38)) hg6 (fun k hk => own_row_ge hown0 k hk)
          have hg6b := (own_blk hown6).1
          have k6 := B6.cell
          have f6 := B6.free
          have l6 := B6.lt
          have HN : Hid (RdLoop w7 w4.heap.size R (.slice pm M1 cm) (.slice pv K cv) (.int .i64 ((j + 1 : Nat) : Int)) (w6.setCell ⟨w4.heap.size, 5, none⟩ (.slice (some ⟨g6, 0, none⟩) (j + 1) c6))) := Lib.hid ⟨j + 1, by omega, rfl, Lib.hid ⟨_, (B6.put 5 (.slice (some ⟨g6, 0, none⟩) (j + 1) c6)).cast rfl, own_set (own_cast hown6 rfl (seenCells_succ j).symm) (by simp [Value.ownBlock]; omega) _, ho6.put 5 _⟩⟩
          clear kb fb lb hown6 hg6 hown0 B6 ho6
          go_wp2_with fail
          have := HN.out
          exact ⟨by simpa using this, by simp [intOf]; omega⟩
        · have e : R = j := by omega
          subst e
          have b1 : ¬ (R : Int) < R := by omega
          obtain ⟨w8, hw8, H8⟩ : ∃ w8, w8 = wr ∧ Hid (Blk w8 w4.heap.size 32 (jobCells (.slice pm M1 cm) (.slice pr R cr) (.slice pv K cv)) ∧ w8.ownsRow w7.heap.size 38 2 (.slice pr R cr) R (seenCells R) ∧ Over w4.heap.size w7 w8) := ⟨wr, rfl, HX⟩
          subst hw8
          clear kb fb lb HX b1
          go_wp2_with fail
          obtain ⟨g, hg⟩ : ∃ g : Geo, g = { g0 with mb := mb } := ⟨_, rfl⟩
          obtain ⟨B, hB⟩ : ∃ B, B = w3.heap.size := ⟨_, rfl⟩
          have H48 : Hid (Below w3.heap.size w3 w8) := Lib.hid (by
            have h1 := HS.out.2
            have h2 := over_below (below_step h1 HJ.out.2) H7.out.2.2 h1.size
            exact over_below h2 H8.out.2.2 h1.size)
          have HOf : Hid (g.Off w8 B (Cm.start M1 (bits BinOp.or IntKind.u64 4504699138998272 x))) := Lib.hid (by
            rw [hg, hB]
            exact HG.out.2.1.below H48.out)
          have HJb : Hid (JobAt w8 B (M + 1) R K (.slice pm M1 cm) (.slice pr R cr) (.slice pv K cv)) := Lib.hid (by
            rw [← HM1.out, hB]
            have h1 := HS.out.2
            have h2 := own_below HS.out.1 HJ.out.2
            have h3 := own_held h2 H7.out.2.2 (fun c hc hh => by
              have := own_lt' HS.out.1 c hc
              injection hh with hh
              omega)
            have h4 := own_held h3 H8.out.2.2 (fun c hc hh => by
              have := own_lt' HS.out.1 c hc
              injection hh with hh
              omega)
            have h5 := own_held H7.out.2.1 H8.out.2.2 (fun c hc hh => by
              have := own_row_ge H7.out.2.1 c hc
              injection hh with hh
              omega)
            have s1 := h1.size
            have s2 := HJ.out.2.size
            have s3 := H7.out.2.2.size
            exact ⟨h4, own_base H8.out.2.1 (by omega), own_base h5 (by omega), by omega, by omega, by omega, by omega⟩)
          have hBb : B ≤ w4.heap.size := by have := HS.out.2.size; omega
          have HM8 : Hid (Mod (fun k => w.heap.size ≤ k) w w8 ∧ ∀ k, g.own k → w.heap.size ≤ k) := Lib.hid (by
            obtain ⟨hmb, -, hm3, hmbs⟩ := HG.out
            have h2 := HG0.out.2.1
            refine ⟨((Mod.of_below h2).trans (hm3.imp (fun k hk => ?_))).trans (Mod.of_below H48.out), fun k hk => ?_⟩
            · have := HG0.out.2.2.1
              omega
            · have a1 := HG0.out.2.2.2.1
              have a2 := HG0.out.2.2.2.2
              rw [hg] at hk
              rcases hk with hk | hk | hk
              · exact hk ▸ a2
              · exact hk ▸ a1
              · have := hmbs k hk
                have := h2.size
                omega)
          have HSt : Hid (TripSt g B M K R w4.heap.size (.slice pm M1 cm) (.slice pr R cr) (.slice pv K cv) 0 (.slice none 0 0) (Cm.start M1 (bits BinOp.or IntKind.u64 4504699138998272 x)) w8 w8) := Lib.hid ⟨Nat.zero_le _, HJb.out, H8.out.1, HOf.out, ⟨[], World.ownsRow_nil _ _ _ _, by simp⟩, fun c => by
            rw [HM1.out]
            exact case_all M K R c _ hM4 hK4 hR4, Mod.refl _ _⟩
          have hgf : g0.f = g.f := by rw [hg]
          rw [hgf]
          clear hgf hg hB HOf HJb H48
          have hw8 : w4.heap.size < w8.heap.size := by have := H7.out.2.2.size; have := H8.out.2.2.size; omega
          have hBw8 : B ≤ w8.heap.size := by omega
          go_loopw [12, 13, 14] (fun tv nv vg wr => TrLoop g B M K R w4.heap.size (.slice pm M1 cm) (.slice pr R cr) (.slice pv K cv) w8 tv nv vg wr) (fun tv _ _ _ => ((10 : Int) - intOf tv).toNat)
          case atStart => exact ⟨0, by omega, rfl, by simp, Lib.hid ⟨_, HSt.out⟩⟩
          case round =>
            obtain ⟨i, hi5, rfl, rfl, H⟩ := hrel
            obtain ⟨s, hs⟩ := H.out
            obtain ⟨vs, hown, hds⟩ := hs.got
            obtain ⟨pg, cg, rfl⟩ := own_shape hown
            obtain ⟨nv, hnv⟩ : ∃ nv, nv = ((lens (Cm.asks (M + 1) K R 0)).take i).sum := ⟨_, rfl⟩
            rw [← hnv]
            have HT := Lib.hid (And.intro hs (And.intro hown (And.intro hds hnv)))
            have hbk := hs.blk
            unfold jobCells at hbk
            have kb := hbk.cell
            have lb := hbk.lt
            have bt : decide ((i : Int) < 10) = true := by simp; omega
            have HGo : Hid (∀ ck, goAll (fiveAsks M K R ck) ((replies (Cm.asks (M + 1) K R 0)).take i) = ([], (Cm.asks (M + 1) K R ck)[i]?) ∧ FitsAll (fiveAsks M K R ck) ((replies (Cm.asks (M + 1) K R 0)).take i)) := Lib.hid (fun ck => by
              have := goAll_take (fiveAsks M K R ck) i (by rw [asks_some, asks_length M K R ck 0]; exact hs.hi)
              rw [asks_some, asks_replies M K R ck 0] at this
              exact this)
            have HNx : Hid (Calls Tryz.prog 8 #[.agg (jobCells (.slice pm M1 cm) (.slice pr R cr) (.slice pv K cv)), .slice pg i cg] wr (NextPost M K R ((replies (Cm.asks (M + 1) K R 0)).take i) wr)) := Lib.hid (by
              have hln : ((replies (Cm.asks (M + 1) K R 0)).take i).length = i := by
                rw [List.length_take]
                have := hs.hi
                simp [replies]
                omega
              have hvl : vs.length = i := by have := hown.1; omega
              refine cNext_ok B M R K _ _ _ _ _ wr hs.job ⟨vs, by omega, ?_, fun j gr hj => ?_⟩ hs.off.at_.size (fun ck => (HGo.out ck).2) (fun ck gs' h => ?_)
              · rw [hln]
                exact (RowAt.of_own hown).low (Nat.zero_le _)
              · obtain ⟨u, hu, hd⟩ := hds j gr hj
                obtain ⟨al, a1, a2, a3⟩ := hd
                exact ⟨u, hu, al, a1, a2.low (Nat.zero_le _), fun t ht => RowAt.low (a3 t ht) (Nat.zero_le _)⟩
              · rw [(HGo.out ck).1] at h
                simp only [Prod.mk.injEq] at h
                exact h.1.symm)
            unfold jobCells at HNx
            clear H hs hown hds hnv hbk HSt
            go_wp2_with fail
            go_at_call 8
            refine HNx.out.mono ?_
            rintro e v2 ⟨hb2, ck, hcase⟩
            rcases hcase with ⟨l, v, gs', hgo, hne, rfl, hask⟩ | ⟨hgo, rfl⟩
            · have HA : Hid (i < (Cm.asks (M + 1) K R 0).length ∧ nv + l.length = ((lens (Cm.asks (M + 1) K R 0)).take (i + 1)).sum ∧ l.map Cm.reply = ((replies (Cm.asks (M + 1) K R 0))[i]?.getD []) ∧ l.length ≤ 100 ∧ 1 ≤ l.length ∧ (∀ x ∈ l, x.okb = true ∧ x.node < s.q.length) ∧ (∀ q ∈ s.q, q = []) ∧
                  ∃ s', (s.post l).play2 400 = some s' ∧ s'.done = l.map (fun v => some (Cm.reply v)) ∧ ∀ c, Cm.plays2 { s' with done := [] } ((Cm.asks (M + 1) K R c).drop (i + 1)) = true) := Lib.hid (by
                have h1 := (HGo.out ck).1
                rw [hgo] at h1
                simp only [Prod.mk.injEq] at h1
                have hl := h1.2.symm
                have hil := (List.getElem?_eq_some_iff.1 hl).1
                have hil0 : i < (Cm.asks (M + 1) K R 0).length := by rw [asks_length M K R 0 ck]; exact hil
                have hpl := HT.out.1.plays ck
                rw [List.drop_eq_getElem_cons hil, (List.getElem?_eq_some_iff.1 hl).2] at hpl
                obtain ⟨a1, a2, a3, a4, s', a5, a6, a7⟩ := plays2_cons hpl
                refine ⟨hil0, ?_, ?_, a1, a2, a3, a4, s', a5, a6, fun c => by rw [asks_drop M K R i c ck]; exact a7⟩
                · rw [HT.out.2.2.2, asks_lens M K R 0 ck]
                  have h3 : (lens (Cm.asks (M + 1) K R ck))[i]? = some l.length := by unfold lens; rw [List.getElem?_map, hl]; rfl
                  rw [List.take_add_one, h3, List.sum_append]
                  simp
                · rw [asks_replies M K R 0 ck]
                  have h3 : (replies (Cm.asks (M + 1) K R ck))[i]? = some (l.map Cm.reply) := by unfold replies; rw [List.getElem?_map, hl]; rfl
                  rw [h3]
                  rfl)
              obtain ⟨pl, cl, rfl⟩ : ∃ p c, v = .slice p l.length c := by
                obtain ⟨al, h1, h2, h3⟩ := hask
                obtain ⟨p, c, hp⟩ := h2.shape
                exact ⟨p, c, by rw [hp, ← h1]; simp⟩
              obtain ⟨s', hp1, hp2, hp3⟩ := HA.out.2.2.2.2.2.2.2
              have HPl : Hid (∀ W, Below v2.heap.size v2 W → Calls Tryz.prog 11 #[.pointer (some ⟨g.f, 0, none⟩), .int .i64 0, .slice pl l.length cl] W (PlayPost g B l s' W)) := Lib.hid (fun W hbW => by
                obtain ⟨-, -, -, a1, a2, a3, a4, -⟩ := HA.out
                have hoff := (HT.out.1.off.below hb2).below hbW
                refine play_ok g B 0 400 l s s' pl cl W hoff a4 (hask.below hbW) a2 a1 (fun x hx => ?_) hp1 hp2
                obtain ⟨b1, b2⟩ := a3 x hx
                obtain ⟨c1, c2, c3⟩ := Cm.Vb.okb_ok b1
                exact ⟨c1, by rw [← hoff.pairs.1]; exact b2, c3⟩)
              have HAs := Lib.hid (And.intro hb2 hp3)
              have hwi : IntKind.i64.wrap ((i : Int) + 1) = ((i + 1 : Nat) : Int) := by rw [IntKind.wrap_i64]; omega
              have hnvb : nv + l.length ≤ 500 := by
                have h1 := HA.out.2.1
                have h2 := take_sum (lens (Cm.asks (M + 1) K R 0)) (i + 1)
                have h3 := lens_small M K R hM4 hK4 hR4
                omega
              have hwn : IntKind.i64.wrap ((nv : Int) + (l.length : Int)) = ((nv + l.length : Nat) : Int) := by rw [IntKind.wrap_i64]; omega
              clear hgo hne hask hb2 hp1 hp2 hp3 kb lb
              go_wp2_with fail
              go_at_call 11
              refine (HPl.out _ (by (repeat (first | with_reducible exact Below.refl _ _ | with_reducible assumption | with_reducible refine Below.setCell ?_ (by first | (simp; done) | (simp; omega)) _ | with_reducible refine below_alloc ?_ _ | with_reducible refine below_drewN ?_ _ | with_reducible refine Below.drew ?_ | with_reducible refine below_step ?_ (by assumption))))).mono ?_
              rintro e v3 ⟨⟨u, rfl, hdn⟩, hoff3, hmod3⟩
              obtain ⟨pu, cu, rfl⟩ := DonesAt.shape hdn
              have HV3 := Lib.hid (And.intro hdn (And.intro hoff3 hmod3))
              clear hdn hoff3 hmod3
              go_wp2_with (at_builtin; refine halt ?_)
              refine unhalt ?_
              have hown1 := own_below (own_below HT.out.2.1 HAs.out.1) (below_alloc (Below.refl v2.heap.size v2) (.cells #[.int .i64 0, .int .i64 0] 43))
              have hown2 := own_mod hown1 HV3.out.2.2 (fun k hk => by have := HV3.out.2.1.at_.own_lt hk; omega)
              have hown3 := own_below hown2 (below_alloc (Below.refl v3.heap.size v3) (.cells #[.slice pu l.length cu] 50))
              have hsz3 : w8.heap.size ≤ v3.heap.size := by
                have h1 := HT.out.1.mod.size
                have h2 := HAs.out.1.size
                have h3 := HV3.out.2.2.size
                simp at h3
                omega
              refine wpList_append_mine rfl (.tmp 99) (.tmp 103) 39 rfl w8.heap.size 50 k0 _ 1 24 Tryz.underlying39 hk hx0 hx1 hx2 rfl (by decide) (.slice pg i cg) i vs rfl
                hown3 ⟨v3.heap.size, 0, none⟩ 1 1 [.slice pu l.length cu] rfl rfl (lit_news (o := 0) (cs := #[.slice pu l.length cu]) (Blk.made _ _ _))
                (by intro u hu; simp at hu; rcases hu with rfl; rfl) (by omega) (by unfold maxLen; omega) (by omega) (by simp; omega) ?_
              intro g9 c9 v9 hown9 hg9
              have HN : Hid (TrLoop g B M K R w4.heap.size (.slice pm M1 cm) (.slice pr R cr) (.slice pv K cv) w8 (.int .i64 ((i + 1 : Nat) : Int)) (.int .i64 ((nv + l.length : Nat) : Int)) (.slice (some ⟨g9, 0, none⟩) (i + 1) c9) v9) := Lib.hid (by
                obtain ⟨hT, hown, hds, hnv⟩ := HT.out
                obtain ⟨hdn, hoff3, hmod3⟩ := HV3.out
                have hmg := mod_grown hg9
                have hrow := own_rowblk hown3
                have hvl : vs.length = i := by have := hown.1; omega
                have hln := asks_five (M + 1) K R 0
                have hil := HA.out.1
                have hb2 := HAs.out.1
                have ba := below_alloc (Below.refl v2.heap.size v2) (.cells #[.int .i64 0, .int .i64 0] 43)
                have bb := below_alloc (Below.refl v3.heap.size v3) (.cells #[.slice pu l.length cu] 50)
                have hlt := fun k (hk : g.own k) => hoff3.at_.own_lt hk
                have hDn : ∀ u gr, DonesAt v3 B u gr → DonesAt v9 B u gr := fun u gr h => (h.below bb).mod hmg (fun k hk => by
                  obtain ⟨cs, hc⟩ := hrow k hk
                  exact .inr ⟨_, _, hc, by decide, by decide⟩)
                have o9 := (hoff3.below bb).mod hmg hrow
                refine ⟨i + 1, by omega, rfl, by rw [HA.out.2.1], Lib.hid ⟨{ s' with done := [] }, by omega, ?_, ?_, ⟨o9.at_, o9.client, o9.pairs, o9.mems⟩, ⟨vs ++ [.slice pu l.length cu], hown9, fun j gr hj => ?_⟩, HAs.out.2, ?_⟩⟩
                · exact ((((hT.job.below hb2).below ba).mod hmod3 (fun k hk => .inl (hlt k hk))).below bb).mod hmg (fun k hk => by
                    obtain ⟨cs, hc⟩ := hrow k hk
                    exact .inr ⟨_, _, hc, by decide, by decide, by decide⟩)
                · have h1 := hmod3.blk ((hT.blk.kept hb2).kept ba) (fun e => by have := hlt _ e; omega)
                  refine hmg.blk (h1.kept bb) (fun e => ?_)
                  obtain ⟨cs, hc⟩ := hrow _ e
                  exact (h1.kept bb).ne hc (by decide) rfl
                · by_cases hji : j < i
                  · obtain ⟨u, hu, hd⟩ := hds j gr (by
                      rw [List.getElem?_take_of_lt (by omega)] at hj
                      rw [List.getElem?_take_of_lt hji]
                      exact hj)
                    refine ⟨u, by rw [List.getElem?_append_left (by omega)]; exact hu, hDn u gr ?_⟩
                    exact ((hd.below hb2).below ba).mod hmod3 (fun k hk => .inl (hlt k hk))
                  · have hj1 : j < i + 1 := by
                      have := (List.getElem?_eq_some_iff.1 hj).1
                      rw [List.length_take] at this
                      omega
                    obtain rfl : j = i := by omega
                    rw [List.getElem?_take_of_lt (by omega)] at hj
                    have h4 := HA.out.2.2.1
                    rw [hj] at h4
                    refine ⟨.slice pu l.length cu, by rw [List.getElem?_append_right (by omega), hvl]; simp, ?_⟩
                    obtain rfl : l.map Cm.reply = gr := h4
                    refine hDn _ _ ?_
                    simpa using hdn
                · exact ((((hT.mod.then_below hb2).alloc _).trans hmod3).alloc _).grown hg9 (fun k hk => own_row_ge hown3 k hk))
              clear hown1 hown2 hown3 hown9 hg9
              go_wp2_with fail
              exact ⟨by first | exact HN.out | simpa using HN.out, by simp [intOf]; omega⟩
            · have HC : Hid (∀ W, Calls Tryz.prog 9 #[.int .i64 M1, .int .i64 R, .int .i64 K] W fun e w' => e = .returned (.agg #[.int .i64 (i : Nat), .int .i64 (nv : Nat)]) ∧ Below W.heap.size W w') := Lib.hid (fun W => by
                have h1 := (HGo.out ck).1
                rw [hgo] at h1
                simp only [Prod.mk.injEq] at h1
                have hle := List.getElem?_eq_none_iff.1 h1.2.symm
                have hie : i = (Cm.asks (M + 1) K R 0).length := by
                  have := HT.out.1.hi
                  rw [asks_length M K R ck 0] at hle
                  omega
                have := planCommit_any M1 R K W
                rw [HM1.out, cost_trips M K R hM4 hK4 hR4, cost_verbs M K R hM4 hK4 hR4, ← hie] at this
                have hn : nv = (lens (Cm.asks (M + 1) K R 0)).sum := by
                  rw [HT.out.2.2.2, List.take_of_length_le]
                  unfold lens
                  rw [List.length_map]
                  omega
                rw [HM1.out, hn]
                exact this)
              clear hgo
              have HB2 := Lib.hid hb2
              clear hb2
              go_wp2_with fail
              go_at_call 9
              refine (HC.out _).mono ?_
              rintro e v3 ⟨rfl, hb3⟩
              have hv3 : Below v2.heap.size v2 v3 := by (repeat (first | with_reducible exact Below.refl _ _ | with_reducible assumption | with_reducible refine Below.setCell ?_ (by first | (simp; done) | (simp; omega)) _ | with_reducible refine below_alloc ?_ _ | with_reducible refine below_drewN ?_ _ | with_reducible refine Below.drew ?_ | with_reducible refine below_step ?_ (by assumption)))
              have BO := (Blk.made v2 43 #[.int .i64 0, .int .i64 3]).kept hb3
              have kO := BO.cell
              have lO := BO.lt
              have HB3 := Lib.hid (And.intro hv3 BO)
              clear hb3 hv3 BO
              go_wp2_with fail
              go_at_call 10
              refine (HAw.out _).mono ?_
              rintro e v4 ⟨rfl, hb4⟩
              have hv4 : Below v3.heap.size v3 v4 := by (repeat (first | with_reducible exact Below.refl _ _ | with_reducible assumption | with_reducible refine Below.setCell ?_ (by first | (simp; done) | (simp; omega)) _ | with_reducible refine below_alloc ?_ _ | with_reducible refine below_drewN ?_ _ | with_reducible refine Below.drew ?_ | with_reducible refine below_step ?_ (by assumption)))
              have BO4 := (HB3.out.2.alloc _).kept hb4
              have BC4 := (Blk.made v3 47 #[.int .i64 (i : Nat), .int .i64 (nv : Nat)]).kept hb4
              have kO4 := BO4.cell
              have lO4 := BO4.lt
              have kC4 := BC4.cell
              have lC4 := BC4.lt
              have HB4 := Lib.hid hv4
              clear hb4 hv4 BO4 BC4 kO lO kb lb
              go_wp2_with fail
              refine bodyPost_ret (results_tmp rfl _ _ _) rfl ?_
              have h5 := below_step (below_step HB2.out HB3.out.1) HB4.out
              exact ⟨by simp, ((HM8.out.1.trans (HT.out.1.mod.imp HM8.out.2)).trans (Mod.of_below h5)).below (fun k hk => hk) (Nat.le_refl _)⟩
end Go.Proofs.YtoidjgongafnkaaGreatDoor
