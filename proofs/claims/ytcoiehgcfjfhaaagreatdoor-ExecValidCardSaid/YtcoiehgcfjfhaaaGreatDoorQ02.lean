/- Package pointer: its functions' contracts. -/
import Derived.Test.YtcoiehgcfjfhaaaGreatDoorQ01
import Derived.Deep.RegionHeld3
import Derived.Deep.MidRow
import Derived.IntWalk
import Derived.Deep.Light
set_option linter.all false
set_option maxRecDepth 20000
set_option maxHeartbeats 8000000
open Go.Lib (hid)
namespace Go.Proofs.YtcoiehgcfjfhaaaGreatDoor
open Go.RowKit
def Bt.Ptr.cells (p : Bt.Ptr) : Array Value := #[.int .i64 p.line, .int .i64 p.gen]
def Bt.Page.cells (p : Bt.Page) : Array Value := #[.int .i64 p.line, .int .u64 p.head, .int .u64 p.d0, .int .u64 p.d1, .int .u64 p.d2, .int .u64 p.d3, .int .u64 p.d4, .int .u64 p.d5, .int .u64 p.d6]
theorem results_blk {P : Program} {fn : Func} {p : Tmp} {ty : TypeId} (h : fn.results = #[.cell p ty]) (tmps : Array Value) (w : World) (g : Nat) (t : TypeId) (cs : Array Value) (d : TypeDesc)
    (hp : tmps.getD p undef = .pointer (some ⟨g, 0, none⟩)) (hg : Blk w g t cs) (hu : P.underlying ty = some d) (hd : (match d with | .struct _ | .array _ _ => true | _ => false) = true) (hi : (P.info? ty).map (·.size) = some cs.size) :
    (results fn tmps).run P w = .ok (.agg cs) w := by
  have e : (results fn tmps).run P w = ((asAddr (tmps.getD p undef)).run P w).andThen fun a w₁ => (loadVar ty a).run P w₁ := by
    simp only [results, h]
    simp [Sem.run_bind, Result.andThen]
  rw [e, hp]
  simp [asAddr, Result.andThen, run_loadVar_row w g t ty cs (0, 0) d hg hu hd hi]
theorem results_b {P : Program} {fn : Func} {p : Tmp} {ty : TypeId} (h : fn.results = #[.cell p ty]) (tmps : Array Value) (w : World) (g : Nat) (t : TypeId) (cs : Array Value) (d : TypeDesc)
    (hp : tmps.getD p undef = .pointer (some ⟨g, 0, none⟩)) (hg : Blk w g t cs) (hu : P.underlying ty = some d) (hd : (match d with | .struct _ | .array _ _ => true | _ => false) = true) (hi : (P.info? ty).map (·.size) = some cs.size) :
    (results fn tmps).run P w = .ok (.agg cs) w := results_blk h tmps w g t cs d hp hg hu hd hi
theorem results_bt {P : Program} {fn : Func} {p u : Tmp} {ty : TypeId} (h : fn.results = #[.cell p ty, .tmp u]) (tmps : Array Value) (w : World) (g : Nat) (t : TypeId) (cs : Array Value) (d : TypeDesc)
    (hp : tmps.getD p undef = .pointer (some ⟨g, 0, none⟩)) (hg : Blk w g t cs) (hu : P.underlying ty = some d) (hd : (match d with | .struct _ | .array _ _ => true | _ => false) = true) (hi : (P.info? ty).map (·.size) = some cs.size) :
    (results fn tmps).run P w = .ok (.tuple #[.agg cs, tmps.getD u undef]) w := results_blk_tmp h tmps w g t cs d hp hg hu hd hi
theorem results_btt {P : Program} {fn : Func} {p u u2 : Tmp} {ty : TypeId} (h : fn.results = #[.cell p ty, .tmp u, .tmp u2]) (tmps : Array Value) (w : World) (g : Nat) (t : TypeId) (cs : Array Value) (d : TypeDesc)
    (hp : tmps.getD p undef = .pointer (some ⟨g, 0, none⟩)) (hg : Blk w g t cs) (hu : P.underlying ty = some d) (hd : (match d with | .struct _ | .array _ _ => true | _ => false) = true) (hi : (P.info? ty).map (·.size) = some cs.size) :
    (results fn tmps).run P w = .ok (.tuple #[.agg cs, tmps.getD u undef, tmps.getD u2 undef]) w := by
  have e : (results fn tmps).run P w = ((asAddr (tmps.getD p undef)).run P w).andThen fun a w₁ => ((loadVar ty a).run P w₁).andThen fun v w₂ => .ok (.tuple #[v, tmps.getD u undef, tmps.getD u2 undef]) w₂ := by
    simp only [results, h]
    simp [Sem.run_bind, Result.andThen]
  rw [e, hp]
  simp [asAddr, Result.andThen, run_loadVar_row w g t ty cs (0, 0) d hg hu hd hi]
theorem results_ttbt {P : Program} {fn : Func} {p u u2 u3 : Tmp} {ty : TypeId} (h : fn.results = #[.tmp u, .tmp u2, .cell p ty, .tmp u3]) (tmps : Array Value) (w : World) (g : Nat) (t : TypeId) (cs : Array Value) (d : TypeDesc)
    (hp : tmps.getD p undef = .pointer (some ⟨g, 0, none⟩)) (hg : Blk w g t cs) (hu : P.underlying ty = some d) (hd : (match d with | .struct _ | .array _ _ => true | _ => false) = true) (hi : (P.info? ty).map (·.size) = some cs.size) :
    (results fn tmps).run P w = .ok (.tuple #[tmps.getD u undef, tmps.getD u2 undef, .agg cs, tmps.getD u3 undef]) w := by
  have e : (results fn tmps).run P w = ((asAddr (tmps.getD p undef)).run P w).andThen fun a w₁ => ((loadVar ty a).run P w₁).andThen fun v w₂ => .ok (.tuple #[tmps.getD u undef, tmps.getD u2 undef, v, tmps.getD u3 undef]) w₂ := by
    simp only [results, h]
    simp [Sem.run_bind, Result.andThen]
  rw [e, hp]
  simp [asAddr, Result.andThen, run_loadVar_row w g t ty cs (0, 0) d hg hu hd hi]
theorem Blk.put9 {w : World} {b : Nat} {t : TypeId} {cs : Array Value} (h : Blk w b t cs) (v0 v1 v2 v3 v4 v5 v6 v7 v8 : Value) :
    Blk (((((((((w.setCell ⟨b, 0, none⟩ v0).setCell ⟨b, 1, none⟩ v1).setCell ⟨b, 2, none⟩ v2).setCell ⟨b, 3, none⟩ v3).setCell ⟨b, 4, none⟩ v4).setCell ⟨b, 5, none⟩ v5).setCell ⟨b, 6, none⟩ v6).setCell ⟨b, 7, none⟩ v7).setCell ⟨b, 8, none⟩ v8) b t
      (((((((((cs.setIfInBounds 0 v0).setIfInBounds 1 v1).setIfInBounds 2 v2).setIfInBounds 3 v3).setIfInBounds 4 v4).setIfInBounds 5 v5).setIfInBounds 6 v6).setIfInBounds 7 v7).setIfInBounds 8 v8) :=
  ((((((((h.put 0 v0).put 1 v1).put 2 v2).put 3 v3).put 4 v4).put 5 v5).put 6 v6).put 7 v7).put 8 v8
theorem set2 (x0 x1 v0 v1 : Value) : ((#[x0, x1].setIfInBounds 0 v0).setIfInBounds 1 v1) = #[v0, v1] := by kernel_rfl
theorem set9 (x0 x1 x2 x3 x4 x5 x6 x7 x8 v0 v1 v2 v3 v4 v5 v6 v7 v8 : Value) : (((((((((#[x0, x1, x2, x3, x4, x5, x6, x7, x8].setIfInBounds 0 v0).setIfInBounds 1 v1).setIfInBounds 2 v2).setIfInBounds 3 v3).setIfInBounds 4 v4).setIfInBounds 5 v5).setIfInBounds 6 v6).setIfInBounds 7 v7).setIfInBounds 8 v8) = #[v0, v1, v2, v3, v4, v5, v6, v7, v8] := by kernel_rfl
theorem Blk.cast {w : World} {b : Nat} {t : TypeId} {cs cs' : Array Value} (h : Blk w b t cs) (e : cs = cs') : Blk w b t cs' := e ▸ h
theorem Blk.data7 {w : World} {b : Nat} {t : TypeId} {x0 x1 x2 x3 x4 x5 x6 x7 x8 : Value} (h : Blk w b t #[x0, x1, x2, x3, x4, x5, x6, x7, x8]) (v2 v3 v4 v5 v6 v7 v8 : Value) : Blk (((((((w.setCell ⟨b, 2, none⟩ v2).setCell ⟨b, 3, none⟩ v3).setCell ⟨b, 4, none⟩ v4).setCell ⟨b, 5, none⟩ v5).setCell ⟨b, 6, none⟩ v6).setCell ⟨b, 7, none⟩ v7).setCell ⟨b, 8, none⟩ v8) b t #[x0, x1, v2, v3, v4, v5, v6, v7, v8] := Blk.cast (((((((h.put 2 v2).put 3 v3).put 4 v4).put 5 v5).put 6 v6).put 7 v7).put 8 v8) (by kernel_rfl)
theorem Blk.all9 {w : World} {b : Nat} {t : TypeId} {x0 x1 x2 x3 x4 x5 x6 x7 x8 : Value} (h : Blk w b t #[x0, x1, x2, x3, x4, x5, x6, x7, x8]) (v0 v1 v2 v3 v4 v5 v6 v7 v8 : Value) : Blk (((((((((w.setCell ⟨b, 0, none⟩ v0).setCell ⟨b, 1, none⟩ v1).setCell ⟨b, 2, none⟩ v2).setCell ⟨b, 3, none⟩ v3).setCell ⟨b, 4, none⟩ v4).setCell ⟨b, 5, none⟩ v5).setCell ⟨b, 6, none⟩ v6).setCell ⟨b, 7, none⟩ v7).setCell ⟨b, 8, none⟩ v8) b t #[v0, v1, v2, v3, v4, v5, v6, v7, v8] := Blk.cast (((((((((h.put 0 v0).put 1 v1).put 2 v2).put 3 v3).put 4 v4).put 5 v5).put 6 v6).put 7 v7).put 8 v8) (by kernel_rfl)
theorem Blk.all2 {w : World} {b : Nat} {t : TypeId} {x0 x1 : Value} (h : Blk w b t #[x0, x1]) (v0 v1 : Value) : Blk ((w.setCell ⟨b, 0, none⟩ v0).setCell ⟨b, 1, none⟩ v1) b t #[v0, v1] := Blk.cast ((h.put 0 v0).put 1 v1) (by kernel_rfl)
section
variable (w : World) {t t' t2 : TypeId} {cs cs' cs2 : Array Value} {o o2 : Obj}
theorem made1 : Blk (w.alloc (.cells cs t)) w.heap.size t cs := Blk.made w t cs
theorem made22 : Blk ((w.alloc o).alloc (.cells cs t)) (w.heap.size + 1) t cs := Blk.made' (by simp)
theorem made23 : Blk (((w.alloc o).alloc (.cells cs t)).alloc o2) (w.heap.size + 1) t cs := (Blk.made' (by simp)).alloc _
theorem made33 : Blk (((w.alloc o).alloc o2).alloc (.cells cs t)) (w.heap.size + 1 + 1) t cs := Blk.made' (by simp)
theorem made44 {o3 : Obj} : Blk ((((w.alloc o).alloc o2).alloc o3).alloc (.cells cs t)) (w.heap.size + 1 + 1 + 1) t cs := Blk.made' (by simp)
end
theorem size_alloc (w : World) (o : Obj) : (w.alloc o).heap.size = w.heap.size + 1 := by simp
theorem size_setCell (w : World) (p : Addr) (v : Value) : (w.setCell p v).heap.size = w.heap.size := by simp [World.setCell]
theorem size_drew (w : World) : w.drew.heap.size = w.heap.size := rfl
theorem size_drewN (w : World) (n : Nat) : (w.drewN n).heap.size = w.heap.size := rfl
structure SteadyAll (w1 wx : World) : Prop where
  rule : ∀ b o, b < w1.heap.size → wx.cell? ⟨b, o, none⟩ = w1.cell? ⟨b, o, none⟩
structure SteadyBut (r : Nat) (w1 wx : World) : Prop where
  rule : ∀ b o, b < w1.heap.size → (b < r ∨ r < b) → wx.cell? ⟨b, o, none⟩ = w1.cell? ⟨b, o, none⟩
theorem SteadyAll.of {w1 wx : World} (h : Below w1.heap.size w1 wx) : SteadyAll w1 wx := ⟨fun b o hb => h.cell (p := ⟨b, o, none⟩) hb⟩
theorem SteadyBut.of {r : Nat} {w1 wx : World} (h : Below w1.heap.size w1 wx) : SteadyBut r w1 wx := ⟨fun b o hb _ => h.cell (p := ⟨b, o, none⟩) hb⟩
theorem SteadyBut.set {r : Nat} {w1 wx : World} (h : SteadyBut r w1 wx) (i : Nat) (v : Value) : SteadyBut r w1 (wx.setCell ⟨r, i, none⟩ v) :=
  ⟨fun b o hb hr => by rw [World.cell?_setCell_other _ _ _ _ (by intro e; injection e with e1; omega)]; exact h.rule b o hb hr⟩
section
variable {P : Program} {ops : Array Oper} {Q : Exit → Act → World → Prop} {md : Region.Mode} {S : World → Prop}
def takeable (md : Region.Mode) (ops : Array Oper) : Array Bool → List Nat → Bool
  | _, [] => true
  | l, i :: is => Region.free md ops l i && (Region.ready md ops l).contains i && takeable md ops (l.setIfInBounds i true) is
def TakeSeq (P : Program) (md : Region.Mode) (ops : Array Oper) (Q : Exit → Act → World → Prop) (S : World → Prop) (fuel : Nat) : List Nat → Array Bool → Act → World → Prop
  | [], l, a, w => wpAnyH P md ops Q S fuel l a w
  | i :: is, l, a, w => ∃ o v, ops[i]? = some o ∧ YieldsIf P ops S o v a ∧ TakeSeq P md ops Q S fuel is (l.setIfInBounds i true) (a.put o.dst v) w
theorem TakeSeq.step {fuel i : Nat} {is : List Nat} {l : Array Bool} {a : Act} {w : World} {o : Oper} {v : Value} (ho : ops[i]? = some o) (hy : YieldsIf P ops S o v a)
    (h : TakeSeq P md ops Q S fuel is (l.setIfInBounds i true) (a.put o.dst v) w) : TakeSeq P md ops Q S fuel (i :: is) l a w := ⟨o, v, ho, hy, h⟩
theorem TakeSeq.done {fuel : Nat} {l : Array Bool} {a : Act} {w : World} (h : wpAnyH P md ops Q S fuel l a w) : TakeSeq P md ops Q S fuel [] l a w := h
theorem wpAnyH_seq {is : List Nat} {fuel : Nat} {l : Array Bool} {a : Act} {w : World} (hs : Region.noSelect ops = true) (ht : takeable md ops l is = true)
    (hQ : ∀ c a d v w, Q (.panic c) (a.put d v) w → Q (.panic c) a w) (hS : S w) (h : TakeSeq P md ops Q S fuel is l a w) : wpAnyH P md ops Q S (fuel + is.length) l a w := by
  induction is generalizing l a with
  | nil => exact h
  | cons i is ih =>
    obtain ⟨o, v, ho, hy, h2⟩ := h
    simp only [takeable, Bool.and_eq_true] at ht
    exact wpAnyH_take ho hs ht.1.1 ht.1.2 (fun c a w => hQ c a o.dst v w) hy hS (ih ht.2 h2)
end
theorem qY {α : Type} : (∀ (l : List α) (i : Nat) (a : α), l.toArray.setIfInBounds i a = (l.set i a).toArray) ∧ (∀ (a b : α) (l : List α), (a :: l).set 0 b = b :: l) ∧ (∀ (a b : α) (l : List α) (n : Nat), (a :: l).set (n + 1) b = a :: l.set n b) ∧
    (∀ (l : List α) (i : Nat) (h : i < l.toArray.size), l.toArray[i] = l[i]'(by simpa using h)) ∧ (∀ (a : α) (l : List α) (h : 0 < (a :: l).length), (a :: l)[0] = a) ∧ (∀ (a : α) (l : List α) (i : Nat) (h : i + 1 < (a :: l).length), (a :: l)[i + 1] = l[i]'(by simpa using h)) :=
  ⟨fun _ _ _ => List.setIfInBounds_toArray .., fun _ _ _ => rfl, fun _ _ _ _ => rfl, fun _ _ _ => rfl, fun _ _ _ => rfl, fun _ _ _ _ => rfl⟩
section
variable {P : Program} {ops : Array Oper} {Q : Exit → Act → World → Prop} {md : Region.Mode} {S : World → Prop}
theorem qT {fuel i : Nat} {is : List Nat} {l : Array Bool} {a : Act} {w : World} {o : Oper} {v : Value} (h : TakeSeq P md ops Q S fuel is (l.setIfInBounds i true) (a.put o.dst v) w) (ho : ops[i]? = some o := by rfl) (hy : YieldsIf P ops S o v a := by first | exact Or.inr ⟨by rfl, rfl⟩ | (refine Or.inl ⟨by rfl, ?_⟩; intro wq hSq; have hrd := hSq.rule; go_simp; with_reducible rfl)) : TakeSeq P md ops Q S fuel (i :: is) l a w := .step ho hy h
theorem qS (is : List Nat) {fuel : Nat} {l : Array Bool} {a : Act} {w : World} (h : TakeSeq P md ops Q S fuel is l a w) (hs : Region.noSelect ops = true := by kernel_rfl) (ht : takeable md ops l is = true := by kernel_rfl)
    (hQ : ∀ c a d v w, Q (.panic c) (a.put d v) w → Q (.panic c) a w := by (intro _ _ d _ _ h; cases d <;> exact h)) (hS : S w := by assumption) : wpAnyH P md ops Q S (fuel + is.length) l a w := wpAnyH_seq hs ht hQ hS h
theorem qH (i : Nat) {fuel : Nat} {listed : Array Bool} {a : Act} {w : World} {o : Oper} (h : ∀ K' : Act → World → Prop, Shut (∀ a w, S w → (S w → wpAnyH P md ops Q S fuel (listed.setIfInBounds i true) a w) → K' a w) → Oper.wp P o a w K' Q)
    (hr : Region.ready md ops listed = [i] := by kernel_rfl) (ho : ops[i]? = some o := by rfl) (hw : Region.wanted o (yielded ops a.tmps) = true := by rfl) : wpAnyH P md ops Q S (fuel + 1) listed a w :=
  wpAnyH_ready hr (by simp) (AllReadyH.cons ho (fun K hK => by rw [if_pos hw]; exact h K hK) AllReadyH.nil)
theorem qD {listed : Array Bool} {a : Act} {w : World} (h : Q .normal a w) (fuel : Nat) (hr : Region.ready md ops listed = [] := by kernel_rfl) : wpAnyH P md ops Q S fuel listed a w := wpAnyH_done hr h fuel
theorem qA {id : Nat} {a : Act} {w : World} (h : SteadyAll w w.drew → wpAnyH P .any ops Q (SteadyAll w) ops.size (Array.replicate ops.size false) a w.drew) (hm : P.follows .mixedOrders = true := by kernel_rfl) : (Code.region id ops true).wp P Q a w := wp_region_held_drew hm (SteadyAll.of (Below.refl _ _).drew) h
theorem qB (r : Nat) {id : Nat} {a : Act} {w : World} (h : SteadyBut r w w.drew → wpAnyH P .any ops Q (SteadyBut r w) ops.size (Array.replicate ops.size false) a w.drew) (hm : P.follows .mixedOrders = true := by kernel_rfl) : (Code.region id ops true).wp P Q a w := wp_region_held_drew hm (SteadyBut.of (Below.refl _ _).drew) h
end
theorem qE {r : Nat} {w1 wx : World} (h : SteadyBut r w1 wx := by repeat (first | with_reducible refine SteadyBut.set ?_ _ _ | exact SteadyBut.of qL)) : SteadyBut r w1 wx := h
theorem ret_bool {a b : Bool} (h : a = b) : Ending.returned (.bool a) = .returned (.bool b) := by rw [h]
theorem inHeap_any (l : Int) (w : World) : Calls Tryz.prog 164 #[.int .i64 l] w fun e w' => e = .returned (.bool (Bt.inHeap l)) ∧ w = w' := by
  go_enter Tryz.func164, Tryz.ntmps164
  go_wp2
  all_goals go_ret
  · have h : 104 ≤ l := by assumption
    exact ⟨ret_bool (by simp [Bt.inHeap, h]), rfl⟩
  · have h : l < 104 := by assumption
    exact ⟨ret_bool (by simp [Bt.inHeap]; omega), rfl⟩
theorem Valid_any (l g : Int) (w : World) : Calls Tryz.prog 136 #[.agg #[.int .i64 l, .int .i64 g]] w fun e w' => e = .returned (.bool (Bt.validP ⟨l, g⟩)) ∧ Below w.heap.size w w' := by
  rcases hin : Bt.inHeap l with _ | _
  all_goals
    have Hin := hid hin
    clear hin
    go_enter Tryz.func136, Tryz.ntmps136
    go_wp2_with (go_at_call 164; refine (inHeap_any _ _).mono ?_; rintro e w' ⟨rfl, rfl⟩; rw [Hin.out])
    all_goals go_ret
  · exact ⟨ret_bool (by simp [Bt.validP, Hin.out]), below_alloc (Below.refl _ _) _⟩
  · have h : 1 ≤ g := by assumption
    exact ⟨ret_bool (by simp [Bt.validP, Hin.out, h]), below_alloc (Below.refl _ _) _⟩
  · have h : g < 1 := by assumption
    refine ⟨ret_bool ?_, below_alloc (Below.refl _ _) _⟩
    have h' : ¬ (1 ≤ g) := by omega
    simp [Bt.validP, Hin.out, h']
theorem UnpackTag_any (x : Int) (h0 : 0 ≤ x) (h1 : x < 18446744073709551616) (w : World) : Calls Tryz.prog 160 #[.int .u64 x] w
    fun e w' => e = .returned (.agg #[.int .i64 (Bt.tagKind x), .int .i64 (Bt.tagGen x), .int .u32 (Bt.tagAux x)]) ∧ Below w.heap.size w w' := by
  have e1 := and_u64_8 x h0 h1
  have e2 := and_u64_24 (x / 256) (by omega) (by omega)
  go_enter Tryz.func160, Tryz.ntmps160
  go_wp2
  refine bodyPost_ret (results_blk rfl _ _ w.heap.size 278 _ _ rfl (Blk.made _ _ _) Tryz.underlying278 rfl (by kernel_rfl)) rfl ⟨rfl, below_alloc (Below.refl _ _) _⟩
theorem Pack_any (l g : Int) (w : World) : Calls Tryz.prog 207 #[.agg #[.int .i64 l, .int .i64 g]] w fun e w' => e = .returned (.int .u32 (Bt.pack ⟨l, g⟩)) ∧ Below w.heap.size w w' := by
  rcases hin : Bt.validP ⟨l, g⟩ with _ | _
  · have Hin := hid hin
    clear hin
    go_enter Tryz.func207, Tryz.ntmps207
    go_wp2_with (go_at_call 136; refine (Valid_any _ _ _).mono ?_; rintro e w1 ⟨rfl, hb⟩; rw [Hin.out])
    all_goals go_ret
    exact ⟨ret_int (by simp [Bt.pack, Hin.out]), below_step (below_alloc (Below.refl _ _) _) hb⟩
  · have Hin := hid hin
    have hv : 104 ≤ l ∧ l < 256 ∧ 1 ≤ g ∧ g ≤ 16777215 := by
      simp [Bt.validP, Bt.inHeap] at hin
      omega
    clear hin
    go_enter Tryz.func207, Tryz.ntmps207
    go_wp2_with fail
    go_at_call 136
    refine (Valid_any _ _ _).mono ?_
    rintro e w1 ⟨rfl, hb⟩
    have B1 := (Blk.made w 154 #[.int .i64 l, .int .i64 g]).kept hb
    have k1 := B1.cell
    rw [Hin.out]
    have eb := or_u32_join 8 (g * 256) l (by omega) (by omega) (by omega) (by omega) (by omega) (by omega)
    go_wp2
    go_ret
    exact ⟨ret_int (by simp [Bt.pack, Hin.out]), below_step (below_alloc (Below.refl _ _) _) hb⟩
theorem ret_u64 {a b : Int} (h : a = b) : Ending.returned (.int .u64 a) = .returned (.int .u64 b) := by rw [h]
theorem PackTag_any (k g a : Int) (hk : -9223372036854775808 ≤ k ∧ k ≤ 9223372036854775807) (hg : -9223372036854775808 ≤ g ∧ g ≤ 9223372036854775807) (ha : 0 ≤ a ∧ a < 4294967296) (w : World) :
    Calls Tryz.prog 208 #[.agg #[.int .i64 k, .int .i64 g, .int .u32 a]] w fun e w' => e = .returned (.int .u64 (Bt.packTag k g a)) ∧ Below w.heap.size w w' := by
  have hk8 : IntKind.u64.wrap k % 256 = k % 256 := by rw [IntKind.wrap_u64]; omega
  have hg24 : IntKind.u64.wrap g % 16777216 = g % 16777216 := by rw [IntKind.wrap_u64]; omega
  have e1 := and_u64_8 (IntKind.u64.wrap k) (by rw [IntKind.wrap_u64]; omega) (by rw [IntKind.wrap_u64]; omega)
  have e2 := and_u64_24 (IntKind.u64.wrap g) (by rw [IntKind.wrap_u64]; omega) (by rw [IntKind.wrap_u64]; omega)
  rw [hk8] at e1
  rw [hg24] at e2
  have e3 := or_u64_join' 8 (k % 256) (g % 16777216 * 256) (by omega) (by omega) (by omega) (by omega) (by omega) (by omega)
  have e4 := or_u64_join' 32 (k % 256 + g % 16777216 * 256) (a * 4294967296) (by omega) (by omega) (by omega) (by omega) (by omega) (by omega)
  clear hk8 hg24
  go_enter Tryz.func208, Tryz.ntmps208
  go_wp2
  go_ret
  exact ⟨ret_u64 (by simp [Bt.packTag]), qL⟩
theorem tagOf_any (p : Bt.Page) (hp : p.Ok) (w : World) :
    Calls Tryz.prog 163 #[.agg p.cells] w fun e w' => e = .returned (.agg #[.int .i64 (Bt.tagKind p.d0), .int .i64 (Bt.tagGen p.d0), .int .u32 (Bt.tagAux p.d0)]) ∧ Below w.heap.size w w' := by
  unfold Bt.Page.cells
  have h0 := hp.d0
  go_enter Tryz.func163, Tryz.ntmps163
  go_wp2_with fail
  go_at_call 160
  refine (UnpackTag_any p.d0 h0.1 h0.2 _).mono ?_
  rintro e w1 ⟨rfl, hb⟩
  have B2 := (made22 w).kept hb
  have k2 := B2.cell
  have f2 := B2.free
  go_wp2
  exact bodyPost_ret (results_blk rfl _ _ (w.heap.size + 1) 278 _ _ rfl (((B2.put 0 _).put 1 _).put 2 _) Tryz.underlying278 rfl (by kernel_rfl)) rfl ⟨rfl, qL⟩
theorem Locked_any (p : Bt.Page) (hp : p.Ok) (w : World) : Calls Tryz.prog 62 #[.agg p.cells] w fun e w' => e = .returned (.bool (Bt.locked p)) ∧ Below w.heap.size w w' := by
  unfold Bt.Page.cells
  have h0 := hp.head
  have e1 := and_u64_8 p.head h0.1 h0.2
  go_enter Tryz.func62, Tryz.ntmps62
  go_wp2
  go_ret
  refine ⟨ret_bool ?_, qL⟩
  unfold Bt.locked bne
  congr 1
structure PgRow (w : World) (v : Value) (l : List Bt.Page) : Prop where
  ok : ∀ p ∈ l, p.Ok
  len : l.length ≤ maxLen
  form : (v = .slice none 0 0 ∧ l = []) ∨ ∃ b cap, v = .slice (some ⟨b, 0, none⟩) l.length cap ∧ b < w.heap.size ∧ ∀ (i : Nat) (p : Bt.Page), l[i]? = some p → ∀ (j : Nat) (u : Value), p.cells[j]? = some u → w.cell? ⟨b, i * 9 + j, none⟩ = some u
theorem PgRow.kept {w w' : World} {v : Value} {l : List Bt.Page} {B : Nat} (h : PgRow w v l) (hb : Below B w w') (hB : ∀ b n c, v = .slice (some ⟨b, 0, none⟩) n c → b < B) : PgRow w' v l := by
  refine ⟨h.ok, h.len, ?_⟩
  rcases h.form with h1 | ⟨b, cap, hv, hlt, hcells⟩
  · exact .inl h1
  · exact .inr ⟨b, cap, hv, Nat.lt_of_lt_of_le hlt hb.size, fun i p hi j u hu => by rw [hb.cell (p := ⟨b, i * 9 + j, none⟩) (hB b _ _ hv)]; exact hcells i p hi j u hu⟩
theorem PgRow.below {w w' : World} {v : Value} {l : List Bt.Page} (h : PgRow w v l) (hb : Below w.heap.size w w') : PgRow w' v l := by
  refine h.kept hb fun b n c hv => ?_
  rcases h.form with ⟨h1, _⟩ | ⟨b', cap, hv', hlt, _⟩
  · rw [hv] at h1; simp at h1
  · rw [hv] at hv'; simp at hv'; omega
theorem Unpack_any (x : Int) (h0 : 0 ≤ x) (h1 : x < 4294967296) (w : World) : Calls Tryz.prog 135 #[.int .u32 x] w
    fun e w' => e = .returned (.agg #[.int .i64 (x % 256), .int .i64 (x / 256)]) ∧ Below w.heap.size w w' := by
  have e1 := and_u32_8 x h0 h1
  go_enter Tryz.func135, Tryz.ntmps135
  go_wp2
  refine bodyPost_ret (results_blk rfl _ _ w.heap.size 154 _ _ rfl (Blk.made _ _ _) Tryz.underlying154 rfl (by kernel_rfl)) rfl ⟨rfl, below_alloc (Below.refl _ _) _⟩
theorem latest_yes (known : List Bt.Page) (line : Int) (k : Nat) (h : k < known.length) (he : known[k].line = line) : Bt.latest (known.take (k + 1)) line = some known[k] := by
  unfold Bt.latest
  rw [List.take_succ_eq_append_getElem h, List.reverse_append]
  simp [he]
theorem latest_no (known : List Bt.Page) (line : Int) (k : Nat) (h : k < known.length) (he : ¬ known[k].line = line) : Bt.latest (known.take (k + 1)) line = Bt.latest (known.take k) line := by
  unfold Bt.latest
  rw [List.take_succ_eq_append_getElem h, List.reverse_append]
  simp [he]
theorem page_cells {w : World} {b : Nat} {known : List Bt.Page} (hcells : ∀ (i : Nat) (p : Bt.Page), known[i]? = some p → ∀ (j : Nat) (u : Value), p.cells[j]? = some u → w.cell? ⟨b, i * 9 + j, none⟩ = some u) (k : Nat) (h : k < known.length) :
    w.rangeAt b (k * 9) known[k].cells.toList := fun j u hu => hcells k known[k] (List.getElem?_eq_getElem h) j u (by simpa using hu)
theorem nine {w : World} {b k : Nat} {p : Bt.Page} (h : w.rangeAt b (k * 9) p.cells.toList) :
    w.cell? ⟨b, k * 9, none⟩ = some (.int .i64 p.line) ∧ w.cell? ⟨b, k * 9 + 1, none⟩ = some (.int .u64 p.head) ∧ w.cell? ⟨b, k * 9 + 2, none⟩ = some (.int .u64 p.d0) ∧
    w.cell? ⟨b, k * 9 + 3, none⟩ = some (.int .u64 p.d1) ∧ w.cell? ⟨b, k * 9 + 4, none⟩ = some (.int .u64 p.d2) ∧ w.cell? ⟨b, k * 9 + 5, none⟩ = some (.int .u64 p.d3) ∧
    w.cell? ⟨b, k * 9 + 6, none⟩ = some (.int .u64 p.d4) ∧ w.cell? ⟨b, k * 9 + 7, none⟩ = some (.int .u64 p.d5) ∧ w.cell? ⟨b, k * 9 + 8, none⟩ = some (.int .u64 p.d6) :=
  ⟨h 0 _ rfl, h 1 _ rfl, h 2 _ rfl, h 3 _ rfl, h 4 _ rfl, h 5 _ rfl, h 6 _ rfl, h 7 _ rfl, h 8 _ rfl⟩
theorem Latest_any (known : List Bt.Page) (v : Value) (line : Int) (w : World) (hk : PgRow w v known) : Calls Tryz.prog 60 #[v, .int .i64 line] w
    fun e w' => e = .returned (.tuple #[.agg ((Bt.latest known line).getD Bt.zeroPage).cells, .bool (Bt.latest known line).isSome]) ∧ Below w.heap.size w w' := by
  rcases hk.form with ⟨rfl, rfl⟩ | ⟨b, cap, rfl, hlt, hcells⟩
  · go_enter Tryz.func60, Tryz.ntmps60
    go_wp2
    refine wp_loop_rounds 1 ?_
    rw [rounds_succ]
    go_wp2
    simp [bodyPost, results, Tryz.results60, go_sem]
    exact ⟨⟨rfl, rfl⟩, qL⟩
  · have hlen := hk.len
    unfold maxLen at hlen
    have Hc := hid hcells
    clear hcells
    go_enter Tryz.func60, Tryz.ntmps60
    go_wp2
    go_loop [6] (fun i => ∃ k : Nat, k ≤ known.length ∧ i = .int .i64 ((k : Int) - 1) ∧ Hid (Bt.latest (known.take k) line = Bt.latest known line)) (fun i => (intOf i + 1).toNat)
    case atStart => exact ⟨known.length, Nat.le_refl _, rfl, hid (by rw [List.take_length])⟩
    case round =>
      obtain ⟨k, hkl, rfl, HL⟩ := hrel
      rcases k with _ | k
      · have HN : Hid (none = Bt.latest known line) := hid HL.out
        go_wp2
        simp [bodyPost, results, Tryz.results60, go_sem]
        rw [← HN.out]
        exact ⟨⟨rfl, rfl⟩, qL⟩
      · have hr := page_cells Hc.out k (by omega)
        obtain ⟨c0, c1, c2, c3, c4, c5, c6, c7, c8⟩ := nine hr
        clear hr
        have h0' : (((k + 1 : Nat) : Int) - 1) = (k : Int) := by omega
        rw [h0']
        by_cases he : known[k].line = line
        · have hy := hid (latest_yes known line k (by omega) he)
          clear h0'
          rw [he] at c0
          obtain ⟨p, hp⟩ : ∃ p, p = known[k] := ⟨_, rfl⟩
          have HP := hid hp
          rw [← hp] at c1 c2 c3 c4 c5 c6 c7 c8
          clear hp
          go_wp2
          simp [bodyPost, results, Tryz.results60, go_sem]
          rw [← HL.out, hy.out, ← HP.out]
          have hl : p.line = line := by rw [HP.out]; exact he
          exact ⟨⟨by rw [← hl]; rfl, rfl⟩, qL⟩
        · go_wp2
          go_round
          case rel => exact ⟨k, by omega, rfl, by rw [← latest_no known line k (by omega) he]; exact HL⟩
          case measure => simp [intOf]
def Bt.Look.page : Bt.Look → Bt.Page
  | .found p => p
  | _ => Bt.zeroPage
def Bt.Look.code : Bt.Look → Int
  | .bad c => c
  | _ => 0
theorem latest_mem {known : List Bt.Page} {line : Int} {p : Bt.Page} (h : Bt.latest known line = some p) : p ∈ known ∧ p.line = line := by
  unfold Bt.latest at h
  have h1 := List.mem_of_find?_eq_some h
  have h2 := List.find?_some h
  exact ⟨by simpa using h1, by simpa using h2⟩
theorem field_tag1 (x y z : Value) (w : World) : (Instr.field 278 (.agg #[x, y, z]) 1).run Tryz.prog w = .ok y w := by kernel_rfl
theorem At_any (p : Bt.Page) (hp : p.Ok) (w : World) : Calls Tryz.prog 110 #[.agg p.cells] w fun e w' => e = .returned (.agg (Bt.at_ p).cells) ∧ Below w.heap.size w w' := by
  unfold Bt.Page.cells
  have Hp := hid hp
  clear hp
  have ff := field_tag1
  go_enter Tryz.func110, Tryz.ntmps110
  go_wp2_with fail
  go_region_with (go_at_call 163; refine (tagOf_any p Hp.out _).mono ?_; rintro e w1 ⟨rfl, hb⟩; ((obtain ⟨hc1, hf1, hs1⟩ := qR hb); (try have := qN0 w w1); (try have := qN1 w w1)))
  all_goals
    have B := (made22 w (t := 154) (cs := #[.int .i64 0, .int .i64 0])).drew.kept hb
    go_wp2
    (refine bodyPost_ret (results_b rfl _ _ (w.heap.size + 1) _ _ _ rfl (by exact qK) Tryz.underlying154 rfl (by kernel_rfl)) rfl ⟨?_, ?_⟩)
    · rw [set2]; rfl
    · exact qL
theorem tagged_any (p : Bt.Page) (k g a : Int) (hk : -9223372036854775808 ≤ k ∧ k ≤ 9223372036854775807) (hg : -9223372036854775808 ≤ g ∧ g ≤ 9223372036854775807) (ha : 0 ≤ a ∧ a < 4294967296) (w : World) :
    Calls Tryz.prog 165 #[.agg p.cells, .agg #[.int .i64 k, .int .i64 g, .int .u32 a]] w fun e w' => e = .returned (.agg (⟨p.line, p.head, Bt.packTag k g a, 0, 0, 0, 0, 0, 0⟩ : Bt.Page).cells) ∧ Below w.heap.size w w' := by
  unfold Bt.Page.cells
  go_enter Tryz.func165, Tryz.ntmps165
  go_wp2_with fail
  go_at_call 208; refine (PackTag_any k g a hk hg ha _).mono ?_; rintro e w1 ⟨rfl, hb⟩; ((obtain ⟨hc1, hf1, hs1⟩ := qR hb); (try have := qN0 w w1); (try have := qN1 w w1); (try have := qN2 w w1); (try have := qN3 w w1))
  have B := ((made33 w (t := 75) (cs := Bt.zeroPage.cells)).alloc _).kept hb
  simp only [Bt.zeroPage, Bt.Page.cells] at B
  go_wp2
  (refine bodyPost_ret (results_b rfl _ _ (w.heap.size + 1 + 1) _ _ _ rfl (by exact qK) Tryz.underlying75 rfl (by kernel_rfl)) rfl ⟨?_, ?_⟩)
  · rw [set9]
  · exact qL
theorem zeroPage_cells : Bt.zeroPage.cells = #[.int .i64 0, .int .u64 0, .int .u64 0, .int .u64 0, .int .u64 0, .int .u64 0, .int .u64 0, .int .u64 0, .int .u64 0] := rfl
theorem Allocate_any (p : Bt.Page) (hp : p.Ok) (w : World) :
    Calls Tryz.prog 108 #[.agg p.cells, .int .i64 4, .int .u32 0] w fun e w' => e = .returned (.tuple #[.agg (Bt.allocate p 4 0).1.cells, .int .i64 (Bt.allocate p 4 0).2]) ∧ Below w.heap.size w w' := by
  have Hp := hid hp
  have hg : 0 ≤ Bt.tagGen p.d0 ∧ Bt.tagGen p.d0 < 16777216 := by unfold Bt.tagGen; omega
  clear hp
  by_cases h1 : Bt.inHeap p.line = false
  · have HX : Hid (Bt.allocate p 4 0 = (Bt.zeroPage, 1)) := hid (by simp [Bt.allocate, h1])
    have H1 := hid h1
    clear h1
    unfold Bt.Page.cells
    go_enter Tryz.func108, Tryz.ntmps108
    go_wp2_with fail
    go_at_call 163; refine (tagOf_any p Hp.out _).mono ?_; rintro e w1 ⟨rfl, hb⟩; ((obtain ⟨hc1, hf1, hs1⟩ := qR hb); (try have := qN0 w w1); (try have := qN1 w w1))
    go_wp2_with fail
    go_at_call 164; refine (inHeap_any p.line _).mono ?_; rintro e w2 ⟨rfl, rfl⟩; rw [H1.out]
    have B := (made22 w (t := 75) (cs := Bt.zeroPage.cells)).kept hb
    rw [zeroPage_cells] at B
    go_wp2
    (refine bodyPost_ret (results_bt rfl _ _ (w.heap.size + 1) _ _ _ rfl (by exact qK) Tryz.underlying75 rfl (by kernel_rfl)) rfl ⟨?_, ?_⟩)
    · rw [HX.out, set9]; rfl
    · exact qL
  · have H1 : Hid (Bt.inHeap p.line = true) := hid (by simpa using h1)
    have h1' := H1.out
    rcases h2 : Bt.locked p with _ | _
    · have H2 := hid h2
      by_cases h3 : Bt.tagKind p.d0 = 0
      · by_cases h4 : Bt.tagGen p.d0 = 16777215
        · have HX : Hid (Bt.allocate p 4 0 = (Bt.zeroPage, 18)) := hid (by simp [Bt.allocate, h1', h2, h3, h4])
          have b3 : (Bt.tagKind p.d0 != 0) = false := by simp [h3]
          have b4 : (Bt.tagGen p.d0 == 16777215) = true := by simp [h4]
          clear h1 h1' h2 h3 h4
          unfold Bt.Page.cells
          go_enter Tryz.func108, Tryz.ntmps108
          go_wp2_with fail
          go_at_call 163; refine (tagOf_any p Hp.out _).mono ?_; rintro e w1 ⟨rfl, hb⟩; ((obtain ⟨hc1, hf1, hs1⟩ := qR hb); (try have := qN0 w w1); (try have := qN1 w w1))
          go_wp2_with fail
          go_at_call 164; refine (inHeap_any p.line _).mono ?_; rintro e w2 ⟨rfl, rfl⟩; rw [H1.out]
          go_wp2_with fail
          go_at_call 62; refine (Locked_any p Hp.out _).mono ?_; rintro e w3 ⟨rfl, hb3⟩; rw [H2.out]; ((obtain ⟨hc3, hf3, hs3⟩ := qR hb3); (try have := qN0 w w3); (try have := qN1 w w3); (try have := qN0 w1 w3); (try have := qN1 w1 w3))
          have B := (((made22 w (t := 75) (cs := Bt.zeroPage.cells)).kept hb).alloc _).kept hb3
          rw [zeroPage_cells] at B
          go_wp2
          (refine bodyPost_ret (results_bt rfl _ _ (w.heap.size + 1) _ _ _ rfl (by exact qK) Tryz.underlying75 rfl (by kernel_rfl)) rfl ⟨?_, ?_⟩)
          · rw [HX.out, set9]; rfl
          · exact qL
        · have HX : Hid (Bt.allocate p 4 0 = (⟨p.line, p.head, Bt.packTag 4 (Bt.tagGen p.d0 + 1) 0, 0, 0, 0, 0, 0, 0⟩, 0)) := hid (by simp [Bt.allocate, h1', h2, h3, h4])
          have b3 : (Bt.tagKind p.d0 != 0) = false := by simp [h3]
          have b4 : (Bt.tagGen p.d0 == 16777215) = false := by simp [h4]
          clear h1 h1' h2 h3 h4
          unfold Bt.Page.cells
          go_enter Tryz.func108, Tryz.ntmps108
          go_wp2_with fail
          go_at_call 163; refine (tagOf_any p Hp.out _).mono ?_; rintro e w1 ⟨rfl, hb⟩; ((obtain ⟨hc1, hf1, hs1⟩ := qR hb); (try have := qN0 w w1); (try have := qN1 w w1))
          go_wp2_with fail
          go_at_call 164; refine (inHeap_any p.line _).mono ?_; rintro e w2 ⟨rfl, rfl⟩; rw [H1.out]
          go_wp2_with fail
          go_at_call 62; refine (Locked_any p Hp.out _).mono ?_; rintro e w3 ⟨rfl, hb3⟩; rw [H2.out]; ((obtain ⟨hc3, hf3, hs3⟩ := qR hb3); (try have := qN0 w w3); (try have := qN1 w w3); (try have := qN0 w1 w3); (try have := qN1 w1 w3))
          go_wp2_with fail
          go_at_call 165; refine (tagged_any p _ _ _ (by omega) (by omega) (by omega) _).mono ?_; rintro e w4 ⟨rfl, hb4⟩; ((obtain ⟨hc4, hf4, hs4⟩ := qR hb4); (try have := qN0 w w4); (try have := qN1 w w4); (try have := qN0 w1 w4); (try have := qN1 w1 w4))
          have B := ((((made22 w (t := 75) (cs := Bt.zeroPage.cells)).kept hb).alloc _).kept hb3).kept hb4
          rw [zeroPage_cells] at B
          simp only [Bt.Page.cells]
          go_wp2
          (refine bodyPost_ret (results_bt rfl _ _ (w.heap.size + 1) _ _ _ rfl (by exact qK) Tryz.underlying75 rfl (by kernel_rfl)) rfl ⟨?_, ?_⟩)
          · rw [HX.out, set9]; rfl
          · exact qL
      · have HX : Hid (Bt.allocate p 4 0 = (Bt.zeroPage, 17)) := hid (by simp [Bt.allocate, h1', h2, h3])
        have b3 : (Bt.tagKind p.d0 != 0) = true := by simp [h3]
        clear h1 h1' h2 h3
        unfold Bt.Page.cells
        go_enter Tryz.func108, Tryz.ntmps108
        go_wp2_with fail
        go_at_call 163; refine (tagOf_any p Hp.out _).mono ?_; rintro e w1 ⟨rfl, hb⟩; ((obtain ⟨hc1, hf1, hs1⟩ := qR hb); (try have := qN0 w w1); (try have := qN1 w w1))
        go_wp2_with fail
        go_at_call 164; refine (inHeap_any p.line _).mono ?_; rintro e w2 ⟨rfl, rfl⟩; rw [H1.out]
        go_wp2_with fail
        go_at_call 62; refine (Locked_any p Hp.out _).mono ?_; rintro e w3 ⟨rfl, hb3⟩; rw [H2.out]; ((obtain ⟨hc3, hf3, hs3⟩ := qR hb3); (try have := qN0 w w3); (try have := qN1 w w3); (try have := qN0 w1 w3); (try have := qN1 w1 w3))
        have B := (((made22 w (t := 75) (cs := Bt.zeroPage.cells)).kept hb).alloc _).kept hb3
        rw [zeroPage_cells] at B
        go_wp2
        (refine bodyPost_ret (results_bt rfl _ _ (w.heap.size + 1) _ _ _ rfl (by exact qK) Tryz.underlying75 rfl (by kernel_rfl)) rfl ⟨?_, ?_⟩)
        · rw [HX.out, set9]; rfl
        · exact qL
    · have H2 := hid h2
      have HX : Hid (Bt.allocate p 4 0 = (Bt.zeroPage, 3)) := hid (by simp [Bt.allocate, h1', h2])
      clear h1 h1' h2
      unfold Bt.Page.cells
      go_enter Tryz.func108, Tryz.ntmps108
      go_wp2_with fail
      go_at_call 163; refine (tagOf_any p Hp.out _).mono ?_; rintro e w1 ⟨rfl, hb⟩; ((obtain ⟨hc1, hf1, hs1⟩ := qR hb); (try have := qN0 w w1); (try have := qN1 w w1))
      go_wp2_with fail
      go_at_call 164; refine (inHeap_any p.line _).mono ?_; rintro e w2 ⟨rfl, rfl⟩; rw [H1.out]
      go_wp2_with fail
      go_at_call 62; refine (Locked_any p Hp.out _).mono ?_; rintro e w3 ⟨rfl, hb3⟩; rw [H2.out]; ((obtain ⟨hc3, hf3, hs3⟩ := qR hb3); (try have := qN0 w w3); (try have := qN1 w w3); (try have := qN0 w1 w3); (try have := qN1 w1 w3))
      have B := (((made22 w (t := 75) (cs := Bt.zeroPage.cells)).kept hb).alloc _).kept hb3
      rw [zeroPage_cells] at B
      go_wp2
      (refine bodyPost_ret (results_bt rfl _ _ (w.heap.size + 1) _ _ _ rfl (by exact qK) Tryz.underlying75 rfl (by kernel_rfl)) rfl ⟨?_, ?_⟩)
      · rw [HX.out, set9]; rfl
      · exact qL
def Bt.Entry.cells (e : Bt.Entry) : Array Value := #[.int .u32 e.key, .int .i64 e.to.line, .int .i64 e.to.gen]
def Bt.Entry.Ok (e : Bt.Entry) : Prop := 0 ≤ e.key ∧ e.key < 4294967296
structure EntRow (w : World) (v : Value) (l : List Bt.Entry) : Prop where
  ok : ∀ e ∈ l, e.Ok
  len : l.length ≤ maxLen
  form : (v = .slice none 0 0 ∧ l = []) ∨ ∃ b off cap, v = .slice (some ⟨b, off, none⟩) l.length cap ∧ b < w.heap.size ∧ ∀ (i : Nat) (p : Bt.Entry), l[i]? = some p → ∀ (j : Nat) (u : Value), p.cells[j]? = some u → w.cell? ⟨b, off + i * 3 + j, none⟩ = some u
theorem EntRow.below {w w' : World} {v : Value} {l : List Bt.Entry} (h : EntRow w v l) (hb : Below w.heap.size w w') : EntRow w' v l := by
  refine ⟨h.ok, h.len, ?_⟩
  rcases h.form with h1 | ⟨b, off, cap, hv, hlt, hcells⟩
  · exact .inl h1
  · exact .inr ⟨b, off, cap, hv, Nat.lt_of_lt_of_le hlt hb.size, fun i p hi j u hu => by rw [hb.cell (p := ⟨b, off + i * 3 + j, none⟩) hlt]; exact hcells i p hi j u hu⟩
theorem three {w : World} {b off k : Nat} {l : List Bt.Entry} (hcells : ∀ (i : Nat) (p : Bt.Entry), l[i]? = some p → ∀ (j : Nat) (u : Value), p.cells[j]? = some u → w.cell? ⟨b, off + i * 3 + j, none⟩ = some u) (h : k < l.length) :
    w.cell? ⟨b, off + k * 3, none⟩ = some (.int .u32 l[k].key) ∧ w.cell? ⟨b, off + k * 3 + 1, none⟩ = some (.int .i64 l[k].to.line) ∧ w.cell? ⟨b, off + k * 3 + 2, none⟩ = some (.int .i64 l[k].to.gen) := by
  have hk := List.getElem?_eq_getElem h
  exact ⟨hcells k _ hk 0 _ rfl, hcells k _ hk 1 _ rfl, hcells k _ hk 2 _ rfl⟩
def nodeCells (n : Bt.Node) (v : Value) : Array Value := #[.int .i64 n.level, .bool n.leftmost, .bool n.dead, .int .u32 n.high, .int .i64 n.right.line, .int .i64 n.right.gen, v]
def peq (a b c d : Int) : Bool := decide (a = c ∧ b = d)
theorem eql_ptr (a b c d : Int) (w : World) : (binOp .eql 154 (.agg #[.int .i64 a, .int .i64 b]) (.agg #[.int .i64 c, .int .i64 d])).run Tryz.prog w = .ok (.bool (peq a b c d)) w := by
  simp [go_sem, peq]
  by_cases h1 : a = c <;> by_cases h2 : b = d <;> simp [h1, h2]
theorem neq_ptr (a b c d : Int) (w : World) : (binOp .neq 154 (.agg #[.int .i64 a, .int .i64 b]) (.agg #[.int .i64 c, .int .i64 d])).run Tryz.prog w = .ok (.bool (!peq a b c d)) w := by
  simp [go_sem, peq]
  by_cases h1 : a = c <;> by_cases h2 : b = d <;> simp [h1, h2]
theorem peq_nil (p : Bt.Ptr) : peq p.line p.gen 0 0 = decide (p = Bt.nilP) := by
  obtain ⟨l, g⟩ := p
  simp [peq, Bt.nilP]
structure NoneAt (w : World) : Prop where
  c0 : w.cell? ⟨1, 0, none⟩ = some (.int .i64 0)
  c1 : w.cell? ⟨1, 1, none⟩ = some (.int .i64 0)
  lt : 1 < w.heap.size
  lt0 : 0 < w.heap.size
theorem NoneAt.below {w w' : World} (h : NoneAt w) (hb : Below w.heap.size w w') : NoneAt w' :=
  ⟨(hb.cell (p := ⟨1, 0, none⟩) h.lt).trans h.c0, (hb.cell (p := ⟨1, 1, none⟩) h.lt).trans h.c1, Nat.lt_of_lt_of_le h.lt hb.size, Nat.lt_of_lt_of_le h.lt0 hb.size⟩
def Asc (es : List Bt.Entry) : Prop := es.Pairwise (fun a b => a.key < b.key)
theorem pack_bound (p : Bt.Ptr) : 0 ≤ Bt.pack p ∧ Bt.pack p < 4294967296 := by
  unfold Bt.pack Bt.validP Bt.inHeap
  split
  · rename_i h
    simp at h
    omega
  · omega
def wordUpto (es : List Bt.Entry) (k j : Nat) : Int := if j < k then Bt.wordAt es j else 0
def fillUpto (n : Bt.Node) (p : Bt.Page) (k : Nat) : Bt.Page :=
  ⟨p.line, p.head, Bt.packTag (Bt.tagKind p.d0) (Bt.tagGen p.d0) n.aux, n.high + Bt.pack n.right * 4294967296,
    wordUpto n.entries k 0, wordUpto n.entries k 1, wordUpto n.entries k 2, wordUpto n.entries k 3, wordUpto n.entries k 4⟩
theorem wordUpto_all (es : List Bt.Entry) (h : es.length ≤ 5) (j : Nat) : wordUpto es es.length j = Bt.wordAt es j := by
  unfold wordUpto
  split
  · rfl
  · rename_i hj
    unfold Bt.wordAt
    rw [List.getElem?_eq_none (by omega)]
theorem fillUpto_all (n : Bt.Node) (p : Bt.Page) (h : n.entries.length ≤ 5) : fillUpto n p n.entries.length = n.fill p := by
  unfold fillUpto Bt.Node.fill
  simp only [wordUpto_all _ h]
structure NodeOk (n : Bt.Node) : Prop where
  level : 0 ≤ n.level ∧ n.level ≤ 255
  high : 0 ≤ n.high ∧ n.high < 4294967296
  len : n.entries.length ≤ 5
theorem aux_or (l c : Int) (h0 : 0 ≤ l ∧ l ≤ 255) (h1 : 0 ≤ c ∧ c ≤ 5) : bits .or .u32 l (c * 256) = l + c * 256 := or_u32_join' 8 l (c * 256) (by omega) (by omega) (by omega) (by omega) (by omega) (by omega)
theorem aux_or1 (x : Int) (h0 : 0 ≤ x ∧ x < 65536) : bits .or .u32 x 65536 = x + 65536 := or_u32_join' 16 x 65536 (by omega) (by omega) (by omega) (by omega) (by omega) (by omega)
theorem aux_or2 (x : Int) (h0 : 0 ≤ x ∧ x < 131072) : bits .or .u32 x 131072 = x + 131072 := or_u32_join' 17 x 131072 (by omega) (by omega) (by omega) (by omega) (by omega) (by omega)
theorem word_or (x y : Int) (h0 : 0 ≤ x ∧ x < 4294967296) (h1 : 0 ≤ y ∧ y < 4294967296) : bits .or .u64 x (y * 4294967296) = x + y * 4294967296 := or_u64_join' 32 x (y * 4294967296) (by omega) (by omega) (by omega) (by omega) (by omega) (by omega)
theorem word_or2 (x y : Int) (h0 : 0 ≤ x ∧ x < 4294967296) (h1 : 0 ≤ y ∧ y < 4294967296) : bits .or .u64 (y * 4294967296) x = y * 4294967296 + x := or_u64_join 32 (y * 4294967296) x (by omega) (by omega) (by omega) (by omega) (by omega) (by omega)
theorem word_raw (x : Int) (q : Bt.Ptr) (h0 : 0 ≤ x ∧ x < 4294967296) (h1 : 0 ≤ Bt.pack q ∧ Bt.pack q < 4294967296) :
    bits .or .u64 (IntKind.u64.wrap x) (IntKind.u64.wrap (IntKind.u64.wrap (Bt.pack ⟨q.line, q.gen⟩) * 4294967296)) = x + Bt.pack q * 4294967296 := by
  have a1 : IntKind.u64.wrap x = x := by rw [IntKind.wrap_u64]; omega
  have a2 : IntKind.u64.wrap (Bt.pack q) = Bt.pack q := by rw [IntKind.wrap_u64]; omega
  have a3 : IntKind.u64.wrap (Bt.pack q * 4294967296) = Bt.pack q * 4294967296 := by rw [IntKind.wrap_u64]; omega
  show bits .or .u64 (IntKind.u64.wrap x) (IntKind.u64.wrap (IntKind.u64.wrap (Bt.pack q) * 4294967296)) = _
  rw [a1, a2, a3, word_or x _ h0 h1]
theorem word_raw2 (x : Int) (q : Bt.Ptr) (h0 : 0 ≤ x ∧ x < 4294967296) (h1 : 0 ≤ Bt.pack q ∧ Bt.pack q < 4294967296) :
    bits .or .u64 (IntKind.u64.wrap (IntKind.u64.wrap x * 4294967296)) (IntKind.u64.wrap (Bt.pack ⟨q.line, q.gen⟩)) = x * 4294967296 + Bt.pack q := by
  have a1 : IntKind.u64.wrap x = x := by rw [IntKind.wrap_u64]; omega
  have a2 : IntKind.u64.wrap (Bt.pack q) = Bt.pack q := by rw [IntKind.wrap_u64]; omega
  have a3 : IntKind.u64.wrap (x * 4294967296) = x * 4294967296 := by rw [IntKind.wrap_u64]; omega
  show bits .or .u64 (IntKind.u64.wrap (IntKind.u64.wrap x * 4294967296)) (IntKind.u64.wrap (Bt.pack q)) = _
  rw [a1, a2, a3, word_or2 _ x h1 h0]
theorem word_raw' (x : Int) (q : Bt.Ptr) (h0 : 0 ≤ x ∧ x < 4294967296) (h1 : 0 ≤ Bt.pack q ∧ Bt.pack q < 4294967296) :
    bits .or .u64 x (IntKind.u64.wrap (IntKind.u64.wrap (Bt.pack ⟨q.line, q.gen⟩) * 4294967296)) = x + Bt.pack q * 4294967296 := by
  have a1 : IntKind.u64.wrap x = x := by rw [IntKind.wrap_u64]; omega
  have := word_raw x q h0 h1
  rwa [a1] at this
theorem fillUpto_step (n : Bt.Node) (p : Bt.Page) (k : Nat) (h : k < n.entries.length) (h5 : n.entries.length ≤ 5) :
    (fillUpto n p (k + 1)).cells = (fillUpto n p k).cells.setIfInBounds (2 + (2 + k)) (.int .u64 (n.entries[k].key * 4294967296 + Bt.pack n.entries[k].to)) := by
  have hk : wordUpto n.entries (k + 1) k = n.entries[k].key * 4294967296 + Bt.pack n.entries[k].to := by
    simp [wordUpto, Bt.wordAt, List.getElem?_eq_getElem h, Bt.entryWord]
  have ho : ∀ j, j ≠ k → wordUpto n.entries (k + 1) j = wordUpto n.entries k j := by
    intro j hj
    unfold wordUpto
    by_cases h1 : j < k
    · rw [if_pos h1, if_pos (by omega)]
    · rw [if_neg h1, if_neg (by omega)]
  have hk5 : k = 0 ∨ k = 1 ∨ k = 2 ∨ k = 3 ∨ k = 4 := by omega
  unfold fillUpto Bt.Page.cells
  rcases hk5 with rfl | rfl | rfl | rfl | rfl
  all_goals
    simp only [hk]
    simp (disch := omega) only [ho]
    rfl
def FillRel (n : Bt.Node) (p : Bt.Page) (w : World) (i : Value) (wr : World) : Prop :=
  ∃ k : Nat, k ≤ n.entries.length ∧ i = .int .i64 k ∧ Below w.heap.size w wr ∧ w.heap.size + 1 + 1 + 1 ≤ wr.heap.size ∧ Blk wr (w.heap.size + 1) 75 (fillUpto n p k).cells ∧ Blk wr (w.heap.size + 1 + 1) 75 Bt.zeroPage.cells
end Go.Proofs.YtcoiehgcfjfhaaaGreatDoor
