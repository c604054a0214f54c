/- Masks and joins of words, over Int. -/
import Derived.Test.YtjmpekanlmepmaaGreatDoorBB05
import Derived.Laws.BitsAllLaws
import Derived.Test.YtjmpekanlmepmaaGreatDoorBB01
import Derived.Deep.RegionHeld3
import Derived.Deep.MidRow
set_option linter.all false
set_option maxRecDepth 20000
set_option maxHeartbeats 8000000
open Go.Lib (hid)
namespace Go.Proofs.YtjmpekanlmepmaaGreatDoor
open Go.RowKit
theorem Z5F (k : Nat) (m x : Int) (hm : m = ((2 ^ k - 1 : Nat) : Int)) (hk : k ≤ 63) (h0 : 0 ≤ x) (h1 : x < 18446744073709551616) : bits .and .u64 x m = x % ((2 ^ k : Nat) : Int) := by
 obtain ⟨n, rfl⟩ := Int.eq_ofNat_of_zero_le h0
 have hle : 2 ^ k ≤ 2 ^ 63 := Nat.pow_le_pow_right (by omega) hk
 subst hm
 rw [u64_and_nat n (2 ^ k - 1) (by omega) (by omega), Nat.and_two_pow_sub_one_eq_mod, Int.natCast_emod]
theorem Z6g (x : Int) (h0 : 0 ≤ x) (h1 : x < 18446744073709551616) : bits .and .u64 x 255 = x % 256 := Z5F 8 255 x rfl (by omega) h0 h1
theorem Z6G (x : Int) (h0 : 0 ≤ x) (h1 : x < 18446744073709551616) : bits .and .u64 x 16777215 = x % 16777216 := Z5F 24 16777215 x rfl (by omega) h0 h1
theorem Z7T (k : Nat) (m x : Int) (hm : m = ((2 ^ k - 1 : Nat) : Int)) (hk : k ≤ 31) (h0 : 0 ≤ x) (h1 : x < 4294967296) : bits .and .u32 x m = x % ((2 ^ k : Nat) : Int) := by
 obtain ⟨n, rfl⟩ := Int.eq_ofNat_of_zero_le h0
 have hle : 2 ^ k ≤ 2 ^ 31 := Nat.pow_le_pow_right (by omega) hk
 subst hm
 rw [u32_and_nat n (2 ^ k - 1) (by omega) (by omega), Nat.and_two_pow_sub_one_eq_mod, Int.natCast_emod]
theorem Z5j (x : Int) (h0 : 0 ≤ x) (h1 : x < 4294967296) : bits .and .u32 x 255 = x % 256 := Z7T 8 255 x rfl (by omega) h0 h1
theorem Z63 (k : Nat) (a b : Int) (ha0 : 0 ≤ a) (ha1 : a < 18446744073709551616) (hb0 : 0 ≤ b) (hb1 : b < 18446744073709551616) (ha : a % ((2 ^ k : Nat) : Int) = 0) (hb : b < ((2 ^ k : Nat) : Int)) : bits .or .u64 a b = a + b := by
 obtain ⟨n, rfl⟩ := Int.eq_ofNat_of_zero_le ha0
 obtain ⟨m, rfl⟩ := Int.eq_ofNat_of_zero_le hb0
 rw [u64_or_nat n m (by omega) (by omega), nat_join k n m (by rw [← Int.natCast_emod] at ha; omega) (by omega)]
 omega
theorem Z8p (a b : Int) (ha0 : 0 ≤ a) (ha1 : a < 18446744073709551616) (hb0 : 0 ≤ b) (hb1 : b < 18446744073709551616) : bits .or .u64 a b = bits .or .u64 b a := by
 obtain ⟨n, rfl⟩ := Int.eq_ofNat_of_zero_le ha0
 obtain ⟨m, rfl⟩ := Int.eq_ofNat_of_zero_le hb0
 rw [u64_or_nat n m (by omega) (by omega), u64_or_nat m n (by omega) (by omega), Nat.or_comm]
theorem or_u64_join' (k : Nat) (a b : Int) (ha0 : 0 ≤ a) (ha1 : a < 18446744073709551616) (hb0 : 0 ≤ b) (hb1 : b < 18446744073709551616) (hb : b % ((2 ^ k : Nat) : Int) = 0) (ha : a < ((2 ^ k : Nat) : Int)) : bits .or .u64 a b = a + b := by
 rw [Z8p a b ha0 ha1 hb0 hb1, Z63 k b a hb0 hb1 ha0 ha1 hb ha, Int.add_comm]
theorem Z8q (k : Nat) (a b : Int) (ha0 : 0 ≤ a) (ha1 : a < 4294967296) (hb0 : 0 ≤ b) (hb1 : b < 4294967296) (ha : a % ((2 ^ k : Nat) : Int) = 0) (hb : b < ((2 ^ k : Nat) : Int)) : bits .or .u32 a b = a + b := by
 obtain ⟨n, rfl⟩ := Int.eq_ofNat_of_zero_le ha0
 obtain ⟨m, rfl⟩ := Int.eq_ofNat_of_zero_le hb0
 rw [u32_or_nat n m (by omega) (by omega), nat_join k n m (by rw [← Int.natCast_emod] at ha; omega) (by omega)]
 omega
theorem or_u32_join' (k : Nat) (a b : Int) (ha0 : 0 ≤ a) (ha1 : a < 4294967296) (hb0 : 0 ≤ b) (hb1 : b < 4294967296) (hb : b % ((2 ^ k : Nat) : Int) = 0) (ha : a < ((2 ^ k : Nat) : Int)) : bits .or .u32 a b = a + b := by
 obtain ⟨n, rfl⟩ := Int.eq_ofNat_of_zero_le ha0
 obtain ⟨m, rfl⟩ := Int.eq_ofNat_of_zero_le hb0
 rw [u32_or_nat n m (by omega) (by omega), Nat.or_comm, nat_join k m n (by rw [← Int.natCast_emod] at hb; omega) (by omega)]
 omega
def Bt.Ptr.cells (p : Bt.Ptr) : Array Value := #[.int .i64 p.line, .int .i64 p.gen]
def Bt.Page.cells (p : Bt.Page) : Array Value := #[.int .i64 p.line, .int .u64 p.head, .int .u64 p.d0, .int .u64 p.d1, .int .u64 p.d2, .int .u64 p.d3, .int .u64 p.d4, .int .u64 p.d5, .int .u64 p.d6]
theorem Z3Y {P : Program} {fn : Func} {p : Tmp} {ty : TypeId} (h : fn.results = #[.cell p ty]) (tmps : Array Value) (w : World) (g : Nat) (t : TypeId) (cs : Array Value) (d : TypeDesc)
 (hp : tmps.getD p undef = .pointer (some ⟨g, 0, none⟩)) (hg : Blk w g t cs) (hu : P.underlying ty = some d) (hd : (match d with | .struct _ | .array _ _ => true | _ => false) = true) (hi : (P.info? ty).map (·.size) = some cs.size) :
 (results fn tmps).run P w = .ok (.agg cs) w := by
 have e : (results fn tmps).run P w = ((asAddr (tmps.getD p undef)).run P w).andThen fun a w₁ => (loadVar ty a).run P w₁ := by
  simp only [results, h]
  simp [Sem.run_bind, Result.andThen]
 rw [e, hp]
 simp [asAddr, Result.andThen, run_loadVar_row w g t ty cs (0, 0) d hg hu hd hi]
theorem Z2E {P : Program} {fn : Func} {p : Tmp} {ty : TypeId} (h : fn.results = #[.cell p ty]) (tmps : Array Value) (w : World) (g : Nat) (t : TypeId) (cs : Array Value) (d : TypeDesc)
 (hp : tmps.getD p undef = .pointer (some ⟨g, 0, none⟩)) (hg : Blk w g t cs) (hu : P.underlying ty = some d) (hd : (match d with | .struct _ | .array _ _ => true | _ => false) = true) (hi : (P.info? ty).map (·.size) = some cs.size) :
 (results fn tmps).run P w = .ok (.agg cs) w := Z3Y h tmps w g t cs d hp hg hu hd hi
theorem Z0K {P : Program} {fn : Func} {p u : Tmp} {ty : TypeId} (h : fn.results = #[.cell p ty, .tmp u]) (tmps : Array Value) (w : World) (g : Nat) (t : TypeId) (cs : Array Value) (d : TypeDesc)
 (hp : tmps.getD p undef = .pointer (some ⟨g, 0, none⟩)) (hg : Blk w g t cs) (hu : P.underlying ty = some d) (hd : (match d with | .struct _ | .array _ _ => true | _ => false) = true) (hi : (P.info? ty).map (·.size) = some cs.size) :
 (results fn tmps).run P w = .ok (.tuple #[.agg cs, tmps.getD u undef]) w := Z5Y h tmps w g t cs d hp hg hu hd hi
theorem Z0W {P : Program} {fn : Func} {p u u2 : Tmp} {ty : TypeId} (h : fn.results = #[.cell p ty, .tmp u, .tmp u2]) (tmps : Array Value) (w : World) (g : Nat) (t : TypeId) (cs : Array Value) (d : TypeDesc)
 (hp : tmps.getD p undef = .pointer (some ⟨g, 0, none⟩)) (hg : Blk w g t cs) (hu : P.underlying ty = some d) (hd : (match d with | .struct _ | .array _ _ => true | _ => false) = true) (hi : (P.info? ty).map (·.size) = some cs.size) :
 (results fn tmps).run P w = .ok (.tuple #[.agg cs, tmps.getD u undef, tmps.getD u2 undef]) w := by
 have e : (results fn tmps).run P w = ((asAddr (tmps.getD p undef)).run P w).andThen fun a w₁ => ((loadVar ty a).run P w₁).andThen fun v w₂ => .ok (.tuple #[v, tmps.getD u undef, tmps.getD u2 undef]) w₂ := by
  simp only [results, h]
  simp [Sem.run_bind, Result.andThen]
 rw [e, hp]
 simp [asAddr, Result.andThen, run_loadVar_row w g t ty cs (0, 0) d hg hu hd hi]
theorem Z10 {P : Program} {fn : Func} {p u u2 u3 : Tmp} {ty : TypeId} (h : fn.results = #[.tmp u, .tmp u2, .cell p ty, .tmp u3]) (tmps : Array Value) (w : World) (g : Nat) (t : TypeId) (cs : Array Value) (d : TypeDesc)
 (hp : tmps.getD p undef = .pointer (some ⟨g, 0, none⟩)) (hg : Blk w g t cs) (hu : P.underlying ty = some d) (hd : (match d with | .struct _ | .array _ _ => true | _ => false) = true) (hi : (P.info? ty).map (·.size) = some cs.size) :
 (results fn tmps).run P w = .ok (.tuple #[tmps.getD u undef, tmps.getD u2 undef, .agg cs, tmps.getD u3 undef]) w := by
 have e : (results fn tmps).run P w = ((asAddr (tmps.getD p undef)).run P w).andThen fun a w₁ => ((loadVar ty a).run P w₁).andThen fun v w₂ => .ok (.tuple #[tmps.getD u undef, tmps.getD u2 undef, v, tmps.getD u3 undef]) w₂ := by
  simp only [results, h]
  simp [Sem.run_bind, Result.andThen]
 rw [e, hp]
 simp [asAddr, Result.andThen, run_loadVar_row w g t ty cs (0, 0) d hg hu hd hi]
theorem Blk.put9 {w : World} {b : Nat} {t : TypeId} {cs : Array Value} (h : Blk w b t cs) (v0 v1 v2 v3 v4 v5 v6 v7 v8 : Value) :
 Blk (((((((((w.setCell ⟨b, 0, none⟩ v0).setCell ⟨b, 1, none⟩ v1).setCell ⟨b, 2, none⟩ v2).setCell ⟨b, 3, none⟩ v3).setCell ⟨b, 4, none⟩ v4).setCell ⟨b, 5, none⟩ v5).setCell ⟨b, 6, none⟩ v6).setCell ⟨b, 7, none⟩ v7).setCell ⟨b, 8, none⟩ v8) b t
  (((((((((cs.setIfInBounds 0 v0).setIfInBounds 1 v1).setIfInBounds 2 v2).setIfInBounds 3 v3).setIfInBounds 4 v4).setIfInBounds 5 v5).setIfInBounds 6 v6).setIfInBounds 7 v7).setIfInBounds 8 v8) :=
 ((((((((h.put 0 v0).put 1 v1).put 2 v2).put 3 v3).put 4 v4).put 5 v5).put 6 v6).put 7 v7).put 8 v8
theorem set2 (x0 x1 v0 v1 : Value) : ((#[x0, x1].setIfInBounds 0 v0).setIfInBounds 1 v1) = #[v0, v1] := by kernel_rfl
theorem set7 (x0 x1 x2 x3 x4 x5 x6 v0 v1 v2 v3 v4 v5 v6 : Value) : (((((((#[x0, x1, x2, x3, x4, x5, x6].setIfInBounds 0 v0).setIfInBounds 1 v1).setIfInBounds 2 v2).setIfInBounds 3 v3).setIfInBounds 4 v4).setIfInBounds 5 v5).setIfInBounds 6 v6) = #[v0, v1, v2, v3, v4, v5, v6] := by kernel_rfl
theorem set9 (x0 x1 x2 x3 x4 x5 x6 x7 x8 v0 v1 v2 v3 v4 v5 v6 v7 v8 : Value) : (((((((((#[x0, x1, x2, x3, x4, x5, x6, x7, x8].setIfInBounds 0 v0).setIfInBounds 1 v1).setIfInBounds 2 v2).setIfInBounds 3 v3).setIfInBounds 4 v4).setIfInBounds 5 v5).setIfInBounds 6 v6).setIfInBounds 7 v7).setIfInBounds 8 v8) = #[v0, v1, v2, v3, v4, v5, v6, v7, v8] := by kernel_rfl
theorem set16 (x0 x1 x2 x3 x4 x5 x6 x7 x8 x9 x10 x11 x12 x13 x14 x15 v0 v1 v2 v3 v4 v5 v6 v7 v8 v9 v10 v11 v12 v13 v14 v15 : Value) : ((((((((((((((((#[x0, x1, x2, x3, x4, x5, x6, x7, x8, x9, x10, x11, x12, x13, x14, x15].setIfInBounds 0 v0).setIfInBounds 1 v1).setIfInBounds 2 v2).setIfInBounds 3 v3).setIfInBounds 4 v4).setIfInBounds 5 v5).setIfInBounds 6 v6).setIfInBounds 7 v7).setIfInBounds 8 v8).setIfInBounds 9 v9).setIfInBounds 10 v10).setIfInBounds 11 v11).setIfInBounds 12 v12).setIfInBounds 13 v13).setIfInBounds 14 v14).setIfInBounds 15 v15) = #[v0, v1, v2, v3, v4, v5, v6, v7, v8, v9, v10, v11, v12, v13, v14, v15] := by kernel_rfl
theorem Blk.cast {w : World} {b : Nat} {t : TypeId} {cs cs' : Array Value} (h : Blk w b t cs) (e : cs = cs') : Blk w b t cs' := e ▸ h
theorem Blk.data7 {w : World} {b : Nat} {t : TypeId} {x0 x1 x2 x3 x4 x5 x6 x7 x8 : Value} (h : Blk w b t #[x0, x1, x2, x3, x4, x5, x6, x7, x8]) (v2 v3 v4 v5 v6 v7 v8 : Value) : Blk (((((((w.setCell ⟨b, 2, none⟩ v2).setCell ⟨b, 3, none⟩ v3).setCell ⟨b, 4, none⟩ v4).setCell ⟨b, 5, none⟩ v5).setCell ⟨b, 6, none⟩ v6).setCell ⟨b, 7, none⟩ v7).setCell ⟨b, 8, none⟩ v8) b t #[x0, x1, v2, v3, v4, v5, v6, v7, v8] := Blk.cast (((((((h.put 2 v2).put 3 v3).put 4 v4).put 5 v5).put 6 v6).put 7 v7).put 8 v8) (by kernel_rfl)
theorem Blk.all9 {w : World} {b : Nat} {t : TypeId} {x0 x1 x2 x3 x4 x5 x6 x7 x8 : Value} (h : Blk w b t #[x0, x1, x2, x3, x4, x5, x6, x7, x8]) (v0 v1 v2 v3 v4 v5 v6 v7 v8 : Value) : Blk (((((((((w.setCell ⟨b, 0, none⟩ v0).setCell ⟨b, 1, none⟩ v1).setCell ⟨b, 2, none⟩ v2).setCell ⟨b, 3, none⟩ v3).setCell ⟨b, 4, none⟩ v4).setCell ⟨b, 5, none⟩ v5).setCell ⟨b, 6, none⟩ v6).setCell ⟨b, 7, none⟩ v7).setCell ⟨b, 8, none⟩ v8) b t #[v0, v1, v2, v3, v4, v5, v6, v7, v8] := Blk.cast (((((((((h.put 0 v0).put 1 v1).put 2 v2).put 3 v3).put 4 v4).put 5 v5).put 6 v6).put 7 v7).put 8 v8) (by kernel_rfl)
theorem Blk.all2 {w : World} {b : Nat} {t : TypeId} {x0 x1 : Value} (h : Blk w b t #[x0, x1]) (v0 v1 : Value) : Blk ((w.setCell ⟨b, 0, none⟩ v0).setCell ⟨b, 1, none⟩ v1) b t #[v0, v1] := Blk.cast ((h.put 0 v0).put 1 v1) (by kernel_rfl)
section
variable (w : World) {t t' t2 : TypeId} {cs cs' cs2 : Array Value} {o o2 : Obj}
theorem made1 : Blk (w.alloc (.cells cs t)) w.heap.size t cs := Blk.made w t cs
theorem Zay : Blk ((w.alloc (.cells cs t)).alloc o) w.heap.size t cs := (Blk.made w t cs).alloc _
theorem Z0R : Blk ((w.alloc o).alloc (.cells cs t)) (w.heap.size + 1) t cs := Blk.made' (by simp)
theorem Zax : Blk (((w.alloc (.cells cs t)).alloc o).alloc o2) w.heap.size t cs := ((Blk.made w t cs).alloc _).alloc _
theorem Z3M : Blk (((w.alloc o).alloc (.cells cs t)).alloc o2) (w.heap.size + 1) t cs := (Blk.made' (by simp)).alloc _
theorem Z2S : Blk (((w.alloc o).alloc o2).alloc (.cells cs t)) (w.heap.size + 1 + 1) t cs := Blk.made' (by simp)
theorem ZcB {o3 : Obj} : Blk ((((w.alloc o).alloc o2).alloc o3).alloc (.cells cs t)) (w.heap.size + 1 + 1 + 1) t cs := Blk.made' (by simp)
end
theorem size_alloc (w : World) (o : Obj) : (w.alloc o).heap.size = w.heap.size + 1 := by simp
theorem size_setCell (w : World) (p : Addr) (v : Value) : (w.setCell p v).heap.size = w.heap.size := by simp [World.setCell]
theorem size_drew (w : World) : w.drew.heap.size = w.heap.size := rfl
theorem Z6x (w : World) (n : Nat) : (w.drewN n).heap.size = w.heap.size := rfl
structure SteadyAll (w1 wx : World) : Prop where
 rule : ∀ b o, b < w1.heap.size → wx.cell? ⟨b, o, none⟩ = w1.cell? ⟨b, o, none⟩
structure SteadyBut (r : Nat) (w1 wx : World) : Prop where
 rule : ∀ b o, b < w1.heap.size → (b < r ∨ r < b) → wx.cell? ⟨b, o, none⟩ = w1.cell? ⟨b, o, none⟩
theorem SteadyAll.of {w1 wx : World} (h : Below w1.heap.size w1 wx) : SteadyAll w1 wx := ⟨fun b o hb => h.cell (p := ⟨b, o, none⟩) hb⟩
theorem SteadyBut.of {r : Nat} {w1 wx : World} (h : Below w1.heap.size w1 wx) : SteadyBut r w1 wx := ⟨fun b o hb _ => h.cell (p := ⟨b, o, none⟩) hb⟩
theorem SteadyBut.set {r : Nat} {w1 wx : World} (h : SteadyBut r w1 wx) (i : Nat) (v : Value) : SteadyBut r w1 (wx.setCell ⟨r, i, none⟩ v) :=
 ⟨fun b o hb hr => by rw [World.cell?_setCell_other _ _ _ _ (by intro e; injection e with e1; omega)]; exact h.rule b o hb hr⟩
section
variable {P : Program} {ops : Array Oper} {Q : Exit → Act → World → Prop} {md : Region.Mode} {S : World → Prop}
def Z4s (md : Region.Mode) (ops : Array Oper) : Array Bool → List Nat → Bool
 | _, [] => true
 | l, i :: is => Region.free md ops l i && (Region.ready md ops l).contains i && Z4s md ops (l.setIfInBounds i true) is
def Z00 (P : Program) (md : Region.Mode) (ops : Array Oper) (Q : Exit → Act → World → Prop) (S : World → Prop) (fuel : Nat) : List Nat → Array Bool → Act → World → Prop
 | [], l, a, w => wpAnyH P md ops Q S fuel l a w
 | i :: is, l, a, w => ∃ o v, ops[i]? = some o ∧ YieldsIf P ops S o v a ∧ Z00 P md ops Q S fuel is (l.setIfInBounds i true) (a.put o.dst v) w
theorem Z00.step {fuel i : Nat} {is : List Nat} {l : Array Bool} {a : Act} {w : World} {o : Oper} {v : Value} (ho : ops[i]? = some o) (hy : YieldsIf P ops S o v a)
 (h : Z00 P md ops Q S fuel is (l.setIfInBounds i true) (a.put o.dst v) w) : Z00 P md ops Q S fuel (i :: is) l a w := ⟨o, v, ho, hy, h⟩
theorem Z00.done {fuel : Nat} {l : Array Bool} {a : Act} {w : World} (h : wpAnyH P md ops Q S fuel l a w) : Z00 P md ops Q S fuel [] l a w := h
theorem Z95 {is : List Nat} {fuel : Nat} {l : Array Bool} {a : Act} {w : World} (hs : Region.noSelect ops = true) (ht : Z4s md ops l is = true)
 (hQ : ∀ c a d v w, Q (.panic c) (a.put d v) w → Q (.panic c) a w) (hS : S w) (h : Z00 P md ops Q S fuel is l a w) : wpAnyH P md ops Q S (fuel + is.length) l a w := by
 induction is generalizing l a with
 | nil => exact h
 | cons i is ih =>
   obtain ⟨o, v, ho, hy, h2⟩ := h
   simp only [Z4s, Bool.and_eq_true] at ht
   exact wpAnyH_take ho hs ht.1.1 ht.1.2 (fun c a w => hQ c a o.dst v w) hy hS (ih ht.2 h2)
end
theorem qY {α : Type} : (∀ (l : List α) (i : Nat) (a : α), l.toArray.setIfInBounds i a = (l.set i a).toArray) ∧ (∀ (a b : α) (l : List α), (a :: l).set 0 b = b :: l) ∧ (∀ (a b : α) (l : List α) (n : Nat), (a :: l).set (n + 1) b = a :: l.set n b) ∧
 (∀ (l : List α) (i : Nat) (h : i < l.toArray.size), l.toArray[i] = l[i]'(by simpa using h)) ∧ (∀ (a : α) (l : List α) (h : 0 < (a :: l).length), (a :: l)[0] = a) ∧ (∀ (a : α) (l : List α) (i : Nat) (h : i + 1 < (a :: l).length), (a :: l)[i + 1] = l[i]'(by simpa using h)) :=
 ⟨fun _ _ _ => List.setIfInBounds_toArray .., fun _ _ _ => rfl, fun _ _ _ _ => rfl, fun _ _ _ => rfl, fun _ _ _ => rfl, fun _ _ _ _ => rfl⟩
section
variable {P : Program} {ops : Array Oper} {Q : Exit → Act → World → Prop} {md : Region.Mode} {S : World → Prop}
theorem qT {fuel i : Nat} {is : List Nat} {l : Array Bool} {a : Act} {w : World} {o : Oper} {v : Value} (h : Z00 P md ops Q S fuel is (l.setIfInBounds i true) (a.put o.dst v) w) (ho : ops[i]? = some o := by rfl) (hy : YieldsIf P ops S o v a := by first | exact Or.inr ⟨by rfl, rfl⟩ | (refine Or.inl ⟨by rfl, ?_⟩; intro wq hSq; have hrd := hSq.rule; go_simp; with_reducible rfl)) : Z00 P md ops Q S fuel (i :: is) l a w := .step ho hy h
theorem qS (is : List Nat) {fuel : Nat} {l : Array Bool} {a : Act} {w : World} (h : Z00 P md ops Q S fuel is l a w) (hs : Region.noSelect ops = true := by kernel_rfl) (ht : Z4s md ops l is = true := by kernel_rfl)
 (hQ : ∀ c a d v w, Q (.panic c) (a.put d v) w → Q (.panic c) a w := by (intro _ _ d _ _ h; cases d <;> exact h)) (hS : S w := by assumption) : wpAnyH P md ops Q S (fuel + is.length) l a w := Z95 hs ht hQ hS h
theorem qH (i : Nat) {fuel : Nat} {listed : Array Bool} {a : Act} {w : World} {o : Oper} (h : ∀ K' : Act → World → Prop, Shut (∀ a w, S w → (S w → wpAnyH P md ops Q S fuel (listed.setIfInBounds i true) a w) → K' a w) → Oper.wp P o a w K' Q)
 (hr : Region.ready md ops listed = [i] := by kernel_rfl) (ho : ops[i]? = some o := by rfl) (hw : Region.wanted o (yielded ops a.tmps) = true := by rfl) : wpAnyH P md ops Q S (fuel + 1) listed a w :=
 wpAnyH_ready hr (by simp) (AllReadyH.cons ho (fun K hK => by rw [if_pos hw]; exact h K hK) AllReadyH.nil)
theorem qD {listed : Array Bool} {a : Act} {w : World} (h : Q .normal a w) (fuel : Nat) (hr : Region.ready md ops listed = [] := by kernel_rfl) : wpAnyH P md ops Q S fuel listed a w := wpAnyH_done hr h fuel
theorem qA {id : Nat} {a : Act} {w : World} (h : SteadyAll w w.drew → wpAnyH P .any ops Q (SteadyAll w) ops.size (Array.replicate ops.size false) a w.drew) (hm : P.follows .mixedOrders = true := by kernel_rfl) : (Code.region id ops true).wp P Q a w := wp_region_held_drew hm (SteadyAll.of (Below.refl _ _).drew) h
theorem qB (r : Nat) {id : Nat} {a : Act} {w : World} (h : SteadyBut r w w.drew → wpAnyH P .any ops Q (SteadyBut r w) ops.size (Array.replicate ops.size false) a w.drew) (hm : P.follows .mixedOrders = true := by kernel_rfl) : (Code.region id ops true).wp P Q a w := wp_region_held_drew hm (SteadyBut.of (Below.refl _ _).drew) h
end
theorem qE {r : Nat} {w1 wx : World} (h : SteadyBut r w1 wx := by repeat (first | with_reducible refine SteadyBut.set ?_ _ _ | exact SteadyBut.of qL)) : SteadyBut r w1 wx := h
theorem Z0s {a b : Bool} (h : a = b) : Ending.returned (.bool a) = .returned (.bool b) := by rw [h]
theorem Z3d (l : Int) (w : World) : Calls Tryz.prog 100 #[.int .i64 l] w fun e w' => e = .returned (.bool (Bt.Z3w l)) ∧ w = w' := by
 go_enter Tryz.func100, Tryz.ntmps100
 go_wp2
 all_goals go_ret
 ·have h : 104 ≤ l := by assumption
  exact ⟨Z0s (by simp [Bt.Z3w, h]), rfl⟩
 ·have h : l < 104 := by assumption
  exact ⟨Z0s (by simp [Bt.Z3w]; omega), rfl⟩
theorem Z0E (l g : Int) (w : World) : Calls Tryz.prog 75 #[.agg #[.int .i64 l, .int .i64 g]] w fun e w' => e = .returned (.bool (Bt.Z0w ⟨l, g⟩)) ∧ Below w.heap.size w w' := by
 rcases hin : Bt.Z3w l with _ | _
 all_goals
  have Hin := hid hin
  clear hin
  go_enter Tryz.func75, Tryz.ntmps75
  go_wp2_with (go_at_call 100; refine (Z3d _ _).mono ?_; rintro e w' ⟨rfl, rfl⟩; rw [Hin.out])
  all_goals go_ret
 ·exact ⟨Z0s (by simp [Bt.Z0w, Hin.out]), Z06 (Below.refl _ _) _⟩
 ·have h : 1 ≤ g := by assumption
  exact ⟨Z0s (by simp [Bt.Z0w, Hin.out, h]), Z06 (Below.refl _ _) _⟩
 ·have h : g < 1 := by assumption
  refine ⟨Z0s ?_, Z06 (Below.refl _ _) _⟩
  have h' : ¬ (1 ≤ g) := by omega
  simp [Bt.Z0w, Hin.out, h']
theorem Z1k (x : Int) (h0 : 0 ≤ x) (h1 : x < 18446744073709551616) (w : World) : Calls Tryz.prog 62 #[.int .u64 x] w
 fun e w' => e = .returned (.agg #[.int .i64 (Bt.Z0f x), .int .i64 (Bt.Z0u x), .int .u32 (Bt.Z1F x)]) ∧ Below w.heap.size w w' := by
 have e1 := Z6g x h0 h1
 have e2 := Z6G (x / 256) (by omega) (by omega)
 go_enter Tryz.func62, Tryz.ntmps62
 go_wp2
 refine bodyPost_ret (Z3Y rfl _ _ w.heap.size 122 _ _ rfl (Blk.made _ _ _) Tryz.underlying122 rfl (by kernel_rfl)) rfl ⟨rfl, Z06 (Below.refl _ _) _⟩
theorem Z2C (l g : Int) (w : World) : Calls Tryz.prog 44 #[.agg #[.int .i64 l, .int .i64 g]] w fun e w' => e = .returned (.int .u32 (Bt.pack ⟨l, g⟩)) ∧ Below w.heap.size w w' := by
 rcases hin : Bt.Z0w ⟨l, g⟩ with _ | _
 ·have Hin := hid hin
  clear hin
  go_enter Tryz.func44, Tryz.ntmps44
  go_wp2_with (go_at_call 75; refine (Z0E _ _ _).mono ?_; rintro e w1 ⟨rfl, hb⟩; rw [Hin.out])
  all_goals go_ret
  exact ⟨Z4L (by simp [Bt.pack, Hin.out]), Z0O (Z06 (Below.refl _ _) _) hb⟩
 ·have Hin := hid hin
  have hv : 104 ≤ l ∧ l < 256 ∧ 1 ≤ g ∧ g ≤ 16777215 := by
   simp [Bt.Z0w, Bt.Z3w] at hin
   omega
  clear hin
  go_enter Tryz.func44, Tryz.ntmps44
  go_wp2_with fail
  go_at_call 75
  refine (Z0E _ _ _).mono ?_
  rintro e w1 ⟨rfl, hb⟩
  have B1 := (Blk.made w 27 #[.int .i64 l, .int .i64 g]).kept hb
  have k1 := B1.cell
  rw [Hin.out]
  have eb := Z8q 8 (g * 256) l (by omega) (by omega) (by omega) (by omega) (by omega) (by omega)
  go_wp2
  go_ret
  exact ⟨Z4L (by simp [Bt.pack, Hin.out]), Z0O (Z06 (Below.refl _ _) _) hb⟩
theorem Zc0 {a b : Int} (h : a = b) : Ending.returned (.int .u64 a) = .returned (.int .u64 b) := by rw [h]
theorem Z2h (k g a : Int) (hk : -9223372036854775808 ≤ k ∧ k ≤ 9223372036854775807) (hg : -9223372036854775808 ≤ g ∧ g ≤ 9223372036854775807) (ha : 0 ≤ a ∧ a < 4294967296) (w : World) :
 Calls Tryz.prog 99 #[.agg #[.int .i64 k, .int .i64 g, .int .u32 a]] w fun e w' => e = .returned (.int .u64 (Bt.Z1v k g a)) ∧ Below w.heap.size w w' := by
 have hk8 : IntKind.u64.wrap k % 256 = k % 256 := by rw [IntKind.wrap_u64]; omega
 have hg24 : IntKind.u64.wrap g % 16777216 = g % 16777216 := by rw [IntKind.wrap_u64]; omega
 have e1 := Z6g (IntKind.u64.wrap k) (by rw [IntKind.wrap_u64]; omega) (by rw [IntKind.wrap_u64]; omega)
 have e2 := Z6G (IntKind.u64.wrap g) (by rw [IntKind.wrap_u64]; omega) (by rw [IntKind.wrap_u64]; omega)
 rw [hk8] at e1
 rw [hg24] at e2
 have e3 := or_u64_join' 8 (k % 256) (g % 16777216 * 256) (by omega) (by omega) (by omega) (by omega) (by omega) (by omega)
 have e4 := or_u64_join' 32 (k % 256 + g % 16777216 * 256) (a * 4294967296) (by omega) (by omega) (by omega) (by omega) (by omega) (by omega)
 clear hk8 hg24
 go_enter Tryz.func99, Tryz.ntmps99
 go_wp2
 go_ret
 exact ⟨Zc0 (by simp [Bt.Z1v]), qL⟩
theorem Z1O (p : Bt.Page) (hp : p.Ok) (w : World) :
 Calls Tryz.prog 66 #[.agg p.cells] w fun e w' => e = .returned (.agg #[.int .i64 (Bt.Z0f p.d0), .int .i64 (Bt.Z0u p.d0), .int .u32 (Bt.Z1F p.d0)]) ∧ Below w.heap.size w w' := by
 unfold Bt.Page.cells
 have h0 := hp.d0
 go_enter Tryz.func66, Tryz.ntmps66
 go_wp2_with fail
 go_at_call 62
 refine (Z1k p.d0 h0.1 h0.2 _).mono ?_
 rintro e w1 ⟨rfl, hb⟩
 have B2 := (Z0R w).kept hb
 have k2 := B2.cell
 have f2 := B2.free
 go_wp2
 exact bodyPost_ret (Z3Y rfl _ _ (w.heap.size + 1) 122 _ _ rfl (((B2.put 0 _).put 1 _).put 2 _) Tryz.underlying122 rfl (by kernel_rfl)) rfl ⟨rfl, qL⟩
theorem Z1y (p : Bt.Page) (hp : p.Ok) (w : World) : Calls Tryz.prog 80 #[.agg p.cells] w fun e w' => e = .returned (.bool (Bt.locked p)) ∧ Below w.heap.size w w' := by
 unfold Bt.Page.cells
 have h0 := hp.head
 have e1 := Z6g p.head h0.1 h0.2
 go_enter Tryz.func80, Tryz.ntmps80
 go_wp2
 go_ret
 refine ⟨Z0s ?_, qL⟩
 unfold Bt.locked bne
 congr 1
structure PgRow (w : World) (v : Value) (l : List Bt.Page) : Prop where
 ok : ∀ p ∈ l, p.Ok
 len : l.length ≤ maxLen
 form : (v = .slice none 0 0 ∧ l = []) ∨ ∃ b cap, v = .slice (some ⟨b, 0, none⟩) l.length cap ∧ b < w.heap.size ∧ ∀ (i : Nat) (p : Bt.Page), l[i]? = some p → ∀ (j : Nat) (u : Value), p.cells[j]? = some u → w.cell? ⟨b, i * 9 + j, none⟩ = some u
theorem PgRow.kept {w w' : World} {v : Value} {l : List Bt.Page} {B : Nat} (h : PgRow w v l) (hb : Below B w w') (hB : ∀ b n c, v = .slice (some ⟨b, 0, none⟩) n c → b < B) : PgRow w' v l := by
 refine ⟨h.ok, h.len, ?_⟩
 rcases h.form with h1 | ⟨b, cap, hv, hlt, hcells⟩
 ·exact .inl h1
 ·exact .inr ⟨b, cap, hv, Nat.lt_of_lt_of_le hlt hb.size, fun i p hi j u hu => by rw [hb.cell (p := ⟨b, i * 9 + j, none⟩) (hB b _ _ hv)]; exact hcells i p hi j u hu⟩
theorem PgRow.below {w w' : World} {v : Value} {l : List Bt.Page} (h : PgRow w v l) (hb : Below w.heap.size w w') : PgRow w' v l := by
 refine h.kept hb fun b n c hv => ?_
 rcases h.form with ⟨h1, _⟩ | ⟨b', cap, hv', hlt, _⟩
 ·rw [hv] at h1; simp at h1
 ·rw [hv] at hv'; simp at hv'; omega
theorem Z3g (x : Int) (h0 : 0 ≤ x) (h1 : x < 4294967296) (w : World) : Calls Tryz.prog 40 #[.int .u32 x] w
 fun e w' => e = .returned (.agg #[.int .i64 (x % 256), .int .i64 (x / 256)]) ∧ Below w.heap.size w w' := by
 have e1 := Z5j x h0 h1
 go_enter Tryz.func40, Tryz.ntmps40
 go_wp2
 refine bodyPost_ret (Z3Y rfl _ _ w.heap.size 27 _ _ rfl (Blk.made _ _ _) Tryz.underlying27 rfl (by kernel_rfl)) rfl ⟨rfl, Z06 (Below.refl _ _) _⟩
theorem Z9j (known : List Bt.Page) (line : Int) (k : Nat) (h : k < known.length) (he : known[k].line = line) : Bt.latest (known.take (k + 1)) line = some known[k] := by
 unfold Bt.latest
 rw [List.take_succ_eq_append_getElem h, List.reverse_append]
 simp [he]
theorem ZaJ (known : List Bt.Page) (line : Int) (k : Nat) (h : k < known.length) (he : ¬ known[k].line = line) : Bt.latest (known.take (k + 1)) line = Bt.latest (known.take k) line := by
 unfold Bt.latest
 rw [List.take_succ_eq_append_getElem h, List.reverse_append]
 simp [he]
theorem Z6y {w : World} {b : Nat} {known : List Bt.Page} (hcells : ∀ (i : Nat) (p : Bt.Page), known[i]? = some p → ∀ (j : Nat) (u : Value), p.cells[j]? = some u → w.cell? ⟨b, i * 9 + j, none⟩ = some u) (k : Nat) (h : k < known.length) :
 w.rangeAt b (k * 9) known[k].cells.toList := fun j u hu => hcells k known[k] (List.getElem?_eq_getElem h) j u (by simpa using hu)
theorem nine {w : World} {b k : Nat} {p : Bt.Page} (h : w.rangeAt b (k * 9) p.cells.toList) :
 w.cell? ⟨b, k * 9, none⟩ = some (.int .i64 p.line) ∧ w.cell? ⟨b, k * 9 + 1, none⟩ = some (.int .u64 p.head) ∧ w.cell? ⟨b, k * 9 + 2, none⟩ = some (.int .u64 p.d0) ∧
 w.cell? ⟨b, k * 9 + 3, none⟩ = some (.int .u64 p.d1) ∧ w.cell? ⟨b, k * 9 + 4, none⟩ = some (.int .u64 p.d2) ∧ w.cell? ⟨b, k * 9 + 5, none⟩ = some (.int .u64 p.d3) ∧
 w.cell? ⟨b, k * 9 + 6, none⟩ = some (.int .u64 p.d4) ∧ w.cell? ⟨b, k * 9 + 7, none⟩ = some (.int .u64 p.d5) ∧ w.cell? ⟨b, k * 9 + 8, none⟩ = some (.int .u64 p.d6) :=
 ⟨h 0 _ rfl, h 1 _ rfl, h 2 _ rfl, h 3 _ rfl, h 4 _ rfl, h 5 _ rfl, h 6 _ rfl, h 7 _ rfl, h 8 _ rfl⟩
theorem Z1W (known : List Bt.Page) (v : Value) (line : Int) (w : World) (hk : PgRow w v known) : Calls Tryz.prog 78 #[v, .int .i64 line] w
 fun e w' => e = .returned (.tuple #[.agg ((Bt.latest known line).getD Bt.Z0l).cells, .bool (Bt.latest known line).isSome]) ∧ Below w.heap.size w w' := by
 rcases hk.form with ⟨rfl, rfl⟩ | ⟨b, cap, rfl, hlt, hcells⟩
 ·go_enter Tryz.func78, Tryz.ntmps78
  go_wp2
  refine wp_loop_rounds 1 ?_
  rw [rounds_succ]
  go_wp2
  simp [bodyPost, results, Tryz.results78, go_sem]
  exact ⟨⟨rfl, rfl⟩, qL⟩
 ·have hlen := hk.len
  unfold maxLen at hlen
  have Hc := hid hcells
  clear hcells
  go_enter Tryz.func78, Tryz.ntmps78
  go_wp2
  go_loop [6] (fun i => ∃ k : Nat, k ≤ known.length ∧ i = .int .i64 ((k : Int) - 1) ∧ Hid (Bt.latest (known.take k) line = Bt.latest known line)) (fun i => (intOf i + 1).toNat)
  case atStart => exact ⟨known.length, Nat.le_refl _, rfl, hid (by rw [List.take_length])⟩
  case round =>
   obtain ⟨k, hkl, rfl, HL⟩ := hrel
   rcases k with _ | k
   ·have HN : Hid (none = Bt.latest known line) := hid HL.out
    go_wp2
    simp [bodyPost, results, Tryz.results78, go_sem]
    rw [← HN.out]
    exact ⟨⟨rfl, rfl⟩, qL⟩
   ·have hr := Z6y Hc.out k (by omega)
    obtain ⟨c0, c1, c2, c3, c4, c5, c6, c7, c8⟩ := nine hr
    clear hr
    have h0' : (((k + 1 : Nat) : Int) - 1) = (k : Int) := by omega
    rw [h0']
    by_cases he : known[k].line = line
    ·have hy := hid (Z9j known line k (by omega) he)
     clear h0'
     rw [he] at c0
     obtain ⟨p, hp⟩ : ∃ p, p = known[k] := ⟨_, rfl⟩
     have HP := hid hp
     rw [← hp] at c1 c2 c3 c4 c5 c6 c7 c8
     clear hp
     go_wp2
     simp [bodyPost, results, Tryz.results78, go_sem]
     rw [← HL.out, hy.out, ← HP.out]
     have hl : p.line = line := by rw [HP.out]; exact he
     exact ⟨⟨by rw [← hl]; rfl, rfl⟩, qL⟩
    ·go_wp2
     go_round
     case rel => exact ⟨k, by omega, rfl, by rw [← ZaJ known line k (by omega) he]; exact HL⟩
     case measure => simp [intOf]
def Bt.Look.page : Bt.Look → Bt.Page
 | .found p => p
 | _ => Bt.Z0l
def Bt.Look.have_ : Bt.Look → Bool
 | .found _ => true
 | _ => false
def Bt.Look.code : Bt.Look → Int
 | .bad c => c
 | _ => 0
theorem Z1V {known : List Bt.Page} {line : Int} {p : Bt.Page} (h : Bt.latest known line = some p) : p ∈ known ∧ p.line = line := by
 unfold Bt.latest at h
 have h1 := List.mem_of_find?_eq_some h
 have h2 := List.find?_some h
 exact ⟨by simpa using h1, by simpa using h2⟩
def Z2r (known : List Bt.Page) (p : Bt.Ptr) (kind : Int) (locks : Bool) (w : World) (e : Ending) (w' : World) : Prop :=
 e = .returned (.tuple #[.agg (Bt.lookup known p kind locks).page.cells, .bool (Bt.lookup known p kind locks).have_, .int .i64 (Bt.lookup known p kind locks).code]) ∧ Below w.heap.size w w'
theorem wG9 {P : Prop} (h : P := by
 unfold Bt.Ptr.cells
 go_enter Tryz.func65, Tryz.ntmps65
 first
  | clear tg61
    go_wp2_with (go_at_call 75; refine (Z0E _ _ _).mono ?_; rintro e w1 ⟨rfl, hb⟩; rw [Hv.out]; ((obtain ⟨hc1, hf1, hs1⟩ := qR hb); (try have := qN0 w w1); (try have := qN1 w w1)))
    have B := (Z0R w (t := 25) (cs := Bt.Z0l.cells)).kept hb
    refine bodyPost_ret (Z0W rfl _ _ (w.heap.size + 1) _ _ _ rfl (B.put9 _ _ _ _ _ _ _ _ _) Tryz.underlying25 rfl (by kernel_rfl)) rfl ⟨?_, qL⟩
    simp only [Bt.lookup, Hv.out]
    rfl
  | clear tg62
    go_wp2_with fail
    go_at_call 75; refine (Z0E _ _ _).mono ?_; rintro e w1 ⟨rfl, hb⟩; rw [Hv.out]; ((obtain ⟨hc1, hf1, hs1⟩ := qR hb); (try have := qN0 w w1); (try have := qN1 w w1))
    have P1 : Hid (PgRow w1 v known) := hid (Hk.out.below (Z0O qL hb))
    go_wp2_with fail
    go_at_call 78; refine (Z1W known v _ _ P1.out).mono ?_; rintro e w2 ⟨rfl, hb2⟩; rw [Hl.out]; ((obtain ⟨hc2, hf2, hs2⟩ := qR hb2); (try have := qN0 w w2); (try have := qN1 w w2))
    first
     | clear tg63
       simp only [Option.getD_none, Option.isSome_none, Bt.Page.cells, Bt.Z0l]
       go_wp2
       have B := ((Z0R w (t := 25) (cs := Bt.Z0l.cells)).kept hb).kept hb2
       (refine bodyPost_ret (Z0W rfl _ _ (w.heap.size + 1) _ _ _ rfl (by exact qK) Tryz.underlying25 rfl (by kernel_rfl)) rfl ⟨?_, ?_⟩)
       ·simp only [Bt.lookup, Hv.out, Hl.out]; rfl
       ·exact qL
     | clear tg64
       simp only [Option.getD_some, Option.isSome_some, Bt.Page.cells]
       go_wp2_with fail
       go_at_call 66; refine (Z1O page Hpok.out _).mono ?_; rintro e w3 ⟨rfl, hb3⟩; ((obtain ⟨hc3, hf3, hs3⟩ := qR hb3); (try have := qN0 w w3); (try have := qN1 w w3); (try have := qN0 w2 w3); (try have := qN1 w2 w3))
       have B := (((Z0R w (t := 25) (cs := Bt.Z0l.cells)).kept hb).kept hb2).alloc (.cells page.cells 25) |>.kept hb3
       simp only [Bt.Z0l, Bt.Page.cells] at B
       first
        | clear tg65
          go_wp2_with fail
          go_at_call 80; refine (Z1y page Hpok.out _).mono ?_; rintro e w4 ⟨rfl, hb4⟩; rw [HK.out]; ((obtain ⟨hc4, hf4, hs4⟩ := qR hb4); (try have := qN0 w w4); (try have := qN1 w w4); (try have := qN0 w2 w4); (try have := qN1 w2 w4); (try have := qN0 w3 w4); (try have := qN1 w3 w4))
          have B4 := (B.alloc _).kept hb4
          go_wp2
          all_goals ((refine bodyPost_ret (Z0W rfl _ _ (w.heap.size + 1) _ _ _ rfl (by have B := B4; exact qK) Tryz.underlying25 rfl (by kernel_rfl)) rfl ⟨?_, ?_⟩); (rotate_left; exact qL); (rw [HX.out, set9]; rfl))
        | clear tg66
          go_wp2
          all_goals ((refine bodyPost_ret (Z0W rfl _ _ (w.heap.size + 1) _ _ _ rfl (by exact qK) Tryz.underlying25 rfl (by kernel_rfl)) rfl ⟨?_, ?_⟩); (rotate_left; exact qL); (rw [HX.out, set9]; rfl))) : P := h
theorem Z9h (known : List Bt.Page) (v : Value) (p : Bt.Ptr) (kind : Int) (locks : Bool) (w : World) (Hv : Hid (Bt.Z0w p = false)) : Calls Tryz.prog 65 #[v, .agg p.cells, .int .i64 kind, .bool locks] w (Z2r known p kind locks w) := by
 have tg61 := trivial
 exact wG9
theorem Z8v (known : List Bt.Page) (v : Value) (p : Bt.Ptr) (kind : Int) (locks : Bool) (w : World) (Hk : Hid (PgRow w v known)) (Hv : Hid (Bt.Z0w p = true)) (Hl : Hid (Bt.latest known p.line = none)) :
 Calls Tryz.prog 65 #[v, .agg p.cells, .int .i64 kind, .bool locks] w (Z2r known p kind locks w) := by
 have tg62 := trivial
 have tg63 := trivial
 exact wG9
theorem sG12 {P : Prop} (h : P := by
 have tg62 := trivial
 have tg64 := trivial
 have tg66 := trivial
 exact wG9) : P := h
theorem ZaH (known : List Bt.Page) (v : Value) (p : Bt.Ptr) (kind : Int) (page : Bt.Page) (w : World) (Hk : Hid (PgRow w v known)) (Hv : Hid (Bt.Z0w p = true)) (Hl : Hid (Bt.latest known p.line = some page))
 (h1 : Bt.Z0f page.d0 = 0) :
 Calls Tryz.prog 65 #[v, .agg p.cells, .int .i64 kind, .bool false] w (Z2r known p kind false w) := by
 have Hpok := hid (Hk.out.ok page (Z1V Hl.out).1)
 have HX : Hid (Bt.lookup known p kind false = .bad 11) := hid (by simp only [Bt.lookup, Hv.out, Hl.out]; simp [h1])
 have b1 : (Bt.Z0f page.d0 == 0) = true := by simp [h1]
 clear h1
 exact sG12
theorem ZaG (known : List Bt.Page) (v : Value) (p : Bt.Ptr) (kind : Int) (page : Bt.Page) (w : World) (Hk : Hid (PgRow w v known)) (Hv : Hid (Bt.Z0w p = true)) (Hl : Hid (Bt.latest known p.line = some page))
 (h1 : ¬ Bt.Z0f page.d0 = 0) (h2 : ¬ Bt.Z0u page.d0 = p.gen) :
 Calls Tryz.prog 65 #[v, .agg p.cells, .int .i64 kind, .bool false] w (Z2r known p kind false w) := by
 have Hpok := hid (Hk.out.ok page (Z1V Hl.out).1)
 have HX : Hid (Bt.lookup known p kind false = .bad 11) := hid (by simp only [Bt.lookup, Hv.out, Hl.out]; simp [h1, h2])
 have b1 : (Bt.Z0f page.d0 == 0) = false := by simp [h1]
 have b2 : (Bt.Z0u page.d0 != p.gen) = true := by simp [h2]
 clear h1 h2
 exact sG12
theorem ZaF (known : List Bt.Page) (v : Value) (p : Bt.Ptr) (kind : Int) (page : Bt.Page) (w : World) (Hk : Hid (PgRow w v known)) (Hv : Hid (Bt.Z0w p = true)) (Hl : Hid (Bt.latest known p.line = some page))
 (h1 : ¬ Bt.Z0f page.d0 = 0) (h2 : Bt.Z0u page.d0 = p.gen) (h3 : ¬ Bt.Z0f page.d0 = kind) :
 Calls Tryz.prog 65 #[v, .agg p.cells, .int .i64 kind, .bool false] w (Z2r known p kind false w) := by
 have Hpok := hid (Hk.out.ok page (Z1V Hl.out).1)
 have HX : Hid (Bt.lookup known p kind false = .bad 14) := hid (by simp only [Bt.lookup, Hv.out, Hl.out]; simp [h1, h2, h3])
 have b1 : (Bt.Z0f page.d0 == 0) = false := by simp [h1]
 have b2 : (Bt.Z0u page.d0 != p.gen) = false := by simp [h2]
 have b3 : (Bt.Z0f page.d0 != kind) = true := by simp [h3]
 clear h1 h2 h3
 exact sG12
theorem ZaE (known : List Bt.Page) (v : Value) (p : Bt.Ptr) (kind : Int) (page : Bt.Page) (w : World) (Hk : Hid (PgRow w v known)) (Hv : Hid (Bt.Z0w p = true)) (Hl : Hid (Bt.latest known p.line = some page))
 (h1 : ¬ Bt.Z0f page.d0 = 0) (h2 : Bt.Z0u page.d0 = p.gen) (h3 : Bt.Z0f page.d0 = kind) :
 Calls Tryz.prog 65 #[v, .agg p.cells, .int .i64 kind, .bool false] w (Z2r known p kind false w) := by
 have Hpok := hid (Hk.out.ok page (Z1V Hl.out).1)
 have HX : Hid (Bt.lookup known p kind false = .found page) := hid (by simp only [Bt.lookup, Hv.out, Hl.out]; simp [← h3, h1, h2])
 have b1 : (Bt.Z0f page.d0 == 0) = false := by simp [h1]
 have b2 : (Bt.Z0u page.d0 != p.gen) = false := by simp [h2]
 have b3 : (Bt.Z0f page.d0 != kind) = false := by simp [h3]
 clear h1 h2 h3
 exact sG12
theorem sG7 {P : Prop} (h : P := by
 have tg62 := trivial
 have tg64 := trivial
 have tg65 := trivial
 exact wG9) : P := h
theorem ZaC (known : List Bt.Page) (v : Value) (p : Bt.Ptr) (kind : Int) (page : Bt.Page) (w : World) (Hk : Hid (PgRow w v known)) (Hv : Hid (Bt.Z0w p = true)) (Hl : Hid (Bt.latest known p.line = some page))
 (HK : Hid (Bt.locked page = false)) (h1 : Bt.Z0f page.d0 = 0) :
 Calls Tryz.prog 65 #[v, .agg p.cells, .int .i64 kind, .bool true] w (Z2r known p kind true w) := by
 have Hpok := hid (Hk.out.ok page (Z1V Hl.out).1)
 have HX : Hid (Bt.lookup known p kind true = .bad 11) := hid (by simp only [Bt.lookup, Hv.out, Hl.out]; simp [h1, HK.out])
 have b1 : (Bt.Z0f page.d0 == 0) = true := by simp [h1]
 clear h1
 exact sG7
theorem ZaB (known : List Bt.Page) (v : Value) (p : Bt.Ptr) (kind : Int) (page : Bt.Page) (w : World) (Hk : Hid (PgRow w v known)) (Hv : Hid (Bt.Z0w p = true)) (Hl : Hid (Bt.latest known p.line = some page))
 (HK : Hid (Bt.locked page = false)) (h1 : ¬ Bt.Z0f page.d0 = 0) (h2 : ¬ Bt.Z0u page.d0 = p.gen) :
 Calls Tryz.prog 65 #[v, .agg p.cells, .int .i64 kind, .bool true] w (Z2r known p kind true w) := by
 have Hpok := hid (Hk.out.ok page (Z1V Hl.out).1)
 have HX : Hid (Bt.lookup known p kind true = .bad 11) := hid (by simp only [Bt.lookup, Hv.out, Hl.out]; simp [h1, h2, HK.out])
 have b1 : (Bt.Z0f page.d0 == 0) = false := by simp [h1]
 have b2 : (Bt.Z0u page.d0 != p.gen) = true := by simp [h2]
 clear h1 h2
 exact sG7
theorem ZaA (known : List Bt.Page) (v : Value) (p : Bt.Ptr) (kind : Int) (page : Bt.Page) (w : World) (Hk : Hid (PgRow w v known)) (Hv : Hid (Bt.Z0w p = true)) (Hl : Hid (Bt.latest known p.line = some page))
 (HK : Hid (Bt.locked page = false)) (h1 : ¬ Bt.Z0f page.d0 = 0) (h2 : Bt.Z0u page.d0 = p.gen) (h3 : ¬ Bt.Z0f page.d0 = kind) :
 Calls Tryz.prog 65 #[v, .agg p.cells, .int .i64 kind, .bool true] w (Z2r known p kind true w) := by
 have Hpok := hid (Hk.out.ok page (Z1V Hl.out).1)
 have HX : Hid (Bt.lookup known p kind true = .bad 14) := hid (by simp only [Bt.lookup, Hv.out, Hl.out]; simp [h1, h2, h3, HK.out])
 have b1 : (Bt.Z0f page.d0 == 0) = false := by simp [h1]
 have b2 : (Bt.Z0u page.d0 != p.gen) = false := by simp [h2]
 have b3 : (Bt.Z0f page.d0 != kind) = true := by simp [h3]
 clear h1 h2 h3
 exact sG7
theorem Zaz (known : List Bt.Page) (v : Value) (p : Bt.Ptr) (kind : Int) (page : Bt.Page) (w : World) (Hk : Hid (PgRow w v known)) (Hv : Hid (Bt.Z0w p = true)) (Hl : Hid (Bt.latest known p.line = some page))
 (HK : Hid (Bt.locked page = false)) (h1 : ¬ Bt.Z0f page.d0 = 0) (h2 : Bt.Z0u page.d0 = p.gen) (h3 : Bt.Z0f page.d0 = kind) :
 Calls Tryz.prog 65 #[v, .agg p.cells, .int .i64 kind, .bool true] w (Z2r known p kind true w) := by
 have Hpok := hid (Hk.out.ok page (Z1V Hl.out).1)
 have HX : Hid (Bt.lookup known p kind true = .found page) := hid (by simp only [Bt.lookup, Hv.out, Hl.out]; simp [← h3, h1, h2, HK.out])
 have b1 : (Bt.Z0f page.d0 == 0) = false := by simp [h1]
 have b2 : (Bt.Z0u page.d0 != p.gen) = false := by simp [h2]
 have b3 : (Bt.Z0f page.d0 != kind) = false := by simp [h3]
 clear h1 h2 h3
 exact sG7
theorem ZaD (known : List Bt.Page) (v : Value) (p : Bt.Ptr) (kind : Int) (page : Bt.Page) (w : World) (Hk : Hid (PgRow w v known)) (Hv : Hid (Bt.Z0w p = true)) (Hl : Hid (Bt.latest known p.line = some page))
 (HK : Hid (Bt.locked page = true)) :
 Calls Tryz.prog 65 #[v, .agg p.cells, .int .i64 kind, .bool true] w (Z2r known p kind true w) := by
 have Hpok := hid (Hk.out.ok page (Z1V Hl.out).1)
 have HX : Hid (Bt.lookup known p kind true = .bad 3) := hid (by simp only [Bt.lookup, Hv.out, Hl.out]; simp [HK.out])
 exact sG7
theorem Z6A (known : List Bt.Page) (v : Value) (p : Bt.Ptr) (kind : Int) (locks : Bool) (w : World) (hk : PgRow w v known) : Calls Tryz.prog 65 #[v, .agg p.cells, .int .i64 kind, .bool locks] w (Z2r known p kind locks w) := by
 have Hk := hid hk
 rcases hv : Bt.Z0w p with _ | _
 ·exact Z9h known v p kind locks w (hid hv)
 ·have Hv := hid hv
  rcases hl : Bt.latest known p.line with _ | page
  ·exact Z8v known v p kind locks w Hk Hv (hid hl)
  ·have Hl := hid hl
   rcases locks with _ | _
   ·by_cases h1 : Bt.Z0f page.d0 = 0
    ·exact ZaH known v p kind page w Hk Hv Hl h1
    ·by_cases h2 : Bt.Z0u page.d0 = p.gen
     ·by_cases h3 : Bt.Z0f page.d0 = kind
      ·exact ZaE known v p kind page w Hk Hv Hl h1 h2 h3
      ·exact ZaF known v p kind page w Hk Hv Hl h1 h2 h3
     ·exact ZaG known v p kind page w Hk Hv Hl h1 h2
   ·rcases hk : Bt.locked page with _ | _
    ·have HK := hid hk
     by_cases h1 : Bt.Z0f page.d0 = 0
     ·exact ZaC known v p kind page w Hk Hv Hl HK h1
     ·by_cases h2 : Bt.Z0u page.d0 = p.gen
      ·by_cases h3 : Bt.Z0f page.d0 = kind
       ·exact Zaz known v p kind page w Hk Hv Hl HK h1 h2 h3
       ·exact ZaA known v p kind page w Hk Hv Hl HK h1 h2 h3
      ·exact ZaB known v p kind page w Hk Hv Hl HK h1 h2
    ·exact ZaD known v p kind page w Hk Hv Hl (hid hk)
end Go.Proofs.YtjmpekanlmepmaaGreatDoor
