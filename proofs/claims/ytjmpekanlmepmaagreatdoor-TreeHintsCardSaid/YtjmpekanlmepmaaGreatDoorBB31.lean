/- Package bodegalaw24: the place of a key that is greater than all others. -/
import Derived.Test.YtjmpekanlmepmaaGreatDoorBB29
import Derived.Test.YtjmpekanlmepmaaGreatDoorBB06
import Derived.Test.YtjmpekanlmepmaaGreatDoorBB30
import Derived.Test.YtjmpekanlmepmaaGreatDoorBB17
import Derived.Test.YtjmpekanlmepmaaGreatDoorBB15
import Derived.Test.YtjmpekanlmepmaaGreatDoorBB16
import Derived.Test.YtjmpekanlmepmaaGreatDoorBB21
import Derived.Test.YtjmpekanlmepmaaGreatDoorBB22
import Derived.Test.YtjmpekanlmepmaaGreatDoorBB23
import Derived.Test.YtjmpekanlmepmaaGreatDoorBB05
import Derived.Test.YtjmpekanlmepmaaGreatDoorBB28
import Derived.Test.YtjmpekanlmepmaaGreatDoorBB25
import Derived.Test.YtjmpekanlmepmaaGreatDoorBB24
set_option linter.all false
set_option maxRecDepth 20000
set_option maxHeartbeats 8000000
open Go.Lib (hid)
namespace Go.Proofs.YtjmpekanlmepmaaGreatDoor
open Go.RowKit
theorem Zaq {w : World} {base size : Nat} {e : TypeId} {v : Value} {xs : List Value} (h : w.ownsRow base e size v 0 xs) : ∃ p cap, v = .slice p 0 cap := by
 rcases h.2 with ⟨rfl, _⟩ | ⟨g, cap, _, rfl, _⟩
 ·exact ⟨_, _, rfl⟩
 ·exact ⟨_, _, rfl⟩
def Z0z (l : List Int) : List Value := l.map (Value.int .u32)
def placeOf : List Int → Int → Nat
 | [], _ => 0
 | k :: ks, key => if k < key then placeOf ks key + 1 else 0
def Z2p (keys : List Int) (key : Int) : Bool := match keys[placeOf keys key]? with | some k => decide (k = key) | none => false
theorem Z9e (keys : List Int) (key : Int) (k : Nat) (hk : k < keys.length) (hb : ∀ j (h : j < k), keys[j]'(by omega) < key) (hge : key ≤ keys[k]) : placeOf keys key = k := by
 induction keys generalizing k with
 | nil => simp at hk
 | cons x xs ih =>
   cases k with
   | zero =>
     simp only [List.getElem_cons_zero] at hge
     simp only [placeOf, if_neg (show ¬ x < key by omega)]
   | succ k =>
     have h0 := hb 0 (by omega)
     simp only [List.getElem_cons_zero] at h0
     simp only [placeOf, if_pos h0]
     rw [ih k (by simpa using hk) (fun j h => by have := hb (j + 1) (by omega); simpa using this) (by simpa using hge)]
theorem Z8n (keys : List Int) (key : Int) (hb : ∀ k ∈ keys, k < key) : placeOf keys key = keys.length := by
 induction keys with
 | nil => rfl
 | cons x xs ih => simp only [placeOf, if_pos (hb x (by simp)), List.length_cons, ih (fun k h => hb k (by simp [h]))]
theorem Z4u (keys : List Int) (key : Int) : placeOf keys key ≤ keys.length := by
 induction keys with
 | nil => exact Nat.le_refl _
 | cons x xs ih => simp only [placeOf]; split <;> simp <;> omega
theorem Z9o (keys : List Int) (key : Int) (k : Nat) (hk : k < keys.length) (h : placeOf keys key = k) : Z2p keys key = decide (keys[k] = key) := by
 unfold Z2p
 rw [h, List.getElem?_eq_getElem hk]
theorem Z8y (keys : List Int) (key : Int) (h : placeOf keys key = keys.length) : Z2p keys key = false := by
 unfold Z2p
 rw [h, List.getElem?_eq_none (Nat.le_refl _)]
def SrcAt (w : World) (v : Value) (m : Nat) (news : List Value) : Prop :=
 (v = .slice none 0 0 ∧ m = 0 ∧ news = []) ∨ ∃ ad c, v = .slice (some ad) m c ∧ (∀ j u, news[j]? = some u → w.cell? (ad.add j) = some u) ∧ (∀ u ∈ news, u.oneCell' = true)
theorem Z0m {P : Program} {w : World} {o : Oper} {a : Act} {K : Act → World → Prop} {Q : Exit → Act → World → Prop} (s x : Operand) (t : TypeId)
 (ho : o.op = .call { callee := .builtin .append, args := #[s, x], argTypes := #[t, t] })
 (base : Nat) (e : TypeId) (i : TypeInfo) (z : Value) (size bytes : Nat) (ht : P.underlying t = some (.slice e)) (hi : P.info? e = some i) (hz : i.zero = some z)
 (hsize : i.size = size) (hby : i.bytes = bytes) (hzs : z.cells.size = size) (hsz : 0 < size)
 (v : Value) (n : Nat) (xs : List Value) (hs : a.eval s = v) (hown : w.ownsRow base e size v n xs)
 (vx : Value) (m : Nat) (news : List Value) (hx : a.eval x = vx) (hsrc : SrcAt w vx m news) (hl : news.length = m * size)
 (h63 : n + m ≤ maxLen) (hbytes : (n + m) * bytes ≤ 140737488355328) (hbase : base ≤ w.heap.size)
 (h : ∀ v' w', w'.ownsRow base e size v' (n + m) (xs ++ news) → w.grownBy w' v.ownBlock → K (a.put o.dst v') w') : o.wp P a w K Q := by
 rcases hsrc with ⟨rfl, rfl, rfl⟩ | ⟨ad, c, rfl, hnews, h1⟩
 ·have hr := run_append_owned_none (P := P) (w := w) base t o.type e i size ht hi v n xs hown
  unfold Oper.wp execOp
  simp only [ho, resolve, invoke, builtin, Sem.run_bind, Sem.run_pure, Result.andThen_ok, List.map_toArray, List.map_cons, List.map_nil, hs, hx, hr]
  exact h v w (by simpa using hown) ⟨rfl, rfl, rfl, Nat.le_refl _, fun _ _ _ => rfl⟩
 ·exact wp_append_own w s x t ho base e i z size bytes ht hi hz hsize hby hzs hsz v n xs hs hown ad m c news hx hl hnews h1 h63 hbytes hbase fun v' w' h2 h3 _ => h v' w' h2 h3
theorem Z32 (x base : Nat) (pv vk vt vg : Value) (next : Int) (keys : List Int) (key : Int) (w : World) (hx : Blk w x 58 #[pv, .int .i64 next, vk, vt, vg]) (hk : w.ownsRow base 52 1 vk keys.length (Z0z keys))
 (hlen : keys.length ≤ 1000) :
 Calls Tryz.prog 48 #[.pointer (some ⟨x, 0, none⟩), .int .u32 key] w fun e w' => e = .returned (.tuple #[.int .i64 (placeOf keys key), .bool (Z2p keys key)]) ∧ Below w.heap.size w w' := by
 have kx := hx.cell 2
 have kx' : w.cell? ⟨x, 2, none⟩ = some vk := kx
 clear kx hx
 by_cases h0 : keys.length = 0
 ·obtain ⟨a, c, rfl⟩ := Zaq (h0 ▸ hk)
  obtain rfl : keys = [] := List.length_eq_zero_iff.1 h0
  clear hk
  go_enter Tryz.func48, Tryz.ntmps48
  go_wp2_with fail
  refine wp_loop_rounds 1 ?_
  rw [rounds_succ]
  go_wp2_with fail
  refine bodyPost_ret (results_tmp2 rfl _ _ _) rfl ⟨rfl, qL⟩
 ·obtain ⟨K, cap, rfl⟩ := Z0D hk (by omega)
  have HC : Hid (∀ k (h : k < keys.length), w.cell? ⟨K, k, none⟩ = some (.int .u32 keys[k])) := hid (fun k h => Z0i hk k _ (by simp [Z0z, h]))
  clear hk
  go_enter Tryz.func48, Tryz.ntmps48
  go_wp2_with fail
  go_loop [6] (fun i => ∃ k : Nat, k ≤ keys.length ∧ i = .int .i64 k ∧ Hid (∀ j (h : j < k) (h2 : j < keys.length), keys[j] < key)) (fun i => ((keys.length : Int) - intOf i).toNat)
  case atStart => exact ⟨0, by omega, rfl, hid (fun j h => by omega)⟩
  case round =>
   obtain ⟨k, hkl, rfl, HB⟩ := hrel
   by_cases hk2 : k < keys.length
   ·obtain ⟨y, hy⟩ : ∃ y, y = keys[k] := ⟨_, rfl⟩
    have c0 := HC.out k hk2
    rw [← hy] at c0
    have HY := hid hy
    have b1 : decide ((k : Int) < keys.length) = true := by simp; omega
    have bk0 : (0 : Int) ≤ k := by omega
    have bk1 : (k : Int) < keys.length := by omega
    by_cases hge : key ≤ y
    ·have b2 : decide (key ≤ y) = true := by simp; omega
     have hp : placeOf keys key = k := Z9e keys key k hk2 (fun j h => HB.out j h (by omega)) (by rw [← HY.out]; exact hge)
     have hth := Z9o keys key k hk2 hp
     rw [← HY.out] at hth
     have HP := hid hp
     have HT := hid hth
     clear hy hge hp hth
     go_wp2_with fail
     go_quiet (fail)
     go_wp2_with fail
     refine bodyPost_ret (results_tmp2 rfl _ _ _) rfl ⟨?_, qL⟩
     rw [HP.out, HT.out]
     first | rfl | (congr 5; done) | (simp; done)
    ·have b2 : decide (key ≤ y) = false := by simp; omega
     have HL := hid (show y < key by omega)
     clear hy hge
     go_wp2_with fail
     refine ⟨⟨k + 1, by omega, by rw [show ((k : Int) + 1) = ((k + 1 : Nat) : Int) by omega], hid (fun j h h2 => ?_)⟩, by simp [intOf]; omega⟩
     by_cases hj : j = k
     ·subst hj; rw [← HY.out]; exact HL.out
     ·exact HB.out j (by omega) h2
   ·have b1 : decide ((k : Int) < keys.length) = false := by simp; omega
    have hp : placeOf keys key = keys.length := Z8n keys key (fun y hy => by
     obtain ⟨j, hj, rfl⟩ := List.mem_iff_getElem.1 hy
     exact HB.out j (by omega) hj)
    have hth := Z8y keys key hp
    have HP := hid hp
    have HT := hid hth
    clear hp hth
    go_wp2_with fail
    refine bodyPost_ret (results_tmp2 rfl _ _ _) rfl ⟨?_, qL⟩
    rw [HP.out, HT.out]
    rfl
theorem Z1r {w : World} {base n size bytes : Nat} {t e : TypeId} {v : Value} {xs : List Value} (h : w.ownsRow base e size v n xs) (i0 : TypeInfo) (ht : Tryz.prog.underlying t = some (.slice e)) (hel : Tryz.prog.elem t = e) (hi : Tryz.prog.info? e = some i0) (hsz : i0.size = size)
 (at' : Nat) (hat : at' ≤ n) (h1 : ∀ u ∈ xs, u.oneCell' = true) :
 ∃ v1 v2, (∀ wx, (Instr.slice t v none (some (.int .i64 (at' : Int))) none).run Tryz.prog wx = .ok v1 wx) ∧ (∀ wx, (Instr.slice t v (some (.int .i64 (at' : Int))) none none).run Tryz.prog wx = .ok v2 wx) ∧
  (∀ wx : World, (∀ b o, v.ownBlock = some b → wx.cell? ⟨b, o, none⟩ = w.cell? ⟨b, o, none⟩) → SrcAt wx v1 at' (xs.take (at' * size)) ∧ SrcAt wx v2 (n - at') (xs.drop (at' * size))) := by
 have hu : Tryz.prog.underlying t = some (.slice (Tryz.prog.elem t)) := by rw [hel]; exact ht
 have hs : ∀ wx, (sizeOf (Tryz.prog.elem t)).run Tryz.prog wx = .ok size wx := fun wx => by rw [hel]; simp [sizeOf, typeInfo, hi, hsz]
 have hlen := h.1
 rcases h.2 with ⟨rfl, rfl⟩ | ⟨g, cap, cur, rfl, hb, hg, hnc, hcm, hcs, htake⟩
 ·obtain rfl : at' = 0 := by omega
  have hx : xs = [] := List.length_eq_zero_iff.1 (by simpa using hlen)
  subst hx
  refine ⟨.slice none 0 0, .slice none 0 0, fun wx => ?_, fun wx => ?_, fun wx _ => ⟨.inl ⟨rfl, rfl, by simp⟩, .inl ⟨rfl, rfl, by simp⟩⟩⟩
  ·rw [run_slice_h wx t none 0 0 hu .i64 _ (by omega) (by omega), hs]
   simp [Result.andThen, sliced]
  ·rw [run_slice_l wx t none 0 0 hu .i64 _ (by omega) (by omega), hs]
   simp [Result.andThen, sliced]
 ·refine ⟨.slice (some ⟨g, 0, none⟩) at' cap, .slice (some (if cap = at' then ⟨g, 0, none⟩ else ⟨g, at' * size, none⟩)) (n - at') (cap - at'), fun wx => ?_, fun wx => ?_, fun wx hk => ⟨.inr ⟨_, _, rfl, fun j u hj => ?_, fun u hu => h1 u (List.mem_of_mem_take hu)⟩, .inr ⟨_, _, rfl, fun j u hj => ?_, fun u hu => h1 u (List.mem_of_mem_drop hu)⟩⟩⟩
  ·rw [run_slice_h wx t (some ⟨g, 0, none⟩) n cap hu .i64 _ (by omega) (by omega), hs]
   simp [Result.andThen, sliced, Addr.add]
  ·rw [run_slice_l wx t (some ⟨g, 0, none⟩) n cap hu .i64 _ (by omega) (by omega), hs]
   simp [Result.andThen, sliced, Addr.add]
   by_cases h1 : cap = at'
   ·simp [h1]
   ·rw [if_neg h1, if_neg h1]
    by_cases h2 : at' * size = 0
    ·rw [if_pos h2, h2]
    ·rw [if_neg h2]
  ·have hj2 : xs[j]? = some u := by
     rw [List.getElem?_take] at hj
     split at hj
     ·exact hj
     ·cases hj
   have e1 : (⟨g, 0, none⟩ : Addr).add j = ⟨g, j, none⟩ := by simp [Addr.add]; omega
   rw [e1, hk g j rfl]
   exact Z0i h j u hj2
  ·rw [List.getElem?_drop] at hj
   have hlt : at' * size + j < xs.length := (List.getElem?_eq_some_iff.1 hj).1
   have hne : ¬ cap = at' := fun he => by
    have : n = at' := by omega
    rw [hlen, this] at hlt; omega
   rw [if_neg hne]
   have e1 : (⟨g, at' * size, none⟩ : Addr).add j = ⟨g, at' * size + j, none⟩ := by simp [Addr.add]; try omega
   rw [e1, hk g _ rfl]
   exact Z0i h _ u hj
section
variable {P : Program} {ops : Array Oper} {Q : Exit → Act → World → Prop} {md : Region.Mode} {S : World → Prop} {last : Nat}
def wpAnyL (P : Program) (md : Region.Mode) (ops : Array Oper) (Q : Exit → Act → World → Prop) (S : World → Prop) (last : Nat) : Nat → Array Bool → Act → World → Prop
 | 0, listed, a, w => Region.ready md ops listed = [] ∧ Q .normal a w
 | fuel + 1, listed, a, w =>
   (Region.ready md ops listed = [] → Q .normal a w) ∧
   ∀ i ∈ Region.ready md ops listed, (i = last → ∀ k, k < ops.size → k ≠ last → listed.getD k false = true) → wpOp P ops Q i (fun a' w' => (i ≠ last → S w') ∧ wpAnyL P md ops Q S last fuel (listed.setIfInBounds i true) a' w') a w
def Z3S (md : Region.Mode) (ops : Array Oper) (listed : Array Bool) : Prop := ∀ k o, ops[k]? = some o → listed.getD k false = true → ∀ e ∈ o.after, Region.binds md e = true → listed.getD e.on false = true
def feeds (md : Region.Mode) (ops : Array Oper) (last : Nat) : Bool :=
 decide (last < ops.size) && (List.range ops.size).all fun k => k == last || (List.range ops.size).any fun m => decide (k < m) && ((ops[m]?).map fun o => o.after.any fun e => e.on == k && Region.binds md e).getD false
theorem Z9v (h : feeds md ops last = true) {k : Nat} (hk : k < ops.size) (hne : k ≠ last) : ∃ m o e, k < m ∧ m < ops.size ∧ ops[m]? = some o ∧ e ∈ o.after ∧ e.on = k ∧ Region.binds md e = true := by
 unfold feeds at h
 rw [Bool.and_eq_true] at h
 have h1 := List.all_eq_true.1 h.2 k (List.mem_range.2 hk)
 rw [Bool.or_eq_true, beq_iff_eq] at h1
 rcases h1 with h1 | h1
 ·exact absurd h1 hne
 ·obtain ⟨m, hm, h2⟩ := List.any_eq_true.1 h1
  have hlt := List.mem_range.1 hm
  rw [Bool.and_eq_true, decide_eq_true_eq] at h2
  have ho : ops[m]? = some ops[m] := Array.getElem?_eq_getElem hlt
  rw [ho] at h2
  simp only [Option.map_some, Option.getD_some, Array.any_eq_true', Bool.and_eq_true, beq_iff_eq] at h2
  obtain ⟨h3, e, h4, h5, h6⟩ := h2
  exact ⟨m, _, e, h3, hlt, ho, h4, h5, h6⟩
theorem ZaX (h : feeds md ops last = true) {listed : Array Bool} (hb : Z3S md ops listed) (hr : last ∈ Region.ready md ops listed) : ∀ k, k < ops.size → k ≠ last → listed.getD k false = true := by
 intro k hk
 obtain ⟨h0, ol, hol, hall⟩ := mem_ready.1 hr
 have main : ∀ d k, ops.size - k ≤ d → k < ops.size → k ≠ last → listed.getD k false = true := by
  intro d
  induction d with
  | zero => intro k hd hk _; omega
  | succ d ih =>
    intro k hd hk hne
    obtain ⟨m, o, e, h1, h2, h3, h4, h5, h6⟩ := Z9v h hk hne
    by_cases hml : m = last
    ·subst hml
     rw [hol] at h3
     obtain rfl := Option.some.inj h3
     rw [← h5]; exact hall e h4 h6
    ·have := hb m o h3 (ih m (by omega) h2 hml) e h4 h6
     rw [← h5]; exact this
 exact main _ k (Nat.le_refl _) hk
theorem Z3S.set {listed : Array Bool} (hb : Z3S md ops listed) {i : Nat} (hi : i ∈ Region.ready md ops listed) : Z3S md ops (listed.setIfInBounds i true) := by
 intro k o ho hk e he hbd
 obtain ⟨h0, oi, hoi, hall⟩ := mem_ready.1 hi
 have keep : ∀ j, listed.getD j false = true → (listed.setIfInBounds i true).getD j false = true := fun j hj => by
  by_cases hij : i = j
  ·subst hij
   by_cases hlt : i < listed.size
   ·simp [Array.getD_eq_getD_getElem?, hlt]
   ·rw [Array.getD_eq_getD_getElem?, Array.getElem?_eq_none (by omega)] at hj; simp at hj
  ·rw [Array.getD_eq_getD_getElem?] at hj ⊢
   rw [Array.getElem?_setIfInBounds, if_neg hij]
   exact hj
 by_cases hki : i = k
 ·subst hki
  rw [hoi] at ho
  obtain rfl := Option.some.inj ho
  exact keep _ (hall e he hbd)
 ·refine keep _ (hb k o ho ?_ e he hbd)
  rw [Array.getD_eq_getD_getElem?] at hk ⊢
  rw [Array.getElem?_setIfInBounds, if_neg hki] at hk
  exact hk
theorem Z4X (hf : feeds md ops last = true) : ∀ (fuel : Nat) (listed : Array Bool) (a : Act) (w : World), Z3S md ops listed → wpAnyL P md ops Q S last fuel listed a w → wpAny P md ops Q fuel listed a w
 | 0, _, _, _, _, h => h
 | fuel + 1, listed, a, w, hb, h => ⟨h.1, fun i hi => wpOp_mono (fun a' w' h' => Z4X hf fuel _ a' w' (hb.set hi) h'.2) (h.2 i hi (fun he => ZaX hf hb (he ▸ hi)))⟩
theorem Z1z {id : Nat} {a : Act} {w : World} (hm : P.follows .mixedOrders = true) (hf : feeds .any ops last = true) (hS : S w.drew)
 (h : S w.drew → wpAnyL P .any ops Q S last ops.size (Array.replicate ops.size false) a w.drew) : (Code.region id ops true).wp P Q a w := by
 refine wp_region_any hm (Z4X (S := S) (last := last) hf _ _ _ _ (fun k o _ hk => ?_) (h hS))
 rw [Array.getD_eq_getD_getElem?, Array.getElem?_replicate] at hk
 split at hk <;> simp at hk
theorem wpAnyL_first {i : Nat} {oi : Oper} {v : Value} (hi : ops[i]? = some oi) (hil : i ≠ last) (hsel : ∀ (j : Nat) (o : Oper) cs b, ops[j]? = some o → o.op ≠ .select cs b)
 (hQ : ∀ c a w, Q (.panic c) (a.put oi.dst v) w → Q (.panic c) a w) :
 ∀ (fuel : Nat) (listed : Array Bool) (a : Act) (w : World),
  (∀ j oj, ops[j]? = some oj → j ≠ i → listed.getD j true = false → (∀ e ∈ oj.after, Region.binds md e = true → e.on ≠ i) → oi.apart ops oj = true) →
  i ∈ Region.ready md ops listed → YieldsIf P ops S oi v a → S w →
  wpAnyL P md ops Q S last fuel (listed.setIfInBounds i true) (a.put oi.dst v) w → wpAnyL P md ops Q S last (fuel + 1) listed a w := by
 have hlt : i < ops.size := (Array.getElem?_eq_some_iff.1 hi).1
 have hno : ∀ listed : Array Bool, i ∈ Region.ready md ops listed → ¬ (∀ k, k < ops.size → k ≠ last → listed.getD k false = true) := fun listed hr h => by
  have h1 := h i hlt hil
  have h0 := (mem_ready.1 hr).1
  rcases Nat.lt_or_ge i listed.size with h' | h'
  ·simp [h'] at h0 h1; rw [h0] at h1; cases h1
  ·simp [Array.getElem?_eq_none h'] at h1
 have hset : ∀ (listed : Array Bool) (j k : Nat), j ≠ last → (∀ k, k < ops.size → k ≠ last → listed.getD k false = true) → True := fun _ _ _ _ _ => trivial
 intro fuel
 induction fuel with
 | zero =>
   intro listed a w _ hr hy hS H
   refine ⟨fun h => (by rw [h] at hr; cases hr), fun j hj hjl => ?_⟩
   by_cases hji : j = i
   ·subst hji; exact hy.wpOp hi hS ⟨fun _ => hS, H⟩
   ·have := ready_mono hj hji
    rw [H.1] at this
    cases this
 | succ fuel ih =>
   intro listed a w hfree hr hy hS H
   refine ⟨fun h => (by rw [h] at hr; cases hr), fun j hj hjl => ?_⟩
   by_cases hji : j = i
   ·subst hji; exact hy.wpOp hi hS ⟨fun _ => hS, H⟩
   ·have hjlast : j ≠ last := fun he => hno listed hr (hjl he)
    have h1 := H.2 j (ready_mono hj hji) (fun he => absurd he hjlast)
    obtain ⟨hjun, oj, hoj, hall⟩ := mem_ready.1 hj
    have hnot : ∀ e ∈ oj.after, Region.binds md e = true → e.on ≠ i := fun e he hb heq => by
     have h1 := hall e he hb
     have h0 := (mem_ready.1 hr).1
     rw [heq] at h1
     rcases Nat.lt_or_ge i listed.size with h' | h'
     ·simp [h'] at h0 h1; rw [h0] at h1; cases h1
     ·simp [Array.getElem?_eq_none h'] at h1
    have h2 := wpOp_putIf hoj (hfree j oj hoj hji hjun hnot) (fun cs b => hsel i oi cs b hi) (fun cs b => hsel j oj cs b hoj) hQ hy h1
    have hfree' : ∀ k ok, ops[k]? = some ok → k ≠ i → (listed.setIfInBounds j true).getD k true = false →
     (∀ e ∈ ok.after, Region.binds md e = true → e.on ≠ i) → oi.apart ops ok = true := fun k ok hk hki hun hno => by
     refine hfree k ok hk hki ?_ hno
     by_cases hjk : j = k
     ·subst hjk; exact hjun
     ·rw [getD_set_ne true hjk] at hun; exact hun
    refine wpOp_mono (fun a' w' h3 => ⟨h3.2.1, ih (listed.setIfInBounds j true) a' w' hfree' (ready_mono hr (Ne.symm hji)) h3.1 (h3.2.1 hjlast) ?_⟩) h2
    rw [Array.setIfInBounds_comm _ _ hji]
    exact h3.2.2
theorem Z86 {i : Nat} {oi : Oper} {v : Value} {fuel : Nat} {listed : Array Bool} {a : Act} {w : World} (hi : ops[i]? = some oi) (hil : i ≠ last)
 (hs : Region.noSelect ops = true) (hf : Region.free md ops listed i = true) (hr : (Region.ready md ops listed).contains i = true)
 (hQ : ∀ c a w, Q (.panic c) (a.put oi.dst v) w → Q (.panic c) a w) (hy : YieldsIf P ops S oi v a) (hS : S w)
 (h : wpAnyL P md ops Q S last fuel (listed.setIfInBounds i true) (a.put oi.dst v) w) : wpAnyL P md ops Q S last (fuel + 1) listed a w :=
 wpAnyL_first hi hil (Region.noSelect_spec hs) hQ fuel listed a w (Region.free_spec hi hf) (by simpa using hr) hy hS h
theorem Z1x {listed : Array Bool} {a : Act} {w : World} (hr : Region.ready md ops listed = []) (h : Q .normal a w) :
 ∀ fuel, wpAnyL P md ops Q S last fuel listed a w
 | 0 => ⟨hr, h⟩
 | _ + 1 => ⟨fun _ => h, by rw [hr]; simp⟩
def Z12 (P : Program) (md : Region.Mode) (ops : Array Oper) (Q : Exit → Act → World → Prop) (S : World → Prop) (last : Nat) (fuel : Nat) : List Nat → Array Bool → Act → World → Prop
 | [], l, a, w => wpAnyL P md ops Q S last fuel l a w
 | i :: is, l, a, w => ∃ o v, ops[i]? = some o ∧ YieldsIf P ops S o v a ∧ Z12 P md ops Q S last fuel is (l.setIfInBounds i true) (a.put o.dst v) w
theorem Z12.step {fuel i : Nat} {is : List Nat} {l : Array Bool} {a : Act} {w : World} {o : Oper} {v : Value} (ho : ops[i]? = some o) (hy : YieldsIf P ops S o v a)
 (h : Z12 P md ops Q S last fuel is (l.setIfInBounds i true) (a.put o.dst v) w) : Z12 P md ops Q S last fuel (i :: is) l a w := ⟨o, v, ho, hy, h⟩
theorem Z12.done {fuel : Nat} {l : Array Bool} {a : Act} {w : World} (h : wpAnyL P md ops Q S last fuel l a w) : Z12 P md ops Q S last fuel [] l a w := h
theorem Z11 {is : List Nat} {fuel : Nat} {l : Array Bool} {a : Act} {w : World} (hs : Region.noSelect ops = true) (ht : (Z4s md ops l is && !is.contains last) = true)
 (hQ : ∀ c a d v w, Q (.panic c) (a.put d v) w → Q (.panic c) a w) (hS : S w) (h : Z12 P md ops Q S last fuel is l a w) : wpAnyL P md ops Q S last (fuel + is.length) l a w := by
 rw [Bool.and_eq_true] at ht
 induction is generalizing l a with
 | nil => exact h
 | cons i is ih =>
   obtain ⟨o, v, ho, hy, h2⟩ := h
   obtain ⟨ht1, ht2⟩ := ht
   simp only [Z4s, Bool.and_eq_true] at ht1
   have hne : i ≠ last ∧ (!is.contains last) = true := by
    simp only [List.contains_cons, Bool.not_or, Bool.and_eq_true, Bool.not_eq_true', beq_eq_false_iff_ne] at ht2
    exact ⟨fun he => ht2.1 he.symm, by simpa using ht2.2⟩
   exact Z86 ho hne.1 hs ht1.1.1 ht1.1.2 (fun c a w => hQ c a o.dst v w) hy hS (ih ⟨ht1.2, hne.2⟩ h2)
def Z0F (P : Program) (md : Region.Mode) (ops : Array Oper) (Q : Exit → Act → World → Prop) (S : World → Prop) (last : Nat) (fuel : Nat) (listed : Array Bool) (a : Act) (w : World) (rs : List Nat) : Prop :=
 ∀ i ∈ rs, wpOp P ops Q i (fun a' w' => (i ≠ last → S w') ∧ wpAnyL P md ops Q S last fuel (listed.setIfInBounds i true) a' w') a w
theorem Z0F.nil {fuel : Nat} {listed : Array Bool} {a : Act} {w : World} : Z0F P md ops Q S last fuel listed a w [] := fun _ h => by cases h
theorem Z0F.cons {fuel : Nat} {listed : Array Bool} {a : Act} {w : World} {i : Nat} {o : Oper} {rs : List Nat} (ho : ops[i]? = some o) (hil : i ≠ last)
 (h : ∀ K' : Act → World → Prop, Shut (∀ a w, S w → (S w → wpAnyL P md ops Q S last fuel (listed.setIfInBounds i true) a w) → K' a w) → if Region.wanted o (yielded ops a.tmps) = true then Oper.wp P o a w K' Q else K' (a.put o.dst undef) w)
 (hs : Z0F P md ops Q S last fuel listed a w rs) : Z0F P md ops Q S last fuel listed a w (i :: rs) := fun j hj => by
 rcases List.mem_cons.1 hj with rfl | hj
 ·exact wpOp_step ho (fun K' hK => h K' (fun a w hS hW => hK a w ⟨fun _ => hS, hW hS⟩))
 ·exact hs j hj
theorem Z0F.final {fuel : Nat} {listed : Array Bool} {a : Act} {w : World} {o : Oper} (ho : ops[last]? = some o)
 (h : ∀ K' : Act → World → Prop, Shut (∀ a w, wpAnyL P md ops Q S last fuel (listed.setIfInBounds last true) a w → K' a w) → if Region.wanted o (yielded ops a.tmps) = true then Oper.wp P o a w K' Q else K' (a.put o.dst undef) w) :
 Z0F P md ops Q S last fuel listed a w [last] := fun j hj => by
 obtain rfl := List.mem_singleton.1 hj
 exact wpOp_step ho (fun K' hK => h K' (fun a w hW => hK a w ⟨fun h => absurd rfl h, hW⟩))
theorem Z0V {rs : List Nat} {fuel : Nat} {listed : Array Bool} {a : Act} {w : World} (hr : Region.ready md ops listed = rs) (hne : rs ≠ [])
 (h : Z0F P md ops Q S last fuel listed a w rs) : wpAnyL P md ops Q S last (fuel + 1) listed a w := ⟨fun h0 => absurd (hr ▸ h0) hne, fun i hi _ => h i (hr ▸ hi)⟩
end
section
variable {P : Program} {ops : Array Oper} {Q : Exit → Act → World → Prop} {md : Region.Mode} {S : World → Prop} {last : Nat}
theorem qU {fuel i : Nat} {is : List Nat} {l : Array Bool} {a : Act} {w : World} {o : Oper} {v : Value} (h : Z12 P md ops Q S last fuel is (l.setIfInBounds i true) (a.put o.dst v) w) (ho : ops[i]? = some o := by rfl) (hy : YieldsIf P ops S o v a := by first | exact Or.inr ⟨by rfl, rfl⟩ | (refine Or.inl ⟨by rfl, ?_⟩; intro wq hSq; have hrd := hSq.rule; go_simp; with_reducible rfl)) : Z12 P md ops Q S last fuel (i :: is) l a w := .step ho hy h
theorem qHL (i : Nat) {fuel : Nat} {listed : Array Bool} {a : Act} {w : World} {o : Oper} (h : ∀ K' : Act → World → Prop, Shut (∀ a w, S w → (S w → wpAnyL P md ops Q S last fuel (listed.setIfInBounds i true) a w) → K' a w) → Oper.wp P o a w K' Q)
 (hr : Region.ready md ops listed = [i] := by kernel_rfl) (hil : i ≠ last := by decide) (ho : ops[i]? = some o := by rfl) (hw : Region.wanted o (yielded ops a.tmps) = true := by rfl) : wpAnyL P md ops Q S last (fuel + 1) listed a w :=
 Z0V hr (by simp) (Z0F.cons ho hil (fun K hK => by rw [if_pos hw]; exact h K hK) Z0F.nil)
end
def Z0b (l : List Bt.Ptr) : List Value := l.flatMap (fun p => p.cells.toList)
theorem Z27 (l : List Bt.Ptr) : (Z0b l).length = l.length * 2 := by
 induction l with
 | nil => rfl
 | cons p l ih => simp only [Z0b, List.flatMap_cons, List.length_append, List.length_cons] at ih ⊢; rw [ih]; simp [Bt.Ptr.cells]; omega
theorem Z2N (l : List Int) : (Z0z l).length = l.length * 1 := by simp [Z0z]
def Z1U {α : Type} (l : List α) (i : Nat) (a : α) : List α := l.take i ++ a :: l.drop i
theorem Z2k {α : Type} (l : List α) (i : Nat) (a : α) (h : i ≤ l.length) : (Z1U l i a).length = l.length + 1 := by simp [Z1U]; omega
theorem Z3s (l : List Int) (a : Int) (i : Nat) : (([] ++ (Z0z l).take (i * 1)) ++ [Value.int .u32 a]) ++ (Z0z l).drop (i * 1) = Z0z (Z1U l i a) := by
 simp [Z0z, Z1U, List.map_take, List.map_drop]
theorem Z2u (a b : List Bt.Ptr) : Z0b (a ++ b) = Z0b a ++ Z0b b := by simp [Z0b]
theorem Z3l (l : List Bt.Ptr) (a : Bt.Ptr) (i : Nat) (h : i ≤ l.length) : (([] ++ (Z0b l).take (i * 2)) ++ [Value.int .i64 a.line, .int .i64 a.gen]) ++ (Z0b l).drop (i * 2) = Z0b (Z1U l i a) := by
 have e : Z0b l = Z0b (l.take i) ++ Z0b (l.drop i) := by rw [← Z2u, List.take_append_drop]
 have hl : (Z0b (l.take i)).length = i * 2 := by rw [Z27, List.length_take, Nat.min_eq_left h]
 have h1 : (Z0b l).take (i * 2) = Z0b (l.take i) := by rw [e, ← hl, List.take_left]
 have h2 : (Z0b l).drop (i * 2) = Z0b (l.drop i) := by rw [e, ← hl, List.drop_left]
 rw [h1, h2]
 simp [Z1U, Z2u, Z0b, Bt.Ptr.cells]
theorem Z70 : (Tryz.prog.info? 52).map (fun i => (i.zero, i.size, i.bytes)) = some (some (.int .u32 0), 1, 4) := by kernel_rfl
theorem Z5r : (Tryz.prog.info? 27).map (fun i => (i.zero, i.size, i.bytes)) = some (some (.agg #[.int .i64 0, .int .i64 0]), 2, 16) := by kernel_rfl
theorem Z4R : Tryz.prog.elem 55 = 52 := by kernel_rfl
theorem Z4S : Tryz.prog.elem 56 = 27 := by kernel_rfl
theorem Z26 {w : World} {base n n' size : Nat} {e : TypeId} {v : Value} {xs xs' : List Value} (h : w.ownsRow base e size v n xs) (hn : n = n') (hx : xs = xs') : w.ownsRow base e size v n' xs' := by subst hn; subst hx; exact h
theorem Z2i {w : World} {base n size : Nat} {e : TypeId} (hn : n = w.heap.size) (hb : base ≤ n) : (w.alloc (.cells #[] e)).ownsRow base e size (.slice (some ⟨n, 0, none⟩) 0 0) 0 [] := by
 subst hn
 exact World.ownsRow_lit w #[] 0 hb (by unfold maxLen; omega) (by simp)
theorem Z2o {w w' : World} {base n size x P : Nat} {e : TypeId} {v : Value} {xs : List Value} (h : w.ownsRow base e size v n xs) (ho : OverTwo x P w w') (hx : x < base) (hP : P < base) : w'.ownsRow base e size v n xs := by
 refine ⟨h.1, ?_⟩
 rcases h.2 with h1 | ⟨g, cap, cur, hv, hbg, hg, hr⟩
 ·exact .inl h1
 ·have hlt : g < w.heap.size := (Array.getElem?_eq_some_iff.1 hg).1
  exact .inr ⟨g, cap, cur, hv, hbg, (ho.block g hlt (by omega) (by omega)).trans hg, hr⟩
section
variable {x P : Nat} {w w1 w2 : World}
theorem OverTwo.refl (x P : Nat) (w : World) : OverTwo x P w w := ⟨rfl, rfl, rfl, Nat.le_refl _, fun _ _ _ _ => rfl⟩
theorem OverTwo.trans (h1 : OverTwo x P w w1) (h2 : OverTwo x P w1 w2) : OverTwo x P w w2 :=
 ⟨h2.os.trans h1.os, h2.tape.trans h1.tape, h2.output.trans h1.output, Nat.le_trans h1.size h2.size, fun j hj hx hP => (h2.block j (Nat.lt_of_lt_of_le hj h1.size) hx hP).trans (h1.block j hj hx hP)⟩
theorem OverTwo.of_below (h : Below w.heap.size w w1) : OverTwo x P w w1 := ⟨h.os, h.tape, h.output, h.size, fun j hj _ _ => h.block j hj⟩
theorem OverTwo.of_left (h : Over x w w1) : OverTwo x P w w1 := ⟨h.os, h.tape, h.output, h.size, fun j hj hx _ => h.block j hj (by simpa using hx)⟩
theorem OverTwo.to_below {w0 : World} (h0 : Below w0.heap.size w0 w) (h : OverTwo x P w w1) (hx : w0.heap.size ≤ x) (hP : w0.heap.size ≤ P) : Below w0.heap.size w0 w1 :=
 ⟨h.os.trans h0.os, h.tape.trans h0.tape, h.output.trans h0.output, Nat.le_trans h0.size h.size, fun j hj => (h.block j (Nat.lt_of_lt_of_le hj h0.size) (by omega) (by omega)).trans (h0.block j hj)⟩
end
structure IxOk (x P cap : Nat) (pages : List Bt.Page) (next : Int) (keys : List Int) (tos : List Bt.Ptr) (vk vt vg : Value) (w : World) : Prop where
 blk : Blk w x 58 (Z1P P pages.length cap next vk vt vg)
 pg : PagesAt P cap pages w
 keys : w.ownsRow (x + 1) 52 1 vk keys.length (Z0z keys)
 tos : w.ownsRow (x + 1) 27 2 vt tos.length (Z0b tos)
 none : NoneAt w
 hPx : P < x
 hgP : 0 < P
theorem sG35 {P : Prop} (h : P := by
 refine ⟨⟨h.row.ok, h.row.len, ?_⟩, fun i => ?_, Nat.lt_of_lt_of_le h.lt hs, by obtain ⟨cs, hc⟩ := h.blk; exact ⟨cs, hb.trans hc⟩⟩
 ·rcases h.row.form with h1 | ⟨c, cp, hv, hlt, hcells⟩
  ·exact .inl h1
  ·refine .inr ⟨c, cp, hv, Nat.lt_of_lt_of_le hlt hs, fun i p hi j v hv2 => ?_⟩
   simp only [Value.slice.injEq, Option.some.injEq, Addr.mk.injEq, and_true, true_and] at hv
   obtain ⟨rfl, rfl⟩ := hv
   have := hcells i p hi j v hv2
   simpa only [World.cell?, hb] using this
 ·have := h.free i
  simpa only [World.frozen?, hb] using this) : P := h
theorem PagesAt.two {x P cap : Nat} {pages : List Bt.Page} {w w' : World} (h : PagesAt P cap pages w) (ho : ∀ j, j = P → w'.heap[j]? = w.heap[j]?) (hs : w.heap.size ≤ w'.heap.size) : PagesAt P cap pages w' := by
 have hb := ho P rfl
 exact sG35
theorem IxOk.over {x P cap : Nat} {pages : List Bt.Page} {next : Int} {keys : List Int} {tos : List Bt.Ptr} {vk vt vg : Value} {w w' : World} (h : IxOk x P cap pages next keys tos vk vt vg w) (hb : Below w.heap.size w w') : IxOk x P cap pages next keys tos vk vt vg w' :=
 ⟨h.blk.kept hb, h.pg.two (x := x) (fun j hj => by subst hj; exact hb.block _ h.pg.lt) hb.size, own_below h.keys hb, own_below h.tos hb, h.none.below hb, h.hPx, h.hgP⟩
def Z93 (x P n cap : Nat) (next : Int) (vt vg : Value) (keys : List Int) (W wx : World) : Prop :=
 ∃ vk, Blk wx x 58 (Z1P P n cap next vk vt vg) ∧ wx.ownsRow W.heap.size 52 1 vk keys.length (Z0z keys) ∧ Over x W wx
def ToCut (x P n cap : Nat) (next : Int) (vk vg : Value) (tos : List Bt.Ptr) (W wx : World) : Prop :=
 ∃ vt, Blk wx x 58 (Z1P P n cap next vk vt vg) ∧ wx.ownsRow W.heap.size 27 2 vt tos.length (Z0b tos) ∧ Over x W wx
def insOp (key : Int) (tq : Bt.Ptr) (fr : List Bt.Page) : Bt.Op := ⟨2, key, 0, tq, 0, 0, fr⟩
theorem Z8b (A : Nat → Prop) (op : Bt.Op) (known : List Bt.Page) (vf vk : Value) (s : Bt.St) (b : Nat) (page : Bt.Page) (n : Bt.Node) (es : List Bt.Entry) (a0 : Option Addr) (n0 c0 g cap : Nat) (w : World) (h : IsRun A op known vf vk s b w) (hA : ∀ c, A c → c < w.heap.size)
 (h6 : es.length = 6) (hf : op.fresh = []) :
 Calls Tryz.prog 86 #[.pointer (some ⟨b, 0, none⟩), .agg (Z0g page n (.slice a0 n0 c0)), .slice (some ⟨g, 0, none⟩) 6 cap, .slice none 0 0] w (Z0y A op known vf vk (s.store op page n es []) b (.tuple #[]) w) := by
 have HX : Hid (s.store op page n es [] = (s.fresh op [page.line]).1) := hid (by simp [Bt.St.store, h6, Bt.St.fresh, hf])
 have HY : Hid ((s.fresh op [page.line]).2 = none) := hid (by simp [Bt.St.fresh, hf])
 have HF := hid hf
 have HR := hid h
 obtain ⟨i0, hi, hz0, hz1, hz2⟩ := info_parts infoInt'
 have hlt := h.lt
 have hlt1 : b < w.heap.size + 1 := by omega
 have hlt2 : b < w.heap.size + 1 + 1 := by omega
 clear h hf
 unfold Z0g
 go_enter Tryz.func86, Tryz.ntmps86
 go_wp2_with (at_builtin; refine halt ?_)
 refine Z4g ?_
 refine Z1E rfl (.tmp 29) (.tmp 33) 45 rfl 0 3 i0 _ 1 8 Tryz.underlying45 hi hz0 hz1 hz2 rfl (by decide) (.slice none 0 0) 0 [] rfl (World.ownsRow_nil _ _ _ _) ⟨w.heap.size + 1 + 1, 0, none⟩ 1 1
  [.int .i64 page.line] rfl rfl (Z42 (u := .int .i64 page.line) ((Blk.made' (by simp)).cell 0)) (by intro u hu; simp at hu; subst hu; rfl) (by omega) (by unfold maxLen; omega) (by omega) (by omega) ?_
 intro g1 cap1 w1 hown1 hg1
 have hb1 := below_grown (Below.refl _ _) hg1 (fun k hk => by cases hk)
 ((obtain ⟨hc1, hf1, hs1⟩ := qR hb1); (try have := qN0 w w1); (try have := qN1 w w1); (try have := qN2 w w1))
 clear hown1 hg1
 go_wp2_with fail
 go_at_call 93; refine (Z47 A op known vf vk s b _ [page.line] _ ?hrun ?hlow HF.out).mono ?_
 case hrun => exact HR.out.below qL
 case hlow => exact fun c hc => by have := hA c hc; omega
 rintro e2 w2 ⟨hrun2, ho2, rfl⟩
 rw [HY.out]
 rw [HY.out] at hrun2
 have HR2 := hid (show IsRun (New A _) op known vf vk _ b w2 from hrun2)
 clear hrun2
 ((obtain ⟨hc2, hf2, hs2⟩ := qO ho2); (try have := qN0 w w2); (try have := qN1 w w2); (try have := qN2 w w2); (try have := qN0 w1 w2))
 simp only [Option.getD_none, Option.isSome_none, Z0x]
 go_wp2_with fail
 refine bodyPost_ret (results_none rfl _ _ _) rfl ⟨rfl, ?_, qV⟩
 rw [HX.out]
 refine IsRun.alloc (IsRun.imp HR2.out (fun c hc => ?_)) _
 rcases hc with h1 | h1
 ·exact .inl h1
 ·exact .inr (by omega)
def Steps (op : Bt.Op) (known : List Bt.Page) (fa ka : Option Addr) (fn fc kn kc : Nat) (ws : List Bt.Page) (o : Bt.Out) (w : World) : Prop :=
 PgRow w (.slice fa fn fc) op.fresh → PgRow w (.slice ka kn kc) known → NoneAt w → Calls Tryz.prog 27 #[.agg (Z0d op (.slice fa fn fc)), .slice ka kn kc] w (Z1S ws o w)
structure RootIs (known : List Bt.Page) (p : Bt.Page) (q : Bt.Ptr) (lv : Int) : Prop where
 here : Bt.latest known 96 = some p
 free : Bt.locked p = false
 read : Bt.Z1p p = some (q, lv)
def Z1R (op : Bt.Op) (ps : List Bt.Page) (nx : Int) : Prop := op.fresh = [] ∨ (op.fresh = [Bt.pg ps nx] ∧ nx < 256)
theorem Z1R.cases {op : Bt.Op} {ps : List Bt.Page} {nx : Int} {es : List Bt.Entry} {T : List (List Bt.Cell)} (hf : Z1R op ps nx) (h : Bt.Inv ps nx es T) : op.fresh = [] ∨ ∃ f q, op.fresh = [f] ∧ f.Ok ∧ Bt.allocate f 4 0 = (q, 0) ∧ q.line = nx := by
 rcases hf with h1 | ⟨h1, h2⟩
 ·exact .inl h1
 ·have ha := h.alloc h2
  have hb := h.bound
  refine .inr ⟨_, _, h1, h.ix.ok _ (h.ix.at (l := nx) (by omega) h2).2.2.1, ha.1, ha.2.line⟩
theorem Z7l (A : Nat → Prop) (op : Bt.Op) (known : List Bt.Page) (vf vk : Value) (s : Bt.St) (b : Nat) (page : Bt.Page) (n : Bt.Node) (es : List Bt.Entry) (v : Value) (hv : ∃ a0 n0 c0, v = .slice a0 n0 c0) (g m cap : Nat) (w : World) (h : IsRun A op known vf vk s b w) (hA : ∀ c, A c → c < w.heap.size)
 (hbg : b < g) (hm : m = es.length) (hcap : m ≤ cap) (he : EntRow w (.slice (some ⟨g, 0, none⟩) m cap) es) (hp : page.Ok) (hn : 0 ≤ n.level ∧ n.level ≤ 8) (hnh : 0 ≤ n.high ∧ n.high < 4294967296) (h6 : es.length ≤ 6)
 (hfr : op.fresh = [] ∨ ∃ f q, op.fresh = [f] ∧ f.Ok ∧ Bt.allocate f 4 0 = (q, 0) ∧ q.line ≠ page.line) :
 Calls Tryz.prog 86 #[.pointer (some ⟨b, 0, none⟩), .agg (Z0g page n v), .slice (some ⟨g, 0, none⟩) m cap, .slice none 0 0] w (Z0y A op known vf vk (s.store op page n es []) b (.tuple #[]) w) := by
 obtain ⟨a0, n0, c0, rfl⟩ := hv
 by_cases h5 : es.length ≤ 5
 ·subst hm
  exact Zad A op known vf vk s b page n es a0 n0 c0 g cap w h hA hp ⟨⟨hn.1, by show n.level ≤ 255; omega⟩, hnh, h5⟩ he h5
 ·obtain rfl : m = 6 := by omega
  rcases hfr with hf | ⟨f, q, hf, hfo, hfa, hne⟩
  ·exact Z8b A op known vf vk s b page n es a0 n0 c0 g cap w h hA (by omega) hf
  ·exact Z8a A op known vf vk s b page n es a0 n0 c0 g cap w h hA hp hn hnh he (by omega) hcap hbg f q [] hf hfo hfa hne
theorem Z24 (ps : List Bt.Page) (T : List (List Bt.Cell)) : 0 ≤ (Bt.S0 ps T).out.hops ∧ (Bt.S0 ps T).out.hops ≤ 1000 := ⟨Int.le_refl 0, by show (0 : Int) ≤ 1000; omega⟩
theorem Z3x (ps : List Bt.Page) (T : List (List Bt.Cell)) {hs : List Bt.Node} (H : Int) (hl : hs.length ≤ 256) : 0 ≤ (Bt.after hs H (Bt.S0 ps T)).out.hops ∧ (Bt.after hs H (Bt.S0 ps T)).out.hops ≤ 1000 := by
 rw [Bt.Z84]
 have h0 : (Bt.S0 ps T).out.hops = 0 := rfl
 omega
section
variable {ps : List Bt.Page} {nx : Int} {es : List Bt.Entry} {T : List (List Bt.Cell)} (h : Bt.Inv ps nx es T) (op : Bt.Op) (hk : 1 ≤ op.key) (hk2 : op.key ≤ Bt.Z08) (vf vk : Value) (b : Nat) (w : World) (hr : IsRun (fun _ => False) op ps vf vk (Bt.S0 ps T) b w)
include h hk hk2 hr
theorem Zc8 : Calls Tryz.prog 51 #[.pointer (some ⟨b, 0, none⟩)] w (Z0y (fun _ => False) op ps vf vk ((Bt.S0 ps T).find op ps) b (.tuple #[]) w) := by
 obtain ⟨r1, r2, r3, r4, r5⟩ := h.rootHere
 by_cases hT : T = []
 ·subst hT
  exact ZaU _ op ps vf vk _ b w hr (fun _ h => h.elim) rfl r4 r2
 ·have hroot : (Bt.S0 ps T).root ≠ Bt.nilP := fun e => hT (h.rootNil.1 e)
  obtain ⟨pre, A, l, n, R, post, hs, i1, i2, i3, i4, i5, i6, i7, i8⟩ := h.dives (lev := 0) (List.length_pos_iff.2 hT) hk hk2
  exact ZaV _ op ps vf vk _ b _ _ n w hr (fun _ h => h.elim) hroot (Z24 ps T) (i8 _ rfl)
theorem ZaP (hto : Bt.Z0w op.to = true) (hf : Z1R op ps nx) : Calls Tryz.prog 52 #[.pointer (some ⟨b, 0, none⟩)] w (Z0y (fun _ => False) op ps vf vk ((Bt.S0 ps T).insert op ps) b (.tuple #[]) w) := by
 obtain ⟨r1, r2, r3, r4, r5⟩ := h.rootHere
 have hk3 : 0 ≤ op.key ∧ op.key < 4294967296 := by unfold Bt.Z08 at hk2; omega
 by_cases hT : T = []
 ·subst hT
  refine Z7H _ op ps vf vk _ b w hr (fun _ h => h.elim) rfl (hid (fun w2 h2 hA2 => ?_))
  rcases hf.cases h with hf | ⟨f, q, hf, hfo, hfa, hfl⟩
  ·exact Z8m _ op ps vf vk _ b _ w2 h2 hA2 r4 r2 hf
  ·exact Zao _ op ps vf vk _ b _ w2 h2 hA2 r4 r2 r3 f q [] hf hfo hfa hk3
 ·have hroot : (Bt.S0 ps T).root ≠ Bt.nilP := fun e => hT (h.rootNil.1 e)
  obtain ⟨pre, A, l, n, R, post, hs, i1, i2, i3, i4, i5, i6, i7, i8⟩ := h.dives (lev := 0) (List.length_pos_iff.2 hT) hk hk2
  have hd : Bt.Dives ps 0 op.key (Bt.S0 ps T) _ _ := i8 _ rfl
  have hse : Bt.Sees ps l n := h.sees _ i6
  have hv := Bt.Node.valid_parts hse.good.valid
  have hrg := hse.good.range
  have hrl : 105 ≤ l ∧ l < nx := h.range _ i6
  have hpk := h.ix.ok _ (h.ix.at (l := l) (by have := hse.lo; show 96 ≤ l; omega) hse.hi).2.2.1
  cases hhk : Bt.Z0T n.entries op.key with
  | true => exact Z7F _ op ps vf vk _ b _ _ n w hr (fun _ h => h.elim) hroot (Z24 ps T) hd hhk
  | false =>
    refine Z7I _ op ps vf vk _ b _ _ n w hr (fun _ h => h.elim) hroot (Z24 ps T) hd hhk hk3 (hid (fun A' w' v g m cap hv2 h2 hA2 hbg hm hmc he => ?_))
    have hc := Z5i n.entries op.key
    have hlen : (Bt.Z0h n.entries (Bt.child n.entries op.key) ⟨op.key, op.to⟩).length = n.entries.length + 1 := by simp [Bt.Z0h]; omega
    refine Z7l A' op ps vf vk _ b _ n _ v hv2 g m cap w' h2 hA2 hbg hm hmc he hpk ⟨hv.1, hv.2.1⟩ ⟨by omega, by omega⟩ (by have := hv.2.2.1; omega) ?_
    rcases hf.cases h with hf | ⟨f, q, hf, hfo, hfa, hfl⟩
    ·exact .inl hf
    ·refine .inr ⟨f, q, hf, hfo, hfa, ?_⟩
     rw [hfl, hse.line]
     exact fun e => by have := hrl.2; omega
theorem Zai (hf : Z1R op ps nx) : Calls Tryz.prog 53 #[.pointer (some ⟨b, 0, none⟩)] w (Z0y (fun _ => False) op ps vf vk ((Bt.S0 ps T).remove op ps) b (.tuple #[]) w) := by
 obtain ⟨r1, r2, r3, r4, r5⟩ := h.rootHere
 by_cases hT : T = []
 ·subst hT
  exact Z8f _ op ps vf vk _ b w hr (fun _ h => h.elim) rfl r4 r2
 ·have hroot : (Bt.S0 ps T).root ≠ Bt.nilP := fun e => hT (h.rootNil.1 e)
  obtain ⟨pre, A, l, n, R, post, hs, i1, i2, i3, i4, i5, i6, i7, i8⟩ := h.dives (lev := 0) (List.length_pos_iff.2 hT) hk hk2
  have hd : Bt.Dives ps 0 op.key (Bt.S0 ps T) _ _ := i8 _ rfl
  have hse : Bt.Sees ps l n := h.sees _ i6
  have hv := Bt.Node.valid_parts hse.good.valid
  have hrg := hse.good.range
  have hrl : 105 ≤ l ∧ l < nx := h.range _ i6
  have hpk := h.ix.ok _ (h.ix.at (l := l) (by have := hse.lo; show 96 ≤ l; omega) hse.hi).2.2.1
  cases hhk : Bt.Z0T n.entries op.key with
  | false => exact Z8g _ op ps vf vk _ b _ _ n w hr (fun _ h => h.elim) hroot (Z24 ps T) hd hhk
  | true =>
    refine Z8h _ op ps vf vk _ b _ _ n w hr (fun _ h => h.elim) hroot (Z24 ps T) hd hhk (hid (fun A' w' v g m cap hv2 h2 hA2 hbg hm hmc he => ?_))
    have hlen : (Bt.Z0B n.entries (Bt.child n.entries op.key)).length ≤ n.entries.length := by simp [Bt.Z0B]; omega
    refine Z7l A' op ps vf vk _ b _ n _ v hv2 g m cap w' h2 hA2 hbg hm hmc he hpk ⟨hv.1, hv.2.1⟩ ⟨by omega, by omega⟩ (by have := hv.2.2.1; omega) ?_
    rcases hf.cases h with hf | ⟨f, q, hf, hfo, hfa, hfl⟩
    ·exact .inl hf
    ·refine .inr ⟨f, q, hf, hfo, hfa, ?_⟩
     rw [hfl, hse.line]
     exact fun e => by have := hrl.2; omega
theorem Zac : Calls Tryz.prog 58 #[.pointer (some ⟨b, 0, none⟩)] w (Z0y (fun _ => False) op ps vf vk ((Bt.S0 ps T).unlink op ps) b (.tuple #[]) w) := by
 by_cases hT : T = []
 ·subst hT
  exact Z98 _ op ps vf vk _ b w hr rfl
 ·have hroot : (Bt.S0 ps T).root ≠ Bt.nilP := fun e => hT (h.rootNil.1 e)
  obtain ⟨pre, A, l, n, R, post, hs, i1, i2, i3, i4, i5, i6, i7, i8⟩ := h.dives (lev := 0) (List.length_pos_iff.2 hT) hk hk2
  have hd : Bt.Dives ps 0 op.key (Bt.S0 ps T) _ _ := i8 _ rfl
  obtain rfl : post = [] := List.length_eq_zero_iff.1 i2
  have hlv : Bt.Level ((([] : List (List Bt.Cell)).length : Nat) : Int) (A ++ (l, n) :: R) := Bt.Tree.level (pre := pre) (i1 ▸ h.tree)
  by_cases hri : n.right = Bt.nilP
  ·exact Z7h _ op ps vf vk _ b _ _ n w hr (fun _ h => h.elim) hroot (Z24 ps T) hd hri
  have hch := (Bt.Chain.append.1 hlv.chain).2
  cases R with
  | nil => exact absurd hch.1 hri
  | cons d R =>
    have hrd : n.right = Bt.ptr d.1 := hch.1
    have hdm : d ∈ Bt.flat T := by rw [i1]; simp [Bt.flat]
    have hsd := h.sees d hdm
    have hdl : d.2.level = 0 := hlv.level d (by simp)
    have hl : (Bt.after hs (T.length : Int) (Bt.S0 ps T)).look ps n.right true = (Bt.after hs (T.length : Int) (Bt.S0 ps T), some (Bt.pg ps d.1, d.2)) := by rw [hrd]; exact hsd.look _ _
    cases hdd : d.2.dead with
    | false => exact Z88 _ op ps vf vk _ b _ _ n w hr (fun _ h => h.elim) hroot (Z24 ps T) hd hri _ _ hl hdl hdd
    | true => exact Z89 _ op ps vf vk _ b _ _ n w hr (fun _ h => h.elim) hroot (Z24 ps T) hd hri _ _ hl hdl hdd
theorem ZaM : Calls Tryz.prog 57 #[.pointer (some ⟨b, 0, none⟩)] w (Z0y (fun _ => False) op ps vf vk ((Bt.S0 ps T).kill op ps) b (.tuple #[]) w) := by
 by_cases hT : T = []
 ·subst hT
  exact Zbw _ op ps vf vk _ b w hr rfl
 ·have hroot : (Bt.S0 ps T).root ≠ Bt.nilP := fun e => hT (h.rootNil.1 e)
  obtain ⟨pre, A, l, n, R, post, hs, i1, i2, i3, i4, i5, i6, i7, i8⟩ := h.dives (lev := 0) (List.length_pos_iff.2 hT) hk hk2
  have hd : Bt.Dives ps 0 op.key (Bt.S0 ps T) _ _ := i8 _ rfl
  by_cases hk1 : 0 < n.entries.length
  ·exact ZaN _ op ps vf vk _ b _ _ n w hr (fun _ h => h.elim) hroot (Z24 ps T) hd hk1
  have hk1 : n.entries.length = 0 := by omega
  cases hk2' : n.leftmost with
  | true => exact Z9k _ op ps vf vk _ b _ _ n w hr (fun _ h => h.elim) hroot (Z24 ps T) hd hk1 hk2'
  | false =>
    by_cases hk3 : n.right = Bt.nilP
    ·exact Z9l _ op ps vf vk _ b _ _ n w hr (fun _ h => h.elim) hroot (Z24 ps T) hd hk1 hk2' hk3
    by_cases hlen : T.length ≤ 1
    ·exact ZaK _ op ps vf vk _ b _ _ n w hr (fun _ h => h.elim) hroot (Z24 ps T) hd hk1 hk2' hk3 (Z3x ps T _ i7) _ (h.divesAbsent (lev := 1) hlen hT op.key _ rfl)
    obtain ⟨pre', A', l', m, R', post', hs', j1, j2, j3, j4, j5, j6, j7, j8⟩ := h.dives (lev := 1) (by omega) hk hk2
    have hd2 : Bt.Dives ps 1 op.key (Bt.after hs (T.length : Int) (Bt.S0 ps T)) _ _ := j8 _ rfl
    have hsm : Bt.Sees ps l' m := h.sees _ j6
    have hvm := Bt.Node.valid_parts hsm.good.valid
    have hml : m.level = 1 := (Bt.Tree.level (pre := pre') (j1 ▸ h.tree)).level (l', m) (by simp) |>.trans (by rw [j2]; rfl)
    have hcl : Bt.child m.entries op.key < m.entries.length := by
     have hm2 := hvm.2.2.2.2.2.2.2.2.2.1 (by show 0 < m.level; omega)
     obtain ⟨a, e, b', e1, e2, e3, e4, e5⟩ := Bt.Z5v (es := m.entries) (k := op.key) (by omega) (by have : op.key ≤ m.high := j5; have := hm2; omega)
     exact (List.getElem?_eq_some_iff.1 e5).1
    by_cases hct : (m.entries.getD (Bt.child m.entries op.key) default).to = Bt.at_ (Bt.pg ps l)
    ·by_cases hck : (m.entries.getD (Bt.child m.entries op.key) default).key = n.high
     ·by_cases hcn : Bt.child m.entries op.key + 1 = m.entries.length
      ·exact ZaL _ op ps vf vk _ b _ _ n w hr (fun _ h => h.elim) hroot (Z24 ps T) hd hk1 hk2' hk3 (Z3x ps T _ i7) _ _ m hd2 hcl hct hck hcn
      ·exact ZaO _ op ps vf vk _ b _ _ n w hr (fun _ h => h.elim) hroot (Z24 ps T) hd hk1 hk2' hk3 (Z3x ps T _ i7) _ _ m hd2 hcl hct hck hcn
     ·exact Z9m _ op ps vf vk _ b _ _ n w hr (fun _ h => h.elim) hroot (Z24 ps T) hd hk1 hk2' hk3 (Z3x ps T _ i7) _ _ m hd2 hcl hct hck
    ·exact Z9n _ op ps vf vk _ b _ _ n w hr (fun _ h => h.elim) hroot (Z24 ps T) hd hk1 hk2' hk3 (Z3x ps T _ i7) _ _ m hd2 hcl hct
end
theorem Zbo {ps : List Bt.Page} {nx : Int} {es : List Bt.Entry} {T : List (List Bt.Cell)} (h : Bt.Inv ps nx es T) (op : Bt.Op) (vf vk : Value) (b : Nat) (w : World) (hr : IsRun (fun _ => False) op ps vf vk (Bt.S0 ps T) b w) (hsm : T.length ≤ 8) (hf : Z1R op ps nx) :
 Calls Tryz.prog 56 #[.pointer (some ⟨b, 0, none⟩)] w (Z0y (fun _ => False) op ps vf vk ((Bt.S0 ps T).raise op ps) b (.tuple #[]) w) := by
 obtain ⟨r1, r2, r3, r4, r5⟩ := h.rootHere
 by_cases hT : T = []
 ·subst hT
  exact Zal _ op ps vf vk _ b w hr rfl
 ·have hroot : (Bt.S0 ps T).root ≠ Bt.nilP := fun e => hT (h.rootNil.1 e)
  obtain ⟨c, r, t, i1, i2, i3⟩ := h.rootHas hT
  have hcm : c ∈ Bt.flat T := by rw [i1]; simp [Bt.flat]
  have hse := h.sees c hcm
  have hl : (Bt.S0 ps T).look ps (Bt.S0 ps T).root true = (Bt.S0 ps T, some (Bt.pg ps c.1, c.2)) := by rw [show (Bt.S0 ps T).root = Bt.ptr c.1 from i2]; exact hse.look _ _
  by_cases hri : c.2.right = Bt.nilP
  ·exact Z8i _ op ps vf vk _ b _ c.2 w hr (fun _ h => h.elim) hroot hl hri
  have hlev : c.2.level ≠ 8 := by rw [i3]; rw [i1] at hsm; simp only [List.length_cons] at hsm; omega
  rcases hf.cases h with hf | ⟨f, q, hf, hfo, hfa, hfl⟩
  ·exact Z8j _ op ps vf vk _ b _ c.2 w hr (fun _ h => h.elim) hroot hl hri hlev hf
  ·refine Zak _ op ps vf vk _ b _ c.2 w hr (fun _ h => h.elim) hroot hl hri hlev r4 r3 f q [] hf hfo hfa ?_
   rw [hfl, hse.line]
   exact fun e => by have := (h.range c hcm).2; omega
end Go.Proofs.YtjmpekanlmepmaaGreatDoor
