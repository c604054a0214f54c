/- The reference's fabric in memory. The reference's fabric: alive, Waiting. The reference's fabric: Choices. -/
import Derived.Test.YtoidjgongafnkaaGreatDoorWEe
set_option linter.unusedVariables false
set_option linter.unusedSimpArgs false
set_option linter.unusedSectionVars false
set_option linter.constructorNameAsVariable false
namespace Go.Proofs.YtoidjgongafnkaaGreatDoor
open Go.RowKit

/-- Where a fabric lies: its own block, its nodes, clients, the pairs' slice, the pairs, the nodes' words; the rows' capacities. -/
structure Geo where
  f : Nat
  nd : Nat
  cl : Nat
  lv : Nat
  pr : Nat
  mb : List Nat
  cn : Nat
  cc : Nat
  ca : Nat
  cp : Nat
def Geo.fcs (g : Geo) : Array Value := #[.int .i64 108, .slice (some ⟨g.nd, 0, none⟩) g.mb.length g.cn, .slice (some ⟨g.cl, 0, none⟩) 1 g.cc, .slice (some ⟨g.lv, 0, none⟩) 1 g.ca, .slice none 0 0]
/-- What does not change while batches are played. -/
structure Geo.At (g : Geo) (w : World) (B : Nat) : Prop where
  fab : Blk w g.f 58 g.fcs
  nodes : ∃ cs, Blk w g.nd 61 cs ∧ ∀ i b, g.mb[i]? = some b → cs[i * 2]? = some (.slice (some ⟨b, 0, none⟩) 864 864) ∧ cs[i * 2 + 1]? = some (.bool true)
  live : ∃ cs, Blk w g.lv 56 cs ∧ cs[0]? = some (.slice (some ⟨g.pr, 0, none⟩) g.mb.length g.cp)
  lf : g.f < B
  ln : g.nd < B
  lc : g.cl < B
  ll : g.lv < B
  lp : g.pr < B
  lm : ∀ b ∈ g.mb, b < B
  size : B ≤ w.heap.size
  dup : g.mb.Nodup
  m1 : 1 ≤ g.mb.length
  m4 : g.mb.length ≤ 4
/-- The client. -/
def Geo.Client (g : Geo) (w : World) (on : Bool) (vd vh : Value) : Prop :=
  ∃ cs t p, Blk w g.cl 65 cs ∧ cs[0]? = some (.bool true) ∧ cs[1]? = some (.int .i64 1) ∧ cs[2]? = some (.bool on) ∧ cs[3]? = some vd ∧ cs[4]? = some vh ∧ cs[5]? = some (.int .i64 t) ∧ cs[6]? = some (.int .i64 p)
/-- The pairs. -/
def Geo.Pairs (g : Geo) (w : World) (B : Nat) (q : List (List Cm.Pend)) : Prop :=
  q.length = g.mb.length ∧ ∃ cs, Blk w g.pr 107 cs ∧ ∀ i l, q[i]? = some l → cs[i * 4]? = some (.int .i64 0) ∧ cs[i * 4 + 1]? = some (.int .i64 1) ∧ cs[i * 4 + 2]? = some (.int .i64 i) ∧ ∃ v, cs[i * 4 + 3]? = some v ∧ QueueAt w B v l
/-- The memories. -/
def Geo.Mems (g : Geo) (w : World) (m : List Cm.Mem) : Prop := m.length = g.mb.length ∧ ∀ (i b : Nat) (x : Cm.Mem), g.mb[i]? = some b → m[i]? = some x → MemAt w b x
/-- What has completed. -/
def DnAt (w : World) (B : Nat) (dn hv cd ch : Nat) (d : List (Option (List Int))) : Prop :=
  B ≤ dn ∧ B ≤ hv ∧ ∃ csd csh, Blk w dn 151 csd ∧ Blk w hv 4 csh ∧ d.length ≤ cd ∧ d.length ≤ ch ∧
    ∀ i o, d[i]? = some o → csh[i]? = some (.bool o.isSome) ∧ csd[i * 2]? = some (.int .i64 0) ∧ ∃ v, csd[i * 2 + 1]? = some v ∧ ∀ ws, o = some ws → WordsAt w B v ws

theorem Blk.ne {w : World} {a b : Nat} {t t' : TypeId} {cs cs' : Array Value} (h : Blk w a t cs) (h' : Blk w b t' cs') (ht : t ≠ t') : a ≠ b := by
  intro e
  subst e
  exact ht (h.type h').1
theorem MemAt.ne {w : World} {a b : Nat} {m : Cm.Mem} {t : TypeId} {cs : Array Value} (h : MemAt w b m) (h' : Blk w a t cs) (ht : t ≠ 33) : a ≠ b := by
  obtain ⟨cs2, h1, _⟩ := h
  exact h'.ne h1 ht

section
variable {S : Nat → Prop} {w w' : World} {B : Nat} {g : Geo}
theorem Geo.At.mod (h : g.At w B) (hm : Mod S w w') (h1 : ¬ S g.f) (h2 : ¬ S g.nd) (h3 : ¬ S g.lv) : g.At w' B := by
  obtain ⟨a1, ⟨cs, a2, a2'⟩, ⟨cs2, a3, a3'⟩, b1, b2, b3, b4, b5, b6, b7, b8, b9, b10⟩ := h
  exact ⟨hm.blk a1 h1, ⟨cs, hm.blk a2 h2, a2'⟩, ⟨cs2, hm.blk a3 h3, a3'⟩, b1, b2, b3, b4, b5, b6, Nat.le_trans b7 hm.size, b8, b9, b10⟩
theorem Geo.Client.mod {on : Bool} {vd vh : Value} (h : g.Client w on vd vh) (hm : Mod S w w') (h1 : ¬ S g.cl) : g.Client w' on vd vh := by
  obtain ⟨cs, t, p, a1, a2⟩ := h
  exact ⟨cs, t, p, hm.blk a1 h1, a2⟩
theorem Geo.Pairs.mod {q : List (List Cm.Pend)} (h : g.Pairs w B q) (hm : Mod S w w') (h1 : ¬ S g.pr) (hs : ∀ k, S k → k < B ∨ ∃ t' cs', Blk w k t' cs' ∧ t' ≠ 33 ∧ t' ≠ 208) : g.Pairs w' B q := by
  obtain ⟨a0, cs, a1, a2⟩ := h
  refine ⟨a0, cs, hm.blk a1 h1, fun i l hl => ?_⟩
  obtain ⟨b1, b2, b3, v, b4, b5⟩ := a2 i l hl
  exact ⟨b1, b2, b3, v, b4, b5.mod hm hs⟩
theorem Geo.Mems.mod {m : List Cm.Mem} (h : g.Mems w m) (hm : Mod S w w') (hs : ∀ b ∈ g.mb, ¬ S b) : g.Mems w' m := by
  obtain ⟨a0, a1⟩ := h
  exact ⟨a0, fun i b x hb hx => (a1 i b x hb hx).mod hm (hs b (List.mem_of_getElem? hb))⟩
theorem DnAt.mod {dn hv cd ch : Nat} {d : List (Option (List Int))} (h : DnAt w B dn hv cd ch d) (hm : Mod S w w') (h1 : ¬ S dn) (h2 : ¬ S hv) (hs : ∀ k, S k → k < B ∨ ∃ t' cs', Blk w k t' cs' ∧ t' ≠ 33) : DnAt w' B dn hv cd ch d := by
  obtain ⟨a1, a2, csd, csh, a3, a4, a5, a6, a7⟩ := h
  refine ⟨a1, a2, csd, csh, hm.blk a3 h1, hm.blk a4 h2, a5, a6, fun i o hi => ?_⟩
  obtain ⟨b1, b2, v, b3, b4⟩ := a7 i o hi
  exact ⟨b1, b2, v, b3, fun ws hw => (b4 ws hw).mod hm hs⟩
theorem Geo.At.below (h : g.At w B) (hb : Below w.heap.size w w') : g.At w' B := h.mod (S := fun _ => False) (Mod.of_below hb) (fun e => e) (fun e => e) (fun e => e)
theorem Geo.Client.below {on : Bool} {vd vh : Value} (h : g.Client w on vd vh) (hb : Below w.heap.size w w') : g.Client w' on vd vh := h.mod (S := fun _ => False) (Mod.of_below hb) (fun e => e)
theorem Geo.Pairs.below {q : List (List Cm.Pend)} (h : g.Pairs w B q) (hb : Below w.heap.size w w') : g.Pairs w' B q := h.mod (S := fun _ => False) (Mod.of_below hb) (fun e => e) (fun _ e => e.elim)
theorem Geo.Mems.below {m : List Cm.Mem} (h : g.Mems w m) (hb : Below w.heap.size w w') : g.Mems w' m := h.mod (S := fun _ => False) (Mod.of_below hb) (fun _ _ e => e)
theorem DnAt.below {dn hv cd ch : Nat} {d : List (Option (List Int))} (h : DnAt w B dn hv cd ch d) (hb : Below w.heap.size w w') : DnAt w' B dn hv cd ch d := h.mod (S := fun _ => False) (Mod.of_below hb) (fun e => e) (fun e => e) (fun _ e => e.elim)
end
end Go.Proofs.YtoidjgongafnkaaGreatDoor
namespace Go.Proofs.YtoidjgongafnkaaGreatDoor
open Go.RowKit

set_option maxRecDepth 10000 in
set_option maxHeartbeats 1000000 in
theorem alive_ok (g : Geo) (B : Nat) (on : Bool) (vd vh : Value) (w : World) (hg : g.At w B) (hc : g.Client w on vd vh) :
    Calls Tryz.prog 52 #[.pointer (some ⟨g.f, 0, none⟩), .int .i64 0] w fun e w' => e = .returned (.bool true) ∧ w = w' := by
  have hf := hg.fab
  obtain ⟨cs, t, p, hb, c0, -⟩ := hc
  have k0 : w.cell? ⟨g.cl, 0, none⟩ = some (.bool true) := (hb.cell _).trans c0
  unfold Geo.fcs at hf
  have kf := hf.cell
  have lf := hf.lt
  have ll := hb.lt
  clear hf hb hg
  go_enter Tryz.func52, Tryz.ntmps52
  go_wp2_with fail
  refine bodyPost_ret (results_tmp rfl _ _ _) rfl ⟨rfl, rfl⟩

theorem nones_step (d : List (Option (List Int))) (j : Nat) (o : Option (List Int)) (h : d[j]? = some o) : ((d.take (j + 1)).filter Option.isNone).length = ((d.take j).filter Option.isNone).length + (if o.isNone then 1 else 0) := by
  have hj := (List.getElem?_eq_some_iff.1 h).1
  rw [List.take_add_one, h, List.filter_append, List.length_append]
  rcases o with _ | o <;> simp
def WaitLoop (d : List (Option (List Int))) (W : World) (nv iv : Value) (wr : World) : Prop :=
  ∃ j : Nat, j ≤ d.length ∧ iv = .int .i64 j ∧ nv = .int .i64 (((d.take j).filter Option.isNone).length : Nat) ∧ wr = W

set_option maxRecDepth 10000 in
set_option maxHeartbeats 1000000 in
theorem waiting_ok (g : Geo) (B dn hv cd ch : Nat) (vd : Value) (d : List (Option (List Int))) (w : World) (hg : g.At w B) (hc : g.Client w true vd (.slice (some ⟨hv, 0, none⟩) d.length ch)) (hd : DnAt w B dn hv cd ch d) (hl : d.length ≤ 1000) :
    Calls Tryz.prog 26 #[.pointer (some ⟨g.f, 0, none⟩), .int .i64 0] w fun e w' => e = .returned (.int .i64 ((d.filter Option.isNone).length : Nat)) ∧ w = w' := by
  have hf := hg.fab
  obtain ⟨cs, t, p, hb, c0, c1, c2, c3, c4, c5, c6⟩ := hc
  obtain ⟨-, -, csd, csh, -, h2, -, -, h3⟩ := hd
  have k2 : w.cell? ⟨g.cl, 2, none⟩ = some (.bool true) := (hb.cell _).trans c2
  have k4 : w.cell? ⟨g.cl, 4, none⟩ = some (.slice (some ⟨hv, 0, none⟩) d.length ch) := (hb.cell _).trans c4
  have HD : Hid (∀ j o, d[j]? = some o → w.cell? ⟨hv, j, none⟩ = some (.bool o.isSome)) := Lib.hid (fun j o h => (h2.cell _).trans (h3 j o h).1)
  have lh := h2.lt
  unfold Geo.fcs at hf
  have kf := hf.cell
  have lf := hf.lt
  have ll := hb.lt
  clear hf hb hg h2 h3 c0 c1 c2 c3 c4 c5 c6
  go_enter Tryz.func26, Tryz.ntmps26
  go_wp2_with fail
  go_loopw [5, 6] (fun nv iv wr => WaitLoop d w nv iv wr) (fun _ iv _ => ((d.length : Int) - intOf iv).toNat)
  case atStart => exact ⟨0, by omega, rfl, rfl, rfl⟩
  case round =>
    obtain ⟨j, hj, rfl, rfl, rfl⟩ := hrel
    obtain ⟨n, hn⟩ : ∃ n, n = ((d.take j).filter Option.isNone).length := ⟨_, rfl⟩
    have hnl : n ≤ 1000 := by
      have h1 := List.length_filter_le Option.isNone (d.take j)
      have h2 : (d.take j).length ≤ d.length := by rw [List.length_take]; omega
      omega
    rw [← hn]
    have HN := Lib.hid hn
    clear hn
    by_cases hj2 : j < d.length
    · have b1 : decide ((j : Int) < d.length) = true := by simp; omega
      obtain ⟨o, ho⟩ : ∃ o, d[j]? = some o := ⟨_, List.getElem?_eq_getElem hj2⟩
      have ko := HD.out j o ho
      have i0 : (0 : Int) ≤ j := by omega
      have i1 : (j : Int) < d.length := by omega
      have HO := Lib.hid ho
      clear ho
      rcases o with _ | o
      · go_wp2_with fail
        have := nones_step d j none HO.out
        refine ⟨⟨j + 1, by omega, by simp, ?_, rfl⟩, by simp [intOf]; omega⟩
        rw [this, ← HN.out]
        simp
      · go_wp2_with fail
        have := nones_step d j (some o) HO.out
        refine ⟨⟨j + 1, by omega, by simp, ?_, rfl⟩, by simp [intOf]; omega⟩
        rw [this, ← HN.out]
        simp
    · have b1 : decide ((j : Int) < d.length) = false := by simp; omega
      go_wp2_with fail
      have e : (d.filter Option.isNone).length = n := by rw [HN.out, List.take_of_length_le (by omega)]
      refine bodyPost_ret (results_tmp rfl _ _ _) rfl ⟨by rw [e]; rfl, rfl⟩
end Go.Proofs.YtoidjgongafnkaaGreatDoor
namespace Go.Proofs.YtoidjgongafnkaaGreatDoor
open Go.RowKit

/-- The pairs that have something to do. -/
def chosen : List (List Cm.Pend) → Nat → List Nat
  | [], _ => []
  | [] :: l, k => chosen l (k + 1)
  | (_ :: _) :: l, k => k :: chosen l (k + 1)
theorem chosen_append (a : List (List Cm.Pend)) : ∀ (b : List (List Cm.Pend)) (k : Nat), chosen (a ++ b) k = chosen a k ++ chosen b (k + a.length) := by
  induction a with
  | nil => intro b k; simp [chosen]
  | cons x a ih =>
    intro b k
    rcases x with _ | ⟨y, x⟩
    · simp only [List.cons_append, chosen, ih, List.length_cons]
      rw [show k + 1 + a.length = k + (a.length + 1) by omega]
    · simp only [List.cons_append, chosen, ih, List.length_cons]
      rw [show k + 1 + a.length = k + (a.length + 1) by omega]
theorem chosen_first (q : List (List Cm.Pend)) : ∀ k, Cm.firstOf q k = (chosen q k).head? := by
  induction q with
  | nil => intro k; rfl
  | cons x q ih =>
    intro k
    rcases x with _ | ⟨y, x⟩
    · simp only [Cm.firstOf, chosen]; exact ih (k + 1)
    · simp [Cm.firstOf, chosen]
theorem chosen_len (q : List (List Cm.Pend)) : ∀ k, (chosen q k).length ≤ q.length := by
  induction q with
  | nil => intro k; simp [chosen]
  | cons x q ih =>
    intro k
    have := ih (k + 1)
    rcases x with _ | ⟨y, x⟩ <;> simp only [chosen, List.length_cons] <;> omega
theorem chosen_take (q : List (List Cm.Pend)) (j : Nat) (l : List Cm.Pend) (h : q[j]? = some l) : chosen (q.take (j + 1)) 0 = chosen (q.take j) 0 ++ (if l = [] then [] else [j]) := by
  have hj := (List.getElem?_eq_some_iff.1 h).1
  rw [List.take_add_one, h, Option.toList_some, chosen_append, List.length_take, Nat.min_eq_left (by omega), Nat.zero_add]
  rcases l with _ | ⟨y, l⟩ <;> simp [chosen]
def chCells (l : List Nat) : List Value := l.flatMap fun (i : Nat) => [.int .i64 (-1), .int .i64 0, .int .i64 (i : Int)]
theorem chCells_append (a b : List Nat) : chCells (a ++ b) = chCells a ++ chCells b := by simp [chCells]
theorem infoChoice : (Tryz.prog.info? 100).map (fun i => (i.zero, i.size, i.bytes)) = some (some (.agg #[.int .i64 0, .int .i64 0, .int .i64 0]), 3, 24) := by kernel_rfl
def ChRow (W : World) (l : List Nat) (v : Value) (wr : World) : Prop := wr.ownsRow W.heap.size 100 3 v l.length (chCells l) ∧ Below W.heap.size W wr
def ChIn (W : World) (q : List (List Cm.Pend)) (v iv : Value) (wr : World) : Prop := ∃ j : Nat, j ≤ q.length ∧ iv = .int .i64 j ∧ Hid (ChRow W (chosen (q.take j) 0) v wr)
def ChOut (W : World) (q : List (List Cm.Pend)) (v cv : Value) (wr : World) : Prop := (cv = .int .i64 0 ∧ v = .slice none 0 0 ∧ Hid (Below W.heap.size W wr)) ∨ (cv = .int .i64 1 ∧ Hid (ChRow W (chosen q 0) v wr))

set_option maxRecDepth 10000 in
set_option maxHeartbeats 2000000 in
theorem choices_ok (g : Geo) (B : Nat) (q : List (List Cm.Pend)) (w : World) (hg : g.At w B) (hp : g.Pairs w B q) :
    Calls Tryz.prog 28 #[.pointer (some ⟨g.f, 0, none⟩)] w fun e w' => ∃ v, e = .returned v ∧ ChRow w (chosen q 0) v w' := by
  obtain ⟨i0, hi, hz0, hz1, hz2⟩ := info_parts infoChoice
  have HG := Lib.hid (And.intro hg hp)
  have hql : q.length = g.mb.length := hp.1
  have hm4 := hg.m4
  clear hg hp
  go_enter Tryz.func28, Tryz.ntmps28
  go_wp2_with fail
  go_loopw [3, 4, 5] (fun v cv _ wr => ChOut w q v cv wr) (fun _ cv _ _ => ((1 : Int) - intOf cv).toNat)
  case atStart => exact .inl ⟨rfl, rfl, Lib.hid (Below.refl _ _)⟩
  case round =>
    rcases hrel with ⟨rfl, rfl, HB⟩ | ⟨rfl, HR⟩
    · have hf := (HG.out.1.below HB.out).fab
      obtain ⟨csl, hl, hl0⟩ := (HG.out.1.below HB.out).live
      unfold Geo.fcs at hf
      have kf := hf.cell
      have lf := hf.lt
      have kl : wr.cell? ⟨g.lv, 0, none⟩ = some (.slice (some ⟨g.pr, 0, none⟩) g.mb.length g.cp) := (hl.cell _).trans hl0
      have ll := hl.lt
      clear hf hl hl0
      go_wp2_with fail
      go_loopw [3, 5] (fun v iv wr2 => ChIn w q v iv wr2) (fun _ iv _ => ((q.length : Int) - intOf iv).toNat)
      case atStart => exact ⟨0, by omega, rfl, Lib.hid ⟨(World.ownsRow_nil _ _ _ _ : wr.ownsRow w.heap.size 100 3 (.slice none 0 0) 0 []), HB.out⟩⟩
      case round =>
        obtain ⟨j, hj, rfl, H⟩ := hrel
        clear kf lf kl ll
        have hb2 := H.out.2
        have hf := (HG.out.1.below hb2).fab
        obtain ⟨csl, hl, hl0⟩ := (HG.out.1.below hb2).live
        unfold Geo.fcs at hf
        have kf := hf.cell
        have lf := hf.lt
        have kl : wr.cell? ⟨g.lv, 0, none⟩ = some (.slice (some ⟨g.pr, 0, none⟩) g.mb.length g.cp) := (hl.cell _).trans hl0
        have ll := hl.lt
        obtain ⟨-, csp, hpp, hps⟩ := HG.out.2.below hb2
        have lp := hpp.lt
        have kp := hpp.cell
        clear hf hl hl0 hb2
        by_cases hj2 : j < q.length
        · obtain ⟨l, hl⟩ : ∃ l, q[j]? = some l := ⟨_, List.getElem?_eq_getElem hj2⟩
          obtain ⟨-, -, -, v, hv, hq⟩ := hps j l hl
          obtain ⟨pv, cv, rfl⟩ := hq.shape
          have k3 : wr.cell? ⟨g.pr, j * 4 + 3, none⟩ = some (.slice pv l.length cv) := (kp _).trans hv
          have b1 : decide ((j : Int) < g.mb.length) = true := by simp; omega
          have iz0 : (0 : Int) ≤ j := by omega
          have iz1 : (j : Int) < g.mb.length := by omega
          have HQ := Lib.hid (And.intro hl hql)
          clear kp hps hv hq hl hql
          rcases l with _ | ⟨y, l⟩
          · go_wp2_with fail
            refine ⟨⟨j + 1, by have := HQ.out.2; omega, by simp, Lib.hid ?_⟩, by have := HQ.out.2; simp [intOf]; omega⟩
            rw [chosen_take q j [] HQ.out.1]
            simpa using H.out
          · obtain ⟨d, hd⟩ : ∃ d, d = chosen (q.take j) 0 := ⟨_, rfl⟩
            have hdl : d.length ≤ 4 := by
              have h1 := chosen_len (q.take j) 0
              have h2 : (q.take j).length ≤ q.length := by rw [List.length_take]; omega
              rw [← hd] at h1
              have := HQ.out.2
              omega
            rw [← hd] at H
            have HD := Lib.hid hd
            obtain ⟨hown, hbl⟩ := H.out
            have hwl := hbl.size
            clear hd H
            go_wp2_with (at_builtin; refine halt ?_)
            refine unhalt ?_
            refine wpList_append_mine rfl (.tmp 41) (.tmp 45) 101 rfl w.heap.size 100 i0 _ 3 24 Tryz.underlying101 hi hz0 hz1 hz2 rfl (by decide) u3 d.length (chCells d) rfl
              (own_below hown (below_alloc (Below.refl _ _) _)) ⟨wr.heap.size, 0, none⟩ 1 1 [.int .i64 (-1), .int .i64 0, .int .i64 (j : Int)] rfl rfl (lit_news (o := 0) (cs := #[.int .i64 (-1), .int .i64 0, .int .i64 (j : Int)]) (Blk.made _ _ _))
              (by intro u hu; simp at hu; rcases hu with rfl | rfl | rfl <;> rfl) (by omega) (by unfold maxLen; omega) (by omega) (by simp; omega) ?_
            intro g4 cap4 w4 hown4 hg4
            have hb4 : Below w.heap.size w w4 := below_grown (w := w) (w1 := wr.alloc _) (by have := hbl; (repeat (first | with_reducible exact Below.refl _ _ | with_reducible assumption | with_reducible refine Below.setCell ?_ (by first | (simp; done) | (simp; omega)) _ | with_reducible refine below_alloc ?_ _ | with_reducible refine below_drewN ?_ _ | with_reducible refine Below.drew ?_ | with_reducible refine below_step ?_ (by assumption)))) hg4 (fun j hj => own_row_ge hown j hj)
            have HN : Hid (ChRow w (chosen (q.take (j + 1)) 0) (.slice (some ⟨g4, 0, none⟩) (d.length + 1) cap4) w4) := Lib.hid ⟨by
              rw [chosen_take q j _ HQ.out.1, ← HD.out]
              exact own_cast hown4 (by simp) (by rw [if_neg (by simp), chCells_append]; simp [chCells]), hb4⟩
            clear hown4 hg4 hb4 hown hbl
            go_wp2_with fail
            exact ⟨⟨j + 1, by have := HQ.out.2; omega, by simp, HN⟩, by have := HQ.out.2; simp [intOf]; omega⟩
        · have b2 : ¬ q.length < g.mb.length := by omega
          obtain rfl : j = q.length := by omega
          have HR : Hid (ChRow w (chosen q 0) u3 wr) := Lib.hid (by have := H.out; rwa [List.take_length] at this)
          clear H kp hps hql
          go_wp2_with fail
          exact ⟨.inr ⟨rfl, HR⟩, by simp [intOf]⟩
    · have hf := (HG.out.1.below HR.out.2).fab
      unfold Geo.fcs at hf
      have kf := hf.cell
      have lf := hf.lt
      clear hf
      go_wp2_with fail
      refine wp_loop_rounds 1 ?_
      rw [rounds_succ]
      go_wp2_with fail
      refine bodyPost_ret (results_tmp rfl _ _ _) rfl ⟨u3, rfl, HR.out⟩
end Go.Proofs.YtoidjgongafnkaaGreatDoor
