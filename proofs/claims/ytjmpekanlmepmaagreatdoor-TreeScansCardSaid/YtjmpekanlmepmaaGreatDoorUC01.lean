/- An index: a scan as a relation (plain Lean). -/
import Derived.Test.YtjmpekanlmepmaaGreatDoorB05
import Derived.Test.YtjmpekanlmepmaaGreatDoorB06
import Derived.Test.YtjmpekanlmepmaaGreatDoorB26
import Derived.Maps.AppendAt
set_option linter.all false
namespace Go.Proofs.YtjmpekanlmepmaaGreatDoor.Bt
def scanAcc (op : Op) (n : Node) (acc : List Entry) : List Entry := if n.dead then acc else scanTake op.key op.last op.limit acc n.entries
def scanChk (p : Page) (n : Node) (check : List Int) : List Int := if n.dead then check else check ++ [p.line]
def scanSt (op : Op) (s : St) (n : Node) (acc : List Entry) : St := if n.dead then s else { s with out := { s.out with more := decide (((scanTake op.key op.last op.limit acc n.entries).length : Int) = op.limit) } }
def St.hop2 (s : St) (n : Node) : St := { s with out := { s.out with hops := s.out.hops + 1, dead := s.out.dead || n.dead } }
def scanEnds (op : Op) (n : Node) (acc : List Entry) : Prop := ((scanTake op.key op.last op.limit acc n.entries).length : Int) = op.limit ∨ op.last ≤ n.high
inductive Scans (op : Op) (ps : List Page) : Nat → St → List Entry → List Int → Page → Node → St → Prop
 | stop {N : Nat} {s : St} {acc : List Entry} {check : List Int} {p : Page} {n : Node} (hd : n.dead = false) (hl : locked p = false) (he : scanEnds op n acc) :
     Scans op ps N s acc check p n (({ scanSt op s n acc with out := { (scanSt op s n acc).out with entries := scanAcc op n acc } } : St).fail 0 (scanChk p n check))
 | on {N : Nat} {s t : St} {acc : List Entry} {check : List Int} {p p' : Page} {n n' : Node} (hl : n.dead = false → locked p = false ∧ ¬ scanEnds op n acc)
     (hk : ((scanSt op s n acc).hop2 n).look ps n.right false = ((scanSt op s n acc).hop2 n, some (p', n'))) (hv : n'.level = n.level)
     (hr : Scans op ps N ((scanSt op s n acc).hop2 n) (scanAcc op n acc) (scanChk p n check) p' n' t) : Scans op ps (N + 1) s acc check p n t
theorem scans_from {ps : List Page} (op : Op) (R : List Cell) : ∀ (l : Int) (n : Node) (fuel : Nat) (s : St) (moves : Int) (acc : List Entry) (check : List Int),
 Chain ((l, n) :: R) nilP → (∀ c ∈ (l, n) :: R, Sees ps c.1 c.2) → (∀ c ∈ (l, n) :: R, c.2.level = 0) → op.last ≤ maxKey → R.length < fuel → moves + R.length ≤ 256 →
 Scans op ps R.length s acc check (pg ps l) n (scanFrom op ps fuel s moves acc check (pg ps l) n) := by
 induction R with
 | nil =>
   intro l n fuel s moves acc check hc hs hl hlast hfu hmv
   obtain ⟨f, rfl⟩ : ∃ f, fuel = f + 1 := ⟨fuel - 1, by omega⟩
   have hsn : Sees ps l n := hs (l, n) (by simp)
   obtain ⟨a1, a2, a3, a4, a5, a6, a7, a8, a9, a10, a11⟩ := Node.valid_parts hsn.good.valid
   have hnr : n.right = nilP := hc.1
   have hd : n.dead = false := by
    cases hd : n.dead with
    | false => rfl
    | true => exact absurd hnr (a9 hd).2.2.2
   have hhi : n.high = maxHigh := a7.2 hnr
   have hst : op.last ≤ n.high := by rw [hhi]; unfold maxKey at hlast; unfold maxHigh; omega
   have := Scans.stop (op := op) (ps := ps) (N := ([] : List Cell).length) (s := s) (acc := acc) (check := check) hd hsn.free (.inr hst)
   simp only [scanFrom]
   rw [if_neg (by rw [hd]; simp), if_neg (by rw [hsn.free]; simp), if_pos (.inr hst)]
   simp only [scanSt, scanAcc, scanChk, hd, Bool.false_eq_true, if_false] at this
   exact this
 | cons d R ih =>
   intro l n fuel s moves acc check hc hs hl hlast hfu hmv
   obtain ⟨f, rfl⟩ : ∃ f, fuel = f + 1 := ⟨fuel - 1, by omega⟩
   obtain ⟨k, m⟩ := d
   have hsn : Sees ps l n := hs (l, n) (by simp)
   have hsm : Sees ps k m := hs (k, m) (by simp)
   have hnr : n.right = ptr k := hc.1
   have hln : n.level = 0 := hl (l, n) (by simp)
   have hlm : m.level = 0 := hl (k, m) (by simp)
   have hlook : ∀ t : St, t.look ps n.right false = (t, some (pg ps k, m)) := fun t => by rw [hnr, hsm.look]
   have hnb : ∀ t : St, t.neighbour ps n = (t, some (pg ps k, m)) := fun t => by
    unfold St.neighbour
    rw [hlook]
    simp only
    rw [if_neg (by rw [hln, hlm]; simp)]
   simp only [List.length_cons] at hfu hmv
   have go : ∀ (t : St) (acc' : List Entry) (check' : List Int), Scans op ps R.length t acc' check' (pg ps k) m (scanFrom op ps f t (moves + 1) acc' check' (pg ps k) m) := fun t acc' check' =>
    ih k m f t (moves + 1) acc' check' hc.2 (fun c hc => hs c (List.mem_cons_of_mem _ hc)) (fun c hc => hl c (List.mem_cons_of_mem _ hc)) hlast (by omega) (by omega)
   simp only [scanFrom]
   cases hd : n.dead with
   | true =>
     rw [if_pos rfl, if_neg (by omega)]
     simp only [hnb]
     have h1 := Scans.on (op := op) (ps := ps) (s := s) (acc := acc) (check := check) (p := pg ps l) (n := n) (fun h => by rw [hd] at h; cases h) (hlook _) (by rw [hlm, hln]) (go ((scanSt op s n acc).hop2 n) (scanAcc op n acc) (scanChk (pg ps l) n check))
     simp only [scanSt, scanAcc, scanChk, hd, if_true, St.hop2] at h1
     exact h1
   | false =>
     rw [if_neg (by simp), if_neg (by rw [hsn.free]; simp)]
     by_cases hstop : scanEnds op n acc
     · have hstop' := hstop
       unfold scanEnds at hstop'
       rw [if_pos (hstop'.imp (fun h => by simpa using h) id)]
       have := Scans.stop (op := op) (ps := ps) (N := (((k, m) :: R) : List Cell).length) (s := s) (acc := acc) (check := check) hd hsn.free hstop
       simp only [scanSt, scanAcc, scanChk, hd, Bool.false_eq_true, if_false] at this
       exact this
     · have hstop' := hstop
       unfold scanEnds at hstop'
       rw [if_neg (fun h => hstop' (h.imp (fun h => by simpa using h) id)), if_neg (by omega)]
       simp only [hnb]
       have h1 := Scans.on (op := op) (ps := ps) (s := s) (acc := acc) (check := check) (p := pg ps l) (n := n) (fun _ => ⟨hsn.free, hstop⟩) (hlook _) (by rw [hlm, hln]) (go ((scanSt op s n acc).hop2 n) (scanAcc op n acc) (scanChk (pg ps l) n check))
       simp only [scanSt, scanAcc, scanChk, hd, Bool.false_eq_true, if_false, St.hop2] at h1
       exact h1
/-- A scan over an index. -/
theorem Inv.scans {ps : List Page} {nx : Int} {es : List Entry} {T : List (List Cell)} (h : Inv ps nx es T) (hT : T ≠ []) {op : Op} (hk : 1 ≤ op.key) (hkh : op.key ≤ maxHigh) (hk2 : op.last ≤ maxKey) :
 ∃ p n t N, Dives ps 0 op.key (S0 ps T) t (.at_ p n) ∧ N ≤ 151 ∧ Scans op ps N t [] [] p n ((S0 ps T).scan op ps) ∧ 0 ≤ t.out.hops ∧ t.out.hops ≤ 1000 := by
 obtain ⟨pre, A, l, n, R, post, hs, i1, i2, i3, i4, i5, i6, i7, i8⟩ := h.dives (lev := 0) (List.length_pos_iff.2 hT) hk hkh
 obtain rfl : post = [] := List.length_eq_zero_iff.1 i2
 have hroot : ¬ (S0 ps T).root = nilP := fun e => hT (h.rootNil.1 e)
 have hlv : Level ((([] : List (List Cell)).length : Nat) : Int) (A ++ (l, n) :: R) := Tree.level (pre := pre) (i1 ▸ h.tree)
 have hd : Dives ps 0 op.key (S0 ps T) (after hs (T.length : Int) (S0 ps T)) (.at_ (pg ps l) n) := i8 _ rfl
 have e1 : (S0 ps T).scan op ps = scanFrom op ps 257 (after hs (T.length : Int) (S0 ps T)) 0 [] [] (pg ps l) n := by
  unfold St.scan
  rw [if_neg hroot, hd.descend]
 have hsm := h.small
 have hRl : R.length ≤ 151 := by
  rw [i1] at hsm
  simp [flat] at hsm
  omega
 refine ⟨_, _, _, R.length, hd, hRl, ?_, ?_⟩
 · rw [e1]
   exact scans_from op R l n 257 _ 0 [] [] (Chain.append.1 hlv.chain).2 (fun c hc => h.sees c (by rw [i1]; simp only [flat_append, List.mem_append]; right; simp only [flat_cons, List.mem_append, List.mem_cons] at hc ⊢; exact .inl (.inr hc))) (fun c hc => hlv.level c (by simp only [List.mem_append]; exact .inr hc)) hk2 (by omega) (by omega)
 · rw [after_hops]
   have h0 : (S0 ps T).out.hops = 0 := rfl
   omega
end Go.Proofs.YtjmpekanlmepmaaGreatDoor.Bt
namespace Go.Proofs.YtjmpekanlmepmaaGreatDoor
open Go.RowKit
theorem own_held {w w' : World} {base n size : Nat} {e : TypeId} {v : Value} {o : Option Nat} {xs : List Value} (h : w.ownsRow base e size v n xs) (hg : w.grownBy w' o) (hn : ∀ c, v.ownBlock = some c → o ≠ some c) : w'.ownsRow base e size v n xs :=
 h.kept hg (by
  rcases hv : v.ownBlock with _ | c
  · exact .inl rfl
  · exact .inr (fun e => hn c hv e.symm))
theorem own_shape {w : World} {base n size : Nat} {e : TypeId} {v : Value} {xs : List Value} (h : w.ownsRow base e size v n xs) : ∃ p cap, v = .slice p n cap := by
 rcases h.2 with ⟨rfl, h0⟩ | ⟨g, cap, _, hv, _⟩
 · exact ⟨none, 0, by rw [h0]⟩
 · exact ⟨_, cap, hv⟩
/-- Where a scan stands: its node in block g, the entries taken in ve, the lines checked in vc. -/
structure ScanAt (A : Nat → Prop) (op : Bt.Op) (known : List Bt.Page) (vf vk : Value) (s : Bt.St) (b g : Nat) (page : Bt.Page) (n : Bt.Node) (v : Value) (acc : List Bt.Entry) (ve : Value) (check : List Int) (vc : Value) (w0 wr : World) : Prop where
 blk : Blk wr g 145 (foundCells page n v)
 own : wr.ownsRow w0.heap.size 69 3 v n.entries.length (entCells n.entries)
 run : IsRun A op known vf vk s b wr
 over : Over b w0 wr
 ents : wr.ownsRow w0.heap.size 69 3 ve acc.length (entCells acc)
 chk : wr.ownsRow w0.heap.size 3 1 vc check.length (intCells check)
 a1 : ∀ c, ve.ownBlock = some c → c ≠ g ∧ v.ownBlock ≠ some c ∧ vc.ownBlock ≠ some c
 a2 : ∀ c, vc.ownBlock = some c → c ≠ g ∧ v.ownBlock ≠ some c
 a3 : v.ownBlock ≠ some g
 gl : w0.heap.size ≤ g
 bl : b < w0.heap.size
 al : ∀ c, A c → c < w0.heap.size
/-- The same, with the node's copy in block h. -/
structure ScanMid (A : Nat → Prop) (op : Bt.Op) (known : List Bt.Page) (vf vk : Value) (s : Bt.St) (b g h : Nat) (page : Bt.Page) (n : Bt.Node) (v : Value) (acc : List Bt.Entry) (ve : Value) (check : List Int) (vc : Value) (w0 wr : World) : Prop where
 at_ : ScanAt A op known vf vk s b g page n v acc ve check vc w0 wr
 nblk : Blk wr h 73 #[.int .i64 n.level, .bool n.leftmost, .bool n.dead, .int .u32 n.high, .int .i64 n.right.line, .int .i64 n.right.gen, v]
 gh : g < h
 a4 : v.ownBlock ≠ some h ∧ ve.ownBlock ≠ some h ∧ vc.ownBlock ≠ some h
theorem Over.grownV {b : Nat} {w0 w w' : World} {v : Option Nat} (h : Over b w0 w) (hg : w.grownBy w' v) (hv : ∀ c, v = some c → w0.heap.size ≤ c) : Over b w0 w' := by
 cases v with
 | none => exact h.then_below ⟨hg.os, hg.tape, hg.output, hg.size, fun k hk => hg.block k hk (by simp)⟩
 | some c => exact Over.grow_new h hg (hv c rfl)
section
variable {A : Nat → Prop} {op : Bt.Op} {known : List Bt.Page} {vf vk : Value} {s : Bt.St} {b g h : Nat} {page : Bt.Page} {n : Bt.Node} {v : Value} {acc : List Bt.Entry} {ve : Value} {check : List Int} {vc : Value} {w0 wr : World}
theorem ScanAt.below (H : ScanAt A op known vf vk s b g page n v acc ve check vc w0 wr) {wx : World} (hb : Below wr.heap.size wr wx) : ScanAt A op known vf vk s b g page n v acc ve check vc w0 wx :=
 ⟨H.blk.kept hb, own_below H.own hb, H.run.below hb, H.over.then_below hb, own_below H.ents hb, own_below H.chk hb, H.a1, H.a2, H.a3, H.gl, H.bl, H.al⟩
theorem ScanMid.below (H : ScanMid A op known vf vk s b g h page n v acc ve check vc w0 wr) {wx : World} (hb : Below wr.heap.size wr wx) : ScanMid A op known vf vk s b g h page n v acc ve check vc w0 wx :=
 ⟨H.at_.below hb, H.nblk.kept hb, H.gh, H.a4⟩
/-- A line is appended. -/
theorem ScanMid.line (H : ScanMid A op known vf vk s b g h page n v acc ve check vc w0 wr) {wx : World} {vc' : Value} {check' : List Int} (hg : wr.grownBy wx vc.ownBlock) (ho : wx.ownsRow w0.heap.size 3 1 vc' check'.length (intCells check')) (hb : vc'.ownBlock = vc.ownBlock ∨ vc'.ownBlock = some wr.heap.size) :
 ScanMid A op known vf vk s b g h page n v acc ve check' vc' w0 wx := by
 obtain ⟨⟨h1, h2, h3, h4, h5, h6, h7, h8, h9, h10, h11, h12⟩, h13, h14, h15⟩ := H
 have e1 : ∀ c, ve.ownBlock = some c → vc'.ownBlock ≠ some c := fun c hc e => by
  rcases hb with hb | hb
  · rw [hb] at e; exact (h7 c hc).2.2 e
  · have := own_lt' h5 c hc
    rw [hb] at e; cases e; omega
 have e2 : ∀ c, vc'.ownBlock = some c → c ≠ g ∧ v.ownBlock ≠ some c ∧ c ≠ h := fun c hc => by
  rcases hb with hb | hb
  · rw [hb] at hc; exact ⟨(h8 c hc).1, (h8 c hc).2, fun e => h15.2.2 (by rw [← e]; exact hc)⟩
  · rw [hb] at hc; cases hc
    have i1 := h1.lt
    have i2 := h13.lt
    exact ⟨by omega, fun e => by have := own_lt' h2 _ e; omega, by omega⟩
 refine ⟨⟨h1.grown hg (fun e => (h8 g e.symm).1 rfl), own_held h2 hg (fun c hc e => (h8 c e).2 hc), h3.grownV hg (fun c hc => ⟨by have := own_row_ge h6 c hc; omega, fun e => by have := own_row_ge h6 c hc; have := h12 c e; omega⟩), h4.grownV hg (fun c hc => own_row_ge h6 c hc), own_held h5 hg (fun c hc e => (h7 c hc).2.2 e), ho, fun c hc => ⟨(h7 c hc).1, (h7 c hc).2.1, e1 c hc⟩, fun c hc => ⟨(e2 c hc).1, (e2 c hc).2.1⟩, h9, h10, h11, h12⟩, h13.grown hg (fun e => h15.2.2 e.symm), h14, h15.1, h15.2.1, fun e => (e2 h e).2.2 rfl⟩
/-- An entry is appended. -/
theorem ScanMid.entry (H : ScanMid A op known vf vk s b g h page n v acc ve check vc w0 wr) {wx : World} {ve' : Value} {acc' : List Bt.Entry} (hg : wr.grownBy wx ve.ownBlock) (ho : wx.ownsRow w0.heap.size 69 3 ve' acc'.length (entCells acc')) (hb : ve'.ownBlock = ve.ownBlock ∨ ve'.ownBlock = some wr.heap.size) :
 ScanMid A op known vf vk s b g h page n v acc' ve' check vc w0 wx := by
 obtain ⟨⟨h1, h2, h3, h4, h5, h6, h7, h8, h9, h10, h11, h12⟩, h13, h14, h15⟩ := H
 have e2 : ∀ c, ve'.ownBlock = some c → c ≠ g ∧ v.ownBlock ≠ some c ∧ c ≠ h ∧ vc.ownBlock ≠ some c := fun c hc => by
  rcases hb with hb | hb
  · rw [hb] at hc; exact ⟨(h7 c hc).1, (h7 c hc).2.1, fun e => h15.2.1 (by rw [← e]; exact hc), (h7 c hc).2.2⟩
  · rw [hb] at hc; cases hc
    have i1 := h1.lt
    have i2 := h13.lt
    exact ⟨by omega, fun e => by have := own_lt' h2 _ e; omega, by omega, fun e => by have := own_lt' h6 _ e; omega⟩
 refine ⟨⟨h1.grown hg (fun e => (h7 g e.symm).1 rfl), own_held h2 hg (fun c hc e => (h7 c e).2.1 hc), h3.grownV hg (fun c hc => ⟨by have := own_row_ge h5 c hc; omega, fun e => by have := own_row_ge h5 c hc; have := h12 c e; omega⟩), h4.grownV hg (fun c hc => own_row_ge h5 c hc), ho, own_held h6 hg (fun c hc e => (h7 c e).2.2 hc), fun c hc => ⟨(e2 c hc).1, (e2 c hc).2.1, (e2 c hc).2.2.2⟩, h8, h9, h10, h11, h12⟩, h13.grown hg (fun e => h15.2.1 e.symm), h14, h15.1, fun e => (e2 h e).2.2.1 rfl, h15.2.2⟩
/-- A field of the run is set. -/
theorem ScanMid.field (H : ScanMid A op known vf vk s b g h page n v acc ve check vc w0 wr) {s' : Bt.St} (i : Nat) (u : Value) (hr : IsRun A op known vf vk s' b (wr.setCell ⟨b, i, none⟩ u)) : ScanMid A op known vf vk s' b g h page n v acc ve check vc w0 (wr.setCell ⟨b, i, none⟩ u) := by
 obtain ⟨⟨h1, h2, h3, h4, h5, h6, h7, h8, h9, h10, h11, h12⟩, h13, h14, h15⟩ := H
 have hn : ∀ {e : TypeId} {n size : Nat} {v : Value} {xs : List Value}, wr.ownsRow w0.heap.size e size v n xs → v.ownBlock ≠ some b := fun h => own_not h h11
 exact ⟨⟨h1.aside (by show g ≠ b; omega) _, own_set h2 (hn h2) _, hr, h4.put _ _, own_set h5 (hn h5) _, own_set h6 (hn h6) _, h7, h8, h9, h10, h11, h12⟩, h13.aside (by show h ≠ b; omega) _, h14, h15⟩
theorem ScanAt.field (H : ScanAt A op known vf vk s b g page n v acc ve check vc w0 wr) {s' : Bt.St} (i : Nat) (u : Value) (hr : IsRun A op known vf vk s' b (wr.setCell ⟨b, i, none⟩ u)) : ScanAt A op known vf vk s' b g page n v acc ve check vc w0 (wr.setCell ⟨b, i, none⟩ u) := by
 obtain ⟨h1, h2, h3, h4, h5, h6, h7, h8, h9, h10, h11, h12⟩ := H
 have hn : ∀ {e : TypeId} {n size : Nat} {v : Value} {xs : List Value}, wr.ownsRow w0.heap.size e size v n xs → v.ownBlock ≠ some b := fun h => own_not h h11
 exact ⟨h1.aside (by show g ≠ b; omega) _, own_set h2 (hn h2) _, hr, h4.put _ _, own_set h5 (hn h5) _, own_set h6 (hn h6) _, h7, h8, h9, h10, h11, h12⟩
/-- The next node is found. -/
theorem ScanMid.next (H : ScanMid A op known vf vk s b g h page n v acc ve check vc w0 wr) {w2 wy : World} {s2 : Bt.St} {u2 : Value} {p2 : Bt.Page} {n2 : Bt.Node} (ho2 : Over b wr w2) (hr2 : IsRun A op known vf vk s2 b w2) (hown : w2.ownsRow wr.heap.size 69 3 u2 n2.entries.length (entCells n2.entries))
 (B : Blk wy g 145 (foundCells p2 n2 u2)) (ho : Over g w2 wy) : ScanAt A op known vf vk s2 b g p2 n2 u2 acc ve check vc w0 wy := by
 obtain ⟨⟨h1, h2, h3, h4, h5, h6, h7, h8, h9, h10, h11, h12⟩, h13, h14, h15⟩ := H
 have hgl := h1.lt
 have hz := h4.size
 have hu : ∀ c, u2.ownBlock = some c → wr.heap.size ≤ c := own_row_ge hown
 refine ⟨B, own_base (own_new hown ho (fun e => by have := hu _ e; omega)) hz, hr2.grown ho (by omega) (fun e => by have := h12 _ e; omega), Over.new (Over.trans h4 ho2) ho h10, own_new (own_over h5 ho2 h11) ho (fun e => (h7 _ e).1 rfl), own_new (own_over h6 ho2 h11) ho (fun e => (h8 _ e).1 rfl), fun c hc => ⟨(h7 c hc).1, fun e => ?_, (h7 c hc).2.2⟩, fun c hc => ⟨(h8 c hc).1, fun e => ?_⟩, fun e => by have := hu _ e; omega, h10, h11, h12⟩
 · have := hu _ e; have := own_lt' h5 c hc; omega
 · have := hu _ e; have := own_lt' h6 c hc; omega
/-- A node's copy is made. -/
theorem ScanAt.copy (H : ScanAt A op known vf vk s b g page n v acc ve check vc w0 wr) : ScanMid A op known vf vk s b g wr.heap.size page n v acc ve check vc w0 (wr.alloc (.cells #[.int .i64 n.level, .bool n.leftmost, .bool n.dead, .int .u32 n.high, .int .i64 n.right.line, .int .i64 n.right.gen, v] 73)) :=
 ⟨H.below (below_alloc (Below.refl _ _) _), Blk.made _ _ _, H.blk.lt, fun e => by have := own_lt' H.own _ e; omega, fun e => by have := own_lt' H.ents _ e; omega, fun e => by have := own_lt' H.chk _ e; omega⟩
end
/-- The entries are handed over to the run. -/
theorem IsRun.setEnts {A A' : Nat → Prop} {op : Bt.Op} {known : List Bt.Page} {vf vk : Value} {s : Bt.St} {b : Nat} {w : World} (h : IsRun A op known vf vk s b w) {es : List Bt.Entry} {v : Value} (hv : w.ownsRow (b + 1) 69 3 v es.length (entCells es)) (hA : ∀ c, A c → A' c)
 (hv2 : ∀ c, v.ownBlock = some c → A' c) : IsRun A' op known vf vk { s with out := { s.out with entries := es } } b (w.setCell ⟨b, 20, none⟩ v) := by
 obtain ⟨vn, vw, ve, vc, hr, h1, h2, h3, h4⟩ := h
 have ho : Over b w (w.setCell ⟨b, 20, none⟩ v) := (Over.refl b w).put 20 v
 exact ⟨vn, vw, v, vc, ⟨(hr.blk.put 20 v).cast rfl, hr.known.over ho hr.apart, hr.apart, hr.fresh.over ho hr.apartf, hr.apartf, own_over hr.need ho (by omega), own_over hr.writes ho (by omega), own_over hv ho (by omega), own_over hr.check ho (by omega), hr.none.over ho hr.pos, hr.pos⟩, fun c hc => hA c (h1 c hc), fun c hc => hA c (h2 c hc), hv2, fun c hc => hA c (h4 c hc)⟩
theorem Scans.next {op : Bt.Op} {ps : List Bt.Page} {N : Nat} {s r : Bt.St} {acc : List Bt.Entry} {check : List Int} {p : Bt.Page} {n : Bt.Node} (h : Bt.Scans op ps N s acc check p n r) :
 (n.dead = false ∧ Bt.locked p = false ∧ Bt.scanEnds op n acc ∧ r = (({ Bt.scanSt op s n acc with out := { (Bt.scanSt op s n acc).out with entries := Bt.scanAcc op n acc } } : Bt.St).fail 0 (Bt.scanChk p n check))) ∨
 ∃ N' p' n', N = N' + 1 ∧ (n.dead = false → Bt.locked p = false ∧ ¬ Bt.scanEnds op n acc) ∧ ((Bt.scanSt op s n acc).hop2 n).look ps n.right false = ((Bt.scanSt op s n acc).hop2 n, some (p', n')) ∧ n'.level = n.level ∧
  Bt.Scans op ps N' ((Bt.scanSt op s n acc).hop2 n) (Bt.scanAcc op n acc) (Bt.scanChk p n check) p' n' r := by
 cases h with
 | stop h1 h2 h3 => exact .inl ⟨h1, h2, h3, rfl⟩
 | on h1 h2 h3 h4 => exact .inr ⟨_, _, _, rfl, h1, h2, h3, h4⟩
def ScanHead (A : Nat → Prop) (op : Bt.Op) (known : List Bt.Page) (vf vk : Value) (r : Bt.St) (b g : Nat) (w0 : World) (N : Nat) (ve vc mv : Value) (wr : World) : Prop :=
 ∃ (s : Bt.St) (page : Bt.Page) (n : Bt.Node) (v : Value) (acc : List Bt.Entry) (check : List Int) (moves : Int), mv = .int .i64 moves ∧ 0 ≤ moves ∧ moves + N ≤ 256 ∧ 0 ≤ s.out.hops ∧ s.out.hops ≤ 1000 + moves ∧ (acc.length : Int) ≤ op.limit ∧ (check.length : Int) ≤ moves ∧
  Hid (Bt.Scans op known N s acc check page n r) ∧ Hid (ScanAt A op known vf vk s b g page n v acc ve check vc w0 wr) ∧ Hid (page.Ok ∧ n.valid = true ∧ n = page.node)
def ScanIn (A : Nat → Prop) (op : Bt.Op) (known : List Bt.Page) (vf vk : Value) (s : Bt.St) (b g h : Nat) (page : Bt.Page) (n : Bt.Node) (v : Value) (acc : List Bt.Entry) (check : List Int) (vc : Value) (w0 : World) (ve i : Value) (wr : World) : Prop :=
 ∃ (k : Nat) (acc' : List Bt.Entry), i = .int .i64 k ∧ k ≤ n.entries.length ∧ (acc'.length : Int) ≤ op.limit ∧ Hid (Bt.scanTake op.key op.last op.limit acc n.entries = Bt.scanTake op.key op.last op.limit acc' (n.entries.drop k)) ∧ Hid (ScanMid A op known vf vk s b g h page n v acc' ve check vc w0 wr)
end Go.Proofs.YtjmpekanlmepmaaGreatDoor
