/- executor.run.allocate. -/
import Derived.Test.YtcoiehgcfjfhaaaGreatDoorQ24
import Derived.Test.YtcoiehgcfjfhaaaGreatDoorQ25
import Derived.Test.YtcoiehgcfjfhaaaGreatDoorQ26
import Derived.Test.YtcoiehgcfjfhaaaGreatDoorQ27
set_option linter.all false
set_option maxRecDepth 20000
set_option maxHeartbeats 8000000
open Go.Lib (hid)
namespace Go.Proofs.YtcoiehgcfjfhaaaGreatDoor
open Go.RowKit
theorem own_frame {w w' : World} {base n size : Nat} {e : TypeId} {v : Value} {xs : List Value} (h : w.ownsRow base e size v n xs) (hb : ∀ b, v.ownBlock = some b → b < w.heap.size → w'.heap[b]? = w.heap[b]?) : w'.ownsRow base e size v n xs := by
  refine ⟨h.1, ?_⟩
  rcases h.2 with h1 | ⟨g, cap, cur, rfl, hg, hh, h3⟩
  · exact .inl h1
  · exact .inr ⟨g, cap, cur, rfl, hg, (hb g rfl (Array.getElem?_eq_some_iff.1 hh).1).trans hh, h3⟩
theorem ExFr.row {r m base n size : Nat} {w w' : World} {e : TypeId} {v : Value} {xs : List Value} (hf : ExFr r m w w') (h : w.ownsRow base e size v n xs) (hr : v.ownBlock ≠ some r) (hm : v.ownBlock ≠ some m) : w'.ownsRow base e size v n xs :=
  own_frame h fun b hb hlt => hf.block b hlt (fun e => hr (e ▸ hb)) (fun e => hm (e ▸ hb))
theorem hdr_ok (u : Int) (hu : 0 ≤ u ∧ u < 100) : POk [hdrPage 512 u] := by
  refine ⟨by simp, ?_, ?_⟩
  · intro p hp
    simp only [List.mem_cons, List.not_mem_nil, or_false] at hp
    subst hp
    exact ⟨by simp [hdrPage], by simp [hdrPage], by simp only [hdrPage]; omega, by simp [hdrPage], by simp [hdrPage], by simp [hdrPage], by simp [hdrPage], by simp [hdrPage]⟩
  · intro p hp
    simp only [List.mem_cons, List.not_mem_nil, or_false] at hp
    subst hp
    simp [hdrPage]
theorem exAllocate (r m : Nat) (vp va vk vw : Value) (K W : List Bt.Page) (n : Nat) (D : DataW Value) (count : Int) (L : List Bt.Page) (u : Int) (hu : 0 ≤ u ∧ u < 100) (hL : L.length ≤ 10) (w : World) (h : ExAt r m vp va vk vw K W n D w) (hK : POk K) (hW : POk W)
    (HA : ∀ v W', PgRow W' v (Rf.merge K W) → Calls Tryz.prog 162 #[.agg #[.int .i64 0, .int .i64 256, .int .i64 count], v] W' (AllocPost L u W')) :
    Calls Tryz.prog 107 #[.pointer (some ⟨r, 0, none⟩), .int .i64 count] w fun e w' => ∃ vf, e = .returned (.tuple #[vf, .bool true]) ∧ w'.ownsRow 0 75 9 vf L.length (pageCells L) ∧ (∃ vw', ExAt r m vp va vk vw' K (Rf.merge W [hdrPage 512 u]) n D w') ∧ ExFr r m w w' := by
  have HV := hid (exView r m vp va vk vw K W n D w.drew (h.below (Below.refl _ _).drew) hK hW)
  have HAA := hid HA
  have HWR := hid (fun vq W' hx hq => exWrite r m vp va vk vw K W [hdrPage 512 u] n D vq W' hx hW (hdr_ok u hu) hq)
  have HOK := hid (hdr_ok u hu)
  have HX := hid h
  have kr := h.blk.cell
  have lr := h.blk.lt
  clear h hK hW HA hu
  unfold exCells at kr
  go_enter Tryz.func107, Tryz.ntmps107
  go_wp2_with fail
  refine qA fun hSt => ?_
  refine qS [0, 1, 2, 3, 4, 5, 6, 7, 8, 9, 10, 11, 12] ?_
  iterate 13 (refine qT ?_; simp only [Act.put, qY])
  refine TakeSeq.done ?_
  refine qH 13 fun K hK => ?_
  go_simp
  go_at_call 94; refine HV.out.mono ?_; rintro e w1 ⟨v1, rfl, hp1, hb1⟩
  go_wp2_with fail
  refine hK.out _ _ (SteadyAll.of qL) (fun hHeld => ?_)
  clear hK K
  refine qH 14 fun K hK => ?_
  go_simp
  go_at_call 162; refine (HAA.out _ _ hp1).mono ?_; rintro e w2 ⟨vf, vq, rfl, hof, hoq, hb2⟩
  go_wp2_with fail
  refine hK.out _ _ (SteadyAll.of qL) (fun hHeld => ?_)
  clear hK K
  refine qS [15, 16, 17, 18, 19, 20, 21, 22, 23, 24, 25] ?_
  iterate 11 (refine qT ?_; simp only [Act.put, qY])
  refine TakeSeq.done ?_
  refine qD ?_ _
  have hbw : Below w.heap.size w w2 := qL
  obtain ⟨pf, cf, rfl⟩ := own_shape hof
  obtain ⟨pq, cq, rfl⟩ := own_shape hoq
  have H2 := hid (And.intro (HX.out.below hbw) (And.intro (own_lower hof (Nat.zero_le _)) (And.intro (pgrow_own (l := [hdrPage 512 u]) hoq HOK.out.2.1 (by simp [maxLen])) hbw)))
  clear hp1 hb1 hof hoq hb2 hbw
  go_wp2_with fail
  go_at_call 95; refine (HWR.out _ _ H2.out.1 H2.out.2.2.1).mono ?_; rintro e w3 ⟨rfl, hx3, hf3⟩
  have H3 := hid (And.intro hx3 hf3)
  clear hx3 hf3
  go_wp2_with fail
  refine bodyPost_ret (results_tmp2 rfl _ _ _) rfl ⟨.slice pf L.length cf, rfl, ?_, H3.out.1, (ExFr.of_below H2.out.2.2.2).trans H3.out.2⟩
  exact H3.out.2.row H2.out.2.1 (blk_ne_row H2.out.1.blk H2.out.2.1 (by decide)) (map_ne_row H2.out.1.rel H2.out.2.1)
def CheckAt (chk : Bool) (vc : Value) (w : World) : Prop := (chk = false ∧ vc = .slice none 0 0) ∨ (chk = true ∧ ∃ g, vc = .slice (some ⟨g, 0, none⟩) 1 1 ∧ Blk w g 3 #[.int .i64 96])
theorem sa_same {w1 wx : World} {p : Addr} {v : Value} (h : SteadyAll w1 wx) (hp : wx.cell? p = some v) (hn : p.spot = none := by rfl) : SteadyAll w1 (wx.setCell p v) := by
  refine ⟨fun b o hb => ?_⟩
  by_cases e : p = ⟨b, o, none⟩
  · subst e
    rw [World.cell?_setCell_same' _ _ _ (by rw [hp]; rfl), ← h.rule b o hb, hp]
  · rw [World.cell?_setCell_other _ _ _ _ (fun e2 => e e2)]
    exact h.rule b o hb
theorem CheckAt.frame {chk : Bool} {vc : Value} {r m n : Nat} {vp va vk vw : Value} {K W : List Bt.Page} {D : DataW Value} {w w' : World} (h : CheckAt chk vc w) (hf : ExFr r m w w') (hx : ExAt r m vp va vk vw K W n D w) : CheckAt chk vc w' := by
  rcases h with h | ⟨h1, g, h2, h3⟩
  · exact .inl h
  · exact .inr ⟨h1, g, h2, hf.blk h3 (blk_ne h3 hx.blk (by decide)) (map_ne hx.rel h3)⟩
theorem ExFr.trans2 {r m b : Nat} {w w1 w2 : World} (h : ExFr r m w w1) (hO : Over b w1 w2) (hb : w.heap.size ≤ b) : ExFr r m w w2 :=
  ⟨hO.os.trans h.os, hO.tape.trans h.tape, hO.output.trans h.output, Nat.le_trans h.size hO.size, fun k hk hr hm => (hO.block k (Nat.lt_of_lt_of_le hk h.size) (by simp; omega)).trans (h.block k hk hr hm)⟩
theorem ExAt.far_over {r m n b : Nat} {vp va vk vw : Value} {K W : List Bt.Page} {D : DataW Value} {w w' : World} {t : TypeId} {cs : Array Value} (h : ExAt r m vp va vk vw K W n D w) (hO : Over b w w') (hr : b ≠ r) (hm : b ≠ m) (hB : Blk w b t cs) (hk : ∀ c a d, vk = .slice (some ⟨c, 0, none⟩) a d → c ≠ b) (hn : 2 ≠ b) (ht : t ≠ 75 := by decide) : ExAt r m vp va vk vw K W n D w' :=
  ⟨blk_over h.blk hO (fun e => hr e.symm), pgrow_frame h.known hO.size (fun c a d hv hlt => hO.block c hlt (by have := hk c a d hv; simpa using this)), h.far, h.writ.kept hO (.inr (blk_ne_row hB h.writ ht)), h.rel.kept hO (by simpa using fun e => hm e.symm), h.hn.frame hO.size (hO.block _ h.hn.lt (by simpa using hn)), h.nr, h.nm⟩
theorem ExAt.reblk {r m : Nat} {vp va vk vw : Value} {K W : List Bt.Page} {n : Nat} {D : DataW Value} {w w' : World} (h : ExAt r m vp va vk vw K W n D w) (hO : Over r w w') (hB : Blk w' r 82 (exCells vp va vk vw m (.slice none 0 0))) : ExAt r m vp va vk vw K W n D w' :=
  ⟨hB, pgrow_frame h.known hO.size (fun b n c hv hlt => hO.block b hlt (by have := (h.far b n c hv).1; simpa using this)), h.far, h.writ.kept hO (.inr (blk_ne_row h.blk h.writ (by decide))), h.rel.kept hO (fun e => map_ne h.rel h.blk (by cases e; rfl)), h.hn.frame hO.size (hO.block _ h.hn.lt (by have := h.nr; simpa using this)), h.nr, h.nm⟩
theorem CheckAt.below {chk : Bool} {vc : Value} {w w' : World} (h : CheckAt chk vc w) (hb : Below w.heap.size w w') : CheckAt chk vc w' := by
  rcases h with h | ⟨h1, g, h2, h3⟩
  · exact .inl h
  · exact .inr ⟨h1, g, h2, h3.kept hb⟩
def HiPost (P : List Bt.Page) (code : Int) (done chk : Bool) (fresh : Int) (w : World) (e : Ending) (w' : World) : Prop :=
  ∃ pw cw pc nc cc, e = .returned (.tuple #[.slice none 0 0, .slice pw P.length cw, .agg (hoCells code done (.slice pc nc cc) fresh), .bool true]) ∧ w'.ownsRow w.heap.size 75 9 (.slice pw P.length cw) P.length (pageCells P) ∧ CheckAt chk (.slice pc nc cc) w' ∧ Below w.heap.size w w'
def HashCut (r m : Nat) (vp va vk vw : Value) (K W : List Bt.Page) (n : Nat) (D : DataW Value) (P : List Bt.Page) (code : Int) (done chk : Bool) (fresh : Int) (opc : Array Value) (w : World) (s8 s9 s10 s11 : Value) (wr : World) : Prop :=
  ∃ pw cw pc nc cc X, s8 = .slice none 0 0 ∧ s9 = .slice pw P.length cw ∧ s10 = .pointer (some ⟨X, 0, none⟩) ∧ s11 = .bool true ∧ w.heap.size + 1 < X ∧
    Hid (Blk wr X 224 (hoCells code done (.slice pc nc cc) fresh) ∧ wr.ownsRow 0 75 9 (.slice pw P.length cw) P.length (pageCells P) ∧ CheckAt chk (.slice pc nc cc) wr ∧ ExAt r m vp va vk vw K W n D wr ∧ Blk wr (w.heap.size + 1) 224 (hoCells 0 false (.slice none 0 0) 0) ∧ Below w.heap.size w wr)
def toCells (code : Int) (done : Bool) (ve vc : Value) (fresh : Int) : Array Value :=
  #[.int .i64 code, .bool false, .bool done, .bool false, .bool false, .bool false, .bool false, .int .i64 0, .int .i64 0, ve, vc, .int .i64 0, .int .i64 fresh, .int .i64 0]
def TrPost (P : List Bt.Page) (code : Int) (done chk : Bool) (fresh : Int) (w : World) (e : Ending) (w' : World) : Prop :=
  ∃ pw cw pe ne ce pc cc, e = .returned (.tuple #[.slice none 0 0, .slice pw P.length cw, .agg (toCells code done (.slice pe ne ce) (.slice pc 0 cc) fresh), .bool true]) ∧ w'.ownsRow w.heap.size 75 9 (.slice pw P.length cw) P.length (pageCells P) ∧ True ∧ Below w.heap.size w w'
def TreeCut (r m : Nat) (vp va vk vw : Value) (K W : List Bt.Page) (n : Nat) (D : DataW Value) (P : List Bt.Page) (code : Int) (done chk : Bool) (fresh : Int) (opc : Array Value) (w : World) (s8 s9 s10 s11 : Value) (wr : World) : Prop :=
  ∃ pw cw pe ne ce pc cc X, s8 = .slice none 0 0 ∧ s9 = .slice pw P.length cw ∧ s10 = .pointer (some ⟨X, 0, none⟩) ∧ s11 = .bool true ∧ w.heap.size + 1 < X ∧
    Hid (Blk wr X 164 (toCells code done (.slice pe ne ce) (.slice pc 0 cc) fresh) ∧ wr.ownsRow 0 75 9 (.slice pw P.length cw) P.length (pageCells P) ∧ True ∧ ExAt r m vp va vk vw K W n D wr ∧ Blk wr (w.heap.size + 1) 164 (toCells 0 false (.slice none 0 0) (.slice none 0 0) 0) ∧ Below w.heap.size w wr)
end Go.Proofs.YtcoiehgcfjfhaaaGreatDoor
