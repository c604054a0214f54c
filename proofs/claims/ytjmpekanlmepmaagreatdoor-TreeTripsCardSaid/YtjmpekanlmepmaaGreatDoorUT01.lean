/- Package btree: a leaf in two forms; an operation that ends with lines; find. -/
import Derived.Test.YtjmpekanlmepmaaGreatDoorB22
import Derived.Test.YtjmpekanlmepmaaGreatDoorB23
import Derived.Test.YtjmpekanlmepmaaGreatDoorB24
import Derived.Test.YtjmpekanlmepmaaGreatDoorB32
import Derived.Test.YtjmpekanlmepmaaGreatDoorB06
import Derived.BigQuiet
import Derived.Test.YtjmpekanlmepmaaGreatDoorB05
import Derived.Test.YtjmpekanlmepmaaGreatDoorB45
import Derived.Test.YtjmpekanlmepmaaGreatDoorB46
set_option linter.all false
namespace Go.Proofs.YtjmpekanlmepmaaGreatDoor
open Go.RowKit
section
variable (A : Nat → Prop) (op : Bt.Op) (known : List Bt.Page) (vf vk : Value) (s : Bt.St) (b : Nat)
theorem leaf_none (t : Bt.St) (wk : Bt.Walk) (w : World) (h : IsRun A op known vf vk s b w) (hA : ∀ c, A c → c < w.heap.size) (hh0 : 0 ≤ s.out.hops ∧ s.out.hops ≤ 1000) (hd : Bt.Dives known 0 op.key s t wk) (hg : wk.got = none) :
 Calls Tryz.prog 83 #[.pointer (some ⟨b, 0, none⟩)] w (fun e w' => IsRun (New A w) op known vf vk t b w' ∧ Over b w w' ∧ ∃ v, e = .returned (.tuple #[.agg (foundCells Bt.zeroPage Bt.zeroNode v), .bool false]) ∧ v.oneCell' = true) := by
 refine (leaf_any A op known vf vk s b t wk w h hA hh0 hd).mono ?_
 unfold GotRes
 rw [hg]
 rintro e w' ⟨h1, h2, v, h3, h4⟩
 exact ⟨h1, h2, v, h3, own_one h4⟩
end
set_option maxRecDepth 10000 in
set_option maxHeartbeats 2000000 in
theorem find_stop (A : Nat → Prop) (op : Bt.Op) (known : List Bt.Page) (vf vk : Value) (s : Bt.St) (b : Nat) (t : Bt.St) (wk : Bt.Walk) (w : World) (h : IsRun A op known vf vk s b w) (hA : ∀ c, A c → c < w.heap.size) (hroot : s.root ≠ Bt.nilP)
 (hh0 : 0 ≤ s.out.hops ∧ s.out.hops ≤ 1000) (hd : Bt.Dives known 0 op.key s t wk) (hg : wk.got = none) :
 Calls Tryz.prog 51 #[.pointer (some ⟨b, 0, none⟩)] w (RunPost A op known vf vk (s.find op known) b (.tuple #[]) w) := by
 have HX : Hid (s.find op known = t) := Lib.hid (by
  unfold Bt.St.find
  rw [if_neg hroot, hd.descend]
  cases wk <;> first | rfl | (simp [Bt.Walk.got] at hg))
 have HR := Lib.hid h
 have HD := Lib.hid hd
 have hlt := h.lt
 have hlt1 : b < w.heap.size + 1 := by omega
 obtain ⟨vn, vw, ve, vc, hc⟩ := h.cells
 have k34 : w.cell? ⟨b, 34, none⟩ = some (.int .i64 s.root.line) := hc 34
 have k35 : w.cell? ⟨b, 35, none⟩ = some (.int .i64 s.root.gen) := hc 35
 have hp : peq s.root.line s.root.gen 0 0 = false := by rw [peq_nil]; simp [hroot]
 have eq := eql_ptr
 have hn : NoneAt w := by obtain ⟨vn, vw, ve, vc, hr, _⟩ := h; exact hr.none
 obtain ⟨g0, g1, gl⟩ := hn
 have gl1 : 0 < w.heap.size + 1 := by omega
 clear h hc hroot hd
 go_enter Tryz.func51, Tryz.ntmps51
 go_wp2_with fail
 refine qA fun hSt => ?_
 refine qS [0, 1, 2, 3, 4, 5] ?_
 iterate 6 (refine qT ?_; simp only [Act.put, qY])
 refine TakeSeq.done ?_
 refine qD ?_ _
 go_wp2_with fail
 go_at_call 83; refine (leaf_none A op known vf vk s b t wk _ ?hrun ?hlow hh0 HD.out hg).mono ?_
 case hrun => exact HR.out.below qL
 case hlow => exact fun c hc => by have := hA c hc; simp; omega
 rintro e w1 ⟨hrun1, ho1, v, rfl, hone⟩
 have HR1 := Lib.hid hrun1
 have HONE := Lib.hid hone
 have hsz : w.heap.size ≤ w1.heap.size := by have := World.grownBy.size ho1; simpa using this
 have HO1 := Lib.hid ho1
 clear hrun1 ho1 hone
 dsimp only
 iterate 13 go_step
 refine wpList_store_cut rfl 145 (.tmp 2) (.tmp 17) rfl (w1.heap.size) _ rfl rfl _ _ (Blk.made _ _ _) (by kernel_rfl) rfl (found_one HONE.out) (fun wx B_wx ho_wx hz_wx => ?_)
 simp only [Act.put, qY]
 go_wp2_with fail
 have ho1 := HO1.out
 refine bodyPost_end (results_none rfl _ _ _) rfl ⟨rfl, ?_, Over.new qV ho_wx hsz⟩
 rw [HX.out]
 refine (((HR1.out.low).alloc _).grown ho_wx (by omega) (fun h1 => by omega)).imp (fun c hc => ?_)
 exact hc.1
def NeedPost (l : Int) (w : World) (e : Ending) (w' : World) : Prop :=
 ∃ vn, e = .returned (.tuple #[vn, .slice none 0 0, .agg (outCells {} (.slice none 0 0) (.slice none 0 0)), .bool false]) ∧ w'.ownsRow w.heap.size 3 1 vn 1 [.int .i64 l] ∧ Below w.heap.size w w'
set_option maxRecDepth 20000 in
theorem UTsG1 {P : Prop} (h : P := by
 refine bodyPost_ret (results_ttbt rfl _ _ (w.heap.size + 1) _ _ _ rfl (by have B := O3; exact qK) Tryz.underlying63 rfl (by kernel_rfl)) rfl ⟨.slice (some ⟨gn, 0, none⟩) 1 cn, ?_, ?_, ?_⟩
 · rw [set14]
   rfl
 · exact own_base (own_put14 HND.out hgb _ _ _ _ _ _ _ _ _ _ _ _ _ _) hbs
 · exact Over.to_below (b := w1.heap.size) (Over.put14 hov (by omega) _ _ _ _ _ _ _ _ _ _ _ _ _ _) (by omega)) : P := h
set_option maxRecDepth 10000 in
set_option maxHeartbeats 4000000 in
theorem next_find_need (op : Bt.Op) (known : List Bt.Page) (fa ka : Option Addr) (fn fc kn kc : Nat) (w : World) (hf : PgRow w (.slice fa fn fc) op.fresh) (hk : PgRow w (.slice ka kn kc) known) (hn : NoneAt w)
 (hkind : op.kind = 1) (hv : op.isValid = true) (p : Bt.Page) (q : Bt.Ptr) (lv : Int) (hl : Bt.latest known 96 = some p) (hlk : Bt.locked p = false) (hr : Bt.readRoot p = some (q, lv))
 (s2 : Bt.St) (l : Int) (hsn : s2.need = [l])
 (HM : Hid (∀ b w', IsRun (fun _ => False) op known (.slice fa fn fc) (.slice ka kn kc) { ({} : Bt.St) with rootPage := p, root := q } b w' →
  Calls Tryz.prog 51 #[.pointer (some ⟨b, 0, none⟩)] w' (RunPost (fun _ => False) op known (.slice fa fn fc) (.slice ka kn kc) s2 b (.tuple #[]) w'))) :
 Calls Tryz.prog 27 #[.agg (opCells op (.slice fa fn fc)), .slice ka kn kc] w (NeedPost l w) := by
 have Hf := Lib.hid hf
 have Hk := Lib.hid hk
 have Hn := Lib.hid hn
 have HV := Lib.hid (fun wx => isValid_find op (.slice fa fn fc) wx hkind hv)
 have HRR := Lib.hid (fun b wx h1 h2 => readRoot_ok (fun _ => False) op known (.slice fa fn fc) (.slice ka kn kc) {} b p q lv wx h1 h2 hl hlk hr)
 have b1 : (op.kind == 1) = true := by simp [hkind]
 clear hf hk hn hkind hv hl hlk hr
 unfold opCells at HV ⊢
 go_enter Tryz.func27, Tryz.ntmps27
 go_wp2_with fail
 go_at_call 49; refine (HV.out _).mono ?_; rintro e1 w1 ⟨rfl, hb1⟩; ((obtain ⟨hc1, hf1, hs1⟩ := qR hb1); (try have := qN0 w w1); (try have := qN1 w w1))
 have HB1 := Lib.hid hb1
 go_wp2_with fail
 go_at_call 50; refine (HRR.out w1.heap.size _ ?hrun ?hlow).mono ?_
 case hrun => exact IsRun.start op known _ _ w1 (Hf.out.below qL) (Hk.out.below qL) (Hn.out.below qL)
 case hlow => exact fun c hc => hc.elim
 rintro e2 w2 ⟨rfl, hrun2, ho2⟩
 have HR2 := Lib.hid hrun2
 have HO2 := Lib.hid ho2
 clear hrun2
 ((obtain ⟨hc2, hf2, hs2⟩ := qO ho2); (try have := qN0 w w2); (try have := qN1 w w2); (try have := qN0 w1 w2))
 go_wp2_with fail
 go_at_call 51; refine (HM.out w1.heap.size _ HR2.out).mono ?_
 rintro e3 w3 ⟨rfl, ⟨vn, vw, ve, vc, hr3, _⟩, ho3⟩
 have HR3 := Lib.hid hr3
 have HO3 := Lib.hid ho3
 have hneed := hr3.need
 rw [hsn] at hneed
 obtain ⟨gn, cn, rfl⟩ := own_form hneed (by simp)
 have HND : Hid (w3.ownsRow (w1.heap.size + 1) 3 1 (.slice (some ⟨gn, 0, none⟩) 1 cn) 1 [.int .i64 l]) := Lib.hid hneed
 have hc := hr3.blk.cell
 have hb3 := hr3.blk.lt
 have k9 : w3.cell? ⟨w1.heap.size, 9, none⟩ = some (.slice (some ⟨gn, 0, none⟩) 1 cn) := hc 9
 clear hr3 hc hneed
 ((obtain ⟨hc3, hf3, hs3⟩ := qO ho3); (try have := qN0 w w3); (try have := qN1 w w3); (try have := qN0 w1 w3); (try have := qN0 w2 w3))
 go_wp2_with fail
 have hb1 := HB1.out
 have ho2 := HO2.out
 have ho3 := HO3.out
 have hov : Over w1.heap.size w w3 := qV
 have hgb : w.heap.size + 1 < w1.heap.size + 1 := by omega
 have hbs : w.heap.size ≤ w1.heap.size + 1 := by omega
 have O1 := Blk.kept (b := w.heap.size + 1) (t := 63) (cs := #[.int .i64 0, .bool false, .bool false, .bool false, .bool false, .bool false, .bool false, .int .i64 0, .int .i64 0, .slice none 0 0, .slice none 0 0, .int .i64 0, .int .i64 0, .int .i64 0]) (made22 w) hb1
 have O2 := (O1.alloc _).grown ho2 (by simp; omega)
 have O3 := O2.grown ho3 (by simp; omega)
 exact UTsG1
set_option maxRecDepth 10000 in
set_option maxHeartbeats 2000000 in
theorem readRoot_miss (A : Nat → Prop) (op : Bt.Op) (known : List Bt.Page) (vf vk : Value) (s : Bt.St) (b : Nat) (w : World) (h : IsRun A op known vf vk s b w) (hA : ∀ c, A c → c < w.heap.size) (hl : Bt.latest known 96 = none) :
 Calls Tryz.prog 50 #[.pointer (some ⟨b, 0, none⟩)] w (RunPost A op known vf vk (s.wait 96) b (.bool false) w) := by
 have HR := Lib.hid h
 have HL := Lib.hid hl
 have HAL := Lib.hid hA
 have HK : Hid (PgRow w vk known) := Lib.hid h.knownRow
 have HZ : Hid (Bt.zeroPage.cells = #[.int .i64 0, .int .u64 0, .int .u64 0, .int .u64 0, .int .u64 0, .int .u64 0, .int .u64 0, .int .u64 0, .int .u64 0]) := Lib.hid rfl
 have hlt := h.lt
 have hlt1 : b < w.heap.size + 1 := by omega
 obtain ⟨vn, vw, ve, vc, hc⟩ := h.cells
 have k8 : w.cell? ⟨b, 8, none⟩ = some vk := hc 8
 clear h hl hc hA
 go_enter Tryz.func50, Tryz.ntmps50
 go_wp2_with fail
 go_at_call 78; refine (Latest_any known vk 96 _ ?hpg).mono ?_; (case hpg => exact HK.out.below qL); rintro e1 w1 ⟨rfl, hb1⟩; rw [HL.out]; ((obtain ⟨hc1, hf1, hs1⟩ := qR hb1); (try have := qN0 w w1))
 simp only [Option.getD_none, Option.isSome_none, HZ.out]
 have hb1' : b < w1.heap.size := by omega
 go_wp2_with fail
 go_at_call 79; refine (wait_any A op known vf vk s b 96 _ (HR.out.below qL)).mono ?_
 rintro e2 w2 ⟨rfl, hrun2, ho2⟩
 have HR2 := Lib.hid hrun2
 have HO2 := Lib.hid ho2
 clear hrun2
 go_wp2_with fail
 have hs1 : w.heap.size ≤ w1.heap.size + 1 := by omega
 have ho2 := HO2.out
 refine bodyPost_ret (results_tmp rfl _ _ _) rfl ⟨rfl, HR2.out.imp (fun c hc => ?_), qV⟩
 rcases hc with h1 | h1
 · exact .inl h1
 · exact .inr (by simp at h1; omega)
set_option maxRecDepth 10000 in
set_option maxHeartbeats 4000000 in
theorem next_root_need (op : Bt.Op) (known : List Bt.Page) (fa ka : Option Addr) (fn fc kn kc : Nat) (w : World) (hf : PgRow w (.slice fa fn fc) op.fresh) (hk : PgRow w (.slice ka kn kc) known) (hn : NoneAt w)
 (hkind : op.kind = 1) (hv : op.isValid = true) (hl : Bt.latest known 96 = none) :
 Calls Tryz.prog 27 #[.agg (opCells op (.slice fa fn fc)), .slice ka kn kc] w (NeedPost 96 w) := by
 have Hf := Lib.hid hf
 have Hk := Lib.hid hk
 have Hn := Lib.hid hn
 have HV := Lib.hid (fun wx => isValid_find op (.slice fa fn fc) wx hkind hv)
 have HRR := Lib.hid (fun b wx h1 h2 => readRoot_miss (fun _ => False) op known (.slice fa fn fc) (.slice ka kn kc) {} b wx h1 h2 hl)
 have b1 : (op.kind == 1) = true := by simp [hkind]
 clear hf hk hn hkind hv hl
 unfold opCells at HV ⊢
 go_enter Tryz.func27, Tryz.ntmps27
 go_wp2_with fail
 go_at_call 49; refine (HV.out _).mono ?_; rintro e1 w1 ⟨rfl, hb1⟩; ((obtain ⟨hc1, hf1, hs1⟩ := qR hb1); (try have := qN0 w w1); (try have := qN1 w w1))
 have HB1 := Lib.hid hb1
 go_wp2_with fail
 go_at_call 50; refine (HRR.out w1.heap.size _ ?hrun ?hlow).mono ?_
 case hrun => exact IsRun.start op known _ _ w1 (Hf.out.below qL) (Hk.out.below qL) (Hn.out.below qL)
 case hlow => exact fun c hc => hc.elim
 rintro e3 w3 ⟨rfl, ⟨vn, vw, ve, vc, hr3, _⟩, ho3⟩
 have HR3 := Lib.hid hr3
 have HO3 := Lib.hid ho3
 have hneed := hr3.need
 have hsn : (({} : Bt.St).wait 96).need = [96] := rfl
 rw [hsn] at hneed
 obtain ⟨gn, cn, rfl⟩ := own_form hneed (by simp)
 have HND : Hid (w3.ownsRow (w1.heap.size + 1) 3 1 (.slice (some ⟨gn, 0, none⟩) 1 cn) 1 [.int .i64 96]) := Lib.hid hneed
 have hc := hr3.blk.cell
 have hb3 := hr3.blk.lt
 have k9 : w3.cell? ⟨w1.heap.size, 9, none⟩ = some (.slice (some ⟨gn, 0, none⟩) 1 cn) := hc 9
 clear hr3 hc hneed hsn
 ((obtain ⟨hc3, hf3, hs3⟩ := qO ho3); (try have := qN0 w w3); (try have := qN1 w w3); (try have := qN0 w1 w3))
 go_wp2_with fail
 have hb1 := HB1.out
 have ho3 := HO3.out
 have hov : Over w1.heap.size w w3 := qV
 have hgb : w.heap.size + 1 < w1.heap.size + 1 := by omega
 have hbs : w.heap.size ≤ w1.heap.size + 1 := by omega
 have O1 := Blk.kept (b := w.heap.size + 1) (t := 63) (cs := #[.int .i64 0, .bool false, .bool false, .bool false, .bool false, .bool false, .bool false, .int .i64 0, .int .i64 0, .slice none 0 0, .slice none 0 0, .int .i64 0, .int .i64 0, .int .i64 0]) (made22 w) hb1
 have O3 := (O1.alloc _).grown ho3 (by simp; omega)
 exact UTsG1
theorem own_shape {w : World} {base n size : Nat} {e : TypeId} {v : Value} {xs : List Value} (h : w.ownsRow base e size v n xs) : ∃ p cap, v = .slice p n cap := by
 rcases h.2 with ⟨rfl, h0⟩ | ⟨g, cap, _, hv, _⟩
 · exact ⟨none, 0, by rw [h0]⟩
 · exact ⟨_, cap, hv⟩
set_option maxRecDepth 10000 in
set_option maxHeartbeats 1000000 in
theorem refLatest_none (known : List Bt.Page) (v : Value) (line : Int) (w : World) (hk : PgRow w v known) (hno : ∀ p ∈ known, p.line ≠ line) : Calls Tryz.prog 67 #[v, .int .i64 line] w
 fun e w' => e = .returned (.tuple #[.agg Bt.zeroPage.cells, .bool false]) ∧ Below w.heap.size w w' := by
 rcases hk.form with ⟨rfl, rfl⟩ | ⟨b, cap, rfl, hlt, hcells⟩
 · go_enter Tryz.func67, Tryz.ntmps67
   go_wp2_with fail
   refine wp_loop_rounds 1 ?_
   rw [rounds_succ]
   go_wp2_with fail
   have B0 : Blk ((w.alloc (.cells #[.int .i64 0, .int .u64 0, .int .u64 0, .int .u64 0, .int .u64 0, .int .u64 0, .int .u64 0, .int .u64 0, .int .u64 0] 25)).alloc (.cells #[.int .i64 0, .int .u64 0, .int .u64 0, .int .u64 0, .int .u64 0, .int .u64 0, .int .u64 0, .int .u64 0, .int .u64 0] 25)) w.heap.size 25 #[.int .i64 0, .int .u64 0, .int .u64 0, .int .u64 0, .int .u64 0, .int .u64 0, .int .u64 0, .int .u64 0, .int .u64 0] := (Blk.made _ _ _).alloc _
   refine bodyPost_ret (results_bt rfl _ _ w.heap.size _ _ _ rfl B0 Tryz.underlying25 rfl (by kernel_rfl)) rfl ⟨rfl, qL⟩
 · have hlen := hk.len
   unfold maxLen at hlen
   have Hc := Lib.hid hcells
   have HNO := Lib.hid hno
   clear hcells hno hk
   go_enter Tryz.func67, Tryz.ntmps67
   go_wp2_with fail
   generalize hw2 : ((w.alloc (.cells #[.int .i64 0, .int .u64 0, .int .u64 0, .int .u64 0, .int .u64 0, .int .u64 0, .int .u64 0, .int .u64 0, .int .u64 0] 25)).alloc (.cells #[.int .i64 0, .int .u64 0, .int .u64 0, .int .u64 0, .int .u64 0, .int .u64 0, .int .u64 0, .int .u64 0, .int .u64 0] 25)) = w2
   have hb2 : Below w.heap.size w w2 := by rw [← hw2]; exact qL
   have B0 : Blk w2 w.heap.size 25 #[.int .i64 0, .int .u64 0, .int .u64 0, .int .u64 0, .int .u64 0, .int .u64 0, .int .u64 0, .int .u64 0, .int .u64 0] := by rw [← hw2]; exact (Blk.made _ _ _).alloc _
   have B1 : Blk w2 (w.heap.size + 1) 25 #[.int .i64 0, .int .u64 0, .int .u64 0, .int .u64 0, .int .u64 0, .int .u64 0, .int .u64 0, .int .u64 0, .int .u64 0] := by rw [← hw2]; exact Blk.made' (by simp)
   have k0 := B0.cell
   have k1 := B1.cell
   have l0 := B0.lt
   have l1 := B1.lt
   have f0 := B0.free
   have HB0 := Lib.hid B0
   have HB2 := Lib.hid hb2
   have hrl : ∀ k (hk : k < known.length), w2.cell? ⟨b, k * 9, none⟩ = some (.int .i64 known[k].line) := fun k hk => (hb2.cell (p := ⟨b, k * 9, none⟩) hlt).trans (nine (page_cells Hc.out k hk)).1
   have HRL := Lib.hid hrl
   have hlt2 : b < w2.heap.size := Nat.lt_of_lt_of_le hlt hb2.size
   clear hw2 hb2 B0 B1 hrl
   go_loopw [7, 8] (fun f i wr => ∃ k : Nat, k ≤ known.length ∧ f = .bool false ∧ i = .int .i64 k ∧ wr = w2) (fun _ i _ => ((known.length : Int) - intOf i).toNat)
   case atStart => exact ⟨0, Nat.zero_le _, rfl, rfl, rfl⟩
   case round =>
    obtain ⟨k, hk, rfl, rfl, hwr⟩ := hrel
    obtain rfl := hwr
    by_cases hkl : k < known.length
    · have c0 := HRL.out k hkl
      have hne : known[k].line ≠ line := HNO.out _ (List.getElem_mem hkl)
      have be : (known[k].line == line) = false := by rw [beq_eq_false_iff_ne]; exact hne
      obtain ⟨z, hz⟩ : ∃ z, known[k].line = z := ⟨_, rfl⟩
      rw [hz] at c0 be
      have bk : decide ((k : Int) < known.length) = true := by simp; omega
      have bk0 : (0 : Int) ≤ k := by omega
      have bk1 : (k : Int) < known.length := by omega
      have wk1 : IntKind.i64.wrap ((k : Int) + 1) = (k : Int) + 1 := by rw [IntKind.wrap_i64]; omega
      clear hz hne
      go_wp2_with fail
      exact ⟨⟨k + 1, hkl, rfl, by rw [show ((k : Int) + 1) = ((k + 1 : Nat) : Int) by omega], by trivial⟩, by simp [intOf]; omega⟩
    · have bk : decide ((k : Int) < known.length) = false := by simp; omega
      go_wp2_with fail
      refine bodyPost_ret (results_bt rfl _ _ w.heap.size _ _ _ rfl (HB0.out.all9 _ _ _ _ _ _ _ _ _) Tryz.underlying25 rfl (by kernel_rfl)) rfl ⟨rfl, ?_⟩
      have hb2 := HB2.out
      exact qL
theorem pageCells_at (ps : List Bt.Page) (j : Nat) (u : Value) (h : (pageCells ps)[j]? = some u) : ∃ p, ps[j / 9]? = some p ∧ p.cells[j % 9]? = some u := by
 induction ps generalizing j with
 | nil => simp [pageCells] at h
 | cons x ps ih =>
   have e : pageCells (x :: ps) = x.cells.toList ++ pageCells ps := by simp [pageCells]
   rw [e] at h
   by_cases hj : j < 9
   · rw [List.getElem?_append_left (by simp [Bt.Page.cells]; omega), Array.getElem?_toList] at h
     exact ⟨x, by rw [show j / 9 = 0 by omega]; rfl, by rw [show j % 9 = j by omega]; exact h⟩
   · rw [List.getElem?_append_right (by simp [Bt.Page.cells]; omega)] at h
     have e9 : j - x.cells.toList.length = j - 9 := by simp [Bt.Page.cells]
     rw [e9] at h
     obtain ⟨p, h1, h2⟩ := ih (j - 9) h
     refine ⟨p, ?_, by rw [show j % 9 = (j - 9) % 9 by omega]; exact h2⟩
     rw [show j / 9 = (j - 9) / 9 + 1 by omega]
     exact h1
theorem pageCells_len (ps : List Bt.Page) : (pageCells ps).length = ps.length * 9 := by
 induction ps with
 | nil => rfl
 | cons x ps ih =>
   have e : pageCells (x :: ps) = x.cells.toList ++ pageCells ps := by simp [pageCells]
   rw [e, List.length_append, ih, List.length_cons]
   simp [Bt.Page.cells]
   omega
theorem src_pages {w : World} {v : Value} {known : List Bt.Page} (h : PgRow w v known) : SrcAt w v known.length (pageCells known) := by
 rcases h.form with ⟨rfl, rfl⟩ | ⟨b, cap, rfl, hlt, hcells⟩
 · exact .inl ⟨rfl, rfl, rfl⟩
 · refine .inr ⟨⟨b, 0, none⟩, cap, rfl, fun j u hu => ?_, fun u hu => ?_⟩
   · obtain ⟨p, h1, h2⟩ := pageCells_at known j u hu
     have := hcells (j / 9) p h1 (j % 9) u h2
     rw [show j / 9 * 9 + j % 9 = j by omega] at this
     rw [Addr.add_lit]
     simpa using this
   · simp only [pageCells, List.mem_flatMap] at hu
     obtain ⟨p, _, h2⟩ := hu
     simp [Bt.Page.cells] at h2
     rcases h2 with rfl | rfl | rfl | rfl | rfl | rfl | rfl | rfl | rfl <;> rfl
set_option maxRecDepth 10000 in
set_option maxHeartbeats 4000000 in
theorem fetch_one (known ps : List Bt.Page) (kp : Option Addr) (kc : Nat) (P cap gn cn : Nat) (l : Int) (w : World) (hk : PgRow w (.slice kp known.length kc) known) (hkl : known.length ≤ 1000) (hps : PgRow w (.slice (some ⟨P, 0, none⟩) ps.length cap) ps) (hpl : ps.length = 160) (h96 : 96 ≤ l) (h256 : l < 256)
 (hneed : w.cell? ⟨gn, 0, none⟩ = some (.int .i64 l)) (hgn : gn < w.heap.size) (hno : ∀ p ∈ known, p.line ≠ l) (p : Bt.Page) (hp : ps[(l - 96).toNat]? = some p) :
 Calls Tryz.prog 34 #[.slice kp known.length kc, .slice (some ⟨P, 0, none⟩) ps.length cap, .slice (some ⟨gn, 0, none⟩) 1 cn] w fun e w' => ∃ vo, e = .returned (.tuple #[vo, .bool true]) ∧ w'.ownsRow w.heap.size 25 9 vo (known.length + 1) (pageCells (known ++ [p])) ∧ Below w.heap.size w w' := by
 obtain ⟨i0, hi, hz0, hz1, hz2⟩ := info_parts infoPage
 obtain ⟨ix, rfl⟩ : ∃ ix : Nat, l = (ix : Int) + 96 := ⟨(l - 96).toNat, by omega⟩
 have hix : ix < 160 := by omega
 have hpx : ps[ix]? = some p := by rw [show ((ix : Int) + 96 - 96).toNat = ix by omega] at hp; exact hp
 have hrow : ∀ j u, p.cells[j]? = some u → w.cell? ⟨P, ix * 9 + j, none⟩ = some u := by
  rcases hps.form with ⟨h1, _⟩ | ⟨b, cp, hv, _, hcells⟩
  · simp at h1
  · simp only [Value.slice.injEq, Option.some.injEq, Addr.mk.injEq, and_true, true_and] at hv
    obtain ⟨rfl, _⟩ := hv
    exact hcells ix p hpx
 have hPw : P < w.heap.size := by
  rcases hps.form with ⟨h1, _⟩ | ⟨b, cp, hv, hlt, _⟩
  · simp at h1
  · simp only [Value.slice.injEq, Option.some.injEq, Addr.mk.injEq, and_true, true_and] at hv
    obtain ⟨rfl, _⟩ := hv
    exact hlt
 obtain ⟨c0, c1, c2, c3, c4, c5, c6, c7, c8⟩ := nine (b := P) (k := ix) (p := p) (fun j u hu => hrow j u (by rw [Array.getElem?_toList] at hu; exact hu))
 clear hrow hp hpx h96 h256
 have HK := Lib.hid hk
 have HPS := Lib.hid hps
 have HNO := Lib.hid hno
 clear hk hps hno
 go_enter Tryz.func34, Tryz.ntmps34
 go_wp2_with (at_builtin; refine halt ?_)
 refine unhalt ?_
 refine wpList_plain rfl fun K hK => ?_
 refine wp_append_src (.tmp 14) (.tmp 15) 54 rfl w.heap.size 25 i0 _ 9 72 Tryz.underlying54 hi hz0 hz1 hz2 rfl (by decide) (.slice (some ⟨w.heap.size, 0, none⟩) 0 0) 0 [] rfl (own_empty rfl (Nat.le_refl _)) (.slice kp known.length kc) known.length (pageCells known) rfl (src_pages (HK.out.below qL)) (pageCells_len known) (by unfold maxLen; omega) (by omega) (by simp) ?_
 intro v1 w1 hown1 hg1
 refine hK _ _ ?_
 clear hK K
 rw [Nat.zero_add, List.nil_append] at hown1
 obtain ⟨p1, cap1, rfl⟩ := own_shape hown1
 have hb1 : Below w.heap.size w w1 := below_grown (show Below w.heap.size w _ from qL) hg1 (fun j hj => by simp [Value.ownBlock] at hj; omega)
 have HO1 := Lib.hid hown1
 have HB1 := Lib.hid hb1
 ((obtain ⟨hc1, hf1, hs1⟩ := qR hb1); (try have := qN0 w w1))
 clear hown1 hg1
 go_wp2_with fail
 refine wp_loop_rounds 2 ?_
 rw [rounds_succ]
 go_wp2_with fail
 go_at_call 67; refine (refLatest_none known _ _ _ (HK.out.below HB1.out) HNO.out).mono ?_
 rintro e2 w2 ⟨rfl, hb2⟩
 ((obtain ⟨hc2, hf2, hs2⟩ := qR hb2); (try have := qN0 w w2); (try have := qN0 w1 w2))
 have HB2 := Lib.hid hb2
 have hg1 : gn < w1.heap.size := by omega
 have hg2 : gn < w2.heap.size := by omega
 have hP1 : P < w1.heap.size := by omega
 have hP2 : P < w2.heap.size := by omega
 have HZ : Bt.zeroPage.cells = #[.int .i64 0, .int .u64 0, .int .u64 0, .int .u64 0, .int .u64 0, .int .u64 0, .int .u64 0, .int .u64 0, .int .u64 0] := rfl
 rw [HZ]
 clear HZ
 have bx0 : decide ((ix : Int) < 0) = false := decide_eq_false (by omega)
 have bx1 : decide ((ix : Int) < 160) = true := decide_eq_true (by omega)
 have bx2 : decide (ix < 160) = true := decide_eq_true (by omega)
 have bx3 : (0 : Int) ≤ ix := by omega
 have bx4 : (ix : Int) < 160 := by omega
 go_wp2_with fail
 go_quiet (fail)
 go_wp2_with (at_builtin; refine halt ?_)
 refine unhalt ?_
 refine wpList_append_mine rfl (.tmp 71) (.tmp 73) 54 rfl w.heap.size 25 i0 _ 9 72 Tryz.underlying54 hi hz0 hz1 hz2 rfl (by decide) (.slice p1 known.length cap1) known.length (pageCells known) rfl (own_below HO1.out (by have hb2 := HB2.out; exact qL)) ⟨w2.heap.size + 1 + 1, 0, none⟩ 1 1
  [.int .i64 p.line, .int .u64 p.head, .int .u64 p.d0, .int .u64 p.d1, .int .u64 p.d2, .int .u64 p.d3, .int .u64 p.d4, .int .u64 p.d5, .int .u64 p.d6] rfl rfl (nine_news (cs := #[.int .i64 p.line, .int .u64 p.head, .int .u64 p.d0, .int .u64 p.d1, .int .u64 p.d2, .int .u64 p.d3, .int .u64 p.d4, .int .u64 p.d5, .int .u64 p.d6]) (Blk.made' (by simp))) (by intro u hu; simp at hu; rcases hu with rfl | rfl | rfl | rfl | rfl | rfl | rfl | rfl | rfl <;> rfl) (by omega) (by unfold maxLen; omega) (by omega) (by simp; omega) ?_
 intro g3 cap3 w3 hown3 hg3
 have hb3 : Below w.heap.size w w3 := below_grown (show Below w.heap.size w _ from by (have hb1 := HB1.out; have hb2 := HB2.out; exact qL)) hg3 (fun j hj => own_row_ge HO1.out j hj)
 have HO3 := Lib.hid hown3
 have HB3 := Lib.hid hb3
 clear hown3 hg3 hb3
 go_wp2_with fail
 rw [rounds_succ]
 go_wp2_with fail
 refine bodyPost_ret (results_tmp2 rfl _ _ _) rfl ⟨.slice (some ⟨g3, 0, none⟩) (known.length + 1) cap3, rfl, ?_, HB3.out⟩
 have e : pageCells (known ++ [p]) = pageCells known ++ p.cells.toList := by simp [pageCells]
 rw [e]
 exact HO3.out
end Go.Proofs.YtjmpekanlmepmaaGreatDoor
namespace Go.Proofs.YtjmpekanlmepmaaGreatDoor.Bt
/-- A node of a level, with what lies left of it. -/
structure NodeFits (l : Int) (A : List Cell) (n : Node) : Prop where
 level : n.level = l
 left : n.leftmost = A.isEmpty
 dead : n.dead = true → l = 0 ∧ A.isEmpty = false ∧ n.entries = []
 keys : n.dead = false → ∀ e ∈ n.entries, lowAfter 0 A < e.key ∧ e.key ≤ n.high
 high : n.dead = false → lowAfter 0 A < n.high
end Go.Proofs.YtjmpekanlmepmaaGreatDoor.Bt
namespace Go.Proofs.YtjmpekanlmepmaaGreatDoor.Bt
theorem latest_one {known : List Page} {line : Int} {p : Page} (hp : p ∈ known) (hl : p.line = line) (hu : ∀ q ∈ known, q.line = line → q = p) : latest known line = some p := by
 unfold latest
 cases h : known.reverse.find? (fun p => decide (p.line = line)) with
 | none =>
   have := List.find?_eq_none.1 h p (by simpa using hp)
   simp [hl] at this
 | some q =>
   have h1 := List.mem_of_find?_eq_some h
   have h2 := List.find?_some h
   rw [hu q (by simpa using h1) (by simpa using h2)]
theorem latest_none {known : List Page} {line : Int} (h : ∀ q ∈ known, q.line ≠ line) : latest known line = none := by
 unfold latest
 rw [List.find?_eq_none]
 intro q hq
 have := h q (by simpa using hq)
 simpa using this
theorem look_wait {known : List Page} {l : Int} (h1 : 104 ≤ l) (h2 : l < 256) (hn : latest known l = none) (s : St) (b : Bool) : s.look known (ptr l) b = (s.wait l, none) := by
 unfold St.look lookup
 rw [if_pos (validP_ptr h1 h2)]
 have e1 : latest known (ptr l).line = none := hn
 rw [e1]
 rfl
theorem Walks.goesStop {known : List Page} {lev k height : Int} {c e d : Cell} {hs : List Node} {l l1 l2 : List Cell} (h : Walks lev k c hs l e) (hl : l = l1 ++ d :: l2) (hk : ∀ x ∈ l1, Sees known x.1 x.2) (hd : latest known d.1 = none) (h1 : 104 ≤ d.1) (h2 : d.1 < 256) (s : St) (page : Page) :
 ∃ t N, N ≤ l.length ∧ Goes known lev k height N s page c.2 t .stopped ∧ t.need = [d.1] := by
 induction h generalizing s page l1 with
 | here _ _ => simp at hl
 | @right c d' e hs l h3 h4 h5 _ ih =>
   cases l1 with
   | nil =>
     simp only [List.nil_append, List.cons.injEq] at hl
     obtain ⟨rfl, _⟩ := hl
     exact ⟨_, 1, by simp, .rightStop h3 (by rw [h4]; exact look_wait h1 h2 hd _ _), rfl⟩
   | cons y l1 =>
     simp only [List.cons_append, List.cons.injEq] at hl
     obtain ⟨rfl, hl⟩ := hl
     obtain ⟨t, N, g1, g2, g3⟩ := ih hl (fun x hx => hk x (by simp [hx])) (s.hop c.2) (pg known d'.1)
     exact ⟨t, N + 1, by simp only [List.length_cons]; omega, .right h3 (by rw [h4]; exact (hk d' (by simp)).look _ _) h5 g2, g3⟩
 | @down c d' e x hs l h3 h4 h5 h6 h7 _ ih =>
   cases l1 with
   | nil =>
     simp only [List.nil_append, List.cons.injEq] at hl
     obtain ⟨rfl, _⟩ := hl
     exact ⟨_, 1, by simp, .downStop h3 h4 h5 (by rw [h6]; exact look_wait h1 h2 hd _ _), rfl⟩
   | cons y l1 =>
     simp only [List.cons_append, List.cons.injEq] at hl
     obtain ⟨rfl, hl⟩ := hl
     obtain ⟨t, N, g1, g2, g3⟩ := ih hl (fun x hx => hk x (by simp [hx])) s (pg known d'.1)
     exact ⟨t, N + 1, by simp only [List.length_cons]; omega, .down h3 h4 h5 (by rw [h6]; exact (hk d' (by simp)).look _ _) h7 g2, g3⟩
/-- What is known after m pages of the way. -/
def knownAt (ps : List Page) (path : List Cell) (m : Nat) : List Page := pg ps 96 :: (path.take m).map (fun x => pg ps x.1)
/-- The way of a lookup. -/
structure Way (ps : List Page) (T : List (List Cell)) (k : Int) (c : Cell) (L : List Cell) (hs : List Node) (e : Cell) : Prop where
 walks : Walks 0 k c hs L e
 sub : List.Sublist (c :: L) (flat T)
 root : rootPtr T = ptr c.1
 level : c.2.level = ((T.length - 1 : Nat) : Int)
theorem Inv.way {ps : List Page} {nx : Int} {es : List Entry} {T : List (List Cell)} (h : Inv ps nx es T) (hT : T ≠ []) {k : Int} (hk : 1 ≤ k) (hk2 : k ≤ maxHigh) : ∃ c L hs e, Way ps T k c L hs e := by
 obtain ⟨pre, A, l, n, R, post, hs, i1, i2, i3, i4, i5, i6, i7, i8, c, r, t, L, rfl, i9, i10⟩ := h.descend (lev := 0) (List.length_pos_iff.2 hT) hk hk2
 exact ⟨c, L, hs, (l, n), i9, i10, rfl, by rw [h.tree.levels.1.level c (by simp)]; simp⟩
section
variable {ps : List Page} {nx : Int} {es : List Entry} {T : List (List Cell)} {k : Int} {c e : Cell} {L : List Cell} {hs : List Node}
theorem Way.nodup (h : Inv ps nx es T) (hw : Way ps T k c L hs e) : ((c :: L).map (·.1)).Nodup := (hw.sub.map _).nodup h.tree.nodup
theorem Way.mem (h : Inv ps nx es T) (hw : Way ps T k c L hs e) : ∀ x ∈ c :: L, Sees ps x.1 x.2 ∧ 105 ≤ x.1 ∧ x.1 < 256 := fun x hx => by
 have hm := hw.sub.subset hx
 have := h.range x hm
 have := h.bound
 exact ⟨h.sees x hm, by omega, by omega⟩
theorem Way.len (h : Inv ps nx es T) (hw : Way ps T k c L hs e) : L.length + 1 ≤ 151 := by
 have h1 := hw.sub.length_le
 have h2 := h.small
 simp only [List.length_cons] at h1
 omega
/-- What is known of a line of the way. -/
theorem Way.latest (h : Inv ps nx es T) (hw : Way ps T k c L hs e) (m : Nat) {x : Cell} (hx : x ∈ (c :: L).take m) : Bt.latest (knownAt ps (c :: L) m) x.1 = some (pg ps x.1) := by
 have hm := hw.mem h x (List.mem_of_mem_take hx)
 refine latest_one (by unfold knownAt; exact List.mem_cons_of_mem _ (List.mem_map.2 ⟨x, hx, rfl⟩)) hm.1.line (fun q hq hl => ?_)
 unfold knownAt at hq
 rcases List.mem_cons.1 hq with rfl | hq
 · have := (h.ix.at (l := 96) (by omega) (by omega)).2.1
   omega
 · obtain ⟨y, hy, rfl⟩ := List.mem_map.1 hq
   have h2 := (hw.mem h y (List.mem_of_mem_take hy)).1.line
   rw [h2] at hl
   rw [hl]
theorem Way.latest96 (h : Inv ps nx es T) (hw : Way ps T k c L hs e) (m : Nat) : Bt.latest (knownAt ps (c :: L) m) 96 = some (pg ps 96) := by
 refine latest_one (by unfold knownAt; simp) (h.ix.at (l := 96) (by omega) (by omega)).2.1 (fun q hq hl => ?_)
 unfold knownAt at hq
 rcases List.mem_cons.1 hq with rfl | hq
 · rfl
 · obtain ⟨y, hy, rfl⟩ := List.mem_map.1 hq
   have h2 := hw.mem h y (List.mem_of_mem_take hy)
   have h3 := h2.1.line
   omega
theorem Way.none (h : Inv ps nx es T) (hw : Way ps T k c L hs e) {m : Nat} {d : Cell} (hd : (c :: L)[m]? = some d) : ∀ q ∈ knownAt ps (c :: L) m, q.line ≠ d.1 := fun q hq hl => by
 have hdm := hw.mem h d (List.mem_of_getElem? hd)
 unfold knownAt at hq
 rcases List.mem_cons.1 hq with rfl | hq
 · have := (h.ix.at (l := 96) (by omega) (by omega)).2.1
   omega
 · obtain ⟨y, hy, rfl⟩ := List.mem_map.1 hq
   have h2 := (hw.mem h y (List.mem_of_mem_take hy)).1.line
   rw [h2] at hl
   have hnd := hw.nodup h
   obtain ⟨i, hi, hyi⟩ := List.getElem_of_mem hy
   have hil : i < m := by rw [List.length_take] at hi; omega
   have hyi2 : (c :: L)[i]? = some y := by
    rw [List.getElem_take] at hyi
    rw [List.getElem?_eq_getElem (by rw [List.length_take] at hi; omega), hyi]
   have hml := (List.getElem?_eq_some_iff.1 hd).1
   have e1 : ((c :: L).map (·.1))[i]? = some y.1 := by rw [List.getElem?_map, hyi2]; rfl
   have e2 : ((c :: L).map (·.1))[m]? = some d.1 := by rw [List.getElem?_map, hd]; rfl
   have := (List.getElem?_inj (by rw [List.length_map]; have := (List.getElem?_eq_some_iff.1 hyi2).1; exact this) hnd).1 (e1.trans (by rw [hl]; exact e2.symm))
   omega
/-- As long as a page of the way is missing, the lookup waits for it. -/
theorem Way.stop (h : Inv ps nx es T) (hw : Way ps T k c L hs e) {m : Nat} {d : Cell} (hd : (c :: L)[m]? = some d) : ∃ t, Dives (knownAt ps (c :: L) m) 0 k (S0 ps T) t .stopped ∧ t.need = [d.1] := by
 have hdm := hw.mem h d (List.mem_of_getElem? hd)
 have hno := latest_none (hw.none h hd)
 have hr : (S0 ps T).root = ptr c.1 := hw.root
 cases m with
 | zero =>
   obtain rfl : c = d := by simpa using hd
   exact ⟨_, .stop (by rw [hr]; exact look_wait (by omega) hdm.2.2 hno _ _), rfl⟩
 | succ m =>
   have hd' : L[m]? = some d := by simpa using hd
   have hml := (List.getElem?_eq_some_iff.1 hd').1
   have hse : ∀ x ∈ (c :: L).take (m + 1), Sees (knownAt ps (c :: L) (m + 1)) x.1 x.2 := fun x hx => (hw.mem h x (List.mem_of_mem_take hx)).1.congr ((hw.latest h _ hx).trans (hw.mem h x (List.mem_of_mem_take hx)).1.here.symm)
   have hc := hse c (by simp)
   have hlook : (S0 ps T).look (knownAt ps (c :: L) (m + 1)) (S0 ps T).root false = (S0 ps T, some (pg (knownAt ps (c :: L) (m + 1)) c.1, c.2)) := by rw [hr]; exact hc.look _ _
   have hsp : L = L.take m ++ d :: L.drop (m + 1) := by
    have := List.take_append_drop m L
    rw [List.drop_eq_getElem_cons hml] at this
    rw [(List.getElem?_eq_some_iff.1 hd').2] at this
    exact this.symm
   obtain ⟨t, N, g1, g2, g3⟩ := hw.walks.goesStop (known := knownAt ps (c :: L) (m + 1)) (height := c.2.level + 1) hsp (fun x hx => hse x (by simp [hx])) hno (by omega) hdm.2.2 (S0 ps T) (pg (knownAt ps (c :: L) (m + 1)) c.1)
   have hlen := hw.len h
   have hlv := hw.level
   exact ⟨t, .goes hlook (by rw [hlv]; omega) (by omega) g2, g3⟩
/-- Where the whole way is known, the lookup comes to its end. -/
theorem Way.ends (h : Inv ps nx es T) (hw : Way ps T k c L hs e) : Dives (knownAt ps (c :: L) (L.length + 1)) 0 k (S0 ps T) (after hs ((T.length - 1 : Nat) + 1 : Int) (S0 ps T)) (.at_ (pg ps e.1) e.2) := by
 have hall : (c :: L).take (L.length + 1) = c :: L := List.take_of_length_le (by simp)
 have hr : (S0 ps T).root = ptr c.1 := hw.root
 have hlat : ∀ x ∈ c :: L, Bt.latest (knownAt ps (c :: L) (L.length + 1)) x.1 = some (pg ps x.1) := fun x hx => hw.latest h _ (by rw [hall]; exact hx)
 have hse : ∀ x ∈ c :: L, Sees (knownAt ps (c :: L) (L.length + 1)) x.1 x.2 := fun x hx => (hw.mem h x hx).1.congr ((hlat x hx).trans (hw.mem h x hx).1.here.symm)
 have hpg : ∀ x ∈ c :: L, pg (knownAt ps (c :: L) (L.length + 1)) x.1 = pg ps x.1 := fun x hx => by unfold pg; rw [hlat x hx, (hw.mem h x hx).1.here]
 have hlook : (S0 ps T).look (knownAt ps (c :: L) (L.length + 1)) (S0 ps T).root false = (S0 ps T, some (pg (knownAt ps (c :: L) (L.length + 1)) c.1, c.2)) := by rw [hr]; exact (hse c (by simp)).look _ _
 have hg := hw.walks.goes (known := knownAt ps (c :: L) (L.length + 1)) (height := c.2.level + 1) hse (S0 ps T)
 rw [after_eq, hpg e hw.walks.last.1, hw.level] at hg
 have hlen := hw.len h
 have hlv := hw.level
 refine .goes hlook (by rw [hlv]; omega) (N := L.length) (by omega) ?_
 rw [hlv]
 exact hg
end
end Go.Proofs.YtjmpekanlmepmaaGreatDoor.Bt
namespace Go.Proofs.YtjmpekanlmepmaaGreatDoor
open Go.RowKit
abbrev findOp (k : Int) : Bt.Op := ⟨1, k, 0, Bt.nilP, 0, 0, []⟩
/-- The lines that a lookup asks for, one after the other. -/
structure Trip (ps : List Bt.Page) (k : Int) (lines : List Int) : Prop where
 short : lines.length ≤ 153
 line : ∀ l ∈ lines, 96 ≤ l ∧ l < 256
 nodup : lines.Nodup
 wait : ∀ n l, lines[n]? = some l → ∀ ka kn kc w, PgRow w (.slice ka kn kc) ((lines.take n).map (Bt.pg ps)) → NoneAt w → Calls Tryz.prog 27 #[.agg (opCells (findOp k) (.slice none 0 0)), .slice ka kn kc] w (NeedPost l w)
 over : ∃ (o : Bt.Out) (a b : Nat), o.code = 0 ∧ o.height = (a : Int) ∧ o.hops = (b : Int) ∧ lines.length = 1 + a + b ∧
  ∀ ka kn kc w, PgRow w (.slice ka kn kc) (lines.map (Bt.pg ps)) → NoneAt w → Calls Tryz.prog 27 #[.agg (opCells (findOp k) (.slice none 0 0)), .slice ka kn kc] w (NextPost [] o w)
theorem Bt.find_of_stop {known : List Bt.Page} {op : Bt.Op} {s t : Bt.St} (hroot : s.root ≠ Bt.nilP) (hd : Bt.Dives known 0 op.key s t .stopped) : s.find op known = t := by
 unfold Bt.St.find
 rw [if_neg hroot, hd.descend]
theorem Bt.find_of_leaf {known : List Bt.Page} {op : Bt.Op} {s t : Bt.St} {p : Bt.Page} {n : Bt.Node} (hroot : s.root ≠ Bt.nilP) (hd : Bt.Dives known 0 op.key s t (.at_ p n)) :
 (s.find op known).need = t.need ∧ (s.find op known).writes = t.writes ∧ (s.find op known).ended = t.ended ∧ (s.find op known).out.code = 0 ∧ (s.find op known).out.height = t.out.height ∧ (s.find op known).out.hops = t.out.hops := by
 unfold Bt.St.find
 rw [if_neg hroot, hd.descend]
 simp only
 split <;> exact ⟨rfl, rfl, rfl, rfl, rfl, rfl⟩
theorem Bt.Inv.trip {ps : List Bt.Page} {nx : Int} {es : List Bt.Entry} {T : List (List Bt.Cell)} (h : Bt.Inv ps nx es T) {k : Int} (hk : 1 ≤ k) (hk2 : k ≤ Bt.maxKey) : ∃ lines, Trip ps k lines := by
 have hv : (findOp k).isValid = true := by unfold Bt.Op.isValid; simp [findOp, Bt.isKey, hk, hk2]
 have hR := h.rootIs
 have hno : Bt.latest [] 96 = none := rfl
 obtain ⟨r1, r2, r3, r4, r5⟩ := h.rootHere
 have hpl : (Bt.pg ps 96).line = 96 := (h.ix.at (l := 96) (by omega) (by omega)).2.1
 by_cases hT : T = []
 · subst hT
   refine ⟨[96], by simp, by simp, by simp, fun n l hl ka kn kc w hp hn => ?_, ?_⟩
   · cases n with
     | succ n => simp at hl
     | zero =>
       obtain rfl : 96 = l := by simpa using hl
       exact next_root_need (findOp k) [] none ka 0 0 kn kc w (nilRow w) hp hn rfl hv hno
   · have hla : Bt.latest [Bt.pg ps 96] 96 = some (Bt.pg ps 96) := Bt.latest_one (by simp) hpl (fun q hq _ => by simpa using hq)
     have e1 : (Bt.S0 ps []).find (findOp k) [Bt.pg ps 96] = (Bt.S0 ps []).fail 0 [96] := by
      unfold Bt.St.find Bt.St.noTree
      rw [if_pos (show (Bt.S0 ps []).root = Bt.nilP from rfl), if_neg (by show ¬ Bt.locked (Bt.pg ps 96) = true; rw [r2]; simp)]
     refine ⟨{ ((Bt.S0 ps []).fail 0 [96]).out with hops := 0, height := 0, dead := false, unposted := false }, 0, 0, rfl, rfl, rfl, rfl, fun ka kn kc w hp hn => ?_⟩
     refine next_find (findOp k) [Bt.pg ps 96] none ka 0 0 kn kc w (nilRow w) hp hn rfl hv _ _ _ hla r2 hR.read ((Bt.S0 ps []).fail 0 [96]) rfl (.inl rfl) _ (fun _ => rfl) (fun he => by cases he) (Lib.hid (fun b' w' hr => ?_))
     rw [← e1]
     exact find_root _ (findOp k) [Bt.pg ps 96] _ _ _ b' w' hr (fun _ h => h.elim) rfl r4 r2
 · obtain ⟨c, L, hs, e, hw⟩ := h.way hT hk (maxKey_high hk2)
   have hroot : (Bt.S0 ps T).root ≠ Bt.nilP := fun e => hT (h.rootNil.1 e)
   have hlen := hw.len h
   have hkn : ∀ m, ((96 :: (c :: L).map (·.1)).take (m + 1)).map (Bt.pg ps) = Bt.knownAt ps (c :: L) m := fun m => by
    unfold Bt.knownAt
    rw [List.take_succ_cons, List.map_cons, ← List.map_take, List.map_map]
    rfl
   refine ⟨96 :: (c :: L).map (·.1), by simp; omega, ?_, ?_, fun n l hl ka kn kc w hp hn => ?_, ?_⟩
   · intro l hl
     rcases List.mem_cons.1 hl with rfl | hl
     · omega
     · obtain ⟨x, hx, rfl⟩ := List.mem_map.1 hl
       have := hw.mem h x hx
       omega
   · refine List.nodup_cons.2 ⟨fun hm => ?_, hw.nodup h⟩
     obtain ⟨x, hx, hx1⟩ := List.mem_map.1 hm
     have := (hw.mem h x hx).2
     omega
   · cases n with
     | zero =>
       obtain rfl : 96 = l := by simpa using hl
       exact next_root_need (findOp k) [] none ka 0 0 kn kc w (nilRow w) hp hn rfl hv hno
     | succ m =>
       rw [hkn] at hp
       have hl2 : ((c :: L).map (·.1))[m]? = some l := by simpa using hl
       rw [List.getElem?_map] at hl2
       cases hd : (c :: L)[m]? with
       | none => rw [hd] at hl2; cases hl2
       | some d =>
         rw [hd] at hl2
         obtain rfl : d.1 = l := by simpa using hl2
         obtain ⟨t, ht, htn⟩ := hw.stop h hd
         refine next_find_need (findOp k) (Bt.knownAt ps (c :: L) m) none ka 0 0 kn kc w (nilRow w) hp hn rfl hv _ _ _ (hw.latest96 h m) r2 hR.read t d.1 htn (Lib.hid (fun b' w' hr => ?_))
         rw [← Bt.find_of_stop (op := findOp k) hroot ht]
         exact find_stop _ (findOp k) (Bt.knownAt ps (c :: L) m) _ _ _ b' t .stopped w' hr (fun _ h => h.elim) hroot (s0_hops ps T) ht rfl
   · have hend := hw.ends h
     obtain ⟨f1, f2, f3, f4, f5, f6⟩ := Bt.find_of_leaf (op := findOp k) hroot hend
     have hlh := hw.walks.hops
     have hlv := hw.level
     have htl : 0 < T.length := List.length_pos_iff.2 hT
     have hwr : ((Bt.S0 ps T).find (findOp k) (Bt.knownAt ps (c :: L) (L.length + 1))).writes = [] := f2
     refine ⟨((Bt.S0 ps T).find (findOp k) (Bt.knownAt ps (c :: L) (L.length + 1))).out, T.length, hs.length, f4, ?_, ?_, by simp; omega, fun ka kn kc w hp hn => ?_⟩
     · rw [f5]
       show ((T.length - 1 : Nat) : Int) + 1 = T.length
       omega
     · rw [f6]
       show (0 : Int) + hs.length = hs.length
       omega
     · have hp2 : PgRow w (.slice ka kn kc) (Bt.knownAt ps (c :: L) (L.length + 1)) := by
         rw [← hkn, List.take_of_length_le (by simp)]
         exact hp
       have hq := next_find (findOp k) (Bt.knownAt ps (c :: L) (L.length + 1)) none ka 0 0 kn kc w (nilRow w) hp2 hn rfl hv _ _ _ (hw.latest96 h _) r2 hR.read ((Bt.S0 ps T).find (findOp k) (Bt.knownAt ps (c :: L) (L.length + 1))) f1 (by rw [hwr]; exact .inl rfl)
        ((Bt.S0 ps T).find (findOp k) (Bt.knownAt ps (c :: L) (L.length + 1))).out (fun he => by rw [f3] at he; cases he) (fun _ => rfl) (Lib.hid (fun b' w' hr => find_leaf _ (findOp k) (Bt.knownAt ps (c :: L) (L.length + 1)) _ _ _ b' _ _ _ w' hr (fun _ h => h.elim) hroot (s0_hops ps T) hend))
       rw [hwr] at hq
       exact hq
theorem MvRow.below {w w' : World} {p : Option Addr} {ms : List Mv} (h : MvRow w p ms) (hb : Below w.heap.size w w') : MvRow w' p ms := by
 refine ⟨h.rng, ?_⟩
 rcases h.form with h1 | ⟨b, o, hp, hlt, hc⟩
 · exact .inl h1
 · exact .inr ⟨b, o, hp, Nat.lt_of_lt_of_le hlt hb.size, fun i m hi => by
     obtain ⟨h1, h2, h3⟩ := hc i m hi
     exact ⟨(hb.cell (p := ⟨b, o + i * 3, none⟩) hlt).trans h1, (hb.cell (p := ⟨b, o + i * 3 + 1, none⟩) hlt).trans h2, (hb.cell (p := ⟨b, o + i * 3 + 2, none⟩) hlt).trans h3⟩⟩
def PlayLoop (x P cap n : Nat) (w0 : World) (i : Value) (wr : World) : Prop :=
 ∃ k : Nat, k ≤ n ∧ i = .int .i64 k ∧ Hid (∃ ps nx es T, PlayAt x P cap k w0 wr ps nx es T)
def PlayPost (n : Nat) (w : World) (e : Ending) (w' : World) : Prop :=
 ∃ x P cap ps nx es T, e = .returned (.pointer (some ⟨x, 0, none⟩)) ∧ PlayAt x P cap n w w' ps nx es T
set_option maxRecDepth 10000 in
set_option maxHeartbeats 4000000 in
theorem play_any (pl : Option Addr) (cl : Nat) (ms : List Mv) (w : World) (hn : NoneAt w) (hl : MvRow w pl ms) (hm70 : ms.length ≤ 70) :
 Calls Tryz.prog 26 #[.slice pl ms.length cl] w (PlayPost ms.length w) := by
 have HN := Lib.hid hn
 have HL := Lib.hid hl
 clear hn hl
 go_enter Tryz.func26, Tryz.ntmps26
 go_wp2_with fail
 go_at_call 22; refine (begin_any _).mono ?_
 rintro e0 w0 ⟨x, P, cap, rfl, hwP, hPx, hbx, hox, hb0⟩
 have hgl := HN.out.lt
 have HP0 : Hid (∃ ps nx es T, PlayAt x P cap 0 w w0 ps nx es T) := Lib.hid ⟨pg0, 105, [], [], Bt.Inv.start, ⟨0, 0, Nat.le_refl _, Bt.Cnt.start⟩, IxG.start hbx hox hPx (by omega) (HN.out.below hb0), qL, by omega⟩
 clear hbx hox hb0 hgl
 go_wp2_with fail
 go_loopw [4] (fun i wr => PlayLoop x P cap ms.length w i wr) (fun i _ => ((ms.length : Int) - intOf i).toNat)
 case atStart => exact ⟨0, Nat.zero_le _, rfl, HP0⟩
 case round =>
  obtain ⟨k, hk, rfl, HQ⟩ := hrel
  clear HP0
  by_cases hk2 : k < ms.length
  · obtain ⟨ps, nx, es, T, hs⟩ := HQ.out
    obtain ⟨ins, K, hi1, hi2⟩ := hs.cnt
    obtain ⟨m, hm⟩ : ∃ m, ms[k]? = some m := ⟨_, List.getElem?_eq_getElem hk2⟩
    obtain ⟨r1, r2, r3⟩ := HL.out.rng m (List.mem_of_getElem? hm)
    obtain ⟨ps', nx', es', T', hmv, hdo⟩ := do_any hs.inv hi2 (by omega) (x := x) (P := P) (cap := cap) (G := k) (by omega) m.kind m.key m.level (k : Int) r1 r2 r3 ⟨by omega, by omega⟩
    have hform : ∃ b o, pl = some ⟨b, o, none⟩ ∧ b < w.heap.size ∧ ∀ i m, ms[i]? = some m → w.cell? ⟨b, o + i * 3, none⟩ = some (.int .i64 m.kind) ∧ w.cell? ⟨b, o + i * 3 + 1, none⟩ = some (.int .i64 m.key) ∧ w.cell? ⟨b, o + i * 3 + 2, none⟩ = some (.int .i64 m.level) := by
     rcases HL.out.form with h0 | h0
     · rw [h0] at hk2; simp at hk2
     · exact h0
    obtain ⟨bl, ol, rfl, hbl, hcl⟩ := hform
    obtain ⟨q0, q1, q2⟩ := hcl k m hm
    have c0 : wr.cell? ⟨bl, ol + k * 3, none⟩ = some (.int .i64 m.kind) := (hs.below.cell (p := ⟨bl, ol + k * 3, none⟩) hbl).trans q0
    have c1 : wr.cell? ⟨bl, ol + k * 3 + 1, none⟩ = some (.int .i64 m.key) := (hs.below.cell (p := ⟨bl, ol + k * 3 + 1, none⟩) hbl).trans q1
    have c2 : wr.cell? ⟨bl, ol + k * 3 + 2, none⟩ = some (.int .i64 m.level) := (hs.below.cell (p := ⟨bl, ol + k * 3 + 2, none⟩) hbl).trans q2
    have HDO := Lib.hid hdo
    have HS := Lib.hid hs
    have HMV := Lib.hid hmv
    have HPL := Lib.hid (hmv.len hs.inv)
    have hMs : w.heap.size ≤ wr.heap.size := hs.below.size
    have hMP : w.heap.size ≤ P := hs.low
    have kx0 : wr.cell? ⟨x, 0, none⟩ = some (.slice (some ⟨P, 0, none⟩) ps.length cap) := by obtain ⟨_, _, _, ho, _⟩ := hs.ix; exact ho.blk.cell 0
    have hxw : x < wr.heap.size := by obtain ⟨_, _, _, ho, _⟩ := hs.ix; exact ho.blk.lt
    have bk : decide ((k : Int) < ms.length) = true := by simp; omega
    have bk0 : (0 : Int) ≤ k := by omega
    have bk1 : (k : Int) < ms.length := by omega
    have wk1 : IntKind.i64.wrap ((k : Int) + 1) = (k : Int) + 1 := by rw [IntKind.wrap_i64]; omega
    clear hs hdo hmv hcl q0 q1 q2 hm hi1 hi2 r1 r2 r3
    go_wp2_with fail
    go_at_call 23; refine (HDO.out _ (HS.out.ix.over qL)).mono ?_
    rintro e2 w2 ⟨rfl, hix2, hf2⟩
    have HIX2 := Lib.hid hix2
    have HF2 := Lib.hid ((FrameP.of_below (show Below wr.heap.size wr _ from qL)).trans hf2)
    clear hix2 hf2
    go_wp2_with fail
    refine ⟨⟨k + 1, by omega, by rw [show ((k : Int) + 1) = ((k + 1 : Nat) : Int) by omega], Lib.hid ⟨ps', nx', es', T', (HS.out.moved HMV.out HIX2.out HF2.out).over qL⟩⟩, by simp [intOf]; omega⟩
  · have bk : decide ((k : Int) < ms.length) = false := by simp; omega
    have hkl : k = ms.length := by omega
    have HS := Lib.hid (hkl ▸ HQ.out)
    clear hkl HQ
    go_wp2_with fail
    refine bodyPost_ret (results_tmp rfl _ _ _) rfl ?_
    obtain ⟨ps, nx, es, T, hs⟩ := HS.out
    exact ⟨x, P, cap, ps, nx, es, T, rfl, hs.over qL⟩
def TripLoop (ps : List Bt.Page) (lines : List Int) (w5 : World) (kn i : Value) (wr : World) : Prop :=
 ∃ (m : Nat) (kp : Option Addr) (kc : Nat), m ≤ lines.length ∧ kn = .slice kp m kc ∧ i = .int .i64 m ∧ Hid (PgRow wr (.slice kp m kc) ((lines.take m).map (Bt.pg ps))) ∧ Hid (Below w5.heap.size w5 wr)
set_option maxRecDepth 10000 in
set_option maxHeartbeats 4000000 in
theorem trips_walk (pl : Option Addr) (cl : Nat) (ms : List Mv) (ask : Int) (has : I64 ask) (w : World) (hn : NoneAt w) (hl : MvRow w pl ms) (hlong : ms.length ≤ 9223372036854775807) :
 Calls Tryz.prog 11 #[.slice pl ms.length cl, .int .i64 ask] w fun e w' => e = .returned (.bool true) ∧ Below w.heap.size w w' := by
 have HN := Lib.hid hn
 have HL := Lib.hid hl
 have HAS := Lib.hid has
 clear hn hl has
 by_cases h70 : 70 < ms.length
 · have b1 : decide ((70 : Int) < (ms.length : Int)) = true := by simp; omega
   have b2 : decide (70 < ms.length) = true := by simp; omega
   clear h70 hlong
   go_enter Tryz.func11, Tryz.ntmps11
   go_wp2_with fail
   go_at_call 21; refine (awake_any _ HN.out).mono ?_
   rintro e1 w1 ⟨rfl, hb1⟩
   go_wp2_with fail
   exact bodyPost_ret (results_tmp rfl _ _ _) rfl ⟨rfl, qL⟩
 have b1 : decide ((70 : Int) < (ms.length : Int)) = false := by simp; omega
 have b2 : decide (70 < ms.length) = false := by simp; omega
 have hm70 : ms.length ≤ 70 := by omega
 clear h70 hlong
 obtain ⟨k, hk0⟩ : ∃ k, keyOf ask = k := ⟨_, rfl⟩
 have hrk := keyOf_range ask
 rw [hk0] at hrk
 have HK0 := Lib.hid hk0
 clear hk0
 go_enter Tryz.func11, Tryz.ntmps11
 go_wp2_with fail
 go_at_call 21; refine (awake_any _ HN.out).mono ?_
 rintro e1 w1 ⟨rfl, hb1⟩
 have HB1 := Lib.hid hb1
 go_wp2_with fail
 go_at_call 26; refine (play_any pl cl ms _ (HN.out.below hb1) (HL.out.below hb1) hm70).mono ?_
 rintro e5 w5 ⟨x, P, cap, ps, nx, es, T, rfl, hplay⟩
 obtain ⟨vk, vt, vg, hxo, _⟩ := hplay.ix
 have hps160 : ps.length = 160 := hplay.inv.ix.len
 have hpg := hxo.pg.row
 have kx0 : w5.cell? ⟨x, 0, none⟩ = some (.slice (some ⟨P, 0, none⟩) ps.length cap) := hxo.blk.cell 0
 rw [hps160] at hpg kx0
 have HPG := Lib.hid hpg
 have HNO := Lib.hid hxo.none
 have hxw : x < w5.heap.size := hxo.blk.lt
 have HPLAY := Lib.hid hplay
 have HB5 := Lib.hid hplay.below
 have ne := neq_ptr
 obtain ⟨lines, htrip⟩ := hplay.inv.trip hrk.1 hrk.2
 have HTR := Lib.hid htrip
 have hsh := htrip.short
 have HP96 : Hid (∀ l ∈ lines, ps[(l - 96).toNat]? = some (Bt.pg ps l)) := Lib.hid (fun l hlm => by
  have h1 := htrip.line l hlm
  exact (hplay.inv.ix.at h1.1 h1.2).2.2.2)
 have HPLN : Hid (∀ l ∈ lines, (Bt.pg ps l).line = l) := Lib.hid (fun l hlm => by
  have h1 := htrip.line l hlm
  exact (hplay.inv.ix.at h1.1 h1.2).2.1)
 have HPS := Lib.hid hps160
 clear hxo hplay hb1 htrip hpg hps160
 go_wp2_with fail
 go_loopw [6, 7] (fun kn i wr => TripLoop ps lines w5 kn i wr) (fun _ i _ => (200 - intOf i).toNat)
 case atStart => exact ⟨0, none, 0, Nat.zero_le _, rfl, rfl, Lib.hid (nilRow _), Lib.hid (Below.refl _ _)⟩
 case round =>
  obtain ⟨m, kp, kc, hm, rfl, rfl, HKN, HBM⟩ := hrel
  rename World => wz
  have bm : decide ((m : Int) < 200) = true := decide_eq_true (by omega)
  have bm2 : decide (m < 200) = true := decide_eq_true (by omega)
  have hxz : x < wz.heap.size := Nat.lt_of_lt_of_le hxw HBM.out.size
  have kz0 : wz.cell? ⟨x, 0, none⟩ = some (.slice (some ⟨P, 0, none⟩) 160 cap) := (HBM.out.cell (p := ⟨x, 0, none⟩) hxw).trans kx0
  have HNOz : Hid (NoneAt wz) := Lib.hid (HNO.out.below HBM.out)
  have HPGz := Lib.hid (HPG.out.below HBM.out)
  by_cases hml : m < lines.length
  · obtain ⟨l, hlm⟩ : ∃ l, lines[m]? = some l := ⟨_, List.getElem?_eq_getElem hml⟩
    have hlmem : l ∈ lines := List.mem_of_getElem? hlm
    have hl96 := HTR.out.line l hlmem
    have HC : Hid (∀ w', Below wz.heap.size wz w' → Calls Tryz.prog 27 #[.agg (opCells (findOp k) (.slice none 0 0)), .slice kp m kc] w' (NeedPost l w')) := Lib.hid (fun w' hb => HTR.out.wait m l hlm kp m kc w' (HKN.out.below hb) (HNOz.out.below hb))
    have hno : ∀ p ∈ (lines.take m).map (Bt.pg ps), p.line ≠ l := by
     intro p hp hpl
     obtain ⟨l', hl', rfl⟩ := List.mem_map.1 hp
     rw [HPLN.out l' (List.mem_of_mem_take hl')] at hpl
     subst hpl
     have hd := HTR.out.nodup
     have h1 := (List.getElem?_eq_some_iff.1 hlm).2
     rw [← List.take_append_drop m lines, List.drop_eq_getElem_cons hml, h1] at hd
     exact (List.nodup_append.1 hd).2.2 _ hl' _ (by simp) rfl
    have HNON := Lib.hid hno
    have HLM := Lib.hid hlm
    have hkl : ((lines.take m).map (Bt.pg ps)).length = m := by rw [List.length_map, List.length_take]; omega
    have HKL := Lib.hid hkl
    have wm1 : IntKind.i64.wrap ((m : Int) + 1) = (m : Int) + 1 := by rw [IntKind.wrap_i64]; omega
    clear hno hlm hkl
    go_wp2_with fail
    go_at_call 25; refine (Key_any ask HAS.out _).mono ?_; rintro e0 w0 ⟨rfl, hw0⟩; obtain rfl := hw0.symm; clear hw0
    rw [HK0.out]
    unfold opCells findOp Bt.nilP at HC
    go_wp2_with fail
    go_at_call 27; refine (HC.out _ qL).mono ?_
    rintro e9 w9 ⟨vn, rfl, hvn, hb9⟩
    obtain ⟨gn, cn, rfl⟩ := own_form hvn (by simp)
    have HVN := Lib.hid hvn
    have HB9 := Lib.hid hb9
    have hx9 : x < w9.heap.size := Nat.lt_of_lt_of_le hxz hb9.size
    have ky0 : w9.cell? ⟨x, 0, none⟩ = some (.slice (some ⟨P, 0, none⟩) 160 cap) := (hb9.cell (p := ⟨x, 0, none⟩) hxz).trans kz0
    have hgn := (own_lt hvn).2
    clear hvn hb9
    simp only [outCells]
    go_wp2_with fail
    go_at_call 34
    have HF := fetch_one ((lines.take m).map (Bt.pg ps)) ps kp kc P cap gn cn l
    rw [HKL.out, HPS.out] at HF
    refine (HF _ ?hk1 ?hk2 ?hk3 rfl hl96.1 hl96.2 ?hk4 ?hk5 HNON.out (Bt.pg ps l) (HP96.out l hlmem)).mono ?_
    case hk1 => exact HKN.out.below (by have hb9 := HB9.out; exact qL)
    case hk2 => omega
    case hk3 => exact HPGz.out.below (by have hb9 := HB9.out; exact qL)
    case hk4 => exact own_cells (own_below HVN.out qL) 0 _ rfl
    case hk5 => first | omega | (simp; omega)
    rintro e10 w10 ⟨vo, rfl, hvo, hb10⟩
    obtain ⟨go, co, rfl⟩ := own_form hvo (by omega)
    have HVO := Lib.hid hvo
    have HB10 := Lib.hid hb10
    clear hvo hb10 HF
    go_wp2_with fail
    refine ⟨⟨m + 1, some ⟨go, 0, none⟩, co, hml, rfl, rfl, Lib.hid ?_, Lib.hid (by have hbm := HBM.out; have hb9 := HB9.out; have hb10 := HB10.out; exact qL)⟩, by simp [intOf]; omega⟩
    have e1 : (lines.take (m + 1)).map (Bt.pg ps) = (lines.take m).map (Bt.pg ps) ++ [Bt.pg ps l] := by
     rw [List.take_succ, HLM.out]
     simp
    have hln : ((lines.take m).map (Bt.pg ps) ++ [Bt.pg ps l]).length = m + 1 := by rw [List.length_append, HKL.out]; rfl
    rw [e1]
    have hr := HVO.out
    rw [← hln] at hr ⊢
    refine PgRow.of_own hr (fun p hp => ?_) (by rw [hln]; unfold maxLen; omega)
    rcases List.mem_append.1 hp with hp | hp
    · exact HKN.out.ok p hp
    · obtain rfl : p = Bt.pg ps l := by simpa using hp
      exact HPG.out.ok _ (List.mem_of_getElem? (HP96.out l hlmem))
  · obtain rfl : m = lines.length := by omega
    obtain ⟨o, A, B, hoc, hoh, hop, hab, hcall⟩ := HTR.out.over
    have HC : Hid (∀ w', Below wz.heap.size wz w' → Calls Tryz.prog 27 #[.agg (opCells (findOp k) (.slice none 0 0)), .slice kp lines.length kc] w' (NextPost [] o w')) := Lib.hid (fun w' hb => hcall kp lines.length kc w' (by have := HKN.out.below hb; rw [List.take_of_length_le (Nat.le_refl _)] at this; exact this) (HNOz.out.below hb))
    obtain ⟨M, hM⟩ : ∃ M, lines.length = M := ⟨_, rfl⟩
    rw [hM] at hab hm hml bm bm2 HC hsh ⊢
    clear hcall hml
    have wA : IntKind.i64.wrap (1 + (A : Int)) = 1 + (A : Int) := by rw [IntKind.wrap_i64]; omega
    have wB : IntKind.i64.wrap (1 + (A : Int) + (B : Int)) = (M : Int) := by rw [IntKind.wrap_i64]; omega
    clear hab hM
    unfold opCells findOp Bt.nilP at HC
    go_wp2_with fail
    go_at_call 25; refine (Key_any ask HAS.out _).mono ?_; rintro e0 w0 ⟨rfl, hw0⟩; obtain rfl := hw0.symm; clear hw0
    rw [HK0.out]
    go_wp2_with fail
    go_at_call 27; refine (HC.out _ qL).mono ?_
    rintro e9 w9 ⟨vw, ve, vc, rfl, hvw, hve, hvc, hb9⟩
    obtain ⟨CL, hCL⟩ : ∃ CL, o.check.length = CL := ⟨_, rfl⟩
    obtain ⟨EL, hEL⟩ : ∃ EL, o.entries.length = EL := ⟨_, rfl⟩
    rw [hCL] at hvc
    rw [hEL] at hve
    obtain ⟨pw, cw, rfl⟩ := own_shape hvw
    obtain ⟨pe, ce, rfl⟩ := own_shape hve
    obtain ⟨pc, cc, rfl⟩ := own_shape hvc
    have hsw : ∀ (a : Addr) (m : Mode) (wx : World), (store a (.slice pw 0 cw) m).run Tryz.prog wx = stored Tryz.prog wx a (.slice pw 0 cw) m := fun a m wx => run_store Tryz.prog wx a (.slice pw 0 cw) m (own_one hvw)
    have hse : ∀ (a : Addr) (m : Mode) (wx : World), (store a (.slice pe EL ce) m).run Tryz.prog wx = stored Tryz.prog wx a (.slice pe EL ce) m := fun a m wx => run_store Tryz.prog wx a (.slice pe EL ce) m (own_one hve)
    have hsc : ∀ (a : Addr) (m : Mode) (wx : World), (store a (.slice pc CL cc) m).run Tryz.prog wx = stored Tryz.prog wx a (.slice pc CL cc) m := fun a m wx => run_store Tryz.prog wx a (.slice pc CL cc) m (own_one hvc)
    have HB9 := Lib.hid hb9
    clear hvw hve hvc hb9 hCL hEL
    simp only [outCells]
    rw [hoc, hoh, hop]
    clear hoc hoh hop
    go_wp2_with fail
    refine bodyPost_ret (results_tmp rfl _ _ _) rfl ⟨?_, by have h1 := HB1.out; have h5 := HB5.out; have hm := HBM.out; have h9 := HB9.out; exact qL⟩
    simp
end Go.Proofs.YtjmpekanlmepmaaGreatDoor
