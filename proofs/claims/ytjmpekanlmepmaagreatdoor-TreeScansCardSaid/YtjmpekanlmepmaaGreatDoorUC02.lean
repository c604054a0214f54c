/- Package btree: a scan. (Printed by wip/scan_gen.py.) -/
import Derived.Test.YtjmpekanlmepmaaGreatDoorUC01
import Derived.Test.YtjmpekanlmepmaaGreatDoorB24
import Derived.Test.YtjmpekanlmepmaaGreatDoorB41
import Derived.Test.YtjmpekanlmepmaaGreatDoorB46
set_option linter.all false
namespace Go.Proofs.YtjmpekanlmepmaaGreatDoor
open Go.RowKit
theorem wrap_small (k : Nat) (h : k ≤ 1000) : IntKind.i64.wrap ((k : Int) + 1) = (k : Int) + 1 := by rw [IntKind.wrap_i64]; omega
theorem le_maxLen {n : Nat} (h : n ≤ 1001) : n ≤ maxLen := by unfold maxLen; omega
theorem intCells_append (a b : List Int) : intCells (a ++ b) = intCells a ++ intCells b := by simp [intCells]
set_option maxRecDepth 10000 in
set_option maxHeartbeats 2000000 in
theorem scan_root (A : Nat → Prop) (op : Bt.Op) (known : List Bt.Page) (vf vk : Value) (s : Bt.St) (b : Nat) (w : World) (h : IsRun A op known vf vk s b w) (hA : ∀ c, A c → c < w.heap.size) (hroot : s.root = Bt.nilP) (hrp : s.rootPage.Ok) (hlk : Bt.locked s.rootPage = false) :
 Calls Tryz.prog 54 #[.pointer (some ⟨b, 0, none⟩)] w (RunPost A op known vf vk (s.scan op known) b (.tuple #[]) w) := by
 have HX : Hid (s.scan op known = s.noTree 0) := Lib.hid (by simp [Bt.St.scan, hroot])
 have HR := Lib.hid h
 have HLK := Lib.hid hlk
 have hlt := h.lt
 have hlt1 : b < w.heap.size + 1 := by omega
 obtain ⟨vn, vw, ve, vc, hc⟩ := h.cells
 have k34 : w.cell? ⟨b, 34, none⟩ = some (.int .i64 s.root.line) := hc 34
 have k35 : w.cell? ⟨b, 35, none⟩ = some (.int .i64 s.root.gen) := hc 35
 have hp : peq s.root.line s.root.gen 0 0 = true := by rw [peq_nil]; simp [hroot]
 have eq := eql_ptr
 have hn : NoneAt w := by obtain ⟨vn, vw, ve, vc, hr, _⟩ := h; exact hr.none
 obtain ⟨g0, g1, gl⟩ := hn
 have gl1 : 0 < w.heap.size + 1 := by omega
 clear h hc hroot hlk
 go_enter Tryz.func54, Tryz.ntmps54
 go_wp2_with fail
 refine qA fun hSt => ?_
 refine qS [0, 1, 2, 3, 4, 5] ?_
 iterate 6 (refine qT ?_; simp only [Act.put, qY])
 refine TakeSeq.done ?_
 refine qD ?_ _
 go_wp2_with fail
 go_at_call 82; refine (noTree_any A op known vf vk s b 0 _ ?hrun ?hlow hrp HLK.out).mono ?_
 case hrun => exact HR.out.below qL
 case hlow => exact fun c hc => by have := hA c hc; simp; omega
 rintro e w1 ⟨rfl, hrun1, ho1⟩
 have HR1 := Lib.hid hrun1
 clear hrun1
 go_wp2_with fail
 refine bodyPost_end (results_none rfl _ _ _) rfl ⟨rfl, ?_, qV⟩
 rw [HX.out]
 exact HR1.out
set_option maxRecDepth 10000 in
set_option maxHeartbeats 40000000 in
theorem scan_walk (A : Nat → Prop) (op : Bt.Op) (known : List Bt.Page) (vf vk : Value) (s : Bt.St) (b : Nat) (t : Bt.St) (page : Bt.Page) (n : Bt.Node) (N : Nat) (r : Bt.St) (w : World) (h : IsRun A op known vf vk s b w) (hA : ∀ c, A c → c < w.heap.size) (hroot : s.root ≠ Bt.nilP)
 (hh0 : 0 ≤ s.out.hops ∧ s.out.hops ≤ 1000) (ht0 : 0 ≤ t.out.hops ∧ t.out.hops ≤ 1000) (hd : Bt.Dives known 0 op.key s t (.at_ page n)) (hN : N ≤ 256) (hs : Bt.Scans op known N t [] [] page n r) (hlim : 0 ≤ op.limit ∧ op.limit ≤ 1000) :
 Calls Tryz.prog 54 #[.pointer (some ⟨b, 0, none⟩)] w (RunPost A op known vf vk r b (.tuple #[]) w) := by
 obtain ⟨hkn, hps, hlev, hlk⟩ := Dives.ends hd
 have HK : Hid (∀ p ∈ known, p.Ok) := Lib.hid h.knownRow.ok
 have HV : Hid (page.Ok ∧ n.valid = true ∧ n = page.node) := Lib.hid ⟨h.knownRow.ok page hkn.1, (readNode_valid hkn.2.2).1, hkn.2.1⟩
 have HR := Lib.hid h
 have HD := Lib.hid hd
 have HS := Lib.hid hs
 have HAL := Lib.hid hA
 obtain ⟨i0, hi, hz0, hz1, hz2⟩ := info_parts infoInt'
 obtain ⟨i1, hi1, hz10, hz11, hz12⟩ := info_parts infoEntry
 have hlt := h.lt
 have hlt1 : b < w.heap.size + 1 := by omega
 obtain ⟨vn0, vw0, ve0, vc0, hc⟩ := h.cells
 have k34 : w.cell? ⟨b, 34, none⟩ = some (.int .i64 s.root.line) := hc 34
 have k35 : w.cell? ⟨b, 35, none⟩ = some (.int .i64 s.root.gen) := hc 35
 have hp : peq s.root.line s.root.gen 0 0 = false := by rw [peq_nil]; simp [hroot]
 have eq := eql_ptr
 have hn : NoneAt w := by obtain ⟨vn, vw, ve, vc, hr, _⟩ := h; exact hr.none
 obtain ⟨g0, g1, gl⟩ := hn
 have gl1 : 0 < w.heap.size + 1 := by omega
 clear h hc hroot hd hs hkn hps hlev hlk hA
 go_enter Tryz.func54, Tryz.ntmps54
 go_wp2_with fail
 refine qA fun hSt => ?_
 refine qS [0, 1, 2, 3, 4, 5] ?_
 iterate 6 (refine qT ?_; simp only [Act.put, qY])
 refine TakeSeq.done ?_
 refine qD ?_ _
 go_wp2_with fail
 go_at_call 83; refine (leaf_some A op known vf vk s b t page n _ ?hrun ?hlow hh0 HD.out).mono ?_
 case hrun => exact HR.out.below qL
 case hlow => exact fun c hc => by have := HAL.out c hc; simp; omega
 rintro e w1 ⟨hrun1, ho1, v, rfl, hown⟩
 have hb1 := hrun1.lt
 have hv1 : ∀ c, v.ownBlock = some c → c < w1.heap.size := fun c hc => own_lt' hown c hc
 have HR1 := Lib.hid hrun1
 have HOWN := Lib.hid hown
 have hsz : w.heap.size ≤ w1.heap.size := by have := World.grownBy.size ho1; simpa using this
 have HO1 := Lib.hid ho1
 clear hrun1 ho1 hown
 dsimp only
 iterate 13 go_step
 refine wpList_store_cut rfl 145 (.tmp 2) (.tmp 21) rfl (w1.heap.size) _ rfl rfl _ _ (Blk.made _ _ _) (by kernel_rfl) rfl (found_one (own_one HOWN.out)) (fun wx B_wx ho_wx hz_wx => ?_)
 simp only [Act.put, qY]
 have HAT : Hid (ScanAt A op known vf vk t b w1.heap.size page n v [] (.slice none 0 0) [] (.slice none 0 0) w wx) := Lib.hid (by
  have ho1 := HO1.out
  exact ⟨B_wx, own_new (own_below HOWN.out (below_alloc (Below.refl _ _) _)) ho_wx (fun e => by have := hv1 _ e; omega), (HR1.out.alloc _).grown ho_wx (by omega) (fun h1 => by have := HAL.out _ h1; omega), Over.new qV ho_wx hsz, World.ownsRow_nil _ _ _ _, World.ownsRow_nil _ _ _ _, (fun c hc => by cases hc), (fun c hc => by cases hc), fun e => by have := hv1 _ e; omega, hsz, hlt, HAL.out⟩)
 clear B_wx ho_wx hz_wx
 go_wp2_with fail
 go_loopg [4, 5, 6] N (fun N ve vc mv wr => ScanHead A op known vf vk r b w1.heap.size w N ve vc mv wr)
 case atStart =>
  exact ⟨t, page, n, v, [], [], 0, rfl, by omega, by omega, ht0.1, by omega, by simpa using hlim.1, by simp, HS, HAT, HV⟩
 case round =>
  obtain ⟨s1, p, m, u, acc, check, moves, rfl, hm0, hmN, hh1, hh2, hacc, hchk, HS1, HD, HV1⟩ := hrel
  clear HAT
  obtain ⟨pu, cu, rfl⟩ := own_shape HD.out.own
  have HC : Hid (foundCells p m (.slice pu m.entries.length cu) = #[.int .i64 p.line, .int .u64 p.head, .int .u64 p.d0, .int .u64 p.d1, .int .u64 p.d2, .int .u64 p.d3, .int .u64 p.d4, .int .u64 p.d5, .int .u64 p.d6,
   .int .i64 m.level, .bool m.leftmost, .bool m.dead, .int .u32 m.high, .int .i64 m.right.line, .int .i64 m.right.gen, .slice pu m.entries.length cu]) := Lib.hid rfl
  have kg := HD.out.blk.cell
  rw [HC.out] at kg
  have hgw : w1.heap.size < wr.heap.size := HD.out.blk.lt
  obtain ⟨un, uw, ue, uc, hc⟩ := HD.out.run.cells
  have hfb := HD.out.run.free
  have hbw : b < wr.heap.size := HD.out.run.lt
  have WM : Hid (wrap64 (moves + 1) = moves + 1) := Lib.hid (by unfold wrap64; omega)
  have WH : Hid (wrap64 (s1.out.hops + 1) = s1.out.hops + 1) := Lib.hid (by unfold wrap64; omega)
  have hm5 : m.entries.length ≤ 5 := (Bt.Node.valid_parts HV1.out.2.1).2.2.1
  have j1 : wr.cell? ⟨b, 1, none⟩ = some (.int .u32 op.key) := hc 1
  have j2 : wr.cell? ⟨b, 2, none⟩ = some (.int .u32 op.last) := hc 2
  have j6 : wr.cell? ⟨b, 6, none⟩ = some (.int .i64 op.limit) := hc 6
  have j16 : wr.cell? ⟨b, 16, none⟩ = some (.bool s1.out.dead) := hc 16
  have j17 : wr.cell? ⟨b, 17, none⟩ = some (.bool s1.out.more) := hc 17
  have j22 : wr.cell? ⟨b, 22, none⟩ = some (.int .i64 s1.out.hops) := hc 22
  clear hc
  rcases Scans.next HS1.out with ⟨hmd, hlk, hends, hr⟩ | ⟨N', p', n', hN', hlv, hlook, hlevel, hgo⟩
  · have HLK := Lib.hid hlk
    have HE := Lib.hid hends
    have HRR := Lib.hid hr
    clear hlk hends hr HS1
    obtain ⟨hh, hhe⟩ : ∃ hh, wr.heap.size = hh := ⟨_, rfl⟩
    have HHE := Lib.hid hhe
    clear hhe
    have hm1 := HD.out.copy
    rw [hmd] at hm1
    have HM1 := Lib.hid hm1
    clear hm1
    go_wp2_with fail
    have HMD := Lib.hid hmd
    clear hmd
    go_at_call 80; refine (Locked_any p HV1.out.1 _).mono ?_; rintro e w2 ⟨rfl, hb2⟩; rw [HLK.out]; ((obtain ⟨hc2, hf2, hs2⟩ := qR hb2); (try have := qN0 w w2); (try have := qN0 wr w2))
    have HM2 := Lib.hid (HM1.out.below hb2)
    clear HM1
    clear hb2
    have kg2 := HM2.out.at_.blk.cell
    rw [found_eq] at kg2
    have kn2 := HM2.out.nblk.cell
    have hlg2 := HM2.out.at_.blk.lt
    have hln2 := HM2.out.nblk.lt
    go_wp2_with (at_builtin; refine halt ?_)
    refine unhalt ?_
    refine wpList_append_own_at _ rfl (.tmp 35) (.tmp 39) 45 rfl w.heap.size 3 i0 _ 1 8 Tryz.underlying45 hi hz0 hz1 hz2 rfl (by decide) u5 check.length (intCells check) rfl (own_below HM2.out.at_.chk (below_alloc (Below.refl _ _) _)) ⟨w2.heap.size, 0, none⟩ 1 1
     [.int .i64 p.line] rfl rfl (one_news (u := .int .i64 p.line) ((Blk.made _ _ _).cell 0)) (by intro u hu; simp at hu; subst hu; rfl) (by unfold maxLen; omega) (by omega) (by simp; omega) ?_
    intro vc2 w3 hown3 hg3 _ hbk3
    have HM3 := Lib.hid ((HM2.out.below (below_alloc (Below.refl _ _) _)).line (check' := check ++ [p.line]) hg3 (by rw [show (check ++ [p.line]).length = check.length + 1 by simp, intCells_append]; exact hown3) hbk3)
    clear HM2 hown3 hg3 hbk3 kg2 kn2 hlg2 hln2 hc2 hf2
    have hsvc := qSt HM3.out.at_.chk
    have kn3 := HM3.out.nblk.cell
    have hln3 := HM3.out.nblk.lt
    go_wp2_with fail
    go_loopw [4, 44] (fun ve i wx => ScanIn A op known vf vk s1 b w1.heap.size wr.heap.size p m (.slice pu m.entries.length cu) acc (check ++ [p.line]) vc2 w ve i wx) (fun _ i _ => ((m.entries.length : Int) - intOf i).toNat)
    case atStart => exact ⟨0, acc, rfl, by omega, hacc, Lib.hid rfl, HM3⟩
    case round =>
     obtain ⟨k, ac, rfl, hk, hac, HTK, HM⟩ := hrel
     clear HM3 kn3 hln3
     by_cases hkl : k < m.entries.length
     · obtain ⟨gu, cu2, hpu⟩ := own_form HM.out.at_.own (by omega)
       simp only [Value.slice.injEq, true_and] at hpu
       obtain ⟨rfl, rfl⟩ := hpu
       obtain ⟨pe, ce, rfl⟩ := own_shape HM.out.at_.ents
       obtain ⟨e, he⟩ : ∃ e, m.entries[k] = e := ⟨_, rfl⟩
       have hcells : ∀ j u, (entCells m.entries)[j]? = some u → wr.cell? ⟨gu, j, none⟩ = some u := own_cells HM.out.at_.own
       have c0 : wr.cell? ⟨gu, k * 3, none⟩ = some (.int .u32 e.key) := by rw [← he]; exact hcells _ _ (entCells_get m.entries k m.entries[k] (List.getElem?_eq_getElem hkl) 0 _ rfl)
       have c1 : wr.cell? ⟨gu, k * 3 + 1, none⟩ = some (.int .i64 e.to.line) := by rw [← he]; exact hcells _ _ (entCells_get m.entries k m.entries[k] (List.getElem?_eq_getElem hkl) 1 _ rfl)
       have c2 : wr.cell? ⟨gu, k * 3 + 2, none⟩ = some (.int .i64 e.to.gen) := by rw [← he]; exact hcells _ _ (entCells_get m.entries k m.entries[k] (List.getElem?_eq_getElem hkl) 2 _ rfl)
       have hgu : gu < wr.heap.size := (own_lt HM.out.at_.own).2
       have HST : Hid (Bt.scanTake op.key op.last op.limit ac (m.entries.drop k) = if op.key ≤ e.key ∧ e.key ≤ op.last ∧ (ac.length : Int) < op.limit then Bt.scanTake op.key op.last op.limit (ac ++ [e]) (m.entries.drop (k + 1)) else Bt.scanTake op.key op.last op.limit ac (m.entries.drop (k + 1))) := Lib.hid (by rw [List.drop_eq_getElem_cons hkl, he]; rfl)
       obtain ⟨xn, xw, xe, xc, hc⟩ := HM.out.at_.run.cells
       have hbr : b < wr.heap.size := HM.out.at_.run.lt
       have l1 : wr.cell? ⟨b, 1, none⟩ = some (.int .u32 op.key) := hc 1
       have l2 : wr.cell? ⟨b, 2, none⟩ = some (.int .u32 op.last) := hc 2
       have l6 : wr.cell? ⟨b, 6, none⟩ = some (.int .i64 op.limit) := hc 6
       have bk : decide ((k : Int) < m.entries.length) = true := by simp; omega
       have bk0 : (0 : Int) ≤ k := by omega
       have bk1 : (k : Int) < m.entries.length := by omega
       have hk1 : k + 1 ≤ m.entries.length := hkl
       have hac1 : ∀ q3 : (ac.length : Int) < op.limit, ((ac ++ [e]).length : Int) ≤ op.limit := fun q3 => by simp; omega
       have hmeas : ((m.entries.length : Int) - intOf (.int .i64 ((k : Int) + 1))).toNat < ((m.entries.length : Int) - intOf (.int .i64 (k : Int))).toNat := by simp only [intOf]; omega
       have hw0 : w.heap.size ≤ wr.heap.size + 2 := by have := HM.out.at_.over.size; omega
       have hacl : ac.length + 1 ≤ 1001 := by omega
       clear hc hcells he
       have wk : IntKind.i64.wrap ((k : Int) + 1) = (k : Int) + 1 := wrap_small k (by omega)
       have skip : ∀ wx, Below wr.heap.size wr wx → ¬ (op.key ≤ e.key ∧ e.key ≤ op.last ∧ (ac.length : Int) < op.limit) → ScanIn A op known vf vk s1 b w1.heap.size _ p m (.slice (some ⟨gu, 0, none⟩) m.entries.length cu) acc (check ++ [p.line]) vc2 w (.slice pe ac.length ce) (.int .i64 ((k : Int) + 1)) wx :=
        fun wx hb hq => ⟨k + 1, ac, by rw [show ((k + 1 : Nat) : Int) = (k : Int) + 1 from rfl], hk1, hac, Lib.hid (by rw [HTK.out, HST.out, if_neg hq]), Lib.hid (HM.out.below hb)⟩
       have SKIP := Lib.hid skip
       clear skip
       by_cases q1 : op.key ≤ e.key
       · have d1 : decide (op.key ≤ e.key) = true := decide_eq_true q1
         by_cases q2 : e.key ≤ op.last
         · have d2 : decide (e.key ≤ op.last) = true := decide_eq_true q2
           by_cases q3 : (ac.length : Int) < op.limit
           · have d3 : decide ((ac.length : Int) < op.limit) = true := decide_eq_true q3
             go_wp2_with fail
             refine qA fun hSt => ?_
             refine qS [0, 1, 2, 3, 4, 5, 6, 7, 8, 9, 10, 11, 12, 13, 14, 15, 16, 17, 18, 19, 20, 21, 22, 23, 24, 25, 26, 27] ?_
             iterate 28 (refine qT ?_; simp only [Act.put, qY])
             refine TakeSeq.done ?_
             refine qD ?_ _
             go_wp2_with (at_builtin; refine halt ?_)
             refine unhalt ?_
             refine wpList_append_own_at _ rfl (.tmp 76) (.tmp 78) 61 rfl w.heap.size 69 i1 _ 3 24 Tryz.underlying61 hi1 hz10 hz11 hz12 rfl (by decide) (.slice pe ac.length ce) ac.length (entCells ac) rfl (own_below HM.out.at_.ents qL) ⟨wr.heap.size + 1, 0, none⟩ 1 1
              [.int .u32 e.key, .int .i64 e.to.line, .int .i64 e.to.gen] rfl rfl (three_news (by simp) (by simp) (by simp)) (by intro u hu; simp at hu; rcases hu with rfl | rfl | rfl <;> rfl) (le_maxLen hacl) (Nat.le_trans (Nat.mul_le_mul_right 24 hacl) (by decide)) (by simpa using hw0) ?_
             intro ve2 w4 hown4 hg4 _ hbk4
             have HM4 := Lib.hid ((HM.out.below (show Below wr.heap.size wr _ from qL)).entry (acc' := ac ++ [e]) hg4 (by rw [show (ac ++ [e]).length = ac.length + 1 by simp, entCells_append]; exact hown4) hbk4)
             clear hown4 hg4 hbk4
             go_wp2_with fail
             refine ⟨⟨k + 1, ac ++ [e], by rw [show ((k + 1 : Nat) : Int) = (k : Int) + 1 from rfl], hk1, hac1 q3, Lib.hid (by rw [HTK.out, HST.out, if_pos ⟨q1, q2, q3⟩]), HM4⟩, hmeas⟩
           · have d3 : decide ((ac.length : Int) < op.limit) = false := decide_eq_false q3
             go_wp2_with fail
             refine qA fun hSt => ?_
             refine qS [0, 1, 2, 3, 4, 5, 6, 7, 8, 9, 10, 11, 12, 13, 14, 15, 16, 17, 18, 19, 20, 21, 22, 23, 24, 25, 26, 27] ?_
             iterate 28 (refine qT ?_; simp only [Act.put, qY])
             refine TakeSeq.done ?_
             refine qD ?_ _
             go_wp2_with fail
             exact ⟨SKIP.out _ qL (fun h => by have := h.2.2; omega), hmeas⟩
         · have d2 : decide (e.key ≤ op.last) = false := decide_eq_false q2
           go_wp2_with fail
           refine qA fun hSt => ?_
           refine qS [0, 1, 2, 3, 4, 5, 6, 7, 8, 9, 10, 11, 12, 13, 14, 15, 16, 17, 18, 19, 20, 21, 22, 23, 24, 25, 26, 27] ?_
           iterate 28 (refine qT ?_; simp only [Act.put, qY])
           refine TakeSeq.done ?_
           refine qD ?_ _
           go_wp2_with fail
           exact ⟨SKIP.out _ qL (fun h => by have := h.2.1; omega), hmeas⟩
       · have d1 : decide (op.key ≤ e.key) = false := decide_eq_false q1
         go_wp2_with fail
         refine qA fun hSt => ?_
         refine qS [0, 1, 2, 3, 4, 5, 6, 7, 8, 9, 10, 11, 12, 13, 14, 15, 16, 17, 18, 19, 20, 21, 22, 23, 24, 25, 26, 27] ?_
         iterate 28 (refine qT ?_; simp only [Act.put, qY])
         refine TakeSeq.done ?_
         refine qD ?_ _
         go_wp2_with fail
         exact ⟨SKIP.out _ qL (fun h => by have := h.1; omega), hmeas⟩
     · have hkk : k = m.entries.length := by omega
       have bk : decide ((k : Int) < m.entries.length) = false := by simp; omega
       have HAC : Hid (ac = Bt.scanTake op.key op.last op.limit acc m.entries) := Lib.hid (by rw [HTK.out, hkk, List.drop_length]; rfl)
       clear HTK hkk
       obtain ⟨pe, ce, rfl⟩ := own_shape HM.out.at_.ents
       obtain ⟨xn, xw, xe, xc, hc⟩ := HM.out.at_.run.cells
       have hbr : b < wr.heap.size := HM.out.at_.run.lt
       have hfr := HM.out.at_.run.free
       have l2 : wr.cell? ⟨b, 2, none⟩ = some (.int .u32 op.last) := hc 2
       have l6 : wr.cell? ⟨b, 6, none⟩ = some (.int .i64 op.limit) := hc 6
       have l16 : wr.cell? ⟨b, 16, none⟩ = some (.bool s1.out.dead) := hc 16
       have l17 : wr.cell? ⟨b, 17, none⟩ = some (.bool s1.out.more) := hc 17
       have l20 : wr.cell? ⟨b, 20, none⟩ = some xe := hc 20
       have l22 : wr.cell? ⟨b, 22, none⟩ = some (.int .i64 s1.out.hops) := hc 22
       have kn4 := HM.out.nblk.cell
       have hln4 := HM.out.nblk.lt
       clear hc
       by_cases hmb : (ac.length : Int) = op.limit
       · have mb : ((ac.length : Int) == op.limit) = true := by simp [hmb]
         have HMB : Hid (decide ((ac.length : Int) = op.limit) = true) := Lib.hid (decide_eq_true hmb)
         clear hmb
         have HF := Lib.hid (HM.out.field (s' := { s1 with out := { s1.out with more := true } }) 17 (.bool true) (HM.out.at_.run.field 17 _ (fun _ _ _ _ => rfl)))
         go_wp2_with fail
         refine qA fun hSt => ?_
         refine qS [0, 1, 2, 3, 4, 5, 6, 7, 8, 9, 10, 11, 12, 13, 14] ?_
         iterate 15 (refine qT ?_; simp only [Act.put, qY])
         refine TakeSeq.done ?_
         refine qD ?_ _
         go_wp2_with fail
         obtain ⟨gc, cc, rfl⟩ := own_form HM.out.at_.chk (by simp)
         have HFD := Lib.hid (HF.out.below (Below.refl _ _).drew)
         go_at_call 81; refine (fail_lines (fun c => A c ∨ (Value.slice pe ac.length ce).ownBlock = some c) op known vf vk ({ s1 with out := { s1.out with more := true, entries := ac } } : Bt.St) b gc (check ++ [p.line]).length cc (check ++ [p.line]) 0 _ ?hrun ?hq rfl ?hs ?hg).mono ?_
         case hrun => exact HFD.out.at_.run.setEnts (own_base HFD.out.at_.ents (by have := HFD.out.at_.bl; omega)) (fun c h => .inl h) (fun c h => .inr h)
         case hq => exact own_set (own_base HFD.out.at_.chk (by have := HFD.out.at_.bl; omega)) (own_not HFD.out.at_.chk (by have := HFD.out.at_.bl; omega)) _
         case hs => simp; omega
         case hg =>
          rintro (h1 | h1)
          · have := HFD.out.at_.al _ h1
            have := own_row_ge HFD.out.at_.chk gc rfl
            omega
          · exact (HFD.out.at_.a1 _ h1).2.2 rfl
         rintro e w5 ⟨rfl, hrun5, ho5⟩
         have HR5 := Lib.hid hrun5
         have HO5 := Lib.hid ho5
         clear hrun5 ho5
         go_wp2_with fail
         refine bodyPost_end (results_none rfl _ _ _) rfl ⟨rfl, ?_, Over.two (HFD.out.at_.over.put 20 _) HO5.out (own_row_ge HFD.out.at_.chk gc rfl)⟩
         have hrr : r = ({ s1 with out := { s1.out with more := true, entries := ac } } : Bt.St).fail 0 (check ++ [p.line]) := by
          rw [HRR.out]
          simp only [Bt.scanSt, Bt.scanAcc, Bt.scanChk, HMD.out, Bool.false_eq_true, if_false]
          rw [← HAC.out, HMB.out]
         rw [hrr]
         refine HR5.out.imp (fun c hc => ?_)
         rcases hc with (h1 | h1) | h1
         · exact .inl h1
         · exact .inr (own_row_ge HFD.out.at_.ents c h1)
         · exact .inr (by rw [h1]; exact own_row_ge HFD.out.at_.chk gc rfl)
       · have mb : ((ac.length : Int) == op.limit) = false := by simp [hmb]
         have HMB : Hid (decide ((ac.length : Int) = op.limit) = false) := Lib.hid (decide_eq_false hmb)
         have bh : decide (op.last ≤ m.high) = true := decide_eq_true (by
          have he := HE.out
          unfold Bt.scanEnds at he
          rw [← HAC.out] at he
          exact he.resolve_left hmb)
         clear hmb
         have HF := Lib.hid (HM.out.field (s' := { s1 with out := { s1.out with more := false } }) 17 (.bool false) (HM.out.at_.run.field 17 _ (fun _ _ _ _ => rfl)))
         go_wp2_with fail
         refine qA fun hSt => ?_
         refine qS [0, 1, 2, 3, 4, 5, 6, 7, 8, 9, 10, 11, 12, 13, 14] ?_
         iterate 15 (refine qT ?_; simp only [Act.put, qY])
         refine TakeSeq.done ?_
         refine qD ?_ _
         go_wp2_with fail
         obtain ⟨gc, cc, rfl⟩ := own_form HM.out.at_.chk (by simp)
         have HFD := Lib.hid (HF.out.below (Below.refl _ _).drew)
         go_at_call 81; refine (fail_lines (fun c => A c ∨ (Value.slice pe ac.length ce).ownBlock = some c) op known vf vk ({ s1 with out := { s1.out with more := false, entries := ac } } : Bt.St) b gc (check ++ [p.line]).length cc (check ++ [p.line]) 0 _ ?hrun ?hq rfl ?hs ?hg).mono ?_
         case hrun => exact HFD.out.at_.run.setEnts (own_base HFD.out.at_.ents (by have := HFD.out.at_.bl; omega)) (fun c h => .inl h) (fun c h => .inr h)
         case hq => exact own_set (own_base HFD.out.at_.chk (by have := HFD.out.at_.bl; omega)) (own_not HFD.out.at_.chk (by have := HFD.out.at_.bl; omega)) _
         case hs => simp; omega
         case hg =>
          rintro (h1 | h1)
          · have := HFD.out.at_.al _ h1
            have := own_row_ge HFD.out.at_.chk gc rfl
            omega
          · exact (HFD.out.at_.a1 _ h1).2.2 rfl
         rintro e w5 ⟨rfl, hrun5, ho5⟩
         have HR5 := Lib.hid hrun5
         have HO5 := Lib.hid ho5
         clear hrun5 ho5
         go_wp2_with fail
         refine bodyPost_end (results_none rfl _ _ _) rfl ⟨rfl, ?_, Over.two (HFD.out.at_.over.put 20 _) HO5.out (own_row_ge HFD.out.at_.chk gc rfl)⟩
         have hrr : r = ({ s1 with out := { s1.out with more := false, entries := ac } } : Bt.St).fail 0 (check ++ [p.line]) := by
          rw [HRR.out]
          simp only [Bt.scanSt, Bt.scanAcc, Bt.scanChk, HMD.out, Bool.false_eq_true, if_false]
          rw [← HAC.out, HMB.out]
         rw [hrr]
         refine HR5.out.imp (fun c hc => ?_)
         rcases hc with (h1 | h1) | h1
         · exact .inl h1
         · exact .inr (own_row_ge HFD.out.at_.ents c h1)
         · exact .inr (by rw [h1]; exact own_row_ge HFD.out.at_.chk gc rfl)
  · have HNX := Lib.hid (And.intro hN' (And.intro hlook (And.intro hlevel hgo)))
    have bmv : decide (256 < moves + 1) = false := decide_eq_false (by omega)
    clear hN' hlook hlevel hgo
    rcases hmd : m.dead with _ | _
    · have HLK := Lib.hid (hlv hmd).1
      have HE := Lib.hid (hlv hmd).2
      clear hlv HS1
      obtain ⟨hh, hhe⟩ : ∃ hh, wr.heap.size = hh := ⟨_, rfl⟩
      have HHE := Lib.hid hhe
      clear hhe
      have hm1 := HD.out.copy
      rw [hmd] at hm1
      have HM1 := Lib.hid hm1
      clear hm1
      go_wp2_with fail
      have HMD := Lib.hid hmd
      clear hmd
      go_at_call 80; refine (Locked_any p HV1.out.1 _).mono ?_; rintro e w2 ⟨rfl, hb2⟩; rw [HLK.out]; ((obtain ⟨hc2, hf2, hs2⟩ := qR hb2); (try have := qN0 w w2); (try have := qN0 wr w2))
      have HM2 := Lib.hid (HM1.out.below hb2)
      clear HM1
      clear hb2
      have kg2 := HM2.out.at_.blk.cell
      rw [found_eq] at kg2
      have kn2 := HM2.out.nblk.cell
      have hlg2 := HM2.out.at_.blk.lt
      have hln2 := HM2.out.nblk.lt
      go_wp2_with (at_builtin; refine halt ?_)
      refine unhalt ?_
      refine wpList_append_own_at _ rfl (.tmp 35) (.tmp 39) 45 rfl w.heap.size 3 i0 _ 1 8 Tryz.underlying45 hi hz0 hz1 hz2 rfl (by decide) u5 check.length (intCells check) rfl (own_below HM2.out.at_.chk (below_alloc (Below.refl _ _) _)) ⟨w2.heap.size, 0, none⟩ 1 1
       [.int .i64 p.line] rfl rfl (one_news (u := .int .i64 p.line) ((Blk.made _ _ _).cell 0)) (by intro u hu; simp at hu; subst hu; rfl) (by unfold maxLen; omega) (by omega) (by simp; omega) ?_
      intro vc2 w3 hown3 hg3 _ hbk3
      have HM3 := Lib.hid ((HM2.out.below (below_alloc (Below.refl _ _) _)).line (check' := check ++ [p.line]) hg3 (by rw [show (check ++ [p.line]).length = check.length + 1 by simp, intCells_append]; exact hown3) hbk3)
      clear HM2 hown3 hg3 hbk3 kg2 kn2 hlg2 hln2 hc2 hf2
      have hsvc := qSt HM3.out.at_.chk
      have kn3 := HM3.out.nblk.cell
      have hln3 := HM3.out.nblk.lt
      go_wp2_with fail
      go_loopw [4, 44] (fun ve i wx => ScanIn A op known vf vk s1 b w1.heap.size wr.heap.size p m (.slice pu m.entries.length cu) acc (check ++ [p.line]) vc2 w ve i wx) (fun _ i _ => ((m.entries.length : Int) - intOf i).toNat)
      case atStart => exact ⟨0, acc, rfl, by omega, hacc, Lib.hid rfl, HM3⟩
      case round =>
       obtain ⟨k, ac, rfl, hk, hac, HTK, HM⟩ := hrel
       clear HM3 kn3 hln3
       by_cases hkl : k < m.entries.length
       · obtain ⟨gu, cu2, hpu⟩ := own_form HM.out.at_.own (by omega)
         simp only [Value.slice.injEq, true_and] at hpu
         obtain ⟨rfl, rfl⟩ := hpu
         obtain ⟨pe, ce, rfl⟩ := own_shape HM.out.at_.ents
         obtain ⟨e, he⟩ : ∃ e, m.entries[k] = e := ⟨_, rfl⟩
         have hcells : ∀ j u, (entCells m.entries)[j]? = some u → wr.cell? ⟨gu, j, none⟩ = some u := own_cells HM.out.at_.own
         have c0 : wr.cell? ⟨gu, k * 3, none⟩ = some (.int .u32 e.key) := by rw [← he]; exact hcells _ _ (entCells_get m.entries k m.entries[k] (List.getElem?_eq_getElem hkl) 0 _ rfl)
         have c1 : wr.cell? ⟨gu, k * 3 + 1, none⟩ = some (.int .i64 e.to.line) := by rw [← he]; exact hcells _ _ (entCells_get m.entries k m.entries[k] (List.getElem?_eq_getElem hkl) 1 _ rfl)
         have c2 : wr.cell? ⟨gu, k * 3 + 2, none⟩ = some (.int .i64 e.to.gen) := by rw [← he]; exact hcells _ _ (entCells_get m.entries k m.entries[k] (List.getElem?_eq_getElem hkl) 2 _ rfl)
         have hgu : gu < wr.heap.size := (own_lt HM.out.at_.own).2
         have HST : Hid (Bt.scanTake op.key op.last op.limit ac (m.entries.drop k) = if op.key ≤ e.key ∧ e.key ≤ op.last ∧ (ac.length : Int) < op.limit then Bt.scanTake op.key op.last op.limit (ac ++ [e]) (m.entries.drop (k + 1)) else Bt.scanTake op.key op.last op.limit ac (m.entries.drop (k + 1))) := Lib.hid (by rw [List.drop_eq_getElem_cons hkl, he]; rfl)
         obtain ⟨xn, xw, xe, xc, hc⟩ := HM.out.at_.run.cells
         have hbr : b < wr.heap.size := HM.out.at_.run.lt
         have l1 : wr.cell? ⟨b, 1, none⟩ = some (.int .u32 op.key) := hc 1
         have l2 : wr.cell? ⟨b, 2, none⟩ = some (.int .u32 op.last) := hc 2
         have l6 : wr.cell? ⟨b, 6, none⟩ = some (.int .i64 op.limit) := hc 6
         have bk : decide ((k : Int) < m.entries.length) = true := by simp; omega
         have bk0 : (0 : Int) ≤ k := by omega
         have bk1 : (k : Int) < m.entries.length := by omega
         have hk1 : k + 1 ≤ m.entries.length := hkl
         have hac1 : ∀ q3 : (ac.length : Int) < op.limit, ((ac ++ [e]).length : Int) ≤ op.limit := fun q3 => by simp; omega
         have hmeas : ((m.entries.length : Int) - intOf (.int .i64 ((k : Int) + 1))).toNat < ((m.entries.length : Int) - intOf (.int .i64 (k : Int))).toNat := by simp only [intOf]; omega
         have hw0 : w.heap.size ≤ wr.heap.size + 2 := by have := HM.out.at_.over.size; omega
         have hacl : ac.length + 1 ≤ 1001 := by omega
         clear hc hcells he
         have wk : IntKind.i64.wrap ((k : Int) + 1) = (k : Int) + 1 := wrap_small k (by omega)
         have skip : ∀ wx, Below wr.heap.size wr wx → ¬ (op.key ≤ e.key ∧ e.key ≤ op.last ∧ (ac.length : Int) < op.limit) → ScanIn A op known vf vk s1 b w1.heap.size _ p m (.slice (some ⟨gu, 0, none⟩) m.entries.length cu) acc (check ++ [p.line]) vc2 w (.slice pe ac.length ce) (.int .i64 ((k : Int) + 1)) wx :=
          fun wx hb hq => ⟨k + 1, ac, by rw [show ((k + 1 : Nat) : Int) = (k : Int) + 1 from rfl], hk1, hac, Lib.hid (by rw [HTK.out, HST.out, if_neg hq]), Lib.hid (HM.out.below hb)⟩
         have SKIP := Lib.hid skip
         clear skip
         by_cases q1 : op.key ≤ e.key
         · have d1 : decide (op.key ≤ e.key) = true := decide_eq_true q1
           by_cases q2 : e.key ≤ op.last
           · have d2 : decide (e.key ≤ op.last) = true := decide_eq_true q2
             by_cases q3 : (ac.length : Int) < op.limit
             · have d3 : decide ((ac.length : Int) < op.limit) = true := decide_eq_true q3
               go_wp2_with fail
               refine qA fun hSt => ?_
               refine qS [0, 1, 2, 3, 4, 5, 6, 7, 8, 9, 10, 11, 12, 13, 14, 15, 16, 17, 18, 19, 20, 21, 22, 23, 24, 25, 26, 27] ?_
               iterate 28 (refine qT ?_; simp only [Act.put, qY])
               refine TakeSeq.done ?_
               refine qD ?_ _
               go_wp2_with (at_builtin; refine halt ?_)
               refine unhalt ?_
               refine wpList_append_own_at _ rfl (.tmp 76) (.tmp 78) 61 rfl w.heap.size 69 i1 _ 3 24 Tryz.underlying61 hi1 hz10 hz11 hz12 rfl (by decide) (.slice pe ac.length ce) ac.length (entCells ac) rfl (own_below HM.out.at_.ents qL) ⟨wr.heap.size + 1, 0, none⟩ 1 1
                [.int .u32 e.key, .int .i64 e.to.line, .int .i64 e.to.gen] rfl rfl (three_news (by simp) (by simp) (by simp)) (by intro u hu; simp at hu; rcases hu with rfl | rfl | rfl <;> rfl) (le_maxLen hacl) (Nat.le_trans (Nat.mul_le_mul_right 24 hacl) (by decide)) (by simpa using hw0) ?_
               intro ve2 w4 hown4 hg4 _ hbk4
               have HM4 := Lib.hid ((HM.out.below (show Below wr.heap.size wr _ from qL)).entry (acc' := ac ++ [e]) hg4 (by rw [show (ac ++ [e]).length = ac.length + 1 by simp, entCells_append]; exact hown4) hbk4)
               clear hown4 hg4 hbk4
               go_wp2_with fail
               refine ⟨⟨k + 1, ac ++ [e], by rw [show ((k + 1 : Nat) : Int) = (k : Int) + 1 from rfl], hk1, hac1 q3, Lib.hid (by rw [HTK.out, HST.out, if_pos ⟨q1, q2, q3⟩]), HM4⟩, hmeas⟩
             · have d3 : decide ((ac.length : Int) < op.limit) = false := decide_eq_false q3
               go_wp2_with fail
               refine qA fun hSt => ?_
               refine qS [0, 1, 2, 3, 4, 5, 6, 7, 8, 9, 10, 11, 12, 13, 14, 15, 16, 17, 18, 19, 20, 21, 22, 23, 24, 25, 26, 27] ?_
               iterate 28 (refine qT ?_; simp only [Act.put, qY])
               refine TakeSeq.done ?_
               refine qD ?_ _
               go_wp2_with fail
               exact ⟨SKIP.out _ qL (fun h => by have := h.2.2; omega), hmeas⟩
           · have d2 : decide (e.key ≤ op.last) = false := decide_eq_false q2
             go_wp2_with fail
             refine qA fun hSt => ?_
             refine qS [0, 1, 2, 3, 4, 5, 6, 7, 8, 9, 10, 11, 12, 13, 14, 15, 16, 17, 18, 19, 20, 21, 22, 23, 24, 25, 26, 27] ?_
             iterate 28 (refine qT ?_; simp only [Act.put, qY])
             refine TakeSeq.done ?_
             refine qD ?_ _
             go_wp2_with fail
             exact ⟨SKIP.out _ qL (fun h => by have := h.2.1; omega), hmeas⟩
         · have d1 : decide (op.key ≤ e.key) = false := decide_eq_false q1
           go_wp2_with fail
           refine qA fun hSt => ?_
           refine qS [0, 1, 2, 3, 4, 5, 6, 7, 8, 9, 10, 11, 12, 13, 14, 15, 16, 17, 18, 19, 20, 21, 22, 23, 24, 25, 26, 27] ?_
           iterate 28 (refine qT ?_; simp only [Act.put, qY])
           refine TakeSeq.done ?_
           refine qD ?_ _
           go_wp2_with fail
           exact ⟨SKIP.out _ qL (fun h => by have := h.1; omega), hmeas⟩
       · have hkk : k = m.entries.length := by omega
         have bk : decide ((k : Int) < m.entries.length) = false := by simp; omega
         have HAC : Hid (ac = Bt.scanTake op.key op.last op.limit acc m.entries) := Lib.hid (by rw [HTK.out, hkk, List.drop_length]; rfl)
         clear HTK hkk
         rw [HHE.out] at HM ⊢
         obtain ⟨pe, ce, rfl⟩ := own_shape HM.out.at_.ents
         obtain ⟨xn, xw, xe, xc, hc⟩ := HM.out.at_.run.cells
         have hbr : b < wr.heap.size := HM.out.at_.run.lt
         have hfr := HM.out.at_.run.free
         have l2 : wr.cell? ⟨b, 2, none⟩ = some (.int .u32 op.last) := hc 2
         have l6 : wr.cell? ⟨b, 6, none⟩ = some (.int .i64 op.limit) := hc 6
         have l16 : wr.cell? ⟨b, 16, none⟩ = some (.bool s1.out.dead) := hc 16
         have l17 : wr.cell? ⟨b, 17, none⟩ = some (.bool s1.out.more) := hc 17
         have l20 : wr.cell? ⟨b, 20, none⟩ = some xe := hc 20
         have l22 : wr.cell? ⟨b, 22, none⟩ = some (.int .i64 s1.out.hops) := hc 22
         have kn4 := HM.out.nblk.cell
         have hln4 := HM.out.nblk.lt
         clear hc
         have HNE := HE
         have hne1 : (ac.length : Int) ≠ op.limit := by
          have he := HE.out
          unfold Bt.scanEnds at he
          rw [← HAC.out] at he
          exact fun e => he (.inl e)
         have mb : ((ac.length : Int) == op.limit) = false := by simp [hne1]
         have HMB : Hid (decide ((ac.length : Int) = op.limit) = false) := Lib.hid (decide_eq_false hne1)
         have bh : decide (op.last ≤ m.high) = false := decide_eq_false (by
          have he := HE.out
          unfold Bt.scanEnds at he
          exact fun e => he (.inr e))
         clear hne1
         have HF := Lib.hid (HM.out.field (s' := { s1 with out := { s1.out with more := false } }) 17 (.bool false) (HM.out.at_.run.field 17 _ (fun _ _ _ _ => rfl)))
         go_wp2_with fail
         refine qA fun hSt => ?_
         refine qS [0, 1, 2, 3, 4, 5, 6, 7, 8, 9, 10, 11, 12, 13, 14] ?_
         iterate 15 (refine qT ?_; simp only [Act.put, qY])
         refine TakeSeq.done ?_
         refine qD ?_ _
         have f1 := HF.out.field (s' := { s1 with out := { s1.out with more := false, hops := s1.out.hops + 1 } }) 22 (.int .i64 (s1.out.hops + 1)) (HF.out.at_.run.field 22 _ (fun _ _ _ _ => rfl))
         have f2 := f1.field (s' := Bt.St.hop2 { s1 with out := { s1.out with more := false } } m) 16 (.bool (s1.out.dead || m.dead)) (f1.at_.run.field 16 _ (fun _ _ _ _ => rfl))
         have HQ := Lib.hid (f2.below (Below.refl _ _).drew)
         have wh := WH.out
         clear f1 f2
         go_upto_region 21 with (fail)
         go_cut [] from 25 to 143 (fun wx => Hid (ScanMid A op known vf vk (Bt.St.hop2 ({ s1 with out := { s1.out with more := false } } : Bt.St) m) b w1.heap.size hh p m (.slice pu m.entries.length cu) ac (.slice pe ac.length ce) (check ++ [p.line]) vc2 w wx))
         case first =>
          have hq := HQ.out
          rcases hsd : s1.out.dead with _ | _
          · go_wp2_with fail
            go_meet
            have e9 : (s1.out.dead || m.dead) = m.dead := by rw [hsd]; rfl
            rw [e9] at hq
            try simp only [size_setCell, size_drew] at hq
            exact Lib.hid hq
          · go_wp2_with fail
            go_meet
            have e9 : (s1.out.dead || m.dead) = true := by rw [hsd]; rfl
            rw [e9] at hq
            try simp only [size_setCell, size_drew] at hq
            exact Lib.hid hq
         case rest =>
          have HMC := hcut
          clear hcut HQ
          skip
          have kn5 := HMC.out.nblk.cell
          have hln5 := HMC.out.nblk.lt
          have wm := WM.out
          go_wp2_with fail
          go_at_call 89; refine (neighbour_got A op known vf vk (Bt.St.hop2 ({ s1 with out := { s1.out with more := false } } : Bt.St) m) (Bt.St.hop2 ({ s1 with out := { s1.out with more := false } } : Bt.St) m, some (p', n')) b m (.slice pu m.entries.length cu) _ HMC.out.at_.run ?hlow ?hlk (fun _ => HNX.out.2.2.1)).mono ?_
          case hlow => exact fun c hc => Nat.lt_of_lt_of_le (HMC.out.at_.al c hc) HMC.out.at_.over.size
          case hlk =>
           have hk := HNX.out.2.1
           simp only [Bt.scanSt, HMD.out, Bool.false_eq_true, if_false] at hk
           rw [← HAC.out, HMB.out] at hk
           exact hk
          rintro e w6 ⟨hrun6, ho6, u6, rfl, hown6⟩
          have HR6 := Lib.hid hrun6
          have HOWN6 := Lib.hid hown6
          have BF := HMC.out.at_.blk.grown ho6 (by have := HMC.out.at_.bl; have := HMC.out.at_.gl; simp; omega)
          have HO6 := Lib.hid ho6
          clear hrun6 hown6 ho6
          dsimp only
          iterate 10 go_step
          refine wpList_store_cut rfl 145 (.tmp 2) (.tmp 140) rfl (w1.heap.size) _ rfl rfl _ _ BF (by kernel_rfl) rfl (found_one (own_one HOWN6.out)) (fun wy B_wy ho_wy hz_wy => ?_)
          simp only [Act.put, qY]
          have HY := Lib.hid (HMC.out.next HO6.out HR6.out HOWN6.out B_wy ho_wy)
          clear BF B_wy ho_wy hz_wy
          go_wp2_with fail
          obtain ⟨hN', hlook, hlevel, hgo⟩ := HNX.out
          go_roundg N'
          case measure => omega
          case rel =>
           refine ⟨Bt.St.hop2 ({ s1 with out := { s1.out with more := false } } : Bt.St) m, p', n', u6, ac, (check ++ [p.line]), moves + 1, rfl, by omega, by omega, by show 0 ≤ s1.out.hops + 1; omega, by show s1.out.hops + 1 ≤ 1000 + (moves + 1); omega, hac, by simp; omega, Lib.hid ?_, HY, Lib.hid ⟨HK.out _ (look_known hlook).1, look_valid hlook, (look_known hlook).2.2.1⟩⟩
           simp only [Bt.scanSt, Bt.scanAcc, Bt.scanChk, HMD.out, Bool.false_eq_true, if_false] at hgo
           rw [← HAC.out, HMB.out] at hgo; exact hgo
    · clear hlv HS1
      have f1 := HD.out.field (s' := { s1 with out := { s1.out with hops := s1.out.hops + 1 } }) 22 (.int .i64 (s1.out.hops + 1)) (HD.out.run.field 22 _ (fun _ _ _ _ => rfl))
      have f2 := f1.field (s' := Bt.St.hop2 s1 m) 16 (.bool (s1.out.dead || m.dead)) (f1.run.field 16 _ (fun _ _ _ _ => rfl))
      have hq := f2.copy
      rw [hmd] at hq
      have HQ := Lib.hid hq
      have wh := WH.out
      have HMD := Lib.hid hmd
      clear f1 f2 hq
      go_upto_region 21 with (fail)
      go_cut [] from 25 to 143 (fun wx => Hid (ScanMid A op known vf vk (Bt.St.hop2 s1 m) b w1.heap.size wr.heap.size p m (.slice pu m.entries.length cu) acc u4 check u5 w wx))
      case first =>
       have hq := HQ.out
       rcases hsd : s1.out.dead with _ | _
       · go_wp2_with fail
         go_meet
         have e9 : (s1.out.dead || true) = true := by rw [hsd]; rfl
         rw [e9] at hq
         try simp only [size_setCell, size_drew] at hq
         exact Lib.hid hq
       · go_wp2_with fail
         go_meet
         have e9 : (s1.out.dead || true) = true := by rw [hsd]; rfl
         rw [e9] at hq
         try simp only [size_setCell, size_drew] at hq
         exact Lib.hid hq
      case rest =>
       have HMC := hcut
       clear hcut HQ
       clear hmd
       have kn5 := HMC.out.nblk.cell
       have hln5 := HMC.out.nblk.lt
       have wm := WM.out
       go_wp2_with fail
       go_at_call 89; refine (neighbour_got A op known vf vk (Bt.St.hop2 s1 m) (Bt.St.hop2 s1 m, some (p', n')) b m (.slice pu m.entries.length cu) _ HMC.out.at_.run ?hlow ?hlk (fun _ => HNX.out.2.2.1)).mono ?_
       case hlow => exact fun c hc => Nat.lt_of_lt_of_le (HMC.out.at_.al c hc) HMC.out.at_.over.size
       case hlk =>
        have hk := HNX.out.2.1
        simp only [Bt.scanSt, HMD.out, if_true] at hk
        skip
        exact hk
       rintro e w6 ⟨hrun6, ho6, u6, rfl, hown6⟩
       have HR6 := Lib.hid hrun6
       have HOWN6 := Lib.hid hown6
       have BF := HMC.out.at_.blk.grown ho6 (by have := HMC.out.at_.bl; have := HMC.out.at_.gl; simp; omega)
       have HO6 := Lib.hid ho6
       clear hrun6 hown6 ho6
       dsimp only
       iterate 10 go_step
       refine wpList_store_cut rfl 145 (.tmp 2) (.tmp 140) rfl (w1.heap.size) _ rfl rfl _ _ BF (by kernel_rfl) rfl (found_one (own_one HOWN6.out)) (fun wy B_wy ho_wy hz_wy => ?_)
       simp only [Act.put, qY]
       have HY := Lib.hid (HMC.out.next HO6.out HR6.out HOWN6.out B_wy ho_wy)
       clear BF B_wy ho_wy hz_wy
       go_wp2_with fail
       obtain ⟨hN', hlook, hlevel, hgo⟩ := HNX.out
       go_roundg N'
       case measure => omega
       case rel =>
        refine ⟨Bt.St.hop2 s1 m, p', n', u6, acc, check, moves + 1, rfl, by omega, by omega, by show 0 ≤ s1.out.hops + 1; omega, by show s1.out.hops + 1 ≤ 1000 + (moves + 1); omega, hacc, by omega, Lib.hid ?_, HY, Lib.hid ⟨HK.out _ (look_known hlook).1, look_valid hlook, (look_known hlook).2.2.1⟩⟩
        simp only [Bt.scanSt, Bt.scanAcc, Bt.scanChk, HMD.out, if_true] at hgo
        exact hgo
set_option maxRecDepth 10000 in
set_option maxHeartbeats 4000000 in
theorem next_scan (op : Bt.Op) (known : List Bt.Page) (fa ka : Option Addr) (fn fc kn kc : Nat) (w : World) (hf : PgRow w (.slice fa fn fc) op.fresh) (hk : PgRow w (.slice ka kn kc) known) (hn : NoneAt w)
 (hkind : op.kind = 4) (hv : op.isValid = true) (p : Bt.Page) (q : Bt.Ptr) (lv : Int) (hl : Bt.latest known 96 = some p) (hlk : Bt.locked p = false) (hr : Bt.readRoot p = some (q, lv))
 (s2 : Bt.St) (hsn : s2.need = []) (hso : Sorted2 s2.writes) (o : Bt.Out) (hoF : s2.ended = false → o = { s2.out with hops := 0, height := 0, dead := false, unposted := false }) (hoT : s2.ended = true → o = s2.out)
 (HM : Hid (∀ b w', IsRun (fun _ => False) op known (.slice fa fn fc) (.slice ka kn kc) { ({} : Bt.St) with rootPage := p, root := q } b w' →
  Calls Tryz.prog 54 #[.pointer (some ⟨b, 0, none⟩)] w' (RunPost (fun _ => False) op known (.slice fa fn fc) (.slice ka kn kc) s2 b (.tuple #[]) w'))) :
 Calls Tryz.prog 27 #[.agg (opCells op (.slice fa fn fc)), .slice ka kn kc] w (NextPost s2.writes o w) := by
 have Hf := Lib.hid hf
 have Hk := Lib.hid hk
 have Hn := Lib.hid hn
 have HV := Lib.hid (fun wx => isValid_scan op (.slice fa fn fc) wx hkind hv)
 have HRR := Lib.hid (fun b wx h1 h2 => readRoot_ok (fun _ => False) op known (.slice fa fn fc) (.slice ka kn kc) {} b p q lv wx h1 h2 hl hlk hr)
 have b1 : (op.kind == 1) = false := by simp [hkind]
 have b2 : (op.kind == 2) = false := by simp [hkind]
 have b3 : (op.kind == 3) = false := by simp [hkind]
 have b4 : (op.kind == 4) = true := by simp [hkind]
 clear hf hk hn hkind hv hl hlk hr
 unfold opCells at HV ⊢
 go_enter Tryz.func27, Tryz.ntmps27
 go_wp2_with fail
 go_at_call 49; refine (HV.out _).mono ?_; rintro e1 w1 ⟨rfl, hb1⟩; ((obtain ⟨hc1, hf1, hs1⟩ := qR hb1); (try have := qN0 w w1); (try have := qN1 w w1))
 have HB1 := Lib.hid hb1
 go_wp2_with fail
 go_at_call 50; refine (HRR.out w1.heap.size _ ?hrun ?hlow).mono ?_
 case hrun => exact IsRun.start op known _ _ w1 (Hf.out.below qL) (Hk.out.below qL) (Hn.out.below qL)
 case hlow => exact fun c hc => hc.elim
 rintro e2 w2 ⟨rfl, hrun2, ho2⟩
 have HR2 := Lib.hid hrun2
 have HO2 := Lib.hid ho2
 clear hrun2
 ((obtain ⟨hc2, hf2, hs2⟩ := qO ho2); (try have := qN0 w w2); (try have := qN1 w w2); (try have := qN0 w1 w2))
 go_wp2_with fail
 go_at_call 54; refine (HM.out w1.heap.size _ HR2.out).mono ?_
 rintro e3 w3 ⟨rfl, ⟨vn, vw, ve, vc, hr3, _⟩, ho3⟩
 have HR3 := Lib.hid hr3
 have HO3 := Lib.hid ho3
 obtain ⟨pn, cn, rfl⟩ : ∃ p cap, vn = .slice p 0 cap := own_zero (by have := hr3.need; rw [hsn] at this; exact this)
 have hse := qSt hr3.ents
 have hsc := qSt hr3.check
 have hc := hr3.blk.cell
 have hfb := hr3.blk.free
 have hb3 := hr3.blk.lt
 have k9 : w3.cell? ⟨w1.heap.size, 9, none⟩ = some (.slice pn 0 cn) := hc 9
 have k10 : w3.cell? ⟨w1.heap.size, 10, none⟩ = some (vw) := hc 10
 have k11 : w3.cell? ⟨w1.heap.size, 11, none⟩ = some (.int .i64 s2.out.code) := hc 11
 have k12 : w3.cell? ⟨w1.heap.size, 12, none⟩ = some (.bool s2.out.found) := hc 12
 have k13 : w3.cell? ⟨w1.heap.size, 13, none⟩ = some (.bool s2.out.done) := hc 13
 have k14 : w3.cell? ⟨w1.heap.size, 14, none⟩ = some (.bool s2.out.split) := hc 14
 have k15 : w3.cell? ⟨w1.heap.size, 15, none⟩ = some (.bool s2.out.unposted) := hc 15
 have k16 : w3.cell? ⟨w1.heap.size, 16, none⟩ = some (.bool s2.out.dead) := hc 16
 have k17 : w3.cell? ⟨w1.heap.size, 17, none⟩ = some (.bool s2.out.more) := hc 17
 have k18 : w3.cell? ⟨w1.heap.size, 18, none⟩ = some (.int .i64 s2.out.to.line) := hc 18
 have k19 : w3.cell? ⟨w1.heap.size, 19, none⟩ = some (.int .i64 s2.out.to.gen) := hc 19
 have k20 : w3.cell? ⟨w1.heap.size, 20, none⟩ = some (ve) := hc 20
 have k21 : w3.cell? ⟨w1.heap.size, 21, none⟩ = some (vc) := hc 21
 have k22 : w3.cell? ⟨w1.heap.size, 22, none⟩ = some (.int .i64 s2.out.hops) := hc 22
 have k23 : w3.cell? ⟨w1.heap.size, 23, none⟩ = some (.int .i64 s2.out.fresh) := hc 23
 have k24 : w3.cell? ⟨w1.heap.size, 24, none⟩ = some (.int .i64 s2.out.height) := hc 24
 have k36 : w3.cell? ⟨w1.heap.size, 36, none⟩ = some (.bool s2.ended) := hc 36
 clear hr3 hc
 ((obtain ⟨hc3, hf3, hs3⟩ := qO ho3); (try have := qN0 w w3); (try have := qN1 w w3); (try have := qN0 w1 w3); (try have := qN0 w2 w3))
 rcases hen : s2.ended with _ | _
 · rw [hen] at k36
   go_wp2_with fail
   go_at_call 59; refine (sortFunc_sorted vw s2.writes _ ?hsr).mono ?_
   case hsr => exact sortedRow_of (base := w1.heap.size + 1) (by repeat (first | exact HR3.out.writes | refine own_aside ?_ (by show w1.heap.size < w1.heap.size + 1; omega) _)) rfl hso
   rintro e4 w4 ⟨rfl, hb4⟩
   ((obtain ⟨hc4, hf4, hs4⟩ := qR hb4); (try have := qN0 w w4); (try have := qN1 w w4); (try have := qN0 w1 w4); (try have := qN0 w2 w4))
   have hb4' : w1.heap.size < w4.heap.size := by omega
   go_wp2_with fail
   refine qB (w.heap.size + 1) fun hSt => ?_
   refine qS [0, 1, 2, 3, 4, 5, 6, 7] ?_
   iterate 8 (refine qT ?_; simp only [Act.put, qY])
   refine TakeSeq.done ?_
   refine qS [8, 9] ?_
   iterate 2 (refine qT ?_; simp only [Act.put, qY])
   refine TakeSeq.done ?_
   refine qH 10 fun K hK => ?_
   go_simp
   refine hK.out _ _ qF (fun hHeld => ?_)
   clear hK K
   refine qS [11] ?_
   refine qT ?_; simp only [Act.put, qY]
   refine TakeSeq.done ?_
   refine qD ?_ _
   go_wp2_with fail
   have hb1 := HB1.out
   have ho2 := HO2.out
   have ho3 := HO3.out
   have hov : Over w1.heap.size w w4 := qV
   have hbb : w1.heap.size < w1.heap.size + 1 := by omega
   have hgb : w.heap.size + 1 < w1.heap.size + 1 := by omega
   have hbs : w.heap.size ≤ w1.heap.size + 1 := by omega
   have O1 := Blk.kept (b := w.heap.size + 1) (t := 63) (cs := #[.int .i64 0, .bool false, .bool false, .bool false, .bool false, .bool false, .bool false, .int .i64 0, .int .i64 0, .slice none 0 0, .slice none 0 0, .int .i64 0, .int .i64 0, .int .i64 0]) (made22 w) hb1
   have O2 := (O1.alloc _).grown ho2 (by simp; omega)
   have O3 := O2.grown ho3 (by simp; omega)
   have O4 : Blk w4 (w.heap.size + 1) 63 #[.int .i64 0, .bool false, .bool false, .bool false, .bool false, .bool false, .bool false, .int .i64 0, .int .i64 0, .slice none 0 0, .slice none 0 0, .int .i64 0, .int .i64 0, .int .i64 0] := Blk.kept (by have B := O3; exact qK) hb4
   refine bodyPost_ret (results_ttbt rfl _ _ (w.heap.size + 1) _ _ _ rfl (by have B := O4; exact qK) Tryz.underlying63 rfl (by kernel_rfl)) rfl ⟨vw, ve, vc, ?_, ?_, ?_, ?_, ?_⟩
   · rw [set14, hoF hen]
     rfl
   · exact own_base (own_drew (own_put14 (own_below (own_aside (own_aside (own_aside (own_aside HR3.out.writes (p := ⟨w1.heap.size, 22, none⟩) hbb _) (p := ⟨w1.heap.size, 24, none⟩) hbb _) (p := ⟨w1.heap.size, 16, none⟩) hbb _) (p := ⟨w1.heap.size, 15, none⟩) hbb _) hb4) hgb _ _ _ _ _ _ _ _ _ _ _ _ _ _)) hbs
   · rw [hoF hen]
     exact own_base (own_drew (own_put14 (own_below (own_aside (own_aside (own_aside (own_aside HR3.out.ents (p := ⟨w1.heap.size, 22, none⟩) hbb _) (p := ⟨w1.heap.size, 24, none⟩) hbb _) (p := ⟨w1.heap.size, 16, none⟩) hbb _) (p := ⟨w1.heap.size, 15, none⟩) hbb _) hb4) hgb _ _ _ _ _ _ _ _ _ _ _ _ _ _)) hbs
   · rw [hoF hen]
     exact own_base (own_drew (own_put14 (own_below (own_aside (own_aside (own_aside (own_aside HR3.out.check (p := ⟨w1.heap.size, 22, none⟩) hbb _) (p := ⟨w1.heap.size, 24, none⟩) hbb _) (p := ⟨w1.heap.size, 16, none⟩) hbb _) (p := ⟨w1.heap.size, 15, none⟩) hbb _) hb4) hgb _ _ _ _ _ _ _ _ _ _ _ _ _ _)) hbs
   · exact Over.to_below (b := w1.heap.size) (Over.drew (Over.put14 hov (by omega) _ _ _ _ _ _ _ _ _ _ _ _ _ _)) (by omega)
 · rw [hen] at k36
   go_wp2_with fail
   go_at_call 59; refine (sortFunc_sorted vw s2.writes _ ?hsr).mono ?_
   case hsr => exact sortedRow_of (base := w1.heap.size + 1) (by repeat (first | exact HR3.out.writes | refine own_aside ?_ (by show w1.heap.size < w1.heap.size + 1; omega) _)) rfl hso
   rintro e4 w4 ⟨rfl, hb4⟩
   ((obtain ⟨hc4, hf4, hs4⟩ := qR hb4); (try have := qN0 w w4); (try have := qN1 w w4); (try have := qN0 w1 w4); (try have := qN0 w2 w4))
   have hb4' : w1.heap.size < w4.heap.size := by omega
   go_wp2_with fail
   refine qB (w.heap.size + 1) fun hSt => ?_
   refine qS [0, 1, 2, 3, 4, 5, 6, 7] ?_
   iterate 8 (refine qT ?_; simp only [Act.put, qY])
   refine TakeSeq.done ?_
   refine qS [8, 9] ?_
   iterate 2 (refine qT ?_; simp only [Act.put, qY])
   refine TakeSeq.done ?_
   refine qH 10 fun K hK => ?_
   go_simp
   refine hK.out _ _ qF (fun hHeld => ?_)
   clear hK K
   refine qS [11] ?_
   refine qT ?_; simp only [Act.put, qY]
   refine TakeSeq.done ?_
   refine qD ?_ _
   go_wp2_with fail
   have hb1 := HB1.out
   have ho2 := HO2.out
   have ho3 := HO3.out
   have hov : Over w1.heap.size w w4 := qV
   have hbb : w1.heap.size < w1.heap.size + 1 := by omega
   have hgb : w.heap.size + 1 < w1.heap.size + 1 := by omega
   have hbs : w.heap.size ≤ w1.heap.size + 1 := by omega
   have O1 := Blk.kept (b := w.heap.size + 1) (t := 63) (cs := #[.int .i64 0, .bool false, .bool false, .bool false, .bool false, .bool false, .bool false, .int .i64 0, .int .i64 0, .slice none 0 0, .slice none 0 0, .int .i64 0, .int .i64 0, .int .i64 0]) (made22 w) hb1
   have O2 := (O1.alloc _).grown ho2 (by simp; omega)
   have O3 := O2.grown ho3 (by simp; omega)
   have O4 : Blk w4 (w.heap.size + 1) 63 #[.int .i64 0, .bool false, .bool false, .bool false, .bool false, .bool false, .bool false, .int .i64 0, .int .i64 0, .slice none 0 0, .slice none 0 0, .int .i64 0, .int .i64 0, .int .i64 0] := Blk.kept (by have B := O3; exact qK) hb4
   refine bodyPost_ret (results_ttbt rfl _ _ (w.heap.size + 1) _ _ _ rfl (by have B := O4; exact qK) Tryz.underlying63 rfl (by kernel_rfl)) rfl ⟨vw, ve, vc, ?_, ?_, ?_, ?_, ?_⟩
   · rw [set14, hoT hen]
     rfl
   · exact own_base (own_drew (own_put14 (own_below HR3.out.writes hb4) hgb _ _ _ _ _ _ _ _ _ _ _ _ _ _)) hbs
   · rw [hoT hen]
     exact own_base (own_drew (own_put14 (own_below HR3.out.ents hb4) hgb _ _ _ _ _ _ _ _ _ _ _ _ _ _)) hbs
   · rw [hoT hen]
     exact own_base (own_drew (own_put14 (own_below HR3.out.check hb4) hgb _ _ _ _ _ _ _ _ _ _ _ _ _ _)) hbs
   · exact Over.to_below (b := w1.heap.size) (Over.drew (Over.put14 hov (by omega) _ _ _ _ _ _ _ _ _ _ _ _ _ _)) (by omega)
theorem Bt.sortPages_nil {l : List Bt.Page} (h : Bt.sortPages l = []) : l = [] := by
 match l, h with
 | [], _ => rfl
 | [p], h => cases h
 | [p, q], h =>
   exfalso
   have h2 : (if q.line < p.line then [q, p] else [p, q]) = [] := h
   split at h2 <;> simp at h2
 | p :: q :: r :: s, h => cases h
abbrev scanOp (a b n : Int) : Bt.Op := ⟨4, a, b, Bt.nilP, 0, n, []⟩
theorem scan_next {ps : List Bt.Page} {nx : Int} {es : List Bt.Entry} {T : List (List Bt.Cell)} (h : Bt.Inv ps nx es T) (a b n : Int) (ha : 1 ≤ a) (hab : a ≤ b) (hb : b ≤ Bt.maxKey) (hn : 1 ≤ n ∧ n ≤ 64) :
 ∃ o, o.code = 0 ∧ o.entries = Bt.scanTake a b n [] es ∧ o.more = decide (((Bt.scanTake a b n [] es).length : Int) = n) ∧ o.check ≠ [] ∧
  ∀ ka kn kc w, PgRow w (.slice ka kn kc) ps → NoneAt w → Calls Tryz.prog 27 #[.agg (opCells (scanOp a b n) (.slice none 0 0)), .slice ka kn kc] w (NextPost [] o w) := by
 have hv : (scanOp a b n).isValid = true := by unfold Bt.Op.isValid; simp [scanOp, Bt.isKey, ha, hb, hab, hn]; omega
 have hkh : a ≤ Bt.maxHigh := by unfold Bt.maxKey at hb; unfold Bt.maxHigh; omega
 obtain ⟨o, ho, hoc, hoe, hom, hok⟩ := h.scan (op := scanOp a b n) rfl ha hab hb hn
 refine ⟨o, hoc, hoe, hom, hok, fun ka kn kc w hk hne => ?_⟩
 have hgo : (Bt.S0 ps T).go (scanOp a b n) ps = (Bt.S0 ps T).scan (scanOp a b n) ps := by unfold Bt.St.go; simp [scanOp]
 have hst := h.step hv
 rw [hgo, ho] at hst
 obtain ⟨c1, c2, c3, c4⟩ := Bt.close_inv hst.symm
 have hw0 : ((Bt.S0 ps T).scan (scanOp a b n) ps).writes = [] := Bt.sortPages_nil c2.symm
 have hR := h.rootIs
 rw [← hw0]
 refine next_scan (scanOp a b n) ps none ka 0 0 kn kc w (nilRow w) hk hne rfl hv _ _ _ hR.here hR.free hR.read _ c1 (by rw [hw0]; exact .inl rfl) o c3 c4 (Lib.hid (fun b' w' hr => ?_))
 obtain ⟨r1, r2, r3, r4, r5⟩ := h.rootHere
 by_cases hT : T = []
 · subst hT
   exact scan_root _ _ ps _ _ _ b' w' hr (fun _ h => h.elim) rfl r4 r2
 · have hroot : (Bt.S0 ps T).root ≠ Bt.nilP := fun e => hT (h.rootNil.1 e)
   obtain ⟨p, nd, t, N, hd, hN, hs, ht⟩ := h.scans hT (op := scanOp a b n) ha hkh hb
   exact scan_walk _ _ ps _ _ _ b' t p nd N _ w' hr (fun _ h => h.elim) hroot (s0_hops ps T) ht hd (by omega) hs ⟨by show (0 : Int) ≤ n; omega, by show n ≤ 1000; omega⟩
theorem MvRow.below {w w' : World} {p : Option Addr} {ms : List Mv} (h : MvRow w p ms) (hb : Below w.heap.size w w') : MvRow w' p ms := by
 refine ⟨h.rng, ?_⟩
 rcases h.form with h1 | ⟨b, o, hp, hlt, hc⟩
 · exact .inl h1
 · exact .inr ⟨b, o, hp, Nat.lt_of_lt_of_le hlt hb.size, fun i m hi => by
     obtain ⟨h1, h2, h3⟩ := hc i m hi
     exact ⟨(hb.cell (p := ⟨b, o + i * 3, none⟩) hlt).trans h1, (hb.cell (p := ⟨b, o + i * 3 + 1, none⟩) hlt).trans h2, (hb.cell (p := ⟨b, o + i * 3 + 2, none⟩) hlt).trans h3⟩⟩
def PlayLoop (x P cap n : Nat) (w0 : World) (i : Value) (wr : World) : Prop :=
 ∃ k : Nat, k ≤ n ∧ i = .int .i64 k ∧ Hid (∃ ps nx es T, PlayAt x P cap k w0 wr ps nx es T)
def PlayPost (n : Nat) (w : World) (e : Ending) (w' : World) : Prop :=
 ∃ x P cap ps nx es T, e = .returned (.pointer (some ⟨x, 0, none⟩)) ∧ PlayAt x P cap n w w' ps nx es T
set_option maxRecDepth 10000 in
set_option maxHeartbeats 4000000 in
theorem play_any (pl : Option Addr) (cl : Nat) (ms : List Mv) (w : World) (hn : NoneAt w) (hl : MvRow w pl ms) (hm70 : ms.length ≤ 70) :
 Calls Tryz.prog 26 #[.slice pl ms.length cl] w (PlayPost ms.length w) := by
 have HN := Lib.hid hn
 have HL := Lib.hid hl
 clear hn hl
 go_enter Tryz.func26, Tryz.ntmps26
 go_wp2_with fail
 go_at_call 22; refine (begin_any _).mono ?_
 rintro e0 w0 ⟨x, P, cap, rfl, hwP, hPx, hbx, hox, hb0⟩
 have hgl := HN.out.lt
 have HP0 : Hid (∃ ps nx es T, PlayAt x P cap 0 w w0 ps nx es T) := Lib.hid ⟨pg0, 105, [], [], Bt.Inv.start, ⟨0, 0, Nat.le_refl _, Bt.Cnt.start⟩, IxG.start hbx hox hPx (by omega) (HN.out.below hb0), qL, by omega⟩
 clear hbx hox hb0 hgl
 go_wp2_with fail
 go_loopw [4] (fun i wr => PlayLoop x P cap ms.length w i wr) (fun i _ => ((ms.length : Int) - intOf i).toNat)
 case atStart => exact ⟨0, Nat.zero_le _, rfl, HP0⟩
 case round =>
  obtain ⟨k, hk, rfl, HQ⟩ := hrel
  clear HP0
  by_cases hk2 : k < ms.length
  · obtain ⟨ps, nx, es, T, hs⟩ := HQ.out
    obtain ⟨ins, K, hi1, hi2⟩ := hs.cnt
    obtain ⟨m, hm⟩ : ∃ m, ms[k]? = some m := ⟨_, List.getElem?_eq_getElem hk2⟩
    obtain ⟨r1, r2, r3⟩ := HL.out.rng m (List.mem_of_getElem? hm)
    obtain ⟨ps', nx', es', T', hmv, hdo⟩ := do_any hs.inv hi2 (by omega) (x := x) (P := P) (cap := cap) (G := k) (by omega) m.kind m.key m.level (k : Int) r1 r2 r3 ⟨by omega, by omega⟩
    have hform : ∃ b o, pl = some ⟨b, o, none⟩ ∧ b < w.heap.size ∧ ∀ i m, ms[i]? = some m → w.cell? ⟨b, o + i * 3, none⟩ = some (.int .i64 m.kind) ∧ w.cell? ⟨b, o + i * 3 + 1, none⟩ = some (.int .i64 m.key) ∧ w.cell? ⟨b, o + i * 3 + 2, none⟩ = some (.int .i64 m.level) := by
     rcases HL.out.form with h0 | h0
     · rw [h0] at hk2; simp at hk2
     · exact h0
    obtain ⟨bl, ol, rfl, hbl, hcl⟩ := hform
    obtain ⟨q0, q1, q2⟩ := hcl k m hm
    have c0 : wr.cell? ⟨bl, ol + k * 3, none⟩ = some (.int .i64 m.kind) := (hs.below.cell (p := ⟨bl, ol + k * 3, none⟩) hbl).trans q0
    have c1 : wr.cell? ⟨bl, ol + k * 3 + 1, none⟩ = some (.int .i64 m.key) := (hs.below.cell (p := ⟨bl, ol + k * 3 + 1, none⟩) hbl).trans q1
    have c2 : wr.cell? ⟨bl, ol + k * 3 + 2, none⟩ = some (.int .i64 m.level) := (hs.below.cell (p := ⟨bl, ol + k * 3 + 2, none⟩) hbl).trans q2
    have HDO := Lib.hid hdo
    have HS := Lib.hid hs
    have HMV := Lib.hid hmv
    have HPL := Lib.hid (hmv.len hs.inv)
    have hMs : w.heap.size ≤ wr.heap.size := hs.below.size
    have hMP : w.heap.size ≤ P := hs.low
    have kx0 : wr.cell? ⟨x, 0, none⟩ = some (.slice (some ⟨P, 0, none⟩) ps.length cap) := by obtain ⟨_, _, _, ho, _⟩ := hs.ix; exact ho.blk.cell 0
    have hxw : x < wr.heap.size := by obtain ⟨_, _, _, ho, _⟩ := hs.ix; exact ho.blk.lt
    have bk : decide ((k : Int) < ms.length) = true := by simp; omega
    have bk0 : (0 : Int) ≤ k := by omega
    have bk1 : (k : Int) < ms.length := by omega
    have wk1 : IntKind.i64.wrap ((k : Int) + 1) = (k : Int) + 1 := by rw [IntKind.wrap_i64]; omega
    clear hs hdo hmv hcl q0 q1 q2 hm hi1 hi2 r1 r2 r3
    go_wp2_with fail
    go_at_call 23; refine (HDO.out _ (HS.out.ix.over qL)).mono ?_
    rintro e2 w2 ⟨rfl, hix2, hf2⟩
    have HIX2 := Lib.hid hix2
    have HF2 := Lib.hid ((FrameP.of_below (show Below wr.heap.size wr _ from qL)).trans hf2)
    clear hix2 hf2
    go_wp2_with fail
    refine ⟨⟨k + 1, by omega, by rw [show ((k : Int) + 1) = ((k + 1 : Nat) : Int) by omega], Lib.hid ⟨ps', nx', es', T', (HS.out.moved HMV.out HIX2.out HF2.out).over qL⟩⟩, by simp [intOf]; omega⟩
  · have bk : decide ((k : Int) < ms.length) = false := by simp; omega
    have hkl : k = ms.length := by omega
    have HS := Lib.hid (hkl ▸ HQ.out)
    clear hkl HQ
    go_wp2_with fail
    refine bodyPost_ret (results_tmp rfl _ _ _) rfl ?_
    obtain ⟨ps, nx, es, T, hs⟩ := HS.out
    exact ⟨x, P, cap, ps, nx, es, T, rfl, hs.over qL⟩
end Go.Proofs.YtjmpekanlmepmaaGreatDoor
