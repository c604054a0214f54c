/- Package btree: the step function: Raise. -/
import Derived.Test.YtjmpekanlmepmaaGreatDoorNN25
set_option linter.all false
set_option maxRecDepth 20000
set_option maxHeartbeats 8000000
open Go.Lib (hid)
namespace Go.Proofs.YtjmpekanlmepmaaGreatDoor
open Go.RowKit
theorem next_raise (op : Bt.Op) (known : List Bt.Page) (fa ka : Option Addr) (fn fc kn kc : Nat) (w : World) (hf : PgRow w (.slice fa fn fc) op.fresh) (hk : PgRow w (.slice ka kn kc) known) (hn : NoneAt w)
 (hkind : op.kind = 6) (p : Bt.Page) (q : Bt.Ptr) (lv : Int) (hl : Bt.latest known 96 = some p) (hlk : Bt.locked p = false) (hr : Bt.readRoot p = some (q, lv))
 (s2 : Bt.St) (hsn : s2.need = []) (hso : Sorted2 s2.writes) (o : Bt.Out) (hoF : s2.ended = false → o = { s2.out with hops := 0, height := 0, dead := false, unposted := false }) (hoT : s2.ended = true → o = s2.out)
 (HM : Hid (∀ b w', IsRun (fun _ => False) op known (.slice fa fn fc) (.slice ka kn kc) { ({} : Bt.St) with rootPage := p, root := q } b w' →
  Calls Tryz.prog 56 #[.pointer (some ⟨b, 0, none⟩)] w' (RunPost (fun _ => False) op known (.slice fa fn fc) (.slice ka kn kc) s2 b (.tuple #[]) w'))) :
 Calls Tryz.prog 27 #[.agg (opCells op (.slice fa fn fc)), .slice ka kn kc] w (NextPost s2.writes o w) := by
 have Hf := hid hf
 have Hk := hid hk
 have Hn := hid hn
 have HV := hid (fun wx => isValid_raise op (.slice fa fn fc) wx hkind)
 have HRR := hid (fun b wx h1 h2 => readRoot_ok (fun _ => False) op known (.slice fa fn fc) (.slice ka kn kc) {} b p q lv wx h1 h2 hl hlk hr)
 have b1 : (op.kind == 1) = false := by simp [hkind]
 have b2 : (op.kind == 2) = false := by simp [hkind]
 have b3 : (op.kind == 3) = false := by simp [hkind]
 have b4 : (op.kind == 4) = false := by simp [hkind]
 have b5 : (op.kind == 5) = false := by simp [hkind]
 have b6 : (op.kind == 6) = true := by simp [hkind]
 clear hf hk hn hkind hl hlk hr
 unfold opCells at HV ⊢
 have tg60 := trivial
 exact wG7
end Go.Proofs.YtjmpekanlmepmaaGreatDoor
