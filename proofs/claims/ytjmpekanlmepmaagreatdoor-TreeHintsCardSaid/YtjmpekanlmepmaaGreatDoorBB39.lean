/- Package btree: the step function, for post. -/
import Derived.Test.YtjmpekanlmepmaaGreatDoorBB23
set_option linter.all false
set_option maxRecDepth 20000
set_option maxHeartbeats 8000000
open Go.Lib (hid)
namespace Go.Proofs.YtjmpekanlmepmaaGreatDoor
open Go.RowKit
theorem Zas (op : Bt.Op) (known : List Bt.Page) (fa ka : Option Addr) (fn fc kn kc : Nat) (w : World) (hf : PgRow w (.slice fa fn fc) op.fresh) (hk : PgRow w (.slice ka kn kc) known) (hn : NoneAt w)
 (hkind : op.kind = 5) (hv : op.isValid = true) (p : Bt.Page) (q : Bt.Ptr) (lv : Int) (hl : Bt.latest known 96 = some p) (hlk : Bt.locked p = false) (hr : Bt.Z1p p = some (q, lv))
 (s2 : Bt.St) (hsn : s2.need = []) (hso : Z1u s2.writes) (o : Bt.Out) (hoF : s2.ended = false → o = { s2.out with hops := 0, height := 0, dead := false, unposted := false }) (hoT : s2.ended = true → o = s2.out)
 (HM : Hid (∀ b w', IsRun (fun _ => False) op known (.slice fa fn fc) (.slice ka kn kc) { ({} : Bt.St) with rootPage := p, root := q } b w' →
  Calls Tryz.prog 55 #[.pointer (some ⟨b, 0, none⟩)] w' (Z0y (fun _ => False) op known (.slice fa fn fc) (.slice ka kn kc) s2 b (.tuple #[]) w'))) :
 Calls Tryz.prog 27 #[.agg (Z0d op (.slice fa fn fc)), .slice ka kn kc] w (Z1S s2.writes o w) := by
 have Hf := hid hf
 have Hk := hid hk
 have Hn := hid hn
 have HV := hid (fun wx => Z7C op (.slice fa fn fc) wx hkind hv)
 have HRR := hid (fun b wx h1 h2 => Z2n (fun _ => False) op known (.slice fa fn fc) (.slice ka kn kc) {} b p q lv wx h1 h2 hl hlk hr)
 have b1 : (op.kind == 1) = false := by simp [hkind]
 have b2 : (op.kind == 2) = false := by simp [hkind]
 have b3 : (op.kind == 3) = false := by simp [hkind]
 have b4 : (op.kind == 4) = false := by simp [hkind]
 have b5 : (op.kind == 5) = true := by simp [hkind]
 clear hf hk hn hkind hv hl hlk hr
 unfold Z0d at HV ⊢
 have tg75 := trivial
 exact wG10
end Go.Proofs.YtjmpekanlmepmaaGreatDoor
