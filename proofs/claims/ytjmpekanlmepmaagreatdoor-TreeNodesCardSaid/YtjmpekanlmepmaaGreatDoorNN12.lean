/- Package btree: a node is written onto its page: all cases. -/
import Derived.Test.YtjmpekanlmepmaaGreatDoorNN10
import Derived.Test.YtjmpekanlmepmaaGreatDoorNN11
set_option linter.all false
set_option maxRecDepth 20000
set_option maxHeartbeats 8000000
namespace Go.Proofs.YtjmpekanlmepmaaGreatDoor
open Go.RowKit
theorem fill_any (n : Bt.Node) (v : Value) (p : Bt.Page) (hp : p.Ok) (hn : NodeOk n) (w : World) (he : EntRow w v n.entries) :
 Calls Tryz.prog 64 #[.agg (nodeCells n v), .agg p.cells] w fun e w' => e = .returned (.agg (n.fill p).cells) ∧ Below w.heap.size w w' := by
 rcases he.form with ⟨hv, hes⟩ | ⟨b, off, cap, hv, hlt, hcells⟩
 ·subst hv
  rcases hl : n.leftmost with _ | _ <;> rcases hd : n.dead with _ | _
  ·exact fill_ffn n p hp hn hl hd w hes he
  ·exact fill_ftn n p hp hn hl hd w hes he
  ·exact fill_tfn n p hp hn hl hd w hes he
  ·exact fill_ttn n p hp hn hl hd w hes he
 ·rcases hl : n.leftmost with _ | _ <;> rcases hd : n.dead with _ | _
  ·exact fill_ff n v p hp hn hl hd w he b off cap hv hlt hcells
  ·exact fill_ft n v p hp hn hl hd w he b off cap hv hlt hcells
  ·exact fill_tf n v p hp hn hl hd w he b off cap hv hlt hcells
  ·exact fill_tt n v p hp hn hl hd w he b off cap hv hlt hcells
end Go.Proofs.YtjmpekanlmepmaaGreatDoor
