/- Package btree: nodes: what can be stored: all cases. Package btree: a node is written onto its page: all cases. -/
import Derived.Test.YtjmpekanlmepmaaGreatDoorWC3
import Derived.Test.YtjmpekanlmepmaaGreatDoorWC4
import Derived.Test.YtjmpekanlmepmaaGreatDoorWC5
import Derived.Test.YtjmpekanlmepmaaGreatDoorWC8
import Derived.Test.YtjmpekanlmepmaaGreatDoorWC9
set_option linter.unusedVariables false
set_option linter.unusedSimpArgs false
set_option linter.unusedSectionVars false
set_option linter.constructorNameAsVariable false
namespace Go.Proofs.YtjmpekanlmepmaaGreatDoor
open Go.RowKit

theorem valid_any (n : Bt.Node) (v : Value) (w : World) (he : EntRow w v n.entries) (hg : NoneAt w) :
    Calls Tryz.prog 63 #[.agg (nodeCells n v)] w fun e w' => e = .returned (.bool n.valid) ∧ Below w.heap.size w w' := by
  by_cases h : n.level < 0 ∨ 8 < n.level ∨ 5 < n.entries.length ∨ Bt.rising n.entries = false ∨ n.high = 0
  · exact valid_1 n v w he h
  by_cases h1 : n.right = Bt.nilP
  · by_cases h2 : n.high = 4294967295
    · rcases he.form with ⟨hv, hes⟩ | ⟨b, off, cap, hv, hlt, hcells⟩
      · by_cases hL : 0 < n.level
        · rcases hD : n.dead with _ | _
          · exact valid_d1q n v w he hg h h1 h2 hL hD hv hes
          · exact valid_d1p n v w he hg h h1 h2 hL hD hv hes
        · rcases hD : n.dead with _ | _
          · exact valid_d1s n v w he hg h h1 h2 (by omega) hD hv hes
          · exact valid_d1r n v w he hg h h1 h2 (by omega) hD hv hes
      · by_cases hz : n.entries = []
        · by_cases hL : 0 < n.level
          · rcases hD : n.dead with _ | _
            · exact valid_d2q n v w he hg h h1 h2 hL hD b off cap hv hz
            · exact valid_d2p n v w he hg h h1 h2 hL hD b off cap hv hz
          · rcases hD : n.dead with _ | _
            · exact valid_d2s n v w he hg h h1 h2 (by omega) hD b off cap hv hz
            · exact valid_d2r n v w he hg h h1 h2 (by omega) hD b off cap hv hz
        · by_cases hL : 0 < n.level
          · rcases hD : n.dead with _ | _
            · exact valid_d3q n v w he hg h h1 h2 hL hD b off cap hv hlt (List.length_pos_iff.2 hz) hcells
            · exact valid_d3p n v w he hg h h1 h2 hL hD b off cap hv hlt (List.length_pos_iff.2 hz) hcells
          · rcases hD : n.dead with _ | _
            · exact valid_d3s n v w he hg h h1 h2 (by omega) hD b off cap hv hlt (List.length_pos_iff.2 hz) hcells
            · exact valid_d3r n v w he hg h h1 h2 (by omega) hD b off cap hv hlt (List.length_pos_iff.2 hz) hcells
    · rcases he.form with ⟨hv, hes⟩ | ⟨b, off, cap, hv, hlt, hcells⟩
      · exact valid_b1 n v w he hg h h1 h2 hv hes
      · by_cases hz : n.entries = []
        · exact valid_b2 n v w he hg h h1 h2 b off cap hv hz
        · exact valid_b3 n v w he hg h h1 h2 b off cap hv (List.length_pos_iff.2 hz)
  · rcases h2 : Bt.validP n.right with _ | _
    · rcases he.form with ⟨hv, hes⟩ | ⟨b, off, cap, hv, hlt, hcells⟩
      · exact valid_a1 n v w he hg h h1 h2 hv hes
      · by_cases hz : n.entries = []
        · exact valid_a2 n v w he hg h h1 h2 b off cap hv hz
        · exact valid_a3 n v w he hg h h1 h2 b off cap hv (List.length_pos_iff.2 hz)
    · by_cases h3 : n.high = 4294967295
      · rcases he.form with ⟨hv, hes⟩ | ⟨b, off, cap, hv, hlt, hcells⟩
        · exact valid_c1 n v w he hg h h1 h2 h3 hv hes
        · by_cases hz : n.entries = []
          · exact valid_c2 n v w he hg h h1 h2 h3 b off cap hv hz
          · exact valid_c3 n v w he hg h h1 h2 h3 b off cap hv (List.length_pos_iff.2 hz)
      · rcases he.form with ⟨hv, hes⟩ | ⟨b, off, cap, hv, hlt, hcells⟩
        · by_cases hL : 0 < n.level
          · rcases hD : n.dead with _ | _
            · exact valid_e1q n v w he hg h h1 h2 h3 hL hD hv hes
            · exact valid_e1p n v w he hg h h1 h2 h3 hL hD hv hes
          · rcases hD : n.dead with _ | _
            · exact valid_e1s n v w he hg h h1 h2 h3 (by omega) hD hv hes
            · exact valid_e1r n v w he hg h h1 h2 h3 (by omega) hD hv hes
        · by_cases hz : n.entries = []
          · by_cases hL : 0 < n.level
            · rcases hD : n.dead with _ | _
              · exact valid_e2q n v w he hg h h1 h2 h3 hL hD b off cap hv hz
              · exact valid_e2p n v w he hg h h1 h2 h3 hL hD b off cap hv hz
            · rcases hD : n.dead with _ | _
              · exact valid_e2s n v w he hg h h1 h2 h3 (by omega) hD b off cap hv hz
              · exact valid_e2r n v w he hg h h1 h2 h3 (by omega) hD b off cap hv hz
          · by_cases hL : 0 < n.level
            · rcases hD : n.dead with _ | _
              · exact valid_e3q n v w he hg h h1 h2 h3 hL hD b off cap hv hlt (List.length_pos_iff.2 hz) hcells
              · exact valid_e3p n v w he hg h h1 h2 h3 hL hD b off cap hv hlt (List.length_pos_iff.2 hz) hcells
            · rcases hD : n.dead with _ | _
              · exact valid_e3s n v w he hg h h1 h2 h3 (by omega) hD b off cap hv hlt (List.length_pos_iff.2 hz) hcells
              · exact valid_e3r n v w he hg h h1 h2 h3 (by omega) hD b off cap hv hlt (List.length_pos_iff.2 hz) hcells
end Go.Proofs.YtjmpekanlmepmaaGreatDoor
namespace Go.Proofs.YtjmpekanlmepmaaGreatDoor
open Go.RowKit

theorem fill_any (n : Bt.Node) (v : Value) (p : Bt.Page) (hp : p.Ok) (hn : NodeOk n) (w : World) (he : EntRow w v n.entries) :
    Calls Tryz.prog 64 #[.agg (nodeCells n v), .agg p.cells] w fun e w' => e = .returned (.agg (n.fill p).cells) ∧ Below w.heap.size w w' := by
  rcases he.form with ⟨hv, hes⟩ | ⟨b, off, cap, hv, hlt, hcells⟩
  · subst hv
    rcases hl : n.leftmost with _ | _ <;> rcases hd : n.dead with _ | _
    · exact fill_ffn n p hp hn hl hd w hes he
    · exact fill_ftn n p hp hn hl hd w hes he
    · exact fill_tfn n p hp hn hl hd w hes he
    · exact fill_ttn n p hp hn hl hd w hes he
  · rcases hl : n.leftmost with _ | _ <;> rcases hd : n.dead with _ | _
    · exact fill_ff n v p hp hn hl hd w he b off cap hv hlt hcells
    · exact fill_ft n v p hp hn hl hd w he b off cap hv hlt hcells
    · exact fill_tf n v p hp hn hl hd w he b off cap hv hlt hcells
    · exact fill_tt n v p hp hn hl hd w he b off cap hv hlt hcells
end Go.Proofs.YtjmpekanlmepmaaGreatDoor
