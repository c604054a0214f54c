/- Package pointer, fourth part: lookup. -/
import Derived.Test.YtjmpekanlmepmaaGreatDoorNN02
set_option linter.all false
set_option maxRecDepth 20000
set_option maxHeartbeats 8000000
open Go.Lib (hid)
namespace Go.Proofs.YtjmpekanlmepmaaGreatDoor
open Go.RowKit
theorem sG8 {P : Prop} (h : P := by
 have tg51 := trivial
 have tg53 := trivial
 have tg55 := trivial
 have tg57 := trivial
 exact wG6) : P := h
theorem lookup_fb (known : List Bt.Page) (v : Value) (p : Bt.Ptr) (kind : Int) (page : Bt.Page) (w : World) (Hk : Hid (PgRow w v known)) (Hv : Hid (Bt.validP p = true)) (Hl : Hid (Bt.latest known p.line = some page))
 (h1 : Bt.tagKind page.d0 = 0) :
 Calls Tryz.prog 65 #[v, .agg p.cells, .int .i64 kind, .bool false] w (LookPost known p kind false w) := by
 have Hpok := hid (Hk.out.ok page (latest_mem Hl.out).1)
 have HX : Hid (Bt.lookup known p kind false = .bad 11) := hid (by simp only [Bt.lookup, Hv.out, Hl.out]; simp [h1])
 have b1 : (Bt.tagKind page.d0 == 0) = true := by simp [h1]
 clear h1
 exact sG8
theorem lookup_fc (known : List Bt.Page) (v : Value) (p : Bt.Ptr) (kind : Int) (page : Bt.Page) (w : World) (Hk : Hid (PgRow w v known)) (Hv : Hid (Bt.validP p = true)) (Hl : Hid (Bt.latest known p.line = some page))
 (h1 : ¬ Bt.tagKind page.d0 = 0) (h2 : ¬ Bt.tagGen page.d0 = p.gen) :
 Calls Tryz.prog 65 #[v, .agg p.cells, .int .i64 kind, .bool false] w (LookPost known p kind false w) := by
 have Hpok := hid (Hk.out.ok page (latest_mem Hl.out).1)
 have HX : Hid (Bt.lookup known p kind false = .bad 11) := hid (by simp only [Bt.lookup, Hv.out, Hl.out]; simp [h1, h2])
 have b1 : (Bt.tagKind page.d0 == 0) = false := by simp [h1]
 have b2 : (Bt.tagGen page.d0 != p.gen) = true := by simp [h2]
 clear h1 h2
 exact sG8
theorem lookup_fd (known : List Bt.Page) (v : Value) (p : Bt.Ptr) (kind : Int) (page : Bt.Page) (w : World) (Hk : Hid (PgRow w v known)) (Hv : Hid (Bt.validP p = true)) (Hl : Hid (Bt.latest known p.line = some page))
 (h1 : ¬ Bt.tagKind page.d0 = 0) (h2 : Bt.tagGen page.d0 = p.gen) (h3 : ¬ Bt.tagKind page.d0 = kind) :
 Calls Tryz.prog 65 #[v, .agg p.cells, .int .i64 kind, .bool false] w (LookPost known p kind false w) := by
 have Hpok := hid (Hk.out.ok page (latest_mem Hl.out).1)
 have HX : Hid (Bt.lookup known p kind false = .bad 14) := hid (by simp only [Bt.lookup, Hv.out, Hl.out]; simp [h1, h2, h3])
 have b1 : (Bt.tagKind page.d0 == 0) = false := by simp [h1]
 have b2 : (Bt.tagGen page.d0 != p.gen) = false := by simp [h2]
 have b3 : (Bt.tagKind page.d0 != kind) = true := by simp [h3]
 clear h1 h2 h3
 exact sG8
theorem lookup_fe (known : List Bt.Page) (v : Value) (p : Bt.Ptr) (kind : Int) (page : Bt.Page) (w : World) (Hk : Hid (PgRow w v known)) (Hv : Hid (Bt.validP p = true)) (Hl : Hid (Bt.latest known p.line = some page))
 (h1 : ¬ Bt.tagKind page.d0 = 0) (h2 : Bt.tagGen page.d0 = p.gen) (h3 : Bt.tagKind page.d0 = kind) :
 Calls Tryz.prog 65 #[v, .agg p.cells, .int .i64 kind, .bool false] w (LookPost known p kind false w) := by
 have Hpok := hid (Hk.out.ok page (latest_mem Hl.out).1)
 have HX : Hid (Bt.lookup known p kind false = .found page) := hid (by simp only [Bt.lookup, Hv.out, Hl.out]; simp [← h3, h1, h2])
 have b1 : (Bt.tagKind page.d0 == 0) = false := by simp [h1]
 have b2 : (Bt.tagGen page.d0 != p.gen) = false := by simp [h2]
 have b3 : (Bt.tagKind page.d0 != kind) = false := by simp [h3]
 clear h1 h2 h3
 exact sG8
theorem sG5 {P : Prop} (h : P := by
 have tg51 := trivial
 have tg53 := trivial
 have tg55 := trivial
 have tg56 := trivial
 exact wG6) : P := h
theorem lookup_tb (known : List Bt.Page) (v : Value) (p : Bt.Ptr) (kind : Int) (page : Bt.Page) (w : World) (Hk : Hid (PgRow w v known)) (Hv : Hid (Bt.validP p = true)) (Hl : Hid (Bt.latest known p.line = some page))
 (HK : Hid (Bt.locked page = false)) (h1 : Bt.tagKind page.d0 = 0) :
 Calls Tryz.prog 65 #[v, .agg p.cells, .int .i64 kind, .bool true] w (LookPost known p kind true w) := by
 have Hpok := hid (Hk.out.ok page (latest_mem Hl.out).1)
 have HX : Hid (Bt.lookup known p kind true = .bad 11) := hid (by simp only [Bt.lookup, Hv.out, Hl.out]; simp [h1, HK.out])
 have b1 : (Bt.tagKind page.d0 == 0) = true := by simp [h1]
 clear h1
 exact sG5
theorem lookup_tc (known : List Bt.Page) (v : Value) (p : Bt.Ptr) (kind : Int) (page : Bt.Page) (w : World) (Hk : Hid (PgRow w v known)) (Hv : Hid (Bt.validP p = true)) (Hl : Hid (Bt.latest known p.line = some page))
 (HK : Hid (Bt.locked page = false)) (h1 : ¬ Bt.tagKind page.d0 = 0) (h2 : ¬ Bt.tagGen page.d0 = p.gen) :
 Calls Tryz.prog 65 #[v, .agg p.cells, .int .i64 kind, .bool true] w (LookPost known p kind true w) := by
 have Hpok := hid (Hk.out.ok page (latest_mem Hl.out).1)
 have HX : Hid (Bt.lookup known p kind true = .bad 11) := hid (by simp only [Bt.lookup, Hv.out, Hl.out]; simp [h1, h2, HK.out])
 have b1 : (Bt.tagKind page.d0 == 0) = false := by simp [h1]
 have b2 : (Bt.tagGen page.d0 != p.gen) = true := by simp [h2]
 clear h1 h2
 exact sG5
theorem lookup_td (known : List Bt.Page) (v : Value) (p : Bt.Ptr) (kind : Int) (page : Bt.Page) (w : World) (Hk : Hid (PgRow w v known)) (Hv : Hid (Bt.validP p = true)) (Hl : Hid (Bt.latest known p.line = some page))
 (HK : Hid (Bt.locked page = false)) (h1 : ¬ Bt.tagKind page.d0 = 0) (h2 : Bt.tagGen page.d0 = p.gen) (h3 : ¬ Bt.tagKind page.d0 = kind) :
 Calls Tryz.prog 65 #[v, .agg p.cells, .int .i64 kind, .bool true] w (LookPost known p kind true w) := by
 have Hpok := hid (Hk.out.ok page (latest_mem Hl.out).1)
 have HX : Hid (Bt.lookup known p kind true = .bad 14) := hid (by simp only [Bt.lookup, Hv.out, Hl.out]; simp [h1, h2, h3, HK.out])
 have b1 : (Bt.tagKind page.d0 == 0) = false := by simp [h1]
 have b2 : (Bt.tagGen page.d0 != p.gen) = false := by simp [h2]
 have b3 : (Bt.tagKind page.d0 != kind) = true := by simp [h3]
 clear h1 h2 h3
 exact sG5
theorem lookup_te (known : List Bt.Page) (v : Value) (p : Bt.Ptr) (kind : Int) (page : Bt.Page) (w : World) (Hk : Hid (PgRow w v known)) (Hv : Hid (Bt.validP p = true)) (Hl : Hid (Bt.latest known p.line = some page))
 (HK : Hid (Bt.locked page = false)) (h1 : ¬ Bt.tagKind page.d0 = 0) (h2 : Bt.tagGen page.d0 = p.gen) (h3 : Bt.tagKind page.d0 = kind) :
 Calls Tryz.prog 65 #[v, .agg p.cells, .int .i64 kind, .bool true] w (LookPost known p kind true w) := by
 have Hpok := hid (Hk.out.ok page (latest_mem Hl.out).1)
 have HX : Hid (Bt.lookup known p kind true = .found page) := hid (by simp only [Bt.lookup, Hv.out, Hl.out]; simp [← h3, h1, h2, HK.out])
 have b1 : (Bt.tagKind page.d0 == 0) = false := by simp [h1]
 have b2 : (Bt.tagGen page.d0 != p.gen) = false := by simp [h2]
 have b3 : (Bt.tagKind page.d0 != kind) = false := by simp [h3]
 clear h1 h2 h3
 exact sG5
theorem lookup_ta (known : List Bt.Page) (v : Value) (p : Bt.Ptr) (kind : Int) (page : Bt.Page) (w : World) (Hk : Hid (PgRow w v known)) (Hv : Hid (Bt.validP p = true)) (Hl : Hid (Bt.latest known p.line = some page))
 (HK : Hid (Bt.locked page = true)) :
 Calls Tryz.prog 65 #[v, .agg p.cells, .int .i64 kind, .bool true] w (LookPost known p kind true w) := by
 have Hpok := hid (Hk.out.ok page (latest_mem Hl.out).1)
 have HX : Hid (Bt.lookup known p kind true = .bad 3) := hid (by simp only [Bt.lookup, Hv.out, Hl.out]; simp [HK.out])
 exact sG5
theorem lookup_any (known : List Bt.Page) (v : Value) (p : Bt.Ptr) (kind : Int) (locks : Bool) (w : World) (hk : PgRow w v known) : Calls Tryz.prog 65 #[v, .agg p.cells, .int .i64 kind, .bool locks] w (LookPost known p kind locks w) := by
 have Hk := hid hk
 rcases hv : Bt.validP p with _ | _
 ·exact lookup_bad known v p kind locks w (hid hv)
 ·have Hv := hid hv
  rcases hl : Bt.latest known p.line with _ | page
  ·exact lookup_none known v p kind locks w Hk Hv (hid hl)
  ·have Hl := hid hl
   rcases locks with _ | _
   ·by_cases h1 : Bt.tagKind page.d0 = 0
    ·exact lookup_fb known v p kind page w Hk Hv Hl h1
    ·by_cases h2 : Bt.tagGen page.d0 = p.gen
     ·by_cases h3 : Bt.tagKind page.d0 = kind
      ·exact lookup_fe known v p kind page w Hk Hv Hl h1 h2 h3
      ·exact lookup_fd known v p kind page w Hk Hv Hl h1 h2 h3
     ·exact lookup_fc known v p kind page w Hk Hv Hl h1 h2
   ·rcases hk : Bt.locked page with _ | _
    ·have HK := hid hk
     by_cases h1 : Bt.tagKind page.d0 = 0
     ·exact lookup_tb known v p kind page w Hk Hv Hl HK h1
     ·by_cases h2 : Bt.tagGen page.d0 = p.gen
      ·by_cases h3 : Bt.tagKind page.d0 = kind
       ·exact lookup_te known v p kind page w Hk Hv Hl HK h1 h2 h3
       ·exact lookup_td known v p kind page w Hk Hv Hl HK h1 h2 h3
      ·exact lookup_tc known v p kind page w Hk Hv Hl HK h1 h2
    ·exact lookup_ta known v p kind page w Hk Hv Hl (hid hk)
end Go.Proofs.YtjmpekanlmepmaaGreatDoor
