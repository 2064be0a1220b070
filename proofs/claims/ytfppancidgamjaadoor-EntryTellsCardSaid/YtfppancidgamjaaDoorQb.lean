/- The walk over Compare of package path. -/
import Derived.Test.YtfppancidgamjaaDoorQa
namespace Go.Proofs.YtfppancidgamjaaDoor
set_option linter.unusedVariables false
set_option linter.unusedSimpArgs false
open Go.RowKit

theorem compare_any (a b : ByteArray) (ha : a.size ≤ 4294967280) (hb : b.size ≤ 4294967280) (w : World) (h : Sh w) : Calls Tryd.prog 64 #[.string a, .string b] w fun e w' => e = .returned (.int .i64 (cmpL (psplit a.data.toList) (psplit b.data.toList))) ∧ Below w.heap.size w w' := by
  have ha1 := (psplit_len a.data.toList).1
  have hb1 := (psplit_len b.data.toList).1
  have ha2 : a.data.toList.length = a.size := rfl
  have hb2 : b.data.toList.length = b.size := rfl
  have Hs := Lib.hid (fun w1 => split_any a (by omega) w1)
  have Ht := Lib.hid (fun w1 => split_any b (by omega) w1)
  have Hc := Lib.hid (fun A1 A2 c1 c2 (w1 : World) => slicesCompare_any A1 A2 c1 c2 (psplit a.data.toList) (psplit b.data.toList) (by omega) (by omega) w1)
  have Hh := Lib.hid h
  clear ha1 hb1 ha2 hb2 h
  generalize psplit a.data.toList = l1 at Hs Hc ⊢
  generalize psplit b.data.toList = l2 at Ht Hc ⊢
  go_enter Tryd.func64, Tryd.ntmps64
  go_wp2_with fail
  refine (Hs.out w Hh.out).mono ?_
  rintro e w1 ⟨rfl, r1, b1⟩
  go_wp2_with fail
  refine (Ht.out w1 (sh_below Hh.out b1)).mono ?_
  rintro e w2 ⟨rfl, r2, b2⟩
  go_wp2_with fail
  refine (Hc.out _ _ _ _ w2 (r1.below b2) r2).mono ?_
  rintro e w3 ⟨rfl, rfl⟩
  go_wp2
  go_ret
  exact ⟨rfl, b1.trans (b2.mono b1.size)⟩
end Go.Proofs.YtfppancidgamjaaDoor
