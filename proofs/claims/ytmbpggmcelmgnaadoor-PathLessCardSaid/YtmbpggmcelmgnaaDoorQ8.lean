/- The walks over Parts of package path, and over the order of two texts. -/
import Derived.Test.YtmbpggmcelmgnaaDoorQ7
namespace Go.Proofs.YtmbpggmcelmgnaaDoor
set_option linter.unusedVariables false
set_option linter.unusedSimpArgs false
open Go.RowKit

/-- A path's parts; none of what may be no path. -/
def partsOf (s : List UInt8) : List (List UInt8) := if okPath s then psplit s else []
theorem parts_any (s : ByteArray) (hs : s.size ≤ 4294967280) (w : World) (h : Sh w) : Calls Tryd.prog 11 #[.string s] w fun e w' => ∃ A c, e = .returned (.slice A (partsOf s.data.toList).length c) ∧ RdS w' A (partsOf s.data.toList) ∧ Below w.heap.size w w' := by
  have hr := right_any s (by omega) w h
  cases hok : okPath s.data.toList with
  | true =>
    rw [hok] at hr
    rw [show partsOf s.data.toList = psplit s.data.toList by unfold partsOf; rw [if_pos hok]]
    have Hr := Lib.hid hr
    have Hsp := Lib.hid (fun w1 => split_any s (by omega) w1)
    have Hh := Lib.hid h
    clear hr h hok
    go_enter Tryd.func11, Tryd.ntmps11
    go_wp2_with fail
    refine Hr.out.mono ?_
    rintro e w1 ⟨rfl, b1⟩
    go_wp2_with fail
    refine (Hsp.out w1 (sh_below Hh.out b1)).mono ?_
    rintro e w2 ⟨rfl, r2, b2⟩
    go_wp2
    go_ret
    exact ⟨_, _, rfl, r2, b1.trans (b2.mono b1.size)⟩
  | false =>
    rw [hok] at hr
    rw [show partsOf s.data.toList = [] by unfold partsOf; rw [if_neg (by rw [hok]; exact Bool.false_ne_true)]]
    have Hr := Lib.hid hr
    clear hr h hok
    go_enter Tryd.func11, Tryd.ntmps11
    go_wp2_with fail
    refine Hr.out.mono ?_
    rintro e w1 ⟨rfl, b1⟩
    go_wp2
    go_ret
    exact ⟨none, 0, rfl, fun i hi => absurd hi (Nat.not_lt_zero _), b1⟩
end Go.Proofs.YtmbpggmcelmgnaaDoor
