/- The walk over cmp.Compare at texts. -/
import Derived.Test.YtfppancidgamjaaDoorQ7
import Derived.Laws.Cover1
namespace Go.Proofs.YtfppancidgamjaaDoor
set_option linter.unusedVariables false
set_option linter.unusedSimpArgs false
open Go.RowKit

theorem isNaN_any (s : ByteArray) (w : World) : Calls Tryd.prog 82 #[.string s] w fun e w' => e = .returned (.bool false) ∧ w = w' := by
  go_enter Tryd.func82, Tryd.ntmps82
  go_wp2
  go_ret
  refine ⟨?_, rfl⟩
  first
    | rfl
    | (show Ending.returned (.bool (!(s.toList == s.toList))) = _
       simp)

/-- Which of two texts stands ahead, byte by byte. -/
def cmpT (a b : List UInt8) : Int := if Op.bytesLess a b then -1 else if a = b then 0 else 1
theorem cmp_any (a b : ByteArray) (w : World) : Calls Tryd.prog 77 #[.string a, .string b] w fun e w' => e = .returned (.int .i64 (cmpT a.data.toList b.data.toList)) ∧ w = w' := by
  have ea : a.toList = a.data.toList := ByteArray.toList_eq a
  have eb : b.toList = b.data.toList := ByteArray.toList_eq b
  rw [← ea, ← eb]
  clear ea eb
  cases h1 : Op.bytesLess a.toList b.toList with
  | true =>
    have hv : cmpT a.toList b.toList = -1 := by unfold cmpT; rw [h1]; rfl
    rw [hv]
    clear hv
    go_enter Tryd.func77, Tryd.ntmps77
    go_wp2_with (go_at_call 82; refine (isNaN_any _ _).mono ?_; rintro e w1 ⟨rfl, rfl⟩)
    go_ret
    exact ⟨rfl, rfl⟩
  | false =>
    by_cases h2 : a.toList = b.toList
    · have hv : cmpT a.toList b.toList = 0 := by unfold cmpT; rw [h1, if_pos h2]; rfl
      rw [hv]
      clear hv
      rw [h2] at h1
      go_enter Tryd.func77, Tryd.ntmps77
      go_wp2_with (go_at_call 82; refine (isNaN_any _ _).mono ?_; rintro e w1 ⟨rfl, rfl⟩)
      go_ret
      exact ⟨rfl, rfl⟩
    · have hv : cmpT a.toList b.toList = 1 := by unfold cmpT; rw [h1, if_neg h2]; rfl
      rw [hv]
      clear hv
      have h3 : (a.toList == b.toList) = false := by simpa using h2
      go_enter Tryd.func77, Tryd.ntmps77
      go_wp2_with (go_at_call 82; refine (isNaN_any _ _).mono ?_; rintro e w1 ⟨rfl, rfl⟩)
      go_ret
      exact ⟨rfl, rfl⟩
end Go.Proofs.YtfppancidgamjaaDoor
