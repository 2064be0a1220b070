/- The walk over Below of package path. -/
import Derived.Test.YtmbpggmcelmgnaaDoorQb
import Derived.Laws.Concat
namespace Go.Proofs.YtmbpggmcelmgnaaDoor
set_option linter.unusedVariables false
set_option linter.unusedSimpArgs false
open Go.RowKit

/-- Is one text another one, or below it? -/
def below (s of : List UInt8) : Bool := okPath s && okPath of && Lib.hasPrefix (s ++ [47]) (of ++ [47])
set_option maxHeartbeats 800000 in
theorem below_any (s of : ByteArray) (hs : s.size ≤ 4294967280) (ho : of.size ≤ 4294967280) (w : World) (h : Sh w) : Calls Tryd.prog 19 #[.string s, .string of] w fun e w' => e = .returned (.bool (below s.data.toList of.data.toList)) ∧ Below w.heap.size w w' := by
  have Hr1 := Lib.hid (fun w1 h1 => right_any s (by omega) w1 h1)
  have Hr2 := Lib.hid (fun w1 h1 => right_any of (by omega) w1 h1)
  have Hh := Lib.hid h
  have hp := fun w1 => Tryd.strings_HasPrefix (s ++ slash) (of ++ slash) w1
  have ea : (s ++ slash).data.toList = s.data.toList ++ [47] := by simp [slash]
  have eb : (of ++ slash).data.toList = of.data.toList ++ [47] := by simp [slash]
  rw [ea, eb] at hp
  have Hp := Lib.hid hp
  have hz1 : s.size + slash.size ≤ 9223372036854775807 := by show s.size + 1 ≤ _; omega
  have hz2 : of.size + slash.size ≤ 9223372036854775807 := by show of.size + 1 ≤ _; omega
  have hr1 := fun W => run_string_add_sum (P := Tryd.prog) (w := W) s slash hz1
  have hr2 := fun W => run_string_add_sum (P := Tryd.prog) (w := W) of slash hz2
  clear hp ea eb h
  unfold below
  generalize Lib.hasPrefix (s.data.toList ++ [47]) (of.data.toList ++ [47]) = x at Hp ⊢
  generalize okPath s.data.toList = y at Hr1 ⊢
  generalize okPath of.data.toList = z at Hr2 ⊢
  cases y <;> cases z <;>
  · go_enter Tryd.func19, Tryd.ntmps19
    go_wp2_with fail
    refine (Hr1.out w Hh.out).mono ?_
    rintro e w1 ⟨rfl, b1⟩
    first
      | (go_wp2_with fail
         refine (Hr2.out w1 (sh_below Hh.out b1)).mono ?_
         rintro e w2 ⟨rfl, b2⟩
         first
           | (go_wp2_with fail
              refine (Hp.out w2).mono ?_
              rintro e w3 ⟨rfl, rfl⟩
              go_wp2
              go_ret
              exact ⟨rfl, b1.trans (b2.mono b1.size)⟩)
           | (go_wp2
              go_ret
              exact ⟨rfl, b1.trans (b2.mono b1.size)⟩))
      | (go_wp2
         go_ret
         exact ⟨rfl, b1⟩)
end Go.Proofs.YtmbpggmcelmgnaaDoor
