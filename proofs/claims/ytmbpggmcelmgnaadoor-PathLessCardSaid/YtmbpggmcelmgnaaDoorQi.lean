/- The walk over awake of the laws on paths. -/
import Derived.Test.YtmbpggmcelmgnaaDoorQh
namespace Go.Proofs.YtmbpggmcelmgnaaDoor
set_option linter.unusedVariables false
set_option linter.unusedSimpArgs false
open Go.RowKit

theorem wide_ab : okPath [97, 47, 98] = true := by decide +kernel
theorem wide_dots : okPath [97, 47, 46, 46] = false := by decide +kernel
theorem wide_sorted : SortedP [[97], [97, 47, 98], [97, 46, 98]] := by
  intro i h
  match i, h with
  | 0, _ => exact ⟨show okPath [97] = true by decide +kernel, fun h => absurd h (by decide)⟩
  | 1, _ => exact ⟨show okPath [97, 47, 98] = true by decide +kernel, fun _ => show cmpL (psplit [97]) (psplit [97, 47, 98]) < 0 by decide +kernel⟩
  | 2, _ => exact ⟨show okPath [97, 46, 98] = true by decide +kernel, fun _ => show cmpL (psplit [97, 47, 98]) (psplit [97, 46, 98]) < 0 by decide +kernel⟩
theorem wide_parent : parentOf [97, 47, 98, 47, 99] = [97, 47, 98] := by decide +kernel
theorem wide_below : below [97, 47, 98] [97] = true := by decide +kernel
theorem wide_parts : partsOf [97, 47, 98] = [[97], [98]] := by decide +kernel

set_option maxHeartbeats 1600000 in
theorem awake_any (w : World) (h : Sh w) : Calls Tryd.prog 10 #[] w fun e w' => e = .returned (.bool true) ∧ Below w.heap.size w w' := by
  have Hh := Lib.hid h
  have H1 := Lib.hid (fun w1 h1 => right_any (str [97, 47, 98]) (by decide) w1 h1)
  have H2 := Lib.hid (fun w1 h1 => right_any (str [97, 47, 46, 46]) (by decide) w1 h1)
  have H3 := Lib.hid (fun A w1 h1 hr => sorted_any A 3 [[97], [97, 47, 98], [97, 46, 98]] (by decide) (by decide) w1 h1 hr)
  have H4 := Lib.hid (fun w1 h1 => parent_any (str [97, 47, 98, 47, 99]) (by decide) w1 h1)
  have H5 := Lib.hid (fun w1 h1 => below_any (str [97, 47, 98]) (str [97]) (by decide) (by decide) w1 h1)
  have H6 := Lib.hid (fun w1 h1 => parts_any (str [97, 47, 98]) (by decide) w1 h1)
  simp only [data_str, wide_ab, wide_dots, wide_parent, wide_below, wide_parts] at H1 H2 H4 H5 H6
  clear h
  go_enter Tryd.func10, Tryd.ntmps10
  go_wp2_with fail
  refine (H1.out _ Hh.out).mono ?_
  rintro e w1 ⟨rfl, b1⟩
  go_wp2_with fail
  refine (H2.out _ (sh_below Hh.out b1)).mono ?_
  rintro e w2 ⟨rfl, b2⟩
  have hb2 := b1.trans (b2.mono b1.size)
  clear b1 b2
  go_wp2_with fail
  refine (H3.out _ _ (sh_below Hh.out (hb2.alloc hb2.size _)) ?_).mono ?_
  · intro i hi
    refine ⟨w2.heap.size, 0, rfl, ?_⟩
    rw [cell_of_row _ _ _ _ _ _ (heap_alloc_new w2 _)]
    match i, hi with
    | 0, _ => rfl
    | 1, _ => rfl
    | 2, _ => rfl
  rintro e w3 ⟨r, rfl, hr, b3⟩
  obtain rfl : r = true := hr.2 wide_sorted
  have hb3 := (hb2.alloc hb2.size _).trans (b3.mono (by have := hb2.size; simp; omega))
  clear hb2 b3 hr
  go_wp2_with fail
  refine (H4.out _ (sh_below Hh.out hb3)).mono ?_
  rintro e w4 ⟨rfl, b4⟩
  rw [show str [97, 47, 98] = (⟨#[97, 47, 98]⟩ : ByteArray) from rfl]
  have hb4 := hb3.trans (b4.mono hb3.size)
  clear hb3 b4
  go_wp2_with fail
  refine (H5.out _ (sh_below Hh.out hb4)).mono ?_
  rintro e w5 ⟨rfl, b5⟩
  have hb5 := hb4.trans (b5.mono hb4.size)
  clear hb4 b5
  go_wp2_with fail
  refine (H6.out _ (sh_below Hh.out hb5)).mono ?_
  rintro e w6 ⟨A, c, rfl, r6, b6⟩
  have hb6 := hb5.trans (b6.mono hb5.size)
  clear hb5 b6 r6
  go_wp2
  go_ret
  exact ⟨rfl, hb6⟩
end Go.Proofs.YtmbpggmcelmgnaaDoor
