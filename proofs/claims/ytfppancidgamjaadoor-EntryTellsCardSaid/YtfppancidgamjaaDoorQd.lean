/- The walk over Sorted of package path. -/
import Derived.Test.YtfppancidgamjaaDoorQb
namespace Go.Proofs.YtfppancidgamjaaDoor
set_option linter.unusedVariables false
set_option linter.unusedSimpArgs false
open Go.RowKit

/-- Each text may be a path, and stands behind the one ahead of it. -/
def SortedP (l : List (List UInt8)) : Prop := ∀ i (h : i < l.length), okPath l[i] = true ∧ (∀ h0 : 0 < i, cmpL (psplit (l[i - 1]'(by omega))) (psplit l[i]) < 0)
theorem cmpL_range : ∀ a b : List (List UInt8), -1 ≤ cmpL a b ∧ cmpL a b ≤ 1
  | [], [] => by decide
  | [], _ :: _ => by show (-1 : Int) ≤ -1 ∧ (-1 : Int) ≤ 1; omega
  | _ :: _, [] => by show (-1 : Int) ≤ 1 ∧ (1 : Int) ≤ 1; omega
  | x :: xs, y :: ys => by
    show -1 ≤ (if cmpT x y = 0 then cmpL xs ys else cmpT x y) ∧ (if cmpT x y = 0 then cmpL xs ys else cmpT x y) ≤ 1
    split
    · exact cmpL_range xs ys
    · unfold cmpT; split
      · decide
      · split <;> decide

set_option maxHeartbeats 1600000 in
theorem sorted_any (A : Option Addr) (c : Nat) (l : List (List UInt8)) (hl : l.length ≤ 4294967296) (hx : ∀ x ∈ l, x.length ≤ 4294967280) (w : World) (h : Sh w) (hr : RdS w A l) :
    Calls Tryd.prog 49 #[.slice A l.length c] w fun e w' => ∃ r : Bool, e = .returned (.bool r) ∧ (r = true ↔ SortedP l) ∧ Below w.heap.size w w' := by
  have Hr := Lib.hid hr
  have Hx := Lib.hid hx
  have Hh := Lib.hid h
  clear hr hx h
  have hl' : (l.length : Int) ≤ 4294967296 := by omega
  go_enter Tryd.func49, Tryd.ntmps49
  go_wp2
  go_loopg [7] l.length (fun k i wr => k ≤ l.length ∧ i = .int .i64 ((l.length : Int) - (k : Int)) ∧ Below w.heap.size w wr ∧ Hid (∀ i (h : i < l.length), i < l.length - k → okPath l[i] = true ∧ (∀ h0 : 0 < i, cmpL (psplit (l[i - 1]'(by omega))) (psplit l[i]) < 0)))
  case atStart => exact ⟨Nat.le_refl _, congrArg (Value.int .i64) (by omega), Below.refl _ _, Lib.hid (fun j h h2 => by omega)⟩
  case round =>
    obtain ⟨hk, rfl, hbb, hg⟩ := hrel
    by_cases hk0 : gk ≠ 0
    · obtain ⟨j, rfl⟩ : ∃ j, gk = j + 1 := ⟨gk - 1, by omega⟩
      obtain ⟨i, hi⟩ : ∃ i : Nat, i + (j + 1) = l.length := ⟨l.length - (j + 1), by omega⟩
      have hil : i < l.length := by omega
      obtain ⟨b, off, rfl, hcell⟩ := Hr.out i hil
      have hcw : wr.cell? ⟨b, off + i, none⟩ = some (.string (str l[i])) := (hbb.cell (World.block_lt_of_cell? w _ hcell)).trans hcell
      have e1 : (l.length : Int) - ((j + 1 : Nat) : Int) = (i : Int) := by omega
      have i0 : (0 : Int) ≤ (i : Int) := by omega
      have i1 : (i : Int) < (l.length : Int) := by omega
      rw [e1]
      clear e1
      have Hi := Lib.hid hi
      clear hi
      have hxi := Hx.out _ (List.getElem_mem hil)
      have Hri := Lib.hid (right_any (str l[i]) (by show l[i].length ≤ _; omega) wr (sh_below Hh.out hbb))
      cases hok : okPath l[i] with
      | false =>
        have Hno : Hid (¬ SortedP l) := Lib.hid (fun hs => by have := (hs i hil).1; rw [hok] at this; cases this)
        have hv : okPath (str l[i]).data.toList = false := hok
        rw [hv] at Hri
        clear hv hok hcell hxi
        generalize l[i] = x at hcw Hri
        go_wp2_with fail
        refine Hri.out.mono ?_
        rintro e w3 ⟨rfl, b3⟩
        go_wp2
        go_ret
        exact ⟨false, rfl, ⟨fun h => (by cases h), fun h => absurd h Hno.out⟩, hbb.trans (b3.mono hbb.size)⟩
      | true =>
        have hv : okPath (str l[i]).data.toList = true := hok
        rw [hv] at Hri
        clear hv
        by_cases hi0 : i = 0
        · have hg2 : Hid (∀ i (h : i < l.length), i < l.length - j → okPath l[i] = true ∧ (∀ h0 : 0 < i, cmpL (psplit (l[i - 1]'(by omega))) (psplit l[i]) < 0)) := Lib.hid (fun i' h h2 => by
            have : i' = i := by have := Hi.out; omega
            subst this
            exact ⟨hok, fun h0 => by omega⟩)
          subst hi0
          clear hok hcell hxi
          generalize l[0] = x at hcw Hri
          rw [Nat.add_zero] at hcw
          go_wp2_with fail
          refine Hri.out.mono ?_
          rintro e w3 ⟨rfl, b3⟩
          go_wp2
          go_roundg j
          case measure => omega
          case rel => exact ⟨by omega, congrArg (Value.int .i64) (by have := Hi.out; omega), hbb.trans (b3.mono hbb.size), hg2⟩
        · have hil1 : i - 1 < l.length := by omega
          obtain ⟨b', off', hA, hcell1⟩ := Hr.out (i - 1) hil1
          injection hA with hA
          injection hA with hb hoff
          subst hb; subst hoff
          have hcw1 : wr.cell? ⟨b, off + (i - 1), none⟩ = some (.string (str l[i - 1])) := (hbb.cell (World.block_lt_of_cell? w _ hcell1)).trans hcell1
          obtain ⟨m, rfl⟩ : ∃ m, i = m + 1 := ⟨i - 1, by omega⟩
          simp only [Nat.add_sub_cancel] at hcw1 hil1
          have hxm := Hx.out _ (List.getElem_mem hil1)
          have hg2 : cmpL (psplit l[m]) (psplit l[m + 1]) < 0 → Hid (∀ i (h : i < l.length), i < l.length - j → okPath l[i] = true ∧ (∀ h0 : 0 < i, cmpL (psplit (l[i - 1]'(by omega))) (psplit l[i]) < 0)) := fun hlt => Lib.hid (fun i' h h2 => by
            by_cases he : i' = m + 1
            · subst he
              exact ⟨hok, fun _ => hlt⟩
            · exact hg.out i' h (by have := Hi.out; omega))
          have hno : ¬ cmpL (psplit l[m]) (psplit l[m + 1]) < 0 → Hid (¬ SortedP l) := fun hlt => Lib.hid (fun hs => hlt ((hs (m + 1) hil).2 (by omega)))
          have Hg2 := Lib.hid hg2
          have Hno := Lib.hid hno
          have hrange := cmpL_range (psplit l[m]) (psplit l[m + 1])
          have Hcmp := Lib.hid (fun w1 h1 => compare_any (str l[m]) (str l[m + 1]) (by show l[m].length ≤ _; omega) (by show l[m + 1].length ≤ _; omega) w1 h1)
          clear hg2 hno hok hcell hcell1 hxi hxm
          generalize l[m + 1] = x at hcw Hri Hg2 Hno Hcmp hrange
          generalize l[m] = y at hcw1 Hg2 Hno Hcmp hrange
          have m0 : (0 : Int) ≤ (m : Int) := by omega
          have m1 : (m : Int) < (l.length : Int) := by omega
          have m2 : ((m + 1 : Nat) : Int) = (m : Int) + 1 := by omega
          rw [m2] at i0 i1 ⊢
          have m3 : (0 : Int) < (m : Int) + 1 := by omega
          go_wp2_with fail
          refine Hri.out.mono ?_
          rintro e w3 ⟨rfl, b3⟩
          have hcw3 := (b3.cell (World.block_lt_of_cell? wr _ hcw1)).trans hcw1
          have hb3 := hbb.trans (b3.mono hbb.size)
          clear hcw hcw1
          go_wp2_with fail
          refine (Hcmp.out w3 (sh_below Hh.out hb3)).mono ?_
          rintro e w4 ⟨rfl, b4⟩
          obtain ⟨r, hr⟩ : ∃ r, cmpL (psplit y) (psplit x) = r := ⟨_, rfl⟩
          have hv : cmpL (psplit (str y).data.toList) (psplit (str x).data.toList) = r := hr
          rw [hv]
          rw [hr] at Hg2 Hno hrange
          clear hv hr hcw3
          by_cases hlt : r < 0
          · have hge : ¬ 0 ≤ r := by omega
            go_wp2
            go_roundg j
            case measure => omega
            case rel => exact ⟨by omega, congrArg (Value.int .i64) (by have := Hi.out; omega), hb3.trans (b4.mono hb3.size), Hg2.out (by omega)⟩
          · have hge : 0 ≤ r := by omega
            go_wp2
            go_ret
            exact ⟨false, rfl, ⟨fun h => (by cases h), fun h => absurd h (Hno.out (by omega)).out⟩, hb3.trans (b4.mono hb3.size)⟩
    · obtain rfl : gk = 0 := by omega
      have Hs : Hid (SortedP l) := Lib.hid (fun i h => hg.out i h (by omega))
      go_wp2
      go_ret
      exact ⟨true, rfl, ⟨fun _ => Hs.out, fun _ => rfl⟩, hbb⟩
end Go.Proofs.YtfppancidgamjaaDoor
