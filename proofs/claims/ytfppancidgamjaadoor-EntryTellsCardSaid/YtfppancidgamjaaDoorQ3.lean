/- The walks over the search for a text that may be no part, and over what may be a path. -/
import Derived.Test.YtfppancidgamjaaDoorQ2
import Derived.Test.YtfppancidgamjaaDoorShelf
import Derived.Below
import Derived.Laws.Rows
import Derived.ChangeAgain
namespace Go.Proofs.YtfppancidgamjaaDoor
set_option linter.unusedVariables false
set_option linter.unusedSimpArgs false
open Go.RowKit

/-- Texts as a slice's cells hold them. -/
def RdS (W : World) (A : Option Addr) (l : List (List UInt8)) : Prop := ∀ i (h : i < l.length), ∃ b off, A = some ⟨b, off, none⟩ ∧ W.cell? ⟨b, off + i, none⟩ = some (.string (str l[i]))
theorem RdS.below {W W' : World} {A : Option Addr} {l : List (List UInt8)} (h : RdS W A l) (hb : Below W.heap.size W W') : RdS W' A l := fun i hi => by
  obtain ⟨b, off, ha, hc⟩ := h i hi
  exact ⟨b, off, ha, (hb.cell (World.block_lt_of_cell? W _ hc)).trans hc⟩

theorem not_any (s : ByteArray) (hs : s.size ≤ 9223372036854775807) (w : World) : Calls Tryd.prog 60 #[.string s] w fun e w' => e = .returned (.bool (!okPart s.data.toList)) ∧ Below w.heap.size w w' := by
  go_enter Tryd.func60, Tryd.ntmps60
  go_wp2_with (go_at_call 61; refine (part_any s hs _).mono ?_; rintro e w1 ⟨rfl, b1⟩)
  go_ret
  exact ⟨rfl, b1⟩

set_option maxHeartbeats 800000 in
theorem indexFunc_any (A : Option Addr) (c : Nat) (l : List (List UInt8)) (hl : l.length ≤ 4294967296) (hx : ∀ x ∈ l, x.length ≤ 4294967296) (w : World) (hr : RdS w A l) :
    Calls Tryd.prog 70 #[.slice A l.length c, .func (.func 60) #[] #[]] w fun e w' => ∃ r : Int, e = .returned (.int .i64 r) ∧ -1 ≤ r ∧ r ≤ 4294967296 ∧ (0 ≤ r ↔ l.all okPart = false) ∧ Below w.heap.size w w' := by
  have Hr := Lib.hid hr
  have Hx := Lib.hid hx
  clear hr hx
  have hl' : (l.length : Int) ≤ 4294967296 := by omega
  go_enter Tryd.func70, Tryd.ntmps70
  go_wp2
  go_loopg [8] l.length (fun k i wr => k ≤ l.length ∧ i = .int .i64 ((l.length : Int) - (k : Int)) ∧ Below w.heap.size w wr ∧ Hid (∀ j (h : j < l.length), j < l.length - k → okPart l[j] = true))
  case atStart => exact ⟨Nat.le_refl _, congrArg (Value.int .i64) (by omega), Below.refl _ _, Lib.hid (fun j h h2 => by omega)⟩
  case round =>
    obtain ⟨hk, rfl, hbb, hg⟩ := hrel
    by_cases hk0 : gk ≠ 0
    · obtain ⟨j, rfl⟩ : ∃ j, gk = j + 1 := ⟨gk - 1, by omega⟩
      obtain ⟨i, hi⟩ : ∃ i : Nat, i + (j + 1) = l.length := ⟨l.length - (j + 1), by omega⟩
      have hil : i < l.length := by omega
      obtain ⟨b, off, rfl, hcell⟩ := Hr.out i hil
      have hcw : wr.cell? ⟨b, off + i, none⟩ = some (.string (str l[i])) := (hbb.cell (World.block_lt_of_cell? w _ hcell)).trans hcell
      have hxi := Hx.out _ (List.getElem_mem hil)
      have hg2 : okPart l[i] = true → Hid (∀ j' (h : j' < l.length), j' < l.length - j → okPart l[j'] = true) := fun h1 => Lib.hid (fun j' h h2 => by
        by_cases e : j' = i
        · subst e; exact h1
        · exact hg.out j' h (by omega))
      have hbad : okPart l[i] = false → Hid (l.all okPart = false) := fun h1 => Lib.hid (by
        rw [List.all_eq_false]
        exact ⟨_, List.getElem_mem hil, by simp [h1]⟩)
      have Hg2 := Lib.hid hg2
      have Hbad := Lib.hid hbad
      clear hg2 hbad
      generalize l[i] = x at hcw hxi Hg2 Hbad hcell
      have e1 : (l.length : Int) - ((j + 1 : Nat) : Int) = (i : Int) := by omega
      have i0 : (0 : Int) ≤ (i : Int) := by omega
      have i1 : (i : Int) < (l.length : Int) := by omega
      rw [e1]
      clear e1 hcell
      have Hi := Lib.hid hi
      clear hi
      go_wp2_with fail
      refine (not_any (str x) (by show x.length ≤ _; omega) wr).mono ?_
      rintro e w3 ⟨rfl, b3⟩
      have b3 := hbb.trans (b3.mono hbb.size)
      clear hcw hbb
      cases hok : okPart x with
      | true =>
        have hv : okPart (str x).data.toList = true := hok
        rw [hv]
        go_wp2
        go_roundg j
        case measure => omega
        case rel => exact ⟨by omega, congrArg (Value.int .i64) (by have := Hi.out; omega), b3, Hg2.out hok⟩
      | false =>
        have hv : okPart (str x).data.toList = false := hok
        rw [hv]
        go_wp2
        go_ret
        exact ⟨i, rfl, by omega, by omega, ⟨fun _ => (Hbad.out hok).out, fun _ => i0⟩, b3⟩
    · obtain rfl : gk = 0 := by omega
      have hall : l.all okPart = true := by
        rw [List.all_eq_true]
        intro x hx
        obtain ⟨i, hi, rfl⟩ := List.mem_iff_getElem.1 hx
        exact hg.out i hi (by omega)
      have Hall := Lib.hid hall
      clear hall
      go_wp2
      go_ret
      exact ⟨-1, rfl, by omega, by omega, ⟨fun h => by omega, fun h => by rw [Hall.out] at h; cases h⟩, hbb⟩

theorem containsFunc_any (A : Option Addr) (c : Nat) (l : List (List UInt8)) (hl : l.length ≤ 4294967296) (hx : ∀ x ∈ l, x.length ≤ 4294967296) (w : World) (hr : RdS w A l) :
    Calls Tryd.prog 62 #[.slice A l.length c, .func (.func 60) #[] #[]] w fun e w' => e = .returned (.bool (!l.all okPart)) ∧ Below w.heap.size w w' := by
  have hc := indexFunc_any A c l hl hx w hr
  clear hr
  cases hv : l.all okPart with
  | true =>
    rw [hv] at hc
    have Hc := Lib.hid hc
    clear hc
    go_enter Tryd.func62, Tryd.ntmps62
    go_wp2_with fail
    refine Hc.out.mono ?_
    rintro e w1 ⟨r, rfl, r0, r1, r2, b1⟩
    have h : ¬ 0 ≤ r := fun h => by have := r2.1 h; revert this; simp
    clear r2
    go_wp2
    go_ret
    refine ⟨?_, b1⟩
    show Ending.returned (.bool (decide (0 ≤ r))) = _
    rw [decide_eq_false (show ¬ 0 ≤ r by omega)]
    rfl
  | false =>
    rw [hv] at hc
    have Hc := Lib.hid hc
    clear hc
    go_enter Tryd.func62, Tryd.ntmps62
    go_wp2_with fail
    refine Hc.out.mono ?_
    rintro e w1 ⟨r, rfl, r0, r1, r2, b1⟩
    have h : 0 ≤ r := r2.2 (by simp)
    clear r2
    go_wp2
    go_ret
    refine ⟨?_, b1⟩
    first
      | rfl
      | (show Ending.returned (.bool (decide (0 ≤ r))) = _
         rw [decide_eq_true h]
         rfl)

/-- What every world of a call has: the program's own variables as they were shaped. -/
abbrev Sh (w : World) : Prop := w.ShapedOpen Tryd.prog
theorem sh_below {w w' : World} (h : Sh w) (hb : Below w.heap.size w w') : Sh w' := h.keptBut (hb.frame (fun _ => False)) (fun _ h => h.elim)

/-- strings.Split at a slash. -/
theorem split_any (s : ByteArray) (hs : s.size < 4294967281) (w : World) (h : Sh w) : Calls Tryd.prog 63 #[.string s, .string slash] w fun e w' => e = .returned (.slice (some ⟨w.heap.size, 0, none⟩) (psplit s.data.toList).length (psplit s.data.toList).length) ∧ RdS w' (some ⟨w.heap.size, 0, none⟩) (psplit s.data.toList) ∧ Below w.heap.size w w' := by
  refine (Tryd.strings_Split_shaped s slash w h hs (by decide)).mono ?_
  rintro e w' ⟨rfl, rfl⟩
  rw [countB_psplit, splitB_psplit]
  refine ⟨rfl, fun i hi => ⟨w.heap.size, 0, rfl, ?_⟩, (Below.refl _ w).alloc (Nat.le_refl _) _⟩
  rw [cell_of_row _ _ _ _ _ _ (heap_alloc_new w _)]
  simp [hi]
end Go.Proofs.YtfppancidgamjaaDoor
