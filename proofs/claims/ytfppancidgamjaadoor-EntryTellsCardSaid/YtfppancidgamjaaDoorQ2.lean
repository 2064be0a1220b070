/- The walk over what may be a part of a path. -/
import Derived.Test.YtfppancidgamjaaDoorQ1
import Derived.Test.YtfppancidgamjaaDoorProg
import Derived.BigQuiet
import Derived.RowKit
import Derived.KernelRfl
import Derived.Deep.LoopGhost
import Derived.Lib.Hide
import Derived.Laws.RangeAny
import Derived.Laws.RangeString
namespace Go.Proofs.YtfppancidgamjaaDoor
set_option linter.unusedVariables false
set_option linter.unusedSimpArgs false
open Go.RowKit

def okByte (c : UInt8) : Bool := decide (33 ≤ c.toNat) && decide (c.toNat ≤ 126) && decide (c.toNat ≠ 92)
/-- May a text be a part? -/
def okPart (l : List UInt8) : Bool := l.all okByte && decide (1 ≤ l.length) && decide (l.length ≤ 64) && decide (l ≠ [46]) && decide (l ≠ [46, 46])

theorem all_get {s : ByteArray} (h : ∀ j (hj : j < s.size), okByte s[j] = true) : s.data.toList.all okByte = true := by
  rw [List.all_eq_true]
  intro c hc
  obtain ⟨i, hi, rfl⟩ := List.mem_iff_getElem.1 hc
  exact h i (by simpa using hi)
theorem not_all_get {s : ByteArray} (j : Nat) (hj : j < s.size) (h : okByte s[j] = false) : s.data.toList.all okByte = false := by
  rw [List.all_eq_false]
  refine ⟨s[j], ?_, by simp [h]⟩
  exact List.mem_iff_getElem.2 ⟨j, by simpa using hj, rfl⟩
theorem okPart_bad {l : List UInt8} (h : l.all okByte = false) : okPart l = false := by unfold okPart; rw [h]; rfl

set_option maxHeartbeats 1600000 in
theorem part_any (s : ByteArray) (hs : s.size ≤ 9223372036854775807) (w : World) : Calls Tryd.prog 61 #[.string s] w fun e w' => e = .returned (.bool (okPart s.data.toList)) ∧ Below w.heap.size w w' := by
  have hit := fun pos => (Below.refl w.heap.size w).alloc (Nat.le_refl _) (.stringIter s pos)
  have Hit : Hid (∀ pos, Below w.heap.size w (w.iter s pos)) := Lib.hid hit
  clear hit
  have hsz : (s.size : Int) ≤ 9223372036854775807 := by omega
  go_enter Tryd.func61, Tryd.ntmps61
  go_wp2
  go_loopg [] s.size (fun k wr => ∃ pos, pos + k = s.size ∧ wr = w.iter s pos ∧ Hid (∀ j (hj : j < s.size), j < pos → okByte s[j] = true))
  case atStart => exact ⟨0, by omega, rfl, Lib.hid (fun j hj h => by omega)⟩
  case round =>
    obtain ⟨pos, hk, rfl, hgood⟩ := hrel
    by_cases hk0 : gk = 0
    · subst hk0
      have hn := fun ty => run_next_end (P := Tryd.prog) w s pos ty (by omega)
      have hall := all_get (s := s) (fun j hj => hgood.out j hj (by omega))
      have hlen : s.data.toList.length = s.size := rfl
      have hfin : okPart s.data.toList = (decide (1 ≤ s.size) && decide (s.size ≤ 64) && !decide (s.toList = [46]) && !decide (s.toList = [46, 46])) := by
        unfold okPart
        rw [hall, hlen, ByteArray.toList_eq]
        simp only [ne_eq, Bool.true_and, decide_not]
      have Hfin := Lib.hid hfin
      clear hfin hall hlen
      by_cases h1 : 1 ≤ (s.size : Int)
      · by_cases h2 : (s.size : Int) ≤ 64
        · by_cases h3 : s.toList = [46]
          · have Hf : Hid (okPart s.data.toList = false) := Lib.hid (by rw [Hfin.out, decide_eq_true h3]; simp)
            go_wp2
            go_ret
            exact ⟨by rw [Hf.out]; rfl, Hit.out _⟩
          · by_cases h4 : s.toList = [46, 46]
            · have Hf : Hid (okPart s.data.toList = false) := Lib.hid (by rw [Hfin.out, decide_eq_true h4]; simp)
              go_wp2
              go_ret
              exact ⟨by rw [Hf.out]; rfl, Hit.out _⟩
            · have Hf : Hid (okPart s.data.toList = true) := Lib.hid (by rw [Hfin.out, decide_eq_true (show 1 ≤ s.size by omega), decide_eq_true (show s.size ≤ 64 by omega), decide_eq_false h3, decide_eq_false h4]; rfl)
              have h3' : (s.toList == [46]) = false := by simpa using h3
              have h4' : (s.toList == [46, 46]) = false := by simpa using h4
              go_wp2
              go_ret
              refine ⟨?_, Hit.out _⟩
              rw [Hf.out]
              first
                | rfl
                | (show Ending.returned (.bool (!(s.toList == [46]) && !(s.toList == [46, 46]))) = _
                   simp [h3, h4])
        · have Hf : Hid (okPart s.data.toList = false) := Lib.hid (by rw [Hfin.out, decide_eq_false (show ¬ s.size ≤ 64 by omega)]; simp)
          go_wp2
          go_ret
          exact ⟨by rw [Hf.out]; rfl, Hit.out _⟩
      · have Hf : Hid (okPart s.data.toList = false) := Lib.hid (by rw [Hfin.out, decide_eq_false (show ¬ 1 ≤ s.size by omega)]; rfl)
        go_wp2
        go_ret
        exact ⟨by rw [Hf.out]; rfl, Hit.out _⟩
    · obtain ⟨j, rfl⟩ : ∃ j, gk = j + 1 := ⟨gk - 1, by omega⟩
      have hlt : pos < s.size := by omega
      have hge := decode_high s pos hlt
      have hasc := decode_ascii s pos hlt
      by_cases hb : okByte s[pos] = true
      · have hb' := hb
        simp only [okByte, Bool.and_eq_true, decide_eq_true_eq] at hb'
        have hn := fun ty => run_next_ascii (P := Tryd.prog) w s pos ty hlt (by omega)
        obtain ⟨c, hc⟩ : ∃ c : Nat, (s[pos]'hlt).toNat = c := ⟨_, rfl⟩
        rw [hc] at hb' hn
        clear hge hasc
        have c0 : ¬ (c : Int) < 33 := by omega
        have c1 : ¬ 126 < (c : Int) := by omega
        have c2 : ((c : Int) == 92) = false := by simp; omega
        have hgood2 : Hid (∀ j (hj : j < s.size), j < pos + 1 → okByte s[j] = true) := Lib.hid (fun j' hj hlt' => by
          by_cases h : j' = pos
          · subst h; exact hb
          · exact hgood.out j' hj (by omega))
        clear hc hb
        go_wp2
        go_roundg j
        case measure => omega
        case rel => exact ⟨pos + 1, by omega, rfl, hgood2⟩
      · have hbad : okPart s.data.toList = false := okPart_bad (not_all_get pos hlt (by simpa using hb))
        have hn := fun ty => run_next_any (P := Tryd.prog) w s pos ty hlt
        have hle := decode_le s pos
        obtain ⟨c, hc⟩ : ∃ c : Nat, (s[pos]'hlt).toNat = c := ⟨_, rfl⟩
        simp only [okByte, hc, Bool.and_eq_true, decide_eq_true_eq] at hb
        rw [hc] at hge hasc
        have hcase : (Utf8.decode s pos).1 < 33 ∨ (¬ (Utf8.decode s pos).1 < 33 ∧ 126 < (Utf8.decode s pos).1) ∨ (Utf8.decode s pos).1 = 92 := by
          by_cases ha : c < 128
          · rw [hasc ha]
            show c < 33 ∨ (¬ c < 33 ∧ 126 < c) ∨ c = 92
            omega
          · have := (hge (by omega)).1
            right; left
            omega
        have Hbad := Lib.hid hbad
        clear hge hasc hb hc hbad
        generalize (Utf8.decode s pos).1 = r at hcase hn hle
        generalize (Utf8.decode s pos).2 = d at hn
        rcases hcase with h | ⟨h, h'⟩ | h
        · have c0 : (r : Int) < 33 := by omega
          go_wp2
          go_ret
          exact ⟨by rw [Hbad.out]; rfl, Hit.out _⟩
        · have c0 : ¬ (r : Int) < 33 := by omega
          have c1 : (126 : Int) < (r : Int) := by omega
          go_wp2
          go_ret
          exact ⟨by rw [Hbad.out]; rfl, Hit.out _⟩
        · subst h
          go_wp2
          go_ret
          exact ⟨by rw [Hbad.out]; rfl, Hit.out _⟩
end Go.Proofs.YtfppancidgamjaaDoor
