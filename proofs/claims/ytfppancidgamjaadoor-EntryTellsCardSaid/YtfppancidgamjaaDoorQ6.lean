/- The walks over the reference's part and Right. -/
import Derived.Test.YtfppancidgamjaaDoorQ5
namespace Go.Proofs.YtfppancidgamjaaDoor
set_option linter.unusedVariables false
set_option linter.unusedSimpArgs false
open Go.RowKit

set_option maxHeartbeats 1600000 in
theorem refpart_any (s : ByteArray) (hs : s.size ≤ 4294967296) (w : World) : Calls Tryd.prog 53 #[.string s] w fun e w' => e = .returned (.bool (okPart s.data.toList)) ∧ w = w' := by
  have hsz : (s.size : Int) ≤ 4294967296 := by omega
  go_enter Tryd.func53, Tryd.ntmps53
  go_wp2
  go_loopg [3] s.size (fun k i wr => k ≤ s.size ∧ i = .int .i64 ((s.size : Int) - (k : Int)) ∧ wr = w ∧ Hid (∀ j (hj : j < s.size), j < s.size - k → okByte s[j] = true))
  case atStart => exact ⟨Nat.le_refl _, congrArg (Value.int .i64) (by omega), rfl, Lib.hid (fun j hj h => by omega)⟩
  case round =>
    obtain ⟨hk, rfl, rfl, hgood⟩ := hrel
    by_cases hk0 : gk = 0
    · subst hk0
      have hall := all_get (s := s) (fun j hj => hgood.out j hj (by omega))
      have hlen : s.data.toList.length = s.size := rfl
      have hfin : okPart s.data.toList = (decide (1 ≤ s.size) && decide (s.size ≤ 64) && !decide (s.toList = [46]) && !decide (s.toList = [46, 46])) := by
        unfold okPart
        rw [hall, hlen, ByteArray.toList_eq]
        simp only [ne_eq, Bool.true_and, decide_not]
      have Hfin := Lib.hid hfin
      clear hfin hall hlen
      by_cases h1 : 0 < (s.size : Int)
      · by_cases h2 : (s.size : Int) ≤ 64
        · by_cases h3 : s.toList = [46]
          · have Hf : Hid (okPart s.data.toList = false) := Lib.hid (by rw [Hfin.out, decide_eq_true h3]; simp)
            go_wp2
            go_ret
            exact ⟨by rw [Hf.out]; rfl, rfl⟩
          · by_cases h4 : s.toList = [46, 46]
            · have Hf : Hid (okPart s.data.toList = false) := Lib.hid (by rw [Hfin.out, decide_eq_true h4]; simp)
              go_wp2
              go_ret
              exact ⟨by rw [Hf.out]; rfl, rfl⟩
            · have Hf : Hid (okPart s.data.toList = true) := Lib.hid (by rw [Hfin.out, decide_eq_true (show 1 ≤ s.size by omega), decide_eq_true (show s.size ≤ 64 by omega), decide_eq_false h3, decide_eq_false h4]; rfl)
              have h3' : (s.toList == [46]) = false := by simpa using h3
              have h4' : (s.toList == [46, 46]) = false := by simpa using h4
              go_wp2
              go_ret
              refine ⟨?_, rfl⟩
              rw [Hf.out]
              first
                | rfl
                | (show Ending.returned (.bool (!(s.toList == [46]) && !(s.toList == [46, 46]))) = _
                   simp [h3, h4])
        · have Hf : Hid (okPart s.data.toList = false) := Lib.hid (by rw [Hfin.out, decide_eq_false (show ¬ s.size ≤ 64 by omega)]; simp)
          go_wp2
          go_ret
          exact ⟨by rw [Hf.out]; rfl, rfl⟩
      · have Hf : Hid (okPart s.data.toList = false) := Lib.hid (by rw [Hfin.out, decide_eq_false (show ¬ 1 ≤ s.size by omega)]; rfl)
        go_wp2
        go_ret
        exact ⟨by rw [Hf.out]; rfl, rfl⟩
    · obtain ⟨j, rfl⟩ : ∃ j, gk = j + 1 := ⟨gk - 1, by omega⟩
      obtain ⟨i, hi⟩ : ∃ i : Nat, i + (j + 1) = s.size := ⟨s.size - (j + 1), by omega⟩
      have hil : i < s.size := by omega
      have e1 : (s.size : Int) - ((j + 1 : Nat) : Int) = (i : Int) := by omega
      have i0 : (0 : Int) ≤ (i : Int) := by omega
      have i1 : (i : Int) < (s.size : Int) := by omega
      rw [e1]
      clear e1
      have hb256 : s[i].toNat < 256 := UInt8.toNat_lt _
      by_cases hb : okByte s[i] = true
      · have hb' := hb
        simp only [okByte, Bool.and_eq_true, decide_eq_true_eq] at hb'
        have hgood2 : Hid (∀ j' (hj : j' < s.size), j' < s.size - j → okByte s[j'] = true) := Lib.hid (fun j' hj hlt' => by
          by_cases h : j' = i
          · subst h; exact hb
          · exact hgood.out j' hj (by omega))
        have c0 : ¬ (s[i].toNat : Int) < 33 := by omega
        have c1 : ¬ 126 < (s[i].toNat : Int) := by omega
        have c2 : ((s[i].toNat : Int) == 92) = false := by simp; omega
        have Hi := Lib.hid hi
        clear hb hi hb'
        go_wp2
        go_roundg j
        case measure => omega
        case rel => exact ⟨by omega, congrArg (Value.int .i64) (by have := Hi.out; omega), rfl, hgood2⟩
      · have Hbad := Lib.hid (okPart_bad (not_all_get i hil (by simpa using hb)))
        simp only [okByte, Bool.and_eq_true, decide_eq_true_eq] at hb
        have hcase : (s[i].toNat : Int) < 33 ∨ (¬ (s[i].toNat : Int) < 33 ∧ 126 < (s[i].toNat : Int)) ∨ s[i].toNat = 92 := by omega
        clear hb hi
        rcases hcase with h | ⟨h, h'⟩ | h
        · go_wp2
          go_ret
          exact ⟨by rw [Hbad.out]; rfl, rfl⟩
        · go_wp2
          go_ret
          exact ⟨by rw [Hbad.out]; rfl, rfl⟩
        · have h3 : (s[i].toNat : Int) = 92 := by omega
          go_wp2
          go_ret
          exact ⟨by rw [Hbad.out]; rfl, rfl⟩
end Go.Proofs.YtfppancidgamjaaDoor
