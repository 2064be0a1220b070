/- The walks over slices.Compare at texts, and Compare of package path. -/
import Derived.Test.YtfppancidgamjaaDoorQ9
namespace Go.Proofs.YtfppancidgamjaaDoor
set_option linter.unusedVariables false
set_option linter.unusedSimpArgs false
open Go.RowKit

/-- Which of two lists of texts stands ahead. -/
def cmpL : List (List UInt8) → List (List UInt8) → Int
  | [], [] => 0
  | [], _ :: _ => -1
  | _ :: _, [] => 1
  | x :: xs, y :: ys => if cmpT x y = 0 then cmpL xs ys else cmpT x y

set_option maxHeartbeats 1600000 in
theorem slicesCompare_any (A1 A2 : Option Addr) (c1 c2 : Nat) (l1 l2 : List (List UInt8)) (hl1 : l1.length ≤ 4294967296) (hl2 : l2.length ≤ 4294967296) (w : World) (h1 : RdS w A1 l1) (h2 : RdS w A2 l2) :
    Calls Tryd.prog 72 #[.slice A1 l1.length c1, .slice A2 l2.length c2] w fun e w' => e = .returned (.int .i64 (cmpL l1 l2)) ∧ w = w' := by
  have H1 := Lib.hid h1
  have H2 := Lib.hid h2
  clear h1 h2
  have n1 : (l1.length : Int) ≤ 4294967296 := by omega
  have n2 : (l2.length : Int) ≤ 4294967296 := by omega
  go_enter Tryd.func72, Tryd.ntmps72
  go_wp2
  go_loopg [11] l1.length (fun k i wr => k ≤ l1.length ∧ i = .int .i64 ((l1.length : Int) - (k : Int)) ∧ wr = w ∧ Hid (l1.length - k ≤ l2.length ∧ cmpL l1 l2 = cmpL (l1.drop (l1.length - k)) (l2.drop (l1.length - k))))
  case atStart => exact ⟨Nat.le_refl _, congrArg (Value.int .i64) (by omega), rfl, Lib.hid ⟨by omega, by rw [Nat.sub_self]; rfl⟩⟩
  case round =>
    obtain ⟨hk, rfl, rfl, hg⟩ := hrel
    by_cases hk0 : gk ≠ 0
    · obtain ⟨j, rfl⟩ : ∃ j, gk = j + 1 := ⟨gk - 1, by omega⟩
      obtain ⟨i, hi⟩ : ∃ i : Nat, i + (j + 1) = l1.length := ⟨l1.length - (j + 1), by omega⟩
      have hil : i < l1.length := by omega
      have hg' := hg.out
      rw [show l1.length - (j + 1) = i by omega] at hg'
      obtain ⟨hle, hcmp⟩ := hg'
      obtain ⟨b, off, rfl, hc1⟩ := H1.out i hil
      have e1 : (l1.length : Int) - ((j + 1 : Nat) : Int) = (i : Int) := by omega
      have i0 : (0 : Int) ≤ (i : Int) := by omega
      have i1 : (i : Int) < (l1.length : Int) := by omega
      rw [e1]
      clear e1
      rw [List.drop_eq_getElem_cons hil] at hcmp
      by_cases hi2 : i < l2.length
      · obtain ⟨b2, off2, rfl, hc2⟩ := H2.out i hi2
        rw [List.drop_eq_getElem_cons hi2] at hcmp
        have i2 : (i : Int) < (l2.length : Int) := by omega
        have i3 : ¬ (l2.length : Int) ≤ (i : Int) := by omega
        have Hi := Lib.hid hi
        have hnext : cmpT l1[i] l2[i] = 0 → Hid (l1.length - j ≤ l2.length ∧ cmpL l1 l2 = cmpL (l1.drop (l1.length - j)) (l2.drop (l1.length - j))) := fun h0 => Lib.hid (by
          rw [show l1.length - j = i + 1 by omega]
          refine ⟨by omega, ?_⟩
          rw [hcmp]
          show (if cmpT l1[i] l2[i] = 0 then _ else _) = _
          rw [if_pos h0])
        have hend : cmpT l1[i] l2[i] ≠ 0 → Hid (cmpL l1 l2 = cmpT l1[i] l2[i]) := fun h0 => Lib.hid (by
          rw [hcmp]
          show (if cmpT l1[i] l2[i] = 0 then _ else _) = _
          rw [if_neg h0])
        have Hnext := Lib.hid hnext
        have Hend := Lib.hid hend
        clear hnext hend hcmp hi hg
        generalize l1[i] = x at hc1 Hnext Hend
        generalize l2[i] = y at hc2 Hnext Hend
        go_wp2_with fail
        refine (cmp_any (str x) (str y) wr).mono ?_
        rintro e w3 ⟨rfl, rfl⟩
        clear hc1 hc2
        obtain ⟨r, hr⟩ : ∃ r, cmpT x y = r := ⟨_, rfl⟩
        have hv : cmpT (str x).data.toList (str y).data.toList = r := hr
        rw [hv]
        rw [hr] at Hnext Hend
        clear hv
        by_cases h0 : r = 0
        · subst h0
          go_wp2
          go_roundg j
          case measure => omega
          case rel => exact ⟨by omega, congrArg (Value.int .i64) (by have := Hi.out; omega), rfl, Hnext.out (by simp)⟩
        · have h0' : (r == 0) = false := by simpa using h0
          go_wp2
          go_ret
          exact ⟨by rw [(Hend.out h0).out]; rfl, rfl⟩
      · have i3 : (l2.length : Int) ≤ (i : Int) := by omega
        rw [List.drop_eq_nil_of_le (show l2.length ≤ i by omega)] at hcmp
        have Hv : Hid (cmpL l1 l2 = 1) := Lib.hid hcmp
        clear hcmp hi hg
        go_wp2
        go_ret
        exact ⟨by rw [Hv.out]; rfl, rfl⟩
    · obtain rfl : gk = 0 := by omega
      have hg' := hg.out
      rw [Nat.sub_zero, List.drop_length] at hg'
      obtain ⟨hle, hcmp⟩ := hg'
      by_cases hlt : (l1.length : Int) < (l2.length : Int)
      · have Hv : Hid (cmpL l1 l2 = -1) := Lib.hid (by
          rw [hcmp, List.drop_eq_getElem_cons (show l1.length < l2.length by omega)]
          rfl)
        clear hcmp hg
        go_wp2
        go_ret
        exact ⟨by rw [Hv.out]; rfl, rfl⟩
      · have Hv : Hid (cmpL l1 l2 = 0) := Lib.hid (by
          rw [hcmp, List.drop_eq_nil_of_le (show l2.length ≤ l1.length by omega)]
          rfl)
        clear hcmp hg
        go_wp2
        go_ret
        exact ⟨by rw [Hv.out]; rfl, rfl⟩
end Go.Proofs.YtfppancidgamjaaDoor
