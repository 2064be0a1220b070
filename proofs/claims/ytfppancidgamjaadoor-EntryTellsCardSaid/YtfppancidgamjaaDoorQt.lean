/- The walk over the reference's text. -/
import Derived.Test.YtfppancidgamjaaDoorQd
import Derived.Test.YtfppancidgamjaaDoorQe
import Derived.Deep.QuietTactic
import Derived.WalkSmall
namespace Go.Proofs.YtfppancidgamjaaDoor
set_option linter.unusedVariables false
set_option linter.unusedSimpArgs false
open Go.RowKit

theorem cmpT_lex (a b : List UInt8) : cmpT a b = lexC cmpB a b := (bytesLess_lex a b).symm
theorem cmpB_lt {x y : UInt8} (h : x.toNat < y.toNat) : cmpB x y = -1 := by unfold cmpB; rw [if_pos (UInt8.lt_iff_toNat_lt.2 h)]
theorem cmpB_gt {x y : UInt8} (h : y.toNat < x.toNat) : cmpB x y = 1 := by have := cmpB_cmp.neg y x; rw [cmpB_lt h] at this; exact this
theorem lexC_ne {α : Type} {c : α → α → Int} {x y : α} {xs ys : List α} (h : c x y ≠ 0) : lexC c (x :: xs) (y :: ys) = c x y := by
  conv => lhs; unfold lexC
  rw [if_neg h]
theorem lexC_eq {α : Type} {c : α → α → Int} {x y : α} {xs ys : List α} (h : c x y = 0) : lexC c (x :: xs) (y :: ys) = lexC c xs ys := by
  conv => lhs; unfold lexC
  rw [if_pos h]
theorem drop_nil (s : ByteArray) (i : Nat) (h : s.size ≤ i) : s.data.toList.drop i = [] := List.drop_eq_nil_of_le (show s.data.toList.length ≤ i from h)
theorem drop_get (s : ByteArray) (i : Nat) (h : i < s.size) : s.data.toList.drop i = s[i] :: s.data.toList.drop (i + 1) := List.drop_eq_getElem_cons (show i < s.data.toList.length from h)

set_option maxHeartbeats 1600000 in
theorem reftext_any (a b : ByteArray) (ha : a.size ≤ 4294967296) (hb : b.size ≤ 4294967296) (w : World) : Calls Tryd.prog 54 #[.string a, .string b] w fun e w' => e = .returned (.int .i64 (cmpT a.data.toList b.data.toList)) ∧ Below w.heap.size w w' := by
  rw [cmpT_lex]
  have ha' : (a.size : Int) ≤ 4294967296 := by omega
  have hb' : (b.size : Int) ≤ 4294967296 := by omega
  go_enter Tryd.func54, Tryd.ntmps54
  go_wp2
  go_loopg [5] a.size (fun k s wr => ∃ i : Nat, k + i = a.size ∧ i ≤ b.size ∧ s = .int .i64 i ∧ Below w.heap.size w wr ∧ Hid (lexC cmpB a.data.toList b.data.toList = lexC cmpB (a.data.toList.drop i) (b.data.toList.drop i)))
  case atStart => exact ⟨0, by omega, by omega, rfl, Below.refl _ _, Lib.hid rfl⟩
  case round =>
    obtain ⟨i, hk, hib, rfl, hbb, he⟩ := hrel
    by_cases h1 : (i : Int) < (a.size : Int)
    · by_cases h2 : (i : Int) < (b.size : Int)
      · obtain ⟨j, rfl⟩ : ∃ j, gk = j + 1 := ⟨gk - 1, by omega⟩
        have hia : i < a.size := by omega
        have hib2 : i < b.size := by omega
        have he2 := he.out
        rw [drop_get a i hia, drop_get b i hib2] at he2
        have i0 : (0 : Int) ≤ (i : Int) := by omega
        have Hk := Lib.hid hk
        clear hk he
        rcases Nat.lt_trichotomy a[i].toNat b[i].toNat with hc | hc | hc
        · rw [lexC_ne (by rw [cmpB_lt hc]; decide), cmpB_lt hc] at he2
          have He := Lib.hid he2
          clear he2
          go_wp2
          go_quiet (fail)
          go_wp2
          go_ret
          exact ⟨by rw [He.out]; rfl, by first | exact below_drewN hbb _ | exact below_drewN (below_drewN hbb _) _⟩
        · rw [UInt8.toNat_inj.1 hc, lexC_eq ((cmpB_cmp.zero _ _).2 rfl)] at he2
          have He := Lib.hid he2
          have hn1 : ¬ a[i].toNat < b[i].toNat := by omega
          have hn2 : ¬ b[i].toNat < a[i].toNat := by omega
          clear he2 hc
          go_wp2
          go_quiet (fail)
          go_wp2
          go_quiet (fail)
          go_wp2
          go_roundg j
          case measure => omega
          case rel => exact ⟨i + 1, by have := Hk.out; omega, by omega, rfl, below_drewN hbb _, He⟩
        · rw [lexC_ne (by rw [cmpB_gt hc]; decide), cmpB_gt hc] at he2
          have He := Lib.hid he2
          have hn1 : ¬ a[i].toNat < b[i].toNat := by omega
          clear he2
          go_wp2
          go_quiet (fail)
          go_wp2
          go_quiet (fail)
          go_wp2
          go_ret
          exact ⟨by rw [He.out]; rfl, by first | exact below_drewN hbb _ | exact below_drewN (below_drewN hbb _) _⟩
      · have hbe : i = b.size := by omega
        have he2 := he.out
        rw [drop_get a i (by omega), drop_nil b i (by omega)] at he2
        have He : Hid (lexC cmpB a.data.toList b.data.toList = 1) := Lib.hid he2
        have hn1 : ¬ (a.size : Int) < (b.size : Int) := by omega
        have hn2 : (b.size : Int) < (a.size : Int) := by omega
        clear he2 he hbe hk
        go_wp2
        go_ret
        exact ⟨by rw [He.out]; rfl, hbb⟩
    · have hae : i = a.size := by omega
      have he2 := he.out
      rw [drop_nil a i (by omega)] at he2
      by_cases h2 : (a.size : Int) < (b.size : Int)
      · rw [drop_get b i (by omega)] at he2
        have He : Hid (lexC cmpB a.data.toList b.data.toList = -1) := Lib.hid he2
        clear he2 he hae hk
        go_wp2
        go_ret
        exact ⟨by rw [He.out]; rfl, hbb⟩
      · rw [drop_nil b i (by omega)] at he2
        have He : Hid (lexC cmpB a.data.toList b.data.toList = 0) := Lib.hid he2
        have hn2 : ¬ (b.size : Int) < (a.size : Int) := by omega
        clear he2 he hae hk
        go_wp2
        go_ret
        exact ⟨by rw [He.out]; rfl, hbb⟩
end Go.Proofs.YtfppancidgamjaaDoor
