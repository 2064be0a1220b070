/- The walk over what may be put, and a mask of bits. -/
import Derived.Test.YtnoofgcjhoiboaaLc
import Derived.Test.YtnoofgcjhoiboaaFoc
import Derived.Test.YtnoofgcjhoiboaaTwl
namespace Go.Proofs.Ytnoofgcjhoiboaa
set_option linter.unusedVariables false
set_option linter.unusedSimpArgs false
open Go.RowKit

theorem and_mask (x : Int) (m : Nat) (hm : m ≤ 32) : bits .and .i64 x ((2 : Int) ^ m - 1) = x % 2 ^ m := by
  have e2 : ((2 ^ m : Nat) : Int) = (2 : Int) ^ m := by simp
  have h1 : 1 ≤ 2 ^ m := Nat.one_le_two_pow
  have h2 : 2 ^ m ≤ 4294967296 := Nat.le_trans (Nat.pow_le_pow_right (by omega) hm) (by decide)
  have e3 : (2 : Int) ^ m - 1 = ((2 ^ m - 1 : Nat) : Int) := by rw [← e2]; omega
  show IntKind.i64.wrap ((BitVec.ofInt 64 x &&& BitVec.ofInt 64 ((2 : Int) ^ m - 1)).toNat : Int) = _
  rw [e3, BitVec.toNat_and, BitVec.toNat_ofInt, BitVec.toNat_ofInt, IntKind.wrap_i64, show ((((2 ^ m - 1 : Nat) : Int) % ((2 ^ 64 : Nat) : Int)).toNat) = 2 ^ m - 1 by omega, Nat.and_two_pow_sub_one_eq_mod, ← e2]
  have hd : (2 ^ m : Nat) ∣ 2 ^ 64 := Nat.pow_dvd_pow 2 (by omega)
  have h5 : ((x % ((2 ^ 64 : Nat) : Int)).toNat % 2 ^ m : Nat) = (x % ((2 ^ m : Nat) : Int)).toNat := by
    have h6 : x % ((2 ^ 64 : Nat) : Int) % ((2 ^ m : Nat) : Int) = x % ((2 ^ m : Nat) : Int) := Int.emod_emod_of_dvd x (by exact_mod_cast hd)
    have h7 : 0 ≤ x % ((2 ^ 64 : Nat) : Int) := Int.emod_nonneg _ (by omega)
    have h8 : (((x % ((2 ^ 64 : Nat) : Int)).toNat % 2 ^ m : Nat) : Int) = x % ((2 ^ m : Nat) : Int) := by
      rw [Int.natCast_emod, Int.toNat_of_nonneg h7, h6]
    omega
  rw [h5]
  have h9 : 0 ≤ x % ((2 ^ m : Nat) : Int) := Int.emod_nonneg _ (by omega)
  have h10 : x % ((2 ^ m : Nat) : Int) < ((2 ^ m : Nat) : Int) := Int.emod_lt_of_pos _ (by omega)
  generalize x % ((2 ^ m : Nat) : Int) = y at h9 h10 ⊢
  omega

theorem and_mask2 (x : Int) (m : Nat) (hm : m ≤ 32) : bits .and .i64 x (wrap64 (wrap64 ((2 : Int) ^ m) - 1)) = x % 2 ^ m := by
  have e2 : ((2 ^ m : Nat) : Int) = (2 : Int) ^ m := by simp
  have h1 : 1 ≤ 2 ^ m := Nat.one_le_two_pow
  have h2 : 2 ^ m ≤ 4294967296 := Nat.le_trans (Nat.pow_le_pow_right (by omega) hm) (by decide)
  have w1 : wrap64 ((2 : Int) ^ m) = (2 : Int) ^ m := by rw [← e2]; unfold wrap64; omega
  have w2 : wrap64 ((2 : Int) ^ m - 1) = (2 : Int) ^ m - 1 := by rw [← e2]; unfold wrap64; omega
  rw [w1, w2]
  exact and_mask x m hm

set_option maxHeartbeats 1600000 in
theorem may_any (verb k n bb : Int) (w : World) : Calls Try.prog 29 #[.agg #[.int .i64 verb, .int .i64 k, .int .i64 n, .int .i64 bb]] w fun e w' => e = .returned (.bool (decide (mayD ⟨verb, k, n, bb⟩))) ∧ Below w.heap.size w w' := by
  have yes : mayD ⟨verb, k, n, bb⟩ → Ending.returned (.bool true) = Ending.returned (.bool (decide (mayD ⟨verb, k, n, bb⟩))) := fun h => by rw [decide_eq_true h]
  have no : ¬ mayD ⟨verb, k, n, bb⟩ → Ending.returned (.bool false) = Ending.returned (.bool (decide (mayD ⟨verb, k, n, bb⟩))) := fun h => by rw [decide_eq_false h]
  have Yes := Lib.hid yes
  have No := Lib.hid no
  clear yes no
  have hb := fun o => (Below.refl w.heap.size w).alloc (Nat.le_refl _) o
  go_enter Try.func29, Try.ntmps29
  by_cases v0 : verb = 0
  · subst v0
    by_cases h1 : 0 ≤ k
    · by_cases h2 : k < 8
      · by_cases h3 : 0 ≤ n
        · by_cases h4 : n < 2
          · go_wp2
            go_ret
            exact ⟨Yes.out (.inl ⟨rfl, h1, h2, h3, h4⟩), hb _⟩
          · go_wp2
            go_ret
            exact ⟨No.out (by unfold mayD; simp only; omega), hb _⟩
        · go_wp2
          go_ret
          exact ⟨No.out (by unfold mayD; simp only; omega), hb _⟩
      · go_wp2
        go_ret
        exact ⟨No.out (by unfold mayD; simp only; omega), hb _⟩
    · go_wp2
      go_ret
      exact ⟨No.out (by unfold mayD; simp only; omega), hb _⟩
  · have v0' : (verb == 0) = false := by simpa using v0
    by_cases v1 : verb = 1
    · subst v1
      by_cases h1 : 0 ≤ bb
      · by_cases h2 : bb ≤ 32
        · go_wp2
          go_ret
          exact ⟨Yes.out (.inr (.inl ⟨rfl, h1, h2⟩)), hb _⟩
        · go_wp2
          go_ret
          exact ⟨No.out (by unfold mayD; simp only; omega), hb _⟩
      · go_wp2
        go_ret
        exact ⟨No.out (by unfold mayD; simp only; omega), hb _⟩
    · have v1' : (verb == 1) = false := by simpa using v1
      by_cases v2 : verb = 2
      · subst v2
        by_cases h1 : 0 ≤ bb
        · by_cases h2 : bb ≤ 8
          · go_wp2
            go_ret
            exact ⟨Yes.out (.inr (.inr ⟨rfl, h1, h2⟩)), hb _⟩
          · go_wp2
            go_ret
            exact ⟨No.out (by unfold mayD; simp only; omega), hb _⟩
        · go_wp2
          go_ret
          exact ⟨No.out (by unfold mayD; simp only; omega), hb _⟩
      · have v2' : (verb == 2) = false := by simpa using v2
        go_wp2
        go_ret
        exact ⟨No.out (by unfold mayD; simp only; omega), hb _⟩
end Go.Proofs.Ytnoofgcjhoiboaa
