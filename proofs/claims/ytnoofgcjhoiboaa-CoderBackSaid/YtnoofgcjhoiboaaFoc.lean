/- Words to find a part of what is owned, wherever it stands. -/
import Derived.Test.YtnoofgcjhoiboaaSl
namespace Go.Proofs.Ytnoofgcjhoiboaa
set_option linter.unusedVariables false
set_option linter.unusedSimpArgs false
open Go.RowKit

/-- A stands somewhere in W; R is the rest. -/
class Foc (A W : HP) (R : outParam HP) : Prop where
  out : W = A * R
instance (priority := high) Foc.here {A C : HP} : Foc A (A * C) C := ⟨rfl⟩
instance (priority := low) Foc.there {A D C R : HP} [f : Foc A C R] : Foc A (D * C) (D * R) := ⟨by rw [f.out]; exact sep_left_comm _ _ _⟩
theorem Own.foc {B : Nat} {W R : HP} {w : World} (A : HP) [f : Foc A W R] (h : Own B W w) : Own B (A * R) w := by rw [f.out] at h; exact h

/-- Block X stands somewhere in W. -/
class HasBk (B : Nat) (X : Nat) (W : HP) (t : outParam TypeId) (cs : outParam (Array Value)) (rep : outParam (Array Value → HP)) : Prop where
  out : ∃ C : HP, Loc B C ∧ W = Bk X t cs * C ∧ ∀ cs', rep cs' = Bk X t cs' * C
instance (priority := high) HasBk.here {B X : Nat} {t : TypeId} {cs : Array Value} {C : HP} [k : Loc B C] : HasBk B X (Bk X t cs * C) t cs (fun cs' => Bk X t cs' * C) := ⟨⟨C, k, rfl, fun _ => rfl⟩⟩
instance (priority := low) HasBk.there {B X : Nat} {t : TypeId} {cs : Array Value} {D C : HP} {rep : Array Value → HP} [k : Loc B D] [f : HasBk B X C t cs rep] : HasBk B X (D * C) t cs (fun cs' => D * rep cs') := ⟨by
  obtain ⟨E, kE, h1, h2⟩ := f.out
  exact ⟨D * E, inferInstance, by rw [h1]; exact sep_left_comm _ _ _, fun cs' => by rw [h2]; exact sep_left_comm _ _ _⟩⟩

section
variable {B : Nat} {W : HP} {w : World} {t : TypeId} {cs : Array Value} {rep : Array Value → HP}
theorem Own.cellOf (h : Own B W w) (X : Nat) [f : HasBk B X W t cs rep] (i : Nat) : w.cell? ⟨X, i, none⟩ = cs[i]? := by
  obtain ⟨C, _, h1, _⟩ := f.out
  rw [h1] at h
  exact h.cell i
theorem Own.freeOf (h : Own B W w) (X : Nat) [f : HasBk B X W t cs rep] (i : Nat) : w.frozen? ⟨X, i, none⟩ = false := by
  obtain ⟨C, _, h1, _⟩ := f.out
  rw [h1] at h
  exact h.unfrozen i
theorem Own.setOf (h : Own B W w) (hB : B ≤ w.heap.size) (X : Nat) [f : HasBk B X W t cs rep] (i : Nat) (u : Value) : Own B (rep (cs.setIfInBounds i u)) (w.setCell ⟨X, i, none⟩ u) ∧ Below B w (w.setCell ⟨X, i, none⟩ u) := by
  obtain ⟨C, k, h1, h2⟩ := f.out
  rw [h1] at h
  rw [h2]
  exact ⟨h.set hB i u, h.below_set i u⟩
theorem Own.blockOf (h : Own B W w) (X : Nat) [f : HasBk B X W t cs rep] : w.heap[X]? = some (.cells cs t (0, 0)) := by
  obtain ⟨C, _, h1, _⟩ := f.out
  rw [h1] at h
  exact h.bk.1
end
end Go.Proofs.Ytnoofgcjhoiboaa
