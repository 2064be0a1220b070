/- When a list is ahead of another one. -/
namespace Go.Proofs.YtfppancidgamjaaDoor
set_option linter.unusedVariables false
set_option linter.unusedSimpArgs false
theorem prefix_iff {α : Type} [DecidableEq α] (p x : List α) : p <+: x ↔ p.length ≤ x.length ∧ ∀ i (h : i < p.length) (h2 : i < x.length), x[i] = p[i] := by
  constructor
  · rintro ⟨t, rfl⟩
    exact ⟨by simp, fun i h h2 => by rw [List.getElem_append_left h]⟩
  · rintro ⟨h1, h2⟩
    refine ⟨x.drop p.length, ?_⟩
    conv => rhs; rw [← List.take_append_drop p.length x]
    congr 1
    refine List.ext_getElem (by simp; omega) fun i a b => ?_
    rw [List.getElem_take, h2 i a (by omega)]

end Go.Proofs.YtfppancidgamjaaDoor
