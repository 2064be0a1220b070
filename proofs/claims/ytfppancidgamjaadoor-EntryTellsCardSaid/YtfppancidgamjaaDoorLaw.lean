/- The arguments of a law, as its walk wants them. -/
import Derived.Test.YtfppancidgamjaaDoorSl
import Derived.Deep.Slices
import Derived.ProofKit
import Derived.SizedLaws
import Derived.OpenShut
import Derived.ChangeOld
namespace Go.Proofs.YtfppancidgamjaaDoor
set_option linter.unusedVariables false
set_option linter.unusedSimpArgs false
open Go.RowKit Go.Deep Go.ChangeShapes Go.WideShapes

section
variable {H : Type} {enc : TypeId × Value → H} {P : Program} {W : World} {base : Nat} {spare : Nat → Bool} {held : Bool}

/-- A slice of one-cell elements that came in, by what each element's own reading gives. -/
theorem rd_slice1 {α : Type} [Inhabited α] (f : α → Value) (ok : α → Prop) {t e : TypeId} {v : Value} {d : DataW H} {p : List MemPlace} (ht : P.underlying t = some (.slice e)) (hC : P.cellsOf e = 1)
    (hel : ∀ (fuel : Nat) (u : Value) (y : DataW H × List MemPlace), DataW.trod enc P W base spare held fuel e [u] = some y → ∃ a, u = f a ∧ ok a)
    (hv : ∃ A n c, v = .slice A n c) (h : DataW.Trod enc P W base spare held t v d p) : ∃ (A : Option Addr) (l : List α) (c : Nat), v = .slice A l.length c ∧ Rd W v (l.map f) ∧ l.length ≤ c ∧ c ≤ maxLen ∧ ∀ a ∈ l, ok a := by
  obtain ⟨A, n, c, rfl⟩ := hv
  obtain ⟨fuel, hf⟩ := h
  rcases open_slice1 ht hC hf with ⟨hcs, _⟩ | ⟨a, len, cap, m, k, V, D, Pl, hcs, hb, hl, hm, hmm, hx, hi⟩
  · simp [Value.cells] at hcs
    obtain ⟨rfl, rfl, rfl⟩ := hcs
    exact ⟨none, [], 0, rfl, Rd.nil W, Nat.le_refl _, by unfold maxLen; omega, by simp⟩
  · simp [Value.cells] at hcs
    obtain ⟨rfl, rfl, rfl⟩ := hcs
    have hlm : n ≤ m := by rw [hmm]; split <;> omega
    obtain ⟨g, hg⟩ := choose_lt (n := n) (p := fun i a => V i = f a ∧ ok a) (fun i hin => hel k (V i) _ (hi i (by omega)).2)
    refine ⟨some a, (List.range n).map g, c, by simp, ⟨some a, c, by simp, fun _ => ⟨a, rfl, fun j u hu => ?_⟩⟩, by simpa using hl, hm, ?_⟩
    · have hj : j < n := by
        have := (List.getElem?_eq_some_iff.1 hu).1
        simpa using this
      have e : (((List.range n).map g).map f)[j]? = some (f (g j)) := by simp [hj]
      rw [e] at hu
      injection hu with hu
      subst hu
      rw [(hi j (by omega)).1, (hg j hj).1]
    · intro x hx
      obtain ⟨i, hir, rfl⟩ := List.mem_map.1 hx
      exact (hg i (List.mem_range.1 hir)).2

theorem rd_bools {t e : TypeId} {v : Value} {d : DataW H} {p : List MemPlace} (ht : P.underlying t = some (.slice e)) (he : P.underlying e = some .bool) (hC : P.cellsOf e = 1)
    (hv : ∃ A n c, v = .slice A n c) (h : DataW.Trod enc P W base spare held t v d p) : ∃ (A : Option Addr) (l : List Bool) (c : Nat), v = .slice A l.length c ∧ Rd W v (l.map Value.bool) ∧ l.length ≤ c ∧ c ≤ maxLen ∧ ∀ a ∈ l, True :=
  rd_slice1 Value.bool (fun _ => True) ht hC (fun fuel u y hy => by
    obtain ⟨b, hb, _⟩ := DataW.trod_bool he hy
    exact ⟨b, by simpa using hb, trivial⟩) hv h
theorem rd_ints {k : IntKind} {t e : TypeId} {v : Value} {d : DataW H} {p : List MemPlace} (ht : P.underlying t = some (.slice e)) (he : P.underlying e = some (.int k)) (hC : P.cellsOf e = 1)
    (hv : ∃ A n c, v = .slice A n c) (h : DataW.Trod enc P W base spare held t v d p) : ∃ (A : Option Addr) (l : List Int) (c : Nat), v = .slice A l.length c ∧ Rd W v (l.map (Value.int k)) ∧ l.length ≤ c ∧ c ≤ maxLen ∧ ∀ a ∈ l, (Lit.int k a).wf = true :=
  rd_slice1 (Value.int k) (fun a => (Lit.int k a).wf = true) ht hC (fun fuel u y hy => by
    obtain ⟨n, hn, _, hw⟩ := DataW.trod_int he hy
    exact ⟨n, by simpa using hn, hw⟩) hv h
end
end Go.Proofs.YtfppancidgamjaaDoor
