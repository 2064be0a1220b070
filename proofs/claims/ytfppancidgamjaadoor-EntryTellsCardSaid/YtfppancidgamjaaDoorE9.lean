/- When two entries are the same: the runs of == and != on them. -/
import Derived.Test.YtfppancidgamjaaDoorE8
import Derived.Laws.StructEq
namespace Go.Proofs.YtfppancidgamjaaDoor
set_option linter.unusedVariables false
set_option linter.unusedSimpArgs false
open Go.RowKit

theorem str_inj {a b : List UInt8} : (str a).toList == (str b).toList ↔ a = b := by
  rw [ByteArray.toList_eq, ByteArray.toList_eq, beq_iff_eq]; exact Iff.rfl
theorem str_beq (a b : List UInt8) : ((str a).toList == (str b).toList) = decide (a = b) := by
  rw [Bool.eq_iff_iff, decide_eq_true_iff]; exact str_inj
set_option maxRecDepth 100000 in
theorem eqEn (a b : En) (w : World) : (Op.equalIn 10000 30 (.agg (enL a).toArray) (.agg (enL b).toArray)).run Tryd.prog w = .ok (decide (a = b)) w := by
  obtain ⟨p1, k1, m1, t1, g1, b1, s1⟩ := a
  obtain ⟨p2, k2, m2, t2, g2, b2, s2⟩ := b
  simp only [enL]
  have u3 := Tryd.underlying3
  have u9 := Tryd.underlying9
  have hS : Tryd.prog.underlying 30 = some (.struct (Tryd.prog.fieldsOf 30)) := by kernel_rfl
  have hp : Tryd.prog.stoodInHeld 30 = false := by kernel_rfl
  rw [show (10000 : Nat) = 9999 + 1 from rfl, run_equalIn_agg w 9999 30 _ _ hS hp]
  simp only [Program.fieldsOf, Tryd.underlying30]
  go_simp
  have hs : ∀ a b : List UInt8, (str a).toList = (str b).toList ↔ a = b := fun a b => by rw [ByteArray.toList_eq, ByteArray.toList_eq]; exact Iff.rfl
  simp only [hs]
  by_cases h1 : p1 = p2
  · by_cases h2 : k1 = k2
    · by_cases h3 : m1 = m2
      · by_cases h4 : t1 = t2
        · by_cases h5 : g1 = g2
          · by_cases h6 : b1 = b2
            · by_cases h7 : s1 = s2
              · simp [h1, h2, h3, h4, h5, h6, h7]
              · simp [h1, h2, h3, h4, h5, h6, h7]
            · simp [h1, h2, h3, h4, h5, h6]
          · simp [h1, h2, h3, h4, h5]
        · simp [h1, h2, h3, h4]
      · simp [h1, h2, h3]
    · simp [h1, h2]
  · simp [h1]
set_option maxRecDepth 100000 in
theorem eqEnR (a b : En) (w : World) : (Op.equalIn 10000 63 (.agg (enL a).toArray) (.agg (enL b).toArray)).run Tryd.prog w = .ok (decide (a = b)) w := by
  obtain ⟨p1, k1, m1, t1, g1, b1, s1⟩ := a
  obtain ⟨p2, k2, m2, t2, g2, b2, s2⟩ := b
  simp only [enL]
  have u3 := Tryd.underlying3
  have u9 := Tryd.underlying9
  have hS : Tryd.prog.underlying 63 = some (.struct (Tryd.prog.fieldsOf 63)) := by kernel_rfl
  have hp : Tryd.prog.stoodInHeld 63 = false := by kernel_rfl
  rw [show (10000 : Nat) = 9999 + 1 from rfl, run_equalIn_agg w 9999 63 _ _ hS hp]
  simp only [Program.fieldsOf, Tryd.underlying63]
  go_simp
  have hs : ∀ a b : List UInt8, (str a).toList = (str b).toList ↔ a = b := fun a b => by rw [ByteArray.toList_eq, ByteArray.toList_eq]; exact Iff.rfl
  simp only [hs]
  by_cases h1 : p1 = p2
  · by_cases h2 : k1 = k2
    · by_cases h3 : m1 = m2
      · by_cases h4 : t1 = t2
        · by_cases h5 : g1 = g2
          · by_cases h6 : b1 = b2
            · by_cases h7 : s1 = s2
              · simp [h1, h2, h3, h4, h5, h6, h7]
              · simp [h1, h2, h3, h4, h5, h6, h7]
            · simp [h1, h2, h3, h4, h5, h6]
          · simp [h1, h2, h3, h4, h5]
        · simp [h1, h2, h3, h4]
      · simp [h1, h2, h3]
    · simp [h1, h2]
  · simp [h1]
theorem guardEn : Tryd.prog.eqGuardType Tryd.prog.depth 30 = false := by kernel_rfl
theorem guardEnR : Tryd.prog.eqGuardType Tryd.prog.depth 63 = false := by kernel_rfl
theorem neqEnR (a b : En) (w : World) : (binOp .neq 63 (.agg (enL a).toArray) (.agg (enL b).toArray)).run Tryd.prog w = .ok (.bool (!decide (a = b))) w := by
  rw [run_neq_struct, eqEnR]; rfl
theorem neqEn (a b : En) (w : World) : (binOp .neq 30 (.agg (enL a).toArray) (.agg (enL b).toArray)).run Tryd.prog w = .ok (.bool (!decide (a = b))) w := by
  rw [run_neq_struct, eqEn]; rfl
theorem eqlEn (a b : En) (w : World) : (binOp .eql 30 (.agg (enL a).toArray) (.agg (enL b).toArray)).run Tryd.prog w = .ok (.bool (decide (a = b))) w := by
  rw [run_eql_struct, eqEn]; rfl
end Go.Proofs.YtfppancidgamjaaDoor
