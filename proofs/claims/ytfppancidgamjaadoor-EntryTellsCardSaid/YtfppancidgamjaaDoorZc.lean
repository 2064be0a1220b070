/- What the cards of the laws on paths share: a world in which the library's two tables lie as the program's text lays them. -/
import Derived.Test.YtfppancidgamjaaDoorRows
import Derived.Test.YtfppancidgamjaaDoorCards
import Derived.Test.YtfppancidgamjaaDoorTie
import Derived.Test.YtfppancidgamjaaDoorLaw
import Derived.Test.YtfppancidgamjaaDoorQ3
import Derived.Deep.DeepHandedRow
import Derived.Deep.DeepWitnessRowRef
import Derived.Lib.LaidIn
import Derived.SevenTiedAt
import Derived.Carry
import Derived.ChangeMaps
namespace Go.Proofs.YtfppancidgamjaaDoor
set_option linter.unusedVariables false
set_option linter.unusedSimpArgs false
open Go.ChangeShapes Go.WideShapes Go.ChangeAt Go.RowKit
theorem own : ownKnob Tryd.prog.godebug = none := by kernel_rfl
theorem laidOut : laidOutB Tryd.prog = true := by kernel_rfl
def firstBytes : DataW Unit → List Value
  | .agg l => l.filterMap fun d => match d with | .lit (.int k n) => some (.int k n) | _ => none
  | _ => []
def pairBytes : DataW Unit → List Value
  | .agg l => l.flatMap fun d => firstBytes d
  | _ => []
noncomputable def laidWorld (os : Os) : World :=
  let w0 := World.holding Tryd.prog os ⟨#[], #[], []⟩
  let put (h : Array Obj) (g : Nat) (cs : Array Value) : Array Obj := h.modify g fun
    | .cells _ t frozen => .cells cs t frozen
    | o => o
  let h1 := put w0.heap 1 (firstBytes Rows.laid_unicode_utf8_first).toArray
  let h2 := put h1 2 (pairBytes Rows.laid_unicode_utf8_acceptRanges).toArray
  { w0 with heap := h2 }
theorem laid_met (os : Os) (args : Array Value) : laidMet Tryd.prog Rows.entryFirstsRow.laid ((laidWorld os).forCall (fun _ _ => 0) ⟨#[], args, []⟩).memory :=
  (LaidIn.of_run [1, 2] 8 (by kernel_rfl) (by kernel_rfl) (by kernel_rfl) (by kernel_rfl)).met
section
variable {H : Type} {enc : TypeId × Value → H} {P : Program} {W : World} {base : Nat} {spare : Nat → Bool} {held : Bool}
theorem rd_strs {t e : TypeId} {v : Value} {d : DataW H} {p : List MemPlace} (ht : P.underlying t = some (.slice e)) (he : P.underlying e = some .string) (hC : P.cellsOf e = 1)
    (hv : ∃ A n c, v = .slice A n c) (h : DataW.Trod enc P W base spare held t v d p) : ∃ (A : Option Addr) (l : List (List UInt8)) (c : Nat), v = .slice A l.length c ∧ Rd W v (l.map fun x => Value.string (str x)) ∧ l.length ≤ c ∧ c ≤ maxLen ∧ ∀ a ∈ l, a.length ≤ maxLen :=
  rd_slice1 (fun x : List UInt8 => Value.string (str x)) (fun a => a.length ≤ maxLen) ht hC (fun fuel u y hy => by
    obtain ⟨b, hb, _, hw⟩ := DataW.trod_string he hy
    exact ⟨b.data.toList, by simp only [str_data]; simpa using hb, hw⟩) hv h
end
theorem rds_of_rd {W : World} {A : Option Addr} {c : Nat} {l : List (List UInt8)} (h : Rd W (.slice A l.length c) (l.map fun x => Value.string (str x))) : RdS W A l := by
  obtain ⟨A', c', hv, hr⟩ := h
  injection hv with h1 h2 h3
  subst h1
  intro i hi
  have hne : (l.map fun x => Value.string (str x)) ≠ [] := by
    intro h
    have := congrArg List.length h
    simp at this
    subst this
    simp at hi
  obtain ⟨ad, ha, hc⟩ := hr hne
  have h0 := hc i (.string (str l[i])) (by simp [hi])
  obtain ⟨b, off, spot⟩ := ad
  have hsp : spot = none := by
    have h1 : 0 < l.length := by omega
    have := World.cell?_spot (hc 0 (.string (str l[0])) (by simp [h1]))
    simpa [Addr.add] using this
  subst hsp
  refine ⟨b, off, ha, ?_⟩
  rwa [Addr.add_lit] at h0
end Go.Proofs.YtfppancidgamjaaDoor
