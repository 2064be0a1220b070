/-
  No cell of these rows narrows 'for every input' (looked for: loops, veiled, ifaces, maps, wideKeys, modest, calm, conditions, laid).
  DERIVED. THE GIVEN ROWS OF THIS SEAT. 7 by the template 'for every input the law returns true; each argument reads behind the call as it read before'; 0 by the template 'total and deterministic' (their statements: YtnoofgcjhoiboaaTotals.lean).
  GIVEN WITH THE SEED: the statements are not yours to turn. If you find one false, say at which input.
  Laid BY PROGRAM, IN A SANDBOX (cutbox-rows.mjs): the forced cells as the released guide's own fill.sh prints them over the translation 0e4d7b02264e48b7… (all of the seat's roots in one cut). By AI agents, Wed Nov 11 2026. No macro, syntax, notation, axiom, sorry.
-/
import Derived.Test.YtnoofgcjhoiboaaChecked
import GoSem.Claim
import GoSem.ClaimJoined
import GoSem.ClaimMapViews
import Derived.JoinedTies
import Derived.KernelRfl
namespace Go.Proofs.Ytnoofgcjhoiboaa
/- THE CELL 'sum', in the pinned program and in every row, IS THE sha256 OF THE DUMP (.gsa) THAT YtnoofgcjhoiboaaProg.lean LOADS. Nothing in Lean hashes anything: it is a label: what it is worth is what the hold of that sum in a sandbox is worth. -/
noncomputable def Try.pinned : Pinned := { name := "ytnoofgcjhoiboaa", sum := "0e4d7b02264e48b76ac44620c1bb55e7a2641da135314282928c0b6b19c03acf", checked := Try.checked }
namespace Rows
def none {H : Type} : Left H := { results := [], args := [] }

/-- 'portmanteaulaw10.CoderChances': WHATEVER THE INPUT: true; the input reads as it did. -/
def coderChancesSpec : ChangeSpec := { name := "coderChances", fn := fun _ => fun
  | [d] => { results := [.lit (.bool true)], args := [d] }
  | _ => none }
def coderChancesRow : OpenClaim := { program := "ytnoofgcjhoiboaa", sum := "0e4d7b02264e48b76ac44620c1bb55e7a2641da135314282928c0b6b19c03acf", func := "portmanteau/portmanteaulaw10.CoderChances", spec := "coderChances", apart := false }
def CoderChancesSaid : Prop := coderChancesRow.holds Try.pinned (OpenSpec.ofChange coderChancesSpec)

/-- ITS FALSE NEIGHBOUR: 'it returns false'. Refute it at one input. -/
def coderChancesWrong : ChangeSpec := { name := "coderChances", fn := fun _ => fun
  | [d] => { results := [.lit (.bool false)], args := [d] }
  | _ => none }
def CoderChancesWrongFalsely : Prop := coderChancesRow.holds Try.pinned (OpenSpec.ofChange coderChancesWrong)

/-- 'portmanteaulaw10.CoderEnds': WHATEVER THE INPUT: true; the input reads as it did. -/
def coderEndsSpec : ChangeSpec := { name := "coderEnds", fn := fun _ => fun
  | [d] => { results := [.lit (.bool true)], args := [d] }
  | _ => none }
def coderEndsRow : OpenClaim := { program := "ytnoofgcjhoiboaa", sum := "0e4d7b02264e48b76ac44620c1bb55e7a2641da135314282928c0b6b19c03acf", func := "portmanteau/portmanteaulaw10.CoderEnds", spec := "coderEnds", apart := false }
def CoderEndsSaid : Prop := coderEndsRow.holds Try.pinned (OpenSpec.ofChange coderEndsSpec)

/-- ITS FALSE NEIGHBOUR: 'it returns false'. Refute it at one input. -/
def coderEndsWrong : ChangeSpec := { name := "coderEnds", fn := fun _ => fun
  | [d] => { results := [.lit (.bool false)], args := [d] }
  | _ => none }
def CoderEndsWrongFalsely : Prop := coderEndsRow.holds Try.pinned (OpenSpec.ofChange coderEndsWrong)

/-- 'portmanteaulaw10.CoderEvens': WHATEVER THE INPUT: true; the input reads as it did. -/
def coderEvensSpec : ChangeSpec := { name := "coderEvens", fn := fun _ => fun
  | [d1, d2] => { results := [.lit (.bool true)], args := [d1, d2] }
  | _ => none }
def coderEvensRow : OpenClaim := { program := "ytnoofgcjhoiboaa", sum := "0e4d7b02264e48b76ac44620c1bb55e7a2641da135314282928c0b6b19c03acf", func := "portmanteau/portmanteaulaw10.CoderEvens", spec := "coderEvens", apart := false }
def CoderEvensSaid : Prop := coderEvensRow.holds Try.pinned (OpenSpec.ofChange coderEvensSpec)

/-- ITS FALSE NEIGHBOUR: 'it returns false'. Refute it at one input. -/
def coderEvensWrong : ChangeSpec := { name := "coderEvens", fn := fun _ => fun
  | [d1, d2] => { results := [.lit (.bool false)], args := [d1, d2] }
  | _ => none }
def CoderEvensWrongFalsely : Prop := coderEvensRow.holds Try.pinned (OpenSpec.ofChange coderEvensWrong)

/-- 'portmanteaulaw10.CoderPuts': WHATEVER THE INPUT: true; the input reads as it did. -/
def coderPutsSpec : ChangeSpec := { name := "coderPuts", fn := fun _ => fun
  | [d] => { results := [.lit (.bool true)], args := [d] }
  | _ => none }
def coderPutsRow : OpenClaim := { program := "ytnoofgcjhoiboaa", sum := "0e4d7b02264e48b76ac44620c1bb55e7a2641da135314282928c0b6b19c03acf", func := "portmanteau/portmanteaulaw10.CoderPuts", spec := "coderPuts", apart := false }
def CoderPutsSaid : Prop := coderPutsRow.holds Try.pinned (OpenSpec.ofChange coderPutsSpec)

/-- ITS FALSE NEIGHBOUR: 'it returns false'. Refute it at one input. -/
def coderPutsWrong : ChangeSpec := { name := "coderPuts", fn := fun _ => fun
  | [d] => { results := [.lit (.bool false)], args := [d] }
  | _ => none }
def CoderPutsWrongFalsely : Prop := coderPutsRow.holds Try.pinned (OpenSpec.ofChange coderPutsWrong)

/-- 'portmanteaulaw10.CoderRaw': WHATEVER THE INPUT: true; the input reads as it did. -/
def coderRawSpec : ChangeSpec := { name := "coderRaw", fn := fun _ => fun
  | [d1, d2] => { results := [.lit (.bool true)], args := [d1, d2] }
  | _ => none }
def coderRawRow : OpenClaim := { program := "ytnoofgcjhoiboaa", sum := "0e4d7b02264e48b76ac44620c1bb55e7a2641da135314282928c0b6b19c03acf", func := "portmanteau/portmanteaulaw10.CoderRaw", spec := "coderRaw", apart := false }
def CoderRawSaid : Prop := coderRawRow.holds Try.pinned (OpenSpec.ofChange coderRawSpec)

/-- ITS FALSE NEIGHBOUR: 'it returns false'. Refute it at one input. -/
def coderRawWrong : ChangeSpec := { name := "coderRaw", fn := fun _ => fun
  | [d1, d2] => { results := [.lit (.bool false)], args := [d1, d2] }
  | _ => none }
def CoderRawWrongFalsely : Prop := coderRawRow.holds Try.pinned (OpenSpec.ofChange coderRawWrong)

/-- 'portmanteaulaw10.CoderBack': WHATEVER THE INPUT: true; the input reads as it did. -/
def coderBackSpec : ChangeSpec := { name := "coderBack", fn := fun _ => fun
  | [d] => { results := [.lit (.bool true)], args := [d] }
  | _ => none }
def coderBackRow : OpenClaim := { program := "ytnoofgcjhoiboaa", sum := "0e4d7b02264e48b76ac44620c1bb55e7a2641da135314282928c0b6b19c03acf", func := "portmanteau/portmanteaulaw10.CoderBack", spec := "coderBack", unfollowed := true, recurses := true, apart := false }
def CoderBackSaid : Prop := coderBackRow.holds Try.pinned (OpenSpec.ofChange coderBackSpec)

/-- ITS FALSE NEIGHBOUR: 'it returns false'. Refute it at one input. -/
def coderBackWrong : ChangeSpec := { name := "coderBack", fn := fun _ => fun
  | [d] => { results := [.lit (.bool false)], args := [d] }
  | _ => none }
def CoderBackWrongFalsely : Prop := coderBackRow.holds Try.pinned (OpenSpec.ofChange coderBackWrong)

/-- 'portmanteaulaw10.CoderNobody': WHATEVER THE INPUT: true; the input reads as it did. -/
def coderNobodySpec : ChangeSpec := { name := "coderNobody", fn := fun _ => fun
  | [d1, d2] => { results := [.lit (.bool true)], args := [d1, d2] }
  | _ => none }
def coderNobodyRow : OpenClaim := { program := "ytnoofgcjhoiboaa", sum := "0e4d7b02264e48b76ac44620c1bb55e7a2641da135314282928c0b6b19c03acf", func := "portmanteau/portmanteaulaw10.CoderNobody", spec := "coderNobody", apart := false }
def CoderNobodySaid : Prop := coderNobodyRow.holds Try.pinned (OpenSpec.ofChange coderNobodySpec)

/-- ITS FALSE NEIGHBOUR: 'it returns false'. Refute it at one input. -/
def coderNobodyWrong : ChangeSpec := { name := "coderNobody", fn := fun _ => fun
  | [d1, d2] => { results := [.lit (.bool false)], args := [d1, d2] }
  | _ => none }
def CoderNobodyWrongFalsely : Prop := coderNobodyRow.holds Try.pinned (OpenSpec.ofChange coderNobodyWrong)

/- THE SECOND FORM. 'bulk': how many values and letters a reading holds, each counted each time it is reached (what is shared counts as often as it is met; a slice's spare places count too). A statement '..UptoSaid' is the law's where the arguments, and the package variables that the reading takes, are together of bulk at most 1048576: NARROWER than '..Said'. Prove '..Said' where nothing that the law and all that it calls make is longer than what came in: it says more and counts as full. Else prove '..UptoSaid'. A law counts once. -/
mutual
def uptoBulk {H : Type} : DataW H → Nat
  | .lit (.string bytes) => bytes.length + 1
  | .lit _ => 1
  | .nil => 1
  | .ptr d => uptoBulk d + 1
  | .slice elems spare => uptoBulkAll elems + uptoBulkAll spare + 1
  | .agg parts => uptoBulkAll parts + 1
  | .iface _ d => uptoBulk d + 1
  | .map entries => uptoBulkEntries entries + 1
  | .held _ => 1
def uptoBulkAll {H : Type} : List (DataW H) → Nat
  | [] => 0
  | d :: r => uptoBulk d + uptoBulkAll r
def uptoBulkEntries {H : Type} : List (Lit × DataW H) → Nat
  | [] => 0
  | x :: r => uptoBulkEntry x + uptoBulkEntries r
def uptoBulkEntry {H : Type} : Lit × DataW H → Nat
  | (.string bytes, d) => bytes.length + uptoBulk d + 1
  | (_, d) => uptoBulk d + 1
 end
def uptoSmall : (H : Type) → List (DataW H) → Bool := fun _ ds => decide (uptoBulkAll ds ≤ 1048576)
def OpenSpec.upto (s : _root_.Go.ChangeSpec) : _root_.Go.OpenSpec := { _root_.Go.OpenSpec.ofChange s with cond := some uptoSmall }

/-- 'portmanteaulaw10.CoderChances', WHERE WHAT IT READS IS OF BULK AT MOST 1048576: true; the input reads as it did. -/
def coderChancesUptoRow : OpenClaim := { program := "ytnoofgcjhoiboaa", sum := "0e4d7b02264e48b76ac44620c1bb55e7a2641da135314282928c0b6b19c03acf", func := "portmanteau/portmanteaulaw10.CoderChances", spec := "coderChances", apart := false, narrowed := true }
def CoderChancesUptoSaid : Prop := coderChancesUptoRow.holds Try.pinned (OpenSpec.upto coderChancesSpec)

/-- 'portmanteaulaw10.CoderEnds', WHERE WHAT IT READS IS OF BULK AT MOST 1048576: true; the input reads as it did. -/
def coderEndsUptoRow : OpenClaim := { program := "ytnoofgcjhoiboaa", sum := "0e4d7b02264e48b76ac44620c1bb55e7a2641da135314282928c0b6b19c03acf", func := "portmanteau/portmanteaulaw10.CoderEnds", spec := "coderEnds", apart := false, narrowed := true }
def CoderEndsUptoSaid : Prop := coderEndsUptoRow.holds Try.pinned (OpenSpec.upto coderEndsSpec)

/-- 'portmanteaulaw10.CoderEvens', WHERE WHAT IT READS IS OF BULK AT MOST 1048576: true; the input reads as it did. -/
def coderEvensUptoRow : OpenClaim := { program := "ytnoofgcjhoiboaa", sum := "0e4d7b02264e48b76ac44620c1bb55e7a2641da135314282928c0b6b19c03acf", func := "portmanteau/portmanteaulaw10.CoderEvens", spec := "coderEvens", apart := false, narrowed := true }
def CoderEvensUptoSaid : Prop := coderEvensUptoRow.holds Try.pinned (OpenSpec.upto coderEvensSpec)

/-- 'portmanteaulaw10.CoderPuts', WHERE WHAT IT READS IS OF BULK AT MOST 1048576: true; the input reads as it did. -/
def coderPutsUptoRow : OpenClaim := { program := "ytnoofgcjhoiboaa", sum := "0e4d7b02264e48b76ac44620c1bb55e7a2641da135314282928c0b6b19c03acf", func := "portmanteau/portmanteaulaw10.CoderPuts", spec := "coderPuts", apart := false, narrowed := true }
def CoderPutsUptoSaid : Prop := coderPutsUptoRow.holds Try.pinned (OpenSpec.upto coderPutsSpec)

/-- 'portmanteaulaw10.CoderRaw', WHERE WHAT IT READS IS OF BULK AT MOST 1048576: true; the input reads as it did. -/
def coderRawUptoRow : OpenClaim := { program := "ytnoofgcjhoiboaa", sum := "0e4d7b02264e48b76ac44620c1bb55e7a2641da135314282928c0b6b19c03acf", func := "portmanteau/portmanteaulaw10.CoderRaw", spec := "coderRaw", apart := false, narrowed := true }
def CoderRawUptoSaid : Prop := coderRawUptoRow.holds Try.pinned (OpenSpec.upto coderRawSpec)

/-- 'portmanteaulaw10.CoderBack', WHERE WHAT IT READS IS OF BULK AT MOST 1048576: true; the input reads as it did. -/
def coderBackUptoRow : OpenClaim := { program := "ytnoofgcjhoiboaa", sum := "0e4d7b02264e48b76ac44620c1bb55e7a2641da135314282928c0b6b19c03acf", func := "portmanteau/portmanteaulaw10.CoderBack", spec := "coderBack", unfollowed := true, recurses := true, apart := false, narrowed := true }
def CoderBackUptoSaid : Prop := coderBackUptoRow.holds Try.pinned (OpenSpec.upto coderBackSpec)

/-- 'portmanteaulaw10.CoderNobody', WHERE WHAT IT READS IS OF BULK AT MOST 1048576: true; the input reads as it did. -/
def coderNobodyUptoRow : OpenClaim := { program := "ytnoofgcjhoiboaa", sum := "0e4d7b02264e48b76ac44620c1bb55e7a2641da135314282928c0b6b19c03acf", func := "portmanteau/portmanteaulaw10.CoderNobody", spec := "coderNobody", apart := false, narrowed := true }
def CoderNobodyUptoSaid : Prop := coderNobodyUptoRow.holds Try.pinned (OpenSpec.upto coderNobodySpec)

end Rows
end Go.Proofs.Ytnoofgcjhoiboaa
