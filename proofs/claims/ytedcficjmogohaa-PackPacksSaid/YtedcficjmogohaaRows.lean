/-
  No cell of these rows narrows 'for every input' (looked for: loops, veiled, ifaces, maps, wideKeys, modest, calm, conditions, laid).
  DERIVED. THE GIVEN ROWS OF THIS SEAT. 7 by the template 'for every input the law returns true; each argument reads behind the call as it read before'; 0 by the template 'total and deterministic' (their statements: YtedcficjmogohaaTotals.lean).
  GIVEN WITH THE SEED: the statements are not yours to turn. If you find one false, say at which input.
  Laid BY PROGRAM, IN A SANDBOX (cutbox-rows.mjs): the forced cells as the released guide's own fill.sh prints them over the translation 019ef399da7dfdef… (all of the seat's roots in one cut). By AI agents, Wed Nov 11 2026. No macro, syntax, notation, axiom, sorry.
-/
import Derived.Test.YtedcficjmogohaaChecked
import GoSem.Claim
import GoSem.ClaimJoined
import GoSem.ClaimMapViews
import Derived.JoinedTies
import Derived.KernelRfl
namespace Go.Proofs.Ytedcficjmogohaa
/- THE CELL 'sum', in the pinned program and in every row, IS THE sha256 OF THE DUMP (.gsa) THAT YtedcficjmogohaaProg.lean LOADS. Nothing in Lean hashes anything: it is a label: what it is worth is what the hold of that sum in a sandbox is worth. -/
noncomputable def Try.pinned : Pinned := { name := "ytedcficjmogohaa", sum := "019ef399da7dfdefa08142943f8648557db8a0dbc1ed890a2c239070a8261f0d", checked := Try.checked }
namespace Rows
def none {H : Type} : Left H := { results := [], args := [] }

/-- 'portmanteaulaw11.PackPacks': WHATEVER THE INPUT: true; the input reads as it did. -/
def packPacksSpec : ChangeSpec := { name := "packPacks", fn := fun _ => fun
  | [d1, d2] => { results := [.lit (.bool true)], args := [d1, d2] }
  | _ => none }
def packPacksRow : OpenClaim := { program := "ytedcficjmogohaa", sum := "019ef399da7dfdefa08142943f8648557db8a0dbc1ed890a2c239070a8261f0d", func := "portmanteau/portmanteaulaw11.PackPacks", spec := "packPacks", unfollowed := true, recurses := true, plainKeys := false, apart := false }
def PackPacksSaid : Prop := packPacksRow.holds Try.pinned (OpenSpec.ofChange packPacksSpec)

/-- ITS FALSE NEIGHBOUR: 'it returns false'. Refute it at one input. -/
def packPacksWrong : ChangeSpec := { name := "packPacks", fn := fun _ => fun
  | [d1, d2] => { results := [.lit (.bool false)], args := [d1, d2] }
  | _ => none }
def PackPacksWrongFalsely : Prop := packPacksRow.holds Try.pinned (OpenSpec.ofChange packPacksWrong)

/-- 'portmanteaulaw11.PackBack': WHATEVER THE INPUT: true; the input reads as it did. -/
def packBackSpec : ChangeSpec := { name := "packBack", fn := fun _ => fun
  | [d1, d2] => { results := [.lit (.bool true)], args := [d1, d2] }
  | _ => none }
def packBackRow : OpenClaim := { program := "ytedcficjmogohaa", sum := "019ef399da7dfdefa08142943f8648557db8a0dbc1ed890a2c239070a8261f0d", func := "portmanteau/portmanteaulaw11.PackBack", spec := "packBack", unfollowed := true, recurses := true, plainKeys := false, apart := false }
def PackBackSaid : Prop := packBackRow.holds Try.pinned (OpenSpec.ofChange packBackSpec)

/-- ITS FALSE NEIGHBOUR: 'it returns false'. Refute it at one input. -/
def packBackWrong : ChangeSpec := { name := "packBack", fn := fun _ => fun
  | [d1, d2] => { results := [.lit (.bool false)], args := [d1, d2] }
  | _ => none }
def PackBackWrongFalsely : Prop := packBackRow.holds Try.pinned (OpenSpec.ofChange packBackWrong)

/-- 'portmanteaulaw11.PackCuts': WHATEVER THE INPUT: true; the input reads as it did. -/
def packCutsSpec : ChangeSpec := { name := "packCuts", fn := fun _ => fun
  | [d1, d2, d3, d4] => { results := [.lit (.bool true)], args := [d1, d2, d3, d4] }
  | _ => none }
def packCutsRow : OpenClaim := { program := "ytedcficjmogohaa", sum := "019ef399da7dfdefa08142943f8648557db8a0dbc1ed890a2c239070a8261f0d", func := "portmanteau/portmanteaulaw11.PackCuts", spec := "packCuts", unfollowed := true, recurses := true, plainKeys := false, apart := false }
def PackCutsSaid : Prop := packCutsRow.holds Try.pinned (OpenSpec.ofChange packCutsSpec)

/-- ITS FALSE NEIGHBOUR: 'it returns false'. Refute it at one input. -/
def packCutsWrong : ChangeSpec := { name := "packCuts", fn := fun _ => fun
  | [d1, d2, d3, d4] => { results := [.lit (.bool false)], args := [d1, d2, d3, d4] }
  | _ => none }
def PackCutsWrongFalsely : Prop := packCutsRow.holds Try.pinned (OpenSpec.ofChange packCutsWrong)

/-- 'portmanteaulaw11.PackBound': WHATEVER THE INPUT: true; the input reads as it did. -/
def packBoundSpec : ChangeSpec := { name := "packBound", fn := fun _ => fun
  | [d1, d2] => { results := [.lit (.bool true)], args := [d1, d2] }
  | _ => none }
def packBoundRow : OpenClaim := { program := "ytedcficjmogohaa", sum := "019ef399da7dfdefa08142943f8648557db8a0dbc1ed890a2c239070a8261f0d", func := "portmanteau/portmanteaulaw11.PackBound", spec := "packBound", unfollowed := true, recurses := true, plainKeys := false, apart := false }
def PackBoundSaid : Prop := packBoundRow.holds Try.pinned (OpenSpec.ofChange packBoundSpec)

/-- ITS FALSE NEIGHBOUR: 'it returns false'. Refute it at one input. -/
def packBoundWrong : ChangeSpec := { name := "packBound", fn := fun _ => fun
  | [d1, d2] => { results := [.lit (.bool false)], args := [d1, d2] }
  | _ => none }
def PackBoundWrongFalsely : Prop := packBoundRow.holds Try.pinned (OpenSpec.ofChange packBoundWrong)

/-- 'portmanteaulaw11.PackWindows': WHATEVER THE INPUT: true; the input reads as it did. -/
def packWindowsSpec : ChangeSpec := { name := "packWindows", fn := fun _ => fun
  | [d1, d2, d3] => { results := [.lit (.bool true)], args := [d1, d2, d3] }
  | _ => none }
def packWindowsRow : OpenClaim := { program := "ytedcficjmogohaa", sum := "019ef399da7dfdefa08142943f8648557db8a0dbc1ed890a2c239070a8261f0d", func := "portmanteau/portmanteaulaw11.PackWindows", spec := "packWindows", unfollowed := true, recurses := true, plainKeys := false, apart := false }
def PackWindowsSaid : Prop := packWindowsRow.holds Try.pinned (OpenSpec.ofChange packWindowsSpec)

/-- ITS FALSE NEIGHBOUR: 'it returns false'. Refute it at one input. -/
def packWindowsWrong : ChangeSpec := { name := "packWindows", fn := fun _ => fun
  | [d1, d2, d3] => { results := [.lit (.bool false)], args := [d1, d2, d3] }
  | _ => none }
def PackWindowsWrongFalsely : Prop := packWindowsRow.holds Try.pinned (OpenSpec.ofChange packWindowsWrong)

/-- 'portmanteaulaw11.PackRaw': WHATEVER THE INPUT: true; the input reads as it did. -/
def packRawSpec : ChangeSpec := { name := "packRaw", fn := fun _ => fun
  | [d] => { results := [.lit (.bool true)], args := [d] }
  | _ => none }
def packRawRow : OpenClaim := { program := "ytedcficjmogohaa", sum := "019ef399da7dfdefa08142943f8648557db8a0dbc1ed890a2c239070a8261f0d", func := "portmanteau/portmanteaulaw11.PackRaw", spec := "packRaw", unfollowed := true, recurses := true, plainKeys := false, apart := false }
def PackRawSaid : Prop := packRawRow.holds Try.pinned (OpenSpec.ofChange packRawSpec)

/-- ITS FALSE NEIGHBOUR: 'it returns false'. Refute it at one input. -/
def packRawWrong : ChangeSpec := { name := "packRaw", fn := fun _ => fun
  | [d] => { results := [.lit (.bool false)], args := [d] }
  | _ => none }
def PackRawWrongFalsely : Prop := packRawRow.holds Try.pinned (OpenSpec.ofChange packRawWrong)

/-- 'portmanteaulaw11.PackTokens': WHATEVER THE INPUT: true; the input reads as it did. -/
def packTokensSpec : ChangeSpec := { name := "packTokens", fn := fun _ => fun
  | [d] => { results := [.lit (.bool true)], args := [d] }
  | _ => none }
def packTokensRow : OpenClaim := { program := "ytedcficjmogohaa", sum := "019ef399da7dfdefa08142943f8648557db8a0dbc1ed890a2c239070a8261f0d", func := "portmanteau/portmanteaulaw11.PackTokens", spec := "packTokens", unfollowed := true, recurses := true, plainKeys := false, apart := false }
def PackTokensSaid : Prop := packTokensRow.holds Try.pinned (OpenSpec.ofChange packTokensSpec)

/-- ITS FALSE NEIGHBOUR: 'it returns false'. Refute it at one input. -/
def packTokensWrong : ChangeSpec := { name := "packTokens", fn := fun _ => fun
  | [d] => { results := [.lit (.bool false)], args := [d] }
  | _ => none }
def PackTokensWrongFalsely : Prop := packTokensRow.holds Try.pinned (OpenSpec.ofChange packTokensWrong)

/- THE SECOND FORM. 'bulk': how many values and letters a reading holds, each counted each time it is reached (what is shared counts as often as it is met; a slice's spare places count too). A statement '..UptoSaid' is the law's where the arguments, and the package variables that the reading takes, are together of bulk at most 1048576: NARROWER than '..Said'. Prove '..Said' where nothing that the law and all that it calls make is longer than what came in: it says more and counts as full. Else prove '..UptoSaid'. A law counts once. -/
mutual
def uptoBulk {H : Type} : DataW H → Nat
  | .lit (.string bytes) => bytes.length + 1
  | .lit _ => 1
  | .nil => 1
  | .ptr d => uptoBulk d + 1
  | .slice elems spare => uptoBulkAll elems + uptoBulkAll spare + 1
  | .agg parts => uptoBulkAll parts + 1
  | .iface _ d => uptoBulk d + 1
  | .map entries => uptoBulkEntries entries + 1
  | .held _ => 1
def uptoBulkAll {H : Type} : List (DataW H) → Nat
  | [] => 0
  | d :: r => uptoBulk d + uptoBulkAll r
def uptoBulkEntries {H : Type} : List (Lit × DataW H) → Nat
  | [] => 0
  | x :: r => uptoBulkEntry x + uptoBulkEntries r
def uptoBulkEntry {H : Type} : Lit × DataW H → Nat
  | (.string bytes, d) => bytes.length + uptoBulk d + 1
  | (_, d) => uptoBulk d + 1
 end
def uptoSmall : (H : Type) → List (DataW H) → Bool := fun _ ds => decide (uptoBulkAll ds ≤ 1048576)
def OpenSpec.upto (s : _root_.Go.ChangeSpec) : _root_.Go.OpenSpec := { _root_.Go.OpenSpec.ofChange s with cond := some uptoSmall }

/-- 'portmanteaulaw11.PackPacks', WHERE WHAT IT READS IS OF BULK AT MOST 1048576: true; the input reads as it did. -/
def packPacksUptoRow : OpenClaim := { program := "ytedcficjmogohaa", sum := "019ef399da7dfdefa08142943f8648557db8a0dbc1ed890a2c239070a8261f0d", func := "portmanteau/portmanteaulaw11.PackPacks", spec := "packPacks", unfollowed := true, recurses := true, plainKeys := false, apart := false, narrowed := true }
def PackPacksUptoSaid : Prop := packPacksUptoRow.holds Try.pinned (OpenSpec.upto packPacksSpec)

/-- 'portmanteaulaw11.PackBack', WHERE WHAT IT READS IS OF BULK AT MOST 1048576: true; the input reads as it did. -/
def packBackUptoRow : OpenClaim := { program := "ytedcficjmogohaa", sum := "019ef399da7dfdefa08142943f8648557db8a0dbc1ed890a2c239070a8261f0d", func := "portmanteau/portmanteaulaw11.PackBack", spec := "packBack", unfollowed := true, recurses := true, plainKeys := false, apart := false, narrowed := true }
def PackBackUptoSaid : Prop := packBackUptoRow.holds Try.pinned (OpenSpec.upto packBackSpec)

/-- 'portmanteaulaw11.PackCuts', WHERE WHAT IT READS IS OF BULK AT MOST 1048576: true; the input reads as it did. -/
def packCutsUptoRow : OpenClaim := { program := "ytedcficjmogohaa", sum := "019ef399da7dfdefa08142943f8648557db8a0dbc1ed890a2c239070a8261f0d", func := "portmanteau/portmanteaulaw11.PackCuts", spec := "packCuts", unfollowed := true, recurses := true, plainKeys := false, apart := false, narrowed := true }
def PackCutsUptoSaid : Prop := packCutsUptoRow.holds Try.pinned (OpenSpec.upto packCutsSpec)

/-- 'portmanteaulaw11.PackBound', WHERE WHAT IT READS IS OF BULK AT MOST 1048576: true; the input reads as it did. -/
def packBoundUptoRow : OpenClaim := { program := "ytedcficjmogohaa", sum := "019ef399da7dfdefa08142943f8648557db8a0dbc1ed890a2c239070a8261f0d", func := "portmanteau/portmanteaulaw11.PackBound", spec := "packBound", unfollowed := true, recurses := true, plainKeys := false, apart := false, narrowed := true }
def PackBoundUptoSaid : Prop := packBoundUptoRow.holds Try.pinned (OpenSpec.upto packBoundSpec)

/-- 'portmanteaulaw11.PackWindows', WHERE WHAT IT READS IS OF BULK AT MOST 1048576: true; the input reads as it did. -/
def packWindowsUptoRow : OpenClaim := { program := "ytedcficjmogohaa", sum := "019ef399da7dfdefa08142943f8648557db8a0dbc1ed890a2c239070a8261f0d", func := "portmanteau/portmanteaulaw11.PackWindows", spec := "packWindows", unfollowed := true, recurses := true, plainKeys := false, apart := false, narrowed := true }
def PackWindowsUptoSaid : Prop := packWindowsUptoRow.holds Try.pinned (OpenSpec.upto packWindowsSpec)

/-- 'portmanteaulaw11.PackRaw', WHERE WHAT IT READS IS OF BULK AT MOST 1048576: true; the input reads as it did. -/
def packRawUptoRow : OpenClaim := { program := "ytedcficjmogohaa", sum := "019ef399da7dfdefa08142943f8648557db8a0dbc1ed890a2c239070a8261f0d", func := "portmanteau/portmanteaulaw11.PackRaw", spec := "packRaw", unfollowed := true, recurses := true, plainKeys := false, apart := false, narrowed := true }
def PackRawUptoSaid : Prop := packRawUptoRow.holds Try.pinned (OpenSpec.upto packRawSpec)

/-- 'portmanteaulaw11.PackTokens', WHERE WHAT IT READS IS OF BULK AT MOST 1048576: true; the input reads as it did. -/
def packTokensUptoRow : OpenClaim := { program := "ytedcficjmogohaa", sum := "019ef399da7dfdefa08142943f8648557db8a0dbc1ed890a2c239070a8261f0d", func := "portmanteau/portmanteaulaw11.PackTokens", spec := "packTokens", unfollowed := true, recurses := true, plainKeys := false, apart := false, narrowed := true }
def PackTokensUptoSaid : Prop := packTokensUptoRow.holds Try.pinned (OpenSpec.upto packTokensSpec)

end Rows
end Go.Proofs.Ytedcficjmogohaa
