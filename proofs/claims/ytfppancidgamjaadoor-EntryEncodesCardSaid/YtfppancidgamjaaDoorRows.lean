/-
  NARROWER THAN 'FOR EVERY INPUT', by the rows' own cells (each row's printed sentence says how): EntryFirsts: laid · EntryOf: laid · EntryFinds: laid · EntryFills: laid · EntryWithins: laid · EntryTells: laid · EntryOne: laid · EntryEncodes: laid.
  DERIVED. THE GIVEN ROWS OF THIS SEAT. 8 by the template 'for every input the law returns true; each argument reads behind the call as it read before'; 0 by the template 'total and deterministic' (their statements: YtfppancidgamjaaDoorTotals.lean).
  GIVEN WITH THE SEED: the statements are not yours to turn. If you find one false, say at which input.
  Laid BY PROGRAM, IN A SANDBOX (cutbox-rows.mjs): the forced cells as the released guide's own fill.sh prints them over the translation 0ec67939d9eba6cd… (all of the seat's roots in one cut). By AI agents, Wed Nov 11 2026. No macro, syntax, notation, axiom, sorry.
-/
import Derived.Test.YtfppancidgamjaaDoorChecked
import GoSem.PinnedTables
import GoSem.Claim
import GoSem.ClaimJoined
import GoSem.ClaimMapViews
import Derived.JoinedTies
import Derived.KernelRfl
namespace Go.Proofs.YtfppancidgamjaaDoor
/- THE CELL 'sum', in the pinned program and in every row, IS THE sha256 OF THE DUMP (.gsa) THAT YtfppancidgamjaaDoorProg.lean LOADS. Nothing in Lean hashes anything: it is a label: what it is worth is what the hold of that sum in a sandbox is worth. -/
noncomputable def Tryd.pinned : Pinned := { name := "ytfppancidgamjaadoor", sum := "0ec67939d9eba6cd66a22716f7dd599a59b760f13b24ad30e270071ee85d57c8", checked := Tryd.checked }
namespace Rows
def none {H : Type} : Left H := { results := [], args := [] }

/- WHAT THE LISTED PACKAGE-LEVEL VARIABLES READ AS WHEN THE CALL BEGINS. Each datum BY PROGRAM (the guide's laid-datum.mjs) off the statement by which the dump's own 'gosem.cut.vars' lays the variable. In a bare row this is a premise. The card (YtfppancidgamjaaDoorCards.lean) ties it to the program's text. -/
def laid_unicode_utf8_acceptRanges {H : Type} : DataW H := .agg [.agg [.lit (.int .u8 128), .lit (.int .u8 191)], .agg [.lit (.int .u8 160), .lit (.int .u8 191)], .agg [.lit (.int .u8 128), .lit (.int .u8 159)], .agg [.lit (.int .u8 144), .lit (.int .u8 191)], .agg [.lit (.int .u8 128), .lit (.int .u8 143)], .agg [.lit (.int .u8 0), .lit (.int .u8 0)], .agg [.lit (.int .u8 0), .lit (.int .u8 0)], .agg [.lit (.int .u8 0), .lit (.int .u8 0)], .agg [.lit (.int .u8 0), .lit (.int .u8 0)], .agg [.lit (.int .u8 0), .lit (.int .u8 0)], .agg [.lit (.int .u8 0), .lit (.int .u8 0)], .agg [.lit (.int .u8 0), .lit (.int .u8 0)], .agg [.lit (.int .u8 0), .lit (.int .u8 0)], .agg [.lit (.int .u8 0), .lit (.int .u8 0)], .agg [.lit (.int .u8 0), .lit (.int .u8 0)], .agg [.lit (.int .u8 0), .lit (.int .u8 0)]]
/-- One of Go's own tables, pinned by name: the form's constant. -/
def laid_unicode_utf8_first : DataW Unit := Go.Pinned.utf8First

/-- 'portmanteaulaw13.EntryFirsts': WHATEVER THE INPUT: true; the input reads as it did. -/
def entryFirstsSpec : ChangeSpec := { name := "entryFirsts", fn := fun _ => fun
  | [d1, d2] => { results := [.lit (.bool true)], args := [d1, d2] }
  | _ => none }
def entryFirstsRow : OpenClaim := { program := "ytfppancidgamjaadoor", sum := "0ec67939d9eba6cd66a22716f7dd599a59b760f13b24ad30e270071ee85d57c8", func := "portmanteau/portmanteaulaw13.EntryFirsts", spec := "entryFirsts", inPlace := ["internal/bytealg.CountString", "internal/bytealg.IndexByteString", "internal/bytealg.IndexString"], unfollowed := true, recurses := true, named := ["unicode/utf8.first", "unicode/utf8.acceptRanges", "internal/bytealg.MaxLen"], apart := false, laid := [("unicode/utf8.acceptRanges", laid_unicode_utf8_acceptRanges), ("unicode/utf8.first", laid_unicode_utf8_first)] }
def EntryFirstsSaid : Prop := entryFirstsRow.holds Tryd.pinned (OpenSpec.ofChange entryFirstsSpec)

/-- ITS FALSE NEIGHBOUR: 'it returns false'. Refute it at one input. -/
def entryFirstsWrong : ChangeSpec := { name := "entryFirsts", fn := fun _ => fun
  | [d1, d2] => { results := [.lit (.bool false)], args := [d1, d2] }
  | _ => none }
def EntryFirstsWrongFalsely : Prop := entryFirstsRow.holds Tryd.pinned (OpenSpec.ofChange entryFirstsWrong)

/-- 'portmanteaulaw13.EntryOf': WHATEVER THE INPUT: true; the input reads as it did. -/
def entryOfSpec : ChangeSpec := { name := "entryOf", fn := fun _ => fun
  | [d] => { results := [.lit (.bool true)], args := [d] }
  | _ => none }
def entryOfRow : OpenClaim := { program := "ytfppancidgamjaadoor", sum := "0ec67939d9eba6cd66a22716f7dd599a59b760f13b24ad30e270071ee85d57c8", func := "portmanteau/portmanteaulaw13.EntryOf", spec := "entryOf", inPlace := ["internal/bytealg.CountString", "internal/bytealg.IndexByteString", "internal/bytealg.IndexString"], unfollowed := true, recurses := true, named := ["unicode/utf8.first", "unicode/utf8.acceptRanges", "internal/bytealg.MaxLen"], apart := false, laid := [("unicode/utf8.acceptRanges", laid_unicode_utf8_acceptRanges), ("unicode/utf8.first", laid_unicode_utf8_first)] }
def EntryOfSaid : Prop := entryOfRow.holds Tryd.pinned (OpenSpec.ofChange entryOfSpec)

/-- ITS FALSE NEIGHBOUR: 'it returns false'. Refute it at one input. -/
def entryOfWrong : ChangeSpec := { name := "entryOf", fn := fun _ => fun
  | [d] => { results := [.lit (.bool false)], args := [d] }
  | _ => none }
def EntryOfWrongFalsely : Prop := entryOfRow.holds Tryd.pinned (OpenSpec.ofChange entryOfWrong)

/-- 'portmanteaulaw13.EntryFinds': WHATEVER THE INPUT: true; the input reads as it did. -/
def entryFindsSpec : ChangeSpec := { name := "entryFinds", fn := fun _ => fun
  | [d] => { results := [.lit (.bool true)], args := [d] }
  | _ => none }
def entryFindsRow : OpenClaim := { program := "ytfppancidgamjaadoor", sum := "0ec67939d9eba6cd66a22716f7dd599a59b760f13b24ad30e270071ee85d57c8", func := "portmanteau/portmanteaulaw13.EntryFinds", spec := "entryFinds", inPlace := ["internal/bytealg.CountString", "internal/bytealg.IndexByteString", "internal/bytealg.IndexString"], unfollowed := true, recurses := true, named := ["unicode/utf8.first", "unicode/utf8.acceptRanges", "internal/bytealg.MaxLen"], apart := false, laid := [("unicode/utf8.acceptRanges", laid_unicode_utf8_acceptRanges), ("unicode/utf8.first", laid_unicode_utf8_first)] }
def EntryFindsSaid : Prop := entryFindsRow.holds Tryd.pinned (OpenSpec.ofChange entryFindsSpec)

/-- ITS FALSE NEIGHBOUR: 'it returns false'. Refute it at one input. -/
def entryFindsWrong : ChangeSpec := { name := "entryFinds", fn := fun _ => fun
  | [d] => { results := [.lit (.bool false)], args := [d] }
  | _ => none }
def EntryFindsWrongFalsely : Prop := entryFindsRow.holds Tryd.pinned (OpenSpec.ofChange entryFindsWrong)

/-- 'portmanteaulaw13.EntryFills': WHATEVER THE INPUT: true; the input reads as it did. -/
def entryFillsSpec : ChangeSpec := { name := "entryFills", fn := fun _ => fun
  | [d1, d2] => { results := [.lit (.bool true)], args := [d1, d2] }
  | _ => none }
def entryFillsRow : OpenClaim := { program := "ytfppancidgamjaadoor", sum := "0ec67939d9eba6cd66a22716f7dd599a59b760f13b24ad30e270071ee85d57c8", func := "portmanteau/portmanteaulaw13.EntryFills", spec := "entryFills", inPlace := ["internal/bytealg.CountString", "internal/bytealg.IndexByteString", "internal/bytealg.IndexString"], unfollowed := true, recurses := true, named := ["unicode/utf8.first", "unicode/utf8.acceptRanges", "internal/bytealg.MaxLen"], apart := false, laid := [("unicode/utf8.acceptRanges", laid_unicode_utf8_acceptRanges), ("unicode/utf8.first", laid_unicode_utf8_first)] }
def EntryFillsSaid : Prop := entryFillsRow.holds Tryd.pinned (OpenSpec.ofChange entryFillsSpec)

/-- ITS FALSE NEIGHBOUR: 'it returns false'. Refute it at one input. -/
def entryFillsWrong : ChangeSpec := { name := "entryFills", fn := fun _ => fun
  | [d1, d2] => { results := [.lit (.bool false)], args := [d1, d2] }
  | _ => none }
def EntryFillsWrongFalsely : Prop := entryFillsRow.holds Tryd.pinned (OpenSpec.ofChange entryFillsWrong)

/-- 'portmanteaulaw13.EntryWithins': WHATEVER THE INPUT: true; the input reads as it did. -/
def entryWithinsSpec : ChangeSpec := { name := "entryWithins", fn := fun _ => fun
  | [d1, d2, d3] => { results := [.lit (.bool true)], args := [d1, d2, d3] }
  | _ => none }
def entryWithinsRow : OpenClaim := { program := "ytfppancidgamjaadoor", sum := "0ec67939d9eba6cd66a22716f7dd599a59b760f13b24ad30e270071ee85d57c8", func := "portmanteau/portmanteaulaw13.EntryWithins", spec := "entryWithins", inPlace := ["internal/bytealg.CountString", "internal/bytealg.IndexByteString", "internal/bytealg.IndexString"], unfollowed := true, recurses := true, named := ["unicode/utf8.first", "unicode/utf8.acceptRanges", "internal/bytealg.MaxLen"], apart := false, laid := [("unicode/utf8.acceptRanges", laid_unicode_utf8_acceptRanges), ("unicode/utf8.first", laid_unicode_utf8_first)] }
def EntryWithinsSaid : Prop := entryWithinsRow.holds Tryd.pinned (OpenSpec.ofChange entryWithinsSpec)

/-- ITS FALSE NEIGHBOUR: 'it returns false'. Refute it at one input. -/
def entryWithinsWrong : ChangeSpec := { name := "entryWithins", fn := fun _ => fun
  | [d1, d2, d3] => { results := [.lit (.bool false)], args := [d1, d2, d3] }
  | _ => none }
def EntryWithinsWrongFalsely : Prop := entryWithinsRow.holds Tryd.pinned (OpenSpec.ofChange entryWithinsWrong)

/-- 'portmanteaulaw13.EntryTells': WHATEVER THE INPUT: true; the input reads as it did. -/
def entryTellsSpec : ChangeSpec := { name := "entryTells", fn := fun _ => fun
  | [d1, d2, d3] => { results := [.lit (.bool true)], args := [d1, d2, d3] }
  | _ => none }
def entryTellsRow : OpenClaim := { program := "ytfppancidgamjaadoor", sum := "0ec67939d9eba6cd66a22716f7dd599a59b760f13b24ad30e270071ee85d57c8", func := "portmanteau/portmanteaulaw13.EntryTells", spec := "entryTells", inPlace := ["internal/bytealg.CountString", "internal/bytealg.IndexByteString", "internal/bytealg.IndexString"], unfollowed := true, recurses := true, named := ["unicode/utf8.first", "unicode/utf8.acceptRanges", "internal/bytealg.MaxLen"], apart := false, laid := [("unicode/utf8.acceptRanges", laid_unicode_utf8_acceptRanges), ("unicode/utf8.first", laid_unicode_utf8_first)] }
def EntryTellsSaid : Prop := entryTellsRow.holds Tryd.pinned (OpenSpec.ofChange entryTellsSpec)

/-- ITS FALSE NEIGHBOUR: 'it returns false'. Refute it at one input. -/
def entryTellsWrong : ChangeSpec := { name := "entryTells", fn := fun _ => fun
  | [d1, d2, d3] => { results := [.lit (.bool false)], args := [d1, d2, d3] }
  | _ => none }
def EntryTellsWrongFalsely : Prop := entryTellsRow.holds Tryd.pinned (OpenSpec.ofChange entryTellsWrong)

/-- 'portmanteaulaw13.EntryOne': WHATEVER THE INPUT: true; the input reads as it did. -/
def entryOneSpec : ChangeSpec := { name := "entryOne", fn := fun _ => fun
  | [d] => { results := [.lit (.bool true)], args := [d] }
  | _ => none }
def entryOneRow : OpenClaim := { program := "ytfppancidgamjaadoor", sum := "0ec67939d9eba6cd66a22716f7dd599a59b760f13b24ad30e270071ee85d57c8", func := "portmanteau/portmanteaulaw13.EntryOne", spec := "entryOne", inPlace := ["internal/bytealg.CountString", "internal/bytealg.IndexByteString", "internal/bytealg.IndexString"], unfollowed := true, recurses := true, named := ["unicode/utf8.first", "unicode/utf8.acceptRanges", "internal/bytealg.MaxLen"], apart := false, laid := [("unicode/utf8.acceptRanges", laid_unicode_utf8_acceptRanges), ("unicode/utf8.first", laid_unicode_utf8_first)] }
def EntryOneSaid : Prop := entryOneRow.holds Tryd.pinned (OpenSpec.ofChange entryOneSpec)

/-- ITS FALSE NEIGHBOUR: 'it returns false'. Refute it at one input. -/
def entryOneWrong : ChangeSpec := { name := "entryOne", fn := fun _ => fun
  | [d] => { results := [.lit (.bool false)], args := [d] }
  | _ => none }
def EntryOneWrongFalsely : Prop := entryOneRow.holds Tryd.pinned (OpenSpec.ofChange entryOneWrong)

/-- 'portmanteaulaw13.EntryEncodes': WHATEVER THE INPUT: true; the input reads as it did. -/
def entryEncodesSpec : ChangeSpec := { name := "entryEncodes", fn := fun _ => fun
  | [d] => { results := [.lit (.bool true)], args := [d] }
  | _ => none }
def entryEncodesRow : OpenClaim := { program := "ytfppancidgamjaadoor", sum := "0ec67939d9eba6cd66a22716f7dd599a59b760f13b24ad30e270071ee85d57c8", func := "portmanteau/portmanteaulaw13.EntryEncodes", spec := "entryEncodes", inPlace := ["internal/bytealg.CountString", "internal/bytealg.IndexByteString", "internal/bytealg.IndexString"], unfollowed := true, recurses := true, named := ["unicode/utf8.first", "unicode/utf8.acceptRanges", "internal/bytealg.MaxLen"], apart := false, laid := [("unicode/utf8.acceptRanges", laid_unicode_utf8_acceptRanges), ("unicode/utf8.first", laid_unicode_utf8_first)] }
def EntryEncodesSaid : Prop := entryEncodesRow.holds Tryd.pinned (OpenSpec.ofChange entryEncodesSpec)

/-- ITS FALSE NEIGHBOUR: 'it returns false'. Refute it at one input. -/
def entryEncodesWrong : ChangeSpec := { name := "entryEncodes", fn := fun _ => fun
  | [d] => { results := [.lit (.bool false)], args := [d] }
  | _ => none }
def EntryEncodesWrongFalsely : Prop := entryEncodesRow.holds Tryd.pinned (OpenSpec.ofChange entryEncodesWrong)

/- THE SECOND FORM. 'bulk': how many values and letters a reading holds, each counted each time it is reached (what is shared counts as often as it is met; a slice's spare places count too). A statement '..UptoSaid' is the law's where the arguments, and the package variables that the reading takes, are together of bulk at most 1048576: NARROWER than '..Said'. Prove '..Said' where nothing that the law and all that it calls make is longer than what came in: it says more and counts as full. Else prove '..UptoSaid'. A law counts once. -/
mutual
def uptoBulk {H : Type} : DataW H → Nat
  | .lit (.string bytes) => bytes.length + 1
  | .lit _ => 1
  | .nil => 1
  | .ptr d => uptoBulk d + 1
  | .slice elems spare => uptoBulkAll elems + uptoBulkAll spare + 1
  | .agg parts => uptoBulkAll parts + 1
  | .iface _ d => uptoBulk d + 1
  | .map entries => uptoBulkEntries entries + 1
  | .held _ => 1
def uptoBulkAll {H : Type} : List (DataW H) → Nat
  | [] => 0
  | d :: r => uptoBulk d + uptoBulkAll r
def uptoBulkEntries {H : Type} : List (Lit × DataW H) → Nat
  | [] => 0
  | x :: r => uptoBulkEntry x + uptoBulkEntries r
def uptoBulkEntry {H : Type} : Lit × DataW H → Nat
  | (.string bytes, d) => bytes.length + uptoBulk d + 1
  | (_, d) => uptoBulk d + 1
 end
def uptoSmall : (H : Type) → List (DataW H) → Bool := fun _ ds => decide (uptoBulkAll ds ≤ 1048576)
def OpenSpec.upto (s : _root_.Go.ChangeSpec) : _root_.Go.OpenSpec := { _root_.Go.OpenSpec.ofChange s with cond := some uptoSmall }

/-- 'portmanteaulaw13.EntryFirsts', WHERE WHAT IT READS IS OF BULK AT MOST 1048576: true; the input reads as it did. -/
def entryFirstsUptoRow : OpenClaim := { program := "ytfppancidgamjaadoor", sum := "0ec67939d9eba6cd66a22716f7dd599a59b760f13b24ad30e270071ee85d57c8", func := "portmanteau/portmanteaulaw13.EntryFirsts", spec := "entryFirsts", inPlace := ["internal/bytealg.CountString", "internal/bytealg.IndexByteString", "internal/bytealg.IndexString"], unfollowed := true, recurses := true, named := ["unicode/utf8.first", "unicode/utf8.acceptRanges", "internal/bytealg.MaxLen"], apart := false, laid := [("unicode/utf8.acceptRanges", laid_unicode_utf8_acceptRanges), ("unicode/utf8.first", laid_unicode_utf8_first)], narrowed := true }
def EntryFirstsUptoSaid : Prop := entryFirstsUptoRow.holds Tryd.pinned (OpenSpec.upto entryFirstsSpec)

/-- 'portmanteaulaw13.EntryOf', WHERE WHAT IT READS IS OF BULK AT MOST 1048576: true; the input reads as it did. -/
def entryOfUptoRow : OpenClaim := { program := "ytfppancidgamjaadoor", sum := "0ec67939d9eba6cd66a22716f7dd599a59b760f13b24ad30e270071ee85d57c8", func := "portmanteau/portmanteaulaw13.EntryOf", spec := "entryOf", inPlace := ["internal/bytealg.CountString", "internal/bytealg.IndexByteString", "internal/bytealg.IndexString"], unfollowed := true, recurses := true, named := ["unicode/utf8.first", "unicode/utf8.acceptRanges", "internal/bytealg.MaxLen"], apart := false, laid := [("unicode/utf8.acceptRanges", laid_unicode_utf8_acceptRanges), ("unicode/utf8.first", laid_unicode_utf8_first)], narrowed := true }
def EntryOfUptoSaid : Prop := entryOfUptoRow.holds Tryd.pinned (OpenSpec.upto entryOfSpec)

/-- 'portmanteaulaw13.EntryFinds', WHERE WHAT IT READS IS OF BULK AT MOST 1048576: true; the input reads as it did. -/
def entryFindsUptoRow : OpenClaim := { program := "ytfppancidgamjaadoor", sum := "0ec67939d9eba6cd66a22716f7dd599a59b760f13b24ad30e270071ee85d57c8", func := "portmanteau/portmanteaulaw13.EntryFinds", spec := "entryFinds", inPlace := ["internal/bytealg.CountString", "internal/bytealg.IndexByteString", "internal/bytealg.IndexString"], unfollowed := true, recurses := true, named := ["unicode/utf8.first", "unicode/utf8.acceptRanges", "internal/bytealg.MaxLen"], apart := false, laid := [("unicode/utf8.acceptRanges", laid_unicode_utf8_acceptRanges), ("unicode/utf8.first", laid_unicode_utf8_first)], narrowed := true }
def EntryFindsUptoSaid : Prop := entryFindsUptoRow.holds Tryd.pinned (OpenSpec.upto entryFindsSpec)

/-- 'portmanteaulaw13.EntryFills', WHERE WHAT IT READS IS OF BULK AT MOST 1048576: true; the input reads as it did. -/
def entryFillsUptoRow : OpenClaim := { program := "ytfppancidgamjaadoor", sum := "0ec67939d9eba6cd66a22716f7dd599a59b760f13b24ad30e270071ee85d57c8", func := "portmanteau/portmanteaulaw13.EntryFills", spec := "entryFills", inPlace := ["internal/bytealg.CountString", "internal/bytealg.IndexByteString", "internal/bytealg.IndexString"], unfollowed := true, recurses := true, named := ["unicode/utf8.first", "unicode/utf8.acceptRanges", "internal/bytealg.MaxLen"], apart := false, laid := [("unicode/utf8.acceptRanges", laid_unicode_utf8_acceptRanges), ("unicode/utf8.first", laid_unicode_utf8_first)], narrowed := true }
def EntryFillsUptoSaid : Prop := entryFillsUptoRow.holds Tryd.pinned (OpenSpec.upto entryFillsSpec)

/-- 'portmanteaulaw13.EntryWithins', WHERE WHAT IT READS IS OF BULK AT MOST 1048576: true; the input reads as it did. -/
def entryWithinsUptoRow : OpenClaim := { program := "ytfppancidgamjaadoor", sum := "0ec67939d9eba6cd66a22716f7dd599a59b760f13b24ad30e270071ee85d57c8", func := "portmanteau/portmanteaulaw13.EntryWithins", spec := "entryWithins", inPlace := ["internal/bytealg.CountString", "internal/bytealg.IndexByteString", "internal/bytealg.IndexString"], unfollowed := true, recurses := true, named := ["unicode/utf8.first", "unicode/utf8.acceptRanges", "internal/bytealg.MaxLen"], apart := false, laid := [("unicode/utf8.acceptRanges", laid_unicode_utf8_acceptRanges), ("unicode/utf8.first", laid_unicode_utf8_first)], narrowed := true }
def EntryWithinsUptoSaid : Prop := entryWithinsUptoRow.holds Tryd.pinned (OpenSpec.upto entryWithinsSpec)

/-- 'portmanteaulaw13.EntryTells', WHERE WHAT IT READS IS OF BULK AT MOST 1048576: true; the input reads as it did. -/
def entryTellsUptoRow : OpenClaim := { program := "ytfppancidgamjaadoor", sum := "0ec67939d9eba6cd66a22716f7dd599a59b760f13b24ad30e270071ee85d57c8", func := "portmanteau/portmanteaulaw13.EntryTells", spec := "entryTells", inPlace := ["internal/bytealg.CountString", "internal/bytealg.IndexByteString", "internal/bytealg.IndexString"], unfollowed := true, recurses := true, named := ["unicode/utf8.first", "unicode/utf8.acceptRanges", "internal/bytealg.MaxLen"], apart := false, laid := [("unicode/utf8.acceptRanges", laid_unicode_utf8_acceptRanges), ("unicode/utf8.first", laid_unicode_utf8_first)], narrowed := true }
def EntryTellsUptoSaid : Prop := entryTellsUptoRow.holds Tryd.pinned (OpenSpec.upto entryTellsSpec)

/-- 'portmanteaulaw13.EntryOne', WHERE WHAT IT READS IS OF BULK AT MOST 1048576: true; the input reads as it did. -/
def entryOneUptoRow : OpenClaim := { program := "ytfppancidgamjaadoor", sum := "0ec67939d9eba6cd66a22716f7dd599a59b760f13b24ad30e270071ee85d57c8", func := "portmanteau/portmanteaulaw13.EntryOne", spec := "entryOne", inPlace := ["internal/bytealg.CountString", "internal/bytealg.IndexByteString", "internal/bytealg.IndexString"], unfollowed := true, recurses := true, named := ["unicode/utf8.first", "unicode/utf8.acceptRanges", "internal/bytealg.MaxLen"], apart := false, laid := [("unicode/utf8.acceptRanges", laid_unicode_utf8_acceptRanges), ("unicode/utf8.first", laid_unicode_utf8_first)], narrowed := true }
def EntryOneUptoSaid : Prop := entryOneUptoRow.holds Tryd.pinned (OpenSpec.upto entryOneSpec)

/-- 'portmanteaulaw13.EntryEncodes', WHERE WHAT IT READS IS OF BULK AT MOST 1048576: true; the input reads as it did. -/
def entryEncodesUptoRow : OpenClaim := { program := "ytfppancidgamjaadoor", sum := "0ec67939d9eba6cd66a22716f7dd599a59b760f13b24ad30e270071ee85d57c8", func := "portmanteau/portmanteaulaw13.EntryEncodes", spec := "entryEncodes", inPlace := ["internal/bytealg.CountString", "internal/bytealg.IndexByteString", "internal/bytealg.IndexString"], unfollowed := true, recurses := true, named := ["unicode/utf8.first", "unicode/utf8.acceptRanges", "internal/bytealg.MaxLen"], apart := false, laid := [("unicode/utf8.acceptRanges", laid_unicode_utf8_acceptRanges), ("unicode/utf8.first", laid_unicode_utf8_first)], narrowed := true }
def EntryEncodesUptoSaid : Prop := entryEncodesUptoRow.holds Tryd.pinned (OpenSpec.upto entryEncodesSpec)

end Rows
end Go.Proofs.YtfppancidgamjaaDoor
