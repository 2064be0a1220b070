/-
  DERIVED. GIVEN WITH THE SEED: THE CARDS: each row of YtfppancidgamjaaDoorRows.lean that lists a variable, with what it lists TIED to the program's text (the seventh form; the later family's looks); each row that meets fmt, with fmt's text TOLD by the authors' own Lean function (tested against real Go, not proved from fmt's source: count such statements apart). THE CARD IS WHAT COUNTS. Prove the row's statement (the work); the ties are given (YtfppancidgamjaaDoorTie.lean); close each card by the builder's one call (the guide's Derived/Test/ToyasCard.lean, 'card_holds'). Laid BY PROGRAM, IN A SANDBOX (cutbox-door.mjs). By AI agents, Wed Nov 11 2026. No macro, syntax, notation, axiom, sorry.
-/
import Derived.Test.YtfppancidgamjaaDoorRows
import GoSem.ClaimSeven
namespace Go.Proofs.YtfppancidgamjaaDoor
namespace Rows

/-- THE TIED CARD OF 'portmanteaulaw13.EntryFirsts'. -/
def entryFirstsCard : Claim7 := { stood := { row := entryFirstsRow, standIns := [], harness := (true, "069e190679960044feb7b9330e942500d0370c6745909c9e93e67556c6cafc0f"), looks := false }, kinds := [], alts := [], laidByText := true, laidKinds := [.data, .pinned], laidTests := true, laidLooks := .later }
def EntryFirstsCardSaid : Prop := Claim7.holds Tryd.pinned (.plain (OpenSpec.ofChange entryFirstsSpec)) entryFirstsCard

/-- THE TIED CARD OF 'portmanteaulaw13.EntryOf'. -/
def entryOfCard : Claim7 := { stood := { row := entryOfRow, standIns := [], harness := (true, "069e190679960044feb7b9330e942500d0370c6745909c9e93e67556c6cafc0f"), looks := false }, kinds := [], alts := [], laidByText := true, laidKinds := [.data, .pinned], laidTests := true, laidLooks := .later }
def EntryOfCardSaid : Prop := Claim7.holds Tryd.pinned (.plain (OpenSpec.ofChange entryOfSpec)) entryOfCard

/-- THE TIED CARD OF 'portmanteaulaw13.EntryFinds'. -/
def entryFindsCard : Claim7 := { stood := { row := entryFindsRow, standIns := [], harness := (true, "069e190679960044feb7b9330e942500d0370c6745909c9e93e67556c6cafc0f"), looks := false }, kinds := [], alts := [], laidByText := true, laidKinds := [.data, .pinned], laidTests := true, laidLooks := .later }
def EntryFindsCardSaid : Prop := Claim7.holds Tryd.pinned (.plain (OpenSpec.ofChange entryFindsSpec)) entryFindsCard

/-- THE TIED CARD OF 'portmanteaulaw13.EntryFills'. -/
def entryFillsCard : Claim7 := { stood := { row := entryFillsRow, standIns := [], harness := (true, "069e190679960044feb7b9330e942500d0370c6745909c9e93e67556c6cafc0f"), looks := false }, kinds := [], alts := [], laidByText := true, laidKinds := [.data, .pinned], laidTests := true, laidLooks := .later }
def EntryFillsCardSaid : Prop := Claim7.holds Tryd.pinned (.plain (OpenSpec.ofChange entryFillsSpec)) entryFillsCard

/-- THE TIED CARD OF 'portmanteaulaw13.EntryWithins'. -/
def entryWithinsCard : Claim7 := { stood := { row := entryWithinsRow, standIns := [], harness := (true, "069e190679960044feb7b9330e942500d0370c6745909c9e93e67556c6cafc0f"), looks := false }, kinds := [], alts := [], laidByText := true, laidKinds := [.data, .pinned], laidTests := true, laidLooks := .later }
def EntryWithinsCardSaid : Prop := Claim7.holds Tryd.pinned (.plain (OpenSpec.ofChange entryWithinsSpec)) entryWithinsCard

/-- THE TIED CARD OF 'portmanteaulaw13.EntryTells'. -/
def entryTellsCard : Claim7 := { stood := { row := entryTellsRow, standIns := [], harness := (true, "069e190679960044feb7b9330e942500d0370c6745909c9e93e67556c6cafc0f"), looks := false }, kinds := [], alts := [], laidByText := true, laidKinds := [.data, .pinned], laidTests := true, laidLooks := .later }
def EntryTellsCardSaid : Prop := Claim7.holds Tryd.pinned (.plain (OpenSpec.ofChange entryTellsSpec)) entryTellsCard

/-- THE TIED CARD OF 'portmanteaulaw13.EntryOne'. -/
def entryOneCard : Claim7 := { stood := { row := entryOneRow, standIns := [], harness := (true, "069e190679960044feb7b9330e942500d0370c6745909c9e93e67556c6cafc0f"), looks := false }, kinds := [], alts := [], laidByText := true, laidKinds := [.data, .pinned], laidTests := true, laidLooks := .later }
def EntryOneCardSaid : Prop := Claim7.holds Tryd.pinned (.plain (OpenSpec.ofChange entryOneSpec)) entryOneCard

/-- THE TIED CARD OF 'portmanteaulaw13.EntryEncodes'. -/
def entryEncodesCard : Claim7 := { stood := { row := entryEncodesRow, standIns := [], harness := (true, "069e190679960044feb7b9330e942500d0370c6745909c9e93e67556c6cafc0f"), looks := false }, kinds := [], alts := [], laidByText := true, laidKinds := [.data, .pinned], laidTests := true, laidLooks := .later }
def EntryEncodesCardSaid : Prop := Claim7.holds Tryd.pinned (.plain (OpenSpec.ofChange entryEncodesSpec)) entryEncodesCard

/-- THE SECOND FORM's CARD OF 'portmanteaulaw13.EntryFirsts'. -/
def entryFirstsUptoCard : Claim7 := { stood := { row := entryFirstsUptoRow, standIns := [], harness := (true, "069e190679960044feb7b9330e942500d0370c6745909c9e93e67556c6cafc0f"), looks := false }, kinds := [], alts := [], laidByText := true, laidKinds := [.data, .pinned], laidTests := true, laidLooks := .later }
def EntryFirstsUptoCardSaid : Prop := Claim7.holds Tryd.pinned (.plain (OpenSpec.upto entryFirstsSpec)) entryFirstsUptoCard

/-- THE SECOND FORM's CARD OF 'portmanteaulaw13.EntryOf'. -/
def entryOfUptoCard : Claim7 := { stood := { row := entryOfUptoRow, standIns := [], harness := (true, "069e190679960044feb7b9330e942500d0370c6745909c9e93e67556c6cafc0f"), looks := false }, kinds := [], alts := [], laidByText := true, laidKinds := [.data, .pinned], laidTests := true, laidLooks := .later }
def EntryOfUptoCardSaid : Prop := Claim7.holds Tryd.pinned (.plain (OpenSpec.upto entryOfSpec)) entryOfUptoCard

/-- THE SECOND FORM's CARD OF 'portmanteaulaw13.EntryFinds'. -/
def entryFindsUptoCard : Claim7 := { stood := { row := entryFindsUptoRow, standIns := [], harness := (true, "069e190679960044feb7b9330e942500d0370c6745909c9e93e67556c6cafc0f"), looks := false }, kinds := [], alts := [], laidByText := true, laidKinds := [.data, .pinned], laidTests := true, laidLooks := .later }
def EntryFindsUptoCardSaid : Prop := Claim7.holds Tryd.pinned (.plain (OpenSpec.upto entryFindsSpec)) entryFindsUptoCard

/-- THE SECOND FORM's CARD OF 'portmanteaulaw13.EntryFills'. -/
def entryFillsUptoCard : Claim7 := { stood := { row := entryFillsUptoRow, standIns := [], harness := (true, "069e190679960044feb7b9330e942500d0370c6745909c9e93e67556c6cafc0f"), looks := false }, kinds := [], alts := [], laidByText := true, laidKinds := [.data, .pinned], laidTests := true, laidLooks := .later }
def EntryFillsUptoCardSaid : Prop := Claim7.holds Tryd.pinned (.plain (OpenSpec.upto entryFillsSpec)) entryFillsUptoCard

/-- THE SECOND FORM's CARD OF 'portmanteaulaw13.EntryWithins'. -/
def entryWithinsUptoCard : Claim7 := { stood := { row := entryWithinsUptoRow, standIns := [], harness := (true, "069e190679960044feb7b9330e942500d0370c6745909c9e93e67556c6cafc0f"), looks := false }, kinds := [], alts := [], laidByText := true, laidKinds := [.data, .pinned], laidTests := true, laidLooks := .later }
def EntryWithinsUptoCardSaid : Prop := Claim7.holds Tryd.pinned (.plain (OpenSpec.upto entryWithinsSpec)) entryWithinsUptoCard

/-- THE SECOND FORM's CARD OF 'portmanteaulaw13.EntryTells'. -/
def entryTellsUptoCard : Claim7 := { stood := { row := entryTellsUptoRow, standIns := [], harness := (true, "069e190679960044feb7b9330e942500d0370c6745909c9e93e67556c6cafc0f"), looks := false }, kinds := [], alts := [], laidByText := true, laidKinds := [.data, .pinned], laidTests := true, laidLooks := .later }
def EntryTellsUptoCardSaid : Prop := Claim7.holds Tryd.pinned (.plain (OpenSpec.upto entryTellsSpec)) entryTellsUptoCard

/-- THE SECOND FORM's CARD OF 'portmanteaulaw13.EntryOne'. -/
def entryOneUptoCard : Claim7 := { stood := { row := entryOneUptoRow, standIns := [], harness := (true, "069e190679960044feb7b9330e942500d0370c6745909c9e93e67556c6cafc0f"), looks := false }, kinds := [], alts := [], laidByText := true, laidKinds := [.data, .pinned], laidTests := true, laidLooks := .later }
def EntryOneUptoCardSaid : Prop := Claim7.holds Tryd.pinned (.plain (OpenSpec.upto entryOneSpec)) entryOneUptoCard

/-- THE SECOND FORM's CARD OF 'portmanteaulaw13.EntryEncodes'. -/
def entryEncodesUptoCard : Claim7 := { stood := { row := entryEncodesUptoRow, standIns := [], harness := (true, "069e190679960044feb7b9330e942500d0370c6745909c9e93e67556c6cafc0f"), looks := false }, kinds := [], alts := [], laidByText := true, laidKinds := [.data, .pinned], laidTests := true, laidLooks := .later }
def EntryEncodesUptoCardSaid : Prop := Claim7.holds Tryd.pinned (.plain (OpenSpec.upto entryEncodesSpec)) entryEncodesUptoCard
end Rows
end Go.Proofs.YtfppancidgamjaaDoor
