/-
  DERIVED. GIVEN WITH THE SEED: THE CARDS: each row of YtmppagiaonbggaaDoorRows.lean that lists a variable, with what it lists TIED to the program's text (the seventh form; the later family's looks); each row that meets fmt, with fmt's text TOLD by the authors' own Lean function (tested against real Go, not proved from fmt's source: count such statements apart). THE CARD IS WHAT COUNTS. Prove the row's statement (the work); the ties are given (YtmppagiaonbggaaDoorTie.lean); close each card by the builder's one call (the guide's Derived/Test/ToyasCard.lean, 'card_holds'). Laid BY PROGRAM, IN A SANDBOX (cutbox-door.mjs). By AI agents, Wed Nov 11 2026. No macro, syntax, notation, axiom, sorry.
-/
import Derived.Test.YtmppagiaonbggaaDoorRows
import GoSem.ClaimSeven
namespace Go.Proofs.YtmppagiaonbggaaDoor
namespace Rows

/-- THE TIED CARD OF 'portmanteaulaw16.SourcePlans'. -/
def sourcePlansCard : Claim7 := { stood := { row := sourcePlansRow, standIns := [], harness := (true, "c80973c1a998e28389cbe697033d84cbb1cedcc303d3b990933595565d6c1092"), looks := false }, kinds := [], alts := [], laidByText := true, laidKinds := [.data, .data, .pinned], laidTests := true, laidLooks := .later }
def SourcePlansCardSaid : Prop := Claim7.holds Tryd.pinned (.plain (OpenSpec.ofChange sourcePlansSpec)) sourcePlansCard

/-- THE TIED CARD OF 'portmanteaulaw16.SourceApart'. -/
def sourceApartCard : Claim7 := { stood := { row := sourceApartRow, standIns := [], harness := (true, "c80973c1a998e28389cbe697033d84cbb1cedcc303d3b990933595565d6c1092"), looks := false }, kinds := [], alts := [], laidByText := true, laidKinds := [.data, .data, .pinned], laidTests := true, laidLooks := .later }
def SourceApartCardSaid : Prop := Claim7.holds Tryd.pinned (.plain (OpenSpec.ofChange sourceApartSpec)) sourceApartCard

/-- THE TIED CARD OF 'portmanteaulaw16.SourceChunks'. -/
def sourceChunksCard : Claim7 := { stood := { row := sourceChunksRow, standIns := [], harness := (true, "c80973c1a998e28389cbe697033d84cbb1cedcc303d3b990933595565d6c1092"), looks := false }, kinds := [], alts := [], laidByText := true, laidKinds := [.data, .data, .pinned], laidTests := true, laidLooks := .later }
def SourceChunksCardSaid : Prop := Claim7.holds Tryd.pinned (.plain (OpenSpec.ofChange sourceChunksSpec)) sourceChunksCard

/-- THE TIED CARD OF 'portmanteaulaw16.SourceWrong'. -/
def sourceWrongCard : Claim7 := { stood := { row := sourceWrongRow, standIns := [], harness := (true, "c80973c1a998e28389cbe697033d84cbb1cedcc303d3b990933595565d6c1092"), looks := false }, kinds := [], alts := [], laidByText := true, laidKinds := [.data, .data, .pinned], laidTests := true, laidLooks := .later }
def SourceWrongCardSaid : Prop := Claim7.holds Tryd.pinned (.plain (OpenSpec.ofChange sourceWrongSpec)) sourceWrongCard

/-- THE TIED CARD OF 'portmanteaulaw16.SourceSizes'. -/
def sourceSizesCard : Claim7 := { stood := { row := sourceSizesRow, standIns := [], harness := (true, "c80973c1a998e28389cbe697033d84cbb1cedcc303d3b990933595565d6c1092"), looks := false }, kinds := [], alts := [], laidByText := true, laidKinds := [.data, .data, .pinned], laidTests := true, laidLooks := .later }
def SourceSizesCardSaid : Prop := Claim7.holds Tryd.pinned (.plain (OpenSpec.ofChange sourceSizesSpec)) sourceSizesCard

/-- THE TIED CARD OF 'portmanteaulaw16.SourceJoins'. -/
def sourceJoinsCard : Claim7 := { stood := { row := sourceJoinsRow, standIns := [], harness := (true, "c80973c1a998e28389cbe697033d84cbb1cedcc303d3b990933595565d6c1092"), looks := false }, kinds := [], alts := [], laidByText := true, laidKinds := [.data, .data, .pinned], laidTests := true, laidLooks := .later }
def SourceJoinsCardSaid : Prop := Claim7.holds Tryd.pinned (.plain (OpenSpec.ofChange sourceJoinsSpec)) sourceJoinsCard

/-- THE SECOND FORM's CARD OF 'portmanteaulaw16.SourcePlans'. -/
def sourcePlansUptoCard : Claim7 := { stood := { row := sourcePlansUptoRow, standIns := [], harness := (true, "c80973c1a998e28389cbe697033d84cbb1cedcc303d3b990933595565d6c1092"), looks := false }, kinds := [], alts := [], laidByText := true, laidKinds := [.data, .data, .pinned], laidTests := true, laidLooks := .later }
def SourcePlansUptoCardSaid : Prop := Claim7.holds Tryd.pinned (.plain (OpenSpec.upto sourcePlansSpec)) sourcePlansUptoCard

/-- THE SECOND FORM's CARD OF 'portmanteaulaw16.SourceApart'. -/
def sourceApartUptoCard : Claim7 := { stood := { row := sourceApartUptoRow, standIns := [], harness := (true, "c80973c1a998e28389cbe697033d84cbb1cedcc303d3b990933595565d6c1092"), looks := false }, kinds := [], alts := [], laidByText := true, laidKinds := [.data, .data, .pinned], laidTests := true, laidLooks := .later }
def SourceApartUptoCardSaid : Prop := Claim7.holds Tryd.pinned (.plain (OpenSpec.upto sourceApartSpec)) sourceApartUptoCard

/-- THE SECOND FORM's CARD OF 'portmanteaulaw16.SourceChunks'. -/
def sourceChunksUptoCard : Claim7 := { stood := { row := sourceChunksUptoRow, standIns := [], harness := (true, "c80973c1a998e28389cbe697033d84cbb1cedcc303d3b990933595565d6c1092"), looks := false }, kinds := [], alts := [], laidByText := true, laidKinds := [.data, .data, .pinned], laidTests := true, laidLooks := .later }
def SourceChunksUptoCardSaid : Prop := Claim7.holds Tryd.pinned (.plain (OpenSpec.upto sourceChunksSpec)) sourceChunksUptoCard

/-- THE SECOND FORM's CARD OF 'portmanteaulaw16.SourceWrong'. -/
def sourceWrongUptoCard : Claim7 := { stood := { row := sourceWrongUptoRow, standIns := [], harness := (true, "c80973c1a998e28389cbe697033d84cbb1cedcc303d3b990933595565d6c1092"), looks := false }, kinds := [], alts := [], laidByText := true, laidKinds := [.data, .data, .pinned], laidTests := true, laidLooks := .later }
def SourceWrongUptoCardSaid : Prop := Claim7.holds Tryd.pinned (.plain (OpenSpec.upto sourceWrongSpec)) sourceWrongUptoCard

/-- THE SECOND FORM's CARD OF 'portmanteaulaw16.SourceSizes'. -/
def sourceSizesUptoCard : Claim7 := { stood := { row := sourceSizesUptoRow, standIns := [], harness := (true, "c80973c1a998e28389cbe697033d84cbb1cedcc303d3b990933595565d6c1092"), looks := false }, kinds := [], alts := [], laidByText := true, laidKinds := [.data, .data, .pinned], laidTests := true, laidLooks := .later }
def SourceSizesUptoCardSaid : Prop := Claim7.holds Tryd.pinned (.plain (OpenSpec.upto sourceSizesSpec)) sourceSizesUptoCard

/-- THE SECOND FORM's CARD OF 'portmanteaulaw16.SourceJoins'. -/
def sourceJoinsUptoCard : Claim7 := { stood := { row := sourceJoinsUptoRow, standIns := [], harness := (true, "c80973c1a998e28389cbe697033d84cbb1cedcc303d3b990933595565d6c1092"), looks := false }, kinds := [], alts := [], laidByText := true, laidKinds := [.data, .data, .pinned], laidTests := true, laidLooks := .later }
def SourceJoinsUptoCardSaid : Prop := Claim7.holds Tryd.pinned (.plain (OpenSpec.upto sourceJoinsSpec)) sourceJoinsUptoCard
end Rows
end Go.Proofs.YtmppagiaonbggaaDoor
