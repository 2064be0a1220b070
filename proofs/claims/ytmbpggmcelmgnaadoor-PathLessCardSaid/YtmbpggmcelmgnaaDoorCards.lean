/-
  DERIVED. GIVEN WITH THE SEED: THE CARDS: each row of YtmbpggmcelmgnaaDoorRows.lean that lists a variable, with what it lists TIED to the program's text (the seventh form; the later family's looks); each row that meets fmt, with fmt's text TOLD by the authors' own Lean function (tested against real Go, not proved from fmt's source: count such statements apart). THE CARD IS WHAT COUNTS. Prove the row's statement (the work); the ties are given (YtmbpggmcelmgnaaDoorTie.lean); close each card by the builder's one call (the guide's Derived/Test/ToyasCard.lean, 'card_holds'). Laid BY PROGRAM, IN A SANDBOX (cutbox-door.mjs). By AI agents, Wed Nov 11 2026. No macro, syntax, notation, axiom, sorry.
-/
import Derived.Test.YtmbpggmcelmgnaaDoorRows
import GoSem.ClaimSeven
namespace Go.Proofs.YtmbpggmcelmgnaaDoor
namespace Rows

/-- THE TIED CARD OF 'portmanteaulaw12.PathTells'. -/
def pathTellsCard : Claim7 := { stood := { row := pathTellsRow, standIns := [], harness := (true, "050c1cd604ce9bca4134da4c08f740abb807cb81c5907d765880ee6eea291e75"), looks := false }, kinds := [], alts := [], laidByText := true, laidKinds := [.data, .pinned], laidTests := true, laidLooks := .later }
def PathTellsCardSaid : Prop := Claim7.holds Tryd.pinned (.plain (OpenSpec.ofChange pathTellsSpec)) pathTellsCard

/-- THE TIED CARD OF 'portmanteaulaw12.PathOrder'. -/
def pathOrderCard : Claim7 := { stood := { row := pathOrderRow, standIns := [], harness := (true, "050c1cd604ce9bca4134da4c08f740abb807cb81c5907d765880ee6eea291e75"), looks := false }, kinds := [], alts := [], laidByText := true, laidKinds := [.data, .pinned], laidTests := true, laidLooks := .later }
def PathOrderCardSaid : Prop := Claim7.holds Tryd.pinned (.plain (OpenSpec.ofChange pathOrderSpec)) pathOrderCard

/-- THE TIED CARD OF 'portmanteaulaw12.PathSorted'. -/
def pathSortedCard : Claim7 := { stood := { row := pathSortedRow, standIns := [], harness := (true, "050c1cd604ce9bca4134da4c08f740abb807cb81c5907d765880ee6eea291e75"), looks := false }, kinds := [], alts := [], laidByText := true, laidKinds := [.data, .pinned], laidTests := true, laidLooks := .later }
def PathSortedCardSaid : Prop := Claim7.holds Tryd.pinned (.plain (OpenSpec.ofChange pathSortedSpec)) pathSortedCard

/-- THE TIED CARD OF 'portmanteaulaw12.PathTogether'. -/
def pathTogetherCard : Claim7 := { stood := { row := pathTogetherRow, standIns := [], harness := (true, "050c1cd604ce9bca4134da4c08f740abb807cb81c5907d765880ee6eea291e75"), looks := false }, kinds := [], alts := [], laidByText := true, laidKinds := [.data, .pinned], laidTests := true, laidLooks := .later }
def PathTogetherCardSaid : Prop := Claim7.holds Tryd.pinned (.plain (OpenSpec.ofChange pathTogetherSpec)) pathTogetherCard

/-- THE TIED CARD OF 'portmanteaulaw12.PathParents'. -/
def pathParentsCard : Claim7 := { stood := { row := pathParentsRow, standIns := [], harness := (true, "050c1cd604ce9bca4134da4c08f740abb807cb81c5907d765880ee6eea291e75"), looks := false }, kinds := [], alts := [], laidByText := true, laidKinds := [.data, .pinned], laidTests := true, laidLooks := .later }
def PathParentsCardSaid : Prop := Claim7.holds Tryd.pinned (.plain (OpenSpec.ofChange pathParentsSpec)) pathParentsCard

/-- THE TIED CARD OF 'portmanteaulaw12.PathJoins'. -/
def pathJoinsCard : Claim7 := { stood := { row := pathJoinsRow, standIns := [], harness := (true, "050c1cd604ce9bca4134da4c08f740abb807cb81c5907d765880ee6eea291e75"), looks := false }, kinds := [], alts := [], laidByText := true, laidKinds := [.data, .pinned], laidTests := true, laidLooks := .later }
def PathJoinsCardSaid : Prop := Claim7.holds Tryd.pinned (.plain (OpenSpec.ofChange pathJoinsSpec)) pathJoinsCard

/-- THE TIED CARD OF 'portmanteaulaw12.PathLess'. -/
def pathLessCard : Claim7 := { stood := { row := pathLessRow, standIns := [], harness := (true, "050c1cd604ce9bca4134da4c08f740abb807cb81c5907d765880ee6eea291e75"), looks := false }, kinds := [], alts := [], laidByText := true, laidKinds := [.data, .pinned], laidTests := true, laidLooks := .later }
def PathLessCardSaid : Prop := Claim7.holds Tryd.pinned (.plain (OpenSpec.ofChange pathLessSpec)) pathLessCard

/-- THE SECOND FORM's CARD OF 'portmanteaulaw12.PathTells'. -/
def pathTellsUptoCard : Claim7 := { stood := { row := pathTellsUptoRow, standIns := [], harness := (true, "050c1cd604ce9bca4134da4c08f740abb807cb81c5907d765880ee6eea291e75"), looks := false }, kinds := [], alts := [], laidByText := true, laidKinds := [.data, .pinned], laidTests := true, laidLooks := .later }
def PathTellsUptoCardSaid : Prop := Claim7.holds Tryd.pinned (.plain (OpenSpec.upto pathTellsSpec)) pathTellsUptoCard

/-- THE SECOND FORM's CARD OF 'portmanteaulaw12.PathOrder'. -/
def pathOrderUptoCard : Claim7 := { stood := { row := pathOrderUptoRow, standIns := [], harness := (true, "050c1cd604ce9bca4134da4c08f740abb807cb81c5907d765880ee6eea291e75"), looks := false }, kinds := [], alts := [], laidByText := true, laidKinds := [.data, .pinned], laidTests := true, laidLooks := .later }
def PathOrderUptoCardSaid : Prop := Claim7.holds Tryd.pinned (.plain (OpenSpec.upto pathOrderSpec)) pathOrderUptoCard

/-- THE SECOND FORM's CARD OF 'portmanteaulaw12.PathSorted'. -/
def pathSortedUptoCard : Claim7 := { stood := { row := pathSortedUptoRow, standIns := [], harness := (true, "050c1cd604ce9bca4134da4c08f740abb807cb81c5907d765880ee6eea291e75"), looks := false }, kinds := [], alts := [], laidByText := true, laidKinds := [.data, .pinned], laidTests := true, laidLooks := .later }
def PathSortedUptoCardSaid : Prop := Claim7.holds Tryd.pinned (.plain (OpenSpec.upto pathSortedSpec)) pathSortedUptoCard

/-- THE SECOND FORM's CARD OF 'portmanteaulaw12.PathTogether'. -/
def pathTogetherUptoCard : Claim7 := { stood := { row := pathTogetherUptoRow, standIns := [], harness := (true, "050c1cd604ce9bca4134da4c08f740abb807cb81c5907d765880ee6eea291e75"), looks := false }, kinds := [], alts := [], laidByText := true, laidKinds := [.data, .pinned], laidTests := true, laidLooks := .later }
def PathTogetherUptoCardSaid : Prop := Claim7.holds Tryd.pinned (.plain (OpenSpec.upto pathTogetherSpec)) pathTogetherUptoCard

/-- THE SECOND FORM's CARD OF 'portmanteaulaw12.PathParents'. -/
def pathParentsUptoCard : Claim7 := { stood := { row := pathParentsUptoRow, standIns := [], harness := (true, "050c1cd604ce9bca4134da4c08f740abb807cb81c5907d765880ee6eea291e75"), looks := false }, kinds := [], alts := [], laidByText := true, laidKinds := [.data, .pinned], laidTests := true, laidLooks := .later }
def PathParentsUptoCardSaid : Prop := Claim7.holds Tryd.pinned (.plain (OpenSpec.upto pathParentsSpec)) pathParentsUptoCard

/-- THE SECOND FORM's CARD OF 'portmanteaulaw12.PathJoins'. -/
def pathJoinsUptoCard : Claim7 := { stood := { row := pathJoinsUptoRow, standIns := [], harness := (true, "050c1cd604ce9bca4134da4c08f740abb807cb81c5907d765880ee6eea291e75"), looks := false }, kinds := [], alts := [], laidByText := true, laidKinds := [.data, .pinned], laidTests := true, laidLooks := .later }
def PathJoinsUptoCardSaid : Prop := Claim7.holds Tryd.pinned (.plain (OpenSpec.upto pathJoinsSpec)) pathJoinsUptoCard

/-- THE SECOND FORM's CARD OF 'portmanteaulaw12.PathLess'. -/
def pathLessUptoCard : Claim7 := { stood := { row := pathLessUptoRow, standIns := [], harness := (true, "050c1cd604ce9bca4134da4c08f740abb807cb81c5907d765880ee6eea291e75"), looks := false }, kinds := [], alts := [], laidByText := true, laidKinds := [.data, .pinned], laidTests := true, laidLooks := .later }
def PathLessUptoCardSaid : Prop := Claim7.holds Tryd.pinned (.plain (OpenSpec.upto pathLessSpec)) pathLessUptoCard
end Rows
end Go.Proofs.YtmbpggmcelmgnaaDoor
