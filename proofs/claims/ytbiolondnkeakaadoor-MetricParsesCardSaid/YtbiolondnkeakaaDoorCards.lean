/-
  DERIVED. GIVEN WITH THE SEED: THE CARDS: each row of YtbiolondnkeakaaDoorRows.lean that lists a variable, with what it lists TIED to the program's text (the seventh form; the later family's looks); each row that meets fmt, with fmt's text TOLD by the authors' own Lean function (tested against real Go, not proved from fmt's source: count such statements apart). THE CARD IS WHAT COUNTS. Prove the row's statement (the work); the ties are given (YtbiolondnkeakaaDoorTie.lean); close each card by the builder's one call (the guide's Derived/Test/ToyasCard.lean, 'card_holds'). Laid BY PROGRAM, IN A SANDBOX (cutbox-door.mjs). By AI agents, Wed Nov 11 2026. No macro, syntax, notation, axiom, sorry.
-/
import Derived.Test.YtbiolondnkeakaaDoorRows
import GoSem.ClaimSeven
namespace Go.Proofs.YtbiolondnkeakaaDoor
namespace Rows

/-- THE TIED CARD OF 'flagstonelaw34.MetricParses'. -/
def metricParsesCard : Claim7 := { stood := { row := metricParsesRow, standIns := [], harness := (true, "56080782be04f4ad7f605bde40b74e540c2647c93b4a3ca8f27afa7a5f751238"), looks := true }, kinds := [], alts := [], laidByText := true, laidKinds := [.data, .data, .data, .sentinel, .sentinel, .listed, .data], laidTests := true, laidLooks := .later }
def MetricParsesCardSaid : Prop := Claim7.holds Tryd.pinned (.plain (OpenSpec.ofChange metricParsesSpec)) metricParsesCard

/-- THE TIED CARD OF 'flagstonelaw34.MetricLong'. -/
def metricLongCard : Claim7 := { stood := { row := metricLongRow, standIns := [], harness := (true, "56080782be04f4ad7f605bde40b74e540c2647c93b4a3ca8f27afa7a5f751238"), looks := true }, kinds := [], alts := [], laidByText := true, laidKinds := [.data, .data, .data, .sentinel, .sentinel, .listed, .data], laidTests := true, laidLooks := .later }
def MetricLongCardSaid : Prop := Claim7.holds Tryd.pinned (.plain (OpenSpec.ofChange metricLongSpec)) metricLongCard

/-- THE TIED CARD OF 'flagstonelaw34.MetricValues'. -/
def metricValuesCard : Claim7 := { stood := { row := metricValuesRow, standIns := [], harness := (true, "56080782be04f4ad7f605bde40b74e540c2647c93b4a3ca8f27afa7a5f751238"), looks := true }, kinds := [], alts := [], laidByText := true, laidKinds := [.data, .data, .data, .sentinel, .sentinel, .listed, .data], laidTests := true, laidLooks := .later }
def MetricValuesCardSaid : Prop := Claim7.holds Tryd.pinned (.plain (OpenSpec.ofChange metricValuesSpec)) metricValuesCard

/-- THE TIED CARD OF 'flagstonelaw34.MetricLimited'. -/
def metricLimitedCard : Claim7 := { stood := { row := metricLimitedRow, standIns := [], harness := (true, "56080782be04f4ad7f605bde40b74e540c2647c93b4a3ca8f27afa7a5f751238"), looks := true }, kinds := [], alts := [], laidByText := true, laidKinds := [.data, .data, .data, .sentinel, .sentinel, .listed, .data], laidTests := true, laidLooks := .later }
def MetricLimitedCardSaid : Prop := Claim7.holds Tryd.pinned (.plain (OpenSpec.ofChange metricLimitedSpec)) metricLimitedCard

/-- THE TIED CARD OF 'flagstonelaw34.MetricChecks'. -/
def metricChecksCard : Claim7 := { stood := { row := metricChecksRow, standIns := [], harness := (true, "56080782be04f4ad7f605bde40b74e540c2647c93b4a3ca8f27afa7a5f751238"), looks := true }, kinds := [], alts := [], laidByText := true, laidKinds := [.data, .data, .data, .sentinel, .sentinel, .listed, .data], laidTests := true, laidLooks := .later }
def MetricChecksCardSaid : Prop := Claim7.holds Tryd.pinned (.plain (OpenSpec.ofChange metricChecksSpec)) metricChecksCard

/-- THE TIED CARD OF 'flagstonelaw34.MetricRoundTrip'. -/
def metricRoundTripCard : Claim7 := { stood := { row := metricRoundTripRow, standIns := [], harness := (true, "56080782be04f4ad7f605bde40b74e540c2647c93b4a3ca8f27afa7a5f751238"), looks := true }, kinds := [], alts := [], laidByText := true, laidKinds := [.data, .data, .data, .sentinel, .sentinel, .listed, .data], laidTests := true, laidLooks := .later }
def MetricRoundTripCardSaid : Prop := Claim7.holds Tryd.pinned (.plain (OpenSpec.ofChange metricRoundTripSpec)) metricRoundTripCard

/-- THE SECOND FORM's CARD OF 'flagstonelaw34.MetricParses'. -/
def metricParsesUptoCard : Claim7 := { stood := { row := metricParsesUptoRow, standIns := [], harness := (true, "56080782be04f4ad7f605bde40b74e540c2647c93b4a3ca8f27afa7a5f751238"), looks := true }, kinds := [], alts := [], laidByText := true, laidKinds := [.data, .data, .data, .sentinel, .sentinel, .listed, .data], laidTests := true, laidLooks := .later }
def MetricParsesUptoCardSaid : Prop := Claim7.holds Tryd.pinned (.plain (OpenSpec.upto metricParsesSpec)) metricParsesUptoCard

/-- THE SECOND FORM's CARD OF 'flagstonelaw34.MetricLong'. -/
def metricLongUptoCard : Claim7 := { stood := { row := metricLongUptoRow, standIns := [], harness := (true, "56080782be04f4ad7f605bde40b74e540c2647c93b4a3ca8f27afa7a5f751238"), looks := true }, kinds := [], alts := [], laidByText := true, laidKinds := [.data, .data, .data, .sentinel, .sentinel, .listed, .data], laidTests := true, laidLooks := .later }
def MetricLongUptoCardSaid : Prop := Claim7.holds Tryd.pinned (.plain (OpenSpec.upto metricLongSpec)) metricLongUptoCard

/-- THE SECOND FORM's CARD OF 'flagstonelaw34.MetricValues'. -/
def metricValuesUptoCard : Claim7 := { stood := { row := metricValuesUptoRow, standIns := [], harness := (true, "56080782be04f4ad7f605bde40b74e540c2647c93b4a3ca8f27afa7a5f751238"), looks := true }, kinds := [], alts := [], laidByText := true, laidKinds := [.data, .data, .data, .sentinel, .sentinel, .listed, .data], laidTests := true, laidLooks := .later }
def MetricValuesUptoCardSaid : Prop := Claim7.holds Tryd.pinned (.plain (OpenSpec.upto metricValuesSpec)) metricValuesUptoCard

/-- THE SECOND FORM's CARD OF 'flagstonelaw34.MetricLimited'. -/
def metricLimitedUptoCard : Claim7 := { stood := { row := metricLimitedUptoRow, standIns := [], harness := (true, "56080782be04f4ad7f605bde40b74e540c2647c93b4a3ca8f27afa7a5f751238"), looks := true }, kinds := [], alts := [], laidByText := true, laidKinds := [.data, .data, .data, .sentinel, .sentinel, .listed, .data], laidTests := true, laidLooks := .later }
def MetricLimitedUptoCardSaid : Prop := Claim7.holds Tryd.pinned (.plain (OpenSpec.upto metricLimitedSpec)) metricLimitedUptoCard

/-- THE SECOND FORM's CARD OF 'flagstonelaw34.MetricChecks'. -/
def metricChecksUptoCard : Claim7 := { stood := { row := metricChecksUptoRow, standIns := [], harness := (true, "56080782be04f4ad7f605bde40b74e540c2647c93b4a3ca8f27afa7a5f751238"), looks := true }, kinds := [], alts := [], laidByText := true, laidKinds := [.data, .data, .data, .sentinel, .sentinel, .listed, .data], laidTests := true, laidLooks := .later }
def MetricChecksUptoCardSaid : Prop := Claim7.holds Tryd.pinned (.plain (OpenSpec.upto metricChecksSpec)) metricChecksUptoCard

/-- THE SECOND FORM's CARD OF 'flagstonelaw34.MetricRoundTrip'. -/
def metricRoundTripUptoCard : Claim7 := { stood := { row := metricRoundTripUptoRow, standIns := [], harness := (true, "56080782be04f4ad7f605bde40b74e540c2647c93b4a3ca8f27afa7a5f751238"), looks := true }, kinds := [], alts := [], laidByText := true, laidKinds := [.data, .data, .data, .sentinel, .sentinel, .listed, .data], laidTests := true, laidLooks := .later }
def MetricRoundTripUptoCardSaid : Prop := Claim7.holds Tryd.pinned (.plain (OpenSpec.upto metricRoundTripSpec)) metricRoundTripUptoCard
end Rows
end Go.Proofs.YtbiolondnkeakaaDoor
