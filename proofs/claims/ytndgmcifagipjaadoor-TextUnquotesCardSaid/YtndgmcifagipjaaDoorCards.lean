/-
  DERIVED. GIVEN WITH THE SEED: THE CARDS: each row of YtndgmcifagipjaaDoorRows.lean that lists a variable, with what it lists TIED to the program's text (the seventh form; the later family's looks); each row that meets fmt, with fmt's text TOLD by the authors' own Lean function (tested against real Go, not proved from fmt's source: count such statements apart). THE CARD IS WHAT COUNTS. Prove the row's statement (the work); the ties are given (YtndgmcifagipjaaDoorTie.lean); close each card by the builder's one call (the guide's Derived/Test/ToyasCard.lean, 'card_holds'). Laid BY PROGRAM, IN A SANDBOX (cutbox-door.mjs). By AI agents, Wed Nov 11 2026. No macro, syntax, notation, axiom, sorry.
-/
import Derived.Test.YtndgmcifagipjaaDoorRows
import GoSem.ClaimSeven
namespace Go.Proofs.YtndgmcifagipjaaDoor
namespace Rows

/-- THE TIED CARD OF 'flagstonelaw1.TextKeys'. -/
def textKeysCard : Claim7 := { stood := { row := textKeysRow, standIns := [], harness := (true, "2f122a4fd78bbc6dba707320252b61903a33b378ec7b5757f60fbf0a4791efe1"), looks := true }, kinds := [], alts := [], laidByText := true, laidKinds := [.data, .data, .data, .data, .sentinel, .sentinel, .listed, .data, .pinned], laidTests := true, laidLooks := .later }
def TextKeysCardSaid : Prop := Claim7.holds Tryd.pinned (.plain (OpenSpec.ofChange textKeysSpec)) textKeysCard

/-- THE TIED CARD OF 'flagstonelaw1.TextValid'. -/
def textValidCard : Claim7 := { stood := { row := textValidRow, standIns := [], harness := (true, "2f122a4fd78bbc6dba707320252b61903a33b378ec7b5757f60fbf0a4791efe1"), looks := true }, kinds := [], alts := [], laidByText := true, laidKinds := [.data, .data, .data, .data, .sentinel, .sentinel, .listed, .data, .pinned], laidTests := true, laidLooks := .later }
def TextValidCardSaid : Prop := Claim7.holds Tryd.pinned (.plain (OpenSpec.ofChange textValidSpec)) textValidCard

/-- THE TIED CARD OF 'flagstonelaw1.TextNumbers'. -/
def textNumbersCard : Claim7 := { stood := { row := textNumbersRow, standIns := [], harness := (true, "2f122a4fd78bbc6dba707320252b61903a33b378ec7b5757f60fbf0a4791efe1"), looks := true }, kinds := [], alts := [], laidByText := true, laidKinds := [.data, .data, .data, .data, .sentinel, .sentinel, .listed, .data, .pinned], laidTests := true, laidLooks := .later }
def TextNumbersCardSaid : Prop := Claim7.holds Tryd.pinned (.plain (OpenSpec.ofChange textNumbersSpec)) textNumbersCard

/-- THE TIED CARD OF 'flagstonelaw1.TextParses'. -/
def textParsesCard : Claim7 := { stood := { row := textParsesRow, standIns := [], harness := (true, "2f122a4fd78bbc6dba707320252b61903a33b378ec7b5757f60fbf0a4791efe1"), looks := true }, kinds := [], alts := [], laidByText := true, laidKinds := [.data, .data, .data, .data, .sentinel, .sentinel, .listed, .data, .pinned], laidTests := true, laidLooks := .later }
def TextParsesCardSaid : Prop := Claim7.holds Tryd.pinned (.plain (OpenSpec.ofChange textParsesSpec)) textParsesCard

/-- THE TIED CARD OF 'flagstonelaw1.TextReserved'. -/
def textReservedCard : Claim7 := { stood := { row := textReservedRow, standIns := [], harness := (true, "2f122a4fd78bbc6dba707320252b61903a33b378ec7b5757f60fbf0a4791efe1"), looks := true }, kinds := [], alts := [], laidByText := true, laidKinds := [.data, .data, .data, .data, .sentinel, .sentinel, .listed, .data, .pinned], laidTests := true, laidLooks := .later }
def TextReservedCardSaid : Prop := Claim7.holds Tryd.pinned (.plain (OpenSpec.ofChange textReservedSpec)) textReservedCard

/-- THE TIED CARD OF 'flagstonelaw1.TextQuotes'. -/
def textQuotesCard : Claim7 := { stood := { row := textQuotesRow, standIns := [], harness := (true, "2f122a4fd78bbc6dba707320252b61903a33b378ec7b5757f60fbf0a4791efe1"), looks := true }, kinds := [], alts := [], laidByText := true, laidKinds := [.data, .data, .data, .data, .sentinel, .sentinel, .listed, .data, .pinned], laidTests := true, laidLooks := .later }
def TextQuotesCardSaid : Prop := Claim7.holds Tryd.pinned (.plain (OpenSpec.ofChange textQuotesSpec)) textQuotesCard

/-- THE TIED CARD OF 'flagstonelaw1.TextUnquotes'. -/
def textUnquotesCard : Claim7 := { stood := { row := textUnquotesRow, standIns := [], harness := (true, "2f122a4fd78bbc6dba707320252b61903a33b378ec7b5757f60fbf0a4791efe1"), looks := true }, kinds := [], alts := [], laidByText := true, laidKinds := [.data, .data, .data, .data, .sentinel, .sentinel, .listed, .data, .pinned], laidTests := true, laidLooks := .later }
def TextUnquotesCardSaid : Prop := Claim7.holds Tryd.pinned (.plain (OpenSpec.ofChange textUnquotesSpec)) textUnquotesCard

/-- THE SECOND FORM's CARD OF 'flagstonelaw1.TextKeys'. -/
def textKeysUptoCard : Claim7 := { stood := { row := textKeysUptoRow, standIns := [], harness := (true, "2f122a4fd78bbc6dba707320252b61903a33b378ec7b5757f60fbf0a4791efe1"), looks := true }, kinds := [], alts := [], laidByText := true, laidKinds := [.data, .data, .data, .data, .sentinel, .sentinel, .listed, .data, .pinned], laidTests := true, laidLooks := .later }
def TextKeysUptoCardSaid : Prop := Claim7.holds Tryd.pinned (.plain (OpenSpec.upto textKeysSpec)) textKeysUptoCard

/-- THE SECOND FORM's CARD OF 'flagstonelaw1.TextValid'. -/
def textValidUptoCard : Claim7 := { stood := { row := textValidUptoRow, standIns := [], harness := (true, "2f122a4fd78bbc6dba707320252b61903a33b378ec7b5757f60fbf0a4791efe1"), looks := true }, kinds := [], alts := [], laidByText := true, laidKinds := [.data, .data, .data, .data, .sentinel, .sentinel, .listed, .data, .pinned], laidTests := true, laidLooks := .later }
def TextValidUptoCardSaid : Prop := Claim7.holds Tryd.pinned (.plain (OpenSpec.upto textValidSpec)) textValidUptoCard

/-- THE SECOND FORM's CARD OF 'flagstonelaw1.TextNumbers'. -/
def textNumbersUptoCard : Claim7 := { stood := { row := textNumbersUptoRow, standIns := [], harness := (true, "2f122a4fd78bbc6dba707320252b61903a33b378ec7b5757f60fbf0a4791efe1"), looks := true }, kinds := [], alts := [], laidByText := true, laidKinds := [.data, .data, .data, .data, .sentinel, .sentinel, .listed, .data, .pinned], laidTests := true, laidLooks := .later }
def TextNumbersUptoCardSaid : Prop := Claim7.holds Tryd.pinned (.plain (OpenSpec.upto textNumbersSpec)) textNumbersUptoCard

/-- THE SECOND FORM's CARD OF 'flagstonelaw1.TextParses'. -/
def textParsesUptoCard : Claim7 := { stood := { row := textParsesUptoRow, standIns := [], harness := (true, "2f122a4fd78bbc6dba707320252b61903a33b378ec7b5757f60fbf0a4791efe1"), looks := true }, kinds := [], alts := [], laidByText := true, laidKinds := [.data, .data, .data, .data, .sentinel, .sentinel, .listed, .data, .pinned], laidTests := true, laidLooks := .later }
def TextParsesUptoCardSaid : Prop := Claim7.holds Tryd.pinned (.plain (OpenSpec.upto textParsesSpec)) textParsesUptoCard

/-- THE SECOND FORM's CARD OF 'flagstonelaw1.TextReserved'. -/
def textReservedUptoCard : Claim7 := { stood := { row := textReservedUptoRow, standIns := [], harness := (true, "2f122a4fd78bbc6dba707320252b61903a33b378ec7b5757f60fbf0a4791efe1"), looks := true }, kinds := [], alts := [], laidByText := true, laidKinds := [.data, .data, .data, .data, .sentinel, .sentinel, .listed, .data, .pinned], laidTests := true, laidLooks := .later }
def TextReservedUptoCardSaid : Prop := Claim7.holds Tryd.pinned (.plain (OpenSpec.upto textReservedSpec)) textReservedUptoCard

/-- THE SECOND FORM's CARD OF 'flagstonelaw1.TextQuotes'. -/
def textQuotesUptoCard : Claim7 := { stood := { row := textQuotesUptoRow, standIns := [], harness := (true, "2f122a4fd78bbc6dba707320252b61903a33b378ec7b5757f60fbf0a4791efe1"), looks := true }, kinds := [], alts := [], laidByText := true, laidKinds := [.data, .data, .data, .data, .sentinel, .sentinel, .listed, .data, .pinned], laidTests := true, laidLooks := .later }
def TextQuotesUptoCardSaid : Prop := Claim7.holds Tryd.pinned (.plain (OpenSpec.upto textQuotesSpec)) textQuotesUptoCard

/-- THE SECOND FORM's CARD OF 'flagstonelaw1.TextUnquotes'. -/
def textUnquotesUptoCard : Claim7 := { stood := { row := textUnquotesUptoRow, standIns := [], harness := (true, "2f122a4fd78bbc6dba707320252b61903a33b378ec7b5757f60fbf0a4791efe1"), looks := true }, kinds := [], alts := [], laidByText := true, laidKinds := [.data, .data, .data, .data, .sentinel, .sentinel, .listed, .data, .pinned], laidTests := true, laidLooks := .later }
def TextUnquotesUptoCardSaid : Prop := Claim7.holds Tryd.pinned (.plain (OpenSpec.upto textUnquotesSpec)) textUnquotesUptoCard
end Rows
end Go.Proofs.YtndgmcifagipjaaDoor
