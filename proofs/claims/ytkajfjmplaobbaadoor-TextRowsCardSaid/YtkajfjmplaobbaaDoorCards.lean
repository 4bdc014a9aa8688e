/-
  DERIVED. GIVEN WITH THE SEED: THE CARDS: each row of YtkajfjmplaobbaaDoorRows.lean that lists a variable, with what it lists TIED to the program's text (the seventh form; the later family's looks); each row that meets fmt, with fmt's text TOLD by the authors' own Lean function (tested against real Go, not proved from fmt's source: count such statements apart). THE CARD IS WHAT COUNTS. Prove the row's statement (the work); the ties are given (YtkajfjmplaobbaaDoorTie.lean); close each card by the builder's one call (the guide's Derived/Test/ToyasCard.lean, 'card_holds'). Laid BY PROGRAM, IN A SANDBOX (cutbox-door.mjs). By AI agents, Wed Nov 11 2026. No macro, syntax, notation, axiom, sorry.
-/
import Derived.Test.YtkajfjmplaobbaaDoorRows
import GoSem.ClaimSeven
namespace Go.Proofs.YtkajfjmplaobbaaDoor
namespace Rows

/-- THE TIED CARD OF 'delayslotlaw04.TextTells'. -/
def textTellsCard : Claim7 := { stood := { row := textTellsRow, standIns := [], harness := (true, "504fc16b671b34644bb352d4a91002a957a587496d8d14da3073f2f297746a58"), looks := true }, kinds := [], alts := [], laidByText := true, laidKinds := [.data, .data, .data, .data, .sentinel, .sentinel, .listed, .data, .pinned], laidTests := true, laidLooks := .later }
def TextTellsCardSaid : Prop := Claim7.holds Tryd.pinned (.plain (OpenSpec.ofChange textTellsSpec)) textTellsCard

/-- THE TIED CARD OF 'delayslotlaw04.TextParses'. -/
def textParsesCard : Claim7 := { stood := { row := textParsesRow, standIns := [], harness := (true, "504fc16b671b34644bb352d4a91002a957a587496d8d14da3073f2f297746a58"), looks := true }, kinds := [], alts := [], laidByText := true, laidKinds := [.data, .data, .data, .data, .sentinel, .sentinel, .listed, .data, .pinned], laidTests := true, laidLooks := .later }
def TextParsesCardSaid : Prop := Claim7.holds Tryd.pinned (.plain (OpenSpec.ofChange textParsesSpec)) textParsesCard

/-- THE TIED CARD OF 'delayslotlaw04.TextLists'. -/
def textListsCard : Claim7 := { stood := { row := textListsRow, standIns := [], harness := (true, "504fc16b671b34644bb352d4a91002a957a587496d8d14da3073f2f297746a58"), looks := true }, kinds := [], alts := [], laidByText := true, laidKinds := [.data, .data, .data, .data, .sentinel, .sentinel, .listed, .data, .pinned], laidTests := true, laidLooks := .later }
def TextListsCardSaid : Prop := Claim7.holds Tryd.pinned (.plain (OpenSpec.ofChange textListsSpec)) textListsCard

/-- THE TIED CARD OF 'delayslotlaw04.TextPlain'. -/
def textPlainCard : Claim7 := { stood := { row := textPlainRow, standIns := [], harness := (true, "504fc16b671b34644bb352d4a91002a957a587496d8d14da3073f2f297746a58"), looks := true }, kinds := [], alts := [], laidByText := true, laidKinds := [.data, .data, .data, .data, .sentinel, .sentinel, .listed, .data, .pinned], laidTests := true, laidLooks := .later }
def TextPlainCardSaid : Prop := Claim7.holds Tryd.pinned (.plain (OpenSpec.ofChange textPlainSpec)) textPlainCard

/-- THE TIED CARD OF 'delayslotlaw04.TextMore'. -/
def textMoreCard : Claim7 := { stood := { row := textMoreRow, standIns := [], harness := (true, "504fc16b671b34644bb352d4a91002a957a587496d8d14da3073f2f297746a58"), looks := true }, kinds := [], alts := [], laidByText := true, laidKinds := [.data, .data, .data, .data, .sentinel, .sentinel, .listed, .data, .pinned], laidTests := true, laidLooks := .later }
def TextMoreCardSaid : Prop := Claim7.holds Tryd.pinned (.plain (OpenSpec.ofChange textMoreSpec)) textMoreCard

/-- THE TIED CARD OF 'delayslotlaw04.TextRows'. -/
def textRowsCard : Claim7 := { stood := { row := textRowsRow, standIns := [], harness := (true, "504fc16b671b34644bb352d4a91002a957a587496d8d14da3073f2f297746a58"), looks := true }, kinds := [], alts := [], laidByText := true, laidKinds := [.data, .data, .data, .data, .sentinel, .sentinel, .listed, .data, .pinned], laidTests := true, laidLooks := .later }
def TextRowsCardSaid : Prop := Claim7.holds Tryd.pinned (.plain (OpenSpec.ofChange textRowsSpec)) textRowsCard

/-- THE SECOND FORM's CARD OF 'delayslotlaw04.TextTells'. -/
def textTellsUptoCard : Claim7 := { stood := { row := textTellsUptoRow, standIns := [], harness := (true, "504fc16b671b34644bb352d4a91002a957a587496d8d14da3073f2f297746a58"), looks := true }, kinds := [], alts := [], laidByText := true, laidKinds := [.data, .data, .data, .data, .sentinel, .sentinel, .listed, .data, .pinned], laidTests := true, laidLooks := .later }
def TextTellsUptoCardSaid : Prop := Claim7.holds Tryd.pinned (.plain (OpenSpec.upto textTellsSpec)) textTellsUptoCard

/-- THE SECOND FORM's CARD OF 'delayslotlaw04.TextParses'. -/
def textParsesUptoCard : Claim7 := { stood := { row := textParsesUptoRow, standIns := [], harness := (true, "504fc16b671b34644bb352d4a91002a957a587496d8d14da3073f2f297746a58"), looks := true }, kinds := [], alts := [], laidByText := true, laidKinds := [.data, .data, .data, .data, .sentinel, .sentinel, .listed, .data, .pinned], laidTests := true, laidLooks := .later }
def TextParsesUptoCardSaid : Prop := Claim7.holds Tryd.pinned (.plain (OpenSpec.upto textParsesSpec)) textParsesUptoCard

/-- THE SECOND FORM's CARD OF 'delayslotlaw04.TextLists'. -/
def textListsUptoCard : Claim7 := { stood := { row := textListsUptoRow, standIns := [], harness := (true, "504fc16b671b34644bb352d4a91002a957a587496d8d14da3073f2f297746a58"), looks := true }, kinds := [], alts := [], laidByText := true, laidKinds := [.data, .data, .data, .data, .sentinel, .sentinel, .listed, .data, .pinned], laidTests := true, laidLooks := .later }
def TextListsUptoCardSaid : Prop := Claim7.holds Tryd.pinned (.plain (OpenSpec.upto textListsSpec)) textListsUptoCard

/-- THE SECOND FORM's CARD OF 'delayslotlaw04.TextPlain'. -/
def textPlainUptoCard : Claim7 := { stood := { row := textPlainUptoRow, standIns := [], harness := (true, "504fc16b671b34644bb352d4a91002a957a587496d8d14da3073f2f297746a58"), looks := true }, kinds := [], alts := [], laidByText := true, laidKinds := [.data, .data, .data, .data, .sentinel, .sentinel, .listed, .data, .pinned], laidTests := true, laidLooks := .later }
def TextPlainUptoCardSaid : Prop := Claim7.holds Tryd.pinned (.plain (OpenSpec.upto textPlainSpec)) textPlainUptoCard

/-- THE SECOND FORM's CARD OF 'delayslotlaw04.TextMore'. -/
def textMoreUptoCard : Claim7 := { stood := { row := textMoreUptoRow, standIns := [], harness := (true, "504fc16b671b34644bb352d4a91002a957a587496d8d14da3073f2f297746a58"), looks := true }, kinds := [], alts := [], laidByText := true, laidKinds := [.data, .data, .data, .data, .sentinel, .sentinel, .listed, .data, .pinned], laidTests := true, laidLooks := .later }
def TextMoreUptoCardSaid : Prop := Claim7.holds Tryd.pinned (.plain (OpenSpec.upto textMoreSpec)) textMoreUptoCard

/-- THE SECOND FORM's CARD OF 'delayslotlaw04.TextRows'. -/
def textRowsUptoCard : Claim7 := { stood := { row := textRowsUptoRow, standIns := [], harness := (true, "504fc16b671b34644bb352d4a91002a957a587496d8d14da3073f2f297746a58"), looks := true }, kinds := [], alts := [], laidByText := true, laidKinds := [.data, .data, .data, .data, .sentinel, .sentinel, .listed, .data, .pinned], laidTests := true, laidLooks := .later }
def TextRowsUptoCardSaid : Prop := Claim7.holds Tryd.pinned (.plain (OpenSpec.upto textRowsSpec)) textRowsUptoCard
end Rows
end Go.Proofs.YtkajfjmplaobbaaDoor
