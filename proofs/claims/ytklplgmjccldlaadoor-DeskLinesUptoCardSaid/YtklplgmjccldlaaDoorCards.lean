/-
  DERIVED. GIVEN WITH THE SEED: THE CARDS: each row of YtklplgmjccldlaaDoorRows.lean that lists a variable, with what it lists TIED to the program's text (the seventh form; the later family's looks); each row that meets fmt, with fmt's text TOLD by the authors' own Lean function (tested against real Go, not proved from fmt's source: count such statements apart). THE CARD IS WHAT COUNTS. Prove the row's statement (the work); the ties are given (YtklplgmjccldlaaDoorTie.lean); close each card by the builder's one call (the guide's Derived/Test/ToyasCard.lean, 'card_holds'). Laid BY PROGRAM, IN A SANDBOX (cutbox-door.mjs). By AI agents, Wed Nov 11 2026. No macro, syntax, notation, axiom, sorry.
-/
import Derived.Test.YtklplgmjccldlaaDoorRows
import GoSem.ClaimSeven
namespace Go.Proofs.YtklplgmjccldlaaDoor
namespace Rows

/-- THE TIED CARD OF 'lamellalaw26.DeskQuotes'. -/
def deskQuotesCard : Claim7 := { stood := { row := deskQuotesRow, standIns := [], harness := (true, "896ccf275f5c7065ec33bf954e3f6f591261efac42bfdfa829931646aada7438"), looks := true }, kinds := [], alts := [], laidByText := true, laidKinds := [.data, .data, .data, .data, .sentinel, .sentinel, .pinned], laidTests := true, laidLooks := .later }
def DeskQuotesCardSaid : Prop := Claim7.holds Tryd.pinned (.plain (OpenSpec.ofChange deskQuotesSpec)) deskQuotesCard

/-- THE TIED CARD OF 'lamellalaw26.DeskPlain'. -/
def deskPlainCard : Claim7 := { stood := { row := deskPlainRow, standIns := [], harness := (true, "896ccf275f5c7065ec33bf954e3f6f591261efac42bfdfa829931646aada7438"), looks := true }, kinds := [], alts := [], laidByText := true, laidKinds := [.data, .data, .data, .data, .sentinel, .sentinel, .pinned], laidTests := true, laidLooks := .later }
def DeskPlainCardSaid : Prop := Claim7.holds Tryd.pinned (.plain (OpenSpec.ofChange deskPlainSpec)) deskPlainCard

/-- THE TIED CARD OF 'lamellalaw26.DeskParses'. -/
def deskParsesCard : Claim7 := { stood := { row := deskParsesRow, standIns := [], harness := (true, "896ccf275f5c7065ec33bf954e3f6f591261efac42bfdfa829931646aada7438"), looks := true }, kinds := [], alts := [], laidByText := true, laidKinds := [.data, .data, .data, .data, .sentinel, .sentinel, .pinned], laidTests := true, laidLooks := .later }
def DeskParsesCardSaid : Prop := Claim7.holds Tryd.pinned (.plain (OpenSpec.ofChange deskParsesSpec)) deskParsesCard

/-- THE TIED CARD OF 'lamellalaw26.DeskBack'. -/
def deskBackCard : Claim7 := { stood := { row := deskBackRow, standIns := [], harness := (true, "896ccf275f5c7065ec33bf954e3f6f591261efac42bfdfa829931646aada7438"), looks := true }, kinds := [], alts := [], laidByText := true, laidKinds := [.data, .data, .data, .data, .sentinel, .sentinel, .pinned], laidTests := true, laidLooks := .later }
def DeskBackCardSaid : Prop := Claim7.holds Tryd.pinned (.plain (OpenSpec.ofChange deskBackSpec)) deskBackCard

/-- THE TIED CARD OF 'lamellalaw26.DeskPrints'. -/
def deskPrintsCard : Claim7 := { stood := { row := deskPrintsRow, standIns := [], harness := (true, "896ccf275f5c7065ec33bf954e3f6f591261efac42bfdfa829931646aada7438"), looks := true }, kinds := [], alts := [], laidByText := true, laidKinds := [.data, .data, .data, .data, .sentinel, .sentinel, .pinned], laidTests := true, laidLooks := .later }
def DeskPrintsCardSaid : Prop := Claim7.holds Tryd.pinned (.plain (OpenSpec.ofChange deskPrintsSpec)) deskPrintsCard

/-- THE TIED CARD OF 'lamellalaw26.DeskLines'. -/
def deskLinesCard : Claim7 := { stood := { row := deskLinesRow, standIns := [], harness := (true, "896ccf275f5c7065ec33bf954e3f6f591261efac42bfdfa829931646aada7438"), looks := true }, kinds := [], alts := [], laidByText := true, laidKinds := [.data, .data, .data, .data, .sentinel, .sentinel, .pinned], laidTests := true, laidLooks := .later }
def DeskLinesCardSaid : Prop := Claim7.holds Tryd.pinned (.plain (OpenSpec.ofChange deskLinesSpec)) deskLinesCard

/-- THE SECOND FORM's CARD OF 'lamellalaw26.DeskQuotes'. -/
def deskQuotesUptoCard : Claim7 := { stood := { row := deskQuotesUptoRow, standIns := [], harness := (true, "896ccf275f5c7065ec33bf954e3f6f591261efac42bfdfa829931646aada7438"), looks := true }, kinds := [], alts := [], laidByText := true, laidKinds := [.data, .data, .data, .data, .sentinel, .sentinel, .pinned], laidTests := true, laidLooks := .later }
def DeskQuotesUptoCardSaid : Prop := Claim7.holds Tryd.pinned (.plain (OpenSpec.upto deskQuotesSpec)) deskQuotesUptoCard

/-- THE SECOND FORM's CARD OF 'lamellalaw26.DeskPlain'. -/
def deskPlainUptoCard : Claim7 := { stood := { row := deskPlainUptoRow, standIns := [], harness := (true, "896ccf275f5c7065ec33bf954e3f6f591261efac42bfdfa829931646aada7438"), looks := true }, kinds := [], alts := [], laidByText := true, laidKinds := [.data, .data, .data, .data, .sentinel, .sentinel, .pinned], laidTests := true, laidLooks := .later }
def DeskPlainUptoCardSaid : Prop := Claim7.holds Tryd.pinned (.plain (OpenSpec.upto deskPlainSpec)) deskPlainUptoCard

/-- THE SECOND FORM's CARD OF 'lamellalaw26.DeskParses'. -/
def deskParsesUptoCard : Claim7 := { stood := { row := deskParsesUptoRow, standIns := [], harness := (true, "896ccf275f5c7065ec33bf954e3f6f591261efac42bfdfa829931646aada7438"), looks := true }, kinds := [], alts := [], laidByText := true, laidKinds := [.data, .data, .data, .data, .sentinel, .sentinel, .pinned], laidTests := true, laidLooks := .later }
def DeskParsesUptoCardSaid : Prop := Claim7.holds Tryd.pinned (.plain (OpenSpec.upto deskParsesSpec)) deskParsesUptoCard

/-- THE SECOND FORM's CARD OF 'lamellalaw26.DeskBack'. -/
def deskBackUptoCard : Claim7 := { stood := { row := deskBackUptoRow, standIns := [], harness := (true, "896ccf275f5c7065ec33bf954e3f6f591261efac42bfdfa829931646aada7438"), looks := true }, kinds := [], alts := [], laidByText := true, laidKinds := [.data, .data, .data, .data, .sentinel, .sentinel, .pinned], laidTests := true, laidLooks := .later }
def DeskBackUptoCardSaid : Prop := Claim7.holds Tryd.pinned (.plain (OpenSpec.upto deskBackSpec)) deskBackUptoCard

/-- THE SECOND FORM's CARD OF 'lamellalaw26.DeskPrints'. -/
def deskPrintsUptoCard : Claim7 := { stood := { row := deskPrintsUptoRow, standIns := [], harness := (true, "896ccf275f5c7065ec33bf954e3f6f591261efac42bfdfa829931646aada7438"), looks := true }, kinds := [], alts := [], laidByText := true, laidKinds := [.data, .data, .data, .data, .sentinel, .sentinel, .pinned], laidTests := true, laidLooks := .later }
def DeskPrintsUptoCardSaid : Prop := Claim7.holds Tryd.pinned (.plain (OpenSpec.upto deskPrintsSpec)) deskPrintsUptoCard

/-- THE SECOND FORM's CARD OF 'lamellalaw26.DeskLines'. -/
def deskLinesUptoCard : Claim7 := { stood := { row := deskLinesUptoRow, standIns := [], harness := (true, "896ccf275f5c7065ec33bf954e3f6f591261efac42bfdfa829931646aada7438"), looks := true }, kinds := [], alts := [], laidByText := true, laidKinds := [.data, .data, .data, .data, .sentinel, .sentinel, .pinned], laidTests := true, laidLooks := .later }
def DeskLinesUptoCardSaid : Prop := Claim7.holds Tryd.pinned (.plain (OpenSpec.upto deskLinesSpec)) deskLinesUptoCard
end Rows
end Go.Proofs.YtklplgmjccldlaaDoor
