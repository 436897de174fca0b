/-
  DERIVED. GIVEN WITH THE SEED: THE CARDS: each row of YtepekaepgeekcaaDoorRows.lean that lists a variable, with what it lists TIED to the program's text (the seventh form; the later family's looks); each row that meets fmt, with fmt's text TOLD by the authors' own Lean function (tested against real Go, not proved from fmt's source: count such statements apart). THE CARD IS WHAT COUNTS. Prove the row's statement (the work); the ties are given (YtepekaepgeekcaaDoorTie.lean); close each card by the builder's one call (the guide's Derived/Test/ToyasCard.lean, 'card_holds'). Laid BY PROGRAM, IN A SANDBOX (cutbox-door.mjs). By AI agents, Wed Nov 11 2026. No macro, syntax, notation, axiom, sorry.
-/
import Derived.Test.YtepekaepgeekcaaDoorRows
import GoSem.ClaimSeven
namespace Go.Proofs.YtepekaepgeekcaaDoor
namespace Rows

/-- THE TIED CARD OF 'lamellalaw06.NameValid'. -/
def nameValidCard : Claim7 := { stood := { row := nameValidRow, standIns := [], harness := (true, "a61fb091bada8d6cc638f8aa15d7b670886928dec94d34cf77d951aef32aae30"), looks := false }, kinds := [], alts := [], laidByText := true, laidKinds := [.data, .pinned], laidTests := true, laidLooks := .later }
def NameValidCardSaid : Prop := Claim7.holds Tryd.pinned (.plain (OpenSpec.ofChange nameValidSpec)) nameValidCard

/-- THE TIED CARD OF 'lamellalaw06.NameRows'. -/
def nameRowsCard : Claim7 := { stood := { row := nameRowsRow, standIns := [], harness := (true, "a61fb091bada8d6cc638f8aa15d7b670886928dec94d34cf77d951aef32aae30"), looks := false }, kinds := [], alts := [], laidByText := true, laidKinds := [.data, .pinned], laidTests := true, laidLooks := .later }
def NameRowsCardSaid : Prop := Claim7.holds Tryd.pinned (.plain (OpenSpec.ofChange nameRowsSpec)) nameRowsCard

/-- THE TIED CARD OF 'lamellalaw06.NameTotal'. -/
def nameTotalCard : Claim7 := { stood := { row := nameTotalRow, standIns := [], harness := (true, "a61fb091bada8d6cc638f8aa15d7b670886928dec94d34cf77d951aef32aae30"), looks := false }, kinds := [], alts := [], laidByText := true, laidKinds := [.data, .pinned], laidTests := true, laidLooks := .later }
def NameTotalCardSaid : Prop := Claim7.holds Tryd.pinned (.plain (OpenSpec.ofChange nameTotalSpec)) nameTotalCard

/-- THE TIED CARD OF 'lamellalaw06.NameSplits'. -/
def nameSplitsCard : Claim7 := { stood := { row := nameSplitsRow, standIns := [], harness := (true, "a61fb091bada8d6cc638f8aa15d7b670886928dec94d34cf77d951aef32aae30"), looks := false }, kinds := [], alts := [], laidByText := true, laidKinds := [.data, .pinned], laidTests := true, laidLooks := .later }
def NameSplitsCardSaid : Prop := Claim7.holds Tryd.pinned (.plain (OpenSpec.ofChange nameSplitsSpec)) nameSplitsCard

/-- THE TIED CARD OF 'lamellalaw06.NameBack'. -/
def nameBackCard : Claim7 := { stood := { row := nameBackRow, standIns := [], harness := (true, "a61fb091bada8d6cc638f8aa15d7b670886928dec94d34cf77d951aef32aae30"), looks := false }, kinds := [], alts := [], laidByText := true, laidKinds := [.data, .pinned], laidTests := true, laidLooks := .later }
def NameBackCardSaid : Prop := Claim7.holds Tryd.pinned (.plain (OpenSpec.ofChange nameBackSpec)) nameBackCard

/-- THE TIED CARD OF 'lamellalaw06.NameOne'. -/
def nameOneCard : Claim7 := { stood := { row := nameOneRow, standIns := [], harness := (true, "a61fb091bada8d6cc638f8aa15d7b670886928dec94d34cf77d951aef32aae30"), looks := false }, kinds := [], alts := [], laidByText := true, laidKinds := [.data, .pinned], laidTests := true, laidLooks := .later }
def NameOneCardSaid : Prop := Claim7.holds Tryd.pinned (.plain (OpenSpec.ofChange nameOneSpec)) nameOneCard

/-- THE SECOND FORM's CARD OF 'lamellalaw06.NameValid'. -/
def nameValidUptoCard : Claim7 := { stood := { row := nameValidUptoRow, standIns := [], harness := (true, "a61fb091bada8d6cc638f8aa15d7b670886928dec94d34cf77d951aef32aae30"), looks := false }, kinds := [], alts := [], laidByText := true, laidKinds := [.data, .pinned], laidTests := true, laidLooks := .later }
def NameValidUptoCardSaid : Prop := Claim7.holds Tryd.pinned (.plain (OpenSpec.upto nameValidSpec)) nameValidUptoCard

/-- THE SECOND FORM's CARD OF 'lamellalaw06.NameRows'. -/
def nameRowsUptoCard : Claim7 := { stood := { row := nameRowsUptoRow, standIns := [], harness := (true, "a61fb091bada8d6cc638f8aa15d7b670886928dec94d34cf77d951aef32aae30"), looks := false }, kinds := [], alts := [], laidByText := true, laidKinds := [.data, .pinned], laidTests := true, laidLooks := .later }
def NameRowsUptoCardSaid : Prop := Claim7.holds Tryd.pinned (.plain (OpenSpec.upto nameRowsSpec)) nameRowsUptoCard

/-- THE SECOND FORM's CARD OF 'lamellalaw06.NameTotal'. -/
def nameTotalUptoCard : Claim7 := { stood := { row := nameTotalUptoRow, standIns := [], harness := (true, "a61fb091bada8d6cc638f8aa15d7b670886928dec94d34cf77d951aef32aae30"), looks := false }, kinds := [], alts := [], laidByText := true, laidKinds := [.data, .pinned], laidTests := true, laidLooks := .later }
def NameTotalUptoCardSaid : Prop := Claim7.holds Tryd.pinned (.plain (OpenSpec.upto nameTotalSpec)) nameTotalUptoCard

/-- THE SECOND FORM's CARD OF 'lamellalaw06.NameSplits'. -/
def nameSplitsUptoCard : Claim7 := { stood := { row := nameSplitsUptoRow, standIns := [], harness := (true, "a61fb091bada8d6cc638f8aa15d7b670886928dec94d34cf77d951aef32aae30"), looks := false }, kinds := [], alts := [], laidByText := true, laidKinds := [.data, .pinned], laidTests := true, laidLooks := .later }
def NameSplitsUptoCardSaid : Prop := Claim7.holds Tryd.pinned (.plain (OpenSpec.upto nameSplitsSpec)) nameSplitsUptoCard

/-- THE SECOND FORM's CARD OF 'lamellalaw06.NameBack'. -/
def nameBackUptoCard : Claim7 := { stood := { row := nameBackUptoRow, standIns := [], harness := (true, "a61fb091bada8d6cc638f8aa15d7b670886928dec94d34cf77d951aef32aae30"), looks := false }, kinds := [], alts := [], laidByText := true, laidKinds := [.data, .pinned], laidTests := true, laidLooks := .later }
def NameBackUptoCardSaid : Prop := Claim7.holds Tryd.pinned (.plain (OpenSpec.upto nameBackSpec)) nameBackUptoCard

/-- THE SECOND FORM's CARD OF 'lamellalaw06.NameOne'. -/
def nameOneUptoCard : Claim7 := { stood := { row := nameOneUptoRow, standIns := [], harness := (true, "a61fb091bada8d6cc638f8aa15d7b670886928dec94d34cf77d951aef32aae30"), looks := false }, kinds := [], alts := [], laidByText := true, laidKinds := [.data, .pinned], laidTests := true, laidLooks := .later }
def NameOneUptoCardSaid : Prop := Claim7.holds Tryd.pinned (.plain (OpenSpec.upto nameOneSpec)) nameOneUptoCard
end Rows
end Go.Proofs.YtepekaepgeekcaaDoor
