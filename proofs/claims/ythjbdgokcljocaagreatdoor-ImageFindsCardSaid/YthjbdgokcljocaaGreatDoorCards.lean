/-
  DERIVED. GIVEN WITH THE SEED: THE CARDS: each row of YthjbdgokcljocaaGreatDoorRows.lean that lists a variable, with what it lists TIED to the program's text (the seventh form; the later family's looks); each row that meets fmt, with fmt's text TOLD by the authors' own Lean function (tested against real Go, not proved from fmt's source: count such statements apart). THE CARD IS WHAT COUNTS. Prove the row's statement (the work); the ties are given (YthjbdgokcljocaaGreatDoorTie.lean); close each card by the builder's one call (the guide's Derived/Test/ToyasCard.lean, 'card_holds'). Laid BY PROGRAM, IN A SANDBOX (cutbox-door.mjs). By AI agents, Wed Nov 11 2026. No macro, syntax, notation, axiom, sorry.
-/
import Derived.Test.YthjbdgokcljocaaGreatDoorRows
import GoSem.ClaimSeven
namespace Go.Proofs.YthjbdgokcljocaaGreatDoor
namespace Rows

/-- THE TIED CARD OF 'lamellalaw16.ImageLinks'. -/
def imageLinksCard : Claim7 := { stood := { row := imageLinksRow, standIns := [], harness := (true, "9ba49a905727359d3489cd62081d5d100dd19c9b8bfd7420821c21280f3a2705"), looks := true }, kinds := [], alts := [], laidByText := true, laidKinds := [.data, .pinned], laidTests := true, laidLooks := .later }
def ImageLinksCardSaid : Prop := Claim7.holds Tryz.pinned (.plain (OpenSpec.ofChange imageLinksSpec)) imageLinksCard

/-- THE TIED CARD OF 'lamellalaw16.ImageKinds'. -/
def imageKindsCard : Claim7 := { stood := { row := imageKindsRow, standIns := [], harness := (true, "9ba49a905727359d3489cd62081d5d100dd19c9b8bfd7420821c21280f3a2705"), looks := true }, kinds := [], alts := [], laidByText := true, laidKinds := [.data, .pinned], laidTests := true, laidLooks := .later }
def ImageKindsCardSaid : Prop := Claim7.holds Tryz.pinned (.plain (OpenSpec.ofChange imageKindsSpec)) imageKindsCard

/-- THE TIED CARD OF 'lamellalaw16.ImageReads'. -/
def imageReadsCard : Claim7 := { stood := { row := imageReadsRow, standIns := [], harness := (true, "9ba49a905727359d3489cd62081d5d100dd19c9b8bfd7420821c21280f3a2705"), looks := true }, kinds := [], alts := [], laidByText := true, laidKinds := [.data, .pinned], laidTests := true, laidLooks := .later }
def ImageReadsCardSaid : Prop := Claim7.holds Tryz.pinned (.plain (OpenSpec.ofChange imageReadsSpec)) imageReadsCard

/-- THE TIED CARD OF 'lamellalaw16.ImageFinds'. -/
def imageFindsCard : Claim7 := { stood := { row := imageFindsRow, standIns := [], harness := (true, "9ba49a905727359d3489cd62081d5d100dd19c9b8bfd7420821c21280f3a2705"), looks := true }, kinds := [], alts := [], laidByText := true, laidKinds := [.data, .pinned], laidTests := true, laidLooks := .later }
def ImageFindsCardSaid : Prop := Claim7.holds Tryz.pinned (.plain (OpenSpec.ofChange imageFindsSpec)) imageFindsCard

/-- THE TIED CARD OF 'lamellalaw16.ImageTrees'. -/
def imageTreesCard : Claim7 := { stood := { row := imageTreesRow, standIns := [], harness := (true, "9ba49a905727359d3489cd62081d5d100dd19c9b8bfd7420821c21280f3a2705"), looks := true }, kinds := [], alts := [], laidByText := true, laidKinds := [.data, .pinned], laidTests := true, laidLooks := .later }
def ImageTreesCardSaid : Prop := Claim7.holds Tryz.pinned (.plain (OpenSpec.ofChange imageTreesSpec)) imageTreesCard

/-- THE SECOND FORM's CARD OF 'lamellalaw16.ImageLinks'. -/
def imageLinksUptoCard : Claim7 := { stood := { row := imageLinksUptoRow, standIns := [], harness := (true, "9ba49a905727359d3489cd62081d5d100dd19c9b8bfd7420821c21280f3a2705"), looks := true }, kinds := [], alts := [], laidByText := true, laidKinds := [.data, .pinned], laidTests := true, laidLooks := .later }
def ImageLinksUptoCardSaid : Prop := Claim7.holds Tryz.pinned (.plain (OpenSpec.upto imageLinksSpec)) imageLinksUptoCard

/-- THE SECOND FORM's CARD OF 'lamellalaw16.ImageKinds'. -/
def imageKindsUptoCard : Claim7 := { stood := { row := imageKindsUptoRow, standIns := [], harness := (true, "9ba49a905727359d3489cd62081d5d100dd19c9b8bfd7420821c21280f3a2705"), looks := true }, kinds := [], alts := [], laidByText := true, laidKinds := [.data, .pinned], laidTests := true, laidLooks := .later }
def ImageKindsUptoCardSaid : Prop := Claim7.holds Tryz.pinned (.plain (OpenSpec.upto imageKindsSpec)) imageKindsUptoCard

/-- THE SECOND FORM's CARD OF 'lamellalaw16.ImageReads'. -/
def imageReadsUptoCard : Claim7 := { stood := { row := imageReadsUptoRow, standIns := [], harness := (true, "9ba49a905727359d3489cd62081d5d100dd19c9b8bfd7420821c21280f3a2705"), looks := true }, kinds := [], alts := [], laidByText := true, laidKinds := [.data, .pinned], laidTests := true, laidLooks := .later }
def ImageReadsUptoCardSaid : Prop := Claim7.holds Tryz.pinned (.plain (OpenSpec.upto imageReadsSpec)) imageReadsUptoCard

/-- THE SECOND FORM's CARD OF 'lamellalaw16.ImageFinds'. -/
def imageFindsUptoCard : Claim7 := { stood := { row := imageFindsUptoRow, standIns := [], harness := (true, "9ba49a905727359d3489cd62081d5d100dd19c9b8bfd7420821c21280f3a2705"), looks := true }, kinds := [], alts := [], laidByText := true, laidKinds := [.data, .pinned], laidTests := true, laidLooks := .later }
def ImageFindsUptoCardSaid : Prop := Claim7.holds Tryz.pinned (.plain (OpenSpec.upto imageFindsSpec)) imageFindsUptoCard

/-- THE SECOND FORM's CARD OF 'lamellalaw16.ImageTrees'. -/
def imageTreesUptoCard : Claim7 := { stood := { row := imageTreesUptoRow, standIns := [], harness := (true, "9ba49a905727359d3489cd62081d5d100dd19c9b8bfd7420821c21280f3a2705"), looks := true }, kinds := [], alts := [], laidByText := true, laidKinds := [.data, .pinned], laidTests := true, laidLooks := .later }
def ImageTreesUptoCardSaid : Prop := Claim7.holds Tryz.pinned (.plain (OpenSpec.upto imageTreesSpec)) imageTreesUptoCard
end Rows
end Go.Proofs.YthjbdgokcljocaaGreatDoor
