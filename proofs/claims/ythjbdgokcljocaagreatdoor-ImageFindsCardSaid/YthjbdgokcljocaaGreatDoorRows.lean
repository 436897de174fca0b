/-
  NARROWER THAN 'FOR EVERY INPUT', by the rows' own cells (each row's printed sentence says how): ImageLinks: laid · ImageKinds: laid · ImageReads: laid · ImageFinds: laid · ImageTrees: laid.
  DERIVED. THE GIVEN ROWS OF THIS SEAT. 5 by the template 'for every input the law returns true; each argument reads behind the call as it read before'; 0 by the template 'total and deterministic' (their statements: YthjbdgokcljocaaGreatDoorTotals.lean).
  GIVEN WITH THE SEED: the statements are not yours to turn. If you find one false, say at which input.
  Laid BY PROGRAM, IN A SANDBOX (cutbox-rows.mjs): the forced cells as the released guide's own fill.sh prints them over the translation 823abb877b0b0962… (all of the seat's roots in one cut). By AI agents, Wed Nov 11 2026. No macro, syntax, notation, axiom, sorry.
-/
import Derived.Test.YthjbdgokcljocaaGreatDoorChecked
import GoSem.PinnedTables
import GoSem.Claim
import GoSem.ClaimJoined
import GoSem.ClaimMapViews
import Derived.JoinedTies
import Derived.KernelRfl
namespace Go.Proofs.YthjbdgokcljocaaGreatDoor
/- THE CELL 'sum', in the pinned program and in every row, IS THE sha256 OF THE DUMP (.gsa) THAT YthjbdgokcljocaaGreatDoorProg.lean LOADS. Nothing in Lean hashes anything: it is a label: what it is worth is what the hold of that sum in a sandbox is worth. -/
noncomputable def Tryz.pinned : Pinned := { name := "ythjbdgokcljocaagreatdoor", sum := "823abb877b0b0962ae276151f1dc9357be981fcbf209e7496a206e3d666d48ff", checked := Tryz.checked }
namespace Rows
def none {H : Type} : Left H := { results := [], args := [] }

/- WHAT THE LISTED PACKAGE-LEVEL VARIABLES READ AS WHEN THE CALL BEGINS. Each datum BY PROGRAM (the guide's laid-datum.mjs) off the statement by which the dump's own 'gosem.cut.vars' lays the variable. In a bare row this is a premise. The card (YthjbdgokcljocaaGreatDoorCards.lean) ties it to the program's text. -/
def laid_unicode_utf8_acceptRanges {H : Type} : DataW H := .agg [.agg [.lit (.int .u8 128), .lit (.int .u8 191)], .agg [.lit (.int .u8 160), .lit (.int .u8 191)], .agg [.lit (.int .u8 128), .lit (.int .u8 159)], .agg [.lit (.int .u8 144), .lit (.int .u8 191)], .agg [.lit (.int .u8 128), .lit (.int .u8 143)], .agg [.lit (.int .u8 0), .lit (.int .u8 0)], .agg [.lit (.int .u8 0), .lit (.int .u8 0)], .agg [.lit (.int .u8 0), .lit (.int .u8 0)], .agg [.lit (.int .u8 0), .lit (.int .u8 0)], .agg [.lit (.int .u8 0), .lit (.int .u8 0)], .agg [.lit (.int .u8 0), .lit (.int .u8 0)], .agg [.lit (.int .u8 0), .lit (.int .u8 0)], .agg [.lit (.int .u8 0), .lit (.int .u8 0)], .agg [.lit (.int .u8 0), .lit (.int .u8 0)], .agg [.lit (.int .u8 0), .lit (.int .u8 0)], .agg [.lit (.int .u8 0), .lit (.int .u8 0)]]
/-- One of Go's own tables, pinned by name: the form's constant. -/
def laid_unicode_utf8_first : DataW Unit := Go.Pinned.utf8First

/-- 'lamellalaw16.ImageLinks': WHATEVER THE INPUT: true; the input reads as it did. -/
def imageLinksSpec : ChangeSpec := { name := "imageLinks", fn := fun _ => fun
  | [d] => { results := [.lit (.bool true)], args := [d] }
  | _ => none }
def imageLinksRow : OpenClaim := { program := "ythjbdgokcljocaagreatdoor", sum := "823abb877b0b0962ae276151f1dc9357be981fcbf209e7496a206e3d666d48ff", func := "lamella/lamellalaw16.ImageLinks", spec := "imageLinks", inPlace := ["internal/abi.NoEscape", "internal/bytealg.MakeNoZero", "internal/bytealg.IndexByteString"], unfollowed := true, recurses := true, named := ["unicode/utf8.first", "unicode/utf8.acceptRanges"], plainKeys := false, apart := false, laid := [("unicode/utf8.acceptRanges", laid_unicode_utf8_acceptRanges), ("unicode/utf8.first", laid_unicode_utf8_first)] }
def ImageLinksSaid : Prop := imageLinksRow.holds Tryz.pinned (OpenSpec.ofChange imageLinksSpec)

/-- ITS FALSE NEIGHBOUR: 'it returns false'. Refute it at one input. -/
def imageLinksWrong : ChangeSpec := { name := "imageLinks", fn := fun _ => fun
  | [d] => { results := [.lit (.bool false)], args := [d] }
  | _ => none }
def ImageLinksWrongFalsely : Prop := imageLinksRow.holds Tryz.pinned (OpenSpec.ofChange imageLinksWrong)

/-- 'lamellalaw16.ImageKinds': WHATEVER THE INPUT: true; the input reads as it did. -/
def imageKindsSpec : ChangeSpec := { name := "imageKinds", fn := fun _ => fun
  | [d] => { results := [.lit (.bool true)], args := [d] }
  | _ => none }
def imageKindsRow : OpenClaim := { program := "ythjbdgokcljocaagreatdoor", sum := "823abb877b0b0962ae276151f1dc9357be981fcbf209e7496a206e3d666d48ff", func := "lamella/lamellalaw16.ImageKinds", spec := "imageKinds", inPlace := ["internal/abi.NoEscape", "internal/bytealg.MakeNoZero", "internal/bytealg.IndexByteString"], unfollowed := true, recurses := true, named := ["unicode/utf8.first", "unicode/utf8.acceptRanges"], plainKeys := false, apart := false, laid := [("unicode/utf8.acceptRanges", laid_unicode_utf8_acceptRanges), ("unicode/utf8.first", laid_unicode_utf8_first)] }
def ImageKindsSaid : Prop := imageKindsRow.holds Tryz.pinned (OpenSpec.ofChange imageKindsSpec)

/-- ITS FALSE NEIGHBOUR: 'it returns false'. Refute it at one input. -/
def imageKindsWrong : ChangeSpec := { name := "imageKinds", fn := fun _ => fun
  | [d] => { results := [.lit (.bool false)], args := [d] }
  | _ => none }
def ImageKindsWrongFalsely : Prop := imageKindsRow.holds Tryz.pinned (OpenSpec.ofChange imageKindsWrong)

/-- 'lamellalaw16.ImageReads': WHATEVER THE INPUT: true; the input reads as it did. -/
def imageReadsSpec : ChangeSpec := { name := "imageReads", fn := fun _ => fun
  | [d1, d2, d3] => { results := [.lit (.bool true)], args := [d1, d2, d3] }
  | _ => none }
def imageReadsRow : OpenClaim := { program := "ythjbdgokcljocaagreatdoor", sum := "823abb877b0b0962ae276151f1dc9357be981fcbf209e7496a206e3d666d48ff", func := "lamella/lamellalaw16.ImageReads", spec := "imageReads", inPlace := ["internal/abi.NoEscape", "internal/bytealg.MakeNoZero", "internal/bytealg.IndexByteString"], unfollowed := true, recurses := true, named := ["unicode/utf8.first", "unicode/utf8.acceptRanges"], plainKeys := false, apart := false, laid := [("unicode/utf8.acceptRanges", laid_unicode_utf8_acceptRanges), ("unicode/utf8.first", laid_unicode_utf8_first)] }
def ImageReadsSaid : Prop := imageReadsRow.holds Tryz.pinned (OpenSpec.ofChange imageReadsSpec)

/-- ITS FALSE NEIGHBOUR: 'it returns false'. Refute it at one input. -/
def imageReadsWrong : ChangeSpec := { name := "imageReads", fn := fun _ => fun
  | [d1, d2, d3] => { results := [.lit (.bool false)], args := [d1, d2, d3] }
  | _ => none }
def ImageReadsWrongFalsely : Prop := imageReadsRow.holds Tryz.pinned (OpenSpec.ofChange imageReadsWrong)

/-- 'lamellalaw16.ImageFinds': WHATEVER THE INPUT: true; the input reads as it did. -/
def imageFindsSpec : ChangeSpec := { name := "imageFinds", fn := fun _ => fun
  | [d1, d2] => { results := [.lit (.bool true)], args := [d1, d2] }
  | _ => none }
def imageFindsRow : OpenClaim := { program := "ythjbdgokcljocaagreatdoor", sum := "823abb877b0b0962ae276151f1dc9357be981fcbf209e7496a206e3d666d48ff", func := "lamella/lamellalaw16.ImageFinds", spec := "imageFinds", inPlace := ["internal/abi.NoEscape", "internal/bytealg.MakeNoZero", "internal/bytealg.IndexByteString"], unfollowed := true, recurses := true, named := ["unicode/utf8.first", "unicode/utf8.acceptRanges"], plainKeys := false, apart := false, laid := [("unicode/utf8.acceptRanges", laid_unicode_utf8_acceptRanges), ("unicode/utf8.first", laid_unicode_utf8_first)] }
def ImageFindsSaid : Prop := imageFindsRow.holds Tryz.pinned (OpenSpec.ofChange imageFindsSpec)

/-- ITS FALSE NEIGHBOUR: 'it returns false'. Refute it at one input. -/
def imageFindsWrong : ChangeSpec := { name := "imageFinds", fn := fun _ => fun
  | [d1, d2] => { results := [.lit (.bool false)], args := [d1, d2] }
  | _ => none }
def ImageFindsWrongFalsely : Prop := imageFindsRow.holds Tryz.pinned (OpenSpec.ofChange imageFindsWrong)

/-- 'lamellalaw16.ImageTrees': WHATEVER THE INPUT: true; the input reads as it did. -/
def imageTreesSpec : ChangeSpec := { name := "imageTrees", fn := fun _ => fun
  | [d] => { results := [.lit (.bool true)], args := [d] }
  | _ => none }
def imageTreesRow : OpenClaim := { program := "ythjbdgokcljocaagreatdoor", sum := "823abb877b0b0962ae276151f1dc9357be981fcbf209e7496a206e3d666d48ff", func := "lamella/lamellalaw16.ImageTrees", spec := "imageTrees", inPlace := ["internal/abi.NoEscape", "internal/bytealg.MakeNoZero", "internal/bytealg.IndexByteString"], unfollowed := true, recurses := true, named := ["unicode/utf8.first", "unicode/utf8.acceptRanges"], plainKeys := false, apart := false, laid := [("unicode/utf8.acceptRanges", laid_unicode_utf8_acceptRanges), ("unicode/utf8.first", laid_unicode_utf8_first)] }
def ImageTreesSaid : Prop := imageTreesRow.holds Tryz.pinned (OpenSpec.ofChange imageTreesSpec)

/-- ITS FALSE NEIGHBOUR: 'it returns false'. Refute it at one input. -/
def imageTreesWrong : ChangeSpec := { name := "imageTrees", fn := fun _ => fun
  | [d] => { results := [.lit (.bool false)], args := [d] }
  | _ => none }
def ImageTreesWrongFalsely : Prop := imageTreesRow.holds Tryz.pinned (OpenSpec.ofChange imageTreesWrong)

/- THE SECOND FORM. 'bulk': how many values and letters a reading holds, each counted each time it is reached (what is shared counts as often as it is met; a slice's spare places count too). A statement '..UptoSaid' is the law's where the arguments, and the package variables that the reading takes, are together of bulk at most 1048576: NARROWER than '..Said'. Prove '..Said' where nothing that the law and all that it calls make is longer than what came in: it says more and counts as full. Else prove '..UptoSaid'. A law counts once. -/
mutual
def uptoBulk {H : Type} : DataW H → Nat
  | .lit (.string bytes) => bytes.length + 1
  | .lit _ => 1
  | .nil => 1
  | .ptr d => uptoBulk d + 1
  | .slice elems spare => uptoBulkAll elems + uptoBulkAll spare + 1
  | .agg parts => uptoBulkAll parts + 1
  | .iface _ d => uptoBulk d + 1
  | .map entries => uptoBulkEntries entries + 1
  | .held _ => 1
def uptoBulkAll {H : Type} : List (DataW H) → Nat
  | [] => 0
  | d :: r => uptoBulk d + uptoBulkAll r
def uptoBulkEntries {H : Type} : List (Lit × DataW H) → Nat
  | [] => 0
  | x :: r => uptoBulkEntry x + uptoBulkEntries r
def uptoBulkEntry {H : Type} : Lit × DataW H → Nat
  | (.string bytes, d) => bytes.length + uptoBulk d + 1
  | (_, d) => uptoBulk d + 1
 end
def uptoSmall : (H : Type) → List (DataW H) → Bool := fun _ ds => decide (uptoBulkAll ds ≤ 1048576)
def OpenSpec.upto (s : _root_.Go.ChangeSpec) : _root_.Go.OpenSpec := { _root_.Go.OpenSpec.ofChange s with cond := some uptoSmall }

/-- 'lamellalaw16.ImageLinks', WHERE WHAT IT READS IS OF BULK AT MOST 1048576: true; the input reads as it did. -/
def imageLinksUptoRow : OpenClaim := { program := "ythjbdgokcljocaagreatdoor", sum := "823abb877b0b0962ae276151f1dc9357be981fcbf209e7496a206e3d666d48ff", func := "lamella/lamellalaw16.ImageLinks", spec := "imageLinks", inPlace := ["internal/abi.NoEscape", "internal/bytealg.MakeNoZero", "internal/bytealg.IndexByteString"], unfollowed := true, recurses := true, named := ["unicode/utf8.first", "unicode/utf8.acceptRanges"], plainKeys := false, apart := false, laid := [("unicode/utf8.acceptRanges", laid_unicode_utf8_acceptRanges), ("unicode/utf8.first", laid_unicode_utf8_first)], narrowed := true }
def ImageLinksUptoSaid : Prop := imageLinksUptoRow.holds Tryz.pinned (OpenSpec.upto imageLinksSpec)

/-- 'lamellalaw16.ImageKinds', WHERE WHAT IT READS IS OF BULK AT MOST 1048576: true; the input reads as it did. -/
def imageKindsUptoRow : OpenClaim := { program := "ythjbdgokcljocaagreatdoor", sum := "823abb877b0b0962ae276151f1dc9357be981fcbf209e7496a206e3d666d48ff", func := "lamella/lamellalaw16.ImageKinds", spec := "imageKinds", inPlace := ["internal/abi.NoEscape", "internal/bytealg.MakeNoZero", "internal/bytealg.IndexByteString"], unfollowed := true, recurses := true, named := ["unicode/utf8.first", "unicode/utf8.acceptRanges"], plainKeys := false, apart := false, laid := [("unicode/utf8.acceptRanges", laid_unicode_utf8_acceptRanges), ("unicode/utf8.first", laid_unicode_utf8_first)], narrowed := true }
def ImageKindsUptoSaid : Prop := imageKindsUptoRow.holds Tryz.pinned (OpenSpec.upto imageKindsSpec)

/-- 'lamellalaw16.ImageReads', WHERE WHAT IT READS IS OF BULK AT MOST 1048576: true; the input reads as it did. -/
def imageReadsUptoRow : OpenClaim := { program := "ythjbdgokcljocaagreatdoor", sum := "823abb877b0b0962ae276151f1dc9357be981fcbf209e7496a206e3d666d48ff", func := "lamella/lamellalaw16.ImageReads", spec := "imageReads", inPlace := ["internal/abi.NoEscape", "internal/bytealg.MakeNoZero", "internal/bytealg.IndexByteString"], unfollowed := true, recurses := true, named := ["unicode/utf8.first", "unicode/utf8.acceptRanges"], plainKeys := false, apart := false, laid := [("unicode/utf8.acceptRanges", laid_unicode_utf8_acceptRanges), ("unicode/utf8.first", laid_unicode_utf8_first)], narrowed := true }
def ImageReadsUptoSaid : Prop := imageReadsUptoRow.holds Tryz.pinned (OpenSpec.upto imageReadsSpec)

/-- 'lamellalaw16.ImageFinds', WHERE WHAT IT READS IS OF BULK AT MOST 1048576: true; the input reads as it did. -/
def imageFindsUptoRow : OpenClaim := { program := "ythjbdgokcljocaagreatdoor", sum := "823abb877b0b0962ae276151f1dc9357be981fcbf209e7496a206e3d666d48ff", func := "lamella/lamellalaw16.ImageFinds", spec := "imageFinds", inPlace := ["internal/abi.NoEscape", "internal/bytealg.MakeNoZero", "internal/bytealg.IndexByteString"], unfollowed := true, recurses := true, named := ["unicode/utf8.first", "unicode/utf8.acceptRanges"], plainKeys := false, apart := false, laid := [("unicode/utf8.acceptRanges", laid_unicode_utf8_acceptRanges), ("unicode/utf8.first", laid_unicode_utf8_first)], narrowed := true }
def ImageFindsUptoSaid : Prop := imageFindsUptoRow.holds Tryz.pinned (OpenSpec.upto imageFindsSpec)

/-- 'lamellalaw16.ImageTrees', WHERE WHAT IT READS IS OF BULK AT MOST 1048576: true; the input reads as it did. -/
def imageTreesUptoRow : OpenClaim := { program := "ythjbdgokcljocaagreatdoor", sum := "823abb877b0b0962ae276151f1dc9357be981fcbf209e7496a206e3d666d48ff", func := "lamella/lamellalaw16.ImageTrees", spec := "imageTrees", inPlace := ["internal/abi.NoEscape", "internal/bytealg.MakeNoZero", "internal/bytealg.IndexByteString"], unfollowed := true, recurses := true, named := ["unicode/utf8.first", "unicode/utf8.acceptRanges"], plainKeys := false, apart := false, laid := [("unicode/utf8.acceptRanges", laid_unicode_utf8_acceptRanges), ("unicode/utf8.first", laid_unicode_utf8_first)], narrowed := true }
def ImageTreesUptoSaid : Prop := imageTreesUptoRow.holds Tryz.pinned (OpenSpec.upto imageTreesSpec)

end Rows
end Go.Proofs.YthjbdgokcljocaaGreatDoor
