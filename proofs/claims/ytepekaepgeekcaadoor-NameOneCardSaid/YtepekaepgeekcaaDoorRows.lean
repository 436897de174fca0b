/-
  NARROWER THAN 'FOR EVERY INPUT', by the rows' own cells (each row's printed sentence says how): NameValid: laid · NameRows: laid · NameTotal: laid · NameSplits: laid · NameBack: laid · NameOne: laid.
  DERIVED. THE GIVEN ROWS OF THIS SEAT. 6 by the template 'for every input the law returns true; each argument reads behind the call as it read before'; 0 by the template 'total and deterministic' (their statements: YtepekaepgeekcaaDoorTotals.lean).
  GIVEN WITH THE SEED: the statements are not yours to turn. If you find one false, say at which input.
  Laid BY PROGRAM, IN A SANDBOX (cutbox-rows.mjs): the forced cells as the released guide's own fill.sh prints them over the translation c95ec0e72d26e423… (all of the seat's roots in one cut). By AI agents, Wed Nov 11 2026. No macro, syntax, notation, axiom, sorry.
-/
import Derived.Test.YtepekaepgeekcaaDoorChecked
import GoSem.PinnedTables
import GoSem.Claim
import GoSem.ClaimJoined
import GoSem.ClaimMapViews
import Derived.JoinedTies
import Derived.KernelRfl
namespace Go.Proofs.YtepekaepgeekcaaDoor
/- THE CELL 'sum', in the pinned program and in every row, IS THE sha256 OF THE DUMP (.gsa) THAT YtepekaepgeekcaaDoorProg.lean LOADS. Nothing in Lean hashes anything: it is a label: what it is worth is what the hold of that sum in a sandbox is worth. -/
noncomputable def Tryd.pinned : Pinned := { name := "ytepekaepgeekcaadoor", sum := "c95ec0e72d26e423c195bbe5746da2763bf04f86c429b230c6046f801e0fbea2", checked := Tryd.checked }
namespace Rows
def none {H : Type} : Left H := { results := [], args := [] }

/- WHAT THE LISTED PACKAGE-LEVEL VARIABLES READ AS WHEN THE CALL BEGINS. Each datum BY PROGRAM (the guide's laid-datum.mjs) off the statement by which the dump's own 'gosem.cut.vars' lays the variable. In a bare row this is a premise. The card (YtepekaepgeekcaaDoorCards.lean) ties it to the program's text. -/
def laid_unicode_utf8_acceptRanges {H : Type} : DataW H := .agg [.agg [.lit (.int .u8 128), .lit (.int .u8 191)], .agg [.lit (.int .u8 160), .lit (.int .u8 191)], .agg [.lit (.int .u8 128), .lit (.int .u8 159)], .agg [.lit (.int .u8 144), .lit (.int .u8 191)], .agg [.lit (.int .u8 128), .lit (.int .u8 143)], .agg [.lit (.int .u8 0), .lit (.int .u8 0)], .agg [.lit (.int .u8 0), .lit (.int .u8 0)], .agg [.lit (.int .u8 0), .lit (.int .u8 0)], .agg [.lit (.int .u8 0), .lit (.int .u8 0)], .agg [.lit (.int .u8 0), .lit (.int .u8 0)], .agg [.lit (.int .u8 0), .lit (.int .u8 0)], .agg [.lit (.int .u8 0), .lit (.int .u8 0)], .agg [.lit (.int .u8 0), .lit (.int .u8 0)], .agg [.lit (.int .u8 0), .lit (.int .u8 0)], .agg [.lit (.int .u8 0), .lit (.int .u8 0)], .agg [.lit (.int .u8 0), .lit (.int .u8 0)]]
/-- One of Go's own tables, pinned by name: the form's constant. -/
def laid_unicode_utf8_first : DataW Unit := Go.Pinned.utf8First

/-- 'lamellalaw06.NameValid': WHATEVER THE INPUT: true; the input reads as it did. -/
def nameValidSpec : ChangeSpec := { name := "nameValid", fn := fun _ => fun
  | [d] => { results := [.lit (.bool true)], args := [d] }
  | _ => none }
def nameValidRow : OpenClaim := { program := "ytepekaepgeekcaadoor", sum := "c95ec0e72d26e423c195bbe5746da2763bf04f86c429b230c6046f801e0fbea2", func := "lamella/lamellalaw06.NameValid", spec := "nameValid", inPlace := ["internal/bytealg.CountString", "internal/bytealg.IndexByteString", "internal/bytealg.IndexString"], named := ["unicode/utf8.first", "unicode/utf8.acceptRanges", "internal/bytealg.MaxLen"], apart := false, laid := [("unicode/utf8.acceptRanges", laid_unicode_utf8_acceptRanges), ("unicode/utf8.first", laid_unicode_utf8_first)] }
def NameValidSaid : Prop := nameValidRow.holds Tryd.pinned (OpenSpec.ofChange nameValidSpec)

/-- ITS FALSE NEIGHBOUR: 'it returns false'. Refute it at one input. -/
def nameValidWrong : ChangeSpec := { name := "nameValid", fn := fun _ => fun
  | [d] => { results := [.lit (.bool false)], args := [d] }
  | _ => none }
def NameValidWrongFalsely : Prop := nameValidRow.holds Tryd.pinned (OpenSpec.ofChange nameValidWrong)

/-- 'lamellalaw06.NameRows': WHATEVER THE INPUT: true; the input reads as it did. -/
def nameRowsSpec : ChangeSpec := { name := "nameRows", fn := fun _ => fun
  | [d1, d2] => { results := [.lit (.bool true)], args := [d1, d2] }
  | _ => none }
def nameRowsRow : OpenClaim := { program := "ytepekaepgeekcaadoor", sum := "c95ec0e72d26e423c195bbe5746da2763bf04f86c429b230c6046f801e0fbea2", func := "lamella/lamellalaw06.NameRows", spec := "nameRows", inPlace := ["internal/bytealg.CountString", "internal/bytealg.IndexByteString", "internal/bytealg.IndexString"], named := ["unicode/utf8.first", "unicode/utf8.acceptRanges", "internal/bytealg.MaxLen"], apart := false, laid := [("unicode/utf8.acceptRanges", laid_unicode_utf8_acceptRanges), ("unicode/utf8.first", laid_unicode_utf8_first)] }
def NameRowsSaid : Prop := nameRowsRow.holds Tryd.pinned (OpenSpec.ofChange nameRowsSpec)

/-- ITS FALSE NEIGHBOUR: 'it returns false'. Refute it at one input. -/
def nameRowsWrong : ChangeSpec := { name := "nameRows", fn := fun _ => fun
  | [d1, d2] => { results := [.lit (.bool false)], args := [d1, d2] }
  | _ => none }
def NameRowsWrongFalsely : Prop := nameRowsRow.holds Tryd.pinned (OpenSpec.ofChange nameRowsWrong)

/-- 'lamellalaw06.NameTotal': WHATEVER THE INPUT: true; the input reads as it did. -/
def nameTotalSpec : ChangeSpec := { name := "nameTotal", fn := fun _ => fun
  | [d1, d2, d3] => { results := [.lit (.bool true)], args := [d1, d2, d3] }
  | _ => none }
def nameTotalRow : OpenClaim := { program := "ytepekaepgeekcaadoor", sum := "c95ec0e72d26e423c195bbe5746da2763bf04f86c429b230c6046f801e0fbea2", func := "lamella/lamellalaw06.NameTotal", spec := "nameTotal", inPlace := ["internal/bytealg.CountString", "internal/bytealg.IndexByteString", "internal/bytealg.IndexString"], named := ["unicode/utf8.first", "unicode/utf8.acceptRanges", "internal/bytealg.MaxLen"], apart := false, laid := [("unicode/utf8.acceptRanges", laid_unicode_utf8_acceptRanges), ("unicode/utf8.first", laid_unicode_utf8_first)] }
def NameTotalSaid : Prop := nameTotalRow.holds Tryd.pinned (OpenSpec.ofChange nameTotalSpec)

/-- ITS FALSE NEIGHBOUR: 'it returns false'. Refute it at one input. -/
def nameTotalWrong : ChangeSpec := { name := "nameTotal", fn := fun _ => fun
  | [d1, d2, d3] => { results := [.lit (.bool false)], args := [d1, d2, d3] }
  | _ => none }
def NameTotalWrongFalsely : Prop := nameTotalRow.holds Tryd.pinned (OpenSpec.ofChange nameTotalWrong)

/-- 'lamellalaw06.NameSplits': WHATEVER THE INPUT: true; the input reads as it did. -/
def nameSplitsSpec : ChangeSpec := { name := "nameSplits", fn := fun _ => fun
  | [d1, d2] => { results := [.lit (.bool true)], args := [d1, d2] }
  | _ => none }
def nameSplitsRow : OpenClaim := { program := "ytepekaepgeekcaadoor", sum := "c95ec0e72d26e423c195bbe5746da2763bf04f86c429b230c6046f801e0fbea2", func := "lamella/lamellalaw06.NameSplits", spec := "nameSplits", inPlace := ["internal/bytealg.CountString", "internal/bytealg.IndexByteString", "internal/bytealg.IndexString", "internal/abi.NoEscape", "internal/bytealg.MakeNoZero"], named := ["unicode/utf8.first", "unicode/utf8.acceptRanges", "internal/bytealg.MaxLen"], apart := false, laid := [("unicode/utf8.acceptRanges", laid_unicode_utf8_acceptRanges), ("unicode/utf8.first", laid_unicode_utf8_first)] }
def NameSplitsSaid : Prop := nameSplitsRow.holds Tryd.pinned (OpenSpec.ofChange nameSplitsSpec)

/-- ITS FALSE NEIGHBOUR: 'it returns false'. Refute it at one input. -/
def nameSplitsWrong : ChangeSpec := { name := "nameSplits", fn := fun _ => fun
  | [d1, d2] => { results := [.lit (.bool false)], args := [d1, d2] }
  | _ => none }
def NameSplitsWrongFalsely : Prop := nameSplitsRow.holds Tryd.pinned (OpenSpec.ofChange nameSplitsWrong)

/-- 'lamellalaw06.NameBack': WHATEVER THE INPUT: true; the input reads as it did. -/
def nameBackSpec : ChangeSpec := { name := "nameBack", fn := fun _ => fun
  | [d] => { results := [.lit (.bool true)], args := [d] }
  | _ => none }
def nameBackRow : OpenClaim := { program := "ytepekaepgeekcaadoor", sum := "c95ec0e72d26e423c195bbe5746da2763bf04f86c429b230c6046f801e0fbea2", func := "lamella/lamellalaw06.NameBack", spec := "nameBack", inPlace := ["internal/bytealg.CountString", "internal/bytealg.IndexByteString", "internal/bytealg.IndexString", "internal/abi.NoEscape", "internal/bytealg.MakeNoZero"], named := ["unicode/utf8.first", "unicode/utf8.acceptRanges", "internal/bytealg.MaxLen"], apart := false, laid := [("unicode/utf8.acceptRanges", laid_unicode_utf8_acceptRanges), ("unicode/utf8.first", laid_unicode_utf8_first)] }
def NameBackSaid : Prop := nameBackRow.holds Tryd.pinned (OpenSpec.ofChange nameBackSpec)

/-- ITS FALSE NEIGHBOUR: 'it returns false'. Refute it at one input. -/
def nameBackWrong : ChangeSpec := { name := "nameBack", fn := fun _ => fun
  | [d] => { results := [.lit (.bool false)], args := [d] }
  | _ => none }
def NameBackWrongFalsely : Prop := nameBackRow.holds Tryd.pinned (OpenSpec.ofChange nameBackWrong)

/-- 'lamellalaw06.NameOne': WHATEVER THE INPUT: true; the input reads as it did. -/
def nameOneSpec : ChangeSpec := { name := "nameOne", fn := fun _ => fun
  | [d1, d2] => { results := [.lit (.bool true)], args := [d1, d2] }
  | _ => none }
def nameOneRow : OpenClaim := { program := "ytepekaepgeekcaadoor", sum := "c95ec0e72d26e423c195bbe5746da2763bf04f86c429b230c6046f801e0fbea2", func := "lamella/lamellalaw06.NameOne", spec := "nameOne", inPlace := ["internal/bytealg.CountString", "internal/bytealg.IndexByteString", "internal/bytealg.IndexString", "internal/abi.NoEscape", "internal/bytealg.MakeNoZero"], named := ["unicode/utf8.first", "unicode/utf8.acceptRanges", "internal/bytealg.MaxLen"], apart := false, laid := [("unicode/utf8.acceptRanges", laid_unicode_utf8_acceptRanges), ("unicode/utf8.first", laid_unicode_utf8_first)] }
def NameOneSaid : Prop := nameOneRow.holds Tryd.pinned (OpenSpec.ofChange nameOneSpec)

/-- ITS FALSE NEIGHBOUR: 'it returns false'. Refute it at one input. -/
def nameOneWrong : ChangeSpec := { name := "nameOne", fn := fun _ => fun
  | [d1, d2] => { results := [.lit (.bool false)], args := [d1, d2] }
  | _ => none }
def NameOneWrongFalsely : Prop := nameOneRow.holds Tryd.pinned (OpenSpec.ofChange nameOneWrong)

/- THE SECOND FORM. 'bulk': how many values and letters a reading holds, each counted each time it is reached (what is shared counts as often as it is met; a slice's spare places count too). A statement '..UptoSaid' is the law's where the arguments, and the package variables that the reading takes, are together of bulk at most 1048576: NARROWER than '..Said'. Prove '..Said' where nothing that the law and all that it calls make is longer than what came in: it says more and counts as full. Else prove '..UptoSaid'. A law counts once. -/
mutual
def uptoBulk {H : Type} : DataW H → Nat
  | .lit (.string bytes) => bytes.length + 1
  | .lit _ => 1
  | .nil => 1
  | .ptr d => uptoBulk d + 1
  | .slice elems spare => uptoBulkAll elems + uptoBulkAll spare + 1
  | .agg parts => uptoBulkAll parts + 1
  | .iface _ d => uptoBulk d + 1
  | .map entries => uptoBulkEntries entries + 1
  | .held _ => 1
def uptoBulkAll {H : Type} : List (DataW H) → Nat
  | [] => 0
  | d :: r => uptoBulk d + uptoBulkAll r
def uptoBulkEntries {H : Type} : List (Lit × DataW H) → Nat
  | [] => 0
  | x :: r => uptoBulkEntry x + uptoBulkEntries r
def uptoBulkEntry {H : Type} : Lit × DataW H → Nat
  | (.string bytes, d) => bytes.length + uptoBulk d + 1
  | (_, d) => uptoBulk d + 1
 end
def uptoSmall : (H : Type) → List (DataW H) → Bool := fun _ ds => decide (uptoBulkAll ds ≤ 1048576)
def OpenSpec.upto (s : _root_.Go.ChangeSpec) : _root_.Go.OpenSpec := { _root_.Go.OpenSpec.ofChange s with cond := some uptoSmall }

/-- 'lamellalaw06.NameValid', WHERE WHAT IT READS IS OF BULK AT MOST 1048576: true; the input reads as it did. -/
def nameValidUptoRow : OpenClaim := { program := "ytepekaepgeekcaadoor", sum := "c95ec0e72d26e423c195bbe5746da2763bf04f86c429b230c6046f801e0fbea2", func := "lamella/lamellalaw06.NameValid", spec := "nameValid", inPlace := ["internal/bytealg.CountString", "internal/bytealg.IndexByteString", "internal/bytealg.IndexString"], named := ["unicode/utf8.first", "unicode/utf8.acceptRanges", "internal/bytealg.MaxLen"], apart := false, laid := [("unicode/utf8.acceptRanges", laid_unicode_utf8_acceptRanges), ("unicode/utf8.first", laid_unicode_utf8_first)], narrowed := true }
def NameValidUptoSaid : Prop := nameValidUptoRow.holds Tryd.pinned (OpenSpec.upto nameValidSpec)

/-- 'lamellalaw06.NameRows', WHERE WHAT IT READS IS OF BULK AT MOST 1048576: true; the input reads as it did. -/
def nameRowsUptoRow : OpenClaim := { program := "ytepekaepgeekcaadoor", sum := "c95ec0e72d26e423c195bbe5746da2763bf04f86c429b230c6046f801e0fbea2", func := "lamella/lamellalaw06.NameRows", spec := "nameRows", inPlace := ["internal/bytealg.CountString", "internal/bytealg.IndexByteString", "internal/bytealg.IndexString"], named := ["unicode/utf8.first", "unicode/utf8.acceptRanges", "internal/bytealg.MaxLen"], apart := false, laid := [("unicode/utf8.acceptRanges", laid_unicode_utf8_acceptRanges), ("unicode/utf8.first", laid_unicode_utf8_first)], narrowed := true }
def NameRowsUptoSaid : Prop := nameRowsUptoRow.holds Tryd.pinned (OpenSpec.upto nameRowsSpec)

/-- 'lamellalaw06.NameTotal', WHERE WHAT IT READS IS OF BULK AT MOST 1048576: true; the input reads as it did. -/
def nameTotalUptoRow : OpenClaim := { program := "ytepekaepgeekcaadoor", sum := "c95ec0e72d26e423c195bbe5746da2763bf04f86c429b230c6046f801e0fbea2", func := "lamella/lamellalaw06.NameTotal", spec := "nameTotal", inPlace := ["internal/bytealg.CountString", "internal/bytealg.IndexByteString", "internal/bytealg.IndexString"], named := ["unicode/utf8.first", "unicode/utf8.acceptRanges", "internal/bytealg.MaxLen"], apart := false, laid := [("unicode/utf8.acceptRanges", laid_unicode_utf8_acceptRanges), ("unicode/utf8.first", laid_unicode_utf8_first)], narrowed := true }
def NameTotalUptoSaid : Prop := nameTotalUptoRow.holds Tryd.pinned (OpenSpec.upto nameTotalSpec)

/-- 'lamellalaw06.NameSplits', WHERE WHAT IT READS IS OF BULK AT MOST 1048576: true; the input reads as it did. -/
def nameSplitsUptoRow : OpenClaim := { program := "ytepekaepgeekcaadoor", sum := "c95ec0e72d26e423c195bbe5746da2763bf04f86c429b230c6046f801e0fbea2", func := "lamella/lamellalaw06.NameSplits", spec := "nameSplits", inPlace := ["internal/bytealg.CountString", "internal/bytealg.IndexByteString", "internal/bytealg.IndexString", "internal/abi.NoEscape", "internal/bytealg.MakeNoZero"], named := ["unicode/utf8.first", "unicode/utf8.acceptRanges", "internal/bytealg.MaxLen"], apart := false, laid := [("unicode/utf8.acceptRanges", laid_unicode_utf8_acceptRanges), ("unicode/utf8.first", laid_unicode_utf8_first)], narrowed := true }
def NameSplitsUptoSaid : Prop := nameSplitsUptoRow.holds Tryd.pinned (OpenSpec.upto nameSplitsSpec)

/-- 'lamellalaw06.NameBack', WHERE WHAT IT READS IS OF BULK AT MOST 1048576: true; the input reads as it did. -/
def nameBackUptoRow : OpenClaim := { program := "ytepekaepgeekcaadoor", sum := "c95ec0e72d26e423c195bbe5746da2763bf04f86c429b230c6046f801e0fbea2", func := "lamella/lamellalaw06.NameBack", spec := "nameBack", inPlace := ["internal/bytealg.CountString", "internal/bytealg.IndexByteString", "internal/bytealg.IndexString", "internal/abi.NoEscape", "internal/bytealg.MakeNoZero"], named := ["unicode/utf8.first", "unicode/utf8.acceptRanges", "internal/bytealg.MaxLen"], apart := false, laid := [("unicode/utf8.acceptRanges", laid_unicode_utf8_acceptRanges), ("unicode/utf8.first", laid_unicode_utf8_first)], narrowed := true }
def NameBackUptoSaid : Prop := nameBackUptoRow.holds Tryd.pinned (OpenSpec.upto nameBackSpec)

/-- 'lamellalaw06.NameOne', WHERE WHAT IT READS IS OF BULK AT MOST 1048576: true; the input reads as it did. -/
def nameOneUptoRow : OpenClaim := { program := "ytepekaepgeekcaadoor", sum := "c95ec0e72d26e423c195bbe5746da2763bf04f86c429b230c6046f801e0fbea2", func := "lamella/lamellalaw06.NameOne", spec := "nameOne", inPlace := ["internal/bytealg.CountString", "internal/bytealg.IndexByteString", "internal/bytealg.IndexString", "internal/abi.NoEscape", "internal/bytealg.MakeNoZero"], named := ["unicode/utf8.first", "unicode/utf8.acceptRanges", "internal/bytealg.MaxLen"], apart := false, laid := [("unicode/utf8.acceptRanges", laid_unicode_utf8_acceptRanges), ("unicode/utf8.first", laid_unicode_utf8_first)], narrowed := true }
def NameOneUptoSaid : Prop := nameOneUptoRow.holds Tryd.pinned (OpenSpec.upto nameOneSpec)

end Rows
end Go.Proofs.YtepekaepgeekcaaDoor
