/-
  No cell of these rows narrows 'for every input' (looked for: loops, veiled, ifaces, maps, wideKeys, modest, calm, conditions, laid).
  DERIVED. THE GIVEN ROWS OF THIS SEAT. 5 by the template 'for every input the law returns true; each argument reads behind the call as it read before'; 0 by the template 'total and deterministic' (their statements: YtnmaehdklmgfmaaTotals.lean).
  GIVEN WITH THE SEED: the statements are not yours to turn. If you find one false, say at which input.
  Laid BY PROGRAM, IN A SANDBOX (cutbox-rows.mjs): the forced cells as the released guide's own fill.sh prints them over the translation 755e40d657d8b345… (all of the seat's roots in one cut). By AI agents, Wed Nov 11 2026. No macro, syntax, notation, axiom, sorry.
-/
import Derived.Test.YtnmaehdklmgfmaaChecked
import GoSem.Claim
import GoSem.ClaimJoined
import GoSem.ClaimMapViews
import Derived.JoinedTies
import Derived.KernelRfl
namespace Go.Proofs.Ytnmaehdklmgfmaa
/- THE CELL 'sum', in the pinned program and in every row, IS THE sha256 OF THE DUMP (.gsa) THAT YtnmaehdklmgfmaaProg.lean LOADS. Nothing in Lean hashes anything: it is a label: what it is worth is what the hold of that sum in a sandbox is worth. -/
noncomputable def Try.pinned : Pinned := { name := "ytnmaehdklmgfmaa", sum := "755e40d657d8b3458c0aba1ad88fd37356d5b048f165724c904577edf41b5672", checked := Try.checked }
namespace Rows
def none {H : Type} : Left H := { results := [], args := [] }

/-- 'lamellalaw17.UpperMakes': WHATEVER THE INPUT: true; the input reads as it did. -/
def upperMakesSpec : ChangeSpec := { name := "upperMakes", fn := fun _ => fun
  | [d1, d2, d3] => { results := [.lit (.bool true)], args := [d1, d2, d3] }
  | _ => none }
def upperMakesRow : OpenClaim := { program := "ytnmaehdklmgfmaa", sum := "755e40d657d8b3458c0aba1ad88fd37356d5b048f165724c904577edf41b5672", func := "lamella/lamellalaw17.UpperMakes", spec := "upperMakes", inPlace := ["internal/bytealg.IndexByte", "internal/bytealg.IndexByteString"], recurses := true, apart := false }
def UpperMakesSaid : Prop := upperMakesRow.holds Try.pinned (OpenSpec.ofChange upperMakesSpec)

/-- ITS FALSE NEIGHBOUR: 'it returns false'. Refute it at one input. -/
def upperMakesWrong : ChangeSpec := { name := "upperMakes", fn := fun _ => fun
  | [d1, d2, d3] => { results := [.lit (.bool false)], args := [d1, d2, d3] }
  | _ => none }
def UpperMakesWrongFalsely : Prop := upperMakesRow.holds Try.pinned (OpenSpec.ofChange upperMakesWrong)

/-- 'lamellalaw17.UpperFiles': WHATEVER THE INPUT: true; the input reads as it did. -/
def upperFilesSpec : ChangeSpec := { name := "upperFiles", fn := fun _ => fun
  | [d1, d2] => { results := [.lit (.bool true)], args := [d1, d2] }
  | _ => none }
def upperFilesRow : OpenClaim := { program := "ytnmaehdklmgfmaa", sum := "755e40d657d8b3458c0aba1ad88fd37356d5b048f165724c904577edf41b5672", func := "lamella/lamellalaw17.UpperFiles", spec := "upperFiles", inPlace := ["internal/bytealg.IndexByte", "internal/bytealg.IndexByteString"], recurses := true, apart := false }
def UpperFilesSaid : Prop := upperFilesRow.holds Try.pinned (OpenSpec.ofChange upperFilesSpec)

/-- ITS FALSE NEIGHBOUR: 'it returns false'. Refute it at one input. -/
def upperFilesWrong : ChangeSpec := { name := "upperFiles", fn := fun _ => fun
  | [d1, d2] => { results := [.lit (.bool false)], args := [d1, d2] }
  | _ => none }
def UpperFilesWrongFalsely : Prop := upperFilesRow.holds Try.pinned (OpenSpec.ofChange upperFilesWrong)

/-- 'lamellalaw17.UpperLinks': WHATEVER THE INPUT: true; the input reads as it did. -/
def upperLinksSpec : ChangeSpec := { name := "upperLinks", fn := fun _ => fun
  | [d1, d2] => { results := [.lit (.bool true)], args := [d1, d2] }
  | _ => none }
def upperLinksRow : OpenClaim := { program := "ytnmaehdklmgfmaa", sum := "755e40d657d8b3458c0aba1ad88fd37356d5b048f165724c904577edf41b5672", func := "lamella/lamellalaw17.UpperLinks", spec := "upperLinks", inPlace := ["internal/bytealg.IndexByte", "internal/bytealg.IndexByteString"], recurses := true, apart := false }
def UpperLinksSaid : Prop := upperLinksRow.holds Try.pinned (OpenSpec.ofChange upperLinksSpec)

/-- ITS FALSE NEIGHBOUR: 'it returns false'. Refute it at one input. -/
def upperLinksWrong : ChangeSpec := { name := "upperLinks", fn := fun _ => fun
  | [d1, d2] => { results := [.lit (.bool false)], args := [d1, d2] }
  | _ => none }
def UpperLinksWrongFalsely : Prop := upperLinksRow.holds Try.pinned (OpenSpec.ofChange upperLinksWrong)

/-- 'lamellalaw18.BranchChecks': WHATEVER THE INPUT: true; the input reads as it did. -/
def branchChecksSpec : ChangeSpec := { name := "branchChecks", fn := fun _ => fun
  | [d] => { results := [.lit (.bool true)], args := [d] }
  | _ => none }
def branchChecksRow : OpenClaim := { program := "ytnmaehdklmgfmaa", sum := "755e40d657d8b3458c0aba1ad88fd37356d5b048f165724c904577edf41b5672", func := "lamella/lamellalaw18.BranchChecks", spec := "branchChecks", inPlace := ["internal/abi.NoEscape", "internal/bytealg.MakeNoZero", "internal/bytealg.IndexByteString"], unfollowed := true, recurses := true, apart := false }
def BranchChecksSaid : Prop := branchChecksRow.holds Try.pinned (OpenSpec.ofChange branchChecksSpec)

/-- ITS FALSE NEIGHBOUR: 'it returns false'. Refute it at one input. -/
def branchChecksWrong : ChangeSpec := { name := "branchChecks", fn := fun _ => fun
  | [d] => { results := [.lit (.bool false)], args := [d] }
  | _ => none }
def BranchChecksWrongFalsely : Prop := branchChecksRow.holds Try.pinned (OpenSpec.ofChange branchChecksWrong)

/-- 'lamellalaw17.UpperThere': WHATEVER THE INPUT: true; the input reads as it did. -/
def upperThereSpec : ChangeSpec := { name := "upperThere", fn := fun _ => fun
  | [d1, d2] => { results := [.lit (.bool true)], args := [d1, d2] }
  | _ => none }
def upperThereRow : OpenClaim := { program := "ytnmaehdklmgfmaa", sum := "755e40d657d8b3458c0aba1ad88fd37356d5b048f165724c904577edf41b5672", func := "lamella/lamellalaw17.UpperThere", spec := "upperThere", inPlace := ["internal/bytealg.IndexByte", "internal/bytealg.IndexByteString"], unfollowed := true, recurses := true, apart := false }
def UpperThereSaid : Prop := upperThereRow.holds Try.pinned (OpenSpec.ofChange upperThereSpec)

/-- ITS FALSE NEIGHBOUR: 'it returns false'. Refute it at one input. -/
def upperThereWrong : ChangeSpec := { name := "upperThere", fn := fun _ => fun
  | [d1, d2] => { results := [.lit (.bool false)], args := [d1, d2] }
  | _ => none }
def UpperThereWrongFalsely : Prop := upperThereRow.holds Try.pinned (OpenSpec.ofChange upperThereWrong)

/- THE SECOND FORM. 'bulk': how many values and letters a reading holds, each counted each time it is reached (what is shared counts as often as it is met; a slice's spare places count too). A statement '..UptoSaid' is the law's where the arguments, and the package variables that the reading takes, are together of bulk at most 1048576: NARROWER than '..Said'. Prove '..Said' where nothing that the law and all that it calls make is longer than what came in: it says more and counts as full. Else prove '..UptoSaid'. A law counts once. -/
mutual
def uptoBulk {H : Type} : DataW H → Nat
  | .lit (.string bytes) => bytes.length + 1
  | .lit _ => 1
  | .nil => 1
  | .ptr d => uptoBulk d + 1
  | .slice elems spare => uptoBulkAll elems + uptoBulkAll spare + 1
  | .agg parts => uptoBulkAll parts + 1
  | .iface _ d => uptoBulk d + 1
  | .map entries => uptoBulkEntries entries + 1
  | .held _ => 1
def uptoBulkAll {H : Type} : List (DataW H) → Nat
  | [] => 0
  | d :: r => uptoBulk d + uptoBulkAll r
def uptoBulkEntries {H : Type} : List (Lit × DataW H) → Nat
  | [] => 0
  | x :: r => uptoBulkEntry x + uptoBulkEntries r
def uptoBulkEntry {H : Type} : Lit × DataW H → Nat
  | (.string bytes, d) => bytes.length + uptoBulk d + 1
  | (_, d) => uptoBulk d + 1
 end
def uptoSmall : (H : Type) → List (DataW H) → Bool := fun _ ds => decide (uptoBulkAll ds ≤ 1048576)
def OpenSpec.upto (s : _root_.Go.ChangeSpec) : _root_.Go.OpenSpec := { _root_.Go.OpenSpec.ofChange s with cond := some uptoSmall }

/-- 'lamellalaw17.UpperMakes', WHERE WHAT IT READS IS OF BULK AT MOST 1048576: true; the input reads as it did. -/
def upperMakesUptoRow : OpenClaim := { program := "ytnmaehdklmgfmaa", sum := "755e40d657d8b3458c0aba1ad88fd37356d5b048f165724c904577edf41b5672", func := "lamella/lamellalaw17.UpperMakes", spec := "upperMakes", inPlace := ["internal/bytealg.IndexByte", "internal/bytealg.IndexByteString"], recurses := true, apart := false, narrowed := true }
def UpperMakesUptoSaid : Prop := upperMakesUptoRow.holds Try.pinned (OpenSpec.upto upperMakesSpec)

/-- 'lamellalaw17.UpperFiles', WHERE WHAT IT READS IS OF BULK AT MOST 1048576: true; the input reads as it did. -/
def upperFilesUptoRow : OpenClaim := { program := "ytnmaehdklmgfmaa", sum := "755e40d657d8b3458c0aba1ad88fd37356d5b048f165724c904577edf41b5672", func := "lamella/lamellalaw17.UpperFiles", spec := "upperFiles", inPlace := ["internal/bytealg.IndexByte", "internal/bytealg.IndexByteString"], recurses := true, apart := false, narrowed := true }
def UpperFilesUptoSaid : Prop := upperFilesUptoRow.holds Try.pinned (OpenSpec.upto upperFilesSpec)

/-- 'lamellalaw17.UpperLinks', WHERE WHAT IT READS IS OF BULK AT MOST 1048576: true; the input reads as it did. -/
def upperLinksUptoRow : OpenClaim := { program := "ytnmaehdklmgfmaa", sum := "755e40d657d8b3458c0aba1ad88fd37356d5b048f165724c904577edf41b5672", func := "lamella/lamellalaw17.UpperLinks", spec := "upperLinks", inPlace := ["internal/bytealg.IndexByte", "internal/bytealg.IndexByteString"], recurses := true, apart := false, narrowed := true }
def UpperLinksUptoSaid : Prop := upperLinksUptoRow.holds Try.pinned (OpenSpec.upto upperLinksSpec)

/-- 'lamellalaw18.BranchChecks', WHERE WHAT IT READS IS OF BULK AT MOST 1048576: true; the input reads as it did. -/
def branchChecksUptoRow : OpenClaim := { program := "ytnmaehdklmgfmaa", sum := "755e40d657d8b3458c0aba1ad88fd37356d5b048f165724c904577edf41b5672", func := "lamella/lamellalaw18.BranchChecks", spec := "branchChecks", inPlace := ["internal/abi.NoEscape", "internal/bytealg.MakeNoZero", "internal/bytealg.IndexByteString"], unfollowed := true, recurses := true, apart := false, narrowed := true }
def BranchChecksUptoSaid : Prop := branchChecksUptoRow.holds Try.pinned (OpenSpec.upto branchChecksSpec)

/-- 'lamellalaw17.UpperThere', WHERE WHAT IT READS IS OF BULK AT MOST 1048576: true; the input reads as it did. -/
def upperThereUptoRow : OpenClaim := { program := "ytnmaehdklmgfmaa", sum := "755e40d657d8b3458c0aba1ad88fd37356d5b048f165724c904577edf41b5672", func := "lamella/lamellalaw17.UpperThere", spec := "upperThere", inPlace := ["internal/bytealg.IndexByte", "internal/bytealg.IndexByteString"], unfollowed := true, recurses := true, apart := false, narrowed := true }
def UpperThereUptoSaid : Prop := upperThereUptoRow.holds Try.pinned (OpenSpec.upto upperThereSpec)

end Rows
end Go.Proofs.Ytnmaehdklmgfmaa
