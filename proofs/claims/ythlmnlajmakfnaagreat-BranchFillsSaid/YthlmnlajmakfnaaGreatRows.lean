/-
  No cell of these rows narrows 'for every input' (looked for: loops, veiled, ifaces, maps, wideKeys, modest, calm, conditions, laid).
  DERIVED. THE GIVEN ROWS OF THIS SEAT. 5 by the template 'for every input the law returns true; each argument reads behind the call as it read before'; 0 by the template 'total and deterministic' (their statements: YthlmnlajmakfnaaGreatTotals.lean).
  GIVEN WITH THE SEED: the statements are not yours to turn. If you find one false, say at which input.
  Laid BY PROGRAM, IN A SANDBOX (cutbox-rows.mjs): the forced cells as the released guide's own fill.sh prints them over the translation 91907ca8e553aee7… (all of the seat's roots in one cut). By AI agents, Wed Nov 11 2026. No macro, syntax, notation, axiom, sorry.
-/
import Derived.Test.YthlmnlajmakfnaaGreatChecked
import GoSem.Claim
import GoSem.ClaimJoined
import GoSem.ClaimMapViews
import Derived.JoinedTies
import Derived.KernelRfl
namespace Go.Proofs.YthlmnlajmakfnaaGreat
/- THE CELL 'sum', in the pinned program and in every row, IS THE sha256 OF THE DUMP (.gsa) THAT YthlmnlajmakfnaaGreatProg.lean LOADS. Nothing in Lean hashes anything: it is a label: what it is worth is what the hold of that sum in a sandbox is worth. -/
noncomputable def Tryz.pinned : Pinned := { name := "ythlmnlajmakfnaagreat", sum := "91907ca8e553aee7aad207f154dcbbc33596bd09b42f5cf5134c189fd8367dc0", checked := Tryz.checked }
namespace Rows
def none {H : Type} : Left H := { results := [], args := [] }

/-- 'lamellalaw17.UpperSteps': WHATEVER THE INPUT: true; the input reads as it did. -/
def upperStepsSpec : ChangeSpec := { name := "upperSteps", fn := fun _ => fun
  | [d1, d2] => { results := [.lit (.bool true)], args := [d1, d2] }
  | _ => none }
def upperStepsRow : OpenClaim := { program := "ythlmnlajmakfnaagreat", sum := "91907ca8e553aee7aad207f154dcbbc33596bd09b42f5cf5134c189fd8367dc0", func := "lamella/lamellalaw17.UpperSteps", spec := "upperSteps", inPlace := ["internal/bytealg.IndexByte", "internal/bytealg.IndexByteString"], unfollowed := true, recurses := true, apart := false }
def UpperStepsSaid : Prop := upperStepsRow.holds Tryz.pinned (OpenSpec.ofChange upperStepsSpec)

/-- ITS FALSE NEIGHBOUR: 'it returns false'. Refute it at one input. -/
def upperStepsWrong : ChangeSpec := { name := "upperSteps", fn := fun _ => fun
  | [d1, d2] => { results := [.lit (.bool false)], args := [d1, d2] }
  | _ => none }
def UpperStepsWrongFalsely : Prop := upperStepsRow.holds Tryz.pinned (OpenSpec.ofChange upperStepsWrong)

/-- 'lamellalaw17.UpperPlays': WHATEVER THE INPUT: true; the input reads as it did. -/
def upperPlaysSpec : ChangeSpec := { name := "upperPlays", fn := fun _ => fun
  | [d1, d2] => { results := [.lit (.bool true)], args := [d1, d2] }
  | _ => none }
def upperPlaysRow : OpenClaim := { program := "ythlmnlajmakfnaagreat", sum := "91907ca8e553aee7aad207f154dcbbc33596bd09b42f5cf5134c189fd8367dc0", func := "lamella/lamellalaw17.UpperPlays", spec := "upperPlays", inPlace := ["internal/bytealg.IndexByte", "internal/bytealg.IndexByteString", "maps.clone"], unfollowed := true, recurses := true, apart := false }
def UpperPlaysSaid : Prop := upperPlaysRow.holds Tryz.pinned (OpenSpec.ofChange upperPlaysSpec)

/-- ITS FALSE NEIGHBOUR: 'it returns false'. Refute it at one input. -/
def upperPlaysWrong : ChangeSpec := { name := "upperPlays", fn := fun _ => fun
  | [d1, d2] => { results := [.lit (.bool false)], args := [d1, d2] }
  | _ => none }
def UpperPlaysWrongFalsely : Prop := upperPlaysRow.holds Tryz.pinned (OpenSpec.ofChange upperPlaysWrong)

/-- 'lamellalaw18.BranchGoes': WHATEVER THE INPUT: true; the input reads as it did. -/
def branchGoesSpec : ChangeSpec := { name := "branchGoes", fn := fun _ => fun
  | [d1, d2] => { results := [.lit (.bool true)], args := [d1, d2] }
  | _ => none }
def branchGoesRow : OpenClaim := { program := "ythlmnlajmakfnaagreat", sum := "91907ca8e553aee7aad207f154dcbbc33596bd09b42f5cf5134c189fd8367dc0", func := "lamella/lamellalaw18.BranchGoes", spec := "branchGoes", inPlace := ["internal/abi.NoEscape", "internal/bytealg.MakeNoZero", "internal/bytealg.IndexByteString", "internal/bytealg.IndexByte"], unfollowed := true, recurses := true, apart := false }
def BranchGoesSaid : Prop := branchGoesRow.holds Tryz.pinned (OpenSpec.ofChange branchGoesSpec)

/-- ITS FALSE NEIGHBOUR: 'it returns false'. Refute it at one input. -/
def branchGoesWrong : ChangeSpec := { name := "branchGoes", fn := fun _ => fun
  | [d1, d2] => { results := [.lit (.bool false)], args := [d1, d2] }
  | _ => none }
def BranchGoesWrongFalsely : Prop := branchGoesRow.holds Tryz.pinned (OpenSpec.ofChange branchGoesWrong)

/-- 'lamellalaw18.BranchTwice': WHATEVER THE INPUT: true; the input reads as it did. -/
def branchTwiceSpec : ChangeSpec := { name := "branchTwice", fn := fun _ => fun
  | [d] => { results := [.lit (.bool true)], args := [d] }
  | _ => none }
def branchTwiceRow : OpenClaim := { program := "ythlmnlajmakfnaagreat", sum := "91907ca8e553aee7aad207f154dcbbc33596bd09b42f5cf5134c189fd8367dc0", func := "lamella/lamellalaw18.BranchTwice", spec := "branchTwice", inPlace := ["internal/abi.NoEscape", "internal/bytealg.MakeNoZero", "internal/bytealg.IndexByteString", "internal/bytealg.IndexByte"], unfollowed := true, recurses := true, apart := false }
def BranchTwiceSaid : Prop := branchTwiceRow.holds Tryz.pinned (OpenSpec.ofChange branchTwiceSpec)

/-- ITS FALSE NEIGHBOUR: 'it returns false'. Refute it at one input. -/
def branchTwiceWrong : ChangeSpec := { name := "branchTwice", fn := fun _ => fun
  | [d] => { results := [.lit (.bool false)], args := [d] }
  | _ => none }
def BranchTwiceWrongFalsely : Prop := branchTwiceRow.holds Tryz.pinned (OpenSpec.ofChange branchTwiceWrong)

/-- 'lamellalaw18.BranchFills': WHATEVER THE INPUT: true; the input reads as it did. -/
def branchFillsSpec : ChangeSpec := { name := "branchFills", fn := fun _ => fun
  | [d1, d2] => { results := [.lit (.bool true)], args := [d1, d2] }
  | _ => none }
def branchFillsRow : OpenClaim := { program := "ythlmnlajmakfnaagreat", sum := "91907ca8e553aee7aad207f154dcbbc33596bd09b42f5cf5134c189fd8367dc0", func := "lamella/lamellalaw18.BranchFills", spec := "branchFills", inPlace := ["internal/abi.NoEscape", "internal/bytealg.MakeNoZero", "internal/bytealg.IndexByteString", "internal/bytealg.IndexByte"], unfollowed := true, recurses := true, apart := false }
def BranchFillsSaid : Prop := branchFillsRow.holds Tryz.pinned (OpenSpec.ofChange branchFillsSpec)

/-- ITS FALSE NEIGHBOUR: 'it returns false'. Refute it at one input. -/
def branchFillsWrong : ChangeSpec := { name := "branchFills", fn := fun _ => fun
  | [d1, d2] => { results := [.lit (.bool false)], args := [d1, d2] }
  | _ => none }
def BranchFillsWrongFalsely : Prop := branchFillsRow.holds Tryz.pinned (OpenSpec.ofChange branchFillsWrong)

/- THE SECOND FORM. 'bulk': how many values and letters a reading holds, each counted each time it is reached (what is shared counts as often as it is met; a slice's spare places count too). A statement '..UptoSaid' is the law's where the arguments, and the package variables that the reading takes, are together of bulk at most 1048576: NARROWER than '..Said'. Prove '..Said' where nothing that the law and all that it calls make is longer than what came in: it says more and counts as full. Else prove '..UptoSaid'. A law counts once. -/
mutual
def uptoBulk {H : Type} : DataW H → Nat
  | .lit (.string bytes) => bytes.length + 1
  | .lit _ => 1
  | .nil => 1
  | .ptr d => uptoBulk d + 1
  | .slice elems spare => uptoBulkAll elems + uptoBulkAll spare + 1
  | .agg parts => uptoBulkAll parts + 1
  | .iface _ d => uptoBulk d + 1
  | .map entries => uptoBulkEntries entries + 1
  | .held _ => 1
def uptoBulkAll {H : Type} : List (DataW H) → Nat
  | [] => 0
  | d :: r => uptoBulk d + uptoBulkAll r
def uptoBulkEntries {H : Type} : List (Lit × DataW H) → Nat
  | [] => 0
  | x :: r => uptoBulkEntry x + uptoBulkEntries r
def uptoBulkEntry {H : Type} : Lit × DataW H → Nat
  | (.string bytes, d) => bytes.length + uptoBulk d + 1
  | (_, d) => uptoBulk d + 1
 end
def uptoSmall : (H : Type) → List (DataW H) → Bool := fun _ ds => decide (uptoBulkAll ds ≤ 1048576)
def OpenSpec.upto (s : _root_.Go.ChangeSpec) : _root_.Go.OpenSpec := { _root_.Go.OpenSpec.ofChange s with cond := some uptoSmall }

/-- 'lamellalaw17.UpperSteps', WHERE WHAT IT READS IS OF BULK AT MOST 1048576: true; the input reads as it did. -/
def upperStepsUptoRow : OpenClaim := { program := "ythlmnlajmakfnaagreat", sum := "91907ca8e553aee7aad207f154dcbbc33596bd09b42f5cf5134c189fd8367dc0", func := "lamella/lamellalaw17.UpperSteps", spec := "upperSteps", inPlace := ["internal/bytealg.IndexByte", "internal/bytealg.IndexByteString"], unfollowed := true, recurses := true, apart := false, narrowed := true }
def UpperStepsUptoSaid : Prop := upperStepsUptoRow.holds Tryz.pinned (OpenSpec.upto upperStepsSpec)

/-- 'lamellalaw17.UpperPlays', WHERE WHAT IT READS IS OF BULK AT MOST 1048576: true; the input reads as it did. -/
def upperPlaysUptoRow : OpenClaim := { program := "ythlmnlajmakfnaagreat", sum := "91907ca8e553aee7aad207f154dcbbc33596bd09b42f5cf5134c189fd8367dc0", func := "lamella/lamellalaw17.UpperPlays", spec := "upperPlays", inPlace := ["internal/bytealg.IndexByte", "internal/bytealg.IndexByteString", "maps.clone"], unfollowed := true, recurses := true, apart := false, narrowed := true }
def UpperPlaysUptoSaid : Prop := upperPlaysUptoRow.holds Tryz.pinned (OpenSpec.upto upperPlaysSpec)

/-- 'lamellalaw18.BranchGoes', WHERE WHAT IT READS IS OF BULK AT MOST 1048576: true; the input reads as it did. -/
def branchGoesUptoRow : OpenClaim := { program := "ythlmnlajmakfnaagreat", sum := "91907ca8e553aee7aad207f154dcbbc33596bd09b42f5cf5134c189fd8367dc0", func := "lamella/lamellalaw18.BranchGoes", spec := "branchGoes", inPlace := ["internal/abi.NoEscape", "internal/bytealg.MakeNoZero", "internal/bytealg.IndexByteString", "internal/bytealg.IndexByte"], unfollowed := true, recurses := true, apart := false, narrowed := true }
def BranchGoesUptoSaid : Prop := branchGoesUptoRow.holds Tryz.pinned (OpenSpec.upto branchGoesSpec)

/-- 'lamellalaw18.BranchTwice', WHERE WHAT IT READS IS OF BULK AT MOST 1048576: true; the input reads as it did. -/
def branchTwiceUptoRow : OpenClaim := { program := "ythlmnlajmakfnaagreat", sum := "91907ca8e553aee7aad207f154dcbbc33596bd09b42f5cf5134c189fd8367dc0", func := "lamella/lamellalaw18.BranchTwice", spec := "branchTwice", inPlace := ["internal/abi.NoEscape", "internal/bytealg.MakeNoZero", "internal/bytealg.IndexByteString", "internal/bytealg.IndexByte"], unfollowed := true, recurses := true, apart := false, narrowed := true }
def BranchTwiceUptoSaid : Prop := branchTwiceUptoRow.holds Tryz.pinned (OpenSpec.upto branchTwiceSpec)

/-- 'lamellalaw18.BranchFills', WHERE WHAT IT READS IS OF BULK AT MOST 1048576: true; the input reads as it did. -/
def branchFillsUptoRow : OpenClaim := { program := "ythlmnlajmakfnaagreat", sum := "91907ca8e553aee7aad207f154dcbbc33596bd09b42f5cf5134c189fd8367dc0", func := "lamella/lamellalaw18.BranchFills", spec := "branchFills", inPlace := ["internal/abi.NoEscape", "internal/bytealg.MakeNoZero", "internal/bytealg.IndexByteString", "internal/bytealg.IndexByte"], unfollowed := true, recurses := true, apart := false, narrowed := true }
def BranchFillsUptoSaid : Prop := branchFillsUptoRow.holds Tryz.pinned (OpenSpec.upto branchFillsSpec)

end Rows
end Go.Proofs.YthlmnlajmakfnaaGreat
