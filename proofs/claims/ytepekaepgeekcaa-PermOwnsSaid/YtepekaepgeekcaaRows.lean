/-
  No cell of these rows narrows 'for every input' (looked for: loops, veiled, ifaces, maps, wideKeys, modest, calm, conditions, laid).
  DERIVED. THE GIVEN ROWS OF THIS SEAT. 2 by the template 'for every input the law returns true; each argument reads behind the call as it read before'; 0 by the template 'total and deterministic' (their statements: YtepekaepgeekcaaTotals.lean).
  GIVEN WITH THE SEED: the statements are not yours to turn. If you find one false, say at which input.
  Laid BY PROGRAM, IN A SANDBOX (cutbox-rows.mjs): the forced cells as the released guide's own fill.sh prints them over the translation 8160814d39ee927a… (all of the seat's roots in one cut). By AI agents, Wed Nov 11 2026. No macro, syntax, notation, axiom, sorry.
-/
import Derived.Test.YtepekaepgeekcaaChecked
import GoSem.Claim
import GoSem.ClaimJoined
import GoSem.ClaimMapViews
import Derived.JoinedTies
import Derived.KernelRfl
namespace Go.Proofs.Ytepekaepgeekcaa
/- THE CELL 'sum', in the pinned program and in every row, IS THE sha256 OF THE DUMP (.gsa) THAT YtepekaepgeekcaaProg.lean LOADS. Nothing in Lean hashes anything: it is a label: what it is worth is what the hold of that sum in a sandbox is worth. -/
noncomputable def Try.pinned : Pinned := { name := "ytepekaepgeekcaa", sum := "8160814d39ee927a789a3fc2eda5ad9ff498e12af8034785ebb4555963e7462c", checked := Try.checked }
namespace Rows
def none {H : Type} : Left H := { results := [], args := [] }

/-- 'lamellalaw23.PermEach': WHATEVER THE INPUT: true; the input reads as it did. -/
def permEachSpec : ChangeSpec := { name := "permEach", fn := fun _ => fun
  | [d1, d2, d3] => { results := [.lit (.bool true)], args := [d1, d2, d3] }
  | _ => none }
def permEachRow : OpenClaim := { program := "ytepekaepgeekcaa", sum := "8160814d39ee927a789a3fc2eda5ad9ff498e12af8034785ebb4555963e7462c", func := "lamella/lamellalaw23.PermEach", spec := "permEach", apart := false }
def PermEachSaid : Prop := permEachRow.holds Try.pinned (OpenSpec.ofChange permEachSpec)

/-- ITS FALSE NEIGHBOUR: 'it returns false'. Refute it at one input. -/
def permEachWrong : ChangeSpec := { name := "permEach", fn := fun _ => fun
  | [d1, d2, d3] => { results := [.lit (.bool false)], args := [d1, d2, d3] }
  | _ => none }
def PermEachWrongFalsely : Prop := permEachRow.holds Try.pinned (OpenSpec.ofChange permEachWrong)

/-- 'lamellalaw23.PermOwns': WHATEVER THE INPUT: true; the input reads as it did. -/
def permOwnsSpec : ChangeSpec := { name := "permOwns", fn := fun _ => fun
  | [d1, d2, d3] => { results := [.lit (.bool true)], args := [d1, d2, d3] }
  | _ => none }
def permOwnsRow : OpenClaim := { program := "ytepekaepgeekcaa", sum := "8160814d39ee927a789a3fc2eda5ad9ff498e12af8034785ebb4555963e7462c", func := "lamella/lamellalaw23.PermOwns", spec := "permOwns", apart := false }
def PermOwnsSaid : Prop := permOwnsRow.holds Try.pinned (OpenSpec.ofChange permOwnsSpec)

/-- ITS FALSE NEIGHBOUR: 'it returns false'. Refute it at one input. -/
def permOwnsWrong : ChangeSpec := { name := "permOwns", fn := fun _ => fun
  | [d1, d2, d3] => { results := [.lit (.bool false)], args := [d1, d2, d3] }
  | _ => none }
def PermOwnsWrongFalsely : Prop := permOwnsRow.holds Try.pinned (OpenSpec.ofChange permOwnsWrong)

/- THE SECOND FORM. 'bulk': how many values and letters a reading holds, each counted each time it is reached (what is shared counts as often as it is met; a slice's spare places count too). A statement '..UptoSaid' is the law's where the arguments, and the package variables that the reading takes, are together of bulk at most 1048576: NARROWER than '..Said'. Prove '..Said' where nothing that the law and all that it calls make is longer than what came in: it says more and counts as full. Else prove '..UptoSaid'. A law counts once. -/
mutual
def uptoBulk {H : Type} : DataW H → Nat
  | .lit (.string bytes) => bytes.length + 1
  | .lit _ => 1
  | .nil => 1
  | .ptr d => uptoBulk d + 1
  | .slice elems spare => uptoBulkAll elems + uptoBulkAll spare + 1
  | .agg parts => uptoBulkAll parts + 1
  | .iface _ d => uptoBulk d + 1
  | .map entries => uptoBulkEntries entries + 1
  | .held _ => 1
def uptoBulkAll {H : Type} : List (DataW H) → Nat
  | [] => 0
  | d :: r => uptoBulk d + uptoBulkAll r
def uptoBulkEntries {H : Type} : List (Lit × DataW H) → Nat
  | [] => 0
  | x :: r => uptoBulkEntry x + uptoBulkEntries r
def uptoBulkEntry {H : Type} : Lit × DataW H → Nat
  | (.string bytes, d) => bytes.length + uptoBulk d + 1
  | (_, d) => uptoBulk d + 1
 end
def uptoSmall : (H : Type) → List (DataW H) → Bool := fun _ ds => decide (uptoBulkAll ds ≤ 1048576)
def OpenSpec.upto (s : _root_.Go.ChangeSpec) : _root_.Go.OpenSpec := { _root_.Go.OpenSpec.ofChange s with cond := some uptoSmall }

/-- 'lamellalaw23.PermEach', WHERE WHAT IT READS IS OF BULK AT MOST 1048576: true; the input reads as it did. -/
def permEachUptoRow : OpenClaim := { program := "ytepekaepgeekcaa", sum := "8160814d39ee927a789a3fc2eda5ad9ff498e12af8034785ebb4555963e7462c", func := "lamella/lamellalaw23.PermEach", spec := "permEach", apart := false, narrowed := true }
def PermEachUptoSaid : Prop := permEachUptoRow.holds Try.pinned (OpenSpec.upto permEachSpec)

/-- 'lamellalaw23.PermOwns', WHERE WHAT IT READS IS OF BULK AT MOST 1048576: true; the input reads as it did. -/
def permOwnsUptoRow : OpenClaim := { program := "ytepekaepgeekcaa", sum := "8160814d39ee927a789a3fc2eda5ad9ff498e12af8034785ebb4555963e7462c", func := "lamella/lamellalaw23.PermOwns", spec := "permOwns", apart := false, narrowed := true }
def PermOwnsUptoSaid : Prop := permOwnsUptoRow.holds Try.pinned (OpenSpec.upto permOwnsSpec)

end Rows
end Go.Proofs.Ytepekaepgeekcaa
