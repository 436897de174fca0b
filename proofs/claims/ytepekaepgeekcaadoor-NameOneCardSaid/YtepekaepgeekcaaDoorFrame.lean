import Derived.Test.YtepekaepgeekcaaDoorLaws2
import Derived.Test.YtepekaepgeekcaaDoorTie
import Derived.Test.YtepekaepgeekcaaDoorLmFrame
namespace Go.Proofs.YtepekaepgeekcaaDoor
open Go Go.ChangeShapes Go.WideShapes Go.ChangeAt Go.RowKit Go.Lm
set_option maxRecDepth 100000
/-- A world that meets the condition: what the door lays, and the library's table of first bytes beside it. -/
noncomputable def laidWorld (os : Os) : World :=
  let w0 := World.doorLaid Tryd.prog 19 os
  { w0 with heap := w0.heap.modify 1 fun
      | .cells _ t frozen => .cells (Pinned.utf8FirstZ.map fun (n : Nat) => Value.int .u8 n).toArray t frozen
      | o => o }
theorem own : ownKnob Tryd.prog.godebug = none := by kernel_rfl
theorem laidOut : laidOutB Tryd.prog = true := by kernel_rfl
theorem door_met (os : Os) (args : Array Value) : laidMetH Tryd.prog Rows.nameValidRow.laid ((laidWorld os).forCall (fun _ _ => 0) ⟨#[], args, []⟩).memory :=
  laidMetH_of_parts3 (fuel := 8) (laidMet_of_run' 8 (by kernel_rfl) (by kernel_rfl)) (by kernel_rfl) (by kernel_rfl)
theorem door_shaped (os : Os) (args : Array Value) : ((laidWorld os).forCall (fun _ _ => 0) ⟨#[], args, []⟩).Shaped Tryd.prog := World.shaped_of_RefB (by kernel_rfl) (by kernel_rfl)
end Go.Proofs.YtepekaepgeekcaaDoor
