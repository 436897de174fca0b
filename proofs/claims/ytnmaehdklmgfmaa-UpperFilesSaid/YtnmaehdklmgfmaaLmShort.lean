/- Short forms of the engine's rules, their closed facts found by Lean. General: no program in sight. -/
import Derived.Test.YtnmaehdklmgfmaaLmOwn
namespace Go.Lm
open Go Go.RowKit
section
variable {P : Program} {ops : Array Oper} {rest : List Oper} {o : Oper} {n : Nat} {s : AL} {Q : Exit → Act → World → Prop} {w : World} {d f : Nat}
theorem Rv (v : Value) (w' : World) (k : wpR P ops rest n ((d, v) :: s) Q w') (hw : wants ops s o = some true := by exact rfl) (hk : (knows s o && noSel o) = true := by kernel_rfl) (hd : o.dst = some d := by exact rfl) (hn : Nat.blt d n = true := by exact rfl)
    (hr : (execOp (rho s) o).run P w = .ok (.value v) w' := by kernel_rfl) : wpR P ops (o :: rest) n s Q w := R_val hw hk hd hn hr k
theorem Rw (v : Value) (w' : World) (hr : (execOp (rho s) o).run P w = .ok (.value v) w') (k : wpR P ops rest n ((d, v) :: s) Q w') (hw : wants ops s o = some true := by exact rfl) (hk : (knows s o && noSel o) = true := by kernel_rfl) (hd : o.dst = some d := by exact rfl) (hn : Nat.blt d n = true := by exact rfl) : wpR P ops (o :: rest) n s Q w := R_val hw hk hd hn hr k
theorem Rs (k : wpR P ops rest n ((d, undef) :: s) Q w) (hw : wants ops s o = some false := by exact rfl) (hd : o.dst = some d := by exact rfl) (hn : Nat.blt d n = true := by exact rfl) : wpR P ops (o :: rest) n s Q w := R_skip hw hd hn k
theorem Rc (args : Array Value) (w : World) {R : Value → World → Prop} (hc : Ret P f args w R) (k : ∀ v w', R v w' → wpR P ops rest n ((d, v) :: s) Q w') (hw : wants ops s o = some true := by exact rfl) (hk : (knows s o && noSel o) = true := by kernel_rfl) (hd : o.dst = some d := by exact rfl) (hn : Nat.blt d n = true := by exact rfl)
    (hr : (execOp (rho s) o).run P w = .ok (.enter f args) w := by kernel_rfl) : wpR P ops (o :: rest) n s Q w := R_call hw hk hd hn hr hc k
theorem Cs {c : Code} (s' : AL) (h : okC P c n s' Q w) (hs : Sub s s' := by repeat (first | exact True.intro | refine And.intro rfl ?_)) : okC P c n s Q w := C_sub s' hs h
end
end Go.Lm
