/- Further steps of walks over what is owned. General: no program in sight. -/
import Derived.Test.YtnmaehdklmgfmaaLmDraw
import Derived.Test.YtnmaehdklmgfmaaLmRow
import Derived.Test.YtnmaehdklmgfmaaLmMapL
import Derived.Test.YtnmaehdklmgfmaaLmNode
namespace Go.Lm
open Go Go.RowKit
theorem graft_le_mono {g w w1 w2 : World} (s : Sees g w) (l1 : Le w w1) (l2 : Le w1 w2) : Mono (graft g w w1) (graft g w w2) := fun a v hv => by
  by_cases ha : a.block < w.heap.size
  · rw [graft_old s l1.size a ha] at hv
    rw [graft_old s (l1.trans l2).size a ha]; exact hv
  · rw [graft_new a (by omega)] at hv
    rw [graft_new a (by omega)]; exact l2.mono' a v hv
theorem stab_is {g w : World} {α : Type} [GoRep α] {x : α} (s : Sees g w) : Stab fun w1 v => Is (graft g w w1) v x := fun w1 w2 v l h => by
  refine h.mono fun a u hu => ?_
  by_cases ha : a.block < w.heap.size
  · unfold World.cell? graft at hu ⊢
    have hlt1 : ∀ q : World, a.block < q.heap.size ↔ a.block < q.heap.size := fun _ => Iff.rfl
    by_cases h1 : a.block < w1.heap.size
    · have h2 : a.block < w2.heap.size := Nat.lt_of_lt_of_le h1 l.size
      simp only [Array.getElem?_ofFn, h1, h2, dif_pos, ha, if_true] at hu ⊢
      exact hu
    · simp only [Array.getElem?_ofFn, h1, dif_neg, not_false_iff] at hu
      cases hu
  · rw [graft_new a (by omega)] at hu
    rw [graft_new a (by omega)]; exact l.mono' a u hu
theorem graft_in {g w w1 w2 : World} (s : Sees g w) (l1 : Le w w1) (l2 : Le w1 w2) : Mono (graft g w1 w2) (graft g w w2) := fun a v hv => by
  by_cases ha : a.block < w.heap.size
  · rw [graft_old (s.le l1) l2.size a (Nat.lt_of_lt_of_le ha l1.size)] at hv
    rw [graft_old s (l1.trans l2).size a ha]; exact hv
  · by_cases hb : a.block < w1.heap.size
    · rw [graft_old (s.le l1) l2.size a hb] at hv
      have := World.block_lt_of_cell? g a hv
      have := s.size
      omega
    · rw [graft_new a (by omega)] at hv
      rw [graft_new a (by omega)]; exact hv
theorem res_cell_tmp {P : Program} {n : Nat} {s : AL} {w : World} {fn : Func} {t u : Tmp} {ty : TypeId} {p v x : Value} (h : fn.results = #[.cell t ty, .tmp u]) (hl : look s t = some p) (hr : (Instr.loadAt ty p).run P w = .ok v w) (hu : look s u = some x) (a : Act) (ha : Fr n s a) :
    (results fn a.tmps).run P w = .ok (.tuple #[v, x]) w := by
  have h1 := ha.has t p hl
  have h3 := ha.has u x hu
  cases p with
  | pointer q =>
    cases q with
    | none => simp [Instr.loadAt, Instr.sureAddr, go_sem] at hr
    | some q =>
      have hr' : (loadVar ty q).run P w = .ok v w := by simpa [Instr.loadAt, Instr.sureAddr] using hr
      have h2 : a.tmps[t]?.getD undef = .pointer (some q) := by rw [← h1]; simp [Array.getD_eq_getD_getElem?]
      have h4 : a.tmps[u]?.getD undef = x := by rw [← h3]; simp [Array.getD_eq_getD_getElem?]
      simp [results, h, h2, h4, hr', asAddr]
  | _ => simp [Instr.loadAt, Instr.sureAddr, go_sem] at hr
section
variable {P : Program}
theorem X_len_nilmap {ρ : Operand → Value} {w : World} {o : Oper} {x : Operand} {t k e : TypeId} (ho : o.op = .call { callee := .builtin .len, args := #[x], argTypes := #[t] }) (ht : P.underlying t = some (.map k e)) (hx : ρ x = .map none) :
    (execOp ρ o).run P w = .ok (.value (.int .i64 0)) w := by
  simp [execOp, ho, resolve, invoke, builtin, hx, Maps.len_nil ht]
end
end Go.Lm
