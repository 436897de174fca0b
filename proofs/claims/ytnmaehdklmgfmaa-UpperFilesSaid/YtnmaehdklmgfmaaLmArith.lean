/- Division of numbers, and the like, as operations. General: no program in sight. -/
import Derived.Test.YtnmaehdklmgfmaaLmMore
namespace Go.Lm
open Go Go.RowKit
section
variable {P : Program} {ρ : Operand → Value} {o : Oper} {w : World} {x y : Operand} {t u : TypeId} {k : IntKind} {m n : Int}
theorem X_rem (hn : n ≠ 0) (ho : o.op = .binOp .rem t x y u) (hx : ρ x = .int k m) (hy : ρ y = .int k n) : (execOp ρ o).run P w = .ok (.value (.int k (m.tmod n))) w := by
  simp [execOp, ho, hx, hy, binOp, Op.intDiv, hn, eqGuard]
theorem X_quo (hn : n ≠ 0) (ho : o.op = .binOp .quo t x y u) (hx : ρ x = .int k m) (hy : ρ y = .int k n) (hw : k.wrap (m.tdiv n) = m.tdiv n) : (execOp ρ o).run P w = .ok (.value (.int k (m.tdiv n))) w := by
  simp [execOp, ho, hx, hy, binOp, Op.intDiv, hn, eqGuard, hw]
theorem tmod_in (h0 : -9223372036854775808 ≤ m) (h1 : m ≤ 9223372036854775807) : IntKind.i64.wrap (m.tmod n) = m.tmod n := by
  have h2 : (m.tmod n).natAbs ≤ m.natAbs := by rw [Int.natAbs_tmod]; exact Nat.mod_le _ _
  by_cases hm : 0 ≤ m
  · have := Int.tmod_nonneg n hm
    exact wrap64_in (by omega) (by omega)
  · have h3 : m.tmod n ≤ 0 := by
      have := Int.tmod_nonneg n (a := -m) (by omega)
      rw [Int.neg_tmod] at this; omega
    exact wrap64_in (by omega) (by omega)
theorem tdiv_in (hn : 0 < n) (h0 : -9223372036854775808 ≤ m) (h1 : m ≤ 9223372036854775807) : IntKind.i64.wrap (m.tdiv n) = m.tdiv n := by
  have h2 : (m.tdiv n).natAbs ≤ m.natAbs := by rw [Int.natAbs_tdiv]; exact Nat.div_le_self _ _
  by_cases hm : 0 ≤ m
  · have := Int.tdiv_nonneg hm (Int.le_of_lt hn)
    exact wrap64_in (by omega) (by omega)
  · have h3 : m.tdiv n ≤ 0 := by
      have := Int.tdiv_nonneg (a := -m) (by omega) (Int.le_of_lt hn)
      rw [Int.neg_tdiv] at this; omega
    exact wrap64_in (by omega) (by omega)
end
end Go.Lm
