/- The cells of an argument of one cell. General: no program in sight. -/
import Derived.Test.YtnmaehdklmgfmaaLmOpen
import Derived.Test.YtnmaehdklmgfmaaLmOwn
import Derived.OpenShut
namespace Go.Lm
open Go Go.RowKit
theorem cells_str1 {P : Program} {w : World} {r : Reach} {base : Nat} {t : TypeId} {v : Value} (ht : P.underlying t = some .string) (h : Value.okWide P w r base t v) : v.cells = #[v] := by
  obtain ⟨s, rfl⟩ := WideShapes.okWide_string ht h; rfl
theorem cells_slice1 {P : Program} {w : World} {r : Reach} {base : Nat} {t e : TypeId} {v : Value} (ht : P.underlying t = some (.slice e)) (h : Value.okWide P w r base t v) : v.cells = #[v] := by
  obtain ⟨a, l, c, rfl⟩ := WideShapes.okWide_slice ht h; rfl
end Go.Lm
