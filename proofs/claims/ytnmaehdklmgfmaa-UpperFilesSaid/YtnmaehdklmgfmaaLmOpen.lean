/- Arguments that come in by value, opened to their cells. General: no program in sight. -/
import Derived.Test.YtnmaehdklmgfmaaLmOps
import Derived.ProofKit
import Derived.OpenShut
import Derived.ShutString
import Derived.ChangeOld
namespace Go.Lm
open Go Go.RowKit Go.WideShapes Go.ChangeShapes

def rowLike : Option TypeDesc → Bool
  | some (.struct _) | some (.array _ _) => true
  | _ => false
theorem agg_of_okWide {P : Program} {w : World} {r : Reach} {base : Nat} {t : TypeId} {v : Value} (hu : rowLike (P.underlying t) = true) (h : Value.okWide P w r base t v) :
    ∃ cs, v = .agg cs ∧ cs.size = P.cellsOf t ∧ Row.okWide P w r base t cs := by
  unfold Value.okWide at h
  cases hd : P.underlying t with
  | none => rw [hd] at hu; simp [rowLike] at hu
  | some d => rw [hd] at h hu; cases d <;> simp [rowLike] at hu <;> exact h

def isI64 (P : Program) (u : TypeId) : Bool := match P.underlying u with | some (.int .i64) => true | _ => false
theorem ints_of_row {P : Program} {w : World} {r : Reach} {base : Nat} {t : TypeId} {cs : Array Value} {ts : List TypeId} (hct : P.cellTypes P.depth t = some ts) (hts : ts.all (isI64 P) = true) (h : Row.okWide P w r base t cs) :
    ∃ l : List Int, cs = (l.map (Value.int .i64)).toArray := by
  obtain ⟨ts', h1, hsz, h2⟩ := h
  clear hsz
  rw [hct] at h1
  obtain rfl := Option.some.inj h1
  have h3 : ∀ v ∈ cs.toList, ∃ n, v = Value.int .i64 n := fun v hv => by
    obtain ⟨i, hi⟩ := List.getElem?_of_mem hv
    obtain ⟨u, hu, hc⟩ := h2 i v (by simpa using hi)
    have hk := List.all_eq_true.1 hts u (List.mem_of_getElem? hu)
    unfold isI64 at hk
    cases hd : P.underlying u with
    | none => rw [hd] at hk; cases hk
    | some d =>
      rw [hd] at hk
      cases d <;> try cases hk
      rename_i k
      cases k <;> try cases hk
      exact okWide_int hd (by unfold Value.okWide; rw [hd]; exact hc)
  obtain ⟨c⟩ := cs
  simp only at h3
  clear h2 h1
  suffices hs : ∃ l : List Int, c = l.map (Value.int .i64) by
    obtain ⟨l, hl⟩ := hs
    exact ⟨l, by rw [hl]⟩
  induction c with
  | nil => exact ⟨[], rfl⟩
  | cons x c ih =>
    obtain ⟨n, rfl⟩ := h3 x (by simp)
    obtain ⟨l, hl⟩ := ih fun v hv => h3 v (by simp [hv])
    exact ⟨n :: l, by simp [hl]⟩
/-- A struct, or an array, of numbers of int alone. -/
theorem open_ints_agg {P : Program} {w : World} {r : Reach} {base : Nat} {t : TypeId} {v : Value} {ts : List TypeId} (n : Nat) (hu : rowLike (P.underlying t) = true) (hn : P.cellsOf t = n) (hct : P.cellTypes P.depth t = some ts) (hts : ts.all (isI64 P) = true)
    (h : Value.okWide P w r base t v) : ∃ l : List Int, l.length = n ∧ v = .agg (l.map (Value.int .i64)).toArray := by
  obtain ⟨cs, rfl, hs, hr⟩ := agg_of_okWide hu h
  obtain ⟨l, rfl⟩ := ints_of_row hct hts hr
  exact ⟨l, by simpa [hn] using hs, rfl⟩
end Go.Lm
