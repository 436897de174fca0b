/- Equality of structs with a struct within, and of strings as fields. General: no program in sight. -/
import Derived.Test.YtnmaehdklmgfmaaLmOps
namespace Go.Lm
open Go Go.RowKit
theorem eqF_struct {P : Program} {w : World} {d n : Nat} {xs ys : Array Value} {f : Field} {fs : List Field} {gs : Array Field} {a b : Bool} (hn : (f.name != "_") = true) (hu : P.underlying f.type = some (.struct gs)) (hi : ((P.info? f.type).map (·.size)) = some n) (hp : P.stoodInHeld f.type = false)
    (hx : (Op.eqFields d (xs.extract f.offset (f.offset + n)) (ys.extract f.offset (f.offset + n)) gs.toList).run P w = .ok a w) (hr : (Op.eqFields (d + 1) xs ys fs).run P w = .ok b w) : (Op.eqFields (d + 1) xs ys (f :: fs)).run P w = .ok (a && b) w := by
  have hp1 : ∀ cs : Array Value, (part f.type cs f.offset).run P w = .ok (.agg (cs.extract f.offset (f.offset + n))) w := fun cs => by
    cases hq : P.info? f.type with
    | none => simp [hq] at hi
    | some i =>
      simp [hq] at hi
      subst hi
      simp [part, isAgg, sizeOf, typeInfo, run_underlying hu, go_sem, hq]
  have hne : f.name ≠ "_" := by simpa using hn
  have hfs : P.fieldsOf f.type = gs := by unfold Program.fieldsOf; rw [hu]
  have he := run_equalIn_struct (P := P) w d f.type (xs.extract f.offset (f.offset + n)) (ys.extract f.offset (f.offset + n)) (by rw [hfs]; exact hu) hp
  rw [hfs, hx] at he
  simp only [Op.eqFields, if_pos hne, Sem.run_bind, hp1, Result.andThen_ok, he]
  cases a
  · simp [go_sem]
  · simp [hr]
theorem eqF_str {P : Program} {w : World} {d : Nat} {xs ys : Array Value} {f : Field} {fs : List Field} {m n : ByteArray} {b : Bool} (hn : (f.name != "_") = true) (hu : P.underlying f.type = some .string) (hi : ((P.info? f.type).map (·.size)) = some 1)
    (hx : xs[f.offset]? = some (.string m)) (hy : ys[f.offset]? = some (.string n)) (hr : (Op.eqFields (d + 1) xs ys fs).run P w = .ok b w) : (Op.eqFields (d + 1) xs ys (f :: fs)).run P w = .ok ((m.toList == n.toList) && b) w := by
  have hpx : (part f.type xs f.offset).run P w = .ok (.string m) w := by
    cases hq : P.info? f.type with
    | none => simp [hq] at hi
    | some i => simp [part, isAgg, run_underlying hu, go_sem, hx]
  have hpy : (part f.type ys f.offset).run P w = .ok (.string n) w := by
    cases hq : P.info? f.type with
    | none => simp [hq] at hi
    | some i => simp [part, isAgg, run_underlying hu, go_sem, hy]
  have hne : f.name ≠ "_" := by simpa using hn
  have he : (Op.equalIn (d + 1) f.type (.string m) (.string n)).run P w = .ok (m.toList == n.toList) w := by
    simp [Op.equalIn, run_underlying hu, go_sem, beq_toListBytes]
  simp only [Op.eqFields, if_pos hne, Sem.run_bind, hpx, hpy, Result.andThen_ok, he]
  cases hb : m.toList == n.toList
  · simp [go_sem]
  · simp [hr]
end Go.Lm
