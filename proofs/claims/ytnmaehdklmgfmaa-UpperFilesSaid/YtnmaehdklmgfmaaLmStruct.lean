/- Structs as data: rows of fields. General: no program in sight. -/
import Derived.Test.YtnmaehdklmgfmaaLmRep
namespace Go.Lm
open Go Go.RowKit

class RowRep (ρ : Type) where
  rsize : Nat
  rrel : World → List Value → ρ → Prop
  rmono : ∀ {w w' : World} {cs : List Value} {x : ρ}, Mono w w' → rrel w cs x → rrel w' cs x
  rlen : ∀ {w : World} {cs : List Value} {x : ρ}, rrel w cs x → cs.length = rsize
instance : RowRep PUnit where
  rsize := 0
  rrel _ cs _ := cs = []
  rmono _ h := h
  rlen h := by rw [h]; rfl
instance {α ρ : Type} [GoRep α] [RowRep ρ] : RowRep (α × ρ) where
  rsize := GoRep.size α + RowRep.rsize ρ
  rrel w cs x := ∃ c1 c2, cs = c1 ++ c2 ∧ GoRep.rel w c1 x.1 ∧ RowRep.rrel w c2 x.2
  rmono := by rintro w w' cs x hl ⟨c1, c2, rfl, h1, h2⟩; exact ⟨c1, c2, rfl, GoRep.mono hl h1, RowRep.rmono hl h2⟩
  rlen := by rintro w cs x ⟨c1, c2, rfl, h1, h2⟩; rw [List.length_append, GoRep.len h1, RowRep.rlen h2]
/-- A struct of a row of fields. -/
structure St (ρ : Type) where
  v : ρ
instance {ρ : Type} [RowRep ρ] : GoRep (St ρ) where
  size := RowRep.rsize ρ
  agg := true
  rel w cs x := RowRep.rrel w cs x.v
  mono hl h := RowRep.rmono hl h
  len h := RowRep.rlen h
section
variable {P : Program}
def OpensRow (P : Program) (fs : List Field) (off : Nat) (ρ : Type) [RowRep ρ] : Prop :=
  ∀ {H : Type} (enc : TypeId × Value → H) (w : World) (base : Nat) (spare : Nat → Bool) (held : Bool) (fuel : Nat) (cs : List Value), cs.length = off + RowRep.rsize ρ →
    (∀ f ∈ fs, ∃ y, DataW.trod enc P w base spare held fuel f.type ((cs.drop f.offset).take (P.cellsOf f.type)) = some y) → ∃ x : ρ, RowRep.rrel w (cs.drop off) x
theorem opensRow_nil {off : Nat} : OpensRow P [] off PUnit := fun _ _ _ _ _ _ cs hl _ => ⟨⟨⟩, by
  show cs.drop off = []
  exact List.drop_eq_nil_of_le (by rw [hl]; exact Nat.le_refl _)⟩
theorem opensRow_cons {α ρ : Type} [GoRep α] [RowRep ρ] {f : Field} {fs : List Field} {off : Nat} (ho : f.offset = off) (hs : P.cellsOf f.type = GoRep.size α) (h1 : Opens P f.type α) (h2 : OpensRow P fs (off + GoRep.size α) ρ) : OpensRow P (f :: fs) off (α × ρ) := fun enc w base spare held fuel cs hl h => by
  obtain ⟨y, hy⟩ := h f (by simp)
  obtain ⟨x, hx⟩ := h1 enc w base spare held fuel _ y hy
  have hl' : cs.length = off + (GoRep.size α + RowRep.rsize ρ) := hl
  obtain ⟨r, hr⟩ := h2 enc w base spare held fuel cs (by omega) fun g hg => h g (List.mem_cons_of_mem _ hg)
  rw [ho, hs] at hx
  refine ⟨(x, r), _, _, ?_, hx, hr⟩
  rw [← List.drop_drop, List.take_append_drop]
theorem opens_struct {t : TypeId} {ρ : Type} [RowRep ρ] {fs : Array Field} (ht : P.underlying t = some (.struct fs)) (hs : P.cellsOf t = RowRep.rsize ρ) (h : OpensRow P fs.toList 0 ρ) : Opens P t (St ρ) := fun enc w base spare held fuel cs y hy => by
  obtain ⟨xs, n, _, _, hlen, hxl, hf⟩ := DataW.trod_struct ht hy
  obtain ⟨x, hx⟩ := h enc w base spare held n cs (by rw [hlen, hs]; omega) fun f hm => by
    obtain ⟨i, hi⟩ := List.getElem?_of_mem hm
    have hi' : fs[i]? = some f := by simpa using hi
    have hlt : i < xs.length := by rw [hxl]; exact (Array.getElem?_eq_some_iff.1 hi').1
    exact ⟨xs[i], by rw [hf i f hi', List.getElem?_eq_getElem hlt]⟩
  rw [List.drop_zero] at hx
  exact ⟨⟨x⟩, hx⟩
end
theorem is_st {ρ : Type} [RowRep ρ] {w : World} {v : Value} {x : St ρ} : Is w v x ↔ ∃ cs, v = .agg cs ∧ RowRep.rrel w cs.toList x.v := by
  simp [Is, GoRep.agg, GoRep.rel]
/-! One field after the other. -/
section
variable {ρ : Type} [RowRep ρ] {w : World} {cs : List Value}
theorem row_nil {x : PUnit} : RowRep.rrel w cs x ↔ cs = [] := Iff.rfl
theorem row_int {x : Int × ρ} : RowRep.rrel w cs x ↔ ∃ c2, cs = .int .i64 x.1 :: c2 ∧ (Lit.int .i64 x.1).wf = true ∧ RowRep.rrel w c2 x.2 := by
  constructor
  · rintro ⟨c1, c2, rfl, ⟨rfl, h⟩, h2⟩; exact ⟨c2, rfl, h, h2⟩
  · rintro ⟨c2, rfl, h, h2⟩; exact ⟨[_], c2, rfl, ⟨rfl, h⟩, h2⟩
theorem row_bool {x : Bool × ρ} : RowRep.rrel w cs x ↔ ∃ c2, cs = .bool x.1 :: c2 ∧ RowRep.rrel w c2 x.2 := by
  constructor
  · rintro ⟨c1, c2, rfl, rfl, h2⟩; exact ⟨c2, rfl, h2⟩
  · rintro ⟨c2, rfl, h2⟩; exact ⟨[_], c2, rfl, rfl, h2⟩
theorem row_str {x : ByteArray × ρ} : RowRep.rrel w cs x ↔ ∃ c2, cs = .string x.1 :: c2 ∧ x.1.size ≤ maxLen ∧ RowRep.rrel w c2 x.2 := by
  constructor
  · rintro ⟨c1, c2, rfl, ⟨rfl, h⟩, h2⟩; exact ⟨c2, rfl, h, h2⟩
  · rintro ⟨c2, rfl, h, h2⟩; exact ⟨[_], c2, rfl, ⟨rfl, h⟩, h2⟩
theorem row_list {α : Type} [GoRep α] {x : List α × ρ} : RowRep.rrel w cs x ↔ ∃ v c2, cs = v :: c2 ∧ Is w v x.1 ∧ RowRep.rrel w c2 x.2 := by
  constructor
  · rintro ⟨c1, c2, rfl, ⟨v, rfl, h⟩, h2⟩; exact ⟨v, c2, rfl, is_list.2 h, h2⟩
  · rintro ⟨v, c2, rfl, h, h2⟩; exact ⟨[v], c2, rfl, ⟨v, rfl, is_list.1 h⟩, h2⟩
/-- A struct within a struct: its fields stand in the row. -/
theorem row_st {σ : Type} [RowRep σ] {x : St σ × ρ} : RowRep.rrel w cs x ↔ ∃ c1 c2, cs = c1 ++ c2 ∧ RowRep.rrel w c1 x.1.v ∧ RowRep.rrel w c2 x.2 := Iff.rfl
end
end Go.Lm
