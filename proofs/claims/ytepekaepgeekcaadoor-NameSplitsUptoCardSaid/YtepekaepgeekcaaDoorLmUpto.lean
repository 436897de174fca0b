/- A row of strings that came in, opened with its reading; a witness for a row with a condition. General. -/
import Derived.Test.YtepekaepgeekcaaDoorLmFrame
import Derived.SliceStrings
import Derived.Deep.DeepHandedRow
namespace Go.Lm
open Go Go.RowKit Go.ChangeShapes
theorem open_strs {P : Program} {t e : TypeId} {H : Type} {enc : TypeId × Value → H} {w : World} {base : Nat} {spare : Nat → Bool} {held : Bool} {v : Value} {d : DataW H} {ps : List MemPlace} (ht : P.underlying t = some (.slice e)) (he : P.underlying e = some .string) (hc : P.cellsOf e = 1)
    (hsp : ∀ b, spare b = true) (hv : v.cells = #[v]) (h : DataW.Trod enc P w base spare held t v d ps) : ∃ l : List ByteArray, Is w v l ∧ ((d = .nil ∧ l = []) ∨ ∃ rest, d = .slice (strs l) (strs rest)) := by
  obtain ⟨fuel, hf⟩ := h
  rcases open_strings ht he hc hf with ⟨h1, h2⟩ | ⟨a, len, cap, ss, h1, h2, h3, h4, h5, h6, h7, h8⟩
  · rw [hv] at h1
    have e1 : v = .slice none 0 0 := by simpa using h1
    subst e1
    exact ⟨[], is_nil w, .inl ⟨(Prod.mk.injEq .. ▸ h2 : d = .nil ∧ ps = []).1, rfl⟩⟩
  · rw [hv] at h1
    have e1 : v = .slice (some a) len cap := by simpa using h1
    rw [hsp, if_pos rfl] at h5
    have hl : (ss.take len).length = len := by rw [List.length_take]; omega
    refine ⟨ss.take len, is_list.2 (.inr ⟨a, cap, by rw [e1, hl], by omega, h4, fun i x hx => ?_⟩), .inr ⟨ss.drop len, (Prod.mk.injEq .. ▸ h6 : d = _ ∧ ps = _).1⟩⟩
    have hi : i < len := by
      have := (List.getElem?_eq_some_iff.1 hx).1; omega
    have hg : ss[i]? = some x := by rw [List.getElem?_take] at hx; simpa [hi] using hx
    refine ⟨[.string x], fun j c hj => ?_, rfl, h8 x (List.mem_of_getElem? hg)⟩
    have h9 := h7 i (by omega)
    rw [List.getD_eq_getElem?_getD, hg] at h9
    match j, hj with
    | 0, hj =>
      have : c = .string x := by simpa using hj.symm
      rw [this]
      simpa [GoRep.size] using h9
theorem witness_row {H : Type} {enc : TypeId × Value → H} {C : Checked} {os : Os} {f : FuncId} {fn : Func} {s : OpenSpec} {conds : List PathCond} {apart : Bool} {laid : List (String × DataW Unit)} (w0 : World) (args : Array Value) (hos : w0.os = os)
    (hsh : (w0.forCall (fun _ _ => 0) ⟨#[], args, []⟩).Shaped C.prog)
    (hok : Input.okWideB C.prog (w0.forCall (fun _ _ => 0) ⟨#[], args, []⟩) f ⟨#[], args, []⟩ = true)
    (hrow : s.preRow enc C.prog fn conds apart laid (w0.forCall (fun _ _ => 0) ⟨#[], args, []⟩).memory args) :
    ∃ (w : World) (tape : Tape) (i : Input), w.os = os ∧ (w.forCall tape i).Shaped C.prog ∧ i.vars = [] ∧ Input.okWide C.prog (w.forCall tape i) .any w.heap.size f i ∧
      s.preRow enc C.prog fn conds apart laid (w.forCall tape i).memory i.args ∧ ({} : Assume).holds C.prog (lone (Frame.enter C.prog f i.args .normal) [] (w.forCall tape i)) :=
  ⟨w0, fun _ _ => 0, ⟨#[], args, []⟩, hos, hsh, (Input.okWide_of_okWideB (base := 0) hok).1, (Input.okWide_of_okWideB hok).2, hrow, by
    simp only [Assume.holds]
    exact ⟨by simp, by simp, by simp, by simp, by simp⟩⟩
theorem row_met {H : Type} {enc : TypeId × Value → H} {P : Program} {fn : Func} {s : OpenSpec} {k : (H : Type) → List (DataW H) → Bool} (hk : s.cond = some k) {apart : Bool} {laid : List (String × DataW Unit)} {w : World} {args : Array Value} {x : List (DataW H) × List (DataW H) × List MemPlace} {fuel : Nat}
    (hx : DataW.whole enc P w fn.params.toList s.vars apart args.toList fuel = some x) (hkk : k H (x.1 ++ x.2.1) = true) (hl : laidMetH P laid w) (hsz : s.bare.sizedB enc P fn apart w args fuel = true) : s.preRow enc P fn [] apart laid w args :=
  ⟨⟨(OpenSpec.pre_some hk [] apart _ _).2 ⟨x.1, x.2.1, x.2.2, DataW.Whole_of_whole hx, rfl, hkk⟩, hl⟩, sizedMet_of_sizedB hsz⟩
end Go.Lm
