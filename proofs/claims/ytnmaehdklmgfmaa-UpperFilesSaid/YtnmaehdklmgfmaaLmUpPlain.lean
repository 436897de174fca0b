/- Plain facts on an upper branch. General: no program in sight. -/
import Derived.Test.YtnmaehdklmgfmaaLmUp
import Derived.Test.YtnmaehdklmgfmaaLmArith
import Derived.Test.YtnmaehdklmgfmaaLmApp
import Derived.Test.YtnmaehdklmgfmaaLmValid
import Derived.Test.YtnmaehdklmgfmaaLmTree
namespace Go.Lm
open Go Go.RowKit
def kindI (c n : Int) : Int := (if c < 0 then 0 - (c + 1) else c).tmod n
/-- Whether numbers are those of an owner. -/
def mayA (a : AttrD) : Bool := decide (0 ≤ a.v.1) && decide (a.v.1 ≤ 511) && decide (0 ≤ a.v.2.1) && decide (a.v.2.1 ≤ 65535) && decide (0 ≤ a.v.2.2.1) && decide (a.v.2.2.1 ≤ 65535)
def may3 (m u g : Int) : Bool := decide (0 ≤ m) && decide (m ≤ 511) && decide (0 ≤ u) && decide (u ≤ 65535) && decide (0 ≤ g) && decide (g ≤ 65535)
/-- What MayXattrs finds wrong with one attribute. -/
def badM (x : XattrD) (last : ByteArray) : Bool := leB x.v.1 last || decide ((x.v.1.size : Int) > 40) || decide (nulAt x.v.1 ≥ 0) || decide ((x.v.2.1.length : Int) > 200)
def mayGo : List XattrD → ByteArray → Bool
  | [], _ => true
  | x :: r, last => if badM x last then false else mayGo r x.v.1
def mayX (l : List XattrD) : Bool := mayGo l ⟨#[]⟩ && decide ((l.length : Int) ≤ 8)
section
variable {l : List XattrD} {k : Int} {last : ByteArray} {X : Bool}
theorem mg_bad (h0 : 0 ≤ k) (h1 : k < l.length) (hb : badM (nth l k) last = true) (hc : mayGo (l.drop k.toNat) last = X) : X = false := by
  rw [drop_nth h0 h1] at hc
  simp only [mayGo, hb, if_true] at hc; exact hc.symm
theorem mg_next (h0 : 0 ≤ k) (h1 : k < l.length) (hb : badM (nth l k) last = false) (hc : mayGo (l.drop k.toNat) last = X) : mayGo (l.drop (k + 1).toNat) (nth l k).v.1 = X := by
  rw [drop_nth h0 h1] at hc
  simp only [mayGo, hb, Bool.false_eq_true, if_false] at hc; exact hc
theorem mg_fin (h1 : ¬ k < l.length) (hc : mayGo (l.drop k.toNat) last = X) : X = true := by
  rw [drop_end h1] at hc; exact hc.symm
end
theorem is_none_nil {α : Type} [GoRep α] {g : World} {v : Value} {l : List α} (h : Is g v l) (hn : isNilV v = true) : l = [] := by
  rcases is_list.1 h with ⟨_, h⟩ | ⟨a, c, rfl, _⟩
  · exact h
  · cases hn
def noB (s : ByteArray) : Bool := s.toList == (⟨#[]⟩ : ByteArray).toList
/-- Whether a node may be made. -/
def goodN (kind m u g : Int) (data : List UInt8) (target : ByteArray) (xs : List XattrD) : Bool :=
  if kind = 1 then ((data.length : Int) == 0) && noB target && may3 m u g && mayX xs
  else if kind = 2 then decide ((data.length : Int) ≤ 4096) && noB target && may3 m u g && mayX xs
  else if kind = 3 then ((data.length : Int) == 0) && (!noB target && decide ((target.size : Int) ≤ 200) && decide (Lib.indexByte target.data.toList 0 < 0)) && may3 m u g && mayX xs
  else if kind = 4 then ((data.length : Int) == 0) && noB target && (m == 0 && u == 0 && g == 0) && ((xs.length : Int) == 0)
  else false
theorem NodeR.lens {P : Program} {T : UTy} {g w : World} {n : LNode} (h : NodeR P T g w n) : n.data.length ≤ 9223372036854775807 ∧ n.xattrs.length ≤ 9223372036854775807 ∧ n.target.size ≤ 9223372036854775807 ∧ n.ents.length ≤ 9223372036854775807 := by
  refine ⟨h.data.len_le, h.xattrs.len_le, h.target, ?_⟩
  have := h.ents.len_le
  unfold entsV at this
  rw [List.length_map] at this
  exact this
theorem one_mapV {κ : Type} [MKey κ] {P : Program} {k : TypeId} {w : World} {v : Value} {m : List (κ × Value)} (h : MapV P k w v m) : v.oneCell' = true := by
  obtain ⟨_, ⟨rfl, _⟩ | ⟨b, rfl, _⟩⟩ := h <;> rfl
theorem wf_ok {x : Int} (h : (Lit.int .i64 x).wf = true) : MKey.ok (κ := Int) x := h
theorem sz_ok {s : ByteArray} (h : s.size ≤ 9223372036854775807) : MKey.ok (κ := ByteArray) s := h
theorem beq_of_bne {a b : Int} {v : Bool} (h : (a != b) = v) : (a == b) = !v := by rw [← h]; simp [bne]
theorem beq_of_eq {a b c : Int} (h : (a == b) = true) (hn : b ≠ c) : (a == c) = false := by
  have := eq_of_beq h
  subst this
  exact beq_eq_false_iff_ne.2 hn
theorem bne_of_eq {a b c : Int} (h : (a == b) = true) (hn : b ≠ c) : (a != c) = true := by
  have := eq_of_beq h
  subst this
  exact bne_iff_ne.2 hn
theorem getK_setK {κ α : Type} [MKey κ] {l : List (κ × α)} {x : κ} {v u : α} (h : getK l x = some v) : getK (setK l x u) x = some u := by
  unfold getK setK at *
  induction l with
  | nil => simp at h
  | cons p l ih =>
    simp only [List.map_cons, List.find?_cons] at h ⊢
    by_cases e : p.1 = x
    · simp [e]
    · simp only [e, if_false, decide_false] at h ⊢
      exact ih h
theorem SL.upNext {P : Program} {T : UTy} {W : Base} {g w w' : World} {l : List Atom} {u mb : Nat} {q1 q2 nx nx' : Int} {L : List (Int × LNode)} (H : SL W g w (upA P T u q1 q2 mb nx L :: l)) (up : Upd w u #[.int .i64 q1, .int .i64 q2, .map (some mb), .int .i64 nx'] w') : SL W g w' (upA P T u q1 q2 mb nx' L :: l) :=
  SL.upI (H.upO.upd 0 up)
/-- What is wrong with a name to be added. -/
def freshE (L : List (Int × LNode)) (d : Int) (s : ByteArray) : Int := match getK L d with
  | none => 1
  | some n => if n.kind = 1 then (if validN s = 0 then (if (getK n.ents s).isSome then 21 else 0) else validN s) else 24
theorem fresh_some {L : List (Int × LNode)} {d : Int} {s : ByteArray} {n : LNode} (h : getK L d = some n) (hf : freshE L d s = 0) : n.kind = 1 ∧ validN s = 0 ∧ getK n.ents s = none := by
  unfold freshE at hf
  rw [h] at hf
  simp only at hf
  split at hf
  · rename_i h1
    split at hf
    · rename_i h2
      split at hf
      · cases hf
      · rename_i h3
        exact ⟨h1, h2, by simpa using h3⟩
    · exact absurd hf (by assumption)
  · cases hf
theorem fresh_dir {L : List (Int × LNode)} {d : Int} {s : ByteArray} (hf : freshE L d s = 0) : ∃ n, getK L d = some n := by
  cases h : getK L d with
  | none => unfold freshE at hf; rw [h] at hf; cases hf
  | some n => exact ⟨n, rfl⟩
end Go.Lm
