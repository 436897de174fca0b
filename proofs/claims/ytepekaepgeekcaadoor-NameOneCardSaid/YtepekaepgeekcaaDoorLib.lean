/- What the library's functions come to that layer 6 calls, as calls that return. Conditions: the bounds that stand there. -/
import Derived.Test.YtepekaepgeekcaaDoorShelf
import Derived.Test.YtepekaepgeekcaaDoorLmJoin
namespace Go.Proofs.YtepekaepgeekcaaDoor
open Go Go.RowKit Go.Lm
theorem cut_any (s : ByteArray) (w : World) : Ret Tryd.prog 25 #[.string s, .string ⟨#[47]⟩] w fun v w' => v = .tuple #[.string (restB s), .bool (startsB s)] ∧ Le w w' :=
  (Ret.of (Tryd.strings_CutPrefix s ⟨#[47]⟩ w)).mono fun _ _ ⟨h1, h2⟩ => ⟨h1, by rw [h2]; exact Le.refl w⟩
theorem split_lib (s : ByteArray) (g w : World) (hm : MaxL 0 w) (hs : s.size < 4294967281) : Ret Tryd.prog 26 #[.string s, .string ⟨#[47]⟩] w fun v w' => Is (graft g w w') v (partsB s) ∧ Le w w' := by
  obtain ⟨m, hm⟩ := hm
  refine (Ret.of (Tryd.strings_Split s ⟨#[47]⟩ m w hs hm (by decide))).mono fun v w' ⟨h1, h2⟩ => ?_
  subst h1 h2
  have hn := New.mk' w (.cells ((partsB s).map Value.string).toArray 9 (0, 0))
  have hlen := partsB_length s
  have hle := partsB_len_le s
  refine ⟨?_, hn.le⟩
  have := is_new_strs (g := g) hn (fun x hx => by have := partsB_size hx; unfold maxLen; omega) (by unfold maxLen; omega)
  rw [hlen] at this
  exact this
theorem join_lib (l : List ByteArray) (v : Value) (g w : World) (sees : Sees g w) (h : Is g v l) (hb : (joinN l).size ≤ 140737488355328) : Ret Tryd.prog 27 #[v, .string ⟨#[47]⟩] w fun u w' => u = .string ⟨(Lib.join (l.map (·.data.toList)) [47]).toArray⟩ ∧ Le w w' := by
  have hj := join_len l
  have hll := h.len_le
  by_cases hl : l = []
  · subst hl
    rcases is_list.1 h with ⟨rfl, _⟩ | ⟨a, cap, rfl, _⟩
    · exact (Ret.of (Tryd.strings_Join_none none 0 ⟨#[47]⟩ w)).mono fun _ _ ⟨h1, h2⟩ => ⟨h1, by rw [h2]; exact Le.refl w⟩
    · exact (Ret.of (Tryd.strings_Join_none (some a) cap ⟨#[47]⟩ w)).mono fun _ _ ⟨h1, h2⟩ => ⟨h1, by rw [h2]; exact Le.refl w⟩
  · obtain ⟨bk, o, c, rfl, h1, h2, h3⟩ := join_args h sees hl
    have hn : l.length ≤ (joinN l).size := by
      have e := joinN_data l
      rw [if_neg (by simpa using hl)] at e
      rw [size_list, e]
      exact tails_ge l
    exact (Ret.of (Tryd.strings_Join bk o c l ⟨#[47]⟩ w h1 h2 (by omega) h3 (by show (Lib.join (l.map (·.data.toList)) [47]).length ≤ _; omega))).mono fun _ _ ⟨h1, h2⟩ => ⟨h1, h2⟩
end Go.Proofs.YtepekaepgeekcaaDoor
