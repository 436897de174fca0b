/- What the library's functions come to that layer 6 calls, as calls that return. Conditions: the bounds that stand there. -/
import Derived.Test.YtepekaepgeekcaaDoorShelf
import Derived.Test.YtepekaepgeekcaaDoorLmSplit
namespace Go.Proofs.YtepekaepgeekcaaDoor
open Go Go.RowKit Go.Lm
theorem cut_any (s : ByteArray) (w : World) : Ret Tryd.prog 25 #[.string s, .string ⟨#[47]⟩] w fun v w' => v = .tuple #[.string (restB s), .bool (startsB s)] ∧ Le w w' :=
  (Ret.of (Tryd.strings_CutPrefix s ⟨#[47]⟩ w)).mono fun _ _ ⟨h1, h2⟩ => ⟨h1, by rw [h2]; exact Le.refl w⟩
theorem split_lib (s : ByteArray) (g w : World) (hm : MaxL 0 w) (hs : s.size < 4294967281) : Ret Tryd.prog 26 #[.string s, .string ⟨#[47]⟩] w fun v w' => Is (graft g w w') v (partsB s) ∧ Le w w' := by
  obtain ⟨m, hm⟩ := hm
  refine (Ret.of (Tryd.strings_Split s ⟨#[47]⟩ m w hs hm (by decide))).mono fun v w' ⟨h1, h2⟩ => ?_
  subst h1 h2
  have hn := New.mk' w (.cells ((partsB s).map Value.string).toArray 9 (0, 0))
  have hlen := partsB_length s
  have hle := partsB_len_le s
  refine ⟨?_, hn.le⟩
  have := is_new_strs (g := g) hn (fun x hx => by have := partsB_size hx; unfold maxLen; omega) (by unfold maxLen; omega)
  rw [hlen] at this
  exact this
end Go.Proofs.YtepekaepgeekcaaDoor
