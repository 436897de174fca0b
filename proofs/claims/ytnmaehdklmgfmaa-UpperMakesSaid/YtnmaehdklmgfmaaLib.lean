/- What the library comes to. (Printed by a program of mine.) -/
import Derived.Test.YtnmaehdklmgfmaaShelf
import Derived.Test.YtnmaehdklmgfmaaLmGC
namespace Go.Proofs.Ytnmaehdklmgfmaa
open Go Go.RowKit Go.Lm
theorem indexNul_any (s : ByteArray) (w : World) : Ret Try.prog 97 #[.string s, .int .u8 0] w fun v w' => v = .int .i64 (nulAt s) ∧ Le w w' :=
  (Ret.of (Try.strings_IndexByte s 0 w)).mono fun _ _ ⟨h1, h2⟩ => ⟨h1, by rw [h2]; exact Le.refl w⟩
theorem bytesOf_map (l : List UInt8) : Lib.bytesOf (l.map fun b => (b.toNat : Int)) = l := by
  induction l with
  | nil => rfl
  | cons b l ih =>
    unfold Lib.bytesOf at *
    simp only [List.map_cons, List.cons.injEq]
    exact ⟨by simp, by simpa using ih⟩
theorem bindex_any (l : List UInt8) (v : Value) (g w : World) (sees : Sees g w) (h : Is g v l) : Ret Try.prog 69 #[v, .int .u8 0] w fun u w' => u = .int .i64 (Lib.indexByte l 0) ∧ Le w w' := by
  rcases is_list.1 (h.mono sees.mono) with ⟨rfl, rfl⟩ | ⟨a, cap, rfl, _, _, h3⟩
  · exact (Ret.of (Try.bytes_IndexByte_nil 0 w)).mono fun _ _ ⟨h1, h2⟩ => ⟨h1, by rw [h2]; exact Le.refl w⟩
  · have hr := Try.bytes_IndexByte_at a l.length cap (l.map fun b => (b.toNat : Int)) 0 w (by simp) fun i hi => by
      obtain ⟨cs, hc, hr⟩ := h3 i _ (List.getElem?_eq_getElem hi)
      have hr' : cs = [.int .u8 (l[i].toNat : Int)] := hr
      have := hc 0 (.int .u8 (l[i].toNat : Int)) (by rw [hr']; rfl)
      simp only [GoRep.size, Nat.mul_one, Nat.add_zero] at this
      rw [this]
      simp [List.getD, hi]
    rw [bytesOf_map] at hr
    exact (Ret.of hr).mono fun _ _ ⟨h1, h2⟩ => ⟨h1, by rw [h2]; exact Le.refl w⟩

abbrev uty : UTy := ⟨85, 82, 3, 9⟩
theorem kI : KeyT Try.prog uty.kI Int := keyT_int Try.underlying3
theorem kS : KeyT Try.prog uty.kS ByteArray := keyT_str Try.underlying9
end Go.Proofs.Ytnmaehdklmgfmaa
