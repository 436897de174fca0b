/- An upper branch as a part of what is owned, its places hidden. General: no program in sight. -/
import Derived.Test.YtnmaehdklmgfmaaLmUp3
namespace Go.Lm
open Go Go.RowKit
def rootU (ents : List (ByteArray × Int)) : UNode := ⟨1, 493, 0, 0, [], ⟨#[]⟩, [], false, ents, 0, 1⟩
section
variable {P : Program} {T : UTy} {W : Base} {g w w' : World} {l : List Atom} {u : Nat} {q1 q2 nx : Int} {S : UL}
def upS (P : Program) (T : UTy) (u : Nat) (q1 q2 nx : Int) (S : UL) : Atom := exA fun x : Nat × List (Int × LNode) => [pureA (er x.2 = S), upA P T u q1 q2 x.1 nx x.2]
theorem SL.upSO (H : SL W g w (upS P T u q1 q2 nx S :: l)) : ∃ mb L, er L = S ∧ SL W g w (upA P T u q1 q2 mb nx L :: l) := by
  obtain ⟨⟨mb, L⟩, H1⟩ := SL.openE H
  obtain ⟨h, H2⟩ := SL.pure H1
  exact ⟨mb, L, h, H2⟩
theorem SL.upSI {mb : Nat} {L : List (Int × LNode)} (h : er L = S) (H : SL W g w (upA P T u q1 q2 mb nx L :: l)) : SL W g w (upS P T u q1 q2 nx S :: l) :=
  SL.shutE (f := fun x : Nat × List (Int × LNode) => [pureA (er x.2 = S), upA P T u q1 q2 x.1 nx x.2]) (mb, L) (H.addPure h)
theorem er_none {L : List (Int × LNode)} {r : Int} (h : getK (er L) r = none) : getK L r = none := by
  rw [getK_er] at h
  cases hq : getK L r with
  | none => rfl
  | some n => rw [hq] at h; cases h
/-- A literal becomes a slice of its own. -/
theorem SL.litSl {α : Type} [GoRep α] {b n : Nat} {cs : Array Value} {e : TypeId} {ds : List (List Value)} {xs : List α} (H : SL W g w (Lm.blk b cs e :: l)) (r : RelL g ds xs) (hc : cs.toList = ds.flatten) (hn : xs.length = n) (hm : n ≤ maxLen) : SL W g w (slA e (.slice (some ⟨b, 0, none⟩) n n) xs :: l) := by
  subst hn
  have hl := (RelL.length r).2
  have hs : cs.size = xs.length * GoRep.size α := by rw [← Array.length_toList, hc, hl]
  have h := SL.toRow (size := GoRep.size α) (cap := xs.length) xs.length H (Nat.le_refl _) hm hs
  refine SL.slI (cs := ds) r ?_
  have e1 : cs.toList.take (xs.length * GoRep.size α) = ds.flatten := by rw [hc, List.take_of_length_le (by rw [hl]; exact Nat.le_refl _)]
  rw [e1] at h
  exact h
end
end Go.Lm
