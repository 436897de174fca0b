/- Plain facts on paths: how one is cut, and put together. General: no program in sight. -/
import Derived.Test.YtnmaehdklmgfmaaLmValid
import Derived.Lib.SplitLaws
import Derived.Lib.Split
namespace Go.Lm
open Go Go.RowKit

def sl : ByteArray := ⟨#[47]⟩
/-- strings.Split at a slash. -/
def partsB (s : ByteArray) : List ByteArray := Lib.splitB sl 0 (Lib.countB s sl) s
def restB (s : ByteArray) : ByteArray := ⟨(Lib.trimPrefix s.data.toList [47]).toArray⟩
def startsB (s : ByteArray) : Bool := Lib.hasPrefix s.data.toList [47]
def emptyB (s : ByteArray) : Bool := s.toList == (⟨#[]⟩ : ByteArray).toList
def hereB (s : ByteArray) : Bool := s.toList == (⟨#[46]⟩ : ByteArray).toList
def aboveB (s : ByteArray) : Bool := s.toList == (⟨#[46, 46]⟩ : ByteArray).toList
/-- What Split does with the parts. -/
def splitGo : List ByteArray → List ByteArray → Bool → List ByteArray × Bool × Int
  | [], acc, dir => (acc, dir, 0)
  | s :: r, acc, _ => if emptyB s || hereB s then splitGo r acc true else if aboveB s then splitGo r (acc ++ [s]) true else if validN s != 0 then ([], false, validN s) else splitGo r (acc ++ [s]) false
/-- Split: names, whether it leads to a directory, what is wrong. -/
def splitN (s : ByteArray) : List ByteArray × Bool × Int :=
  if (s.size : Int) > 1000 then ([], false, 23) else if !startsB s then ([], false, 22) else splitGo (partsB (restB s)) [] false

theorem extract_size_le (s : ByteArray) (a b : Nat) : (s.extract a b).size ≤ s.size := by
  rw [ByteArray.size_extract]; omega
theorem splitB_size (sep : ByteArray) (save : Nat) : ∀ (k : Nat) (s x : ByteArray), x ∈ Lib.splitB sep save k s → x.size ≤ s.size
  | 0, s, x, h => by
    simp only [Lib.splitB, List.mem_singleton] at h
    rw [h]; exact Nat.le_refl _
  | k + 1, s, x, h => by
    unfold Lib.splitB at h
    split at h
    · simp only [List.mem_singleton] at h
      rw [h]; exact Nat.le_refl _
    · rcases List.mem_cons.1 h with h | h
      · rw [h]; exact extract_size_le _ _ _
      · exact Nat.le_trans (splitB_size sep save k _ x h) (extract_size_le _ _ _)
theorem partsB_size {s x : ByteArray} (h : x ∈ partsB s) : x.size ≤ s.size := splitB_size _ _ _ _ _ h
theorem partsB_length (s : ByteArray) : (partsB s).length = Lib.countB s sl + 1 := Lib.splitB_all sl (by decide) 0 _ s rfl
theorem partsB_len_le (s : ByteArray) : (partsB s).length ≤ s.size + 1 := by
  rw [partsB_length]
  have := Lib.countB_le sl (by decide) s.size s (Nat.le_refl _)
  omega
theorem restB_size (s : ByteArray) : (restB s).size ≤ s.size := by
  rw [size_list s]
  show (Lib.trimPrefix s.data.toList [47]).toArray.size ≤ _
  rw [List.size_toArray]
  unfold Lib.trimPrefix
  split
  · rw [List.length_drop]; omega
  · exact Nat.le_refl _
section
variable {ps acc : List ByteArray} {dir : Bool} {k : Int} {X : List ByteArray × Bool × Int}
theorem go_skip_ (h0 : 0 ≤ k) (h1 : k < ps.length) (he : (emptyB (nth ps k) || hereB (nth ps k)) = true) (hc : splitGo (ps.drop k.toNat) acc dir = X) : splitGo (ps.drop (k + 1).toNat) acc true = X := by
  rw [drop_nth h0 h1] at hc
  simp only [splitGo, he, if_true] at hc; exact hc
theorem go_above (h0 : 0 ≤ k) (h1 : k < ps.length) (he : emptyB (nth ps k) = false) (hh : hereB (nth ps k) = false) (ha : aboveB (nth ps k) = true) (hc : splitGo (ps.drop k.toNat) acc dir = X) : splitGo (ps.drop (k + 1).toNat) (acc ++ [nth ps k]) true = X := by
  rw [drop_nth h0 h1] at hc
  simp only [splitGo, he, hh, ha, Bool.or_self, Bool.false_eq_true, if_false, if_true] at hc; exact hc
theorem go_bad (h0 : 0 ≤ k) (h1 : k < ps.length) (he : emptyB (nth ps k) = false) (hh : hereB (nth ps k) = false) (ha : aboveB (nth ps k) = false) (hv : (validN (nth ps k) != 0) = true) (hc : splitGo (ps.drop k.toNat) acc dir = X) : X = ([], false, validN (nth ps k)) := by
  rw [drop_nth h0 h1] at hc
  simp only [splitGo, he, hh, ha, hv, Bool.or_self, Bool.false_eq_true, if_false, if_true] at hc; exact hc.symm
theorem go_good (h0 : 0 ≤ k) (h1 : k < ps.length) (he : emptyB (nth ps k) = false) (hh : hereB (nth ps k) = false) (ha : aboveB (nth ps k) = false) (hv : (validN (nth ps k) != 0) = false) (hc : splitGo (ps.drop k.toNat) acc dir = X) : splitGo (ps.drop (k + 1).toNat) (acc ++ [nth ps k]) false = X := by
  rw [drop_nth h0 h1] at hc
  simp only [splitGo, he, hh, ha, hv, Bool.or_self, Bool.false_eq_true, if_false] at hc; exact hc
theorem go_fin (h1 : ¬ k < ps.length) (hc : splitGo (ps.drop k.toNat) acc dir = X) : X = (acc, dir, 0) := by
  rw [drop_end h1] at hc; exact hc.symm
end
theorem splitN_long {s : ByteArray} (h : (s.size : Int) > 1000) : splitN s = ([], false, 23) := if_pos h
theorem splitN_no {s : ByteArray} (h : ¬ (s.size : Int) > 1000) (h2 : (!startsB s) = true) : splitN s = ([], false, 22) := by unfold splitN; rw [if_neg h, if_pos h2]
theorem splitN_go {s : ByteArray} (h : ¬ (s.size : Int) > 1000) (h2 : (!startsB s) = false) : splitN s = splitGo (partsB (restB s)) [] false := by unfold splitN; rw [if_neg h, if_neg (by rw [h2]; simp)]
end Go.Lm
