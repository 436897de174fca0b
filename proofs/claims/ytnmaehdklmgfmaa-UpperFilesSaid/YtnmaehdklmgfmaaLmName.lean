/- Plain facts on names and rows of names: what the functions of layer 6 answer, in Lean's lists. General: no program in sight. -/
import Derived.Test.YtnmaehdklmgfmaaLmRep
namespace Go.Lm
open Go Go.RowKit

theorem drop_nth {α : Type} [Inhabited α] {xs : List α} {k : Int} (h0 : 0 ≤ k) (h1 : k < xs.length) : xs.drop k.toNat = nth xs k :: xs.drop (k + 1).toNat := by
  have hk : k.toNat < xs.length := by omega
  rw [nth_eq hk, List.drop_eq_getElem_cons hk]
  congr 2
  omega
theorem drop_end {α : Type} {xs : List α} {k : Int} (h1 : ¬ k < xs.length) : xs.drop k.toNat = [] := List.drop_eq_nil_of_le (by omega)

theorem notB_t {b : Bool} (h : (!b) = true) : b = false := by simpa using h
theorem notB_f {b : Bool} (h : (!b) = false) : b = true := by simpa using h
/-- '<' on strings. -/
def ltB (a b : ByteArray) : Bool := Op.bytesLess a.toList b.toList
def eqB (a b : ByteArray) : Bool := a.toList == b.toList
/-- cmp.Compare at strings. -/
def cmpB (a b : ByteArray) : Int := if ltB a b then -1 else if !(ltB a b || eqB a b) then 1 else 0
/-- slices.Compare at rows of strings. -/
def cmpL : List ByteArray → List ByteArray → Int
  | [], [] => 0
  | [], _ :: _ => -1
  | _ :: _, [] => 1
  | a :: as, b :: bs => if cmpB a b != 0 then cmpB a b else cmpL as bs
section
variable {a b : List ByteArray} {k X : Int}
theorem cmpL_gt (h0 : 0 ≤ k) (h1 : k < a.length) (h2 : ¬ k < b.length) (hc : cmpL (a.drop k.toNat) (b.drop k.toNat) = X) : 1 = X := by
  rw [drop_nth h0 h1, drop_end h2] at hc; exact hc
theorem cmpL_ne (h0 : 0 ≤ k) (h1 : k < a.length) (h2 : k < b.length) (hn : (cmpB (nth a k) (nth b k) != 0) = true) (hc : cmpL (a.drop k.toNat) (b.drop k.toNat) = X) : cmpB (nth a k) (nth b k) = X := by
  rw [drop_nth h0 h1, drop_nth h0 h2] at hc
  simp only [cmpL, hn, if_true] at hc
  exact hc
theorem cmpL_step (h0 : 0 ≤ k) (h1 : k < a.length) (h2 : k < b.length) (hn : (cmpB (nth a k) (nth b k) != 0) = false) (hc : cmpL (a.drop k.toNat) (b.drop k.toNat) = X) : cmpL (a.drop (k + 1).toNat) (b.drop (k + 1).toNat) = X := by
  rw [drop_nth h0 h1, drop_nth h0 h2] at hc
  simp only [cmpL, hn, Bool.false_eq_true, if_false] at hc
  exact hc
theorem cmpL_lt (h0 : 0 ≤ k) (h1 : ¬ k < a.length) (hk : k ≤ a.length) (h2 : (a.length : Int) < b.length) (hc : cmpL (a.drop k.toNat) (b.drop k.toNat) = X) : -1 = X := by
  rw [drop_end h1, drop_nth h0 (by omega : k < b.length)] at hc; exact hc
theorem cmpL_eq (h1 : ¬ k < a.length) (hkb : k ≤ b.length) (h2 : ¬ (a.length : Int) < b.length) (hka : k ≤ a.length) (hc : cmpL (a.drop k.toNat) (b.drop k.toNat) = X) : 0 = X := by
  rw [drop_end h1, drop_end (by omega : ¬ k < b.length)] at hc; exact hc
end

/-- The same row. -/
def sameL : List ByteArray → List ByteArray → Bool
  | [], [] => true
  | a :: as, b :: bs => eqB a b && sameL as bs
  | _, _ => false
theorem sameL_len : ∀ {a b : List ByteArray}, sameL a b = true → a.length = b.length
  | [], [], _ => rfl
  | _ :: _, _ :: _, h => by
    simp only [sameL, Bool.and_eq_true] at h
    simp [sameL_len h.2]
  | [], _ :: _, h => by simp [sameL] at h
  | _ :: _, [], h => by simp [sameL] at h
section
variable {a b : List ByteArray} {k : Int} {X : Bool}
theorem sameL_ne (h : ((a.length : Int) != b.length) = true) : false = sameL a b := by
  cases hs : sameL a b with
  | false => rfl
  | true => have := sameL_len hs; simp [this] at h
theorem sameL_no (h0 : 0 ≤ k) (h1 : k < a.length) (h2 : k < b.length) (hn : eqB (nth a k) (nth b k) = false) (hc : sameL (a.drop k.toNat) (b.drop k.toNat) = X) : false = X := by
  rw [drop_nth h0 h1, drop_nth h0 h2] at hc
  simp only [sameL, hn, Bool.false_and] at hc
  exact hc
theorem sameL_step (h0 : 0 ≤ k) (h1 : k < a.length) (h2 : k < b.length) (hn : eqB (nth a k) (nth b k) = true) (hc : sameL (a.drop k.toNat) (b.drop k.toNat) = X) : sameL (a.drop (k + 1).toNat) (b.drop (k + 1).toNat) = X := by
  rw [drop_nth h0 h1, drop_nth h0 h2] at hc
  simp only [sameL, hn, Bool.true_and] at hc
  exact hc
theorem sameL_yes (h1 : ¬ k < a.length) (h2 : ¬ k < b.length) (hc : sameL (a.drop k.toNat) (b.drop k.toNat) = X) : true = X := by
  rw [drop_end h1, drop_end h2] at hc; exact hc
end
/-- Less of the reference. -/
def lessL : List ByteArray → List ByteArray → Bool
  | [], [] => false
  | [], _ :: _ => true
  | _ :: _, [] => false
  | a :: as, b :: bs => if !eqB a b then ltB a b else lessL as bs
section
variable {a b : List ByteArray} {k : Int} {X : Bool}
theorem lessL_ne (h0 : 0 ≤ k) (h1 : k < a.length) (h2 : k < b.length) (hn : eqB (nth a k) (nth b k) = false) (hc : lessL (a.drop k.toNat) (b.drop k.toNat) = X) : ltB (nth a k) (nth b k) = X := by
  rw [drop_nth h0 h1, drop_nth h0 h2] at hc
  simp only [lessL, hn, Bool.not_false, if_true] at hc
  exact hc
theorem lessL_step (h0 : 0 ≤ k) (h1 : k < a.length) (h2 : k < b.length) (hn : eqB (nth a k) (nth b k) = true) (hc : lessL (a.drop k.toNat) (b.drop k.toNat) = X) : lessL (a.drop (k + 1).toNat) (b.drop (k + 1).toNat) = X := by
  rw [drop_nth h0 h1, drop_nth h0 h2] at hc
  simp only [lessL, hn, Bool.not_true, Bool.false_eq_true, if_false] at hc
  exact hc
theorem lessL_fin (h0 : 0 ≤ k) (hka : k ≤ a.length) (hkb : k ≤ b.length) (h : ¬ k < a.length ∨ ¬ k < b.length) (hc : lessL (a.drop k.toNat) (b.drop k.toNat) = X) : decide ((a.length : Int) < b.length) = X := by
  rw [← hc]
  by_cases h1 : k < a.length
  · have h2 : ¬ k < b.length := by omega
    rw [drop_nth h0 h1, drop_end h2]
    simp only [lessL, decide_eq_false_iff_not]
    omega
  · rw [drop_end h1]
    by_cases h2 : k < b.length
    · rw [drop_nth h0 h2]
      simp only [lessL, decide_eq_true_eq]
      omega
    · rw [drop_end h2]
      simp only [lessL, decide_eq_false_iff_not]
      omega
end
/-- Below. -/
def belowL (l r : List ByteArray) : Bool := decide ((l.length : Int) > r.length) && sameL (l.take r.length) r
end Go.Lm
