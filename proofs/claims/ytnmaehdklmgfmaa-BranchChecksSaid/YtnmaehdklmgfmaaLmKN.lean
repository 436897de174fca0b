/- General texts of mine, merged: LmName, LmValid, LmSplit, LmOrd, LmCut, LmJoin, LmBack. No program in sight. -/
import Derived.Test.YtnmaehdklmgfmaaLmKA
import Derived.Lib.SplitLaws
import Derived.Lib.Split
import Derived.Lib.Join
import Derived.Laws.Concat
/- Plain facts on names and rows of names: what the functions of layer 6 answer, in Lean's lists. General: no program in sight. -/
namespace Go.LmN
open Go.Lm
open Go Go.RowKit

theorem drop_nth {α : Type} [Inhabited α] {xs : List α} {k : Int} (h0 : 0 ≤ k) (h1 : k < xs.length) : xs.drop k.toNat = nth xs k :: xs.drop (k + 1).toNat := by
  have hk : k.toNat < xs.length := by omega
  rw [nth_eq hk, List.drop_eq_getElem_cons hk]
  congr 2
  omega
theorem drop_end {α : Type} {xs : List α} {k : Int} (h1 : ¬ k < xs.length) : xs.drop k.toNat = [] := List.drop_eq_nil_of_le (by omega)

theorem notB_t {b : Bool} (h : (!b) = true) : b = false := by simpa using h
theorem notB_f {b : Bool} (h : (!b) = false) : b = true := by simpa using h
/-- '<' on strings. -/
def ltB (a b : ByteArray) : Bool := Op.bytesLess a.toList b.toList
def eqB (a b : ByteArray) : Bool := a.toList == b.toList
/-- cmp.Compare at strings. -/
def cmpB (a b : ByteArray) : Int := if ltB a b then -1 else if !(ltB a b || eqB a b) then 1 else 0
/-- slices.Compare at rows of strings. -/
def cmpL : List ByteArray → List ByteArray → Int
  | [], [] => 0
  | [], _ :: _ => -1
  | _ :: _, [] => 1
  | a :: as, b :: bs => if cmpB a b != 0 then cmpB a b else cmpL as bs
section
variable {a b : List ByteArray} {k X : Int}
theorem cmpL_gt (h0 : 0 ≤ k) (h1 : k < a.length) (h2 : ¬ k < b.length) (hc : cmpL (a.drop k.toNat) (b.drop k.toNat) = X) : 1 = X := by
  rw [drop_nth h0 h1, drop_end h2] at hc; exact hc
theorem cmpL_ne (h0 : 0 ≤ k) (h1 : k < a.length) (h2 : k < b.length) (hn : (cmpB (nth a k) (nth b k) != 0) = true) (hc : cmpL (a.drop k.toNat) (b.drop k.toNat) = X) : cmpB (nth a k) (nth b k) = X := by
  rw [drop_nth h0 h1, drop_nth h0 h2] at hc
  simp only [cmpL, hn, if_true] at hc
  exact hc
theorem cmpL_step (h0 : 0 ≤ k) (h1 : k < a.length) (h2 : k < b.length) (hn : (cmpB (nth a k) (nth b k) != 0) = false) (hc : cmpL (a.drop k.toNat) (b.drop k.toNat) = X) : cmpL (a.drop (k + 1).toNat) (b.drop (k + 1).toNat) = X := by
  rw [drop_nth h0 h1, drop_nth h0 h2] at hc
  simp only [cmpL, hn, Bool.false_eq_true, if_false] at hc
  exact hc
theorem cmpL_lt (h0 : 0 ≤ k) (h1 : ¬ k < a.length) (hk : k ≤ a.length) (h2 : (a.length : Int) < b.length) (hc : cmpL (a.drop k.toNat) (b.drop k.toNat) = X) : -1 = X := by
  rw [drop_end h1, drop_nth h0 (by omega : k < b.length)] at hc; exact hc
theorem cmpL_eq (h1 : ¬ k < a.length) (hkb : k ≤ b.length) (h2 : ¬ (a.length : Int) < b.length) (hka : k ≤ a.length) (hc : cmpL (a.drop k.toNat) (b.drop k.toNat) = X) : 0 = X := by
  rw [drop_end h1, drop_end (by omega : ¬ k < b.length)] at hc; exact hc
end

/-- The same row. -/
def sameL : List ByteArray → List ByteArray → Bool
  | [], [] => true
  | a :: as, b :: bs => eqB a b && sameL as bs
  | _, _ => false
theorem sameL_len : ∀ {a b : List ByteArray}, sameL a b = true → a.length = b.length
  | [], [], _ => rfl
  | _ :: _, _ :: _, h => by
    simp only [sameL, Bool.and_eq_true] at h
    simp [sameL_len h.2]
  | [], _ :: _, h => by simp [sameL] at h
  | _ :: _, [], h => by simp [sameL] at h
section
variable {a b : List ByteArray} {k : Int} {X : Bool}
theorem sameL_ne (h : ((a.length : Int) != b.length) = true) : false = sameL a b := by
  cases hs : sameL a b with
  | false => rfl
  | true => have := sameL_len hs; simp [this] at h
theorem sameL_no (h0 : 0 ≤ k) (h1 : k < a.length) (h2 : k < b.length) (hn : eqB (nth a k) (nth b k) = false) (hc : sameL (a.drop k.toNat) (b.drop k.toNat) = X) : false = X := by
  rw [drop_nth h0 h1, drop_nth h0 h2] at hc
  simp only [sameL, hn, Bool.false_and] at hc
  exact hc
theorem sameL_step (h0 : 0 ≤ k) (h1 : k < a.length) (h2 : k < b.length) (hn : eqB (nth a k) (nth b k) = true) (hc : sameL (a.drop k.toNat) (b.drop k.toNat) = X) : sameL (a.drop (k + 1).toNat) (b.drop (k + 1).toNat) = X := by
  rw [drop_nth h0 h1, drop_nth h0 h2] at hc
  simp only [sameL, hn, Bool.true_and] at hc
  exact hc
theorem sameL_yes (h1 : ¬ k < a.length) (h2 : ¬ k < b.length) (hc : sameL (a.drop k.toNat) (b.drop k.toNat) = X) : true = X := by
  rw [drop_end h1, drop_end h2] at hc; exact hc
end
/-- Less of the reference. -/
def lessL : List ByteArray → List ByteArray → Bool
  | [], [] => false
  | [], _ :: _ => true
  | _ :: _, [] => false
  | a :: as, b :: bs => if !eqB a b then ltB a b else lessL as bs
section
variable {a b : List ByteArray} {k : Int} {X : Bool}
theorem lessL_ne (h0 : 0 ≤ k) (h1 : k < a.length) (h2 : k < b.length) (hn : eqB (nth a k) (nth b k) = false) (hc : lessL (a.drop k.toNat) (b.drop k.toNat) = X) : ltB (nth a k) (nth b k) = X := by
  rw [drop_nth h0 h1, drop_nth h0 h2] at hc
  simp only [lessL, hn, Bool.not_false, if_true] at hc
  exact hc
theorem lessL_step (h0 : 0 ≤ k) (h1 : k < a.length) (h2 : k < b.length) (hn : eqB (nth a k) (nth b k) = true) (hc : lessL (a.drop k.toNat) (b.drop k.toNat) = X) : lessL (a.drop (k + 1).toNat) (b.drop (k + 1).toNat) = X := by
  rw [drop_nth h0 h1, drop_nth h0 h2] at hc
  simp only [lessL, hn, Bool.not_true, Bool.false_eq_true, if_false] at hc
  exact hc
theorem lessL_fin (h0 : 0 ≤ k) (hka : k ≤ a.length) (hkb : k ≤ b.length) (h : ¬ k < a.length ∨ ¬ k < b.length) (hc : lessL (a.drop k.toNat) (b.drop k.toNat) = X) : decide ((a.length : Int) < b.length) = X := by
  rw [← hc]
  by_cases h1 : k < a.length
  · have h2 : ¬ k < b.length := by omega
    rw [drop_nth h0 h1, drop_end h2]
    simp only [lessL, decide_eq_false_iff_not]
    omega
  · rw [drop_end h1]
    by_cases h2 : k < b.length
    · rw [drop_nth h0 h2]
      simp only [lessL, decide_eq_true_eq]
      omega
    · rw [drop_end h2]
      simp only [lessL, decide_eq_false_iff_not]
      omega
end
/-- Below. -/
def belowL (l r : List ByteArray) : Bool := decide ((l.length : Int) > r.length) && sameL (l.take r.length) r
end Go.LmN

/- Plain facts on names: what is wrong with one. General: no program in sight. -/
namespace Go.LmN
open Go.Lm
open Go Go.RowKit

def badC (c : UInt8) : Bool := c == 0 || c == 47
/-- A byte from p on that no name has. -/
def badB (s : ByteArray) (p : Nat) : Bool := (s.data.toList.drop p).any badC
def dots (s : ByteArray) : Bool := s.toList == (⟨#[]⟩ : ByteArray).toList || (s.toList == (⟨#[46]⟩ : ByteArray).toList || s.toList == (⟨#[46, 46]⟩ : ByteArray).toList)
/-- What is wrong with a name. -/
def validN (s : ByteArray) : Int := if (s.size : Int) > 255 then 23 else if dots s || badB s 0 then 22 else 0

theorem size_list (s : ByteArray) : s.size = s.data.toList.length := by
  rw [Array.length_toList]; rfl
theorem get_list (s : ByteArray) (p : Nat) (h : p < s.size) : s.data.toList[p]'(by rw [← size_list]; exact h) = s[p] := by
  obtain ⟨d⟩ := s
  simp [ByteArray.getElem_eq_getElem_data]
theorem badB_cons (s : ByteArray) (p : Nat) (h : p < s.size) : badB s p = (badC s[p] || badB s (p + 1)) := by
  unfold badB
  rw [List.drop_eq_getElem_cons (by rw [← size_list]; exact h), List.any_cons, get_list s p h]
theorem badB_end (s : ByteArray) (p : Nat) (h : ¬ p < s.size) : badB s p = false := by
  unfold badB
  rw [List.drop_eq_nil_of_le (by rw [← size_list]; omega)]; rfl
theorem get_bang (s : ByteArray) (p : Nat) (h : p < s.size) : s.get! p = s[p] := by
  have := get_at s p h
  simpa using this
/-- Behind a byte of 128 and more all bytes of the rune are such. -/
theorem decode_skip (s : ByteArray) (p : Nat) (h : p < s.size) (ha : 128 ≤ (s[p]'h).toNat) (k : Nat) (hk : 1 ≤ k) (hkw : k < (Utf8.decode s p).2) : ∃ h' : p + k < s.size, 128 ≤ (s[p + k]'h').toNat := by
  have cont : ∀ j, (decide (p + j < s.size) && (s.get! (p + j)).toNat / 64 == 2) = true → ∃ h' : p + j < s.size, 128 ≤ (s[p + j]'h').toNat := fun j hj => by
    simp only [Bool.and_eq_true, decide_eq_true_eq, beq_iff_eq] at hj
    refine ⟨hj.1, ?_⟩
    rw [← get_bang s (p + j) hj.1]; omega
  have h0 : ¬ (s.get! (p + 0)).toNat < 128 := by rw [get_at s p h]; omega
  unfold Utf8.decode at hkw
  simp only [h0, if_false] at hkw
  split at hkw
  · rename_i h2
    simp only [Bool.and_eq_true] at h2
    split at hkw
    · have : k = 1 := by simp at hkw; omega
      subst this; exact cont 1 (by simpa using h2.2)
    · simp at hkw; omega
  · split at hkw
    · rename_i _ h2
      simp only [Bool.and_eq_true] at h2
      split at hkw
      · have : k = 1 ∨ k = 2 := by simp at hkw; omega
        rcases this with rfl | rfl
        · exact cont 1 (by simpa using h2.1.2)
        · exact cont 2 (by simpa using h2.2)
      · simp at hkw; omega
    · split at hkw
      · rename_i _ _ h2
        simp only [Bool.and_eq_true] at h2
        split at hkw
        · have : k = 1 ∨ k = 2 ∨ k = 3 := by simp at hkw; omega
          rcases this with rfl | rfl | rfl
          · exact cont 1 (by simpa using h2.1.1.2)
          · exact cont 2 (by simpa using h2.1.2)
          · exact cont 3 (by simpa using h2.2)
        · simp at hkw; omega
      · simp at hkw; omega
theorem badC_high {c : UInt8} (h : 128 ≤ c.toNat) : badC c = false := by
  unfold badC
  have h0 : c ≠ 0 := fun e => by subst e; simp at h
  have h1 : c ≠ 47 := fun e => by subst e; simp at h
  simp [h0, h1]
theorem badB_run (s : ByteArray) (p : Nat) : ∀ n, (∀ k, k < n → ∃ h' : p + k < s.size, 128 ≤ (s[p + k]'h').toNat) → badB s p = badB s (p + n)
  | 0, _ => rfl
  | n + 1, h => by
    rw [badB_run s p n fun k hk => h k (by omega)]
    obtain ⟨h', hb⟩ := h n (by omega)
    rw [badB_cons s (p + n) h', badC_high hb]; rfl
theorem decode_pos (s : ByteArray) (p : Nat) (h : p < s.size) : 1 ≤ (Utf8.decode s p).2 := by
  by_cases ha : (s[p]'h).toNat < 128
  · rw [decode_ascii s p h ha]; exact Nat.le_refl _
  · exact (decode_high s p h (by omega)).2
/-- One rune of a name. -/
theorem badB_rune (s : ByteArray) (p : Nat) (h : p < s.size) :
    badB s p = ((((Utf8.decode s p).1 : Int) == 0 || ((Utf8.decode s p).1 : Int) == 47) || badB s (p + (Utf8.decode s p).2)) := by
  by_cases ha : (s[p]'h).toNat < 128
  · rw [decode_ascii s p h ha, badB_cons s p h]
    congr 1
    unfold badC
    have e : ∀ m : Nat, m < 256 → (s[p] == UInt8.ofNat m) = (((s[p]).toNat : Int) == (m : Int)) := fun m hm => by
      rw [Bool.eq_iff_iff]
      simp only [beq_iff_eq, ← UInt8.toNat_inj, UInt8.toNat_ofNat']
      omega
    exact congr (congrArg _ (e 0 (by omega))) (e 47 (by omega))
  · have ha' : 128 ≤ (s[p]'h).toNat := by omega
    obtain ⟨h1, h2⟩ := decode_high s p h ha'
    have e0 : (((Utf8.decode s p).1 : Int) == 0) = false := by simp; omega
    have e1 : (((Utf8.decode s p).1 : Int) == 47) = false := by simp; omega
    rw [e0, e1]
    simp only [Bool.or_self, Bool.false_or]
    refine badB_run s p _ fun k hk => ?_
    by_cases hk0 : k = 0
    · subst hk0; exact ⟨h, ha'⟩
    · exact decode_skip s p h ha' k (by omega) hk
/-- One byte of a name. -/
theorem badB_byte (s : ByteArray) (i : Int) (h0 : 0 ≤ i) (h1 : i < s.size) :
    badB s i.toNat = (((byteAt s i).toNat : Int) == 0 || ((byteAt s i).toNat : Int) == 47 || badB s (i + 1).toNat) := by
  have h : i.toNat < s.size := by omega
  rw [badB_cons s i.toNat h]
  have e : byteAt s i = s[i.toNat] := by simp [byteAt, h]
  rw [e, show (i + 1).toNat = i.toNat + 1 from by omega]
  congr 1
  unfold badC
  have e : ∀ m : Nat, m < 256 → (s[i.toNat] == UInt8.ofNat m) = (((s[i.toNat]).toNat : Int) == (m : Int)) := fun m hm => by
    rw [Bool.eq_iff_iff]
    simp only [beq_iff_eq, ← UInt8.toNat_inj, UInt8.toNat_ofNat']
    omega
  exact congr (congrArg _ (e 0 (by omega))) (e 47 (by omega))
end Go.LmN

/- Plain facts on paths: how one is cut, and put together. General: no program in sight. -/
namespace Go.LmN
open Go.Lm
open Go Go.RowKit

def sl : ByteArray := ⟨#[47]⟩
/-- strings.Split at a slash. -/
def partsB (s : ByteArray) : List ByteArray := Lib.splitB sl 0 (Lib.countB s sl) s
def restB (s : ByteArray) : ByteArray := ⟨(Lib.trimPrefix s.data.toList [47]).toArray⟩
def startsB (s : ByteArray) : Bool := Lib.hasPrefix s.data.toList [47]
def emptyB (s : ByteArray) : Bool := s.toList == (⟨#[]⟩ : ByteArray).toList
def hereB (s : ByteArray) : Bool := s.toList == (⟨#[46]⟩ : ByteArray).toList
def aboveB (s : ByteArray) : Bool := s.toList == (⟨#[46, 46]⟩ : ByteArray).toList
/-- What Split does with the parts. -/
def splitGo : List ByteArray → List ByteArray → Bool → List ByteArray × Bool × Int
  | [], acc, dir => (acc, dir, 0)
  | s :: r, acc, _ => if emptyB s || hereB s then splitGo r acc true else if aboveB s then splitGo r (acc ++ [s]) true else if validN s != 0 then ([], false, validN s) else splitGo r (acc ++ [s]) false
/-- Split: names, whether it leads to a directory, what is wrong. -/
def splitN (s : ByteArray) : List ByteArray × Bool × Int :=
  if (s.size : Int) > 1000 then ([], false, 23) else if !startsB s then ([], false, 22) else splitGo (partsB (restB s)) [] false

theorem extract_size_le (s : ByteArray) (a b : Nat) : (s.extract a b).size ≤ s.size := by
  rw [ByteArray.size_extract]; omega
theorem splitB_size (sep : ByteArray) (save : Nat) : ∀ (k : Nat) (s x : ByteArray), x ∈ Lib.splitB sep save k s → x.size ≤ s.size
  | 0, s, x, h => by
    simp only [Lib.splitB, List.mem_singleton] at h
    rw [h]; exact Nat.le_refl _
  | k + 1, s, x, h => by
    unfold Lib.splitB at h
    split at h
    · simp only [List.mem_singleton] at h
      rw [h]; exact Nat.le_refl _
    · rcases List.mem_cons.1 h with h | h
      · rw [h]; exact extract_size_le _ _ _
      · exact Nat.le_trans (splitB_size sep save k _ x h) (extract_size_le _ _ _)
theorem partsB_size {s x : ByteArray} (h : x ∈ partsB s) : x.size ≤ s.size := splitB_size _ _ _ _ _ h
theorem partsB_length (s : ByteArray) : (partsB s).length = Lib.countB s sl + 1 := Lib.splitB_all sl (by decide) 0 _ s rfl
theorem partsB_len_le (s : ByteArray) : (partsB s).length ≤ s.size + 1 := by
  rw [partsB_length]
  have := Lib.countB_le sl (by decide) s.size s (Nat.le_refl _)
  omega
theorem restB_size (s : ByteArray) : (restB s).size ≤ s.size := by
  rw [size_list s]
  show (Lib.trimPrefix s.data.toList [47]).toArray.size ≤ _
  rw [List.size_toArray]
  unfold Lib.trimPrefix
  split
  · rw [List.length_drop]; omega
  · exact Nat.le_refl _
section
variable {ps acc : List ByteArray} {dir : Bool} {k : Int} {X : List ByteArray × Bool × Int}
theorem go_skip_ (h0 : 0 ≤ k) (h1 : k < ps.length) (he : (emptyB (nth ps k) || hereB (nth ps k)) = true) (hc : splitGo (ps.drop k.toNat) acc dir = X) : splitGo (ps.drop (k + 1).toNat) acc true = X := by
  rw [drop_nth h0 h1] at hc
  simp only [splitGo, he, if_true] at hc; exact hc
theorem go_above (h0 : 0 ≤ k) (h1 : k < ps.length) (he : emptyB (nth ps k) = false) (hh : hereB (nth ps k) = false) (ha : aboveB (nth ps k) = true) (hc : splitGo (ps.drop k.toNat) acc dir = X) : splitGo (ps.drop (k + 1).toNat) (acc ++ [nth ps k]) true = X := by
  rw [drop_nth h0 h1] at hc
  simp only [splitGo, he, hh, ha, Bool.or_self, Bool.false_eq_true, if_false, if_true] at hc; exact hc
theorem go_bad (h0 : 0 ≤ k) (h1 : k < ps.length) (he : emptyB (nth ps k) = false) (hh : hereB (nth ps k) = false) (ha : aboveB (nth ps k) = false) (hv : (validN (nth ps k) != 0) = true) (hc : splitGo (ps.drop k.toNat) acc dir = X) : X = ([], false, validN (nth ps k)) := by
  rw [drop_nth h0 h1] at hc
  simp only [splitGo, he, hh, ha, hv, Bool.or_self, Bool.false_eq_true, if_false, if_true] at hc; exact hc.symm
theorem go_good (h0 : 0 ≤ k) (h1 : k < ps.length) (he : emptyB (nth ps k) = false) (hh : hereB (nth ps k) = false) (ha : aboveB (nth ps k) = false) (hv : (validN (nth ps k) != 0) = false) (hc : splitGo (ps.drop k.toNat) acc dir = X) : splitGo (ps.drop (k + 1).toNat) (acc ++ [nth ps k]) false = X := by
  rw [drop_nth h0 h1] at hc
  simp only [splitGo, he, hh, ha, hv, Bool.or_self, Bool.false_eq_true, if_false] at hc; exact hc
theorem go_fin (h1 : ¬ k < ps.length) (hc : splitGo (ps.drop k.toNat) acc dir = X) : X = (acc, dir, 0) := by
  rw [drop_end h1] at hc; exact hc.symm
end
theorem splitN_long {s : ByteArray} (h : (s.size : Int) > 1000) : splitN s = ([], false, 23) := if_pos h
theorem splitN_no {s : ByteArray} (h : ¬ (s.size : Int) > 1000) (h2 : (!startsB s) = true) : splitN s = ([], false, 22) := by unfold splitN; rw [if_neg h, if_pos h2]
theorem splitN_go {s : ByteArray} (h : ¬ (s.size : Int) > 1000) (h2 : (!startsB s) = false) : splitN s = splitGo (partsB (restB s)) [] false := by unfold splitN; rw [if_neg h, if_neg (by rw [h2]; simp)]
end Go.LmN

/- The order of rows of names: plain facts. General: no program in sight. -/
namespace Go.LmN
open Go.Lm
open Go Go.RowKit

theorem bl_cons (a b : UInt8) (x y : List UInt8) : Op.bytesLess (a :: x) (b :: y) = (decide (a < b) || (a == b && Op.bytesLess x y)) := rfl
theorem bl_irr : ∀ x : List UInt8, Op.bytesLess x x = false
  | [] => rfl
  | a :: x => by rw [bl_cons, bl_irr x]; simp
theorem u8_lt_irr {a b : UInt8} (h : a < b) (h2 : b < a) : False := absurd (UInt8.lt_trans h h2) (UInt8.lt_irrefl a)
theorem u8_tri (a b : UInt8) : a < b ∨ a = b ∨ b < a := by
  rcases UInt8.lt_or_le a b with h | h
  · exact .inl h
  · rcases UInt8.lt_or_eq_of_le h with h | h
    · exact .inr (.inr h)
    · exact .inr (.inl h.symm)
theorem bl_tri : ∀ x y : List UInt8, Op.bytesLess x y = true ∨ x = y ∨ Op.bytesLess y x = true
  | [], [] => .inr (.inl rfl)
  | [], _ :: _ => .inl rfl
  | _ :: _, [] => .inr (.inr rfl)
  | a :: x, b :: y => by
    rw [bl_cons, bl_cons]
    rcases u8_tri a b with h | h | h
    · exact .inl (by simp [h])
    · subst h
      rcases bl_tri x y with k | k | k
      · exact .inl (by simp [k])
      · exact .inr (.inl (by rw [k]))
      · exact .inr (.inr (by simp [k]))
    · exact .inr (.inr (by simp [h]))
theorem bl_trans : ∀ {x y z : List UInt8}, Op.bytesLess x y = true → Op.bytesLess y z = true → Op.bytesLess x z = true
  | _, [], _, h, _ => by simp [Op.bytesLess] at h
  | _, _ :: _, [], _, k => by simp [Op.bytesLess] at k
  | [], _ :: _, _ :: _, _, _ => rfl
  | a :: x, b :: y, c :: z, h, k => by
    rw [bl_cons] at *
    simp only [Bool.or_eq_true, Bool.and_eq_true, decide_eq_true_eq, beq_iff_eq] at *
    rcases h with h | ⟨rfl, h⟩
    · rcases k with k | ⟨rfl, k⟩
      · exact .inl (UInt8.lt_trans h k)
      · exact .inl h
    · rcases k with k | ⟨rfl, k⟩
      · exact .inl k
      · exact .inr ⟨rfl, bl_trans h k⟩
theorem bl_asymm {x y : List UInt8} (h : Op.bytesLess x y = true) : Op.bytesLess y x = false := by
  cases k : Op.bytesLess y x with
  | false => rfl
  | true => have := bl_trans h k; rw [bl_irr] at this; cases this

abbrev Row := List (List UInt8)
def lessK : Row → Row → Bool
  | [], [] => false
  | [], _ :: _ => true
  | _ :: _, [] => false
  | a :: as, b :: bs => Op.bytesLess a b || (a == b && lessK as bs)
def key (a : List ByteArray) : Row := a.map ByteArray.toList
theorem lessL_key : ∀ a b : List ByteArray, lessL a b = lessK (key a) (key b)
  | [], [] => rfl
  | [], _ :: _ => rfl
  | _ :: _, [] => rfl
  | a :: as, b :: bs => by
    show (if !eqB a b then ltB a b else lessL as bs) = (Op.bytesLess a.toList b.toList || (a.toList == b.toList && lessK (key as) (key bs)))
    rw [lessL_key as bs]
    cases h : eqB a b with
    | false => have h' : (a.toList == b.toList) = false := h; rw [h']; simp [ltB]
    | true =>
      have h' : (a.toList == b.toList) = true := h
      have h2 : a.toList = b.toList := by simpa using h'
      rw [h2, bl_irr]; simp
theorem sameL_key : ∀ a b : List ByteArray, sameL a b = decide (key a = key b)
  | [], [] => rfl
  | [], _ :: _ => rfl
  | _ :: _, [] => rfl
  | a :: as, b :: bs => by
    show (eqB a b && sameL as bs) = decide (a.toList :: key as = b.toList :: key bs)
    rw [sameL_key as bs]
    have : eqB a b = decide (a.toList = b.toList) := by unfold eqB; rw [Bool.eq_iff_iff]; simp
    rw [this, Bool.eq_iff_iff]; simp
theorem cmpL_key : ∀ a b : List ByteArray, decide (cmpL a b < 0) = lessL a b
  | [], [] => rfl
  | [], _ :: _ => rfl
  | _ :: _, [] => rfl
  | a :: as, b :: bs => by
    show decide ((if cmpB a b != 0 then cmpB a b else cmpL as bs) < 0) = (if !eqB a b then ltB a b else lessL as bs)
    rw [← cmpL_key as bs]
    have hl : ltB a b = true → eqB a b = false := fun h => by
      cases k : eqB a b with
      | false => rfl
      | true =>
        have k' : a.toList = b.toList := by simpa [eqB] using k
        unfold ltB at h; rw [k', bl_irr] at h; cases h
    unfold cmpB
    cases h1 : ltB a b with
    | true => rw [hl h1]; rfl
    | false => cases h2 : eqB a b <;> simp
theorem lessK_irr : ∀ a : Row, lessK a a = false
  | [] => rfl
  | a :: as => by simp [lessK, bl_irr, lessK_irr as]
theorem lessK_tri : ∀ a b : Row, lessK a b = true ∨ a = b ∨ lessK b a = true
  | [], [] => .inr (.inl rfl)
  | [], _ :: _ => .inl rfl
  | _ :: _, [] => .inr (.inr rfl)
  | a :: as, b :: bs => by
    simp only [lessK]
    rcases bl_tri a b with h | h | h
    · exact .inl (by simp [h])
    · subst h
      rcases lessK_tri as bs with k | k | k
      · exact .inl (by simp [k])
      · exact .inr (.inl (by rw [k]))
      · exact .inr (.inr (by simp [k]))
    · exact .inr (.inr (by simp [h]))
theorem lessK_trans : ∀ {x y z : Row}, lessK x y = true → lessK y z = true → lessK x z = true
  | [], [], _, h, _ => by simp [lessK] at h
  | _ :: _, [], _, h, _ => by simp [lessK] at h
  | _, _ :: _, [], _, k => by simp [lessK] at k
  | [], _ :: _, _ :: _, _, _ => rfl
  | a :: x, b :: y, c :: z, h, k => by
    simp only [lessK, Bool.or_eq_true, Bool.and_eq_true, beq_iff_eq] at *
    rcases h with h | ⟨rfl, h⟩
    · rcases k with k | ⟨rfl, k⟩
      · exact .inl (bl_trans h k)
      · exact .inl h
    · rcases k with k | ⟨rfl, k⟩
      · exact .inl k
      · exact .inr ⟨rfl, lessK_trans h k⟩
theorem lessK_asymm {x y : Row} (h : lessK x y = true) : lessK y x = false := by
  cases k : lessK y x with
  | false => rfl
  | true => have := lessK_trans h k; rw [lessK_irr] at this; cases this
theorem lessK_pre : ∀ (b t : Row), t ≠ [] → lessK b (b ++ t) = true
  | [], [], h => absurd rfl h
  | [], _ :: _, _ => rfl
  | a :: b, t, h => by simp [lessK, lessK_pre b t h]
theorem between : ∀ {b t c : Row}, lessK b c = true → lessK c (b ++ t) = true → ∃ u, u ≠ [] ∧ c = b ++ u
  | [], t, [], h, _ => by simp [lessK] at h
  | [], t, y :: c, _, _ => ⟨y :: c, by simp, rfl⟩
  | x :: b, t, [], h, _ => by simp [lessK] at h
  | x :: b, t, y :: c, h, k => by
    simp only [lessK, List.cons_append, Bool.or_eq_true, Bool.and_eq_true, beq_iff_eq] at *
    rcases h with h | ⟨rfl, h⟩
    · rcases k with k | ⟨rfl, k⟩
      · have := bl_asymm h; rw [k] at this; cases this
      · rw [bl_irr] at h; cases h
    · rcases k with k | ⟨_, k⟩
      · rw [bl_irr] at k; cases k
      · obtain ⟨u, hu, hc⟩ := between h k
        exact ⟨u, hu, by rw [hc]⟩
theorem belowL_key {l r : List ByteArray} : belowL l r = true ↔ ∃ u, u ≠ [] ∧ key l = key r ++ u := by
  unfold belowL
  rw [Bool.and_eq_true, decide_eq_true_eq, sameL_key, decide_eq_true_eq]
  have hk : key (l.take r.length) = (key l).take (key r).length := by simp [key, List.map_take]
  have hl : (key l).length = l.length := by simp [key]
  have hr : (key r).length = r.length := by simp [key]
  rw [hk]
  constructor
  · rintro ⟨h1, h2⟩
    refine ⟨(key l).drop (key r).length, fun h3 => ?_, ?_⟩
    · have := List.drop_eq_nil_iff.1 h3; omega
    · rw [← h2]
      conv => lhs; rw [← List.take_append_drop (key r).length (key l)]
      congr 1
      rw [List.length_take]; congr 1; omega
  · rintro ⟨u, hu, h⟩
    have : 0 < u.length := List.length_pos_iff.2 hu
    constructor
    · have := congrArg List.length h; rw [List.length_append] at this; omega
    · rw [h, List.take_left]
/-- What the statement of any three rows asks. -/
theorem total_one (a b : List ByteArray) : (lessL a b = true ∧ lessL b a = false ∧ sameL a b = false) ∨ (lessL a b = false ∧ lessL b a = true ∧ sameL a b = false) ∨ (lessL a b = false ∧ lessL b a = false ∧ sameL a b = true) := by
  rw [lessL_key, lessL_key, sameL_key]
  rcases lessK_tri (key a) (key b) with h | h | h
  · exact .inl ⟨h, lessK_asymm h, decide_eq_false fun e => by rw [e, lessK_irr] at h; cases h⟩
  · exact .inr (.inr ⟨by rw [h, lessK_irr], by rw [h, lessK_irr], decide_eq_true h⟩)
  · exact .inr (.inl ⟨lessK_asymm h, h, decide_eq_false fun e => by rw [e, lessK_irr] at h; cases h⟩)
theorem total_chain {a b c : List ByteArray} (h : lessL a b = true) (k : lessL b c = true) : lessL a c = true := by
  rw [lessL_key] at *; exact lessK_trans h k
theorem total_under {a b : List ByteArray} (h : belowL a b = true) : lessL b a = true ∧ belowL b a = false := by
  have h' := h
  obtain ⟨u, hu, e⟩ := belowL_key.1 h
  refine ⟨by rw [lessL_key, e]; exact lessK_pre _ _ hu, ?_⟩
  cases k : belowL b a with
  | false => rfl
  | true =>
    obtain ⟨v, hv, e2⟩ := belowL_key.1 k
    have h1 := congrArg List.length e; have h2 := congrArg List.length e2
    rw [List.length_append] at h1 h2
    have : 0 < u.length := List.length_pos_iff.2 hu
    omega
theorem total_between {a b c : List ByteArray} (h : belowL a b = true) (k : lessL b c = true) (l : lessL c a = true) : belowL c b = true := by
  obtain ⟨u, hu, e⟩ := belowL_key.1 h
  rw [lessL_key] at k l
  rw [e] at l
  obtain ⟨v, hv, e2⟩ := between k l
  exact belowL_key.2 ⟨v, hv, e2⟩
theorem same_self (a : List ByteArray) : sameL a a = true := by rw [sameL_key]; simp
theorem less_self (a : List ByteArray) : lessL a a = false := by rw [lessL_key, lessK_irr]
theorem below_self (a : List ByteArray) : belowL a a = false := by
  cases h : belowL a a with
  | false => rfl
  | true => have := total_under h; rw [less_self] at this; cases this.1
end Go.LmN

/- How a path is cut at its slashes, byte by byte: plain facts. General: no program in sight. -/
namespace Go.LmN
open Go.Lm
open Go Go.RowKit

theorem idx_none : ∀ {p : List UInt8}, (47 : UInt8) ∉ p → Lib.index p [47] = -1
  | [], _ => rfl
  | b :: p, h => by
    have hb : (b == 47) = false := by simp only [List.mem_cons, not_or] at h; simpa using fun e => h.1 e.symm
    have hp : ([47] : List UInt8).isPrefixOf (b :: p) = false := by simp [List.isPrefixOf]; intro e; exact absurd e.symm (by simpa using hb)
    rw [Lib.index, hp, idx_none (fun e => h (List.mem_cons_of_mem _ e))]
    rfl
theorem idx_hit : ∀ {p : List UInt8} (q : List UInt8), (47 : UInt8) ∉ p → Lib.index (p ++ 47 :: q) [47] = (p.length : Nat)
  | [], q, _ => by rw [List.nil_append, Lib.index]; simp [List.isPrefixOf]
  | b :: p, q, h => by
    have hb : (b == 47) = false := by simp only [List.mem_cons, not_or] at h; simpa using fun e => h.1 e.symm
    have hp : ([47] : List UInt8).isPrefixOf (b :: (p ++ 47 :: q)) = false := by simp [List.isPrefixOf]; intro e; exact absurd e.symm (by simpa using hb)
    rw [List.cons_append, Lib.index, hp, idx_hit q (fun e => h (List.mem_cons_of_mem _ e))]
    rw [if_neg (by simp), if_neg (by simp)]
    simp
theorem split_none {p : List UInt8} (h : (47 : UInt8) ∉ p) : Lib.split p [47] = [p] := by
  unfold Lib.split
  rw [Lib.count_miss (idx_none h)]; rfl
theorem split_hit {p q : List UInt8} (h : (47 : UInt8) ∉ p) : Lib.split (p ++ 47 :: q) [47] = p :: Lib.split q [47] := by
  unfold Lib.split
  have hd : (p ++ 47 :: q).drop (p.length + 1) = q := by rw [List.drop_append]; simp
  rw [Lib.count_hit (by simp) (idx_hit q h), show p.length + ([47] : List UInt8).length = p.length + 1 from rfl, hd, Nat.add_comm 1, Lib.splitK, idx_hit q h, if_neg (by simp)]
  rw [Int.toNat_natCast, Nat.add_zero, show p.length + ([47] : List UInt8).length = p.length + 1 from rfl, hd]
  simp

theorem ba_ext {a b : ByteArray} (h : a.data.toList = b.data.toList) : a = b := by
  cases a with | mk a => cases b with | mk b => simp at h; rw [h]
theorem bas_ext : ∀ {a b : List ByteArray}, a.map (·.data.toList) = b.map (·.data.toList) → a = b
  | [], [], _ => rfl
  | [], _ :: _, h => by simp at h
  | _ :: _, [], h => by simp at h
  | x :: a, y :: b, h => by
    simp only [List.map_cons, List.cons.injEq] at h
    rw [ba_ext h.1, bas_ext h.2]
theorem parts_data (x : ByteArray) : (partsB x).map (·.data.toList) = Lib.split x.data.toList [47] := by
  unfold partsB
  rw [Lib.splitB_data]; rfl
theorem parts_none {x : ByteArray} (h : (47 : UInt8) ∉ x.data.toList) : partsB x = [x] := bas_ext (by rw [parts_data, split_none h]; rfl)
theorem parts_hit {x p q : ByteArray} (h : (47 : UInt8) ∉ p.data.toList) (e : x.data.toList = p.data.toList ++ 47 :: q.data.toList) : partsB x = p :: partsB q :=
  bas_ext (by rw [parts_data, e, split_hit h, List.map_cons, parts_data])
theorem parts_ne (x : ByteArray) : partsB x ≠ [] := fun h => by have := partsB_length x; rw [h] at this; simp at this

def noSl (s : ByteArray) (a k : Int) : Prop := (47 : UInt8) ∉ (s.extract a.toNat k.toNat).data.toList
theorem ext_list (s : ByteArray) (a b : Nat) : (s.extract a b).data.toList = (s.data.toList.drop a).take (b - a) := by
  rw [Lib.extract_data]
theorem noSl_nil (s : ByteArray) (a : Int) : noSl s a a := by
  unfold noSl; rw [ext_list]; simp
theorem byteAt_list {s : ByteArray} {k : Int} (h0 : 0 ≤ k) (h1 : k < s.size) : s.data.toList[k.toNat]? = some (byteAt s k) := by
  have hk : k.toNat < s.size := by omega
  have : s[k.toNat]? = some s[k.toNat] := by simp [hk]
  unfold byteAt
  rw [this]
  have h2 : k.toNat < s.data.size := hk
  rw [Array.getElem?_toList, Array.getElem?_eq_getElem h2]
  rfl
theorem ext_snoc {s : ByteArray} {a k : Int} (h0 : 0 ≤ a) (h1 : a ≤ k) (h2 : k < s.size) : (s.extract a.toNat (k + 1).toNat).data.toList = (s.extract a.toNat k.toNat).data.toList ++ [byteAt s k] := by
  rw [ext_list, ext_list]
  have e : (k + 1).toNat - a.toNat = (k.toNat - a.toNat) + 1 := by omega
  have hb := byteAt_list (by omega : 0 ≤ k) h2
  rw [e, List.take_add_one]
  congr 1
  rw [List.getElem?_drop, show a.toNat + (k.toNat - a.toNat) = k.toNat by omega, hb]; rfl
theorem noSl_step {s : ByteArray} {a k : Int} (h0 : 0 ≤ a) (h1 : a ≤ k) (h2 : k < s.size) (hn : noSl s a k) (hb : ((byteAt s k).toNat : Int) ≠ 47) : noSl s a (k + 1) := by
  unfold noSl at *
  rw [ext_snoc h0 h1 h2]
  intro h
  rcases List.mem_append.1 h with h | h
  · exact hn h
  · simp only [List.mem_singleton] at h
    exact hb (by rw [← h]; rfl)
def dirB (s : ByteArray) : Bool := emptyB s || hereB s || aboveB s
theorem splitGo_dir {ps acc : List ByteArray} (h : ps ≠ []) (d d' : Bool) : splitGo ps acc d = splitGo ps acc d' := by
  cases ps with
  | nil => exact absurd rfl h
  | cons p ps => rfl
/-- What is left to do at place k, the part in hand begun at a. -/
def refGo (s : ByteArray) (a k : Int) (acc : List ByteArray) (last : ByteArray) : List ByteArray × Bool × Int :=
  if k ≤ s.size then splitGo (partsB (s.extract a.toNat s.size)) acc (dirB last) else (acc, dirB last, 0)
section
variable {s last : ByteArray} {a k : Int} {acc : List ByteArray} {R : List ByteArray × Bool × Int}
theorem ref_next (h : k < s.size) (hc : refGo s a k acc last = R) : refGo s a (k + 1) acc last = R := by
  unfold refGo at *; rw [if_pos (by omega)] at *; exact hc
theorem ref_fin (h : ¬ k ≤ s.size) (hc : refGo s a k acc last = R) : R = (acc, dirB last, 0) := by
  unfold refGo at hc; rw [if_neg h] at hc; exact hc.symm
/-- The part that ends here, and what is behind it. -/
theorem ref_cut (h0 : 0 ≤ a) (h1 : a ≤ k) (h2 : k ≤ s.size) (hs : k < s.size → ((byteAt s k).toNat : Int) = 47) (hn : noSl s a k) (hc : refGo s a k acc last = R) :
    ∃ T : List ByteArray, R = splitGo (s.extract a.toNat k.toNat :: T) acc (dirB last) ∧ ∀ acc' last', refGo s (k + 1) (k + 1) acc' last' = splitGo T acc' (dirB last') := by
  unfold refGo at hc
  rw [if_pos h2] at hc
  by_cases hk : k < s.size
  · refine ⟨partsB (s.extract (k + 1).toNat s.size), ?_, fun acc' last' => by unfold refGo; rw [if_pos (by omega)]⟩
    rw [← hc, parts_hit hn (q := s.extract (k + 1).toNat s.size)]
    have hb := byteAt_list (by omega : 0 ≤ k) hk
    have h47 : byteAt s k = 47 := by have := hs hk; exact UInt8.toNat_inj.1 (by show (byteAt s k).toNat = 47; omega)
    rw [h47] at hb
    rw [ext_list, ext_list, ext_list]
    have hl : s.data.toList.length = s.size := (size_list s).symm
    rw [List.take_of_length_le (by rw [List.length_drop]; omega), List.take_of_length_le (l := List.drop (k + 1).toNat _) (by rw [List.length_drop]; omega)]
    have e1 : List.drop a.toNat s.data.toList = List.take (k.toNat - a.toNat) (List.drop a.toNat s.data.toList) ++ List.drop (k.toNat - a.toNat) (List.drop a.toNat s.data.toList) := (List.take_append_drop _ _).symm
    rw [e1]
    rw [List.take_append_of_le_length (by rw [List.length_take, List.length_drop]; omega), List.take_take, Nat.min_self, List.drop_drop, show a.toNat + (k.toNat - a.toNat) = k.toNat by omega]
    congr 1
    have hlt : k.toNat < s.data.toList.length := by omega
    rw [List.drop_eq_getElem_cons hlt]
    have e2 : s.data.toList[k.toNat] = 47 := by rw [List.getElem?_eq_getElem hlt] at hb; exact Option.some.inj hb
    rw [e2, show k.toNat + 1 = (k + 1).toNat by omega]
  · have e : k = s.size := by omega
    refine ⟨[], ?_, fun acc' last' => by unfold refGo; rw [if_neg (by omega)]; rfl⟩
    rw [← hc]
    have : s.extract a.toNat s.size = s.extract a.toNat k.toNat := by rw [e]; rfl
    rw [this, parts_none hn]
theorem ref_skip (h0 : 0 ≤ a) (h1 : a ≤ k) (h2 : k ≤ s.size) (hs : k < s.size → ((byteAt s k).toNat : Int) = 47) (hn : noSl s a k) (he : (emptyB (s.extract a.toNat k.toNat) || hereB (s.extract a.toNat k.toNat)) = true) (hc : refGo s a k acc last = R) :
    refGo s (k + 1) (k + 1) acc (s.extract a.toNat k.toNat) = R := by
  obtain ⟨T, h3, h4⟩ := ref_cut h0 h1 h2 hs hn hc
  rw [h4, h3]
  simp only [splitGo, he, if_true]
  unfold dirB; rw [he]; rfl
theorem ref_above (h0 : 0 ≤ a) (h1 : a ≤ k) (h2 : k ≤ s.size) (hs : k < s.size → ((byteAt s k).toNat : Int) = 47) (hn : noSl s a k) (he : emptyB (s.extract a.toNat k.toNat) = false) (hh : hereB (s.extract a.toNat k.toNat) = false) (ha : aboveB (s.extract a.toNat k.toNat) = true) (hc : refGo s a k acc last = R) :
    refGo s (k + 1) (k + 1) (acc ++ [s.extract a.toNat k.toNat]) (s.extract a.toNat k.toNat) = R := by
  obtain ⟨T, h3, h4⟩ := ref_cut h0 h1 h2 hs hn hc
  rw [h4, h3]
  simp only [splitGo, he, hh, ha, if_true, Bool.or_self, Bool.false_eq_true, if_false]
  unfold dirB; rw [he, hh, ha]; rfl
theorem ref_bad (h0 : 0 ≤ a) (h1 : a ≤ k) (h2 : k ≤ s.size) (hs : k < s.size → ((byteAt s k).toNat : Int) = 47) (hn : noSl s a k) (he : emptyB (s.extract a.toNat k.toNat) = false) (hh : hereB (s.extract a.toNat k.toNat) = false) (ha : aboveB (s.extract a.toNat k.toNat) = false) (hv : (validN (s.extract a.toNat k.toNat) != 0) = true) (hc : refGo s a k acc last = R) :
    R = ([], false, validN (s.extract a.toNat k.toNat)) := by
  obtain ⟨T, h3, h4⟩ := ref_cut h0 h1 h2 hs hn hc
  rw [h3]
  simp only [splitGo, he, hh, ha, hv, if_true, Bool.or_self, Bool.false_eq_true, if_false]
theorem ref_good (h0 : 0 ≤ a) (h1 : a ≤ k) (h2 : k ≤ s.size) (hs : k < s.size → ((byteAt s k).toNat : Int) = 47) (hn : noSl s a k) (he : emptyB (s.extract a.toNat k.toNat) = false) (hh : hereB (s.extract a.toNat k.toNat) = false) (ha : aboveB (s.extract a.toNat k.toNat) = false) (hv : (validN (s.extract a.toNat k.toNat) != 0) = false) (hc : refGo s a k acc last = R) :
    refGo s (k + 1) (k + 1) (acc ++ [s.extract a.toNat k.toNat]) (s.extract a.toNat k.toNat) = R := by
  obtain ⟨T, h3, h4⟩ := ref_cut h0 h1 h2 hs hn hc
  rw [h4, h3]
  simp only [splitGo, he, hh, ha, hv, if_false, Bool.or_self, Bool.false_eq_true]
  unfold dirB; rw [he, hh, ha]; rfl
end
theorem eqB_data (a b : ByteArray) : eqB a b = (a.data.toList == b.data.toList) := by unfold eqB; rw [Lib.toList_data, Lib.toList_data]
theorem emptyB_data (s : ByteArray) : emptyB s = (s.data.toList == []) := eqB_data s ⟨#[]⟩
theorem starts_empty {s : ByteArray} (h : emptyB s = true) : startsB s = false := by
  rw [emptyB_data] at h
  have e : s.data.toList = [] := by simpa using h
  unfold startsB
  rw [e]; rfl
theorem starts_byte {s : ByteArray} (h : emptyB s = false) : startsB s = (((byteAt s 0).toNat : Int) == 47) ∧ 0 < s.size := by
  rw [emptyB_data] at h
  have hp : 0 < s.size := by
    rw [size_list]
    cases e : s.data.toList with
    | nil => rw [e] at h; simp at h
    | cons a l => simp
  refine ⟨?_, hp⟩
  have hb := byteAt_list (s := s) (k := 0) (by omega) (by omega)
  unfold startsB Lib.hasPrefix
  cases e : s.data.toList with
  | nil => rw [e] at hb; simp at hb
  | cons a l =>
    rw [e] at hb
    have ha : a = byteAt s 0 := by simpa using hb
    rw [← ha, Bool.eq_iff_iff]
    simp only [List.isPrefixOf, Bool.and_true, beq_iff_eq]
    constructor
    · intro h; rw [← h]; rfl
    · intro h; exact UInt8.toNat_inj.1 (by show 47 = a.toNat; omega)
theorem rest_ext {s : ByteArray} (h : startsB s = true) : restB s = s.extract 1 s.size := by
  apply ba_ext
  unfold startsB at h
  rw [ext_list]
  show (Lib.trimPrefix s.data.toList [47]) = _
  unfold Lib.trimPrefix
  rw [if_pos h]
  rw [List.take_of_length_le (by rw [List.length_drop, ← size_list]; omega)]; rfl
theorem ref_init {s : ByteArray} (hl : ¬ (s.size : Int) > 1000) (he : emptyB s = false) (h : (((byteAt s 0).toNat : Int) != 47) = false) : refGo s 1 1 [] ⟨#[]⟩ = splitN s := by
  obtain ⟨h1, h2⟩ := starts_byte he
  have hs : startsB s = true := by rw [h1]; simpa using h
  rw [splitN_go hl (by rw [hs]; rfl)]
  unfold refGo
  rw [if_pos (by omega), rest_ext hs]
  exact splitGo_dir (parts_ne _) _ _
theorem ref_no {s : ByteArray} (hl : ¬ (s.size : Int) > 1000) (h : emptyB s = true ∨ (emptyB s = false ∧ (((byteAt s 0).toNat : Int) != 47) = true)) : splitN s = ([], false, 22) := by
  refine splitN_no hl ?_
  rcases h with h | ⟨h1, h2⟩
  · rw [starts_empty h]; rfl
  · rw [(starts_byte h1).1]; simpa using h2
end Go.LmN

/- How names are put together to a path: plain facts. General: no program in sight. -/
namespace Go.LmN
open Go.Lm
open Go Go.RowKit

theorem X_add_str {P : Program} {w : World} {ρ : Operand → Value} {o : Oper} {x y : Operand} {t u : TypeId} {a b : ByteArray} (h : a.size + b.size ≤ 9223372036854775807) (ho : o.op = .binOp .add t x y u) (hx : ρ x = .string a) (hy : ρ y = .string b) :
    (execOp ρ o).run P w = .ok (.value (.string (a ++ b))) w := by
  have := run_string_add_sum (P := P) w a b h
  have h2 : (eqGuard .add t x y (.string a) (.string b)).run P w = .ok () w := by simp [eqGuard]
  have h3 : (binOp .add t (.string a) (.string b)).run P w = .ok (.string (a ++ b)) w := by rw [binOp_string_add]; exact this
  simp [execOp, ho, hx, hy, h2, h3]

/-- Each name behind a slash. -/
def jn : ByteArray → List ByteArray → ByteArray
  | acc, [] => acc
  | acc, x :: r => jn (acc ++ ⟨#[47]⟩ ++ x) r
def joinN (l : List ByteArray) : ByteArray := if l.length = 0 then ⟨#[47]⟩ else jn ⟨#[]⟩ l
def tails (l : List ByteArray) : List UInt8 := (l.map fun x => 47 :: x.data.toList).flatten
theorem app_data (a b : ByteArray) : (a ++ b).data.toList = a.data.toList ++ b.data.toList := by simp [ByteArray.data_append]
theorem jn_data : ∀ (l : List ByteArray) (acc : ByteArray), (jn acc l).data.toList = acc.data.toList ++ tails l
  | [], acc => by simp [jn, tails]
  | x :: r, acc => by
    show (jn (acc ++ ⟨#[47]⟩ ++ x) r).data.toList = _
    rw [jn_data r, app_data, app_data]
    simp [tails]
theorem joinN_data (l : List ByteArray) : (joinN l).data.toList = if l.length = 0 then [47] else tails l := by
  unfold joinN
  split
  · rfl
  · rw [jn_data]; rfl
theorem tails_lib (l : List ByteArray) (h : l.length ≠ 0) : tails l = 47 :: Lib.join (l.map (·.data.toList)) [47] := by
  cases l with
  | nil => simp at h
  | cons x r =>
    rw [List.map_cons, Lib.join_cons]
    have : ∀ r : List ByteArray, tails r = Lib.joinTail [47] (r.map (·.data.toList)) := fun r => by simp [tails, Lib.joinTail]; rfl
    rw [← this]
    simp [tails]
theorem joinN_lib (l : List ByteArray) : (⟨#[47]⟩ : ByteArray) ++ ⟨(Lib.join (l.map (·.data.toList)) [47]).toArray⟩ = joinN l := by
  apply ba_ext
  rw [app_data, joinN_data]
  split
  · rename_i h
    obtain rfl := List.eq_nil_of_length_eq_zero h
    simp [Lib.join_nil]
  · rename_i h
    rw [tails_lib l h]
    simp
theorem jn_size (l : List ByteArray) (acc : ByteArray) : (jn acc l).size = acc.size + (tails l).length := by
  rw [size_list, jn_data, List.length_append, ← size_list]
theorem app_size (a b : ByteArray) : (a ++ b).size = a.size + b.size := by rw [size_list, app_data, List.length_append, ← size_list, ← size_list]
section
variable {l : List ByteArray} {k : Int} {acc R : ByteArray}
theorem jn_next (h0 : 0 ≤ k) (h1 : k < l.length) (hc : jn acc (l.drop k.toNat) = R) : jn (acc ++ ⟨#[47]⟩ ++ nth l k) (l.drop (k + 1).toNat) = R := by
  rw [drop_nth h0 h1] at hc; exact hc
theorem jn_fin (h1 : ¬ k < l.length) (hc : jn acc (l.drop k.toNat) = R) : acc = R := by
  rw [drop_end h1] at hc; exact hc
theorem jn_bound (h0 : 0 ≤ k) (h1 : k < l.length) (hc : jn acc (l.drop k.toNat) = R) : acc.size + 1 + (nth l k).size ≤ R.size := by
  have := jn_next h0 h1 hc
  rw [← this, jn_size, app_size, app_size]
  show acc.size + 1 + (nth l k).size ≤ acc.size + 1 + (nth l k).size + _
  omega
end
theorem join_len (l : List ByteArray) : (Lib.join (l.map (·.data.toList)) [47]).length ≤ (joinN l).size := by
  rw [← joinN_lib, app_size]
  have : (⟨(Lib.join (l.map (·.data.toList)) [47]).toArray⟩ : ByteArray).size = (Lib.join (l.map (·.data.toList)) [47]).length := by rw [size_list]
  omega
theorem join_len1 (l : List ByteArray) : (joinN l).size = 1 + (Lib.join (l.map (·.data.toList)) [47]).length := by
  rw [← joinN_lib, app_size]
  have : (⟨(Lib.join (l.map (·.data.toList)) [47]).toArray⟩ : ByteArray).size = (Lib.join (l.map (·.data.toList)) [47]).length := by rw [size_list]
  rw [this]; rfl
theorem tails_le {m : Nat} : ∀ l : List ByteArray, (∀ x ∈ l, x.size ≤ m) → (tails l).length ≤ l.length * (m + 1)
  | [], _ => by simp [tails]
  | x :: r, h => by
    have h1 := tails_le r fun y hy => h y (List.mem_cons_of_mem _ hy)
    have h2 := h x List.mem_cons_self
    have : (tails (x :: r)).length = 1 + x.size + (tails r).length := by have := size_list x; simp [tails]; omega
    rw [this, List.length_cons, Nat.add_mul]; omega
theorem tails_ge : ∀ l : List ByteArray, l.length ≤ (tails l).length
  | [] => by simp [tails]
  | x :: r => by
    have h1 := tails_ge r
    have : (tails (x :: r)).length = 1 + x.size + (tails r).length := by have := size_list x; simp [tails]; omega
    rw [this, List.length_cons]; omega
theorem joinN_le {m : Nat} {l : List ByteArray} (h : ∀ x ∈ l, x.size ≤ m) : (joinN l).size ≤ 1 + l.length * (m + 1) := by
  rw [size_list, joinN_data]
  split
  · simp
  · have := tails_le l h; omega

/-- What the library's Join is asked for. -/
theorem join_argsM {g w : World} {v : Value} {l : List ByteArray} (h : Is g v l) (hs : Mono g w) (hl : l ≠ []) :
    ∃ bk o c, v = .slice (some ⟨bk, o, none⟩) l.length c ∧ (∀ (j : Nat) x, l[j]? = some x → w.cell? ⟨bk, o + j, none⟩ = some (.string x)) ∧ bk < w.heap.size ∧ l.length ≤ c := by
  rcases is_list.1 h with ⟨_, e⟩ | ⟨⟨bk, o, sp⟩, cap, hv, hc, _, hx⟩
  · exact absurd e hl
  · obtain ⟨x, r, rfl⟩ := List.exists_cons_of_ne_nil hl
    have hsp : sp = none := by
      obtain ⟨cs, h1, h2, _⟩ := hx 0 x rfl
      have k0 := h1 0 (.string x) (by rw [h2]; rfl)
      have e : (Addr.mk bk o sp).add (0 * GoRep.size ByteArray + 0) = ⟨bk, o, sp⟩ := by simp [Addr.add]
      rw [e] at k0
      unfold World.cell? at k0
      split at k0
      · split at k0
        · cases k0
        · rename_i hn; simpa using hn
      · cases k0
    subst hsp
    have key : ∀ (j : Nat) y, (x :: r)[j]? = some y → w.cell? ⟨bk, o + j, none⟩ = some (.string y) := fun j y hj => by
      obtain ⟨cs, h1, h2, _⟩ := hx j y hj
      have := h1 0 (.string y) (by rw [h2]; rfl)
      have e : (Addr.mk bk o none).add (j * GoRep.size ByteArray + 0) = ⟨bk, o + j, none⟩ := by
        simp [Addr.add, GoRep.size]
      rw [e] at this
      exact hs _ _ this
    exact ⟨bk, o, cap, hv, key, World.block_lt_of_cell? w _ (key 0 x rfl), hc⟩
theorem join_args {g w : World} {v : Value} {l : List ByteArray} (h : Is g v l) (hs : Sees g w) (hl : l ≠ []) :
    ∃ bk o c, v = .slice (some ⟨bk, o, none⟩) l.length c ∧ (∀ (j : Nat) x, l[j]? = some x → w.cell? ⟨bk, o + j, none⟩ = some (.string x)) ∧ bk < w.heap.size ∧ l.length ≤ c := join_argsM h hs.mono hl
end Go.LmN

/- A path put together of valid names is cut as it was: plain facts. General: no program in sight. -/
namespace Go.LmN
open Go.Lm
open Go Go.RowKit

theorem valid_facts {x : ByteArray} (h : validN x = 0) : x.size ≤ 255 ∧ emptyB x = false ∧ hereB x = false ∧ aboveB x = false ∧ (47 : UInt8) ∉ x.data.toList := by
  unfold validN at h
  split at h
  · cases h
  · rename_i hs
    split at h
    · cases h
    · rename_i hd
      simp only [Bool.or_eq_true, not_or, Bool.not_eq_true] at hd
      obtain ⟨h1, h2⟩ := hd
      unfold dots at h1
      simp only [Bool.or_eq_false_iff] at h1
      refine ⟨by omega, h1.1, h1.2.1, h1.2.2, fun hm => ?_⟩
      unfold badB at h2
      rw [List.drop_zero, List.any_eq_false] at h2
      exact absurd (h2 47 hm) (by decide)
theorem split_join : ∀ {l : List (List UInt8)}, l ≠ [] → (∀ x ∈ l, (47 : UInt8) ∉ x) → Lib.split (Lib.join l [47]) [47] = l
  | [], h, _ => absurd rfl h
  | [x], _, h => by rw [Lib.join_one, split_none (h x (by simp))]
  | x :: y :: r, _, h => by
    have e : Lib.join (x :: y :: r) [47] = x ++ 47 :: Lib.join (y :: r) [47] := by
      rw [Lib.join_cons, Lib.join_cons]; simp [Lib.joinTail]
    rw [e, split_hit (h x (by simp)), split_join (by simp) fun z hz => h z (List.mem_cons_of_mem _ hz)]
theorem split_join_tail : ∀ {l : List (List UInt8)}, l ≠ [] → (∀ x ∈ l, (47 : UInt8) ∉ x) → Lib.split (Lib.join l [47] ++ [47]) [47] = l ++ [[]]
  | [], h, _ => absurd rfl h
  | [x], _, h => by
    rw [Lib.join_one, split_hit (h x (by simp)), split_none (by simp)]; rfl
  | x :: y :: r, _, h => by
    have e : Lib.join (x :: y :: r) [47] ++ [47] = x ++ 47 :: (Lib.join (y :: r) [47] ++ [47]) := by
      rw [Lib.join_cons, Lib.join_cons]; simp [Lib.joinTail]
    rw [e, split_hit (h x (by simp)), split_join_tail (by simp) fun z hz => h z (List.mem_cons_of_mem _ hz)]; rfl
def allV (l : List ByteArray) : Prop := ∀ x ∈ l, validN x = 0
theorem go_all : ∀ {l : List ByteArray} {acc : List ByteArray} {d : Bool} (t : List ByteArray), allV l → splitGo (l ++ t) acc d = splitGo t (acc ++ l) (if l.length = 0 then d else false)
  | [], acc, d, t, _ => by simp
  | x :: l, acc, d, t, h => by
    obtain ⟨_, h1, h2, h3, _⟩ := valid_facts (h x (by simp))
    have hv := h x (by simp)
    rw [List.cons_append]
    simp only [splitGo, h1, h2, h3, hv, Bool.or_self, Bool.false_eq_true, if_false]
    simp only [bne_self_eq_false, Bool.false_eq_true, if_false]
    rw [go_all t fun y hy => h y (List.mem_cons_of_mem _ hy)]
    simp
theorem starts_of {s : ByteArray} {l : List UInt8} (h : s.data.toList = 47 :: l) : startsB s = true ∧ (restB s).data.toList = l := by
  have hs : startsB s = true := by unfold startsB; rw [h]; simp [Lib.hasPrefix, List.isPrefixOf]
  refine ⟨hs, ?_⟩
  show Lib.trimPrefix s.data.toList [47] = l
  unfold Lib.trimPrefix
  unfold startsB at hs
  rw [if_pos hs, h]; rfl
theorem parts_of {x : ByteArray} {l : List ByteArray} (h : Lib.split x.data.toList [47] = l.map (·.data.toList)) : partsB x = l := bas_ext (by rw [parts_data, h])
theorem back_one {l : List ByteArray} (hv : allV l) (hs : (joinN l).size ≤ 1000) : splitN (joinN l) = (l, ((l.length : Int) == 0), 0) := by
  have hd := joinN_data l
  by_cases hl : l.length = 0
  · obtain rfl := List.eq_nil_of_length_eq_zero hl
    decide +kernel
  · rw [if_neg hl, tails_lib l hl] at hd
    obtain ⟨h1, h2⟩ := starts_of hd
    rw [splitN_go (by omega) (by rw [h1]; rfl)]
    have : partsB (restB (joinN l)) = l := parts_of (by
      rw [h2, split_join (by simpa using hl)]
      intro x hx
      obtain ⟨y, hy, rfl⟩ := List.mem_map.1 hx
      exact (valid_facts (hv y hy)).2.2.2.2)
    rw [this]
    have := go_all (acc := []) (d := false) [] hv
    rw [List.append_nil] at this
    have hne : ((l.length : Int) == 0) = false := by simpa using hl
    rw [this, if_neg hl, hne]
    rfl
theorem back_two {l : List ByteArray} (hv : allV l) (hs : (joinN l).size < 1000) : splitN (joinN l ++ ⟨#[47]⟩) = (l, true, 0) := by
  have hd := joinN_data l
  have hz : (joinN l ++ ⟨#[47]⟩).size ≤ 1000 := by rw [app_size]; show (joinN l).size + 1 ≤ 1000; omega
  by_cases hl : l.length = 0
  · obtain rfl := List.eq_nil_of_length_eq_zero hl
    decide +kernel
  · rw [if_neg hl, tails_lib l hl] at hd
    have hd2 : (joinN l ++ ⟨#[47]⟩).data.toList = 47 :: (Lib.join (l.map (·.data.toList)) [47] ++ [47]) := by rw [app_data, hd]; rfl
    obtain ⟨h1, h2⟩ := starts_of hd2
    rw [splitN_go (by omega) (by rw [h1]; rfl)]
    have : partsB (restB (joinN l ++ ⟨#[47]⟩)) = l ++ [⟨#[]⟩] := parts_of (by
      rw [h2, split_join_tail (by simpa using hl)]
      · simp
      intro x hx
      obtain ⟨y, hy, rfl⟩ := List.mem_map.1 hx
      exact (valid_facts (hv y hy)).2.2.2.2)
    rw [this, go_all [⟨#[]⟩] hv]
    have he : emptyB ⟨#[]⟩ = true := by decide +kernel
    simp only [splitGo, he, Bool.true_or, if_true, List.nil_append]
theorem key_eq {p q : List ByteArray} : key p = key q ↔ p = q := by
  refine ⟨fun h => bas_ext ?_, fun h => by rw [h]⟩
  have e : ∀ l : List ByteArray, key l = l.map (·.data.toList) := fun l => by unfold key; exact List.map_congr_left fun x _ => Lib.toList_data x
  rw [e, e] at h; exact h
theorem nil_or {p : List ByteArray} (hp : allV p) (h : tails p = [47]) : False := by
  cases p with
  | nil => simp [tails] at h
  | cons x r =>
    obtain ⟨_, h1, _⟩ := valid_facts (hp x (by simp))
    rw [emptyB_data] at h1
    have e : tails (x :: r) = 47 :: (x.data.toList ++ tails r) := by simp [tails]
    rw [e] at h
    have e2 : x.data.toList ++ tails r = [] := by simpa using h
    have e3 : x.data.toList = [] := (List.append_eq_nil_iff.1 e2).1
    rw [e3] at h1; simp at h1
theorem join_inj {p q : List ByteArray} (hp : allV p) (hq : allV q) : ((joinN p).toList == (joinN q).toList) = sameL p q := by
  rw [Lib.toList_data, Lib.toList_data, sameL_key, Bool.eq_iff_iff]
  simp only [beq_iff_eq, decide_eq_true_eq]
  rw [key_eq]
  refine ⟨fun h => ?_, fun h => by rw [h]⟩
  rw [joinN_data, joinN_data] at h
  by_cases h1 : p.length = 0
  · rw [if_pos h1] at h
    by_cases h2 : q.length = 0
    · rw [List.eq_nil_of_length_eq_zero h1, List.eq_nil_of_length_eq_zero h2]
    · rw [if_neg h2] at h; exact (nil_or hq h.symm).elim
  · rw [if_neg h1] at h
    by_cases h2 : q.length = 0
    · rw [if_pos h2] at h; exact (nil_or hp h).elim
    · rw [if_neg h2, tails_lib p h1, tails_lib q h2] at h
      have e : Lib.join (p.map (·.data.toList)) [47] = Lib.join (q.map (·.data.toList)) [47] := by simpa using h
      have f : ∀ l : List ByteArray, allV l → ∀ x ∈ l.map (·.data.toList), (47 : UInt8) ∉ x := fun l hl x hx => by
        obtain ⟨y, hy, rfl⟩ := List.mem_map.1 hx
        exact (valid_facts (hl y hy)).2.2.2.2
      have s1 := split_join (l := p.map (·.data.toList)) (by simpa using h1) (f p hp)
      have s2 := split_join (l := q.map (·.data.toList)) (by simpa using h2) (f q hq)
      exact bas_ext (by rw [← s1, ← s2, e])
theorem allV_snoc {l : List ByteArray} {x : ByteArray} (h : allV l) (hx : (validN x == 0) = true) : allV (l ++ [x]) := fun y hy => by
  rcases List.mem_append.1 hy with hy | hy
  · exact h y hy
  · have : y = x := by simpa using hy
    rw [this]; exact eq_of_beq hx
theorem allV_take {l : List ByteArray} {k : Int} (h0 : 0 ≤ k) (h1 : k < l.length) (h : allV (l.take k.toNat)) (hv : (validN (nth l k) != 0) = false) : allV (l.take (k + 1).toNat) := by
  intro x hx
  rw [show (k + 1).toNat = k.toNat + 1 by omega, List.take_add_one] at hx
  rcases List.mem_append.1 hx with hx | hx
  · exact h x hx
  · have hk : k.toNat < l.length := by omega
    rw [List.getElem?_eq_getElem hk] at hx
    have e : x = l[k.toNat] := by simpa using hx
    rw [e, ← nth_eq hk]
    simpa using hv
theorem allV_all {l : List ByteArray} {k : Int} (h1 : ¬ k < l.length) (h : allV (l.take k.toNat)) : allV l := by
  rwa [List.take_of_length_le (by omega)] at h
theorem allV_size {l : List ByteArray} (h : allV l) (hl : l.length ≤ 30) : (joinN l).size ≤ 7681 := by
  have := joinN_le (m := 255) fun x hx => (valid_facts (h x hx)).1
  have h2 : l.length * (255 + 1) ≤ 30 * 256 := Nat.mul_le_mul hl (Nat.le_refl _)
  omega
end Go.LmN
