/- Plain facts on names: what is wrong with one. General: no program in sight. -/
import Derived.Test.YtnmaehdklmgfmaaLmName
import Derived.Test.YtnmaehdklmgfmaaLmOwn
namespace Go.Lm
open Go Go.RowKit

def badC (c : UInt8) : Bool := c == 0 || c == 47
/-- A byte from p on that no name has. -/
def badB (s : ByteArray) (p : Nat) : Bool := (s.data.toList.drop p).any badC
def dots (s : ByteArray) : Bool := s.toList == (⟨#[]⟩ : ByteArray).toList || (s.toList == (⟨#[46]⟩ : ByteArray).toList || s.toList == (⟨#[46, 46]⟩ : ByteArray).toList)
/-- What is wrong with a name. -/
def validN (s : ByteArray) : Int := if (s.size : Int) > 255 then 23 else if dots s || badB s 0 then 22 else 0

theorem size_list (s : ByteArray) : s.size = s.data.toList.length := by
  rw [Array.length_toList]; rfl
theorem get_list (s : ByteArray) (p : Nat) (h : p < s.size) : s.data.toList[p]'(by rw [← size_list]; exact h) = s[p] := by
  obtain ⟨d⟩ := s
  simp [ByteArray.getElem_eq_getElem_data]
theorem badB_cons (s : ByteArray) (p : Nat) (h : p < s.size) : badB s p = (badC s[p] || badB s (p + 1)) := by
  unfold badB
  rw [List.drop_eq_getElem_cons (by rw [← size_list]; exact h), List.any_cons, get_list s p h]
theorem badB_end (s : ByteArray) (p : Nat) (h : ¬ p < s.size) : badB s p = false := by
  unfold badB
  rw [List.drop_eq_nil_of_le (by rw [← size_list]; omega)]; rfl
theorem get_bang (s : ByteArray) (p : Nat) (h : p < s.size) : s.get! p = s[p] := by
  have := get_at s p h
  simpa using this
/-- Behind a byte of 128 and more all bytes of the rune are such. -/
theorem decode_skip (s : ByteArray) (p : Nat) (h : p < s.size) (ha : 128 ≤ (s[p]'h).toNat) (k : Nat) (hk : 1 ≤ k) (hkw : k < (Utf8.decode s p).2) : ∃ h' : p + k < s.size, 128 ≤ (s[p + k]'h').toNat := by
  have cont : ∀ j, (decide (p + j < s.size) && (s.get! (p + j)).toNat / 64 == 2) = true → ∃ h' : p + j < s.size, 128 ≤ (s[p + j]'h').toNat := fun j hj => by
    simp only [Bool.and_eq_true, decide_eq_true_eq, beq_iff_eq] at hj
    refine ⟨hj.1, ?_⟩
    rw [← get_bang s (p + j) hj.1]; omega
  have h0 : ¬ (s.get! (p + 0)).toNat < 128 := by rw [get_at s p h]; omega
  unfold Utf8.decode at hkw
  simp only [h0, if_false] at hkw
  split at hkw
  · rename_i h2
    simp only [Bool.and_eq_true] at h2
    split at hkw
    · have : k = 1 := by simp at hkw; omega
      subst this; exact cont 1 (by simpa using h2.2)
    · simp at hkw; omega
  · split at hkw
    · rename_i _ h2
      simp only [Bool.and_eq_true] at h2
      split at hkw
      · have : k = 1 ∨ k = 2 := by simp at hkw; omega
        rcases this with rfl | rfl
        · exact cont 1 (by simpa using h2.1.2)
        · exact cont 2 (by simpa using h2.2)
      · simp at hkw; omega
    · split at hkw
      · rename_i _ _ h2
        simp only [Bool.and_eq_true] at h2
        split at hkw
        · have : k = 1 ∨ k = 2 ∨ k = 3 := by simp at hkw; omega
          rcases this with rfl | rfl | rfl
          · exact cont 1 (by simpa using h2.1.1.2)
          · exact cont 2 (by simpa using h2.1.2)
          · exact cont 3 (by simpa using h2.2)
        · simp at hkw; omega
      · simp at hkw; omega
theorem badC_high {c : UInt8} (h : 128 ≤ c.toNat) : badC c = false := by
  unfold badC
  have h0 : c ≠ 0 := fun e => by subst e; simp at h
  have h1 : c ≠ 47 := fun e => by subst e; simp at h
  simp [h0, h1]
theorem badB_run (s : ByteArray) (p : Nat) : ∀ n, (∀ k, k < n → ∃ h' : p + k < s.size, 128 ≤ (s[p + k]'h').toNat) → badB s p = badB s (p + n)
  | 0, _ => rfl
  | n + 1, h => by
    rw [badB_run s p n fun k hk => h k (by omega)]
    obtain ⟨h', hb⟩ := h n (by omega)
    rw [badB_cons s (p + n) h', badC_high hb]; rfl
theorem decode_pos (s : ByteArray) (p : Nat) (h : p < s.size) : 1 ≤ (Utf8.decode s p).2 := by
  by_cases ha : (s[p]'h).toNat < 128
  · rw [decode_ascii s p h ha]; exact Nat.le_refl _
  · exact (decode_high s p h (by omega)).2
/-- One rune of a name. -/
theorem badB_rune (s : ByteArray) (p : Nat) (h : p < s.size) :
    badB s p = ((((Utf8.decode s p).1 : Int) == 0 || ((Utf8.decode s p).1 : Int) == 47) || badB s (p + (Utf8.decode s p).2)) := by
  by_cases ha : (s[p]'h).toNat < 128
  · rw [decode_ascii s p h ha, badB_cons s p h]
    congr 1
    unfold badC
    have e : ∀ m : Nat, m < 256 → (s[p] == UInt8.ofNat m) = (((s[p]).toNat : Int) == (m : Int)) := fun m hm => by
      rw [Bool.eq_iff_iff]
      simp only [beq_iff_eq, ← UInt8.toNat_inj, UInt8.toNat_ofNat']
      omega
    exact congr (congrArg _ (e 0 (by omega))) (e 47 (by omega))
  · have ha' : 128 ≤ (s[p]'h).toNat := by omega
    obtain ⟨h1, h2⟩ := decode_high s p h ha'
    have e0 : (((Utf8.decode s p).1 : Int) == 0) = false := by simp; omega
    have e1 : (((Utf8.decode s p).1 : Int) == 47) = false := by simp; omega
    rw [e0, e1]
    simp only [Bool.or_self, Bool.false_or]
    refine badB_run s p _ fun k hk => ?_
    by_cases hk0 : k = 0
    · subst hk0; exact ⟨h, ha'⟩
    · exact decode_skip s p h ha' k (by omega) hk
/-- One byte of a name. -/
theorem badB_byte (s : ByteArray) (i : Int) (h0 : 0 ≤ i) (h1 : i < s.size) :
    badB s i.toNat = (((byteAt s i).toNat : Int) == 0 || ((byteAt s i).toNat : Int) == 47 || badB s (i + 1).toNat) := by
  have h : i.toNat < s.size := by omega
  rw [badB_cons s i.toNat h]
  have e : byteAt s i = s[i.toNat] := by simp [byteAt, h]
  rw [e, show (i + 1).toNat = i.toNat + 1 from by omega]
  congr 1
  unfold badC
  have e : ∀ m : Nat, m < 256 → (s[i.toNat] == UInt8.ofNat m) = (((s[i.toNat]).toNat : Int) == (m : Int)) := fun m hm => by
    rw [Bool.eq_iff_iff]
    simp only [beq_iff_eq, ← UInt8.toNat_inj, UInt8.toNat_ofNat']
    omega
  exact congr (congrArg _ (e 0 (by omega))) (e 47 (by omega))
end Go.Lm
