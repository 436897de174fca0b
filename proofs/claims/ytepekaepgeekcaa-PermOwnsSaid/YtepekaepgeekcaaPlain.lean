/- Plain facts on the three low bits of a number, for the statements of perm. No conditions. -/
import Derived.WalkKit
namespace Go.Proofs.Ytepekaepgeekcaa
open Go.RowKit

theorem and7 (n : Int) : bits .and .i64 n 7 = n % 8 := by
  have h : (BitVec.ofInt 64 n &&& BitVec.ofInt 64 7).toNat = (n % 8).toNat := by
    have e7 : (BitVec.ofInt 64 7).toNat = 2 ^ 3 - 1 := by decide
    rw [BitVec.toNat_and, e7, Nat.and_two_pow_sub_one_eq_mod, BitVec.toNat_ofInt]
    omega
  show IntKind.i64.wrap ((BitVec.ofInt 64 n &&& BitVec.ofInt 64 7).toNat : Int) = n % 8
  rw [h]
  have h0 : 0 ≤ n % 8 := by omega
  have h1 : n % 8 < 8 := by omega
  generalize n % 8 = m at h0 h1
  obtain ⟨k, rfl⟩ := Int.eq_ofNat_of_zero_le h0
  simp only [Int.toNat_natCast]
  have hk : k < 8 := by omega
  revert h0 h1
  match k, hk with
  | 0, _ | 1, _ | 2, _ | 3, _ | 4, _ | 5, _ | 6, _ | 7, _ => intros; decide

theorem tab : ∀ a b : Fin 8, 0 ≤ bits .or .i64 (a.val : Int) (b.val : Int) ∧ bits .or .i64 (a.val : Int) (b.val : Int) ≤ 7 := by decide +kernel
theorem tab3 : ∀ c a b : Fin 8, (bits .and .i64 (c.val : Int) (bits .or .i64 (a.val : Int) (b.val : Int)) == bits .or .i64 (a.val : Int) (b.val : Int)) = ((bits .and .i64 (c.val : Int) (a.val : Int) == (a.val : Int)) && (bits .and .i64 (c.val : Int) (b.val : Int) == (b.val : Int))) := by decide +kernel
theorem tab0 : ∀ c : Fin 8, (bits .and .i64 (c.val : Int) 0 == 0) = true := by decide +kernel

theorem fin8 (n : Int) (h0 : 0 ≤ n) (h1 : n ≤ 7) : ∃ a : Fin 8, (a.val : Int) = n := ⟨⟨n.toNat, by omega⟩, by simp; omega⟩

/-- Which of the three parts of a mode counts. -/
def partOf (uid gid mode auid agid : Int) : Int :=
  if auid == uid then bits .and .i64 (mode.fdiv (2 ^ (min 6 64))) 7 else if agid == gid then bits .and .i64 (mode.fdiv (2 ^ (min 3 64))) 7 else bits .and .i64 mode 7
theorem part_bd (uid gid mode auid agid : Int) : 0 ≤ partOf uid gid mode auid agid ∧ partOf uid gid mode auid agid ≤ 7 := by
  unfold partOf
  simp only [and7]
  split
  · omega
  · split <;> omega

/-- What May answers. -/
def mayB (uid gid mode auid agid want : Int) : Bool :=
  if want < 0 || 7 < want then false else if uid == 0 then true else bits .and .i64 (partOf uid gid mode auid agid) want == want

theorem may_or (uid gid mode auid agid x y : Int) :
    mayB uid gid mode auid agid (bits .or .i64 (bits .and .i64 x 7) (bits .and .i64 y 7)) = (mayB uid gid mode auid agid (bits .and .i64 x 7) && mayB uid gid mode auid agid (bits .and .i64 y 7)) := by
  obtain ⟨a, ha⟩ := fin8 (bits .and .i64 x 7) (by rw [and7]; omega) (by rw [and7]; omega)
  obtain ⟨b, hb⟩ := fin8 (bits .and .i64 y 7) (by rw [and7]; omega) (by rw [and7]; omega)
  rw [← ha, ← hb]
  have ht := tab a b
  obtain ⟨c, hc⟩ := fin8 _ (part_bd uid gid mode auid agid).1 (part_bd uid gid mode auid agid).2
  have ha8 := a.isLt
  have hb8 := b.isLt
  have e1 : (decide (((a.val : Nat) : Int) < 0) || decide (7 < ((a.val : Nat) : Int))) = false := by simp; omega
  have e2 : (decide (((b.val : Nat) : Int) < 0) || decide (7 < ((b.val : Nat) : Int))) = false := by simp; omega
  have e3 : (decide (bits .or .i64 (a.val : Int) (b.val : Int) < 0) || decide (7 < bits .or .i64 (a.val : Int) (b.val : Int))) = false := by simp; omega
  unfold mayB
  rw [← hc]
  simp only [e1, e2, e3, Bool.false_eq_true, if_false]
  split
  · rfl
  · exact tab3 c a b
theorem may_zero (uid gid mode auid agid : Int) : mayB uid gid mode auid agid 0 = true := by
  obtain ⟨c, hc⟩ := fin8 _ (part_bd uid gid mode auid agid).1 (part_bd uid gid mode auid agid).2
  unfold mayB
  rw [← hc, if_neg (by simp)]
  split
  · rfl
  · exact tab0 c
theorem may_root (gid mode auid agid x : Int) : mayB 0 gid mode auid agid (bits .and .i64 x 7) = true := by
  unfold mayB
  rw [if_neg (by rw [and7]; simp; omega), if_pos (by decide)]
end Go.Proofs.Ytepekaepgeekcaa
