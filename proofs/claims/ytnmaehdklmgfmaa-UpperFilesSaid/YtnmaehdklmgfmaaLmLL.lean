/- Slices of slices of bytes; ints of a slice are ints. General: no program in sight. -/
import Derived.Test.YtnmaehdklmgfmaaLmElem
import Derived.Test.YtnmaehdklmgfmaaLmUp4
namespace Go.Lm
open Go Go.RowKit
section
variable {P : Program} {g w : World} {v : Value} {i : Int}
theorem bytes_at {xs : List (List UInt8)} (h : Is g v xs) (h0 : 0 ≤ i) (h1 : i < xs.length) : ∃ u, ElemAt g 1 v i [u] ∧ Is g u (nth xs i) := by
  obtain ⟨cs, h2, h3⟩ := elem_at h h0 h1
  rw [← nth_eq (by omega)] at h3
  obtain ⟨u, rfl, hu⟩ := h3
  exact ⟨u, h2, is_list.2 hu⟩
theorem run_elem_one {k : Nat} {c : Value} {t : TypeId} {d : TypeDesc} (h : ElemAt g k v i [c]) (m : Mono g w) (hu : P.underlying t = some d) (hd : d.isRow = false) : (Instr.loadAt t (elemP k v i)).run P w = .ok c w := by
  have := run_elem_field (P := P) (off := 0) h m hu hd rfl
  obtain ⟨a, ha, _⟩ := h w m
  rw [ha] at this ⊢
  simpa [addP, Addr.add] using this
theorem wf_bounds {x : Int} (h : (Lit.int .i64 x).wf = true) : -9223372036854775808 ≤ x ∧ x ≤ 9223372036854775807 := by
  simp [Lit.wf, IntKind.min, IntKind.max, IntKind.signed, IntKind.bits] at h
  omega
theorem int_at {xs : List Int} (h : Is g v xs) (h0 : 0 ≤ i) (h1 : i < xs.length) : -9223372036854775808 ≤ nth xs i ∧ nth xs i ≤ 9223372036854775807 := by
  obtain ⟨cs, h2, h3⟩ := elem_at h h0 h1
  rw [← nth_eq (by omega)] at h3
  exact wf_bounds h3.2
end
theorem kindI_range {c n : Int} (h0 : -9223372036854775808 ≤ c) (h1 : c ≤ 9223372036854775807) (hn : 0 < n) : 0 ≤ kindI c n ∧ kindI c n < n := by
  unfold kindI
  split
  · exact ⟨Int.tmod_nonneg _ (by omega), Int.tmod_lt_of_pos _ hn⟩
  · exact ⟨Int.tmod_nonneg _ (by omega), Int.tmod_lt_of_pos _ hn⟩
theorem rsOk {d : List UInt8} {lk : Int} {e : List (ByteArray × Int)} {k : Int} (h0 : 0 ≤ k) (h1 : k ≤ 4096) : resizeE [(2, fileN d lk), (1, rootU e)] 2 k = 0 := by
  rw [rs1, if_neg (by omega), if_neg (by omega)]
theorem rsOkU {d : List UInt8} {lk : Int} {e : List (ByteArray × Int)} {k : Int} (h0 : 0 ≤ k) (h1 : k ≤ 4096) : resizeU [(2, fileN d lk), (1, rootU e)] 2 k = [(2, fileN (sizedL d k) lk), (1, rootU e)] := by
  rw [rs1U, rsOk h0 h1]; rfl
theorem rsNo {d : List UInt8} {lk : Int} {e : List (ByteArray × Int)} {k : Int} (h0 : 0 ≤ k) (h1 : ¬ k ≤ 4096) : resizeE [(2, fileN d lk), (1, rootU e)] 2 k = 3 := by
  rw [rs1, if_neg (by omega), if_pos (by omega)]
theorem rsNoU {d : List UInt8} {lk : Int} {e : List (ByteArray × Int)} {k : Int} (h0 : 0 ≤ k) (h1 : ¬ k ≤ 4096) : resizeU [(2, fileN d lk), (1, rootU e)] 2 k = [(2, fileN d lk), (1, rootU e)] := by
  rw [rs1U, rsNo h0 h1]; rfl
theorem wrOk {d c : List UInt8} {lk : Int} {e : List (ByteArray × Int)} {k : Int} (h0 : 0 ≤ k) (h1 : k + c.length ≤ 4096) : writeE [(2, fileN d lk), (1, rootU e)] 2 k c = 0 := by
  rw [wr1, if_neg (by omega), if_neg (by omega)]
theorem wrOkU {d c : List UInt8} {lk : Int} {e : List (ByteArray × Int)} {k : Int} (h0 : 0 ≤ k) (h1 : k + c.length ≤ 4096) (h2 : (c.length : Int) > 0) : writeU [(2, fileN d lk), (1, rootU e)] 2 k c = [(2, fileN (writeL d k c) lk), (1, rootU e)] := by
  rw [wr1U, wrOk h0 h1, if_pos ⟨rfl, by omega⟩]
theorem wrZeroU {d c : List UInt8} {lk : Int} {e : List (ByteArray × Int)} {k : Int} (h2 : ¬ (c.length : Int) > 0) : writeU [(2, fileN d lk), (1, rootU e)] 2 k c = [(2, fileN d lk), (1, rootU e)] := by
  rw [wr1U, if_neg (by omega)]
theorem wrNo {d c : List UInt8} {lk : Int} {e : List (ByteArray × Int)} {k : Int} (h0 : 0 ≤ k) (h1 : ¬ k + c.length ≤ 4096) : writeE [(2, fileN d lk), (1, rootU e)] 2 k c = 3 := by
  rw [wr1, if_neg (by omega), if_pos (by omega)]
theorem wrNoU {d c : List UInt8} {lk : Int} {e : List (ByteArray × Int)} {k : Int} (h0 : 0 ≤ k) (h1 : ¬ k + c.length ≤ 4096) : writeU [(2, fileN d lk), (1, rootU e)] 2 k c = [(2, fileN d lk), (1, rootU e)] := by
  rw [wr1U, wrNo h0 h1, if_neg (by omega)]
theorem writeL_length (d c : List UInt8) (k : Int) (h0 : 0 ≤ k) : (writeL d k c).length = (max (d.length : Int) (k + c.length)).toNat := by
  unfold writeL
  rw [copyL_length _ _ _ (by rw [sizedL_length]; omega), sizedL_length]
end Go.Lm
