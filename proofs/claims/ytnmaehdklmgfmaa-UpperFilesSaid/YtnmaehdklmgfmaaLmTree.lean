/- Plain facts on trees of nodes. General: no program in sight. -/
import Derived.Test.YtnmaehdklmgfmaaLmNode
import Derived.Test.YtnmaehdklmgfmaaLmBack
import Derived.Lib.Bytealg
namespace Go.Lm
open Go Go.RowKit
def withinI (x a b : Int) : Bool := decide (a ≤ x) && decide (x ≤ b)
def nulAt (s : ByteArray) : Int := Lib.indexByte s.data.toList 0
def plainS (s : ByteArray) (m : Int) : Bool := withinI (s.size : Int) 1 m && decide (nulAt s < 0)
/-- A byte 0 from place k on. -/
def nulB (s : ByteArray) (k : Nat) : Bool := (s.data.toList.drop k).any (· == 0)
theorem nulB_step {s : ByteArray} {k : Int} (h0 : 0 ≤ k) (h1 : k < s.size) : nulB s k.toNat = (((byteAt s k).toNat : Int) == 0 || nulB s (k + 1).toNat) := by
  have hb := byteAt_list h0 h1
  have hlt : k.toNat < s.data.toList.length := by rw [← size_list]; omega
  unfold nulB
  rw [List.drop_eq_getElem_cons hlt, List.any_cons, show k.toNat + 1 = (k + 1).toNat by omega]
  have e : s.data.toList[k.toNat] = byteAt s k := by rw [List.getElem?_eq_getElem hlt] at hb; exact Option.some.inj hb
  rw [e]
  congr 1
  rw [Bool.eq_iff_iff]
  simp only [beq_iff_eq]
  constructor
  · intro h; rw [h]; rfl
  · intro h; exact UInt8.toNat_inj.1 (by show (byteAt s k).toNat = 0; omega)
theorem nulB_end {s : ByteArray} {k : Int} (h : ¬ k < s.size) (h0 : 0 ≤ k) : nulB s k.toNat = false := by
  unfold nulB
  rw [List.drop_eq_nil_of_le (by rw [← size_list]; omega)]; rfl
/-- '≤' on strings. -/
def leB (a b : ByteArray) : Bool := Op.bytesLess a.toList b.toList || a.toList == b.toList
def badX (x : XattrD) (last : ByteArray) : Bool := !plainS x.v.1 40 || leB x.v.1 last || decide ((x.v.2.1.length : Int) > 200)
def xattrsGo : List XattrD → ByteArray → Bool
  | [], _ => true
  | x :: r, last => if badX x last then false else xattrsGo r x.v.1
/-- Whether attributes may be. -/
def xattrsB (l : List XattrD) : Bool := xattrsGo l ⟨#[]⟩ && decide ((l.length : Int) ≤ 8)
section
variable {l : List XattrD} {k : Int} {last : ByteArray} {X : Bool}
theorem xg_bad (h0 : 0 ≤ k) (h1 : k < l.length) (hb : badX (nth l k) last = true) (hc : xattrsGo (l.drop k.toNat) last = X) : X = false := by
  rw [drop_nth h0 h1] at hc
  simp only [xattrsGo, hb, if_true] at hc; exact hc.symm
theorem xg_next (h0 : 0 ≤ k) (h1 : k < l.length) (hb : badX (nth l k) last = false) (hc : xattrsGo (l.drop k.toNat) last = X) : xattrsGo (l.drop (k + 1).toNat) (nth l k).v.1 = X := by
  rw [drop_nth h0 h1] at hc
  simp only [xattrsGo, hb, Bool.false_eq_true, if_false] at hc; exact hc
theorem xg_fin (h1 : ¬ k < l.length) (hc : xattrsGo (l.drop k.toNat) last = X) : X = true := by
  rw [drop_end h1] at hc; exact hc.symm
end
end Go.Lm
