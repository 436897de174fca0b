/- Texts of mine, laid together: LmWa LmSaid LmWb. -/
import Derived.Test.YtnmaehdklmgfmaaBV2
import Derived.Lib.Bytealg
import Derived.Lib.Bytes
import Derived.Test.YtnmaehdklmgfmaaLmKA
import Derived.OpenShut
/- Plain facts on names, attributes and nodes, as data. General: no program in sight. -/
namespace Go.Lm
open Go Go.RowKit
def withinI (x a b : Int) : Bool := decide (a ≤ x) && decide (x ≤ b)
def nulAt (s : ByteArray) : Int := Lib.indexByte s.data.toList 0
def plainS (s : ByteArray) (m : Int) : Bool := withinI (s.size : Int) 1 m && decide (nulAt s < 0)
theorem sz_list (s : ByteArray) : s.size = s.data.toList.length := by
  cases s with
  | mk d => simp [ByteArray.size]
theorem indexByte_in (l : List UInt8) (c : UInt8) : -1 ≤ Lib.indexByte l c ∧ Lib.indexByte l c < max 1 (l.length : Int) := by
  induction l with
  | nil => simp [Lib.indexByte]; omega
  | cons b r ih =>
    unfold Lib.indexByte
    by_cases hb : (b == c) = true
    · rw [if_pos hb]; simp; omega
    · rw [if_neg hb]
      by_cases hm : (Lib.indexByte r c == -1) = true
      · simp only [hm, if_true, List.length_cons]; omega
      · simp only [hm]
        simp at hm
        simp only [List.length_cons]
        have : r ≠ [] := fun e => by subst e; simp [Lib.indexByte] at hm
        have : 0 < r.length := List.length_pos_iff.2 this
        simp
        omega
/-- A byte 0 from place k on. -/
def nulB (s : ByteArray) (k : Nat) : Bool := (s.data.toList.drop k).any (· == 0)
theorem nulB_step {s : ByteArray} {k : Int} (h0 : 0 ≤ k) (h1 : k < s.size) : nulB s k.toNat = (((byteAt s k).toNat : Int) == 0 || nulB s (k + 1).toNat) := by
  have hlt : k.toNat < s.data.toList.length := by rw [← sz_list]; omega
  unfold nulB
  rw [List.drop_eq_getElem_cons hlt, List.any_cons, show k.toNat + 1 = (k + 1).toNat by omega]
  have e : s.data.toList[k.toNat] = byteAt s k := by
    have h2 : k.toNat < s.size := by omega
    have hb : s[k.toNat]? = some s[k.toNat] := by simp [h2]
    unfold byteAt
    rw [hb]
    show s.data.toList[k.toNat] = s[k.toNat]
    simp [ByteArray.getElem_eq_getElem_data]
  rw [e]
  congr 1
  rw [Bool.eq_iff_iff]
  simp only [beq_iff_eq]
  constructor
  · intro h; rw [h]; rfl
  · intro h; exact UInt8.toNat_inj.1 (by show (byteAt s k).toNat = 0; omega)
theorem nulB_end {s : ByteArray} {k : Int} (h : ¬ k < s.size) (h0 : 0 ≤ k) : nulB s k.toNat = false := by
  unfold nulB
  rw [List.drop_eq_nil_of_le (by rw [← sz_list]; omega)]; rfl
/-! ### Attributes -/
abbrev XaD := ByteArray × List UInt8 × Unit
/-- '≤' on strings. -/
def leB (a b : ByteArray) : Bool := sLt a b || sEq a b
def badX (x : XaD) (last : ByteArray) : Bool := !plainS x.1 40 || leB x.1 last || decide ((x.2.1.length : Int) > 200)
def xattrsGo : List XaD → ByteArray → Bool
  | [], _ => true
  | x :: r, last => if badX x last then false else xattrsGo r x.1
def xattrsB (l : List XaD) : Bool := xattrsGo l ⟨#[]⟩ && decide ((l.length : Int) ≤ 8)
theorem ixD_drop {e : Ty} {l : List e.den} {k : Int} (h0 : 0 ≤ k) (h1 : k < l.length) : l.drop k.toNat = ixD e l k :: l.drop (k + 1).toNat := by
  have hlt : k.toNat < l.length := by omega
  rw [List.drop_eq_getElem_cons hlt, show k.toNat + 1 = (k + 1).toNat by omega]
  congr 1
  unfold ixD
  rw [List.getD_eq_getElem?_getD, List.getElem?_eq_getElem hlt]; rfl
theorem drop_all {α : Type} {l : List α} {k : Int} (h : ¬ k < l.length) : l.drop k.toNat = [] := List.drop_eq_nil_of_le (by omega)
/-! ### Strings in order -/
theorem bl_cons (a b : UInt8) (x y : List UInt8) : Op.bytesLess (a :: x) (b :: y) = (decide (a < b) || (a == b && Op.bytesLess x y)) := rfl
theorem bl_irr : ∀ x : List UInt8, Op.bytesLess x x = false
  | [] => rfl
  | a :: x => by rw [bl_cons, bl_irr x]; simp
theorem u8_lt_irr {a b : UInt8} (h : a < b) (h2 : b < a) : False := absurd (UInt8.lt_trans h h2) (UInt8.lt_irrefl a)
theorem u8_tri (a b : UInt8) : a < b ∨ a = b ∨ b < a := by
  rcases UInt8.lt_or_le a b with h | h
  · exact .inl h
  · rcases UInt8.lt_or_eq_of_le h with h | h
    · exact .inr (.inr h)
    · exact .inr (.inl h.symm)
theorem bl_tri : ∀ x y : List UInt8, Op.bytesLess x y = true ∨ x = y ∨ Op.bytesLess y x = true
  | [], [] => .inr (.inl rfl)
  | [], _ :: _ => .inl rfl
  | _ :: _, [] => .inr (.inr rfl)
  | a :: x, b :: y => by
    rw [bl_cons, bl_cons]
    rcases u8_tri a b with h | h | h
    · exact .inl (by simp [h])
    · subst h
      rcases bl_tri x y with k | k | k
      · exact .inl (by simp [k])
      · exact .inr (.inl (by rw [k]))
      · exact .inr (.inr (by simp [k]))
    · exact .inr (.inr (by simp [h]))
theorem bl_trans : ∀ {x y z : List UInt8}, Op.bytesLess x y = true → Op.bytesLess y z = true → Op.bytesLess x z = true
  | _, [], _, h, _ => by simp [Op.bytesLess] at h
  | _, _ :: _, [], _, k => by simp [Op.bytesLess] at k
  | [], _ :: _, _ :: _, _, _ => rfl
  | a :: x, b :: y, c :: z, h, k => by
    rw [bl_cons] at *
    simp only [Bool.or_eq_true, Bool.and_eq_true, decide_eq_true_eq, beq_iff_eq] at *
    rcases h with h | ⟨rfl, h⟩
    · rcases k with k | ⟨rfl, k⟩
      · exact .inl (UInt8.lt_trans h k)
      · exact .inl h
    · rcases k with k | ⟨rfl, k⟩
      · exact .inl k
      · exact .inr ⟨rfl, bl_trans h k⟩
theorem bl_asymm {x y : List UInt8} (h : Op.bytesLess x y = true) : Op.bytesLess y x = false := by
  cases k : Op.bytesLess y x with
  | false => rfl
  | true => have := bl_trans h k; rw [bl_irr] at this; cases this
theorem leB_geq (a b : ByteArray) : leB a b = !sLt b a := by
  unfold leB sLt sEq
  rcases bl_tri a.toList b.toList with h | h | h
  · rw [h, bl_asymm h]; rfl
  · rw [h, bl_irr]; simp
  · rw [h, bl_asymm h]
    have : (a.toList == b.toList) = false := by
      apply beq_eq_false_iff_ne.2
      intro e; rw [e, bl_irr] at h; cases h
    rw [this]; rfl
theorem nil_lt {a : ByteArray} (h : 1 ≤ (a.size : Int)) : sLt ⟨#[]⟩ a = true := by
  unfold sLt
  have h0 : (⟨#[]⟩ : ByteArray).toList = [] := by rw [Lib.toList_data]
  rw [h0]
  rw [sz_list] at h
  rw [Lib.toList_data]
  cases h2 : a.data.toList with
  | nil => rw [h2] at h; simp at h
  | cons x r => rfl
theorem index_any : ∀ l : List UInt8, decide (Lib.indexByte l 0 < 0) = !l.any (· == 0)
  | [] => rfl
  | b :: r => by
    have ih := index_any r
    have ge := Lib.indexByte_ge r 0
    unfold Lib.indexByte
    by_cases hb : b = 0
    · subst hb; simp
    · have h1 : (b == 0) = false := by simpa using hb
      rw [h1]
      simp only [Bool.false_eq_true, if_false, List.any_cons, h1, Bool.false_or]
      rw [← ih]
      by_cases hm : Lib.indexByte r 0 = -1
      · simp [hm]
      · have : (Lib.indexByte r 0 == -1) = false := by simpa using hm
        simp only [this, Bool.false_eq_true, if_false]
        have h2 : ¬ Lib.indexByte r 0 < 0 := by omega
        have h3 : ¬ Lib.indexByte r 0 + 1 < 0 := by omega
        simp [h2, h3]
theorem nul_iff (s : ByteArray) : decide (nulAt s < 0) = !nulB s 0 := by
  unfold nulAt nulB
  rw [index_any]; simp
/-- What is wrong with an attribute, as the reference asks. -/
theorem badX_ref (x : XaD) (last : ByteArray) : badX x last = (decide ((x.1.size : Int) < 1) || decide ((x.1.size : Int) > 40) || nulB x.1 0 || decide ((x.2.1.length : Int) > 200) || !sLt last x.1) := by
  unfold badX plainS withinI
  rw [nul_iff, leB_geq]
  rw [Bool.eq_iff_iff]
  simp only [Bool.or_eq_true, Bool.not_eq_true', Bool.and_eq_false_iff, decide_eq_false_iff_not, decide_eq_true_eq, Bool.not_eq_false']
  constructor
  · rintro ((h | h) | h)
    · rcases h with (h | h) | h
      · exact .inl (.inl (.inl (.inl (by omega))))
      · exact .inl (.inl (.inl (.inr (by omega))))
      · exact .inl (.inl (.inr h))
    · exact .inr h
    · exact .inl (.inr h)
  · rintro ((((h | h) | h) | h) | h)
    · exact .inl (.inl (.inl (.inl (by omega))))
    · exact .inl (.inl (.inl (.inr (by omega))))
    · exact .inl (.inl (.inr h))
    · exact .inr h
    · exact .inl (.inr h)
def prevN (l : List XaD) (k : Int) : ByteArray := if k > 0 then (@List.getD XaD l (k - 1).toNat (⟨#[]⟩, [], ())).1 else ⟨#[]⟩
/-! ### Nodes -/
abbrev NoD := List ByteArray × Int × Int × (Int × Int × Int × Unit) × List UInt8 × ByteArray × List XaD × Bool × Unit
def noB (s : ByteArray) : Bool := sEq s ⟨#[]⟩
def may3 (m u g : Int) : Bool := withinI m 0 511 && withinI u 0 65535 && withinI g 0 65535
/-- Whether a node of a tree may be. -/
def mayT (x : NoD) : Bool :=
  if x.2.2.1 = 1 then ((x.2.2.2.2.1.length : Int) == 0) && noB x.2.2.2.2.2.1 && !x.2.2.2.2.2.2.2.1 && may3 x.2.2.2.1.1 x.2.2.2.1.2.1 x.2.2.2.1.2.2.1 && xattrsB x.2.2.2.2.2.2.1
  else if x.2.2.1 = 2 then decide ((x.2.2.2.2.1.length : Int) ≤ 4096) && noB x.2.2.2.2.2.1 && !x.2.2.2.2.2.2.2.1 && may3 x.2.2.2.1.1 x.2.2.2.1.2.1 x.2.2.2.1.2.2.1 && xattrsB x.2.2.2.2.2.2.1
  else if x.2.2.1 = 3 then ((x.2.2.2.2.1.length : Int) == 0) && plainS x.2.2.2.2.2.1 200 && !x.2.2.2.2.2.2.2.1 && may3 x.2.2.2.1.1 x.2.2.2.1.2.1 x.2.2.2.1.2.2.1 && xattrsB x.2.2.2.2.2.2.1
  else false
/-- The first place of one of which p holds, or -1. -/
def idxF {α : Type} (p : α → Bool) : List α → Int → Int
  | [], _ => -1
  | x :: r, k => if p x then k else idxF p r (k + 1)
theorem idxF_any {α : Type} {p : α → Bool} : ∀ {l : List α} {k : Int}, 0 ≤ k → decide (idxF p l k ≥ 0) = l.any p
  | [], _, _ => rfl
  | x :: r, k, h => by
    unfold idxF
    rw [List.any_cons]
    cases hp : p x with
    | true => simp [h]
    | false => simpa using idxF_any (l := r) (p := p) (k := k + 1) (by omega)
/-- A mark that may not be. -/
def badM (x : NoD) : Bool := x.2.2.1 == 4 && (!(x.2.2.2.1.1 == 0 && (x.2.2.2.1.2.1 == 0 && x.2.2.2.1.2.2.1 == 0)) || decide ((x.2.2.2.2.1.length : Int) > 0) || !sEq x.2.2.2.2.2.1 ⟨#[]⟩ || decide ((x.2.2.2.2.2.2.1.length : Int) > 0) || x.2.2.2.2.2.2.2.1)
/-- .. of an upper branch's tree. -/
def mayU (x : NoD) : Bool := if x.2.2.1 = 4 then !badM x else mayT (x.1, x.2.1, x.2.2.1, x.2.2.2.1, x.2.2.2.2.1, x.2.2.2.2.2.1, x.2.2.2.2.2.2.1, (if x.2.2.1 = 1 then false else x.2.2.2.2.2.2.2.1), ())
/-- The same, as the reference asks. -/
def refMay (x : NoD) : Bool :=
  if decide (x.2.2.1 < 1) || (decide (x.2.2.1 > 3) || x.2.2.2.2.2.2.2.1) then false
  else if decide (x.2.2.2.1.1 < 0) || (decide (x.2.2.2.1.1 > 511) || (decide (x.2.2.2.1.2.1 < 0) || (decide (x.2.2.2.1.2.1 > 65535) || (decide (x.2.2.2.1.2.2.1 < 0) || decide (x.2.2.2.1.2.2.1 > 65535))))) then false
  else if (x.2.2.1 != 2 && decide ((x.2.2.2.2.1.length : Int) > 0)) || decide ((x.2.2.2.2.1.length : Int) > 4096) then false
  else if (x.2.2.1 != 3 && !sEq x.2.2.2.2.2.1 ⟨#[]⟩) || (x.2.2.1 == 3 && (sEq x.2.2.2.2.2.1 ⟨#[]⟩ || (decide ((x.2.2.2.2.2.1.size : Int) > 200) || nulB x.2.2.2.2.2.1 0))) then false
  else xattrsB x.2.2.2.2.2.2.1
theorem noB_size (s : ByteArray) : sEq s ⟨#[]⟩ = !decide (1 ≤ (s.size : Int)) := by
  unfold sEq
  have h1 : (⟨#[]⟩ : ByteArray).toList = [] := by rw [Lib.toList_data]
  rw [h1, Lib.toList_data, sz_list]
  cases s.data.toList with
  | nil => rfl
  | cons x r =>
    have : decide (1 ≤ ((x :: r).length : Int)) = true := by simp; omega
    rw [this]; rfl
theorem may3_ref (m u g : Int) : may3 m u g = !(decide (m < 0) || (decide (m > 511) || (decide (u < 0) || (decide (u > 65535) || (decide (g < 0) || decide (g > 65535)))))) := by
  unfold may3 withinI
  rw [Bool.eq_iff_iff]
  simp only [Bool.and_eq_true, decide_eq_true_eq, Bool.not_eq_true', Bool.or_eq_false_iff, decide_eq_false_iff_not]
  omega
theorem refMay_eq (x : NoD) : refMay x = mayT x := by
  obtain ⟨path, ino, kind, ⟨m, u, g, un⟩, data, target, xs, opq, un2⟩ := x
  unfold refMay mayT noB plainS
  simp only
  rw [nul_iff, noB_size, may3_ref]
  unfold withinI
  generalize (decide (m < 0) || (decide (m > 511) || (decide (u < 0) || (decide (u > 65535) || (decide (g < 0) || decide (g > 65535)))))) = M
  generalize nulB target 0 = N
  generalize xattrsB xs = X
  generalize target.size = ts
  generalize data.length = dl
  have D : (decide ((dl : Int) > 0) = false ∧ decide ((dl : Int) > 4096) = false ∧ decide ((dl : Int) ≤ 4096) = true ∧ ((dl : Int) == 0) = true) ∨ (decide ((dl : Int) > 0) = true ∧ decide ((dl : Int) > 4096) = false ∧ decide ((dl : Int) ≤ 4096) = true ∧ ((dl : Int) == 0) = false) ∨
      (decide ((dl : Int) > 0) = true ∧ decide ((dl : Int) > 4096) = true ∧ decide ((dl : Int) ≤ 4096) = false ∧ ((dl : Int) == 0) = false) := by
    simp only [decide_eq_true_eq, decide_eq_false_iff_not, beq_iff_eq, beq_eq_false_iff_ne]
    omega
  have T : (decide (1 ≤ (ts : Int)) = false ∧ decide ((ts : Int) > 200) = false ∧ decide ((ts : Int) ≤ 200) = true) ∨ (decide (1 ≤ (ts : Int)) = true ∧ decide ((ts : Int) > 200) = false ∧ decide ((ts : Int) ≤ 200) = true) ∨ (decide (1 ≤ (ts : Int)) = true ∧ decide ((ts : Int) > 200) = true ∧ decide ((ts : Int) ≤ 200) = false) := by
    simp only [decide_eq_true_eq, decide_eq_false_iff_not]
    omega
  by_cases k1 : kind = 1
  · subst k1
    rcases D with ⟨d1, d2, d3, d4⟩ | ⟨d1, d2, d3, d4⟩ | ⟨d1, d2, d3, d4⟩ <;> rcases T with ⟨t1, t2, t3⟩ | ⟨t1, t2, t3⟩ | ⟨t1, t2, t3⟩ <;> simp only [d1, d2, d3, d4, t1, t2, t3] <;> cases opq <;> cases M <;> cases X <;> cases N <;> rfl
  · by_cases k2 : kind = 2
    · subst k2
      rcases D with ⟨d1, d2, d3, d4⟩ | ⟨d1, d2, d3, d4⟩ | ⟨d1, d2, d3, d4⟩ <;> rcases T with ⟨t1, t2, t3⟩ | ⟨t1, t2, t3⟩ | ⟨t1, t2, t3⟩ <;> simp only [d1, d2, d3, d4, t1, t2, t3] <;> cases opq <;> cases M <;> cases X <;> cases N <;> rfl
    · by_cases k3 : kind = 3
      · subst k3
        rcases D with ⟨d1, d2, d3, d4⟩ | ⟨d1, d2, d3, d4⟩ | ⟨d1, d2, d3, d4⟩ <;> rcases T with ⟨t1, t2, t3⟩ | ⟨t1, t2, t3⟩ | ⟨t1, t2, t3⟩ <;> simp only [d1, d2, d3, d4, t1, t2, t3] <;> cases opq <;> cases M <;> cases X <;> cases N <;> rfl
      · have h : (decide (kind < 1) || (decide (kind > 3) || opq)) = true := by
          by_cases ha : kind < 1
          · simp [ha]
          · have : kind > 3 := by omega
            simp [this]
        rw [h]; simp [k1, k2, k3]
/-- A tree cut short. -/
def clipN (x : NoD) : NoD := (x.1.take 18, x.2.1, x.2.2.1, x.2.2.2.1, x.2.2.2.2.1.take 1500, x.2.2.2.2.2.1, x.2.2.2.2.2.2.1.take 10, x.2.2.2.2.2.2.2.1, ())
theorem take_ixD {e : Ty} {l : List e.den} {k : Int} (h0 : 0 ≤ k) (h1 : k < l.length) : l.take (k + 1).toNat = l.take k.toNat ++ [ixD e l k] := by
  have hlt : k.toNat < l.length := by omega
  rw [show (k + 1).toNat = k.toNat + 1 by omega, List.take_add_one, List.getElem?_eq_getElem hlt]
  unfold ixD
  rw [List.getD_eq_getElem?_getD, List.getElem?_eq_getElem hlt]; rfl
/-! ### Names -/
def slashB (s : ByteArray) (k : Nat) : Bool := (s.data.toList.drop k).any fun b => b == 0 || b == 47
theorem byte_eq {b : UInt8} {n : Nat} (h : n < 256) : (b == UInt8.ofNat n) = ((b.toNat : Int) == (n : Int)) := by
  rw [Bool.eq_iff_iff]
  simp only [beq_iff_eq]
  constructor
  · intro e; subst e
    have : (UInt8.ofNat n).toNat = n := UInt8.toNat_ofNat_of_lt' h
    rw [this]
  · intro e
    have e' : b.toNat = n := by omega
    exact UInt8.toNat_inj.1 (by rw [e', UInt8.toNat_ofNat_of_lt' h])
theorem drop_byte {s : ByteArray} {k : Int} (h0 : 0 ≤ k) (h1 : k < s.size) : s.data.toList.drop k.toNat = byteAt s k :: s.data.toList.drop (k + 1).toNat := by
  have hlt : k.toNat < s.data.toList.length := by rw [← sz_list]; omega
  rw [List.drop_eq_getElem_cons hlt, show k.toNat + 1 = (k + 1).toNat by omega]
  congr 1
  have h2 : k.toNat < s.size := by omega
  have hb : s[k.toNat]? = some s[k.toNat] := by simp [h2]
  unfold byteAt
  rw [hb]
  show s.data.toList[k.toNat] = s[k.toNat]
  simp [ByteArray.getElem_eq_getElem_data]
theorem slashB_step {s : ByteArray} {k : Int} (h0 : 0 ≤ k) (h1 : k < s.size) : slashB s k.toNat = (((byteAt s k).toNat : Int) == 0 || (((byteAt s k).toNat : Int) == 47 || slashB s (k + 1).toNat)) := by
  unfold slashB
  rw [drop_byte h0 h1, List.any_cons, show (0 : UInt8) = UInt8.ofNat 0 from rfl, show (47 : UInt8) = UInt8.ofNat 47 from rfl, byte_eq (n := 0) (by omega), byte_eq (n := 47) (by omega), Bool.or_assoc]
  rfl
theorem slashB_end {s : ByteArray} {k : Int} (h : ¬ k < s.size) (h0 : 0 ≤ k) : slashB s k.toNat = false := by
  unfold slashB
  rw [List.drop_eq_nil_of_le (by rw [← sz_list]; omega)]; rfl
def dotsB (s : ByteArray) : Bool := sEq s ⟨#[]⟩ || (sEq s ⟨#[46]⟩ || sEq s ⟨#[46, 46]⟩)
/-- What is wrong with a name. -/
def validN (s : ByteArray) : Int := if (s.size : Int) > 255 then 23 else if slashB s 0 || dotsB s then 22 else 0
/-- Two rows of names are the same. -/
def sameN : List ByteArray → List ByteArray → Bool
  | [], [] => true
  | x :: a, y :: b => sEq x y && sameN a b
  | _, _ => false
theorem sameN_len : ∀ {a b : List ByteArray}, a.length ≠ b.length → sameN a b = false
  | [], [], h => absurd rfl h
  | _ :: a, _ :: b, h => by
    unfold sameN
    rw [sameN_len (a := a) (b := b) (by simpa using h), Bool.and_false]
  | [], _ :: _, _ => rfl
  | _ :: _, [], _ => rfl
theorem idxF_spec {α : Type} {p : α → Bool} : ∀ {l : List α} {k : Int}, (idxF p l k = -1 ∧ l.find? p = none) ∨ ∃ j : Nat, idxF p l k = k + j ∧ j < l.length ∧ l.find? p = l[j]?
  | [], _ => .inl ⟨rfl, rfl⟩
  | x :: r, k => by
    unfold idxF
    rw [List.find?_cons]
    cases hp : p x with
    | true => exact .inr ⟨0, by simp, by simp, rfl⟩
    | false =>
      simp only [Bool.false_eq_true, if_false]
      rcases idxF_spec (l := r) (p := p) (k := k + 1) with ⟨h1, h2⟩ | ⟨j, h1, h2, h3⟩
      · exact .inl ⟨h1, h2⟩
      · exact .inr ⟨j + 1, by rw [h1]; omega, by simpa using h2, by rw [h3]; rfl⟩
/-- A node of that name. -/
def isNm (names : List ByteArray) (x : NoD) : Bool := sameN x.1 names
/-- Is a directory of that name there? -/
def isDirB (l : List NoD) (names : List ByteArray) : Bool := match l.find? (isNm names) with
  | some x => x.2.2.1 == 1
  | none => false
/-! ### Maps -/
theorem put_len {k : Kk} {α : Type} {l : List (k.den × α)} {x : k.den} {v : α} : (k.put l x v).length ≤ l.length + 1 := by
  unfold Kk.put putK
  rw [List.length_cons]
  have : (@delK k.den k.key _ l x).length ≤ l.length := by
    unfold delK
    exact List.length_filter_le _ _
  omega
/-- Is a directory told twice? (As the map says.) -/
def opqGo : List NoD → List (Int × Bool) → Bool
  | [], _ => false
  | x :: r, m => if (Kk.get .int m x.2.1).getD false then true else opqGo r (Kk.put .int m x.2.1 (x.2.2.1 == 1))
end Go.Lm

/- The cells of an argument of one cell. General: no program in sight. -/
namespace Go.Lm
open Go Go.RowKit
theorem cells_str1 {P : Program} {w : World} {r : Reach} {base : Nat} {t : TypeId} {v : Value} (ht : P.underlying t = some .string) (h : Value.okWide P w r base t v) : v.cells = #[v] := by
  obtain ⟨s, rfl⟩ := WideShapes.okWide_string ht h; rfl
theorem cells_slice1 {P : Program} {w : World} {r : Reach} {base : Nat} {t e : TypeId} {v : Value} (ht : P.underlying t = some (.slice e)) (h : Value.okWide P w r base t v) : v.cells = #[v] := by
  obtain ⟨a, l, c, rfl⟩ := WideShapes.okWide_slice ht h; rfl
end Go.Lm
namespace Go.Lm
open Go Go.RowKit
theorem okWide_int_wf {P : Program} {w : World} {r : Reach} {base base2 : Nat} {t : TypeId} {v : Value} {H : Type} {enc : TypeId × Value → H} {spare : Nat → Bool} {held : Bool} {d : DataW H} {ps : List MemPlace} (ht : P.underlying t = some (.int .i64)) (h : Value.okWide P w r base t v) (k : DataW.Trod enc P w base2 spare held t v d ps) :
    ∃ n, v = .int .i64 n ∧ (Lit.int .i64 n).wf = true := by
  obtain ⟨i, rfl⟩ := WideShapes.okWide_int ht h
  obtain ⟨x, hx⟩ := open_one (opens_int ht) rfl rfl k
  have e : GoRep.rel w [Value.int .i64 i] x := by
    unfold Is at hx
    rw [if_neg (by simp [GoRep.agg])] at hx; exact hx
  obtain ⟨e1, e2⟩ := e
  cases e1
  exact ⟨i, rfl, e2⟩
end Go.Lm

/- What comes in reads as data of a type; a law's run. General: no program in sight. -/
namespace Go.Lm
open Go Go.RowKit
section
variable {P : Program}
/-- Whatever reads at type t is such a datum. -/
def OpensD (P : Program) (t : TypeId) (e : Ty) : Prop := @Opens P t e.den e.rep
def OpensF (P : Program) (fs : List Field) (off : Nat) (e : Ty) : Prop :=
  ∀ {H : Type} (enc : TypeId × Value → H) (w : World) (base : Nat) (spare : Nat → Bool) (held : Bool) (fuel : Nat) (cs : List Value), cs.length = off + e.size →
    (∀ f ∈ fs, ∃ y, DataW.trod enc P w base spare held fuel f.type ((cs.drop f.offset).take (P.cellsOf f.type)) = some y) → ∃ x : e.den, e.rep.rel w (cs.drop off) x
theorem opensF_nil {off : Nat} : OpensF P [] off .unit := fun _ _ _ _ _ _ cs hl _ => ⟨(), by
  show cs.drop off = []
  exact List.drop_eq_nil_of_le (by rw [hl]; exact Nat.le_refl _)⟩
theorem opensF_cons {a b : Ty} {f : Field} {fs : List Field} {off : Nat} (ho : f.offset = off) (hs : P.cellsOf f.type = a.size) (h1 : OpensD P f.type a) (h2 : OpensF P fs (off + a.size) b) : OpensF P (f :: fs) off (.pair a b) := fun enc w base spare held fuel cs hl h => by
  obtain ⟨y, hy⟩ := h f (by simp)
  obtain ⟨x, hx⟩ := h1 enc w base spare held fuel _ y hy
  have hl' : cs.length = off + (a.size + b.size) := hl
  obtain ⟨r, hr⟩ := h2 enc w base spare held fuel cs (by omega) fun g hg => h g (List.mem_cons_of_mem _ hg)
  rw [ho, hs] at hx
  refine ⟨(x, r), _, _, ?_, hx, hr⟩
  rw [← List.drop_drop, List.take_append_drop]
theorem opensD_struct {t : TypeId} {e : Ty} {fs : Array Field} (ht : P.underlying t = some (.struct fs)) (hs : P.cellsOf t = e.size) (h : OpensF P fs.toList 0 e) : OpensD P t e := fun enc w base spare held fuel cs y hy => by
  obtain ⟨xs, n, _, _, hlen, hxl, hf⟩ := DataW.trod_struct ht hy
  obtain ⟨x, hx⟩ := h enc w base spare held n cs (by rw [hlen, hs]; omega) fun f hm => by
    obtain ⟨i, hi⟩ := List.getElem?_of_mem hm
    have hi' : fs[i]? = some f := by simpa using hi
    have hlt : i < xs.length := by rw [hxl]; exact (Array.getElem?_eq_some_iff.1 hi').1
    exact ⟨xs[i], by rw [hf i f hi', List.getElem?_eq_getElem hlt]⟩
  rw [List.drop_zero] at hx
  exact ⟨x, hx⟩
theorem opensD_int {k : IntKind} {t : TypeId} (ht : P.underlying t = some (.int k)) : OpensD P t (.int k) := fun _ _ _ _ _ _ _ _ h => by
  obtain ⟨n, hc, _, hw⟩ := DataW.trod_int ht h
  exact ⟨n, hc, hw⟩
def fit (P : Program) : Ty → TypeId ⊕ (List Field × Nat) → Bool
  | .int k, .inl t => match P.underlying t with
    | some (.int k') => IntKind.beq k k'
    | _ => false
  | .u8, .inl t => match P.underlying t with
    | some (.int .u8) => true
    | _ => false
  | .str, .inl t => match P.underlying t with
    | some .string => true
    | _ => false
  | .bool, .inl t => match P.underlying t with
    | some .bool => true
    | _ => false
  | .sl e, .inl t => match P.underlying t with
    | some (.slice et) => Nat.beq (P.cellsOf et) e.size && fit P e (.inl et)
    | _ => false
  | .unit, .inr ([], _) => true
  | .pair a b, .inr (f :: fs, off) => Nat.beq f.offset off && (Nat.beq (P.cellsOf f.type) a.size && (fit P a (.inl f.type) && fit P b (.inr (fs, off + a.size))))
  | .pair a b, .inl t => match P.underlying t with
    | some (.struct fs) => match fs.toList with
      | f :: r => Nat.beq (P.cellsOf t) (a.size + b.size) && (Nat.beq f.offset 0 && (Nat.beq (P.cellsOf f.type) a.size && (fit P a (.inl f.type) && fit P b (.inr (r, a.size)))))
      | [] => false
    | _ => false
  | _, _ => false
theorem fit_ok : ∀ (e : Ty), (∀ t, fit P e (.inl t) = true → OpensD P t e) ∧ ∀ fs off, fit P e (.inr (fs, off)) = true → OpensF P fs off e
  | .int k => by
    refine ⟨fun t h => ?_, fun fs off h => by simp [fit] at h⟩
    unfold fit at h
    split at h
    · rename_i k' hk
      rw [IntKind.eq_of_beq h]
      exact opensD_int hk
    · cases h
  | .u8 => by
    refine ⟨fun t h => ?_, fun fs off h => by simp [fit] at h⟩
    unfold fit at h
    split at h
    · rename_i hk; exact opens_byte hk
    · cases h
  | .str => by
    refine ⟨fun t h => ?_, fun fs off h => by simp [fit] at h⟩
    unfold fit at h
    split at h
    · rename_i hk; exact opens_str hk
    · cases h
  | .bool => by
    refine ⟨fun t h => ?_, fun fs off h => by simp [fit] at h⟩
    unfold fit at h
    split at h
    · rename_i hk; exact opens_bool hk
    · cases h
  | .unit => by
    refine ⟨fun t h => by simp [fit] at h, fun fs off h => ?_⟩
    cases fs with
    | nil => exact opensF_nil
    | cons f r => simp [fit] at h
  | .sl e => by
    refine ⟨fun t h => ?_, fun fs off h => by simp [fit] at h⟩
    unfold fit at h
    split at h
    · rename_i et hk
      rw [Bool.and_eq_true] at h
      exact @opens_list P t et e.den e.rep hk ((Nat.eq_of_beq_eq_true h.1).trans e.rep_size.symm) ((fit_ok e).1 et h.2)
    · cases h
  | .pair a b => by
    refine ⟨fun t h => ?_, fun fs off h => ?_⟩
    · unfold fit at h
      split at h
      · rename_i fs hk
        split at h
        · rename_i f r hf
          simp only [Bool.and_eq_true] at h
          obtain ⟨h1, h2, h3, h4, h5⟩ := h
          refine opensD_struct (e := .pair a b) hk (Nat.eq_of_beq_eq_true h1) ?_
          rw [hf]
          refine opensF_cons (Nat.eq_of_beq_eq_true h2) (Nat.eq_of_beq_eq_true h3) ((fit_ok a).1 _ h4) ?_
          rw [Nat.zero_add]
          exact (fit_ok b).2 _ _ h5
        · cases h
      · cases h
    · cases fs with
      | nil => simp [fit] at h
      | cons f r =>
        unfold fit at h
        simp only [Bool.and_eq_true] at h
        obtain ⟨h2, h3, h4, h5⟩ := h
        exact opensF_cons (Nat.eq_of_beq_eq_true h2) (Nat.eq_of_beq_eq_true h3) ((fit_ok a).1 _ h4) ((fit_ok b).2 _ _ h5)
/-- A slice that comes in. -/
theorem open_sl {t : TypeId} {e : Ty} (hf : fit P (.sl e) (.inl t) = true) {H : Type} {enc : TypeId × Value → H} {w : World} {base : Nat} {spare : Nat → Bool} {held : Bool} {v : Value} {d : DataW H} {ps : List MemPlace}
    (hv : v.cells = #[v]) (h : DataW.Trod enc P w base spare held t v d ps) : ∃ x : List e.den, IsD e w v x :=
  @open_one P t (List e.den) (listRep e.den e.rep) ((fit_ok (.sl e)).1 t hf) rfl H enc w base spare held v d ps hv h
/-- A call with nothing of one's own. -/
theorem Wp.run {f : FuncId} {args : List SV} {vs : List Value} {w : World} {b : Bool} (h : Wp P f args [] fun v _ => v = SV.bool b) (hv : RelVs [] w args vs) : Ret P f vs.toArray w fun v w' => v = .bool b ∧ Le w w' := by
  have S : SL ⟨w, w⟩ w w [] := SL.start (Sees.refl w)
  refine (h ⟨w, w⟩ w w [] [] vs ⟨S, rfl⟩ hv).mono fun v w' ⟨E', g', sv, H', _, _, S', r, q⟩ => ?_
  subst q
  exact ⟨r.1, S'.sl.toLe⟩
end
end Go.Lm
