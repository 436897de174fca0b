/- Texts of mine, laid together: LmWf LmWa LmWd LmWe LmWg LmFrame LmSaid LmWb LmBld LmWh LmWi LmWj LmWk LmWl LmUpto. -/
import Derived.Test.YtklplgmjccldlaaDoorBV2
import Derived.Test.YtklplgmjccldlaaDoorLmKA
import Derived.Sort.Grow
import Derived.Lib.ConvBytes
import Derived.Lib.Bytealg
import Derived.Lib.Bytes
import Derived.Lib.MapLaws
import Derived.Lib.SplitLaws
import Derived.Lib.Join
import Derived.Lib.AtoiAll
import Derived.Lib.ItoaMem
import Derived.Lib.ItoaLen
import Derived.Lib.IndexMore
import Derived.Lib.IndexBytes
import Derived.HandedShaped
import Derived.ProofKit
import Derived.LaidMore
import Derived.OpenShut
import Derived.ShutString
import Derived.ChangeOld
import Derived.Below
import Derived.Stop.Joined
import Derived.Shelf.Vars
import Derived.SevenTiedAt
import Derived.Shelf.Strings.Builder1
import Derived.SliceStrings
import Derived.Deep.DeepHandedRow
/- Contracts that yield new data. General: no program in sight. -/
namespace Go.Lm
open Go Go.RowKit
section
variable {P : Program} {E : Env}
theorem relVs_two' {c d : SV} {g : World} {us : List Value} (h : RelVs E g [c, d] us) : ∃ u v, us = [u, v] ∧ RelV E g c u ∧ RelV E g d v := by
  obtain ⟨u, r, rfl, h1, v, q, rfl, h2, h3⟩ := h
  obtain rfl : q = [] := h3
  exact ⟨u, v, rfl, h1, h2⟩
theorem le_drewN (w : World) (n : Nat) : Le w (w.drewN n) := ⟨rfl, rfl, rfl, Nat.le_refl _, fun _ _ => rfl⟩
theorem le_alloc (w : World) (o : Obj) : Le w (w.alloc o) := (Below.refl _ _).alloc (Nat.le_refl _) o
theorem le_grow_drew (w : World) (k : Nat) (os : Array Obj) : Le w (Sort.grow (w.drewN k) os) :=
  ⟨rfl, rfl, rfl, by show w.heap.size ≤ (w.heap ++ os).size; rw [Array.size_append]; omega, fun i hi => by
    show (w.heap ++ os)[i]? = _
    rw [Array.getElem?_append_left hi]⟩
theorem le_bytes (w : World) (e : TypeId) (s : ByteArray) : Le w (Lib.bytesWorld w e s) :=
  ⟨rfl, rfl, rfl, by rw [Lib.bytesWorld_size]; omega, fun j hj => Lib.bytesWorld_at_old w e s j hj⟩
/-- What is said of a call that makes new data, and turns nothing. -/
theorem Wp.of_fresh {I : Base → Prop} {f : FuncId} {args : List SV} {H : List HO} {Q : SV → List HO → Prop} {sv : SV} (h : ∀ (W : Base) (E : Env) (g w : World) (vs : List Value), I W → Below W.n W.w w → Sees g w → RelVs E g args vs → Ret P f vs.toArray w fun v w' => Le w w' ∧ RelV E (graft g w w') sv v) (hq : Q sv H) : Wp I P f args H Q := by
  intro W hW g w E F vs hs hv
  exact (h W E g w vs hW hs.sl.below hs.sl.sees hv).mono fun v w' ⟨l, r⟩ => ⟨E, graft g w w', sv, H, EnvLe.refl E, graft_mono hs.sl.sees l, ⟨hs.sl.regraft l, hs.len⟩, r, hq⟩
/-- Strings of a slice, where they lie. -/
theorem strs_at {g w : World} {v : Value} {l : List ByteArray} (h : IsD .str g v l) (hs : Mono g w) (hl : l ≠ []) :
    ∃ bk o c, v = .slice (some ⟨bk, o, none⟩) l.length c ∧ (∀ (j : Nat) x, l[j]? = some x → w.cell? ⟨bk, o + j, none⟩ = some (.string x)) ∧ bk < w.heap.size ∧ l.length ≤ c := by
  have h : Is g v l := h
  rcases is_list.1 h with ⟨_, e⟩ | ⟨⟨bk, o, sp⟩, cap, hv, hc, _, hx⟩
  · exact absurd e hl
  · obtain ⟨x, r, rfl⟩ := List.exists_cons_of_ne_nil hl
    have hsp : sp = none := by
      obtain ⟨cs, h1, h2, _⟩ := hx 0 x rfl
      have k0 := h1 0 (.string x) (by rw [h2]; rfl)
      have e : (Addr.mk bk o sp).add (0 * GoRep.size ByteArray + 0) = ⟨bk, o, sp⟩ := by simp [Addr.add]
      rw [e] at k0
      unfold World.cell? at k0
      split at k0
      · split at k0
        · cases k0
        · rename_i hn; simpa using hn
      · cases k0
    subst hsp
    have key : ∀ (j : Nat) y, (x :: r)[j]? = some y → w.cell? ⟨bk, o + j, none⟩ = some (.string y) := fun j y hj => by
      obtain ⟨cs, h1, h2, _⟩ := hx j y hj
      have := h1 0 (.string y) (by rw [h2]; rfl)
      have e : (Addr.mk bk o none).add (j * GoRep.size ByteArray + 0) = ⟨bk, o + j, none⟩ := by
        simp [Addr.add, GoRep.size]
      rw [e] at this
      exact hs _ _ this
    exact ⟨bk, o, cap, hv, key, World.block_lt_of_cell? w _ (key 0 x rfl), hc⟩
/-- A row of strings that is new. -/
theorem new_strs {g w : World} {t : TypeId} {xs : List ByteArray} (hx : ∀ x ∈ xs, x.size ≤ maxLen) (hm : xs.length ≤ maxLen) : IsD .str (graft g w (w.alloc (.cells (xs.map Value.string).toArray t))) (.slice (some ⟨w.heap.size, 0, none⟩) xs.length xs.length) xs := by
  have h : Is (graft g w (w.alloc (.cells (xs.map Value.string).toArray t))) (.slice (some ⟨w.heap.size, 0, none⟩) xs.length xs.length) xs := by
    refine is_lit_strs (fun i x hi => ⟨?_, hx x (List.mem_of_getElem? hi)⟩) hm
    rw [graft_new ⟨w.heap.size, i, none⟩ (Nat.le_refl _)]
    unfold World.cell? World.alloc
    simp [hi]
  exact h
end
end Go.Lm

/- Plain facts on names, attributes and nodes, as data. General: no program in sight. -/
namespace Go.Lm
open Go Go.RowKit
def withinI (x a b : Int) : Bool := decide (a ≤ x) && decide (x ≤ b)
def nulAt (s : ByteArray) : Int := Lib.indexByte s.data.toList 0
def plainS (s : ByteArray) (m : Int) : Bool := withinI (s.size : Int) 1 m && decide (nulAt s < 0)
theorem sz_list (s : ByteArray) : s.size = s.data.toList.length := by
  cases s with
  | mk d => simp [ByteArray.size]
theorem indexByte_in (l : List UInt8) (c : UInt8) : -1 ≤ Lib.indexByte l c ∧ Lib.indexByte l c < max 1 (l.length : Int) := by
  induction l with
  | nil => simp [Lib.indexByte]; omega
  | cons b r ih =>
    unfold Lib.indexByte
    by_cases hb : (b == c) = true
    · rw [if_pos hb]; simp; omega
    · rw [if_neg hb]
      by_cases hm : (Lib.indexByte r c == -1) = true
      · simp only [hm, if_true, List.length_cons]; omega
      · simp only [hm]
        simp at hm
        simp only [List.length_cons]
        have : r ≠ [] := fun e => by subst e; simp [Lib.indexByte] at hm
        have : 0 < r.length := List.length_pos_iff.2 this
        simp
        omega
/-- A byte 0 from place k on. -/
def nulB (s : ByteArray) (k : Nat) : Bool := (s.data.toList.drop k).any (· == 0)
theorem nulB_step {s : ByteArray} {k : Int} (h0 : 0 ≤ k) (h1 : k < s.size) : nulB s k.toNat = (((byteAt s k).toNat : Int) == 0 || nulB s (k + 1).toNat) := by
  have hlt : k.toNat < s.data.toList.length := by rw [← sz_list]; omega
  unfold nulB
  rw [List.drop_eq_getElem_cons hlt, List.any_cons, show k.toNat + 1 = (k + 1).toNat by omega]
  have e : s.data.toList[k.toNat] = byteAt s k := by
    have h2 : k.toNat < s.size := by omega
    have hb : s[k.toNat]? = some s[k.toNat] := by simp [h2]
    unfold byteAt
    rw [hb]
    show s.data.toList[k.toNat] = s[k.toNat]
    simp [ByteArray.getElem_eq_getElem_data]
  rw [e]
  congr 1
  rw [Bool.eq_iff_iff]
  simp only [beq_iff_eq]
  constructor
  · intro h; rw [h]; rfl
  · intro h; exact UInt8.toNat_inj.1 (by show (byteAt s k).toNat = 0; omega)
theorem nulB_end {s : ByteArray} {k : Int} (h : ¬ k < s.size) (h0 : 0 ≤ k) : nulB s k.toNat = false := by
  unfold nulB
  rw [List.drop_eq_nil_of_le (by rw [← sz_list]; omega)]; rfl
/-! ### Attributes -/
abbrev XaD := ByteArray × List UInt8 × Unit
/-- '≤' on strings. -/
def leB (a b : ByteArray) : Bool := sLt a b || sEq a b
def badX (x : XaD) (last : ByteArray) : Bool := !plainS x.1 40 || leB x.1 last || decide ((x.2.1.length : Int) > 200)
def xattrsGo : List XaD → ByteArray → Bool
  | [], _ => true
  | x :: r, last => if badX x last then false else xattrsGo r x.1
def xattrsB (l : List XaD) : Bool := xattrsGo l ⟨#[]⟩ && decide ((l.length : Int) ≤ 8)
theorem ixD_drop {e : Ty} {l : List e.den} {k : Int} (h0 : 0 ≤ k) (h1 : k < l.length) : l.drop k.toNat = ixD e l k :: l.drop (k + 1).toNat := by
  have hlt : k.toNat < l.length := by omega
  rw [List.drop_eq_getElem_cons hlt, show k.toNat + 1 = (k + 1).toNat by omega]
  congr 1
  unfold ixD
  rw [List.getD_eq_getElem?_getD, List.getElem?_eq_getElem hlt]; rfl
theorem drop_all {α : Type} {l : List α} {k : Int} (h : ¬ k < l.length) : l.drop k.toNat = [] := List.drop_eq_nil_of_le (by omega)
/-! ### Strings in order -/
theorem bl_cons (a b : UInt8) (x y : List UInt8) : Op.bytesLess (a :: x) (b :: y) = (decide (a < b) || (a == b && Op.bytesLess x y)) := rfl
theorem bl_irr : ∀ x : List UInt8, Op.bytesLess x x = false
  | [] => rfl
  | a :: x => by rw [bl_cons, bl_irr x]; simp
theorem u8_lt_irr {a b : UInt8} (h : a < b) (h2 : b < a) : False := absurd (UInt8.lt_trans h h2) (UInt8.lt_irrefl a)
theorem u8_tri (a b : UInt8) : a < b ∨ a = b ∨ b < a := by
  rcases UInt8.lt_or_le a b with h | h
  · exact .inl h
  · rcases UInt8.lt_or_eq_of_le h with h | h
    · exact .inr (.inr h)
    · exact .inr (.inl h.symm)
theorem bl_tri : ∀ x y : List UInt8, Op.bytesLess x y = true ∨ x = y ∨ Op.bytesLess y x = true
  | [], [] => .inr (.inl rfl)
  | [], _ :: _ => .inl rfl
  | _ :: _, [] => .inr (.inr rfl)
  | a :: x, b :: y => by
    rw [bl_cons, bl_cons]
    rcases u8_tri a b with h | h | h
    · exact .inl (by simp [h])
    · subst h
      rcases bl_tri x y with k | k | k
      · exact .inl (by simp [k])
      · exact .inr (.inl (by rw [k]))
      · exact .inr (.inr (by simp [k]))
    · exact .inr (.inr (by simp [h]))
theorem bl_trans : ∀ {x y z : List UInt8}, Op.bytesLess x y = true → Op.bytesLess y z = true → Op.bytesLess x z = true
  | _, [], _, h, _ => by simp [Op.bytesLess] at h
  | _, _ :: _, [], _, k => by simp [Op.bytesLess] at k
  | [], _ :: _, _ :: _, _, _ => rfl
  | a :: x, b :: y, c :: z, h, k => by
    rw [bl_cons] at *
    simp only [Bool.or_eq_true, Bool.and_eq_true, decide_eq_true_eq, beq_iff_eq] at *
    rcases h with h | ⟨rfl, h⟩
    · rcases k with k | ⟨rfl, k⟩
      · exact .inl (UInt8.lt_trans h k)
      · exact .inl h
    · rcases k with k | ⟨rfl, k⟩
      · exact .inl k
      · exact .inr ⟨rfl, bl_trans h k⟩
theorem bl_asymm {x y : List UInt8} (h : Op.bytesLess x y = true) : Op.bytesLess y x = false := by
  cases k : Op.bytesLess y x with
  | false => rfl
  | true => have := bl_trans h k; rw [bl_irr] at this; cases this
theorem leB_geq (a b : ByteArray) : leB a b = !sLt b a := by
  unfold leB sLt sEq
  rcases bl_tri a.toList b.toList with h | h | h
  · rw [h, bl_asymm h]; rfl
  · rw [h, bl_irr]; simp
  · rw [h, bl_asymm h]
    have : (a.toList == b.toList) = false := by
      apply beq_eq_false_iff_ne.2
      intro e; rw [e, bl_irr] at h; cases h
    rw [this]; rfl
theorem nil_lt {a : ByteArray} (h : 1 ≤ (a.size : Int)) : sLt ⟨#[]⟩ a = true := by
  unfold sLt
  have h0 : (⟨#[]⟩ : ByteArray).toList = [] := by rw [Lib.toList_data]
  rw [h0]
  rw [sz_list] at h
  rw [Lib.toList_data]
  cases h2 : a.data.toList with
  | nil => rw [h2] at h; simp at h
  | cons x r => rfl
theorem index_any : ∀ l : List UInt8, decide (Lib.indexByte l 0 < 0) = !l.any (· == 0)
  | [] => rfl
  | b :: r => by
    have ih := index_any r
    have ge := Lib.indexByte_ge r 0
    unfold Lib.indexByte
    by_cases hb : b = 0
    · subst hb; simp
    · have h1 : (b == 0) = false := by simpa using hb
      rw [h1]
      simp only [Bool.false_eq_true, if_false, List.any_cons, h1, Bool.false_or]
      rw [← ih]
      by_cases hm : Lib.indexByte r 0 = -1
      · simp [hm]
      · have : (Lib.indexByte r 0 == -1) = false := by simpa using hm
        simp only [this, Bool.false_eq_true, if_false]
        have h2 : ¬ Lib.indexByte r 0 < 0 := by omega
        have h3 : ¬ Lib.indexByte r 0 + 1 < 0 := by omega
        simp [h2, h3]
theorem nul_iff (s : ByteArray) : decide (nulAt s < 0) = !nulB s 0 := by
  unfold nulAt nulB
  rw [index_any]; simp
/-- What is wrong with an attribute, as the reference asks. -/
theorem badX_ref (x : XaD) (last : ByteArray) : badX x last = (decide ((x.1.size : Int) < 1) || decide ((x.1.size : Int) > 40) || nulB x.1 0 || decide ((x.2.1.length : Int) > 200) || !sLt last x.1) := by
  unfold badX plainS withinI
  rw [nul_iff, leB_geq]
  rw [Bool.eq_iff_iff]
  simp only [Bool.or_eq_true, Bool.not_eq_true', Bool.and_eq_false_iff, decide_eq_false_iff_not, decide_eq_true_eq, Bool.not_eq_false']
  constructor
  · rintro ((h | h) | h)
    · rcases h with (h | h) | h
      · exact .inl (.inl (.inl (.inl (by omega))))
      · exact .inl (.inl (.inl (.inr (by omega))))
      · exact .inl (.inl (.inr h))
    · exact .inr h
    · exact .inl (.inr h)
  · rintro ((((h | h) | h) | h) | h)
    · exact .inl (.inl (.inl (.inl (by omega))))
    · exact .inl (.inl (.inl (.inr (by omega))))
    · exact .inl (.inl (.inr h))
    · exact .inr h
    · exact .inl (.inr h)
def prevN (l : List XaD) (k : Int) : ByteArray := if k > 0 then (@List.getD XaD l (k - 1).toNat (⟨#[]⟩, [], ())).1 else ⟨#[]⟩
/-! ### Nodes -/
abbrev NoD := List ByteArray × Int × Int × (Int × Int × Int × Unit) × List UInt8 × ByteArray × List XaD × Bool × Unit
def noB (s : ByteArray) : Bool := sEq s ⟨#[]⟩
def may3 (m u g : Int) : Bool := withinI m 0 511 && withinI u 0 65535 && withinI g 0 65535
/-- Whether a node of a tree may be. -/
def mayT (x : NoD) : Bool :=
  if x.2.2.1 = 1 then ((x.2.2.2.2.1.length : Int) == 0) && noB x.2.2.2.2.2.1 && !x.2.2.2.2.2.2.2.1 && may3 x.2.2.2.1.1 x.2.2.2.1.2.1 x.2.2.2.1.2.2.1 && xattrsB x.2.2.2.2.2.2.1
  else if x.2.2.1 = 2 then decide ((x.2.2.2.2.1.length : Int) ≤ 4096) && noB x.2.2.2.2.2.1 && !x.2.2.2.2.2.2.2.1 && may3 x.2.2.2.1.1 x.2.2.2.1.2.1 x.2.2.2.1.2.2.1 && xattrsB x.2.2.2.2.2.2.1
  else if x.2.2.1 = 3 then ((x.2.2.2.2.1.length : Int) == 0) && plainS x.2.2.2.2.2.1 200 && !x.2.2.2.2.2.2.2.1 && may3 x.2.2.2.1.1 x.2.2.2.1.2.1 x.2.2.2.1.2.2.1 && xattrsB x.2.2.2.2.2.2.1
  else false
/-- The first place of one of which p holds, or -1. -/
def idxF {α : Type} (p : α → Bool) : List α → Int → Int
  | [], _ => -1
  | x :: r, k => if p x then k else idxF p r (k + 1)
theorem idxF_any {α : Type} {p : α → Bool} : ∀ {l : List α} {k : Int}, 0 ≤ k → decide (idxF p l k ≥ 0) = l.any p
  | [], _, _ => rfl
  | x :: r, k, h => by
    unfold idxF
    rw [List.any_cons]
    cases hp : p x with
    | true => simp [h]
    | false => simpa using idxF_any (l := r) (p := p) (k := k + 1) (by omega)
/-- A mark that may not be. -/
def badM (x : NoD) : Bool := x.2.2.1 == 4 && (!(x.2.2.2.1.1 == 0 && (x.2.2.2.1.2.1 == 0 && x.2.2.2.1.2.2.1 == 0)) || decide ((x.2.2.2.2.1.length : Int) > 0) || !sEq x.2.2.2.2.2.1 ⟨#[]⟩ || decide ((x.2.2.2.2.2.2.1.length : Int) > 0) || x.2.2.2.2.2.2.2.1)
/-- .. of an upper branch's tree. -/
def mayU (x : NoD) : Bool := if x.2.2.1 = 4 then !badM x else mayT (x.1, x.2.1, x.2.2.1, x.2.2.2.1, x.2.2.2.2.1, x.2.2.2.2.2.1, x.2.2.2.2.2.2.1, (if x.2.2.1 = 1 then false else x.2.2.2.2.2.2.2.1), ())
/-- The same, as the reference asks. -/
def refMay (x : NoD) : Bool :=
  if decide (x.2.2.1 < 1) || (decide (x.2.2.1 > 3) || x.2.2.2.2.2.2.2.1) then false
  else if decide (x.2.2.2.1.1 < 0) || (decide (x.2.2.2.1.1 > 511) || (decide (x.2.2.2.1.2.1 < 0) || (decide (x.2.2.2.1.2.1 > 65535) || (decide (x.2.2.2.1.2.2.1 < 0) || decide (x.2.2.2.1.2.2.1 > 65535))))) then false
  else if (x.2.2.1 != 2 && decide ((x.2.2.2.2.1.length : Int) > 0)) || decide ((x.2.2.2.2.1.length : Int) > 4096) then false
  else if (x.2.2.1 != 3 && !sEq x.2.2.2.2.2.1 ⟨#[]⟩) || (x.2.2.1 == 3 && (sEq x.2.2.2.2.2.1 ⟨#[]⟩ || (decide ((x.2.2.2.2.2.1.size : Int) > 200) || nulB x.2.2.2.2.2.1 0))) then false
  else xattrsB x.2.2.2.2.2.2.1
theorem noB_size (s : ByteArray) : sEq s ⟨#[]⟩ = !decide (1 ≤ (s.size : Int)) := by
  unfold sEq
  have h1 : (⟨#[]⟩ : ByteArray).toList = [] := by rw [Lib.toList_data]
  rw [h1, Lib.toList_data, sz_list]
  cases s.data.toList with
  | nil => rfl
  | cons x r =>
    have : decide (1 ≤ ((x :: r).length : Int)) = true := by simp; omega
    rw [this]; rfl
theorem may3_ref (m u g : Int) : may3 m u g = !(decide (m < 0) || (decide (m > 511) || (decide (u < 0) || (decide (u > 65535) || (decide (g < 0) || decide (g > 65535)))))) := by
  unfold may3 withinI
  rw [Bool.eq_iff_iff]
  simp only [Bool.and_eq_true, decide_eq_true_eq, Bool.not_eq_true', Bool.or_eq_false_iff, decide_eq_false_iff_not]
  omega
theorem refMay_eq (x : NoD) : refMay x = mayT x := by
  obtain ⟨path, ino, kind, ⟨m, u, g, un⟩, data, target, xs, opq, un2⟩ := x
  unfold refMay mayT noB plainS
  simp only
  rw [nul_iff, noB_size, may3_ref]
  unfold withinI
  generalize (decide (m < 0) || (decide (m > 511) || (decide (u < 0) || (decide (u > 65535) || (decide (g < 0) || decide (g > 65535)))))) = M
  generalize nulB target 0 = N
  generalize xattrsB xs = X
  generalize target.size = ts
  generalize data.length = dl
  have D : (decide ((dl : Int) > 0) = false ∧ decide ((dl : Int) > 4096) = false ∧ decide ((dl : Int) ≤ 4096) = true ∧ ((dl : Int) == 0) = true) ∨ (decide ((dl : Int) > 0) = true ∧ decide ((dl : Int) > 4096) = false ∧ decide ((dl : Int) ≤ 4096) = true ∧ ((dl : Int) == 0) = false) ∨
      (decide ((dl : Int) > 0) = true ∧ decide ((dl : Int) > 4096) = true ∧ decide ((dl : Int) ≤ 4096) = false ∧ ((dl : Int) == 0) = false) := by
    simp only [decide_eq_true_eq, decide_eq_false_iff_not, beq_iff_eq, beq_eq_false_iff_ne]
    omega
  have T : (decide (1 ≤ (ts : Int)) = false ∧ decide ((ts : Int) > 200) = false ∧ decide ((ts : Int) ≤ 200) = true) ∨ (decide (1 ≤ (ts : Int)) = true ∧ decide ((ts : Int) > 200) = false ∧ decide ((ts : Int) ≤ 200) = true) ∨ (decide (1 ≤ (ts : Int)) = true ∧ decide ((ts : Int) > 200) = true ∧ decide ((ts : Int) ≤ 200) = false) := by
    simp only [decide_eq_true_eq, decide_eq_false_iff_not]
    omega
  by_cases k1 : kind = 1
  · subst k1
    rcases D with ⟨d1, d2, d3, d4⟩ | ⟨d1, d2, d3, d4⟩ | ⟨d1, d2, d3, d4⟩ <;> rcases T with ⟨t1, t2, t3⟩ | ⟨t1, t2, t3⟩ | ⟨t1, t2, t3⟩ <;> simp only [d1, d2, d3, d4, t1, t2, t3] <;> cases opq <;> cases M <;> cases X <;> cases N <;> rfl
  · by_cases k2 : kind = 2
    · subst k2
      rcases D with ⟨d1, d2, d3, d4⟩ | ⟨d1, d2, d3, d4⟩ | ⟨d1, d2, d3, d4⟩ <;> rcases T with ⟨t1, t2, t3⟩ | ⟨t1, t2, t3⟩ | ⟨t1, t2, t3⟩ <;> simp only [d1, d2, d3, d4, t1, t2, t3] <;> cases opq <;> cases M <;> cases X <;> cases N <;> rfl
    · by_cases k3 : kind = 3
      · subst k3
        rcases D with ⟨d1, d2, d3, d4⟩ | ⟨d1, d2, d3, d4⟩ | ⟨d1, d2, d3, d4⟩ <;> rcases T with ⟨t1, t2, t3⟩ | ⟨t1, t2, t3⟩ | ⟨t1, t2, t3⟩ <;> simp only [d1, d2, d3, d4, t1, t2, t3] <;> cases opq <;> cases M <;> cases X <;> cases N <;> rfl
      · have h : (decide (kind < 1) || (decide (kind > 3) || opq)) = true := by
          by_cases ha : kind < 1
          · simp [ha]
          · have : kind > 3 := by omega
            simp [this]
        rw [h]; simp [k1, k2, k3]
/-- A tree cut short. -/
def clipN (x : NoD) : NoD := (x.1.take 18, x.2.1, x.2.2.1, x.2.2.2.1, x.2.2.2.2.1.take 1500, x.2.2.2.2.2.1, x.2.2.2.2.2.2.1.take 10, x.2.2.2.2.2.2.2.1, ())
theorem take_ixD {e : Ty} {l : List e.den} {k : Int} (h0 : 0 ≤ k) (h1 : k < l.length) : l.take (k + 1).toNat = l.take k.toNat ++ [ixD e l k] := by
  have hlt : k.toNat < l.length := by omega
  rw [show (k + 1).toNat = k.toNat + 1 by omega, List.take_add_one, List.getElem?_eq_getElem hlt]
  unfold ixD
  rw [List.getD_eq_getElem?_getD, List.getElem?_eq_getElem hlt]; rfl
/-! ### Names -/
def slashB (s : ByteArray) (k : Nat) : Bool := (s.data.toList.drop k).any fun b => b == 0 || b == 47
theorem byte_eq {b : UInt8} {n : Nat} (h : n < 256) : (b == UInt8.ofNat n) = ((b.toNat : Int) == (n : Int)) := by
  rw [Bool.eq_iff_iff]
  simp only [beq_iff_eq]
  constructor
  · intro e; subst e
    have : (UInt8.ofNat n).toNat = n := UInt8.toNat_ofNat_of_lt' h
    rw [this]
  · intro e
    have e' : b.toNat = n := by omega
    exact UInt8.toNat_inj.1 (by rw [e', UInt8.toNat_ofNat_of_lt' h])
theorem drop_byte {s : ByteArray} {k : Int} (h0 : 0 ≤ k) (h1 : k < s.size) : s.data.toList.drop k.toNat = byteAt s k :: s.data.toList.drop (k + 1).toNat := by
  have hlt : k.toNat < s.data.toList.length := by rw [← sz_list]; omega
  rw [List.drop_eq_getElem_cons hlt, show k.toNat + 1 = (k + 1).toNat by omega]
  congr 1
  have h2 : k.toNat < s.size := by omega
  have hb : s[k.toNat]? = some s[k.toNat] := by simp [h2]
  unfold byteAt
  rw [hb]
  show s.data.toList[k.toNat] = s[k.toNat]
  simp [ByteArray.getElem_eq_getElem_data]
theorem slashB_step {s : ByteArray} {k : Int} (h0 : 0 ≤ k) (h1 : k < s.size) : slashB s k.toNat = (((byteAt s k).toNat : Int) == 0 || (((byteAt s k).toNat : Int) == 47 || slashB s (k + 1).toNat)) := by
  unfold slashB
  rw [drop_byte h0 h1, List.any_cons, show (0 : UInt8) = UInt8.ofNat 0 from rfl, show (47 : UInt8) = UInt8.ofNat 47 from rfl, byte_eq (n := 0) (by omega), byte_eq (n := 47) (by omega), Bool.or_assoc]
  rfl
theorem slashB_end {s : ByteArray} {k : Int} (h : ¬ k < s.size) (h0 : 0 ≤ k) : slashB s k.toNat = false := by
  unfold slashB
  rw [List.drop_eq_nil_of_le (by rw [← sz_list]; omega)]; rfl
def dotsB (s : ByteArray) : Bool := sEq s ⟨#[]⟩ || (sEq s ⟨#[46]⟩ || sEq s ⟨#[46, 46]⟩)
/-- What is wrong with a name. -/
def validN (s : ByteArray) : Int := if (s.size : Int) > 255 then 23 else if slashB s 0 || dotsB s then 22 else 0
/-- Two rows of names are the same. -/
def sameN : List ByteArray → List ByteArray → Bool
  | [], [] => true
  | x :: a, y :: b => sEq x y && sameN a b
  | _, _ => false
theorem sameN_len : ∀ {a b : List ByteArray}, a.length ≠ b.length → sameN a b = false
  | [], [], h => absurd rfl h
  | _ :: a, _ :: b, h => by
    unfold sameN
    rw [sameN_len (a := a) (b := b) (by simpa using h), Bool.and_false]
  | [], _ :: _, _ => rfl
  | _ :: _, [], _ => rfl
theorem idxF_spec {α : Type} {p : α → Bool} : ∀ {l : List α} {k : Int}, (idxF p l k = -1 ∧ l.find? p = none) ∨ ∃ j : Nat, idxF p l k = k + j ∧ j < l.length ∧ l.find? p = l[j]?
  | [], _ => .inl ⟨rfl, rfl⟩
  | x :: r, k => by
    unfold idxF
    rw [List.find?_cons]
    cases hp : p x with
    | true => exact .inr ⟨0, by simp, by simp, rfl⟩
    | false =>
      simp only [Bool.false_eq_true, if_false]
      rcases idxF_spec (l := r) (p := p) (k := k + 1) with ⟨h1, h2⟩ | ⟨j, h1, h2, h3⟩
      · exact .inl ⟨h1, h2⟩
      · exact .inr ⟨j + 1, by rw [h1]; omega, by simpa using h2, by rw [h3]; rfl⟩
/-- A node of that name. -/
def isNm (names : List ByteArray) (x : NoD) : Bool := sameN x.1 names
/-- Is a directory of that name there? -/
def isDirB (l : List NoD) (names : List ByteArray) : Bool := match l.find? (isNm names) with
  | some x => x.2.2.1 == 1
  | none => false
/-! ### Maps -/
theorem put_len {k : Kk} {α : Type} {l : List (k.den × α)} {x : k.den} {v : α} : (k.put l x v).length ≤ l.length + 1 := by
  unfold Kk.put putK
  rw [List.length_cons]
  have : (@delK k.den k.key _ l x).length ≤ l.length := by
    unfold delK
    exact List.length_filter_le _ _
  omega
/-- Is a directory told twice? (As the map says.) -/
def opqGo : List NoD → List (Int × Bool) → Bool
  | [], _ => false
  | x :: r, m => if (Kk.get .int m x.2.1).getD false then true else opqGo r (Kk.put .int m x.2.1 (x.2.2.1 == 1))
end Go.Lm

/- Plain facts on quoted texts. General: no program in sight. -/
namespace Go.Lm
open Go Go.RowKit
/-! ### Runes -/
theorem u8_int {z : Int} {m : Nat} (h : z = (m : Int)) : z.toNat.toUInt8 = UInt8.ofNat m := by
  subst h; rfl
theorem enc_eq (r : Int) : (Utf8.encode r).data.toList = Lib.encodeRune r := by
  unfold Utf8.encode Lib.encodeRune
  by_cases hv : Utf8.valid r = true
  · rw [if_pos hv]
    unfold Utf8.valid at hv
    simp only [Bool.and_eq_true, Bool.or_eq_true, decide_eq_true_eq] at hv
    obtain ⟨m, rfl⟩ : ∃ m : Nat, r = m := ⟨r.toNat, by omega⟩
    simp only [Int.toNat_natCast]
    split
    · rw [Lib.encodeRuneZ_one (by omega) (by omega)]
      simp only [List.map_cons, List.map_nil]
      rw [u8_int (m := m) rfl]
    · split
      · rw [Lib.encodeRuneZ_two (by omega) (by omega)]
        simp only [List.map_cons, List.map_nil]
        rw [u8_int (m := 192 + m / 64) (by omega), u8_int (m := 128 + m % 64) (by omega)]
      · split
        · rw [Lib.encodeRuneZ_three (by omega)]
          simp only [List.map_cons, List.map_nil]
          rw [u8_int (m := 224 + m / 4096) (by omega), u8_int (m := 128 + m / 64 % 64) (by omega), u8_int (m := 128 + m % 64) (by omega)]
        · rw [Lib.encodeRuneZ_four (by omega) (by omega)]
          simp only [List.map_cons, List.map_nil]
          rw [u8_int (m := 240 + m / 262144) (by omega), u8_int (m := 128 + m / 4096 % 64) (by omega), u8_int (m := 128 + m / 64 % 64) (by omega), u8_int (m := 128 + m % 64) (by omega)]
  · rw [if_neg hv]
    unfold Utf8.valid at hv
    simp only [Bool.and_eq_true, Bool.or_eq_true, decide_eq_true_eq] at hv
    rw [Lib.encodeRuneZ_bad (by omega)]
    rfl
theorem lst_ext {a b : ByteArray} (h : a.data.toList = b.data.toList) : a = b := by
  cases a with
  | mk x => cases b with
    | mk y =>
      have : x = y := Array.toList_inj.1 h
      rw [this]
theorem sEq_lst (a b : ByteArray) : sEq a b = (a.data.toList == b.data.toList) := by
  unfold sEq
  rw [Lib.toList_data, Lib.toList_data]
theorem ext_lst (s : ByteArray) (p q : Nat) : (s.extract p q).data.toList = (s.data.toList.take q).drop p := by
  rw [ByteArray.data_extract, Array.toList_extract, List.extract_eq_take_drop, List.drop_take]
def hasPre (s p : ByteArray) : Bool := decide ((p.size : Int) ≤ s.size) && sEq (s.extract 0 p.size) p
/-- A rune that stands for itself. -/
def selfC (c : Int) : Bool := if c == 39 || c == 37 then false else (decide (33 ≤ c) && decide (c ≤ 126)) || (decide (161 ≤ c) && decide (c ≤ 65535))
def selfR (c n : Int) : Bool := if c == 39 || c == 37 then false else (decide (33 ≤ c) && decide (c ≤ 126)) || (decide (161 ≤ c) && decide (c ≤ 65535) && (c != 65533 || n == 3))
/-- A digit to the base 16. -/
def hx (n : Nat) : UInt8 := ([48, 49, 50, 51, 52, 53, 54, 55, 56, 57, 97, 98, 99, 100, 101, 102] : List UInt8).getD n 0
def hex3 (b : UInt8) : List UInt8 := [37, hx (b.toNat / 16), hx (b.toNat % 16)]
/-- A text quoted, from place p on. -/
def qOne (s : ByteArray) (p : Nat) : List UInt8 := if selfR (Utf8.decode s p).1 (Utf8.decode s p).2 then (s.data.toList.drop p).take (Utf8.decode s p).2 else ((s.data.toList.drop p).take (Utf8.decode s p).2).flatMap hex3
def qGo (s : ByteArray) : Nat → Nat → List UInt8
  | 0, _ => []
  | f + 1, p => if p < s.size then qOne s p ++ qGo s f (p + (Utf8.decode s p).2) else []
def quoteN (s : ByteArray) : ByteArray := bstr (39 :: (qGo s s.size 0 ++ [39]))
section
variable {s : ByteArray} {p : Nat}
theorem dec_l (s : ByteArray) (p : Nat) : Utf8.decode s p = Lib.decodeL (s.data.toList.drop p) := (Lib.decodeL_drop s p).symm
theorem dec_pos (s : ByteArray) (p : Nat) : 1 ≤ (Utf8.decode s p).2 := by rw [dec_l]; exact Lib.decodeL_width _
theorem drop_ne (h : p < s.size) : s.data.toList.drop p ≠ [] := by
  rw [sz_list] at h
  intro e
  have := List.drop_eq_nil_iff.1 e
  omega
theorem dec_le (h : p < s.size) : p + (Utf8.decode s p).2 ≤ s.size := by
  rw [dec_l]
  have := Lib.decodeL_le _ (drop_ne h)
  rw [List.length_drop, ← sz_list] at this
  omega
/-- The rune's bytes: what a rune that is right is written as. -/
theorem dec_good (h : p < s.size) (hv : ¬ ((Utf8.decode s p).1 = 65533 ∧ (Utf8.decode s p).2 = 1)) :
    hasPre (s.extract p s.size) (Utf8.encode (Utf8.decode s p).1) = true ∧ Lib.runeLen (Utf8.decode s p).1 = ((Utf8.decode s p).2 : Int) ∧ ((Utf8.decode s p).1 = 65533 → (Utf8.decode s p).2 = 3) := by
  have hle := dec_le h
  have hlen : (s.data.toList.drop p).length = s.size - p := by rw [List.length_drop, ← sz_list]
  have hx : (s.extract p s.size).data.toList = s.data.toList.drop p := by
    rw [ext_lst, List.take_of_length_le (by rw [sz_list]; omega)]
  rw [dec_l] at *
  have he := Lib.encode_decode _ (drop_ne h) hv
  have e : (Utf8.encode ((Lib.decodeL (s.data.toList.drop p)).1 : Int)).data.toList = (s.data.toList.drop p).take (Lib.decodeL (s.data.toList.drop p)).2 := by rw [enc_eq, he]
  have hes : (Utf8.encode ((Lib.decodeL (s.data.toList.drop p)).1 : Int)).size = (Lib.decodeL (s.data.toList.drop p)).2 := by
    rw [sz_list, e, List.length_take, hlen]; omega
  have h3 : (Lib.decodeL (s.data.toList.drop p)).1 = 65533 → (Lib.decodeL (s.data.toList.drop p)).2 = 3 := fun h1 => by
    rw [← hes, h1]; rfl
  refine ⟨?_, ?_, h3⟩
  · unfold hasPre
    rw [Bool.and_eq_true, decide_eq_true_eq, sEq_lst, beq_iff_eq, ext_lst, hx, hes, List.drop_zero, e]
    refine ⟨?_, rfl⟩
    have : (s.extract p s.size).size = s.size - p := by rw [sz_list, hx, hlen]
    omega
  · by_cases h1 : (Lib.decodeL (s.data.toList.drop p)).1 = 65533
    · rw [h3 h1, h1]; rfl
    · exact Lib.runeLen_decode _ h1
theorem dec_bad (_ : p < s.size) (hv : (Utf8.decode s p).1 = 65533 ∧ (Utf8.decode s p).2 = 1) : hasPre (s.extract p s.size) (Utf8.encode 65533) = false := by
  cases hb : hasPre (s.extract p s.size) (Utf8.encode 65533) with
  | false => rfl
  | true =>
    exfalso
    have hx : (s.extract p s.size).data.toList = s.data.toList.drop p := by
      rw [ext_lst, List.take_of_length_le (by rw [sz_list]; omega)]
    unfold hasPre at hb
    rw [Bool.and_eq_true, decide_eq_true_eq, sEq_lst, beq_iff_eq, ext_lst, hx, List.drop_zero] at hb
    obtain ⟨_, hb⟩ := hb
    have hb : (s.data.toList.drop p).take 3 = [239, 191, 189] := hb
    rw [dec_l, Lib.decodeL_N] at hv
    match hl : s.data.toList.drop p, hb with
    | a :: b :: c :: r, hb =>
      simp only [List.take_succ_cons, List.take_zero, List.cons.injEq, and_true] at hb
      obtain ⟨rfl, rfl, rfl⟩ := hb
      rw [hl] at hv
      simp [Lib.decodeN] at hv
theorem qGo_step (h : p < s.size) : qGo s (s.size - p) p = qOne s p ++ qGo s (s.size - (p + (Utf8.decode s p).2)) (p + (Utf8.decode s p).2) := by
  have more : ∀ f f' q, s.size - q ≤ f → s.size - q ≤ f' → qGo s f q = qGo s f' q := by
    intro f
    induction f with
    | zero =>
      intro f' q h1 _
      cases f' with
      | zero => rfl
      | succ f' => unfold qGo; rw [if_neg (by omega)]
    | succ f ih =>
      intro f' q h1 h2
      have hw := dec_pos s q
      cases f' with
      | zero => unfold qGo; rw [if_neg (by omega)]
      | succ f' =>
        unfold qGo
        by_cases hq : q < s.size
        · rw [if_pos hq, if_pos hq, ih f' _ (by omega) (by omega)]
        · rw [if_neg hq, if_neg hq]
  have hw := dec_pos s p
  obtain ⟨f, hf⟩ : ∃ f, s.size - p = f + 1 := ⟨s.size - p - 1, by omega⟩
  rw [hf]
  show (if p < s.size then qOne s p ++ qGo s f (p + (Utf8.decode s p).2) else []) = _
  rw [if_pos h, more f (s.size - (p + (Utf8.decode s p).2)) _ (by omega) (by omega)]
theorem qGo_end (h : ¬ p < s.size) (f : Nat) : qGo s f p = [] := by
  cases f with
  | zero => rfl
  | succ f => unfold qGo; rw [if_neg h]
theorem bytes_at (s : ByteArray) (p m : Nat) : (s.extract p (p + m)).data.toList = (s.data.toList.drop p).take m := by
  rw [ext_lst, List.drop_take, Nat.add_sub_cancel_left]
end
/-! ### Bytes to the base 16 -/
abbrev digS : ByteArray := ⟨#[48, 49, 50, 51, 52, 53, 54, 55, 56, 57, 97, 98, 99, 100, 101, 102]⟩
theorem hexAll : ∀ m : Fin 256, (shrI .u8 ((UInt8.ofNat m.val).toNat : Int) 4 = (((UInt8.ofNat m.val).toNat / 16 : Nat) : Int) ∧ bitsI .and .u8 ((UInt8.ofNat m.val).toNat : Int) 15 = (((UInt8.ofNat m.val).toNat % 16 : Nat) : Int)) ∧
    [UInt8.ofNat 37, UInt8.ofNat (Int.toNat ((byteAt digS (shrI .u8 ((UInt8.ofNat m.val).toNat : Int) 4)).toNat : Int)), UInt8.ofNat (Int.toNat ((byteAt digS (bitsI .and .u8 ((UInt8.ofNat m.val).toNat : Int) 15)).toNat : Int))] = hex3 (UInt8.ofNat m.val) := by decide +kernel
theorem hexB (b : UInt8) : (shrI .u8 (b.toNat : Int) 4 = ((b.toNat / 16 : Nat) : Int) ∧ bitsI .and .u8 (b.toNat : Int) 15 = ((b.toNat % 16 : Nat) : Int)) ∧
    [UInt8.ofNat 37, UInt8.ofNat (Int.toNat ((byteAt digS (shrI .u8 (b.toNat : Int) 4)).toNat : Int)), UInt8.ofNat (Int.toNat ((byteAt digS (bitsI .and .u8 (b.toNat : Int) 15)).toNat : Int))] = hex3 b := by
  have := hexAll ⟨b.toNat, UInt8.toNat_lt b⟩
  simpa using this
theorem hexAll2 : ∀ m : Fin 256, (IntKind.wrap .u8 (Int.tdiv ((UInt8.ofNat m.val).toNat : Int) 16) = (((UInt8.ofNat m.val).toNat / 16 : Nat) : Int) ∧ Int.tmod ((UInt8.ofNat m.val).toNat : Int) 16 = (((UInt8.ofNat m.val).toNat % 16 : Nat) : Int)) ∧
    [UInt8.ofNat 37, UInt8.ofNat (Int.toNat ((byteAt digS (IntKind.wrap .u8 (Int.tdiv ((UInt8.ofNat m.val).toNat : Int) 16))).toNat : Int)), UInt8.ofNat (Int.toNat ((byteAt digS (Int.tmod ((UInt8.ofNat m.val).toNat : Int) 16)).toNat : Int))] = hex3 (UInt8.ofNat m.val) := by decide +kernel
theorem hexB2 (b : UInt8) : (IntKind.wrap .u8 (Int.tdiv (b.toNat : Int) 16) = ((b.toNat / 16 : Nat) : Int) ∧ Int.tmod (b.toNat : Int) 16 = ((b.toNat % 16 : Nat) : Int)) ∧
    [UInt8.ofNat 37, UInt8.ofNat (Int.toNat ((byteAt digS (IntKind.wrap .u8 (Int.tdiv (b.toNat : Int) 16))).toNat : Int)), UInt8.ofNat (Int.toNat ((byteAt digS (Int.tmod (b.toNat : Int) 16)).toNat : Int))] = hex3 b := by
  have := hexAll2 ⟨b.toNat, UInt8.toNat_lt b⟩
  simpa using this
theorem u8_back (b : UInt8) : UInt8.ofNat (Int.toNat (b.toNat : Int)) = b := by simp
theorem dec_ext (s : ByteArray) (p : Nat) : Utf8.decode (s.extract p s.size) 0 = Utf8.decode s p := by
  rw [dec_l, dec_l, List.drop_zero, ext_lst, List.take_of_length_le (by rw [sz_list]; omega)]
theorem take_next {s : ByteArray} {p : Nat} {k : Int} (h0 : 0 ≤ k) (h : (p : Int) + k < s.size) : (s.data.toList.drop p).take (k + 1).toNat = (s.data.toList.drop p).take k.toNat ++ [byteAt s ((p : Int) + k)] := by
  have hd := drop_byte (s := s) (k := (p : Int) + k) (by omega) h
  rw [show ((p : Int) + k).toNat = p + k.toNat by omega, ← List.drop_drop] at hd
  rw [show (k + 1).toNat = k.toNat + 1 by omega, List.take_add_one]
  congr 1
  have : (s.data.toList.drop p)[k.toNat]? = (((s.data.toList.drop p).drop k.toNat))[0]? := by simp
  rw [this, hd]; rfl
/-- How a rune's bytes are written. -/
def outG (g : Bool) (l : List UInt8) : List UInt8 := if g then l else l.flatMap hex3
theorem outG_app (g : Bool) (l m : List UInt8) : outG g (l ++ m) = outG g l ++ outG g m := by
  unfold outG
  cases g
  · exact List.flatMap_append
  · rfl
theorem outG_len (g : Bool) (l : List UInt8) : (outG g l).length ≤ 3 * l.length := by
  unfold outG
  cases g
  · rw [if_neg (by decide)]
    have : ∀ l : List UInt8, (l.flatMap hex3).length = 3 * l.length := by
      intro l
      induction l with
      | nil => rfl
      | cons b l ih =>
        rw [List.flatMap_cons, List.length_append, ih, List.length_cons]
        show 3 + 3 * l.length = _
        omega
    rw [this]; exact Nat.le_refl _
  · rw [if_pos rfl]; omega
theorem qOne_G (s : ByteArray) (p : Nat) : qOne s p = outG (selfR (Utf8.decode s p).1 (Utf8.decode s p).2) ((s.data.toList.drop p).take (Utf8.decode s p).2) := rfl
theorem hex_len : ∀ l : List UInt8, (l.flatMap hex3).length = 3 * l.length
  | [] => rfl
  | b :: l => by
    rw [List.flatMap_cons, List.length_append, hex_len l, List.length_cons]
    show 3 + 3 * l.length = _
    omega
/-! ### Texts unquoted -/
def hexI (c : UInt8) : Int := Lib.indexByte digS.data.toList c
def u16 (a b : UInt8) : UInt8 := UInt8.ofNat ((hexI a).toNat * 16 + (hexI b).toNat)
/-- What stands between the quotes, as the program reads it. -/
def uD : List UInt8 → Option (List UInt8)
  | [] => some []
  | c :: r => if c != 37 then (uD r).map (c :: ·) else match r with
    | a :: b :: q => if decide (hexI a < 0) || decide (hexI b < 0) then none else (uD q).map (u16 a b :: ·)
    | _ => none
theorem uD_raw {c : UInt8} {r : List UInt8} (h : (c != 37) = true) : uD (c :: r) = (uD r).map (c :: ·) := by
  conv => lhs; unfold uD
  rw [if_pos h]
theorem uD_hex {c a b : UInt8} {q : List UInt8} (h : (c != 37) = false) : uD (c :: a :: b :: q) = if decide (hexI a < 0) || decide (hexI b < 0) then none else (uD q).map (u16 a b :: ·) := by
  conv => lhs; unfold uD
  rw [if_neg (by rw [h]; decide)]
def unqD (s : ByteArray) : ByteArray × Int :=
  if decide ((s.size : Int) - 1 < 1) || (((byteAt s 0).toNat : Int) != 39 || ((byteAt s ((s.size : Int) - 1)).toNat : Int) != 39) then (⟨#[]⟩, 240)
  else match uD ((s.data.toList.drop 1).take (s.size - 2)) with
    | none => (⟨#[]⟩, 240)
    | some l => if sEq (quoteN (bstr l)) s then (bstr l, 0) else (⟨#[]⟩, 240)
/-- A digit's number, or 0. -/
def digR (c : Int) : Int := if hexI c.toNat.toUInt8 < 0 then 0 else hexI c.toNat.toUInt8
theorem digR_in (c : Int) : 0 ≤ digR c ∧ digR c < 16 := by
  unfold digR
  have := Lib.indexByte_ge digS.data.toList c.toNat.toUInt8
  have h2 : hexI c.toNat.toUInt8 < 16 := (indexByte_in digS.data.toList c.toNat.toUInt8).2
  split <;> omega
theorem dig_hit : ∀ i : Fin 16, hexI (byteAt digS (i.val : Int)) = (i.val : Int) := by decide +kernel
theorem dig_miss : ∀ m : Fin 256, (∀ j : Fin 16, (byteAt digS (j.val : Int)).toNat ≠ m.val) → hexI (UInt8.ofNat m.val) = -1 := by decide +kernel
def d16 (a b : UInt8) : UInt8 := UInt8.ofNat ((digR a.toNat).toNat * 16 + (digR b.toNat).toNat)
/-- What stands between the quotes, as the reference reads it. -/
def rU : List UInt8 → List UInt8
  | [] => []
  | c :: r => if c == 37 && decide (2 ≤ r.length) then (match r with
    | a :: b :: q => d16 a b :: rU q
    | _ => [c]) else c :: rU r
def unqR (s : ByteArray) : ByteArray × Int :=
  if decide ((s.size : Int) < 2) then (⟨#[]⟩, 240)
  else if sEq (quoteN (bstr (rU ((s.data.toList.drop 1).take (s.size - 2))))) s then (bstr (rU ((s.data.toList.drop 1).take (s.size - 2))), 0) else (⟨#[]⟩, 240)
theorem byteAt_get {z : ByteArray} {m : Nat} {c : UInt8} (h : z.data.toList[m]? = some c) : byteAt z (m : Int) = c := by
  have hlt : m < z.data.toList.length := (List.getElem?_eq_some_iff.1 h).1
  rw [← sz_list] at hlt
  unfold byteAt
  have h2 : z[(m : Int).toNat]? = some c := by
    rw [Int.toNat_natCast]
    have : z[m]? = some z[m] := by simp [hlt]
    rw [this]
    have h3 : z.data.toList[m]? = some z[m] := by
      rw [List.getElem?_eq_getElem (by rw [← sz_list]; exact hlt)]
      simp [ByteArray.getElem_eq_getElem_data]
    rw [h3] at h; exact h
  rw [h2]; rfl
theorem rU_raw {c : UInt8} {r : List UInt8} (h : (c == 37) = false) : rU (c :: r) = c :: rU r := by
  conv => lhs; unfold rU
  rw [h, Bool.false_and, if_neg (by decide)]
theorem rU_few {c : UInt8} {r : List UInt8} (h : ¬ 2 ≤ r.length) : rU (c :: r) = c :: rU r := by
  conv => lhs; unfold rU
  rw [decide_eq_false h, Bool.and_false, if_neg (by decide)]
theorem rU_hex {c a b : UInt8} {q : List UInt8} (h : (c == 37) = true) : rU (c :: a :: b :: q) = d16 a b :: rU q := by
  conv => lhs; unfold rU
  rw [h, decide_eq_true (by simp only [List.length_cons]; omega), Bool.and_true, if_pos rfl]
theorem d16All : ∀ h l : Fin 16, UInt8.ofNat (Int.toNat (IntKind.wrap .u8 (IntKind.wrap .u8 (16 * (h.val : Int)) + (l.val : Int)))) = UInt8.ofNat (h.val * 16 + l.val) := by decide +kernel
theorem d16_eq (a b : UInt8) : UInt8.ofNat (Int.toNat (IntKind.wrap .u8 (IntKind.wrap .u8 (16 * digR a.toNat) + digR b.toNat))) = d16 a b := by
  have h1 := digR_in a.toNat
  have h2 := digR_in b.toNat
  have := d16All ⟨(digR a.toNat).toNat, by omega⟩ ⟨(digR b.toNat).toNat, by omega⟩
  simp only [Int.toNat_of_nonneg h1.1, Int.toNat_of_nonneg h2.1] at this
  exact this
theorem u8_nat (b : UInt8) : Nat.toUInt8 (Int.toNat (b.toNat : Int)) = b := by simp
theorem hexI_in (c : UInt8) : -1 ≤ hexI c ∧ hexI c < 16 := by
  have := indexByte_in digS.data.toList c
  exact this
theorem orAll : ∀ h l : Fin 16, UInt8.ofNat (Int.toNat (IntKind.wrap .u8 (bitsI .or .i64 (shlI .i64 (h.val : Int) 4) (l.val : Int)))) = UInt8.ofNat (h.val * 16 + l.val) := by decide +kernel
theorem or_u16 {a b : UInt8} (ha : ¬ hexI a < 0) (hb : ¬ hexI b < 0) : UInt8.ofNat (Int.toNat (IntKind.wrap .u8 (bitsI .or .i64 (shlI .i64 (hexI a) 4) (hexI b)))) = u16 a b := by
  have h1 := hexI_in a
  have h2 := hexI_in b
  have := orAll ⟨(hexI a).toNat, by omega⟩ ⟨(hexI b).toNat, by omega⟩
  simp only [Int.toNat_of_nonneg (show 0 ≤ hexI a by omega), Int.toNat_of_nonneg (show 0 ≤ hexI b by omega)] at this
  exact this
theorem sEq_nil (z : ByteArray) : sEq z ⟨#[]⟩ = z.data.toList.isEmpty := by
  rw [sEq_lst]
  cases z.data.toList <;> rfl
theorem bstr_lst (l : List UInt8) : (bstr l).data.toList = l := by simp [bstr]
theorem lst_bstr (z : ByteArray) : bstr z.data.toList = z := lst_ext (bstr_lst _)
theorem selfR_good {c n : Int} (h : c = 65533 → n = 3) : selfR c n = selfC c := by
  unfold selfR selfC
  by_cases hc : c = 65533
  · rw [h hc]; subst hc; rfl
  · have : (c != 65533) = true := by simpa using hc
    rw [this, Bool.true_or, Bool.and_true]
end Go.Lm

/- Plain facts on quoted texts: they are read back. General: no program in sight. -/
namespace Go.Lm
open Go Go.RowKit
/-- What is not to be reckoned by looking. -/
noncomputable def veil {α : Type} (x : α) : α := Classical.choose (⟨x, rfl⟩ : ∃ y, y = x)
theorem veil_eq {α : Type} (x : α) : veil x = x := Classical.choose_spec (⟨x, rfl⟩ : ∃ y, y = x)
/-- A byte that may stand between the quotes. -/
def okQ (b : UInt8) : Bool := decide (33 ≤ b.toNat) && b != 127 && b != 39
theorem enc_raw {r : Nat} (h : selfC (r : Int) = true) : ∀ b ∈ Lib.encodeRune (r : Int), okQ b = true ∧ (b != 37) = true := by
  unfold selfC at h
  split at h
  · cases h
  rename_i h0
  simp only [Bool.or_eq_true, beq_iff_eq, not_or, Bool.and_eq_true, decide_eq_true_eq] at h0 h
  have hb : ∀ m : Nat, 33 ≤ m → m < 256 → m ≠ 127 → m ≠ 39 → m ≠ 37 → okQ (UInt8.ofNat m) = true ∧ (UInt8.ofNat m != 37) = true := by
    intro m h1 h2 h3 h4 h5
    have e : (UInt8.ofNat m).toNat = m := by rw [UInt8.toNat_ofNat']; omega
    have ne : ∀ c : UInt8, m ≠ c.toNat → (UInt8.ofNat m != c) = true := fun c hc => bne_iff_ne.2 fun e2 => hc (by rw [← e2, e])
    refine ⟨?_, ne 37 h5⟩
    unfold okQ
    rw [ne 127 h3, ne 39 h4, e, decide_eq_true h1]; rfl
  intro b hm
  unfold Lib.encodeRune at hm
  by_cases h1 : r < 128
  · rw [Lib.encodeRuneZ_one (by omega) (by omega)] at hm
    simp only [List.map_cons, List.map_nil, List.mem_singleton] at hm
    rw [hm, u8_int (m := r) rfl]
    exact hb r (by omega) (by omega) (by omega) (by omega) (by omega)
  · by_cases h2 : r < 2048
    · rw [Lib.encodeRuneZ_two (by omega) (by omega)] at hm
      simp only [List.map_cons, List.map_nil, List.mem_cons, List.not_mem_nil, or_false] at hm
      rw [u8_int (m := 192 + r / 64) (by omega), u8_int (m := 128 + r % 64) (by omega)] at hm
      rcases hm with rfl | rfl
      · exact hb _ (by omega) (by omega) (by omega) (by omega) (by omega)
      · exact hb _ (by omega) (by omega) (by omega) (by omega) (by omega)
    · by_cases h3 : (55296 ≤ r ∧ r ≤ 57343)
      · rw [Lib.encodeRuneZ_bad (by omega)] at hm
        simp only [List.map_cons, List.map_nil, List.mem_cons, List.not_mem_nil, or_false] at hm
        rcases hm with rfl | rfl | rfl <;> exact ⟨rfl, rfl⟩
      · rw [Lib.encodeRuneZ_three (by omega)] at hm
        simp only [List.map_cons, List.map_nil, List.mem_cons, List.not_mem_nil, or_false] at hm
        rw [u8_int (m := 224 + r / 4096) (by omega), u8_int (m := 128 + r / 64 % 64) (by omega), u8_int (m := 128 + r % 64) (by omega)] at hm
        rcases hm with rfl | rfl | rfl
        · exact hb _ (by omega) (by omega) (by omega) (by omega) (by omega)
        · exact hb _ (by omega) (by omega) (by omega) (by omega) (by omega)
        · exact hb _ (by omega) (by omega) (by omega) (by omega) (by omega)
theorem raw_bytes {s : ByteArray} {p : Nat} (h : p < s.size) (hs : selfR (Utf8.decode s p).1 (Utf8.decode s p).2 = true) : ∀ b ∈ (s.data.toList.drop p).take (Utf8.decode s p).2, okQ b = true ∧ (b != 37) = true := by
  have hv : ¬ ((Utf8.decode s p).1 = 65533 ∧ (Utf8.decode s p).2 = 1) := fun hv => by
    rw [hv.1, hv.2] at hs
    exact absurd hs (by decide)
  have hc : selfC ((Utf8.decode s p).1 : Int) = true := by
    rw [← selfR_good (n := ((Utf8.decode s p).2 : Int)) fun e => by have := (dec_good h hv).2.2 (by omega); omega]
    exact hs
  have he : Lib.encodeRune ((Utf8.decode s p).1 : Int) = (s.data.toList.drop p).take (Utf8.decode s p).2 := by
    rw [dec_l] at hv ⊢
    exact Lib.encode_decode _ (drop_ne h) hv
  rw [← he]
  exact enc_raw hc
theorem hexOk : ∀ m : Fin 256, (hex3 (UInt8.ofNat m.val)).all okQ = true ∧ (decide (hexI (hx (m.val / 16)) < 0) || decide (hexI (hx (m.val % 16)) < 0)) = false ∧ u16 (hx (m.val / 16)) (hx (m.val % 16)) = UInt8.ofNat m.val ∧ d16 (hx (m.val / 16)) (hx (m.val % 16)) = UInt8.ofNat m.val := by decide +kernel
theorem hex_ok (b : UInt8) : (hex3 b).all okQ = true ∧ (decide (hexI (hx (b.toNat / 16)) < 0) || decide (hexI (hx (b.toNat % 16)) < 0)) = false ∧ u16 (hx (b.toNat / 16)) (hx (b.toNat % 16)) = b ∧ d16 (hx (b.toNat / 16)) (hx (b.toNat % 16)) = b := by
  have := hexOk ⟨b.toNat, UInt8.toNat_lt b⟩
  simpa using this
theorem uD_raws : ∀ (l m : List UInt8), (∀ b ∈ l, (b != 37) = true) → uD (l ++ m) = (uD m).map (l ++ ·)
  | [], m, _ => by cases h : uD m <;> simp [h]
  | c :: l, m, h => by
    rw [List.cons_append, uD_raw (h c (List.mem_cons_self ..)), uD_raws l m fun b hb => h b (List.mem_cons_of_mem _ hb)]
    cases uD m <;> rfl
theorem rU_raws : ∀ (l m : List UInt8), (∀ b ∈ l, (b != 37) = true) → rU (l ++ m) = l ++ rU m
  | [], _, _ => rfl
  | c :: l, m, h => by
    have hc : (c == 37) = false := by
      have := h c (List.mem_cons_self ..)
      simpa using this
    rw [List.cons_append, rU_raw hc, rU_raws l m fun b hb => h b (List.mem_cons_of_mem _ hb)]; rfl
theorem uD_hexs : ∀ (l m : List UInt8), uD (l.flatMap hex3 ++ m) = (uD m).map (l ++ ·)
  | [], m => by cases h : uD m <;> simp [h]
  | c :: l, m => by
    obtain ⟨_, h1, h2, _⟩ := hex_ok c
    rw [List.flatMap_cons, List.append_assoc]
    show uD (37 :: hx (c.toNat / 16) :: hx (c.toNat % 16) :: (l.flatMap hex3 ++ m)) = _
    rw [uD_hex rfl, h1, if_neg (by decide), h2, uD_hexs l m]
    cases uD m <;> rfl
theorem rU_hexs : ∀ (l m : List UInt8), rU (l.flatMap hex3 ++ m) = l ++ rU m
  | [], _ => rfl
  | c :: l, m => by
    obtain ⟨_, _, _, h2⟩ := hex_ok c
    rw [List.flatMap_cons, List.append_assoc]
    show rU (37 :: hx (c.toNat / 16) :: hx (c.toNat % 16) :: (l.flatMap hex3 ++ m)) = _
    rw [rU_hex rfl, h2, rU_hexs l m]; rfl
theorem qGo_back (s : ByteArray) : ∀ (n p : Nat), s.size - p ≤ n → uD (qGo s (s.size - p) p) = some (s.data.toList.drop p) ∧ rU (qGo s (s.size - p) p) = s.data.toList.drop p ∧ (qGo s (s.size - p) p).all okQ = true
  | n, p, hn => by
    by_cases hp : p < s.size
    · have hw := dec_pos s p
      match n, hn with
      | 0, hn => omega
      | n + 1, hn =>
      obtain ⟨h1, h2, h3⟩ := qGo_back s n (p + (Utf8.decode s p).2) (by omega)
      have hd : (s.data.toList.drop p).take (Utf8.decode s p).2 ++ s.data.toList.drop (p + (Utf8.decode s p).2) = s.data.toList.drop p := by
        rw [← List.drop_drop, List.take_append_drop]
      rw [qGo_step hp]
      unfold qOne
      by_cases hs : selfR (Utf8.decode s p).1 (Utf8.decode s p).2 = true
      · have hr := raw_bytes hp hs
        rw [if_pos hs, uD_raws _ _ fun b hb => (hr b hb).2, rU_raws _ _ fun b hb => (hr b hb).2, h1, h2, List.all_append, h3, Bool.and_true]
        refine ⟨congrArg some hd, hd, ?_⟩
        rw [List.all_eq_true]
        exact fun b hb => (hr b hb).1
      · rw [if_neg hs, uD_hexs, rU_hexs, h1, h2, List.all_append, h3, Bool.and_true]
        refine ⟨congrArg some hd, hd, ?_⟩
        rw [List.all_flatMap, List.all_eq_true]
        exact fun b _ => (hex_ok b).1
    · rw [qGo_end hp, List.drop_of_length_le (by rw [← sz_list]; omega)]
      exact ⟨rfl, rfl, rfl⟩
/-- What stands between the quotes. -/
def qIn (s : ByteArray) : List UInt8 := qGo s s.size 0
theorem qIn_back (s : ByteArray) : uD (qIn s) = some s.data.toList ∧ rU (qIn s) = s.data.toList ∧ (qIn s).all okQ = true := by
  have := qGo_back s s.size 0 (by omega)
  rw [List.drop_zero, Nat.sub_zero] at this
  exact this
theorem quoteN_lst (s : ByteArray) : (quoteN s).data.toList = 39 :: (qIn s ++ [39]) := bstr_lst _
theorem sEq_eq {a b : ByteArray} (h : sEq a b = true) : a = b := by
  rw [sEq_lst, beq_iff_eq] at h
  exact lst_ext h
theorem sEq_self (a : ByteArray) : sEq a a = true := by rw [sEq_lst, beq_self_eq_true]
theorem quoteN_parts (s : ByteArray) : 2 ≤ (quoteN s).size ∧ byteAt (quoteN s) 0 = 39 ∧ byteAt (quoteN s) (((quoteN s).size : Int) - 1) = 39 ∧ ((quoteN s).data.toList.drop 1).take ((quoteN s).size - 2) = qIn s := by
  have hl := quoteN_lst s
  have hz : (quoteN s).size = (qIn s).length + 2 := by rw [sz_list, hl, List.length_cons, List.length_append]; rfl
  refine ⟨by omega, byteAt_get (m := 0) (by rw [hl]; rfl), ?_, ?_⟩
  · rw [show ((quoteN s).size : Int) - 1 = (((qIn s).length + 1 : Nat) : Int) by omega]
    refine byteAt_get ?_
    rw [hl, List.getElem?_cons_succ, List.getElem?_append_right (by omega), Nat.sub_self]; rfl
  · rw [hl, hz, List.drop_succ_cons, List.drop_zero, Nat.add_sub_cancel, List.take_left]
theorem unq_quote (t : ByteArray) : unqD (quoteN t) = (t, 0) ∧ unqR (quoteN t) = (t, 0) := by
  obtain ⟨h0, h1, h2, h3⟩ := quoteN_parts t
  obtain ⟨b1, b2, _⟩ := qIn_back t
  constructor
  · unfold unqD
    rw [h1, h2, h3, b1, decide_eq_false (by omega), show ((((39 : UInt8).toNat : Int) != 39) = false) from by decide, Bool.or_false, Bool.or_false, if_neg (by decide)]
    simp only
    rw [lst_bstr, sEq_self, if_pos rfl]
  · unfold unqR
    rw [h3, b2, lst_bstr, sEq_self, decide_eq_false (by omega), if_neg (by decide), if_pos rfl]
theorem unq_eq (s : ByteArray) : unqD s = unqR s := by
  by_cases he : ∃ t, s = quoteN t
  · obtain ⟨t, rfl⟩ := he
    rw [(unq_quote t).1, (unq_quote t).2]
  · have hn : ∀ t, sEq (quoteN t) s = false := fun t => by
      cases h : sEq (quoteN t) s with
      | false => rfl
      | true => exact absurd ⟨t, (sEq_eq h).symm⟩ he
    have h1 : unqD s = (⟨#[]⟩, 240) := by
      unfold unqD
      split
      · rfl
      · split
        · rfl
        · rw [hn, if_neg (by decide)]
    have h2 : unqR s = (⟨#[]⟩, 240) := by
      unfold unqR
      split
      · rfl
      · rw [hn, if_neg (by decide)]
    rw [h1, h2]
theorem unq_ok {s : ByteArray} (h : (unqD s).2 = 0) : s = quoteN (unqD s).1 := by
  by_cases he : ∃ t, s = quoteN t
  · obtain ⟨t, rfl⟩ := he
    rw [(unq_quote t).1]
  · rw [unq_eq] at h
    have h2 : unqR s = (⟨#[]⟩, 240) := by
      unfold unqR
      split
      · rfl
      · split
        · rename_i hh; exact absurd ⟨_, (sEq_eq hh).symm⟩ he
        · rfl
    rw [h2] at h
    cases h
theorem plain_byte {s : ByteArray} {i : Int} (h1 : 1 ≤ i) (h2 : i < (quoteN s).size - 1) : okQ (byteAt (quoteN s) i) = true := by
  have hl := quoteN_lst s
  have hz : (quoteN s).size = (qIn s).length + 2 := by rw [sz_list, hl, List.length_cons, List.length_append]; rfl
  obtain ⟨m, rfl⟩ : ∃ m : Nat, i = (m + 1 : Nat) := ⟨(i - 1).toNat, by omega⟩
  have hm : m < (qIn s).length := by omega
  have hb : byteAt (quoteN s) ((m + 1 : Nat) : Int) = (qIn s)[m] := byteAt_get (by
    rw [hl, List.getElem?_cons_succ, List.getElem?_append_left hm, List.getElem?_eq_getElem hm])
  rw [hb]
  exact List.all_eq_true.1 (qIn_back s).2.2 _ (List.getElem_mem hm)
theorem okQ_facts {b : UInt8} (h : okQ b = true) : ¬ (b.toNat : Int) < 33 ∧ (b.toNat : Int) ≠ 127 ∧ (b.toNat : Int) ≠ 39 := by
  unfold okQ at h
  simp only [Bool.and_eq_true, decide_eq_true_eq, bne_iff_ne] at h
  refine ⟨by omega, fun e => h.1.2 (UInt8.toNat_inj.1 ?_), fun e => h.2 (UInt8.toNat_inj.1 ?_)⟩
  · show b.toNat = 127; omega
  · show b.toNat = 39; omega
end Go.Lm

/- Plain facts on scripts' lines: words, numbers, lines. General: no program in sight. -/
namespace Go.Lm
open Go Go.RowKit
abbrev blankS : ByteArray := ⟨#[32]⟩
abbrev nlS : ByteArray := ⟨#[10]⟩
def itoaN (n : Int) : ByteArray := bstr (Lib.itoa n)
def partsW (s : ByteArray) : List ByteArray := Lib.splitB blankS 0 (Lib.countB s blankS) s
def atoiOk (s : ByteArray) : Bool := match Lib.atoiAll s.data.toList with
  | .ok _ => true
  | _ => false
def atoiV (s : ByteArray) : Int := match Lib.atoiAll s.data.toList with
  | .ok v => v
  | _ => 0
def joinW (a : List ByteArray) : ByteArray := bstr (Lib.join (a.map (·.data.toList)) [32])
def cutA (s : ByteArray) : ByteArray := bstr (Lib.cut s.data.toList [10]).1
def cutB (s : ByteArray) : ByteArray := bstr (Lib.cut s.data.toList [10]).2.1
def cutC (s : ByteArray) : Bool := (Lib.cut s.data.toList [10]).2.2
theorem bstr_size (l : List UInt8) : (bstr l).size = l.length := by rw [sz_list, bstr_lst]
theorem itoaN_size {n : Int} (h : inK .i64 n) : (itoaN n).size ≤ 21 := by
  unfold itoaN
  rw [bstr_size]
  exact Lib.itoa_length_le n h.1 h.2
theorem ext_size_le (s : ByteArray) (a b : Nat) : (s.extract a b).size ≤ s.size := by
  rw [sz_list, ext_lst, List.length_drop, List.length_take, ← sz_list]; omega
theorem splitB_sz (sep : ByteArray) (save : Nat) : ∀ (k : Nat) (s x : ByteArray), x ∈ Lib.splitB sep save k s → x.size ≤ s.size
  | 0, s, x, h => by
    rw [Lib.splitB_zero] at h
    rw [List.mem_singleton.1 h]; exact Nat.le_refl _
  | k + 1, s, x, h => by
    unfold Lib.splitB at h
    split at h
    · rw [List.mem_singleton.1 h]; exact Nat.le_refl _
    · rcases List.mem_cons.1 h with h | h
      · rw [h]; exact ext_size_le _ _ _
      · exact Nat.le_trans (splitB_sz sep save k _ x h) (ext_size_le _ _ _)
theorem partsW_sz {s x : ByteArray} (h : x ∈ partsW s) : x.size ≤ s.size := splitB_sz _ _ _ _ _ h
theorem partsW_len (s : ByteArray) : (partsW s).length = Lib.countB s blankS + 1 := Lib.splitB_all blankS (by decide) 0 _ s rfl
theorem partsW_le (s : ByteArray) : (partsW s).length ≤ s.size + 1 := by
  rw [partsW_len]
  have := Lib.countB_le blankS (by decide) s.size s (Nat.le_refl _)
  omega
theorem cutA_sz (s : ByteArray) : (cutA s).size ≤ s.size := by
  unfold cutA Lib.cut
  rw [bstr_size, sz_list]
  split
  · simp only [List.length_take]; omega
  · exact Nat.le_refl _
theorem cutB_sz (s : ByteArray) : (cutB s).size ≤ s.size := by
  unfold cutB Lib.cut
  rw [bstr_size, sz_list]
  split
  · simp only [List.length_drop]; omega
  · exact Nat.zero_le _
theorem join_ge : ∀ (a : List (List UInt8)), a.length ≤ (Lib.join a [32]).length + 1
  | [] => by simp
  | [x] => by simp
  | x :: y :: r => by
    have e : Lib.join (x :: y :: r) [32] = x ++ 32 :: Lib.join (y :: r) [32] := by
      rw [Lib.join_cons, Lib.join_cons]; simp [Lib.joinTail]
    have := join_ge (y :: r)
    rw [e, List.length_append, List.length_cons, List.length_cons]
    simp only [List.length_cons] at this ⊢
    omega
/-! ### Events -/
abbrev tEvent : Ty := .pair (.int .i64) (.pair (.int .i64) (.pair (.int .i64) (.pair (.int .i64) (.pair .str (.pair .str (.pair (.sl .u8) .unit))))))
abbrev Ev : Type := tEvent.den
abbrev tAttr : Ty := .pair (.int .i64) (.pair (.int .i64) (.pair (.int .i64) .unit))
abbrev tStat : Ty := .pair (.int .i64) (.pair tAttr (.pair (.int .i64) (.pair (.int .i64) .unit)))
abbrev tAnswer : Ty := .pair (.int .i64) (.pair (.int .i64) (.pair (.int .i64) (.pair (.sl .u8) (.pair (.sl .str) (.pair tStat .unit)))))
abbrev Ans : Type := tAnswer.den
def wordsN (e : Ev) : List ByteArray := [itoaN e.1, itoaN e.2.1, itoaN e.2.2.1, itoaN e.2.2.2.1, quoteN e.2.2.2.2.1, quoteN e.2.2.2.2.2.1, quoteN (bstr e.2.2.2.2.2.2.1)]
/-- What an event's words are if it has nothing. -/
def noneW : List ByteArray := [itoaN 0, itoaN 0, itoaN 0, itoaN 0, quoteN ⟨#[]⟩, quoteN ⟨#[]⟩, quoteN ⟨#[]⟩]
/-- How many words are written. -/
def trimN (w z : List ByteArray) : Nat → Nat
  | 0 => 0
  | n + 1 => if decide (0 < n) && sEq (w.getD n ⟨#[]⟩) (z.getD n ⟨#[]⟩) then trimN w z n else n + 1
def lineN (e : Ev) : ByteArray := joinW ((wordsN e).take (trimN (wordsN e) noneW 7))
theorem trim_yes {w z : List ByteArray} {n : Nat} (h0 : decide (0 < n) = true) (h : sEq (w.getD n ⟨#[]⟩) (z.getD n ⟨#[]⟩) = true) : trimN w z (n + 1) = trimN w z n := by
  conv => lhs; unfold trimN
  rw [h0, h, Bool.and_true, if_pos rfl]
theorem trim_no {w z : List ByteArray} {n : Nat} (h : sEq (w.getD n ⟨#[]⟩) (z.getD n ⟨#[]⟩) = false) : trimN w z (n + 1) = n + 1 := by
  conv => lhs; unfold trimN
  rw [h, Bool.and_false, if_neg (by decide)]
theorem trim_one (w z : List ByteArray) : trimN w z 1 = 1 := rfl
theorem line_k {e : Ev} {k : Nat} (h : trimN (wordsN e) noneW 7 = k) : lineN e = joinW ((wordsN e).take k) := by unfold lineN; rw [h]
theorem qOne_len {s : ByteArray} {p : Nat} : (qOne s p).length ≤ 3 * (Utf8.decode s p).2 := by
  rw [qOne_G]
  have h1 := outG_len (selfR (Utf8.decode s p).1 (Utf8.decode s p).2) ((s.data.toList.drop p).take (Utf8.decode s p).2)
  have h2 : ((s.data.toList.drop p).take (Utf8.decode s p).2).length ≤ (Utf8.decode s p).2 := by rw [List.length_take]; omega
  omega
theorem qGo_len (s : ByteArray) : ∀ (n p : Nat), s.size - p ≤ n → (qGo s (s.size - p) p).length ≤ 3 * (s.size - p)
  | n, p, hn => by
    by_cases hp : p < s.size
    · have hw := dec_pos s p
      have hl := dec_le hp
      match n, hn with
      | 0, hn => omega
      | n + 1, hn =>
      have h1 := qGo_len s n (p + (Utf8.decode s p).2) (by omega)
      have h2 := qOne_len (s := s) (p := p)
      rw [qGo_step hp, List.length_append]
      omega
    · rw [qGo_end hp]; exact Nat.zero_le _
theorem quoteN_size (s : ByteArray) : (quoteN s).size ≤ 3 * s.size + 2 := by
  have := qGo_len s s.size 0 (by omega)
  rw [Nat.sub_zero] at this
  rw [sz_list, quoteN_lst, List.length_cons, List.length_append]
  show (qGo s s.size 0).length + 1 + 1 ≤ _
  omega
theorem joinW_size : ∀ (a : List ByteArray), (joinW a).size ≤ (a.map (·.size + 1)).sum
  | [] => by unfold joinW; rw [bstr_size]; exact Nat.le_refl _
  | [x] => by
    unfold joinW
    rw [bstr_size]
    simp only [List.map_cons, List.map_nil, List.sum_cons, List.sum_nil]
    rw [Lib.join_one, ← sz_list]; omega
  | x :: y :: r => by
    have e : Lib.join ((x :: y :: r).map (·.data.toList)) [32] = x.data.toList ++ 32 :: Lib.join ((y :: r).map (·.data.toList)) [32] := by
      rw [List.map_cons, List.map_cons, Lib.join_cons, Lib.join_cons]; simp [Lib.joinTail]
    have h := joinW_size (y :: r)
    unfold joinW at h ⊢
    rw [bstr_size] at h ⊢
    rw [e, List.length_append, List.length_cons, ← sz_list]
    show _ ≤ x.size + 1 + ((y :: r).map (·.size + 1)).sum
    omega
/-- An event that is there. -/
structure EvOk (m : Nat) (e : Ev) : Prop where
  i1 : inK .i64 e.1
  i2 : inK .i64 e.2.1
  i3 : inK .i64 e.2.2.1
  i4 : inK .i64 e.2.2.2.1
  path : e.2.2.2.2.1.size ≤ m
  name : e.2.2.2.2.2.1.size ≤ m
  data : e.2.2.2.2.2.2.1.length ≤ m
theorem line_size {m : Nat} {e : Ev} (h : EvOk m e) (k : Nat) : (joinW ((wordsN e).take k)).size ≤ 9 * m + 97 := by
  have h0 := joinW_size ((wordsN e).take k)
  have h1 : (((wordsN e).take k).map (·.size + 1)).sum ≤ ((wordsN e).map (·.size + 1)).sum := by
    conv => rhs; rw [← List.take_append_drop k (wordsN e)]
    rw [List.map_append, List.sum_append]
    omega
  have h2 : ((wordsN e).map (·.size + 1)).sum = (itoaN e.1).size + 1 + ((itoaN e.2.1).size + 1 + ((itoaN e.2.2.1).size + 1 + ((itoaN e.2.2.2.1).size + 1 + ((quoteN e.2.2.2.2.1).size + 1 + ((quoteN e.2.2.2.2.2.1).size + 1 + ((quoteN (bstr e.2.2.2.2.2.2.1)).size + 1 + 0)))))) := rfl
  have a1 := itoaN_size h.i1
  have a2 := itoaN_size h.i2
  have a3 := itoaN_size h.i3
  have a4 := itoaN_size h.i4
  have a5 := quoteN_size e.2.2.2.2.1
  have a6 := quoteN_size e.2.2.2.2.2.1
  have a7 := quoteN_size (bstr e.2.2.2.2.2.2.1)
  have a8 : (bstr e.2.2.2.2.2.2.1).size = e.2.2.2.2.2.2.1.length := bstr_size _
  have b1 := h.path
  have b2 := h.name
  have b3 := h.data
  omega
/-! ### Lines read -/
/-- A word of a line; what is not there is as nothing is written. -/
def wordW (s : ByteArray) (i : Nat) : ByteArray := (partsW s)[i]?.getD (noneW.getD i ⟨#[]⟩)
theorem none_sz {i : Nat} : (noneW.getD i ⟨#[]⟩).size ≤ 2 := by
  match i with
  | 0 | 1 | 2 | 3 | 4 | 5 | 6 => decide +kernel
  | _ + 7 => exact Nat.zero_le _
theorem wordW_sz (s : ByteArray) (i : Nat) : (wordW s i).size ≤ s.size + 2 := by
  unfold wordW
  cases h : (partsW s)[i]? with
  | none => have := @none_sz i; simp only [Option.getD_none]; omega
  | some x =>
    have := partsW_sz (List.mem_of_getElem? h)
    simp only [Option.getD_some]; omega
theorem uD_len : ∀ (n : Nat) {l r : List UInt8}, l.length ≤ n → uD l = some r → r.length ≤ l.length
  | _, [], r, _, h => by
    obtain rfl := Option.some.inj h
    exact Nat.le_refl _
  | 0, _ :: _, _, hn, _ => by simp at hn
  | n + 1, c :: l, r, hn, h => by
    unfold uD at h
    split at h
    · cases hu : uD l with
      | none => rw [hu] at h; cases h
      | some q =>
        rw [hu] at h
        obtain rfl := Option.some.inj h
        have := uD_len n (by simpa using hn) hu
        simpa using this
    · split at h
      · rename_i a b q
        split at h
        · cases h
        · cases hu : uD q with
          | none => rw [hu] at h; cases h
          | some z =>
            rw [hu] at h
            obtain rfl := Option.some.inj h
            simp only [List.length_cons] at hn ⊢
            have := uD_len n (by omega) hu
            omega
      · cases h
theorem unqD_sz (s : ByteArray) : (unqD s).1.size ≤ s.size := by
  by_cases he : ∃ t, s = quoteN t
  · obtain ⟨t, rfl⟩ := he
    rw [(unq_quote t).1]
    have h1 := uD_len _ (Nat.le_refl _) (qIn_back t).1
    rw [sz_list t, sz_list (quoteN t), quoteN_lst, List.length_cons, List.length_append]
    omega
  · rw [unq_eq]
    unfold unqR
    split
    · exact Nat.zero_le _
    · split
      · rename_i h; exact absurd ⟨_, (sEq_eq h).symm⟩ he
      · exact Nat.zero_le _
def evOf (s : ByteArray) : Ev := (atoiV (wordW s 0), atoiV (wordW s 1), atoiV (wordW s 2), atoiV (wordW s 3), (unqD (wordW s 4)).1, (unqD (wordW s 5)).1, (unqD (wordW s 6)).1.data.toList, ())
def evOk (s : ByteArray) : Bool := decide ((partsW s).length ≤ 7) && (atoiOk (wordW s 0) && (atoiOk (wordW s 1) && (atoiOk (wordW s 2) && (atoiOk (wordW s 3) && ((unqD (wordW s 4)).2 == 0 && ((unqD (wordW s 5)).2 == 0 && ((unqD (wordW s 6)).2 == 0 && sEq (lineN (evOf s)) s)))))))
theorem atoi_in {l : List UInt8} {v : Int} (h : Lib.atoiAll l = .ok v) : inK .i64 v := by
  cases l with
  | nil => cases h
  | cons c r =>
    simp only [Lib.atoiAll] at h
    generalize Lib.parseMag _ = pm at h
    cases pm with
    | range => cases h
    | ok u =>
      simp only at h
      by_cases h1 : ¬c.toNat = 45 ∧ 9223372036854775808 ≤ u
      · rw [if_pos h1] at h; cases h
      · rw [if_neg h1] at h
        by_cases h2 : c.toNat = 45 ∧ 9223372036854775808 < u
        · rw [if_pos h2] at h; cases h
        · rw [if_neg h2] at h
          injection h with h
          subst h
          by_cases h3 : c.toNat = 45
          · rw [if_pos h3]
            show (-9223372036854775808 : Int) ≤ -(u : Int) ∧ -(u : Int) ≤ 9223372036854775807
            omega
          · rw [if_neg h3]
            show (-9223372036854775808 : Int) ≤ (u : Int) ∧ (u : Int) ≤ 9223372036854775807
            omega
    | _ => cases h
/-! ### Scripts -/
def parseGo : Nat → List Ev → ByteArray → List Ev × Int × Int
  | 0, l, _ => (l, 0, 0)
  | f + 1, l, s => if !sEq s ⟨#[]⟩ then (if !cutC s || !evOk (cutA s) then ([], (l.length : Int) + 1, 240) else parseGo f (l ++ [evOf (cutA s)]) (cutB s)) else (l, 0, 0)
def parseN (s : ByteArray) : List Ev × Int × Int :=
  if decide ((s.size : Int) > 65536) || decide ((Lib.countByte s.data.toList 10 : Int) > 2048) then ([], 0, 3) else parseGo s.size [] s
theorem idx_lt : ∀ {l : List UInt8} {c : UInt8}, 0 ≤ Lib.indexByte l c → Lib.indexByte l c < l.length
  | [], _, h => by
    have h : (0 : Int) ≤ -1 := h
    exact absurd h (by decide)
  | b :: l, c, h => by
    unfold Lib.indexByte at h ⊢
    split
    · simp only [List.length_cons]; omega
    · rename_i hb
      rw [if_neg hb] at h
      split
      · rename_i h1
        rw [if_pos h1] at h
        exact absurd h (by decide)
      · rename_i h1
        rw [if_neg h1] at h
        have := @idx_lt l c (by have := Lib.indexByte_ge l c; have h2 : Lib.indexByte l c ≠ -1 := by simpa using h1
                                omega)
        simp only [List.length_cons]; omega
theorem cut_lt {s : ByteArray} (h : cutC s = true) : (cutB s).size < s.size := by
  unfold cutC at h
  unfold cutB
  rw [bstr_size]
  unfold Lib.cut at h ⊢
  split
  · rename_i h1
    rw [Lib.index_one] at h1 ⊢
    have := idx_lt h1
    simp only [List.length_drop, List.length_cons, List.length_nil]
    rw [sz_list]
    omega
  · rename_i h1
    rw [if_neg h1] at h
    cases h
theorem parse_step {l : List Ev} {s : ByteArray} (h : (!sEq s ⟨#[]⟩) = true) (h2 : (!cutC s || !evOk (cutA s)) = false) : parseGo s.size l s = parseGo (cutB s).size (l ++ [evOf (cutA s)]) (cutB s) := by
  have more : ∀ (f f' : Nat) (l : List Ev) (s : ByteArray), s.size ≤ f → s.size ≤ f' → parseGo f l s = parseGo f' l s := by
    intro f
    induction f with
    | zero =>
      intro f' l s h1 _
      have e : sEq s ⟨#[]⟩ = true := by
        rw [sEq_nil]
        have : s.data.toList.length = 0 := by rw [← sz_list]; omega
        rw [List.eq_nil_of_length_eq_zero this]; rfl
      cases f' with
      | zero => rfl
      | succ f' => unfold parseGo; rw [e, if_neg (by decide)]
    | succ f ih =>
      intro f' l s h1 h2
      cases f' with
      | zero =>
        have e : sEq s ⟨#[]⟩ = true := by
          rw [sEq_nil]
          have : s.data.toList.length = 0 := by rw [← sz_list]; omega
          rw [List.eq_nil_of_length_eq_zero this]; rfl
        unfold parseGo; rw [e, if_neg (by decide)]
      | succ f' =>
        unfold parseGo
        split
        · split
          · rfl
          · rename_i hc
            have hc : cutC s = true := by
              cases h : cutC s with
              | true => rfl
              | false => rw [h] at hc; exact absurd rfl hc
            have := cut_lt hc
            exact ih f' _ _ (by omega) (by omega)
        · rfl
  have hc : cutC s = true := by
    cases h : cutC s with
    | true => rfl
    | false => rw [h] at h2; cases h2
  have := cut_lt hc
  obtain ⟨f, hf⟩ : ∃ f, s.size = f + 1 := ⟨s.size - 1, by omega⟩
  rw [hf]
  show (if !sEq s ⟨#[]⟩ then (if !cutC s || !evOk (cutA s) then ([], (l.length : Int) + 1, 240) else parseGo f (l ++ [evOf (cutA s)]) (cutB s)) else (l, 0, 0)) = _
  rw [if_pos h, if_neg (by rw [h2]; decide)]
  exact more _ _ _ _ (by omega) (Nat.le_refl _)
theorem parse_bad {l : List Ev} {s : ByteArray} (h : (!sEq s ⟨#[]⟩) = true) (h2 : (!cutC s || !evOk (cutA s)) = true) : parseGo s.size l s = ([], (l.length : Int) + 1, 240) := by
  cases hf : s.size with
  | zero =>
    have e : sEq s ⟨#[]⟩ = true := by
      rw [sEq_nil]
      have : s.data.toList.length = 0 := by rw [← sz_list]; omega
      rw [List.eq_nil_of_length_eq_zero this]; rfl
    rw [e] at h; cases h
  | succ f => unfold parseGo; rw [if_pos h, if_pos h2]
theorem parse_end {l : List Ev} {s : ByteArray} (h : (!sEq s ⟨#[]⟩) = false) : parseGo s.size l s = (l, 0, 0) := by
  cases s.size with
  | zero => rfl
  | succ f => unfold parseGo; rw [h, if_neg (by decide)]
end Go.Lm

/- What a row's frame asks: the shape of the world and a condition on listed variables, both kept. General. -/
namespace Go.Lm
open Go Go.RowKit
theorem returns_shaped_and {H : Type} {enc : TypeId × Value → H} {a : Assume} {C : Checked} {os : Os} {f : FuncId} {fn : Func} {s : ChangeSpec} {conds : List PathCond} {apart fresh handsOn again : Bool} {X : World → Array Value → Prop}
    (hX : ∀ (w w' : World) (args : Array Value), w.heap = w'.heap → X w args → X w' args)
    (own : ownKnob C.prog.godebug = none) (started : os.Started) (noInit : C.prog.inits.idxOf? f = none) (hfn : C.prog.funcs[f]? = some fn)
    (witness : ∃ (w : World) (tape : Tape) (i : Input), w.os = os ∧ (w.forCall tape i).Shaped C.prog ∧ i.vars = [] ∧ Input.okWide C.prog (w.forCall tape i) .any w.heap.size f i ∧
      ((s.pre enc C.prog fn conds apart (w.forCall tape i).memory i.args ∧ X (w.forCall tape i).memory i.args) ∧ sizedMet enc C.prog fn (OpenSpec.ofChange s) apart (w.forCall tape i).memory i.args) ∧ a.holds C.prog (lone (Frame.enter C.prog f i.args .normal) [] (w.forCall tape i)))
    (contract : ∀ (W : World) (base : Nat) (args : Array Value) (ds gs : List (DataW H)) (before : List MemPlace),
      (∀ (j : Nat) t v, fn.params[j]? = some t → args[j]? = some v → Value.okWide C.prog W .any base t v) →
      DataW.Whole enc C.prog fn.params.toList s.vars apart W args.toList ds gs before → X W args → W.ShapedOpen C.prog →
      (DataW.weightsEach C.prog (fn.params.toList ++ s.plain.varTypes C.prog) (ds ++ gs)).all (· ≤ reachBytes) = true →
      Calls C.prog f args W fun e W' => ∃ v, e = .returned v ∧ s.post enc C.prog fn apart fresh handsOn again W args v W') :
    ReturnsInHanded a C os f .any (fun w args => (s.pre enc C.prog fn conds apart w args ∧ X w args) ∧ sizedMet enc C.prog fn (OpenSpec.ofChange s) apart w args) (s.post enc C.prog fn apart fresh handsOn again) := by
  refine returnsInHanded_of_calls own started noInit witness ?_
  intro w tape i _ hsh _ hok hpre hholds
  obtain ⟨_, _, _, fn', hfn', _, _, _, _, hval⟩ := hok
  obtain rfl : fn' = fn := Option.some.inj (hfn'.symm.trans hfn)
  obtain ⟨⟨⟨ds, gs, before, hw, hc⟩, hx⟩, hz⟩ := hpre
  have hw' := DataW.Whole.of_heap (w' := w.forCall tape i) (by rfl) hw
  refine (contract (w.forCall tape i) w.heap.size i.args ds gs before hval hw' (hX _ _ _ (by rfl) hx) hsh (hz.weights hw)).mono fun e W' ⟨v, he, hp⟩ => ?_
  subst he
  exact ChangeSpec.post_blind hp
theorem params_ok {P : Program} {ps : Array TypeId} (h : (ps.all fun t => !P.wantsStandIn t) = true) (j : Nat) (t : TypeId) (ht : ps[j]? = some t) : P.wantsStandIn t = false := by
  have := Array.all_eq_true_iff_forall_mem.1 h t (Array.mem_of_getElem? ht)
  simpa using this
theorem cells_str {P : Program} {w : World} {r : Reach} {base : Nat} {t : TypeId} {v : Value} (ht : P.underlying t = some .string) (h : Value.okWide P w r base t v) : v.cells = #[v] := by
  obtain ⟨s, rfl⟩ := WideShapes.okWide_string ht h; rfl
theorem cells_slice {P : Program} {w : World} {r : Reach} {base : Nat} {t e : TypeId} {v : Value} (ht : P.underlying t = some (.slice e)) (h : Value.okWide P w r base t v) : v.cells = #[v] := by
  obtain ⟨a, l, c, rfl⟩ := WideShapes.okWide_slice ht h; rfl
end Go.Lm

/- The cells of an argument of one cell. General: no program in sight. -/
namespace Go.Lm
open Go Go.RowKit
theorem cells_str1 {P : Program} {w : World} {r : Reach} {base : Nat} {t : TypeId} {v : Value} (ht : P.underlying t = some .string) (h : Value.okWide P w r base t v) : v.cells = #[v] := by
  obtain ⟨s, rfl⟩ := WideShapes.okWide_string ht h; rfl
theorem cells_slice1 {P : Program} {w : World} {r : Reach} {base : Nat} {t e : TypeId} {v : Value} (ht : P.underlying t = some (.slice e)) (h : Value.okWide P w r base t v) : v.cells = #[v] := by
  obtain ⟨a, l, c, rfl⟩ := WideShapes.okWide_slice ht h; rfl
end Go.Lm
namespace Go.Lm
open Go Go.RowKit
theorem okWide_int_wf {P : Program} {w : World} {r : Reach} {base base2 : Nat} {t : TypeId} {v : Value} {H : Type} {enc : TypeId × Value → H} {spare : Nat → Bool} {held : Bool} {d : DataW H} {ps : List MemPlace} (ht : P.underlying t = some (.int .i64)) (h : Value.okWide P w r base t v) (k : DataW.Trod enc P w base2 spare held t v d ps) :
    ∃ n, v = .int .i64 n ∧ (Lit.int .i64 n).wf = true := by
  obtain ⟨i, rfl⟩ := WideShapes.okWide_int ht h
  obtain ⟨x, hx⟩ := open_one (opens_int ht) rfl rfl k
  have e : GoRep.rel w [Value.int .i64 i] x := by
    unfold Is at hx
    rw [if_neg (by simp [GoRep.agg])] at hx; exact hx
  obtain ⟨e1, e2⟩ := e
  cases e1
  exact ⟨i, rfl, e2⟩
end Go.Lm

/- What comes in reads as data of a type; a law's run. General: no program in sight. -/
namespace Go.Lm
open Go Go.RowKit
section
variable {P : Program}
/-- Whatever reads at type t is such a datum. -/
def OpensD (P : Program) (t : TypeId) (e : Ty) : Prop := @Opens P t e.den e.rep
def OpensF (P : Program) (fs : List Field) (off : Nat) (e : Ty) : Prop :=
  ∀ {H : Type} (enc : TypeId × Value → H) (w : World) (base : Nat) (spare : Nat → Bool) (held : Bool) (fuel : Nat) (cs : List Value), cs.length = off + e.size →
    (∀ f ∈ fs, ∃ y, DataW.trod enc P w base spare held fuel f.type ((cs.drop f.offset).take (P.cellsOf f.type)) = some y) → ∃ x : e.den, e.rep.rel w (cs.drop off) x
theorem opensF_nil {off : Nat} : OpensF P [] off .unit := fun _ _ _ _ _ _ cs hl _ => ⟨(), by
  show cs.drop off = []
  exact List.drop_eq_nil_of_le (by rw [hl]; exact Nat.le_refl _)⟩
theorem opensF_cons {a b : Ty} {f : Field} {fs : List Field} {off : Nat} (ho : f.offset = off) (hs : P.cellsOf f.type = a.size) (h1 : OpensD P f.type a) (h2 : OpensF P fs (off + a.size) b) : OpensF P (f :: fs) off (.pair a b) := fun enc w base spare held fuel cs hl h => by
  obtain ⟨y, hy⟩ := h f (by simp)
  obtain ⟨x, hx⟩ := h1 enc w base spare held fuel _ y hy
  have hl' : cs.length = off + (a.size + b.size) := hl
  obtain ⟨r, hr⟩ := h2 enc w base spare held fuel cs (by omega) fun g hg => h g (List.mem_cons_of_mem _ hg)
  rw [ho, hs] at hx
  refine ⟨(x, r), _, _, ?_, hx, hr⟩
  rw [← List.drop_drop, List.take_append_drop]
theorem opensD_struct {t : TypeId} {e : Ty} {fs : Array Field} (ht : P.underlying t = some (.struct fs)) (hs : P.cellsOf t = e.size) (h : OpensF P fs.toList 0 e) : OpensD P t e := fun enc w base spare held fuel cs y hy => by
  obtain ⟨xs, n, _, _, hlen, hxl, hf⟩ := DataW.trod_struct ht hy
  obtain ⟨x, hx⟩ := h enc w base spare held n cs (by rw [hlen, hs]; omega) fun f hm => by
    obtain ⟨i, hi⟩ := List.getElem?_of_mem hm
    have hi' : fs[i]? = some f := by simpa using hi
    have hlt : i < xs.length := by rw [hxl]; exact (Array.getElem?_eq_some_iff.1 hi').1
    exact ⟨xs[i], by rw [hf i f hi', List.getElem?_eq_getElem hlt]⟩
  rw [List.drop_zero] at hx
  exact ⟨x, hx⟩
theorem opensD_int {k : IntKind} {t : TypeId} (ht : P.underlying t = some (.int k)) : OpensD P t (.int k) := fun _ _ _ _ _ _ _ _ h => by
  obtain ⟨n, hc, _, hw⟩ := DataW.trod_int ht h
  exact ⟨n, hc, hw⟩
def fit (P : Program) : Ty → TypeId ⊕ (List Field × Nat) → Bool
  | .int k, .inl t => match P.underlying t with
    | some (.int k') => IntKind.beq k k'
    | _ => false
  | .u8, .inl t => match P.underlying t with
    | some (.int .u8) => true
    | _ => false
  | .str, .inl t => match P.underlying t with
    | some .string => true
    | _ => false
  | .bool, .inl t => match P.underlying t with
    | some .bool => true
    | _ => false
  | .sl e, .inl t => match P.underlying t with
    | some (.slice et) => Nat.beq (P.cellsOf et) e.size && fit P e (.inl et)
    | _ => false
  | .unit, .inr ([], _) => true
  | .pair a b, .inr (f :: fs, off) => Nat.beq f.offset off && (Nat.beq (P.cellsOf f.type) a.size && (fit P a (.inl f.type) && fit P b (.inr (fs, off + a.size))))
  | .pair a b, .inl t => match P.underlying t with
    | some (.struct fs) => match fs.toList with
      | f :: r => Nat.beq (P.cellsOf t) (a.size + b.size) && (Nat.beq f.offset 0 && (Nat.beq (P.cellsOf f.type) a.size && (fit P a (.inl f.type) && fit P b (.inr (r, a.size)))))
      | [] => false
    | _ => false
  | _, _ => false
theorem fit_ok : ∀ (e : Ty), (∀ t, fit P e (.inl t) = true → OpensD P t e) ∧ ∀ fs off, fit P e (.inr (fs, off)) = true → OpensF P fs off e
  | .int k => by
    refine ⟨fun t h => ?_, fun fs off h => by simp [fit] at h⟩
    unfold fit at h
    split at h
    · rename_i k' hk
      rw [IntKind.eq_of_beq h]
      exact opensD_int hk
    · cases h
  | .u8 => by
    refine ⟨fun t h => ?_, fun fs off h => by simp [fit] at h⟩
    unfold fit at h
    split at h
    · rename_i hk; exact opens_byte hk
    · cases h
  | .str => by
    refine ⟨fun t h => ?_, fun fs off h => by simp [fit] at h⟩
    unfold fit at h
    split at h
    · rename_i hk; exact opens_str hk
    · cases h
  | .bool => by
    refine ⟨fun t h => ?_, fun fs off h => by simp [fit] at h⟩
    unfold fit at h
    split at h
    · rename_i hk; exact opens_bool hk
    · cases h
  | .unit => by
    refine ⟨fun t h => by simp [fit] at h, fun fs off h => ?_⟩
    cases fs with
    | nil => exact opensF_nil
    | cons f r => simp [fit] at h
  | .sl e => by
    refine ⟨fun t h => ?_, fun fs off h => by simp [fit] at h⟩
    unfold fit at h
    split at h
    · rename_i et hk
      rw [Bool.and_eq_true] at h
      exact @opens_list P t et e.den e.rep hk ((Nat.eq_of_beq_eq_true h.1).trans e.rep_size.symm) ((fit_ok e).1 et h.2)
    · cases h
  | .pair a b => by
    refine ⟨fun t h => ?_, fun fs off h => ?_⟩
    · unfold fit at h
      split at h
      · rename_i fs hk
        split at h
        · rename_i f r hf
          simp only [Bool.and_eq_true] at h
          obtain ⟨h1, h2, h3, h4, h5⟩ := h
          refine opensD_struct (e := .pair a b) hk (Nat.eq_of_beq_eq_true h1) ?_
          rw [hf]
          refine opensF_cons (Nat.eq_of_beq_eq_true h2) (Nat.eq_of_beq_eq_true h3) ((fit_ok a).1 _ h4) ?_
          rw [Nat.zero_add]
          exact (fit_ok b).2 _ _ h5
        · cases h
      · cases h
    · cases fs with
      | nil => simp [fit] at h
      | cons f r =>
        unfold fit at h
        simp only [Bool.and_eq_true] at h
        obtain ⟨h2, h3, h4, h5⟩ := h
        exact opensF_cons (Nat.eq_of_beq_eq_true h2) (Nat.eq_of_beq_eq_true h3) ((fit_ok a).1 _ h4) ((fit_ok b).2 _ _ h5)
/-- A slice that comes in. -/
theorem open_sl {t : TypeId} {e : Ty} (hf : fit P (.sl e) (.inl t) = true) {H : Type} {enc : TypeId × Value → H} {w : World} {base : Nat} {spare : Nat → Bool} {held : Bool} {v : Value} {d : DataW H} {ps : List MemPlace}
    (hv : v.cells = #[v]) (h : DataW.Trod enc P w base spare held t v d ps) : ∃ x : List e.den, IsD e w v x :=
  @open_one P t (List e.den) (listRep e.den e.rep) ((fit_ok (.sl e)).1 t hf) rfl H enc w base spare held v d ps hv h
/-- A call with nothing of one's own. -/
theorem Wp.run {I : Base → Prop} {f : FuncId} {args : List SV} {vs : List Value} {w : World} {b : Bool} (hI : I ⟨w, w⟩) (h : Wp I P f args [] fun v _ => v = SV.bool b) (hv : RelVs [] w args vs) : Ret P f vs.toArray w fun v w' => v = .bool b ∧ Le w w' := by
  have S : SL ⟨w, w⟩ w w [] := SL.start (Sees.refl w)
  refine (h ⟨w, w⟩ hI w w [] [] vs ⟨S, rfl⟩ hv).mono fun v w' ⟨E', g', sv, H', _, _, S', r, q⟩ => ?_
  subst q
  exact ⟨r.1, S'.sl.toLe⟩
end
end Go.Lm

/- strings.Builder's String, with all that is owned besides, over any program that bears the library's text; what WriteString's walk needs. (The walks are after the shelf's own.) General: no program in sight. -/
namespace Go.Lm
open Go Go.RowKit Go.Shelf Go.Proofs
variable {P : Program} {ρ : Ren}
theorem bytes_row {g : World} : ∀ {cs : List (List Value)} {x : List UInt8}, RelL g cs x → cs.flatten = Lib.byteCells x
  | [], [], _ => rfl
  | [], _ :: _, h => h.elim
  | _ :: _, [], h => h.elim
  | c :: cs, b :: x, h => by
    obtain ⟨h1, h2⟩ := h
    have h1 : c = [.int .u8 (b.toNat : Int)] := h1
    rw [List.flatten_cons, bytes_row h2, h1]; rfl
theorem set_at {w : World} {b i : Nat} {cs : Array Value} {t : TypeId} {fr : Nat × Nat} {u : Value} (h : w.heap[b]? = some (.cells cs t fr)) : UpdO w b (.cells (cs.setIfInBounds i u) t fr) (w.setCell ⟨b, i, none⟩ u) := by
  have hlt : b < w.heap.size := by
    rcases Nat.lt_or_ge b w.heap.size with h' | h'
    · exact h'
    · simp [Array.getElem?_eq_none h'] at h
  refine ⟨?_, hlt⟩
  unfold World.setCell
  congr 1
  refine Array.ext_getElem? fun k => ?_
  rw [Array.getElem?_modify, Array.getElem?_setIfInBounds]
  split
  · rename_i e
    subst e
    rw [h]; simp
  · rfl
theorem freeze_at {w : World} {b n : Nat} {cs : Array Value} {t : TypeId} (h : w.heap[b]? = some (.cells cs t (0, 0))) (hn : n ≠ 0) : ∃ fr, UpdO w b (.cells cs t fr) (w.freeze ⟨b, 0, none⟩ n) := by
  have hlt : b < w.heap.size := by
    rcases Nat.lt_or_ge b w.heap.size with h' | h'
    · exact h'
    · simp [Array.getElem?_eq_none h'] at h
  refine ⟨(0, 0 + n), ?_, hlt⟩
  unfold World.freeze
  rw [if_neg hn]
  congr 1
  refine Array.ext_getElem? fun k => ?_
  rw [Array.getElem?_modify, Array.getElem?_setIfInBounds]
  split
  · rename_i e
    subst e
    rw [h]; simp
  · rfl
/-- 'append(b, s...)' of an own row of bytes, at the operation. -/
theorem wp_appStr {W : Base} {g w : World} {L : List Atom} {ops : Array Oper} {rest : List Oper} {o : Oper} {a : Act} {Q : Exit → Act → World → Prop} (hgd : o.guard = none) (sl x : Operand) (t u : TypeId)
    (ho : o.op = .call { callee := .builtin .append, args := #[sl, x], argTypes := #[t, u] }) (e : TypeId) (i : TypeInfo) (ht : P.underlying t = some (.slice e)) (hu : P.underlying u = some .string) (hi : P.info? e = some i) (hz : i.zero = some (.int .u8 0)) (hsize : i.size = 1) (hby : i.bytes = 1)
    {v : Value} {xs : List UInt8} (hs : a.eval sl = v) (H : SL W g w (slO .u8 e v xs :: L)) (s : ByteArray) (hx : a.eval x = .string s) (hb : xs.length + s.size ≤ 140737488355328)
    (h : ∀ q m c w', SL W g w' (slO .u8 e (.slice q m c) (xs ++ s.data.toList) :: L) → w.grownBy w' v.ownBlock → wpList P ops Q rest (a.put o.dst (.slice q m c)) w') : wpList P ops Q (o :: rest) a w := by
  refine wpList_plain hgd fun K hK => ?_
  obtain ⟨cs, hrel, H1⟩ := SL.slO (α := UInt8) H
  have hrow := H1.row
  have hzl : s.data.toList.length = s.size := by rw [Array.length_toList]; rfl
  obtain ⟨v', w', hrun, hown', hgrow, _⟩ := Go.Lib.run_append_own_string (P := P) (w := w) W.n t u o.type e i ht hu hi hz hsize hby v xs.length cs.flatten hrow s (by unfold maxLen; omega) hb H.size
  have hwhere := append_where_str (P := P) W.n t u o.type e i ht hu hi hz hsize hby v xs.length cs.flatten hrow s (by unfold maxLen; omega) hb hrun
  have H2 := H1.grown hown' hgrow hwhere
  have hstr : Go.Lib.strCells s = s.data.toList.map fun c => Value.int .u8 (c.toNat : Int) := by
    simp [Go.Lib.strCells]
  have H3 : SL W g w' (slO .u8 e v' (xs ++ s.data.toList) :: L) := by
    refine SL.slI (α := UInt8) (cs := cs ++ (s.data.toList.map fun c => [Value.int .u8 (c.toNat : Int)])) (hrel.append (str_rows g _).1) ?_
    rw [List.flatten_append, (str_rows g _).2, List.length_append, hzl, ← hstr]
    exact H2
  obtain ⟨q, m, c, rfl, _⟩ := slO_nil H3
  unfold Oper.wp execOp
  simp only [ho, resolve, invoke, builtin, Sem.run_bind, Sem.run_pure, Result.andThen_ok, List.map_toArray, List.map_cons, List.map_nil, hs, hx, hrun]
  exact hK _ _ (h q m c w' H3 hgrow)
theorem bld_open {W : Base} {g w : World} {F : List Atom} {t e : TypeId} {v : Value} {x : List UInt8} (H : SL W g w (bldA t e x v :: F)) : ∃ b p u, v = ptr b 0 ∧ (p = .pointer none ∨ p = ptr b 0) ∧ SL W g w (Lm.blk b #[p, u] t :: slO .u8 e u x :: F) := by
  obtain ⟨⟨b, p, u⟩, H1⟩ := H.openE
  obtain ⟨⟨hv, hp⟩, H2⟩ := SL.pure (p := v = ptr b 0 ∧ (p = .pointer none ∨ p = ptr b 0)) H1
  exact ⟨b, p, u, hv, hp, H2⟩
set_option linter.unusedVariables false in
set_option maxHeartbeats 2000000 in
set_option maxRecDepth 100000 in
theorem bld_string (L : Lays.n169 P ρ) (X : Builder.Extra P ρ) {W : Base} {g w : World} {F : List Atom} {v : Value} {x : List UInt8} (H : SL W g w (bldA (ρ.t 72) (ρ.t 5) x v :: F)) :
    Calls P (ρ.f 169) #[v] w fun e w' => e = .returned (.string ⟨x.toArray⟩) ∧ SL W g w' F := by
  obtain ⟨b, p, u, rfl, hp, H2⟩ := bld_open H
  clear H
  have H := H2
  clear H2
  have hbk := H.blk 0
  have hlt : b < w.heap.size := by
    rcases Nat.lt_or_ge b w.heap.size with h' | h'
    · exact h'
    · have hbk : w.heap[b]? = _ := hbk
      simp [Array.getElem?_eq_none h'] at hbk
  have H0 := H
  obtain ⟨cs, hrel, H1⟩ := SL.slO (α := UInt8) H.drop
  have hrow := H1.row
  rw [bytes_row hrel] at H1 hrow
  have HD : SL W g w.drew F := (H.dropN 2).le ((Below.refl _ w).drew)
  have hUS0 := Any.unsafeString_none L X
  have mixed := L.mixed
  have t72 := L.t72; have a72 := L.a72; have z72 := L.z72; have v72 := L.v72; have u72 := run_underlying L.t72
  have t70 := L.t70; have a70 := L.a70; have z70 := L.z70; have v70 := L.v70; have u70 := run_underlying L.t70
  have t37 := L.t37; have a37 := L.a37; have z37 := L.z37; have v37 := L.v37; have u37 := run_underlying L.t37
  have t127 := L.t127; have a127 := L.a127; have z127 := L.z127; have v127 := L.v127; have u127 := run_underlying L.t127
  have t3 := L.t3; have a3 := L.a3; have z3 := L.z3; have v3 := L.v3; have u3 := run_underlying L.t3
  have t9 := L.t9; have a9 := L.a9; have z9 := L.z9; have v9 := L.v9; have u9 := run_underlying L.t9
  have t5 := X.t5; have a5 := X.a5; have z5 := X.z5; have v5 := X.v5; have u5 := run_underlying X.t5
  rcases hrow.2 with ⟨rfl, hz⟩ | ⟨k, cap, cur, rfl, hbg, hg, hnc, hcm, hcs, htake⟩
  · obtain rfl : x = [] := List.eq_nil_of_length_eq_zero hz
    have c1 : w.drew.cell? ⟨b, 1, none⟩ = some (.slice none 0 0) := by
      have : w.drew.heap[b]? = some (.cells #[p, .slice none 0 0] (ρ.t 72) (0, 0)) := hbk
      rw [Lib.cell_of_heap this]; rfl
    have hSD : (Builtin.unsafeSliceData_ #[(ρ.t 37)] (ρ.t 127) #[.slice none 0 0]).run P w.drew = .ok (.pointer none) w.drew := rfl
    clear H H0 H1 hrow hp
    go_enter L.f169, Body.n169_ntmps ρ
    go_wp2
    go_region_o
    all_goals (go_wp2; go_ret; exact ⟨rfl, HD⟩)
  · by_cases hx : x = []
    · subst hx
      by_cases hc0 : cap = 0
      · subst hc0
        have c1 : w.drew.cell? ⟨b, 1, none⟩ = some (.slice (some ⟨k, 0, none⟩) 0 0) := by
          have : w.drew.heap[b]? = some (.cells #[p, .slice (some ⟨k, 0, none⟩) 0 0] (ρ.t 72) (0, 0)) := hbk
          rw [Lib.cell_of_heap this]; rfl
        have hSD : (Builtin.unsafeSliceData_ #[(ρ.t 37)] (ρ.t 127) #[.slice (some ⟨k, 0, none⟩) 0 0]).run P w.drew = .ok (.pointer (some ⟨w.drew.heap.size, 0, none⟩)) (w.drew.alloc (.view ⟨k, 0, none⟩ (ρ.t 5))) :=
          Lib.run_unsafeSliceData_zero w.drew _ _ (ρ.t 5) L.t127 ⟨k, 0, none⟩ 0 ((ρ.t 5), cur.size) (by have hg' : w.drew.heap[k]? = some (.cells cur (ρ.t 5) (0, 0)) := hg; simp [World.shape?, hg'])
        have c2 : (w.drew.alloc (.view ⟨k, 0, none⟩ (ρ.t 5))).cell? ⟨b, 1, none⟩ = some (.slice (some ⟨k, 0, none⟩) 0 0) := by
          have : (w.drew.alloc (.view ⟨k, 0, none⟩ (ρ.t 5))).heap[b]? = _ := (Lib.alloc_old w.drew _ b hlt).trans hbk
          rw [Lib.cell_of_heap this]; rfl
        have c3 : (w.alloc (.view ⟨k, 0, none⟩ (ρ.t 5))).drew.cell? ⟨b, 1, none⟩ = some (.slice (some ⟨k, 0, none⟩) 0 0) := c2
        have c0 : w.cell? ⟨b, 1, none⟩ = some (.slice (some ⟨k, 0, none⟩) 0 0) := c1
        have HA : SL W g (w.drew.alloc (.view ⟨k, 0, none⟩ (ρ.t 5))) F := HD.le ((Below.refl _ w.drew).alloc (Nat.le_refl _) _)
        clear H H0 H1 hrow hg hp
        go_enter L.f169, Body.n169_ntmps ρ
        go_wp2
        go_region_o
        all_goals (go_wp2; go_ret; exact ⟨rfl, HA⟩)
      · have c1 : w.drew.cell? ⟨b, 1, none⟩ = some (.slice (some ⟨k, 0, none⟩) 0 cap) := by
          have : w.drew.heap[b]? = some (.cells #[p, .slice (some ⟨k, 0, none⟩) 0 cap] (ρ.t 72) (0, 0)) := hbk
          rw [Lib.cell_of_heap this]; rfl
        have hSD : (Builtin.unsafeSliceData_ #[(ρ.t 37)] (ρ.t 127) #[.slice (some ⟨k, 0, none⟩) 0 cap]).run P w.drew = .ok (.pointer (some ⟨k, 0, none⟩)) w.drew :=
          Lib.run_unsafeSliceData_row _ _ _ _ _ _ hc0
        clear hc0 H H0 H1 hrow hg hp
        go_enter L.f169, Body.n169_ntmps ρ
        go_wp2
        go_region_o
        all_goals (go_wp2; go_ret; exact ⟨rfl, HD⟩)
    · have hl0 : x.length ≠ 0 := by simpa using hx
      have c1 : w.drew.cell? ⟨b, 1, none⟩ = some (.slice (some ⟨k, 0, none⟩) x.length cap) := by
        have : w.drew.heap[b]? = some (.cells #[p, .slice (some ⟨k, 0, none⟩) x.length cap] (ρ.t 72) (0, 0)) := hbk
        rw [Lib.cell_of_heap this]; rfl
      have hSD : (Builtin.unsafeSliceData_ #[(ρ.t 37)] (ρ.t 127) #[.slice (some ⟨k, 0, none⟩) x.length cap]).run P w.drew = .ok (.pointer (some ⟨k, 0, none⟩)) w.drew :=
        Lib.run_unsafeSliceData_row _ _ _ _ _ _ (by omega)
      have hUS : (Builtin.unsafeString_ #[(ρ.t 127), (ρ.t 3)] (ρ.t 9) #[.pointer (some ⟨k, 0, none⟩), .int .i64 x.length]).run P w.drew = .ok (.string ⟨x.toArray⟩) (w.drew.freeze ⟨k, 0, none⟩ x.length) := by
        refine Lib.run_unsafeString_row w.drew (ρ.t 127) (ρ.t 3) (ρ.t 9) (ρ.t 5) L.t127 X.cellsByte k cur.size (by have hg' : w.drew.heap[k]? = some (.cells cur (ρ.t 5) (0, 0)) := hg; simp [World.shape?, hg']) x hx (by have : cur.size = cap * 1 := hcs; omega) (by unfold maxLen at hcm; omega) ?_
        intro j y hy
        have := hrow.cells (g := k) rfl j (.int .u8 y.toNat) (by simp [Lib.byteCells, hy])
        exact this
      have HF : SL W g (w.drew.freeze ⟨k, 0, none⟩ x.length) F := by
        rcases H1.ofRow with ⟨q, _⟩ | ⟨k', cap', cur', e1, e2, e3, e4, e5, H2⟩
        · cases q
        · obtain rfl : k = k' := by injection e1 with e1; injection e1 with e1; injection e1
          have H2 := H2.le ((Below.refl _ w).drew)
          obtain ⟨fr, up⟩ := freeze_at (w := w.drew) (n := x.length) (H2.blk 0) hl0
          exact (H2.updO0 up).drop
      clear H H0 H1 hrow hg hp
      go_enter L.f169, Body.n169_ntmps ρ
      go_wp2
      go_region_o
      all_goals (go_wp2; go_ret; exact ⟨rfl, HF⟩)
end Go.Lm

/- Plain facts: a line is read back as it was written, by both readings. General: no program in sight. -/
namespace Go.Lm
open Go Go.RowKit
/-! ### Numbers -/
theorem dig_nat {d : Nat} (h : d < 10) : (UInt8.ofNat (48 + d)).toNat = 48 + d := by rw [UInt8.toNat_ofNat']; omega
theorem dec_small {u : Nat} (h : u < 10) : Lib.decDigits u = [UInt8.ofNat (48 + u)] := by rw [Lib.decDigits, dif_pos h]
theorem dec_big {u : Nat} (h : ¬ u < 10) : Lib.decDigits u = Lib.decDigits (u / 10) ++ [UInt8.ofNat (48 + u % 10)] := by rw [Lib.decDigits, dif_neg h]
theorem pu_step {a d : Nat} (hd : d < 10) (ha : a < 1844674407370955162) (hs : a * 10 + d < 18446744073709551616) (l : List UInt8) : Lib.parseUint10 a (UInt8.ofNat (48 + d) :: l) = Lib.parseUint10 (a * 10 + d) l := by
  have e : (UInt8.ofNat (48 + d)).toNat - 48 = d := by rw [dig_nat hd]; omega
  rw [Lib.parseUint10, e, dig_nat hd, if_pos (by omega), if_neg (by omega), if_neg (by omega)]
theorem pu_dec : ∀ (n u : Nat), u ≤ n → u < 18446744073709551616 → ∀ l : List UInt8, Lib.parseUint10 0 (Lib.decDigits u ++ l) = Lib.parseUint10 u l
  | n, u, hn, hu, l => by
    by_cases h : u < 10
    · rw [dec_small h, List.singleton_append, pu_step h (by omega) (by omega)]
      congr 1; omega
    · match n, hn with
      | 0, hn => omega
      | n + 1, hn =>
      rw [dec_big h, List.append_assoc, pu_dec n (u / 10) (by omega) (by omega), List.singleton_append, pu_step (by omega) (by omega) (by omega)]
      congr 1; omega
theorem dec_ne (u : Nat) : Lib.decDigits u ≠ [] := by
  by_cases h : u < 10
  · rw [dec_small h]; exact List.cons_ne_nil _ _
  · rw [dec_big h]; simp
theorem dec_dig : ∀ (n u : Nat), u ≤ n → ∀ b ∈ Lib.decDigits u, 48 ≤ b.toNat ∧ b.toNat ≤ 57
  | n, u, hn, b, hb => by
    by_cases h : u < 10
    · rw [dec_small h, List.mem_singleton] at hb
      rw [hb, dig_nat h]; omega
    · match n, hn with
      | 0, hn => omega
      | n + 1, hn =>
      rw [dec_big h, List.mem_append, List.mem_singleton] at hb
      rcases hb with hb | hb
      · exact dec_dig n (u / 10) (by omega) b hb
      · rw [hb, dig_nat (by omega)]; omega
theorem parse_mag {u : Nat} (hu : u < 18446744073709551616) : Lib.parseMag (Lib.decDigits u) = .ok u := by
  unfold Lib.parseMag
  rw [if_neg (dec_ne u)]
  have := pu_dec u u (Nat.le_refl _) hu []
  rw [List.append_nil] at this
  rw [this]; rfl
theorem atoi_itoa {n : Int} (h : inK .i64 n) : Lib.atoiAll (Lib.itoa n) = .ok n := by
  have h1 : -9223372036854775808 ≤ n := h.1
  have h2 : n ≤ 9223372036854775807 := h.2
  unfold Lib.itoa
  split
  · rename_i hn
    simp only [Lib.atoiAll]
    rw [if_pos (.inr rfl), parse_mag (by omega)]
    show (if ¬ (45 = 45) ∧ 9223372036854775808 ≤ n.natAbs then Lib.NumEnd.range else if 45 = 45 ∧ 9223372036854775808 < n.natAbs then Lib.NumEnd.range else .ok (if 45 = 45 then -(n.natAbs : Int) else (n.natAbs : Int))) = _
    rw [if_neg (by omega), if_neg (by omega), if_pos rfl]
    congr 1; omega
  · rename_i hn
    cases hd : Lib.decDigits n.toNat with
    | nil => exact absurd hd (dec_ne _)
    | cons c r =>
      have hc := dec_dig _ n.toNat (Nat.le_refl _) c (by rw [hd]; exact List.mem_cons_self ..)
      simp only [Lib.atoiAll]
      rw [if_neg (by omega), ← hd, parse_mag (by omega)]
      simp only
      rw [if_neg (by omega), if_neg (by omega), if_neg (by omega)]
      congr 1; omega
theorem atoi_back {n : Int} (h : inK .i64 n) : atoiOk (itoaN n) = true ∧ atoiV (itoaN n) = n := by
  unfold atoiOk atoiV itoaN
  rw [bstr_lst, atoi_itoa h]
  exact ⟨rfl, rfl⟩
/-- What digits say, one behind the other. -/
def numStep (n : Int) (c : UInt8) : Int := if 48 ≤ c.toNat ∧ c.toNat ≤ 57 then IntKind.wrap .i64 (IntKind.wrap .i64 (10 * n) - ((c.toNat : Int) - 48)) else n
def numV (s : ByteArray) : Int := (s.data.toList.take 21).foldl numStep 0
def numberN (s : ByteArray) : Int := if s.data.toList.head? = some 45 then numV s else IntKind.wrap .i64 (-(numV s))
theorem wrap_id {z : Int} (h : inK .i64 z) : IntKind.wrap .i64 z = z := by
  have h1 : -9223372036854775808 ≤ z := h.1
  have h2 : z ≤ 9223372036854775807 := h.2
  unfold IntKind.wrap
  simp [IntKind.bits, IntKind.signed]
  split <;> omega
theorem numStep_in {n : Int} (h : inK .i64 n) (c : UInt8) : inK .i64 (numStep n c) := by
  unfold numStep
  split
  · exact wrap_inK .i64 _
  · exact h
theorem numFold_in : ∀ (l : List UInt8) {n : Int}, inK .i64 n → inK .i64 (l.foldl numStep n)
  | [], _, h => h
  | c :: l, _, h => numFold_in l (numStep_in h c)
theorem numV_in (s : ByteArray) : inK .i64 (numV s) := numFold_in _ ⟨by decide, by decide⟩
theorem numberN_in (s : ByteArray) : inK .i64 (numberN s) := by
  unfold numberN
  split
  · exact numV_in s
  · exact wrap_inK .i64 _
theorem num_step {u d : Nat} (hd : d < 10) (hu : u * 10 + d ≤ 9223372036854775808) : numStep (-(u : Int)) (UInt8.ofNat (48 + d)) = -((u * 10 + d : Nat) : Int) := by
  unfold numStep
  rw [dig_nat hd, if_pos (by omega), wrap_id (z := 10 * -(u : Int)) ⟨by show (-9223372036854775808 : Int) ≤ _; omega, by show _ ≤ (9223372036854775807 : Int); omega⟩, wrap_id ⟨by show (-9223372036854775808 : Int) ≤ _; omega, by show _ ≤ (9223372036854775807 : Int); omega⟩]
  omega
theorem num_dec : ∀ (n u : Nat), u ≤ n → u ≤ 9223372036854775808 → (Lib.decDigits u).foldl numStep 0 = -(u : Int)
  | n, u, hn, hu => by
    by_cases h : u < 10
    · rw [dec_small h]
      show numStep (-((0 : Nat) : Int)) _ = _
      rw [num_step h (by omega)]; omega
    · match n, hn with
      | 0, hn => omega
      | n + 1, hn =>
      rw [dec_big h, List.foldl_append, num_dec n (u / 10) (by omega) (by omega)]
      show numStep (-((u / 10 : Nat) : Int)) _ = _
      rw [num_step (by omega) (by omega)]; omega
theorem number_back {n : Int} (h : inK .i64 n) : numberN (itoaN n) = n := by
  have h1 : -9223372036854775808 ≤ n := h.1
  have h2 : n ≤ 9223372036854775807 := h.2
  have hl := Lib.itoa_length_le n h1 h2
  unfold numberN numV itoaN
  rw [bstr_lst, List.take_of_length_le hl]
  unfold Lib.itoa
  split
  · rename_i hn
    rw [if_pos (show (45 :: Lib.decDigits n.natAbs).head? = some 45 from rfl)]
    show (Lib.decDigits n.natAbs).foldl numStep (numStep 0 45) = n
    have : numStep 0 45 = 0 := by unfold numStep; rw [if_neg (by decide)]
    rw [this, num_dec _ _ (Nat.le_refl _) (by omega)]; omega
  · rename_i hn
    rw [num_dec _ _ (Nat.le_refl _) (by omega), wrap_id ⟨by show (-9223372036854775808 : Int) ≤ _; omega, by show _ ≤ (9223372036854775807 : Int); omega⟩]
    cases hd : Lib.decDigits n.toNat with
    | nil => exact absurd hd (dec_ne _)
    | cons c r =>
      have hc := dec_dig _ n.toNat (Nat.le_refl _) c (by rw [hd]; exact List.mem_cons_self ..)
      rw [if_neg (by
        intro e
        have e : c = 45 := by simpa using e
        rw [e] at hc
        exact absurd hc.1 (by decide))]
      omega
/-! ### Words -/
theorem ib_none : ∀ {l : List UInt8} {c : UInt8}, (∀ b ∈ l, b ≠ c) → Lib.indexByte l c = -1
  | [], _, _ => rfl
  | b :: l, c, h => by
    unfold Lib.indexByte
    rw [ib_none fun b hb => h b (List.mem_cons_of_mem _ hb), if_neg (by simpa using h b (List.mem_cons_self ..))]; rfl
theorem ib_hit : ∀ {a : List UInt8} {c : UInt8} (b : List UInt8), (∀ x ∈ a, x ≠ c) → Lib.indexByte (a ++ c :: b) c = (a.length : Int)
  | [], c, b, _ => by
    rw [List.nil_append]
    unfold Lib.indexByte
    rw [if_pos (by simp)]; rfl
  | x :: a, c, b, h => by
    rw [List.cons_append]
    unfold Lib.indexByte
    rw [ib_hit b fun y hy => h y (List.mem_cons_of_mem _ hy), if_neg (by simpa using h x (List.mem_cons_self ..)), if_neg (by simp), List.length_cons]; omega
theorem parts_none {s : ByteArray} (h : ∀ b ∈ s.data.toList, b ≠ 32) : partsW s = [s] := by
  unfold partsW
  have e : Lib.indexB s blankS = -1 := by
    show Lib.index s.data.toList [32] = -1
    rw [Lib.index_one, ib_none h]
  exact Lib.splitB_miss _ _ _ _ e
theorem parts_cons {a : List UInt8} (b : List UInt8) (h : ∀ x ∈ a, x ≠ 32) : partsW (bstr (a ++ 32 :: b)) = bstr a :: partsW (bstr b) := by
  have e : Lib.indexB (bstr (a ++ 32 :: b)) blankS = (a.length : Nat) := by
    show Lib.index (bstr (a ++ 32 :: b)).data.toList [32] = _
    rw [Lib.index_one, bstr_lst, ib_hit b h]
  have ec : (bstr (a ++ 32 :: b)).extract (a.length + blankS.size) (bstr (a ++ 32 :: b)).size = bstr b := lst_ext (by
    rw [ext_lst, bstr_lst, bstr_lst, bstr_size, List.take_of_length_le (Nat.le_refl _)]
    show (a ++ 32 :: b).drop (a.length + 1) = b
    rw [← List.drop_drop, List.drop_left]; rfl)
  have ea : (bstr (a ++ 32 :: b)).extract 0 (a.length + 0) = bstr a := lst_ext (by
    rw [ext_lst, bstr_lst, bstr_lst, Nat.add_zero, List.take_left]; rfl)
  have hc := Lib.countB_hit (bstr (a ++ 32 :: b)) blankS a.length (by decide) e
  rw [ec] at hc
  unfold partsW
  rw [hc, Nat.add_comm 1, Lib.splitB_hit _ _ _ _ _ e, ec, ea]
theorem joinW_cons (x y : ByteArray) (r : List ByteArray) : joinW (x :: y :: r) = bstr (x.data.toList ++ 32 :: (joinW (y :: r)).data.toList) := by
  unfold joinW
  rw [bstr_lst]
  congr 1
theorem joinW_one (x : ByteArray) : joinW [x] = x := by
  unfold joinW
  rw [List.map_cons, List.map_nil, Lib.join_one, lst_bstr]
theorem parts_join : ∀ (w : List ByteArray), w ≠ [] → (∀ x ∈ w, ∀ b ∈ x.data.toList, b ≠ 32) → partsW (joinW w) = w
  | [], h, _ => absurd rfl h
  | [x], _, h => by rw [joinW_one, parts_none (h x (List.mem_cons_self ..))]
  | x :: y :: r, _, h => by
    rw [joinW_cons, parts_cons _ (h x (List.mem_cons_self ..)), lst_bstr, lst_bstr, parts_join (y :: r) (List.cons_ne_nil _ _) fun z hz => h z (List.mem_cons_of_mem _ hz)]
theorem itoa_plain (n : Int) : ∀ b ∈ (itoaN n).data.toList, b ≠ 32 ∧ b ≠ 10 := by
  intro b hb
  unfold itoaN at hb
  rw [bstr_lst] at hb
  have hd : ∀ u, b ∈ Lib.decDigits u → b ≠ 32 ∧ b ≠ 10 := fun u hm => by
    have := dec_dig _ u (Nat.le_refl _) b hm
    constructor <;> (rintro rfl; exact absurd this.1 (by decide))
  unfold Lib.itoa at hb
  split at hb
  · rcases List.mem_cons.1 hb with rfl | hb
    · decide
    · exact hd _ hb
  · exact hd _ hb
theorem quote_plain (t : ByteArray) : ∀ b ∈ (quoteN t).data.toList, b ≠ 32 ∧ b ≠ 10 := by
  intro b hb
  rw [quoteN_lst] at hb
  rcases List.mem_cons.1 hb with rfl | hb
  · decide
  · rcases List.mem_append.1 hb with hb | hb
    · have := List.all_eq_true.1 (qIn_back t).2.2 b hb
      have := okQ_facts this
      constructor <;> (rintro rfl; exact absurd this.1 (by decide))
    · rw [List.mem_singleton.1 hb]; decide
theorem words_plain (e : Ev) : ∀ x ∈ wordsN e, ∀ b ∈ x.data.toList, b ≠ 32 ∧ b ≠ 10 := by
  intro x hx
  unfold wordsN at hx
  simp only [List.mem_cons, List.not_mem_nil, or_false] at hx
  rcases hx with rfl | rfl | rfl | rfl | rfl | rfl | rfl
  · exact itoa_plain _
  · exact itoa_plain _
  · exact itoa_plain _
  · exact itoa_plain _
  · exact quote_plain _
  · exact quote_plain _
  · exact quote_plain _
theorem trim_le (w z : List ByteArray) : ∀ n, trimN w z n ≤ n
  | 0 => Nat.le_refl _
  | n + 1 => by
    unfold trimN
    split
    · have := trim_le w z n; omega
    · exact Nat.le_refl _
theorem trim_pos (w z : List ByteArray) : ∀ n, 1 ≤ trimN w z (n + 1)
  | 0 => Nat.le_refl _
  | n + 1 => by
    unfold trimN
    split
    · exact trim_pos w z n
    · omega
theorem trim_rest (w z : List ByteArray) : ∀ n i, trimN w z n ≤ i → i < n → w.getD i ⟨#[]⟩ = z.getD i ⟨#[]⟩
  | 0, _, _, h => absurd h (Nat.not_lt_zero _)
  | n + 1, i, h, hi => by
    unfold trimN at h
    split at h
    · rename_i hc
      by_cases e : i = n
      · rw [e]
        have : sEq (w.getD n ⟨#[]⟩) (z.getD n ⟨#[]⟩) = true := by
          simp only [Bool.and_eq_true] at hc
          exact hc.2
        exact sEq_eq this
      · exact trim_rest w z n i h (by omega)
    · omega
theorem parts_line (e : Ev) : partsW (lineN e) = (wordsN e).take (trimN (wordsN e) noneW 7) := by
  unfold lineN
  refine parts_join _ ?_ fun x hx b hb => (words_plain e x (List.mem_of_mem_take hx) b hb).1
  intro h
  have := congrArg List.length h
  rw [List.length_take] at this
  have h1 : 1 ≤ trimN (wordsN e) noneW 7 := trim_pos (wordsN e) noneW 6
  have h2 : (wordsN e).length = 7 := rfl
  simp only [List.length_nil] at this
  omega
theorem word_line (e : Ev) (i : Nat) (h : i < 7) : wordW (lineN e) i = (wordsN e).getD i ⟨#[]⟩ := by
  unfold wordW
  rw [parts_line, List.getElem?_take]
  split
  · have hl : i < (wordsN e).length := h
    have e2 : (wordsN e).getD i ⟨#[]⟩ = (wordsN e)[i] := by rw [List.getD_eq_getElem?_getD, List.getElem?_eq_getElem hl]; rfl
    rw [e2, List.getElem?_eq_getElem hl]; rfl
  · rw [trim_rest (wordsN e) noneW 7 i (by omega) h]; rfl
structure EvIn (e : Ev) : Prop where
  i1 : inK .i64 e.1
  i2 : inK .i64 e.2.1
  i3 : inK .i64 e.2.2.1
  i4 : inK .i64 e.2.2.2.1
theorem ev_back {e : Ev} (h : EvIn e) : evOf (lineN e) = e := by
  unfold evOf
  rw [word_line e 0 (by decide), word_line e 1 (by decide), word_line e 2 (by decide), word_line e 3 (by decide), word_line e 4 (by decide), word_line e 5 (by decide), word_line e 6 (by decide)]
  show (atoiV (itoaN e.1), atoiV (itoaN e.2.1), atoiV (itoaN e.2.2.1), atoiV (itoaN e.2.2.2.1), (unqD (quoteN e.2.2.2.2.1)).1, (unqD (quoteN e.2.2.2.2.2.1)).1, (unqD (quoteN (bstr e.2.2.2.2.2.2.1))).1.data.toList, ()) = e
  rw [(atoi_back h.i1).2, (atoi_back h.i2).2, (atoi_back h.i3).2, (atoi_back h.i4).2, (unq_quote _).1, (unq_quote _).1, (unq_quote _).1]
  simp only [bstr_lst]
theorem ok_back {e : Ev} (h : EvIn e) : evOk (lineN e) = true := by
  have hlen : ((wordsN e).take (trimN (wordsN e) noneW 7)).length ≤ 7 := by
    rw [List.length_take]
    have h2 : (wordsN e).length = 7 := rfl
    omega
  unfold evOk
  rw [ev_back h, sEq_self, word_line e 0 (by decide), word_line e 1 (by decide), word_line e 2 (by decide), word_line e 3 (by decide), word_line e 4 (by decide), word_line e 5 (by decide), word_line e 6 (by decide), parts_line]
  show (decide (((wordsN e).take (trimN (wordsN e) noneW 7)).length ≤ 7) && (atoiOk (itoaN e.1) && (atoiOk (itoaN e.2.1) && (atoiOk (itoaN e.2.2.1) && (atoiOk (itoaN e.2.2.2.1) && ((unqD (quoteN e.2.2.2.2.1)).2 == 0 && ((unqD (quoteN e.2.2.2.2.2.1)).2 == 0 && ((unqD (quoteN (bstr e.2.2.2.2.2.2.1))).2 == 0 && true)))))))) = true
  rw [(atoi_back h.i1).1, (atoi_back h.i2).1, (atoi_back h.i3).1, (atoi_back h.i4).1, (unq_quote _).1, (unq_quote _).1, (unq_quote _).1, decide_eq_true hlen]
  rfl
/-- The document's reading of a line. -/
def evR (s : ByteArray) : Ev := (numberN (wordW s 0), numberN (wordW s 1), numberN (wordW s 2), numberN (wordW s 3), (unqD (wordW s 4)).1, (unqD (wordW s 5)).1, (unqD (wordW s 6)).1.data.toList, ())
theorem evR_in (s : ByteArray) : EvIn (evR s) := ⟨numberN_in _, numberN_in _, numberN_in _, numberN_in _⟩
theorem evR_back {e : Ev} (h : EvIn e) : evR (lineN e) = e := by
  unfold evR
  rw [word_line e 0 (by decide), word_line e 1 (by decide), word_line e 2 (by decide), word_line e 3 (by decide), word_line e 4 (by decide), word_line e 5 (by decide), word_line e 6 (by decide)]
  show (numberN (itoaN e.1), numberN (itoaN e.2.1), numberN (itoaN e.2.2.1), numberN (itoaN e.2.2.2.1), (unqD (quoteN e.2.2.2.2.1)).1, (unqD (quoteN e.2.2.2.2.2.1)).1, (unqD (quoteN (bstr e.2.2.2.2.2.2.1))).1.data.toList, ()) = e
  rw [number_back h.i1, number_back h.i2, number_back h.i3, number_back h.i4, (unq_quote _).1, (unq_quote _).1, (unq_quote _).1]
  simp only [bstr_lst]
theorem atoiV_in (s : ByteArray) : inK .i64 (atoiV s) := by
  unfold atoiV
  split
  · rename_i v h
    exact atoi_in h
  · exact ⟨by decide, by decide⟩
theorem evOf_in (s : ByteArray) : EvIn (evOf s) := ⟨atoiV_in _, atoiV_in _, atoiV_in _, atoiV_in _⟩
theorem line_ok {s : ByteArray} (h : evOk s = true) : lineN (evOf s) = s := by
  unfold evOk at h
  simp only [Bool.and_eq_true] at h
  exact sEq_eq h.2.2.2.2.2.2.2.2
/-- Both readings are the same, and tell the same lines. -/
theorem ev_same (s : ByteArray) : sEq (lineN (evR s)) s = evOk s ∧ (evOk s = true → evR s = evOf s) := by
  have h2 : evOk s = true → evR s = evOf s := fun h => by
    have := evR_back (evOf_in s)
    rw [line_ok h] at this
    exact this
  refine ⟨?_, h2⟩
  cases h : evOk s with
  | true => rw [h2 h, line_ok h, sEq_self]
  | false =>
    cases hl : sEq (lineN (evR s)) s with
    | false => rfl
    | true =>
      have e := sEq_eq hl
      have := ok_back (evR_in s)
      rw [e, h] at this
      cases this
end Go.Lm

/- Plain facts: the document's words and numbers, step by step. General: no program in sight. -/
namespace Go.Lm
open Go Go.RowKit
def restS (s : ByteArray) (i : Nat) : ByteArray := bstr (s.data.toList.drop i)
def NoBl (s : ByteArray) (a i : Nat) : Prop := ∀ b ∈ (s.extract a i).data.toList, b ≠ 32
theorem rest_cut {s : ByteArray} {a i : Nat} (ha : a ≤ i) (hi : i ≤ s.size) : s.data.toList.drop a = (s.extract a i).data.toList ++ s.data.toList.drop i := by
  rw [ext_lst]
  have h := sz_list s
  conv => lhs; rw [← List.take_append_drop i s.data.toList]
  exact List.drop_append_of_le_length (by rw [List.length_take]; omega)
theorem ext_next {s : ByteArray} {a i : Nat} (ha : a ≤ i) (hi : i < s.size) : (s.extract a (i + 1)).data.toList = (s.extract a i).data.toList ++ [byteAt s (i : Int)] := by
  have h := sz_list s
  have hb := drop_byte (s := s) (k := (i : Int)) (by omega) (by omega)
  rw [show ((i : Int) + 1).toNat = i + 1 by omega, Int.toNat_natCast] at hb
  rw [ext_lst, ext_lst]
  have e : s.data.toList.take (i + 1) = s.data.toList.take i ++ [byteAt s (i : Int)] := by
    have := congrArg (List.take 1) hb
    rw [List.take_succ_cons, List.take_zero] at this
    rw [← this, ← List.take_add]
  rw [e]
  exact List.drop_append_of_le_length (by rw [List.length_take]; omega)
theorem noBl_self (s : ByteArray) (a : Nat) : NoBl s a a := fun b hb => by
  rw [ext_lst, List.drop_eq_nil_of_le (by rw [List.length_take]; omega)] at hb
  cases hb
theorem noBl_next {s : ByteArray} {a i : Nat} (h : NoBl s a i) (ha : a ≤ i) (hi : i < s.size) (hb : byteAt s (i : Int) ≠ 32) : NoBl s a (i + 1) := fun b hm => by
  rw [ext_next ha hi, List.mem_append, List.mem_singleton] at hm
  rcases hm with hm | rfl
  · exact h b hm
  · exact hb
theorem words_step {s : ByteArray} {a i : Nat} (h : NoBl s a i) (ha : a ≤ i) (hi : i < s.size) (hb : byteAt s (i : Int) = 32) : partsW (restS s a) = s.extract a i :: partsW (restS s (i + 1)) := by
  have e := drop_byte (s := s) (k := (i : Int)) (by omega) (by omega)
  rw [show ((i : Int) + 1).toNat = i + 1 by omega, Int.toNat_natCast, hb] at e
  unfold restS
  rw [rest_cut ha (Nat.le_of_lt hi), e, parts_cons _ h, lst_bstr]
theorem words_last {s : ByteArray} {a : Nat} (h : NoBl s a s.size) (ha : a ≤ s.size) : partsW (restS s a) = [s.extract a s.size] := by
  have e : restS s a = s.extract a s.size := lst_ext (by
    unfold restS
    rw [bstr_lst, rest_cut ha (Nat.le_refl _), List.drop_eq_nil_of_le (by rw [← sz_list]; exact Nat.le_refl _), List.append_nil])
  rw [e, parts_none h]
theorem words_start (s : ByteArray) : partsW (restS s 0) = partsW s := by
  unfold restS
  rw [List.drop_zero, lst_bstr]
theorem num_next {s : ByteArray} {i : Nat} (hi : i < s.size) : (s.data.toList.take (i + 1)).foldl numStep 0 = numStep ((s.data.toList.take i).foldl numStep 0) (byteAt s (i : Int)) := by
  have := ext_next (s := s) (a := 0) (Nat.zero_le i) hi
  rw [ext_lst, ext_lst, List.drop_zero, List.drop_zero] at this
  rw [this, List.foldl_append]; rfl
theorem num_end {s : ByteArray} {i : Nat} (h : i = s.size ∨ i = 21) (h2 : i ≤ 21) : (s.data.toList.take i).foldl numStep 0 = numV s := by
  unfold numV
  have hs := sz_list s
  rcases h with rfl | rfl
  · rw [List.take_of_length_le (by omega), List.take_of_length_le (by omega)]
  · rfl
theorem head_byte {s : ByteArray} (h : 0 < s.size) : s.data.toList.head? = some (byteAt s 0) := by
  have e := drop_byte (s := s) (k := 0) (by omega) (by omega)
  rw [show (0 : Int).toNat = 0 from rfl, List.drop_zero] at e
  rw [e]; rfl
theorem number_neg {s : ByteArray} (h : 0 < s.size) (h2 : (((byteAt s 0).toNat : Int) == 45) = true) : numberN s = numV s := by
  have h2 : ((byteAt s 0).toNat : Int) = 45 := by simpa using h2
  unfold numberN
  rw [head_byte h, if_pos]
  congr 1
  exact UInt8.toNat_inj.1 (by show (byteAt s 0).toNat = 45; omega)
theorem number_pos {s : ByteArray} (h : 0 < s.size → (((byteAt s 0).toNat : Int) == 45) = false) : numberN s = IntKind.wrap .i64 (0 - numV s) := by
  unfold numberN
  rw [if_neg, Int.zero_sub]
  intro e
  by_cases hs : 0 < s.size
  · rw [head_byte hs] at e
    have e : byteAt s 0 = 45 := Option.some.inj e
    have := h hs
    rw [e] at this
    exact absurd this (by decide)
  · have hz := sz_list s
    have : s.data.toList = [] := List.eq_nil_of_length_eq_zero (by omega)
    rw [this] at e; cases e
theorem wrap_u8 {b : UInt8} (h : 48 ≤ b.toNat) : IntKind.wrap .u8 ((b.toNat : Int) - 48) = (b.toNat : Int) - 48 := by
  have := UInt8.toNat_lt b
  unfold IntKind.wrap
  simp [IntKind.bits, IntKind.signed]
  omega
theorem num_hit {n : Int} {b : UInt8} (h : 48 ≤ b.toNat) (h2 : b.toNat ≤ 57) : IntKind.wrap .i64 (IntKind.wrap .i64 (10 * n) - IntKind.wrap .i64 (IntKind.wrap .u8 ((b.toNat : Int) - 48))) = numStep n b := by
  unfold numStep
  rw [if_pos ⟨h, h2⟩, wrap_u8 h, wrap_id (z := (b.toNat : Int) - 48) ⟨by show (-9223372036854775808 : Int) ≤ _; omega, by show _ ≤ (9223372036854775807 : Int); omega⟩]
theorem num_miss {n : Int} {b : UInt8} (h : ¬ (48 ≤ b.toNat ∧ b.toNat ≤ 57)) : n = numStep n b := by
  unfold numStep
  rw [if_neg h]
theorem wrap_next {i : Nat} (h : i ≤ 9223372036854775806) : IntKind.wrap .i64 ((i : Int) + 1) = ((i + 1 : Nat) : Int) := by
  rw [wrap_id ⟨by show (-9223372036854775808 : Int) ≤ _; omega, by show _ ≤ (9223372036854775807 : Int); omega⟩]; omega
/-! ### A line, word by word -/
theorem app_lst (a b : ByteArray) : (a ++ b).data.toList = a.data.toList ++ b.data.toList := by
  rw [ByteArray.data_append, Array.toList_append]
theorem join_app : ∀ (l : List ByteArray) (x : ByteArray), l ≠ [] → (joinW (l ++ [x])).data.toList = (joinW l).data.toList ++ 32 :: x.data.toList
  | [], _, h => absurd rfl h
  | [y], x, _ => by
    show (joinW (y :: x :: [])).data.toList = _
    rw [joinW_cons, bstr_lst, joinW_one, joinW_one]
  | y :: z :: r, x, _ => by
    show (joinW (y :: z :: (r ++ [x]))).data.toList = _
    rw [joinW_cons, joinW_cons, bstr_lst, bstr_lst, show (joinW (z :: (r ++ [x]))).data.toList = _ from join_app (z :: r) x (List.cons_ne_nil _ _)]
    simp
theorem join_next {e : Ev} {p : Nat} (h0 : 1 ≤ p) (h : p < 7) : joinW ((wordsN e).take (p + 1)) = joinW ((wordsN e).take p) ++ ⟨#[32]⟩ ++ (wordsN e).getD p ⟨#[]⟩ := by
  have hl : p < (wordsN e).length := h
  have e1 : (wordsN e).take (p + 1) = (wordsN e).take p ++ [(wordsN e).getD p ⟨#[]⟩] := by
    rw [List.take_succ_eq_append_getElem hl, List.getD_eq_getElem?_getD, List.getElem?_eq_getElem hl]; rfl
  have hne : (wordsN e).take p ≠ [] := fun q => by
    have := congrArg List.length q
    rw [List.length_take, List.length_nil] at this
    omega
  refine lst_ext ?_
  rw [e1, join_app _ _ hne, app_lst, app_lst, List.append_assoc]; rfl
theorem itoa_zero : itoaN 0 = ⟨#[48]⟩ := lst_ext (by
  unfold itoaN Lib.itoa
  rw [bstr_lst, if_neg (by decide), dec_small (by decide)]; rfl)
theorem quote_nil : quoteN ⟨#[]⟩ = ⟨#[39, 39]⟩ := rfl
theorem none_low {q : Nat} (h : q ≤ 3) : noneW.getD q ⟨#[]⟩ = ⟨#[48]⟩ := by
  match q, h with
  | 0, _ => exact itoa_zero
  | 1, _ => exact itoa_zero
  | 2, _ => exact itoa_zero
  | 3, _ => exact itoa_zero
theorem none_high {q : Nat} (h : 4 ≤ q) (h2 : q ≤ 6) : noneW.getD q ⟨#[]⟩ = ⟨#[39, 39]⟩ := by
  match q, h, h2 with
  | 4, _, _ => exact quote_nil
  | 5, _, _ => exact quote_nil
  | 6, _, _ => exact quote_nil
/-! ### Words, and noughts behind them -/
def padW (s : ByteArray) (k : Nat) : List ByteArray := partsW s ++ List.replicate k ⟨#[48]⟩
theorem pad_next (s : ByteArray) (k : Nat) : padW s k ++ [⟨#[48]⟩] = padW s (k + 1) := by
  unfold padW
  rw [List.append_assoc, ← List.replicate_succ']
theorem pad_at {s : ByteArray} {k i : Nat} (h : i < (padW s k).length) : ((padW s k).getD i ⟨#[]⟩ ∈ partsW s ∧ (padW s k).getD i ⟨#[]⟩ = wordW s i) ∨ ((padW s k).getD i ⟨#[]⟩ = ⟨#[48]⟩ ∧ wordW s i = noneW.getD i ⟨#[]⟩) := by
  unfold padW wordW at *
  rw [List.getD_eq_getElem?_getD, List.getElem?_append]
  split
  · rename_i hi
    rw [List.getElem?_eq_getElem hi]
    exact .inl ⟨List.getElem_mem hi, rfl⟩
  · rename_i hi
    rw [List.getElem?_eq_none (Nat.le_of_not_lt hi), List.getElem?_replicate, if_pos (by rw [List.length_append, List.length_replicate] at h; omega)]
    exact .inr ⟨rfl, rfl⟩
theorem pad_num {s : ByteArray} {k i : Nat} (h : i < (padW s k).length) (hi : i ≤ 3) : numberN ((padW s k).getD i ⟨#[]⟩) = numberN (wordW s i) := by
  rcases pad_at h with ⟨_, e⟩ | ⟨e1, e2⟩
  · rw [e]
  · rw [e1, e2, none_low hi]
theorem pad_unq {s : ByteArray} {k i : Nat} (h : i < (padW s k).length) (hi : 4 ≤ i) (hi2 : i ≤ 6) : (unqD ((padW s k).getD i ⟨#[]⟩)).1 = (unqD (wordW s i)).1 := by
  rcases pad_at h with ⟨_, e⟩ | ⟨e1, e2⟩
  · rw [e]
  · rw [e1, e2, none_high hi hi2]
    decide +kernel
theorem pad_sz {s : ByteArray} {k i : Nat} (h : i < (padW s k).length) : ((padW s k).getD i ⟨#[]⟩).size ≤ s.size + 1 := by
  rcases pad_at h with ⟨e, _⟩ | ⟨e1, _⟩
  · exact Nat.le_trans (partsW_sz e) (Nat.le_succ _)
  · rw [e1]; exact Nat.le_add_left 1 _
/-! ### Lines -/
def NoNl (s : ByteArray) (a i : Nat) : Prop := ∀ b ∈ (s.extract a i).data.toList, b ≠ 10
theorem noNl_self (s : ByteArray) (a : Nat) : NoNl s a a := fun b hb => by
  rw [ext_lst, List.drop_eq_nil_of_le (by rw [List.length_take]; omega)] at hb
  cases hb
theorem noNl_next {s : ByteArray} {a i : Nat} (h : NoNl s a i) (ha : a ≤ i) (hi : i < s.size) (hb : byteAt s (i : Int) ≠ 10) : NoNl s a (i + 1) := fun b hm => by
  rw [ext_next ha hi, List.mem_append, List.mem_singleton] at hm
  rcases hm with hm | rfl
  · exact h b hm
  · exact hb
theorem count_next {s : ByteArray} {i : Nat} (hi : i < s.size) : Lib.countByte (s.data.toList.take (i + 1)) 10 = Lib.countByte (s.data.toList.take i) 10 + if byteAt s (i : Int) = 10 then 1 else 0 := by
  have := ext_next (s := s) (a := 0) (Nat.zero_le i) hi
  rw [ext_lst, ext_lst, List.drop_zero, List.drop_zero] at this
  unfold Lib.countByte
  rw [this, List.count_append, List.count_singleton]
  congr 1
  by_cases e : byteAt s (i : Int) = 10
  · rw [e]; rfl
  · rw [if_neg e, if_neg]
    exact fun q => e (by simpa using q)
theorem cut_hit {s : ByteArray} {a i : Nat} (h : NoNl s a i) (ha : a ≤ i) (hi : i < s.size) (hb : byteAt s (i : Int) = 10) : cutC (restS s a) = true ∧ cutA (restS s a) = s.extract a i ∧ cutB (restS s a) = restS s (i + 1) := by
  have e := drop_byte (s := s) (k := (i : Int)) (by omega) (by omega)
  rw [show ((i : Int) + 1).toNat = i + 1 by omega, Int.toNat_natCast, hb] at e
  have hl : (restS s a).data.toList = (s.extract a i).data.toList ++ 10 :: s.data.toList.drop (i + 1) := by
    unfold restS
    rw [bstr_lst, rest_cut ha (Nat.le_of_lt hi), e]
  have hx : Lib.index (restS s a).data.toList [10] = ((s.extract a i).data.toList.length : Nat) := by
    rw [Lib.index_one, hl, ib_hit _ h]
  have hc : Lib.cut (restS s a).data.toList [10] = ((s.extract a i).data.toList, s.data.toList.drop (i + 1), true) := by
    unfold Lib.cut
    rw [hx, if_pos (by omega), Int.toNat_natCast, hl, List.take_left, ← List.drop_drop, List.drop_left]; rfl
  unfold cutC cutA cutB
  rw [hc]
  exact ⟨rfl, lst_bstr _, rfl⟩
theorem cut_miss {s : ByteArray} {a : Nat} (h : NoNl s a s.size) (ha : a ≤ s.size) : cutC (restS s a) = false := by
  have hl : (restS s a).data.toList = (s.extract a s.size).data.toList := by
    unfold restS
    rw [bstr_lst, rest_cut ha (Nat.le_refl _), List.drop_eq_nil_of_le (by rw [← sz_list]; exact Nat.le_refl _), List.append_nil]
  unfold cutC Lib.cut
  rw [Lib.index_one, hl, ib_none h, if_neg (by decide)]
theorem rest_ne {s : ByteArray} {a : Nat} (h : a < s.size) : (!sEq (restS s a) ⟨#[]⟩) = true := by
  rw [sEq_nil]
  unfold restS
  rw [bstr_lst]
  cases hd : s.data.toList.drop a with
  | nil =>
    have := congrArg List.length hd
    rw [List.length_drop, ← sz_list] at this
    simp only [List.length_nil] at this
    omega
  | cons _ _ => rfl
theorem rest_end (s : ByteArray) : (!sEq (restS s s.size) ⟨#[]⟩) = false := by
  rw [sEq_nil]
  unfold restS
  rw [bstr_lst, List.drop_eq_nil_of_le (by rw [← sz_list]; exact Nat.le_refl _)]; rfl
theorem rest_zero (s : ByteArray) : restS s 0 = s := by
  unfold restS
  rw [List.drop_zero, lst_bstr]
theorem ext_sz {s : ByteArray} {a i : Nat} : (s.extract a i).size ≤ s.size := by
  rw [sz_list, sz_list, ext_lst, List.length_drop, List.length_take]; omega
structure EvsEq (a b : List Ev) : Prop where
  eq : a = b
end Go.Lm

/- Plain facts: few events, scripts that are printed. General: no program in sight. -/
namespace Go.Lm
open Go Go.RowKit
def cut3 (s : ByteArray) : ByteArray := if decide ((s.size : Int) > 300) then s.extract 0 300 else s
def cutL (l : List UInt8) : List UInt8 := if decide ((l.length : Int) > 300) then l.take 300 else l
def cutEv (e : Ev) : Ev := (e.1, e.2.1, e.2.2.1, e.2.2.2.1, cut3 e.2.2.2.2.1, cut3 e.2.2.2.2.2.1, cutL e.2.2.2.2.2.2.1, ())
def fewN (l : List Ev) : List Ev := (l.take 60).map cutEv
structure EvsIn (a : List Ev) : Prop where
  all : ∀ e ∈ a, EvIn e
theorem evIn_ok {e : Ev} (h : Ty.ok tEvent e) : EvIn e := by
  obtain ⟨o1, o2, o3, o4, _⟩ := h
  exact ⟨o1, o2, o3, o4⟩
theorem evIn_cut {e : Ev} (h : EvIn e) : EvIn (cutEv e) := ⟨h.i1, h.i2, h.i3, h.i4⟩
theorem evsIn_next {o : List Ev} {e : Ev} (h : ∀ x ∈ o, EvIn x) (he : EvIn e) : ∀ x ∈ o ++ [e], EvIn x := fun x hx => by
  rcases List.mem_append.1 hx with hx | hx
  · exact h x hx
  · rw [List.mem_singleton.1 hx]; exact he
theorem cut3_sz (s : ByteArray) : (cut3 s).size ≤ 300 := by
  unfold cut3
  split
  · rw [sz_list, ext_lst, List.drop_zero, List.length_take]; omega
  · rename_i h
    have h : ¬ (s.size : Int) > 300 := by simpa using h
    omega
theorem cutL_sz (l : List UInt8) : (cutL l).length ≤ 300 := by
  unfold cutL
  split
  · rw [List.length_take]; omega
  · rename_i h
    have h : ¬ (l.length : Int) > 300 := by simpa using h
    omega
theorem few_sz {l : List Ev} {e : Ev} (h : e ∈ fewN l) : e.2.2.2.2.1.size ≤ 300 ∧ e.2.2.2.2.2.1.size ≤ 300 ∧ e.2.2.2.2.2.2.1.length ≤ 300 := by
  unfold fewN at h
  obtain ⟨x, _, rfl⟩ := List.mem_map.1 h
  exact ⟨cut3_sz _, cut3_sz _, cutL_sz _⟩
theorem few_len (l : List Ev) : (fewN l).length ≤ 60 := by
  unfold fewN
  rw [List.length_map, List.length_take]; omega
theorem few_next {l : List Ev} {p : Nat} (h : p < l.length) : (l.take p).map cutEv ++ [cutEv (ixD tEvent l (p : Int))] = (l.take (p + 1)).map cutEv := by
  have := take_ixD (e := tEvent) (l := l) (k := (p : Int)) (by omega) (by omega)
  rw [show ((p : Int) + 1).toNat = p + 1 by omega, Int.toNat_natCast] at this
  rw [this, List.map_append]; rfl
theorem few_end {l : List Ev} {p : Nat} (h : p ≤ 60) (h2 : p = l.length ∨ p = 60) : (l.take p).map cutEv = fewN l := by
  unfold fewN
  rcases h2 with rfl | rfl
  · rw [List.take_of_length_le (Nat.le_refl _), List.take_of_length_le h]
  · rfl
theorem few_leaf {o l : List Ev} {p : Nat} {x : Ev} (hx : x = cutEv (ixD tEvent l (p : Int))) (h : o = (l.take p).map cutEv) (hp : p < l.length) (hin : ∀ e ∈ o ++ [cutEv (ixD tEvent l (p : Int))], EvIn e) : o ++ [x] = (l.take (p + 1)).map cutEv ∧ ∀ e ∈ o ++ [x], EvIn e := by
  subst hx
  exact ⟨by rw [← few_next hp, ← h], hin⟩
/-! ### Scripts that are printed -/
def printL (a : List Ev) : List UInt8 := a.flatMap fun e => (lineN e).data.toList ++ [10]
def printN (a : List Ev) : ByteArray := bstr (printL a)
structure EvsSz (m : Int) (a : List Ev) : Prop where
  sz : ∀ e ∈ a, (e.2.2.2.2.1.size : Int) ≤ m ∧ (e.2.2.2.2.2.1.size : Int) ≤ m ∧ (e.2.2.2.2.2.2.1.length : Int) ≤ m
theorem line_sz {m : Nat} {e : Ev} (h : EvOk m e) : (lineN e).size ≤ 9 * m + 97 := by
  unfold lineN
  exact line_size h _
theorem ev_at {m : Nat} {a : List Ev} {p : Nat} (hs : EvsSz m a) (hp : p < a.length) (ho : Ty.ok tEvent (ixD tEvent a (p : Int))) : EvOk m (ixD tEvent a (p : Int)) := by
  have hm : ixD tEvent a (p : Int) ∈ a := by
    unfold ixD
    rw [Int.toNat_natCast, List.getD_eq_getElem?_getD, List.getElem?_eq_getElem hp]
    exact List.getElem_mem hp
  obtain ⟨h1, h2, h3⟩ := hs.sz _ hm
  obtain ⟨o1, o2, o3, o4, _⟩ := ho
  exact ⟨o1, o2, o3, o4, by omega, by omega, by omega⟩
theorem print_next {a : List Ev} {p : Nat} (h : p < a.length) : printL (a.take (p + 1)) = printL (a.take p) ++ ((lineN (ixD tEvent a (p : Int))).data.toList ++ [10]) := by
  have := take_ixD (e := tEvent) (l := a) (k := (p : Int)) (by omega) (by omega)
  rw [show ((p : Int) + 1).toNat = p + 1 by omega, Int.toNat_natCast] at this
  unfold printL
  rw [this, List.flatMap_append, List.flatMap_cons, List.flatMap_nil, List.append_nil]
end Go.Lm

/- Plain facts: what was printed is read as it was, and what was read is printed as it was. General: no program in sight. -/
namespace Go.Lm
open Go Go.RowKit
theorem join_mem : ∀ {w : List ByteArray} {b : UInt8}, b ∈ (joinW w).data.toList → b = 32 ∨ ∃ x ∈ w, b ∈ x.data.toList
  | [], b, h => by
    have : (joinW []).data.toList = [] := by unfold joinW; rw [bstr_lst]; rfl
    rw [this] at h; cases h
  | [x], b, h => by
    rw [joinW_one] at h
    exact .inr ⟨x, List.mem_cons_self .., h⟩
  | x :: y :: r, b, h => by
    rw [joinW_cons, bstr_lst, List.mem_append, List.mem_cons] at h
    rcases h with h | h | h
    · exact .inr ⟨x, List.mem_cons_self .., h⟩
    · exact .inl h
    · rcases join_mem (w := y :: r) h with h | ⟨z, hz, h⟩
      · exact .inl h
      · exact .inr ⟨z, List.mem_cons_of_mem _ hz, h⟩
theorem line_plain (e : Ev) : ∀ b ∈ (lineN e).data.toList, b ≠ 10 := fun b hb => by
  unfold lineN at hb
  rcases join_mem hb with h | ⟨x, hx, h⟩
  · rw [h]; decide
  · exact (words_plain e x (List.mem_of_mem_take hx) b h).2
theorem cut_app {u : List UInt8} (v : List UInt8) (h : ∀ b ∈ u, b ≠ 10) : cutC (bstr (u ++ 10 :: v)) = true ∧ cutA (bstr (u ++ 10 :: v)) = bstr u ∧ cutB (bstr (u ++ 10 :: v)) = bstr v := by
  have hc : Lib.cut (bstr (u ++ 10 :: v)).data.toList [10] = (u, v, true) := by
    unfold Lib.cut
    rw [bstr_lst, Lib.index_one, ib_hit _ h, if_pos (by omega), Int.toNat_natCast, List.take_left, ← List.drop_drop, List.drop_left]; rfl
  unfold cutC cutA cutB
  rw [hc]
  exact ⟨rfl, rfl, rfl⟩
theorem ib_split : ∀ {l : List UInt8} {c : UInt8}, 0 ≤ Lib.indexByte l c → l = l.take (Lib.indexByte l c).toNat ++ c :: l.drop ((Lib.indexByte l c).toNat + 1)
  | [], _, h => by
    have h : (0 : Int) ≤ -1 := h
    exact absurd h (by decide)
  | b :: l, c, h => by
    unfold Lib.indexByte at h ⊢
    by_cases hb : b = c
    · rw [if_pos (by simpa using hb), hb]; rfl
    · rw [if_neg (by simpa using hb)] at h ⊢
      by_cases h1 : Lib.indexByte l c = -1
      · rw [if_pos (by simpa using h1)] at h
        exact absurd h (by decide)
      · rw [if_neg (by simpa using h1)] at h ⊢
        have hge := Lib.indexByte_ge l c
        have := ib_split (l := l) (c := c) (by omega)
        rw [show (Lib.indexByte l c + 1).toNat = (Lib.indexByte l c).toNat + 1 by omega, List.take_succ_cons, List.drop_succ_cons, List.cons_append, ← this]
theorem cut_join {s : ByteArray} (h : cutC s = true) : s.data.toList = (cutA s).data.toList ++ 10 :: (cutB s).data.toList := by
  unfold cutC at h
  unfold cutA cutB
  rw [bstr_lst, bstr_lst]
  unfold Lib.cut at h ⊢
  by_cases h1 : 0 ≤ Lib.index s.data.toList [10]
  · rw [if_pos h1]
    rw [Lib.index_one] at h1 ⊢
    exact ib_split h1
  · rw [if_neg h1] at h; cases h
theorem count_print : ∀ (a : List Ev), Lib.countByte (printL a) 10 = a.length
  | [] => rfl
  | e :: a => by
    have h0 : (lineN e).data.toList.count 10 = 0 := List.count_eq_zero.2 fun h => line_plain e 10 h rfl
    have h1 := count_print a
    unfold printL Lib.countByte at *
    rw [List.flatMap_cons, List.count_append, List.count_append, h0, h1, List.length_cons]
    show 0 + 1 + _ = _
    omega
theorem parse_printed : ∀ (a l : List Ev), (∀ e ∈ a, EvIn e) → parseGo (printN a).size l (printN a) = (l ++ a, 0, 0)
  | [], l, _ => by
    rw [parse_end (by rw [sEq_nil]; unfold printN; rw [bstr_lst]; rfl), List.append_nil]
  | e :: a, l, h => by
    have he := h e (List.mem_cons_self ..)
    have hs : printN (e :: a) = bstr ((lineN e).data.toList ++ 10 :: printL a) := by
      unfold printN
      congr 1
      unfold printL
      rw [List.flatMap_cons, List.append_assoc]; rfl
    obtain ⟨k1, k2, k3⟩ := cut_app (printL a) (line_plain e)
    rw [← hs, lst_bstr] at k2
    rw [← hs] at k1 k3
    have hne : (!sEq (printN (e :: a)) ⟨#[]⟩) = true := by
      rw [sEq_nil, hs, bstr_lst]
      cases (lineN e).data.toList <;> rfl
    rw [parse_step hne (by rw [k1, k2, ok_back he]; rfl), k2, k3, ev_back he]
    have := parse_printed a (l ++ [e]) fun x hx => h x (List.mem_cons_of_mem _ hx)
    unfold printN at this
    rw [this, List.append_assoc]; rfl
/-- What was written is read as it was. -/
theorem parse_print {a : List Ev} (h : ∀ e ∈ a, EvIn e) (hl : a.length ≤ 2048) (hz : (printN a).size ≤ 65536) : parseN (printN a) = (a, 0, 0) := by
  unfold parseN
  have hc : Lib.countByte (printN a).data.toList 10 = a.length := by unfold printN; rw [bstr_lst, count_print]
  rw [hc, decide_eq_false (by omega), decide_eq_false (by omega), Bool.or_false, if_neg (by decide), parse_printed a [] h, List.nil_append]
theorem parsed_print : ∀ (f : Nat) (l r : List Ev) (s : ByteArray) (n : Int), s.size ≤ f → parseGo s.size l s = (r, n, 0) → ∃ d, r = l ++ d ∧ printL d = s.data.toList ∧ ∀ e ∈ d, EvIn e ∧ e.2.2.2.2.1.size ≤ s.size + 2 ∧ e.2.2.2.2.2.1.size ≤ s.size + 2 ∧ e.2.2.2.2.2.2.1.length ≤ s.size + 2
  | f, l, r, s, n, hf, h => by
    cases hne : !sEq s ⟨#[]⟩ with
    | false =>
      rw [parse_end hne] at h
      injection h with h1 h2
      refine ⟨[], by rw [← h1, List.append_nil], ?_, fun e he => by cases he⟩
      have : sEq s ⟨#[]⟩ = true := by simpa using hne
      rw [sEq_eq this]; rfl
    | true =>
      cases hb : !cutC s || !evOk (cutA s) with
      | true =>
        rw [parse_bad hne hb] at h
        injection h with h1 h2
        injection h2 with h2 h3
        exact absurd h3 (by decide)
      | false =>
        rw [parse_step hne hb] at h
        have hc : cutC s = true := by
          cases hq : cutC s with
          | true => rfl
          | false => rw [hq] at hb; cases hb
        have ho : evOk (cutA s) = true := by
          cases hq : evOk (cutA s) with
          | true => rfl
          | false => rw [hq, Bool.not_false, Bool.or_true] at hb; cases hb
        have hlt := cut_lt hc
        match f, hf with
        | 0, hf => omega
        | f + 1, hf =>
          obtain ⟨d, h1, h2, h3⟩ := parsed_print f _ r (cutB s) n (by omega) h
          have hj := cut_join hc
          have hAs : (cutA s).size ≤ s.size := by
            rw [sz_list, sz_list s, hj, List.length_append]; omega
          refine ⟨evOf (cutA s) :: d, by rw [h1, List.append_assoc]; rfl, ?_, fun e he => ?_⟩
          · unfold printL at h2 ⊢
            rw [List.flatMap_cons, h2, line_ok ho, hj, List.append_assoc]; rfl
          · rcases List.mem_cons.1 he with rfl | he
            · have z4 := wordW_sz (cutA s) 4
              have z5 := wordW_sz (cutA s) 5
              have z6 := wordW_sz (cutA s) 6
              have u4 : (evOf (cutA s)).2.2.2.2.1.size ≤ (wordW (cutA s) 4).size := unqD_sz (wordW (cutA s) 4)
              have u5 : (evOf (cutA s)).2.2.2.2.2.1.size ≤ (wordW (cutA s) 5).size := unqD_sz (wordW (cutA s) 5)
              have u6 : (evOf (cutA s)).2.2.2.2.2.2.1.length ≤ (wordW (cutA s) 6).size := by
                have := unqD_sz (wordW (cutA s) 6)
                rw [sz_list] at this
                exact this
              exact ⟨evOf_in _, by omega, by omega, by omega⟩
            · obtain ⟨q1, q2, q3, q4⟩ := h3 e he
              exact ⟨q1, by omega, by omega, by omega⟩
/-- What was read is written as it was. -/
theorem print_parse {s : ByteArray} {r : List Ev} {n : Int} (h : parseN s = (r, n, 0)) : printN r = s ∧ r.length ≤ 2048 ∧ EvsSz (s.size + 2) r := by
  unfold parseN at h
  split at h
  · injection h with h1 h2
    injection h2 with h2 h3
    exact absurd h3 (by decide)
  · rename_i hc
    obtain ⟨d, h1, h2, h3⟩ := parsed_print s.size [] r s n (Nat.le_refl _) h
    rw [List.nil_append] at h1
    subst h1
    have hp : printN r = s := lst_ext (by unfold printN; rw [bstr_lst, h2])
    have hl := count_print r
    rw [h2] at hl
    have hc2 : ¬ ((Lib.countByte s.data.toList 10 : Int) > 2048) := fun q => hc (by rw [decide_eq_true q, Bool.or_true])
    exact ⟨hp, by omega, ⟨fun e he => by
      obtain ⟨_, q2, q3, q4⟩ := h3 e he
      omega⟩⟩
theorem print_sz {m : Nat} : ∀ {a : List Ev}, (∀ e ∈ a, EvOk m e) → (printL a).length ≤ a.length * (9 * m + 98)
  | [], _ => Nat.zero_le _
  | e :: a, h => by
    have h1 := print_sz (a := a) fun x hx => h x (List.mem_cons_of_mem _ hx)
    have h2 := line_sz (h e (List.mem_cons_self ..))
    unfold printL at h1 ⊢
    have h3 : (e :: a).length * (9 * m + 98) = a.length * (9 * m + 98) + (9 * m + 98) := Nat.succ_mul _ _
    rw [List.flatMap_cons, List.length_append, List.length_append, ← sz_list, h3]
    show _ + 1 + _ ≤ _
    omega
end Go.Lm

/- Plain facts: answers that are shown. General: no program in sight. -/
namespace Go.Lm
open Go Go.RowKit
def itoaL (n : Int) : List UInt8 := (itoaN n).data.toList
def quoteL (s : ByteArray) : List UInt8 := (quoteN s).data.toList
def numA (n : Int) : List UInt8 := itoaL n ++ [32]
def numB (n : Int) : List UInt8 := 32 :: itoaL n
def nameB (s : ByteArray) : List UInt8 := 32 :: quoteL s
def nums3 (x : Ans) : List Int := [x.1, x.2.1, x.2.2.1]
def nums (x : Ans) : List Int := [x.2.2.2.2.2.1.1, x.2.2.2.2.2.1.2.1.1, x.2.2.2.2.2.1.2.1.2.1, x.2.2.2.2.2.1.2.1.2.2.1, x.2.2.2.2.2.1.2.2.1, x.2.2.2.2.2.1.2.2.2.1, (x.2.2.2.2.1.length : Int)]
def showL (x : Ans) : List UInt8 := (nums3 x).flatMap numA ++ (quoteL (bstr x.2.2.2.1) ++ ((nums x).flatMap numB ++ (x.2.2.2.2.1.flatMap nameB ++ [10])))
def showsL (a : List Ans) : List UInt8 := a.flatMap showL
def wtN (l : List ByteArray) : Nat := (l.map (·.size + 1)).sum
structure AnsSz (m : Nat) (a : List Ans) : Prop where
  sz : ∀ x ∈ a, x.2.2.2.1.length + wtN x.2.2.2.2.1 ≤ m
theorem flat_next {e : Ty} {l : List e.den} {p : Nat} (f : e.den → List UInt8) (h : p < l.length) : (l.take (p + 1)).flatMap f = (l.take p).flatMap f ++ f (ixD e l (p : Int)) := by
  have := take_ixD (e := e) (l := l) (k := (p : Int)) (by omega) (by omega)
  rw [show ((p : Int) + 1).toNat = p + 1 by omega, Int.toNat_natCast] at this
  rw [this, List.flatMap_append, List.flatMap_cons, List.flatMap_nil, List.append_nil]
theorem ix_mem {e : Ty} {l : List e.den} {p : Nat} (h : p < l.length) : ixD e l (p : Int) ∈ l := by
  unfold ixD
  rw [Int.toNat_natCast, List.getD_eq_getElem?_getD, List.getElem?_eq_getElem h]
  exact List.getElem_mem h
theorem itoa_sz {n : Int} (h : inK .i64 n) : (itoaN n).size ≤ 21 := by
  unfold itoaN
  rw [bstr_size]
  exact Lib.itoa_length_le n h.1 h.2
theorem wt_take (l : List ByteArray) (p : Nat) : wtN (l.take p) ≤ wtN l := by
  unfold wtN
  conv => rhs; rw [← List.take_append_drop p l]
  rw [List.map_append, List.sum_append]; omega
theorem wt_next {l : List ByteArray} {p : Nat} (h : p < l.length) : wtN (l.take (p + 1)) = wtN (l.take p) + ((ixD .str l (p : Int)).size + 1) := by
  have := take_ixD (e := .str) (l := l) (k := (p : Int)) (by omega) (by omega)
  rw [show ((p : Int) + 1).toNat = p + 1 by omega, Int.toNat_natCast] at this
  unfold wtN
  rw [this, List.map_append, List.sum_append]
  simp
theorem ans_at {m : Nat} {a : List Ans} {p : Nat} (h : AnsSz m a) (hp : p < a.length) : (ixD tAnswer a (p : Int)).2.2.2.1.length + wtN (ixD tAnswer a (p : Int)).2.2.2.2.1 ≤ m := h.sz _ (ix_mem (e := tAnswer) hp)
theorem shows_next {a : List Ans} {p : Nat} (h : p < a.length) : showsL (a.take (p + 1)) = showsL (a.take p) ++ showL (ixD tAnswer a (p : Int)) := flat_next (e := tAnswer) showL h
theorem a_lst (n : Int) : (itoaN n ++ (⟨#[32]⟩ : ByteArray)).data.toList = numA n := by rw [app_lst]; rfl
theorem b_lst (n : Int) : ((⟨#[32]⟩ : ByteArray) ++ itoaN n).data.toList = numB n := by rw [app_lst]; rfl
theorem q_lst (s : ByteArray) : ((⟨#[32]⟩ : ByteArray) ++ quoteN s).data.toList = nameB s := by rw [app_lst]; rfl
theorem sp1 (s : ByteArray) : (s ++ (⟨#[32]⟩ : ByteArray)).size = s.size + 1 := ByteArray.size_append
theorem sp2 (s : ByteArray) : ((⟨#[32]⟩ : ByteArray) ++ s).size = 1 + s.size := ByteArray.size_append
theorem ansSz_take {m : Nat} {a : List Ans} (h : AnsSz m a) (n : Nat) : AnsSz m (a.take n) := ⟨fun x hx => h.sz x (List.mem_of_mem_take hx)⟩
/-! ### Lines -/
theorem itoa_nl (n : Int) : (itoaL n).count 10 = 0 := List.count_eq_zero.2 fun h => (itoa_plain n 10 h).2 rfl
theorem quote_nl (s : ByteArray) : (quoteL s).count 10 = 0 := List.count_eq_zero.2 fun h => (quote_plain s 10 h).2 rfl
theorem flat_nl {α : Type} {f : α → List UInt8} (hf : ∀ x, (f x).count 10 = 0) : ∀ l : List α, (l.flatMap f).count 10 = 0
  | [] => rfl
  | x :: l => by rw [List.flatMap_cons, List.count_append, hf x, flat_nl hf l]
theorem numA_nl (n : Int) : (numA n).count 10 = 0 := by
  unfold numA
  rw [List.count_append, itoa_nl]; rfl
theorem numB_nl (n : Int) : (numB n).count 10 = 0 := by
  unfold numB
  rw [List.count_cons, itoa_nl]; rfl
theorem nameB_nl (s : ByteArray) : (nameB s).count 10 = 0 := by
  unfold nameB
  rw [List.count_cons, quote_nl]; rfl
theorem show_nl (x : Ans) : (showL x).count 10 = 1 := by
  unfold showL
  rw [List.count_append, List.count_append, List.count_append, List.count_append, flat_nl numA_nl, flat_nl numB_nl, flat_nl nameB_nl, quote_nl]; rfl
theorem count_shows : ∀ (a : List Ans), Lib.countByte (showsL a) 10 = a.length
  | [] => rfl
  | x :: a => by
    have h1 := count_shows a
    unfold showsL Lib.countByte at *
    rw [List.flatMap_cons, List.count_append, show_nl, h1, List.length_cons, Nat.add_comm]
end Go.Lm

/- A row of strings that came in, opened with its reading; a witness for a row with a condition. General. -/
namespace Go.Lm
open Go Go.RowKit Go.ChangeShapes
theorem open_strs {P : Program} {t e : TypeId} {H : Type} {enc : TypeId × Value → H} {w : World} {base : Nat} {spare : Nat → Bool} {held : Bool} {v : Value} {d : DataW H} {ps : List MemPlace} (ht : P.underlying t = some (.slice e)) (he : P.underlying e = some .string) (hc : P.cellsOf e = 1)
    (hsp : ∀ b, spare b = true) (hv : v.cells = #[v]) (h : DataW.Trod enc P w base spare held t v d ps) : ∃ l : List ByteArray, Is w v l ∧ ((d = .nil ∧ l = []) ∨ ∃ rest, d = .slice (strs l) (strs rest)) := by
  obtain ⟨fuel, hf⟩ := h
  rcases open_strings ht he hc hf with ⟨h1, h2⟩ | ⟨a, len, cap, ss, h1, h2, h3, h4, h5, h6, h7, h8⟩
  · rw [hv] at h1
    have e1 : v = .slice none 0 0 := by simpa using h1
    subst e1
    exact ⟨[], is_nil w, .inl ⟨(Prod.mk.injEq .. ▸ h2 : d = .nil ∧ ps = []).1, rfl⟩⟩
  · rw [hv] at h1
    have e1 : v = .slice (some a) len cap := by simpa using h1
    rw [hsp, if_pos rfl] at h5
    have hl : (ss.take len).length = len := by rw [List.length_take]; omega
    refine ⟨ss.take len, is_list.2 (.inr ⟨a, cap, by rw [e1, hl], by omega, h4, fun i x hx => ?_⟩), .inr ⟨ss.drop len, (Prod.mk.injEq .. ▸ h6 : d = _ ∧ ps = _).1⟩⟩
    have hi : i < len := by
      have := (List.getElem?_eq_some_iff.1 hx).1; omega
    have hg : ss[i]? = some x := by rw [List.getElem?_take] at hx; simpa [hi] using hx
    refine ⟨[.string x], fun j c hj => ?_, rfl, h8 x (List.mem_of_getElem? hg)⟩
    have h9 := h7 i (by omega)
    rw [List.getD_eq_getElem?_getD, hg] at h9
    match j, hj with
    | 0, hj =>
      have : c = .string x := by simpa using hj.symm
      rw [this]
      simpa [GoRep.size] using h9
theorem witness_row {H : Type} {enc : TypeId × Value → H} {C : Checked} {os : Os} {f : FuncId} {fn : Func} {s : OpenSpec} {conds : List PathCond} {apart : Bool} {laid : List (String × DataW Unit)} (w0 : World) (args : Array Value) (hos : w0.os = os)
    (hsh : (w0.forCall (fun _ _ => 0) ⟨#[], args, []⟩).Shaped C.prog)
    (hok : Input.okWideB C.prog (w0.forCall (fun _ _ => 0) ⟨#[], args, []⟩) f ⟨#[], args, []⟩ = true)
    (hrow : s.preRow enc C.prog fn conds apart laid (w0.forCall (fun _ _ => 0) ⟨#[], args, []⟩).memory args) :
    ∃ (w : World) (tape : Tape) (i : Input), w.os = os ∧ (w.forCall tape i).Shaped C.prog ∧ i.vars = [] ∧ Input.okWide C.prog (w.forCall tape i) .any w.heap.size f i ∧
      s.preRow enc C.prog fn conds apart laid (w.forCall tape i).memory i.args ∧ ({} : Assume).holds C.prog (lone (Frame.enter C.prog f i.args .normal) [] (w.forCall tape i)) :=
  ⟨w0, fun _ _ => 0, ⟨#[], args, []⟩, hos, hsh, (Input.okWide_of_okWideB (base := 0) hok).1, (Input.okWide_of_okWideB hok).2, hrow, by
    simp only [Assume.holds]
    exact ⟨by simp, by simp, by simp, by simp, by simp⟩⟩
theorem row_met {H : Type} {enc : TypeId × Value → H} {P : Program} {fn : Func} {s : OpenSpec} {k : (H : Type) → List (DataW H) → Bool} (hk : s.cond = some k) {apart : Bool} {laid : List (String × DataW Unit)} {w : World} {args : Array Value} {x : List (DataW H) × List (DataW H) × List MemPlace} {fuel : Nat}
    (hx : DataW.whole enc P w fn.params.toList s.vars apart args.toList fuel = some x) (hkk : k H (x.1 ++ x.2.1) = true) (hl : laidMetH P laid w) (hsz : s.bare.sizedB enc P fn apart w args fuel = true) : s.preRow enc P fn [] apart laid w args :=
  ⟨⟨(OpenSpec.pre_some hk [] apart _ _).2 ⟨x.1, x.2.1, x.2.2, DataW.Whole_of_whole hx, rfl, hkk⟩, hl⟩, sizedMet_of_sizedB hsz⟩
end Go.Lm
