/- How a path is cut at its slashes, byte by byte: plain facts. General: no program in sight. -/
import Derived.Test.YtnmaehdklmgfmaaLmSplit
namespace Go.Lm
open Go Go.RowKit

theorem idx_none : ∀ {p : List UInt8}, (47 : UInt8) ∉ p → Lib.index p [47] = -1
  | [], _ => rfl
  | b :: p, h => by
    have hb : (b == 47) = false := by simp only [List.mem_cons, not_or] at h; simpa using fun e => h.1 e.symm
    have hp : ([47] : List UInt8).isPrefixOf (b :: p) = false := by simp [List.isPrefixOf]; intro e; exact absurd e.symm (by simpa using hb)
    rw [Lib.index, hp, idx_none (fun e => h (List.mem_cons_of_mem _ e))]
    rfl
theorem idx_hit : ∀ {p : List UInt8} (q : List UInt8), (47 : UInt8) ∉ p → Lib.index (p ++ 47 :: q) [47] = (p.length : Nat)
  | [], q, _ => by rw [List.nil_append, Lib.index]; simp [List.isPrefixOf]
  | b :: p, q, h => by
    have hb : (b == 47) = false := by simp only [List.mem_cons, not_or] at h; simpa using fun e => h.1 e.symm
    have hp : ([47] : List UInt8).isPrefixOf (b :: (p ++ 47 :: q)) = false := by simp [List.isPrefixOf]; intro e; exact absurd e.symm (by simpa using hb)
    rw [List.cons_append, Lib.index, hp, idx_hit q (fun e => h (List.mem_cons_of_mem _ e))]
    rw [if_neg (by simp), if_neg (by simp)]
    simp
theorem split_none {p : List UInt8} (h : (47 : UInt8) ∉ p) : Lib.split p [47] = [p] := by
  unfold Lib.split
  rw [Lib.count_miss (idx_none h)]; rfl
theorem split_hit {p q : List UInt8} (h : (47 : UInt8) ∉ p) : Lib.split (p ++ 47 :: q) [47] = p :: Lib.split q [47] := by
  unfold Lib.split
  have hd : (p ++ 47 :: q).drop (p.length + 1) = q := by rw [List.drop_append]; simp
  rw [Lib.count_hit (by simp) (idx_hit q h), show p.length + ([47] : List UInt8).length = p.length + 1 from rfl, hd, Nat.add_comm 1, Lib.splitK, idx_hit q h, if_neg (by simp)]
  rw [Int.toNat_natCast, Nat.add_zero, show p.length + ([47] : List UInt8).length = p.length + 1 from rfl, hd]
  simp

theorem ba_ext {a b : ByteArray} (h : a.data.toList = b.data.toList) : a = b := by
  cases a with | mk a => cases b with | mk b => simp at h; rw [h]
theorem bas_ext : ∀ {a b : List ByteArray}, a.map (·.data.toList) = b.map (·.data.toList) → a = b
  | [], [], _ => rfl
  | [], _ :: _, h => by simp at h
  | _ :: _, [], h => by simp at h
  | x :: a, y :: b, h => by
    simp only [List.map_cons, List.cons.injEq] at h
    rw [ba_ext h.1, bas_ext h.2]
theorem parts_data (x : ByteArray) : (partsB x).map (·.data.toList) = Lib.split x.data.toList [47] := by
  unfold partsB
  rw [Lib.splitB_data]; rfl
theorem parts_none {x : ByteArray} (h : (47 : UInt8) ∉ x.data.toList) : partsB x = [x] := bas_ext (by rw [parts_data, split_none h]; rfl)
theorem parts_hit {x p q : ByteArray} (h : (47 : UInt8) ∉ p.data.toList) (e : x.data.toList = p.data.toList ++ 47 :: q.data.toList) : partsB x = p :: partsB q :=
  bas_ext (by rw [parts_data, e, split_hit h, List.map_cons, parts_data])
theorem parts_ne (x : ByteArray) : partsB x ≠ [] := fun h => by have := partsB_length x; rw [h] at this; simp at this

def noSl (s : ByteArray) (a k : Int) : Prop := (47 : UInt8) ∉ (s.extract a.toNat k.toNat).data.toList
theorem ext_list (s : ByteArray) (a b : Nat) : (s.extract a b).data.toList = (s.data.toList.drop a).take (b - a) := by
  rw [Lib.extract_data]
theorem noSl_nil (s : ByteArray) (a : Int) : noSl s a a := by
  unfold noSl; rw [ext_list]; simp
theorem byteAt_list {s : ByteArray} {k : Int} (h0 : 0 ≤ k) (h1 : k < s.size) : s.data.toList[k.toNat]? = some (byteAt s k) := by
  have hk : k.toNat < s.size := by omega
  have : s[k.toNat]? = some s[k.toNat] := by simp [hk]
  unfold byteAt
  rw [this]
  have h2 : k.toNat < s.data.size := hk
  rw [Array.getElem?_toList, Array.getElem?_eq_getElem h2]
  rfl
theorem ext_snoc {s : ByteArray} {a k : Int} (h0 : 0 ≤ a) (h1 : a ≤ k) (h2 : k < s.size) : (s.extract a.toNat (k + 1).toNat).data.toList = (s.extract a.toNat k.toNat).data.toList ++ [byteAt s k] := by
  rw [ext_list, ext_list]
  have e : (k + 1).toNat - a.toNat = (k.toNat - a.toNat) + 1 := by omega
  have hb := byteAt_list (by omega : 0 ≤ k) h2
  rw [e, List.take_add_one]
  congr 1
  rw [List.getElem?_drop, show a.toNat + (k.toNat - a.toNat) = k.toNat by omega, hb]; rfl
theorem noSl_step {s : ByteArray} {a k : Int} (h0 : 0 ≤ a) (h1 : a ≤ k) (h2 : k < s.size) (hn : noSl s a k) (hb : ((byteAt s k).toNat : Int) ≠ 47) : noSl s a (k + 1) := by
  unfold noSl at *
  rw [ext_snoc h0 h1 h2]
  intro h
  rcases List.mem_append.1 h with h | h
  · exact hn h
  · simp only [List.mem_singleton] at h
    exact hb (by rw [← h]; rfl)
def dirB (s : ByteArray) : Bool := emptyB s || hereB s || aboveB s
theorem splitGo_dir {ps acc : List ByteArray} (h : ps ≠ []) (d d' : Bool) : splitGo ps acc d = splitGo ps acc d' := by
  cases ps with
  | nil => exact absurd rfl h
  | cons p ps => rfl
/-- What is left to do at place k, the part in hand begun at a. -/
def refGo (s : ByteArray) (a k : Int) (acc : List ByteArray) (last : ByteArray) : List ByteArray × Bool × Int :=
  if k ≤ s.size then splitGo (partsB (s.extract a.toNat s.size)) acc (dirB last) else (acc, dirB last, 0)
section
variable {s last : ByteArray} {a k : Int} {acc : List ByteArray} {R : List ByteArray × Bool × Int}
theorem ref_next (h : k < s.size) (hc : refGo s a k acc last = R) : refGo s a (k + 1) acc last = R := by
  unfold refGo at *; rw [if_pos (by omega)] at *; exact hc
theorem ref_fin (h : ¬ k ≤ s.size) (hc : refGo s a k acc last = R) : R = (acc, dirB last, 0) := by
  unfold refGo at hc; rw [if_neg h] at hc; exact hc.symm
/-- The part that ends here, and what is behind it. -/
theorem ref_cut (h0 : 0 ≤ a) (h1 : a ≤ k) (h2 : k ≤ s.size) (hs : k < s.size → ((byteAt s k).toNat : Int) = 47) (hn : noSl s a k) (hc : refGo s a k acc last = R) :
    ∃ T : List ByteArray, R = splitGo (s.extract a.toNat k.toNat :: T) acc (dirB last) ∧ ∀ acc' last', refGo s (k + 1) (k + 1) acc' last' = splitGo T acc' (dirB last') := by
  unfold refGo at hc
  rw [if_pos h2] at hc
  by_cases hk : k < s.size
  · refine ⟨partsB (s.extract (k + 1).toNat s.size), ?_, fun acc' last' => by unfold refGo; rw [if_pos (by omega)]⟩
    rw [← hc, parts_hit hn (q := s.extract (k + 1).toNat s.size)]
    have hb := byteAt_list (by omega : 0 ≤ k) hk
    have h47 : byteAt s k = 47 := by have := hs hk; exact UInt8.toNat_inj.1 (by show (byteAt s k).toNat = 47; omega)
    rw [h47] at hb
    rw [ext_list, ext_list, ext_list]
    have hl : s.data.toList.length = s.size := (size_list s).symm
    rw [List.take_of_length_le (by rw [List.length_drop]; omega), List.take_of_length_le (l := List.drop (k + 1).toNat _) (by rw [List.length_drop]; omega)]
    have e1 : List.drop a.toNat s.data.toList = List.take (k.toNat - a.toNat) (List.drop a.toNat s.data.toList) ++ List.drop (k.toNat - a.toNat) (List.drop a.toNat s.data.toList) := (List.take_append_drop _ _).symm
    rw [e1]
    rw [List.take_append_of_le_length (by rw [List.length_take, List.length_drop]; omega), List.take_take, Nat.min_self, List.drop_drop, show a.toNat + (k.toNat - a.toNat) = k.toNat by omega]
    congr 1
    have hlt : k.toNat < s.data.toList.length := by omega
    rw [List.drop_eq_getElem_cons hlt]
    have e2 : s.data.toList[k.toNat] = 47 := by rw [List.getElem?_eq_getElem hlt] at hb; exact Option.some.inj hb
    rw [e2, show k.toNat + 1 = (k + 1).toNat by omega]
  · have e : k = s.size := by omega
    refine ⟨[], ?_, fun acc' last' => by unfold refGo; rw [if_neg (by omega)]; rfl⟩
    rw [← hc]
    have : s.extract a.toNat s.size = s.extract a.toNat k.toNat := by rw [e]; rfl
    rw [this, parts_none hn]
theorem ref_skip (h0 : 0 ≤ a) (h1 : a ≤ k) (h2 : k ≤ s.size) (hs : k < s.size → ((byteAt s k).toNat : Int) = 47) (hn : noSl s a k) (he : (emptyB (s.extract a.toNat k.toNat) || hereB (s.extract a.toNat k.toNat)) = true) (hc : refGo s a k acc last = R) :
    refGo s (k + 1) (k + 1) acc (s.extract a.toNat k.toNat) = R := by
  obtain ⟨T, h3, h4⟩ := ref_cut h0 h1 h2 hs hn hc
  rw [h4, h3]
  simp only [splitGo, he, if_true]
  unfold dirB; rw [he]; rfl
theorem ref_above (h0 : 0 ≤ a) (h1 : a ≤ k) (h2 : k ≤ s.size) (hs : k < s.size → ((byteAt s k).toNat : Int) = 47) (hn : noSl s a k) (he : emptyB (s.extract a.toNat k.toNat) = false) (hh : hereB (s.extract a.toNat k.toNat) = false) (ha : aboveB (s.extract a.toNat k.toNat) = true) (hc : refGo s a k acc last = R) :
    refGo s (k + 1) (k + 1) (acc ++ [s.extract a.toNat k.toNat]) (s.extract a.toNat k.toNat) = R := by
  obtain ⟨T, h3, h4⟩ := ref_cut h0 h1 h2 hs hn hc
  rw [h4, h3]
  simp only [splitGo, he, hh, ha, if_true, Bool.or_self, Bool.false_eq_true, if_false]
  unfold dirB; rw [he, hh, ha]; rfl
theorem ref_bad (h0 : 0 ≤ a) (h1 : a ≤ k) (h2 : k ≤ s.size) (hs : k < s.size → ((byteAt s k).toNat : Int) = 47) (hn : noSl s a k) (he : emptyB (s.extract a.toNat k.toNat) = false) (hh : hereB (s.extract a.toNat k.toNat) = false) (ha : aboveB (s.extract a.toNat k.toNat) = false) (hv : (validN (s.extract a.toNat k.toNat) != 0) = true) (hc : refGo s a k acc last = R) :
    R = ([], false, validN (s.extract a.toNat k.toNat)) := by
  obtain ⟨T, h3, h4⟩ := ref_cut h0 h1 h2 hs hn hc
  rw [h3]
  simp only [splitGo, he, hh, ha, hv, if_true, Bool.or_self, Bool.false_eq_true, if_false]
theorem ref_good (h0 : 0 ≤ a) (h1 : a ≤ k) (h2 : k ≤ s.size) (hs : k < s.size → ((byteAt s k).toNat : Int) = 47) (hn : noSl s a k) (he : emptyB (s.extract a.toNat k.toNat) = false) (hh : hereB (s.extract a.toNat k.toNat) = false) (ha : aboveB (s.extract a.toNat k.toNat) = false) (hv : (validN (s.extract a.toNat k.toNat) != 0) = false) (hc : refGo s a k acc last = R) :
    refGo s (k + 1) (k + 1) (acc ++ [s.extract a.toNat k.toNat]) (s.extract a.toNat k.toNat) = R := by
  obtain ⟨T, h3, h4⟩ := ref_cut h0 h1 h2 hs hn hc
  rw [h4, h3]
  simp only [splitGo, he, hh, ha, hv, if_false, Bool.or_self, Bool.false_eq_true]
  unfold dirB; rw [he, hh, ha]; rfl
end
theorem eqB_data (a b : ByteArray) : eqB a b = (a.data.toList == b.data.toList) := by unfold eqB; rw [Lib.toList_data, Lib.toList_data]
theorem emptyB_data (s : ByteArray) : emptyB s = (s.data.toList == []) := eqB_data s ⟨#[]⟩
theorem starts_empty {s : ByteArray} (h : emptyB s = true) : startsB s = false := by
  rw [emptyB_data] at h
  have e : s.data.toList = [] := by simpa using h
  unfold startsB
  rw [e]; rfl
theorem starts_byte {s : ByteArray} (h : emptyB s = false) : startsB s = (((byteAt s 0).toNat : Int) == 47) ∧ 0 < s.size := by
  rw [emptyB_data] at h
  have hp : 0 < s.size := by
    rw [size_list]
    cases e : s.data.toList with
    | nil => rw [e] at h; simp at h
    | cons a l => simp
  refine ⟨?_, hp⟩
  have hb := byteAt_list (s := s) (k := 0) (by omega) (by omega)
  unfold startsB Lib.hasPrefix
  cases e : s.data.toList with
  | nil => rw [e] at hb; simp at hb
  | cons a l =>
    rw [e] at hb
    have ha : a = byteAt s 0 := by simpa using hb
    rw [← ha, Bool.eq_iff_iff]
    simp only [List.isPrefixOf, Bool.and_true, beq_iff_eq]
    constructor
    · intro h; rw [← h]; rfl
    · intro h; exact UInt8.toNat_inj.1 (by show 47 = a.toNat; omega)
theorem rest_ext {s : ByteArray} (h : startsB s = true) : restB s = s.extract 1 s.size := by
  apply ba_ext
  unfold startsB at h
  rw [ext_list]
  show (Lib.trimPrefix s.data.toList [47]) = _
  unfold Lib.trimPrefix
  rw [if_pos h]
  rw [List.take_of_length_le (by rw [List.length_drop, ← size_list]; omega)]; rfl
theorem ref_init {s : ByteArray} (hl : ¬ (s.size : Int) > 1000) (he : emptyB s = false) (h : (((byteAt s 0).toNat : Int) != 47) = false) : refGo s 1 1 [] ⟨#[]⟩ = splitN s := by
  obtain ⟨h1, h2⟩ := starts_byte he
  have hs : startsB s = true := by rw [h1]; simpa using h
  rw [splitN_go hl (by rw [hs]; rfl)]
  unfold refGo
  rw [if_pos (by omega), rest_ext hs]
  exact splitGo_dir (parts_ne _) _ _
theorem ref_no {s : ByteArray} (hl : ¬ (s.size : Int) > 1000) (h : emptyB s = true ∨ (emptyB s = false ∧ (((byteAt s 0).toNat : Int) != 47) = true)) : splitN s = ([], false, 22) := by
  refine splitN_no hl ?_
  rcases h with h | ⟨h1, h2⟩
  · rw [starts_empty h]; rfl
  · rw [(starts_byte h1).1]; simpa using h2
end Go.Lm
