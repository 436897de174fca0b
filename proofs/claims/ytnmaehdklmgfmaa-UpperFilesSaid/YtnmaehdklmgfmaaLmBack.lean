/- A path put together of valid names is cut as it was: plain facts. General: no program in sight. -/
import Derived.Test.YtnmaehdklmgfmaaLmJoin
import Derived.Test.YtnmaehdklmgfmaaLmOrd
namespace Go.Lm
open Go Go.RowKit

theorem valid_facts {x : ByteArray} (h : validN x = 0) : x.size ≤ 255 ∧ emptyB x = false ∧ hereB x = false ∧ aboveB x = false ∧ (47 : UInt8) ∉ x.data.toList := by
  unfold validN at h
  split at h
  · cases h
  · rename_i hs
    split at h
    · cases h
    · rename_i hd
      simp only [Bool.or_eq_true, not_or, Bool.not_eq_true] at hd
      obtain ⟨h1, h2⟩ := hd
      unfold dots at h1
      simp only [Bool.or_eq_false_iff] at h1
      refine ⟨by omega, h1.1, h1.2.1, h1.2.2, fun hm => ?_⟩
      unfold badB at h2
      rw [List.drop_zero, List.any_eq_false] at h2
      exact absurd (h2 47 hm) (by decide)
theorem split_join : ∀ {l : List (List UInt8)}, l ≠ [] → (∀ x ∈ l, (47 : UInt8) ∉ x) → Lib.split (Lib.join l [47]) [47] = l
  | [], h, _ => absurd rfl h
  | [x], _, h => by rw [Lib.join_one, split_none (h x (by simp))]
  | x :: y :: r, _, h => by
    have e : Lib.join (x :: y :: r) [47] = x ++ 47 :: Lib.join (y :: r) [47] := by
      rw [Lib.join_cons, Lib.join_cons]; simp [Lib.joinTail]
    rw [e, split_hit (h x (by simp)), split_join (by simp) fun z hz => h z (List.mem_cons_of_mem _ hz)]
theorem split_join_tail : ∀ {l : List (List UInt8)}, l ≠ [] → (∀ x ∈ l, (47 : UInt8) ∉ x) → Lib.split (Lib.join l [47] ++ [47]) [47] = l ++ [[]]
  | [], h, _ => absurd rfl h
  | [x], _, h => by
    rw [Lib.join_one, split_hit (h x (by simp)), split_none (by simp)]; rfl
  | x :: y :: r, _, h => by
    have e : Lib.join (x :: y :: r) [47] ++ [47] = x ++ 47 :: (Lib.join (y :: r) [47] ++ [47]) := by
      rw [Lib.join_cons, Lib.join_cons]; simp [Lib.joinTail]
    rw [e, split_hit (h x (by simp)), split_join_tail (by simp) fun z hz => h z (List.mem_cons_of_mem _ hz)]; rfl
def allV (l : List ByteArray) : Prop := ∀ x ∈ l, validN x = 0
theorem go_all : ∀ {l : List ByteArray} {acc : List ByteArray} {d : Bool} (t : List ByteArray), allV l → splitGo (l ++ t) acc d = splitGo t (acc ++ l) (if l.length = 0 then d else false)
  | [], acc, d, t, _ => by simp
  | x :: l, acc, d, t, h => by
    obtain ⟨_, h1, h2, h3, _⟩ := valid_facts (h x (by simp))
    have hv := h x (by simp)
    rw [List.cons_append]
    simp only [splitGo, h1, h2, h3, hv, Bool.or_self, Bool.false_eq_true, if_false]
    simp only [bne_self_eq_false, Bool.false_eq_true, if_false]
    rw [go_all t fun y hy => h y (List.mem_cons_of_mem _ hy)]
    simp
theorem starts_of {s : ByteArray} {l : List UInt8} (h : s.data.toList = 47 :: l) : startsB s = true ∧ (restB s).data.toList = l := by
  have hs : startsB s = true := by unfold startsB; rw [h]; simp [Lib.hasPrefix, List.isPrefixOf]
  refine ⟨hs, ?_⟩
  show Lib.trimPrefix s.data.toList [47] = l
  unfold Lib.trimPrefix
  unfold startsB at hs
  rw [if_pos hs, h]; rfl
theorem parts_of {x : ByteArray} {l : List ByteArray} (h : Lib.split x.data.toList [47] = l.map (·.data.toList)) : partsB x = l := bas_ext (by rw [parts_data, h])
theorem back_one {l : List ByteArray} (hv : allV l) (hs : (joinN l).size ≤ 1000) : splitN (joinN l) = (l, ((l.length : Int) == 0), 0) := by
  have hd := joinN_data l
  by_cases hl : l.length = 0
  · obtain rfl := List.eq_nil_of_length_eq_zero hl
    decide +kernel
  · rw [if_neg hl, tails_lib l hl] at hd
    obtain ⟨h1, h2⟩ := starts_of hd
    rw [splitN_go (by omega) (by rw [h1]; rfl)]
    have : partsB (restB (joinN l)) = l := parts_of (by
      rw [h2, split_join (by simpa using hl)]
      intro x hx
      obtain ⟨y, hy, rfl⟩ := List.mem_map.1 hx
      exact (valid_facts (hv y hy)).2.2.2.2)
    rw [this]
    have := go_all (acc := []) (d := false) [] hv
    rw [List.append_nil] at this
    have hne : ((l.length : Int) == 0) = false := by simpa using hl
    rw [this, if_neg hl, hne]
    rfl
theorem back_two {l : List ByteArray} (hv : allV l) (hs : (joinN l).size < 1000) : splitN (joinN l ++ ⟨#[47]⟩) = (l, true, 0) := by
  have hd := joinN_data l
  have hz : (joinN l ++ ⟨#[47]⟩).size ≤ 1000 := by rw [app_size]; show (joinN l).size + 1 ≤ 1000; omega
  by_cases hl : l.length = 0
  · obtain rfl := List.eq_nil_of_length_eq_zero hl
    decide +kernel
  · rw [if_neg hl, tails_lib l hl] at hd
    have hd2 : (joinN l ++ ⟨#[47]⟩).data.toList = 47 :: (Lib.join (l.map (·.data.toList)) [47] ++ [47]) := by rw [app_data, hd]; rfl
    obtain ⟨h1, h2⟩ := starts_of hd2
    rw [splitN_go (by omega) (by rw [h1]; rfl)]
    have : partsB (restB (joinN l ++ ⟨#[47]⟩)) = l ++ [⟨#[]⟩] := parts_of (by
      rw [h2, split_join_tail (by simpa using hl)]
      · simp
      intro x hx
      obtain ⟨y, hy, rfl⟩ := List.mem_map.1 hx
      exact (valid_facts (hv y hy)).2.2.2.2)
    rw [this, go_all [⟨#[]⟩] hv]
    have he : emptyB ⟨#[]⟩ = true := by decide +kernel
    simp only [splitGo, he, Bool.true_or, if_true, List.nil_append]
theorem key_eq {p q : List ByteArray} : key p = key q ↔ p = q := by
  refine ⟨fun h => bas_ext ?_, fun h => by rw [h]⟩
  have e : ∀ l : List ByteArray, key l = l.map (·.data.toList) := fun l => by unfold key; exact List.map_congr_left fun x _ => Lib.toList_data x
  rw [e, e] at h; exact h
theorem nil_or {p : List ByteArray} (hp : allV p) (h : tails p = [47]) : False := by
  cases p with
  | nil => simp [tails] at h
  | cons x r =>
    obtain ⟨_, h1, _⟩ := valid_facts (hp x (by simp))
    rw [emptyB_data] at h1
    have e : tails (x :: r) = 47 :: (x.data.toList ++ tails r) := by simp [tails]
    rw [e] at h
    have e2 : x.data.toList ++ tails r = [] := by simpa using h
    have e3 : x.data.toList = [] := (List.append_eq_nil_iff.1 e2).1
    rw [e3] at h1; simp at h1
theorem join_inj {p q : List ByteArray} (hp : allV p) (hq : allV q) : ((joinN p).toList == (joinN q).toList) = sameL p q := by
  rw [Lib.toList_data, Lib.toList_data, sameL_key, Bool.eq_iff_iff]
  simp only [beq_iff_eq, decide_eq_true_eq]
  rw [key_eq]
  refine ⟨fun h => ?_, fun h => by rw [h]⟩
  rw [joinN_data, joinN_data] at h
  by_cases h1 : p.length = 0
  · rw [if_pos h1] at h
    by_cases h2 : q.length = 0
    · rw [List.eq_nil_of_length_eq_zero h1, List.eq_nil_of_length_eq_zero h2]
    · rw [if_neg h2] at h; exact (nil_or hq h.symm).elim
  · rw [if_neg h1] at h
    by_cases h2 : q.length = 0
    · rw [if_pos h2] at h; exact (nil_or hp h).elim
    · rw [if_neg h2, tails_lib p h1, tails_lib q h2] at h
      have e : Lib.join (p.map (·.data.toList)) [47] = Lib.join (q.map (·.data.toList)) [47] := by simpa using h
      have f : ∀ l : List ByteArray, allV l → ∀ x ∈ l.map (·.data.toList), (47 : UInt8) ∉ x := fun l hl x hx => by
        obtain ⟨y, hy, rfl⟩ := List.mem_map.1 hx
        exact (valid_facts (hl y hy)).2.2.2.2
      have s1 := split_join (l := p.map (·.data.toList)) (by simpa using h1) (f p hp)
      have s2 := split_join (l := q.map (·.data.toList)) (by simpa using h2) (f q hq)
      exact bas_ext (by rw [← s1, ← s2, e])
theorem allV_snoc {l : List ByteArray} {x : ByteArray} (h : allV l) (hx : (validN x == 0) = true) : allV (l ++ [x]) := fun y hy => by
  rcases List.mem_append.1 hy with hy | hy
  · exact h y hy
  · have : y = x := by simpa using hy
    rw [this]; exact eq_of_beq hx
theorem allV_take {l : List ByteArray} {k : Int} (h0 : 0 ≤ k) (h1 : k < l.length) (h : allV (l.take k.toNat)) (hv : (validN (nth l k) != 0) = false) : allV (l.take (k + 1).toNat) := by
  intro x hx
  rw [show (k + 1).toNat = k.toNat + 1 by omega, List.take_add_one] at hx
  rcases List.mem_append.1 hx with hx | hx
  · exact h x hx
  · have hk : k.toNat < l.length := by omega
    rw [List.getElem?_eq_getElem hk] at hx
    have e : x = l[k.toNat] := by simpa using hx
    rw [e, ← nth_eq hk]
    simpa using hv
theorem allV_all {l : List ByteArray} {k : Int} (h1 : ¬ k < l.length) (h : allV (l.take k.toNat)) : allV l := by
  rwa [List.take_of_length_le (by omega)] at h
theorem allV_size {l : List ByteArray} (h : allV l) (hl : l.length ≤ 30) : (joinN l).size ≤ 7681 := by
  have := joinN_le (m := 255) fun x hx => (valid_facts (h x hx)).1
  have h2 : l.length * (255 + 1) ≤ 30 * 256 := Nat.mul_le_mul hl (Nat.le_refl _)
  omega
end Go.Lm
