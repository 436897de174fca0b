/- The order of rows of names: plain facts. General: no program in sight. -/
import Derived.Test.YtnmaehdklmgfmaaLmName
namespace Go.Lm
open Go Go.RowKit

theorem bl_cons (a b : UInt8) (x y : List UInt8) : Op.bytesLess (a :: x) (b :: y) = (decide (a < b) || (a == b && Op.bytesLess x y)) := rfl
theorem bl_irr : ∀ x : List UInt8, Op.bytesLess x x = false
  | [] => rfl
  | a :: x => by rw [bl_cons, bl_irr x]; simp
theorem u8_lt_irr {a b : UInt8} (h : a < b) (h2 : b < a) : False := absurd (UInt8.lt_trans h h2) (UInt8.lt_irrefl a)
theorem u8_tri (a b : UInt8) : a < b ∨ a = b ∨ b < a := by
  rcases UInt8.lt_or_le a b with h | h
  · exact .inl h
  · rcases UInt8.lt_or_eq_of_le h with h | h
    · exact .inr (.inr h)
    · exact .inr (.inl h.symm)
theorem bl_tri : ∀ x y : List UInt8, Op.bytesLess x y = true ∨ x = y ∨ Op.bytesLess y x = true
  | [], [] => .inr (.inl rfl)
  | [], _ :: _ => .inl rfl
  | _ :: _, [] => .inr (.inr rfl)
  | a :: x, b :: y => by
    rw [bl_cons, bl_cons]
    rcases u8_tri a b with h | h | h
    · exact .inl (by simp [h])
    · subst h
      rcases bl_tri x y with k | k | k
      · exact .inl (by simp [k])
      · exact .inr (.inl (by rw [k]))
      · exact .inr (.inr (by simp [k]))
    · exact .inr (.inr (by simp [h]))
theorem bl_trans : ∀ {x y z : List UInt8}, Op.bytesLess x y = true → Op.bytesLess y z = true → Op.bytesLess x z = true
  | _, [], _, h, _ => by simp [Op.bytesLess] at h
  | _, _ :: _, [], _, k => by simp [Op.bytesLess] at k
  | [], _ :: _, _ :: _, _, _ => rfl
  | a :: x, b :: y, c :: z, h, k => by
    rw [bl_cons] at *
    simp only [Bool.or_eq_true, Bool.and_eq_true, decide_eq_true_eq, beq_iff_eq] at *
    rcases h with h | ⟨rfl, h⟩
    · rcases k with k | ⟨rfl, k⟩
      · exact .inl (UInt8.lt_trans h k)
      · exact .inl h
    · rcases k with k | ⟨rfl, k⟩
      · exact .inl k
      · exact .inr ⟨rfl, bl_trans h k⟩
theorem bl_asymm {x y : List UInt8} (h : Op.bytesLess x y = true) : Op.bytesLess y x = false := by
  cases k : Op.bytesLess y x with
  | false => rfl
  | true => have := bl_trans h k; rw [bl_irr] at this; cases this

abbrev Row := List (List UInt8)
def lessK : Row → Row → Bool
  | [], [] => false
  | [], _ :: _ => true
  | _ :: _, [] => false
  | a :: as, b :: bs => Op.bytesLess a b || (a == b && lessK as bs)
def key (a : List ByteArray) : Row := a.map ByteArray.toList
theorem lessL_key : ∀ a b : List ByteArray, lessL a b = lessK (key a) (key b)
  | [], [] => rfl
  | [], _ :: _ => rfl
  | _ :: _, [] => rfl
  | a :: as, b :: bs => by
    show (if !eqB a b then ltB a b else lessL as bs) = (Op.bytesLess a.toList b.toList || (a.toList == b.toList && lessK (key as) (key bs)))
    rw [lessL_key as bs]
    cases h : eqB a b with
    | false => have h' : (a.toList == b.toList) = false := h; rw [h']; simp [ltB]
    | true =>
      have h' : (a.toList == b.toList) = true := h
      have h2 : a.toList = b.toList := by simpa using h'
      rw [h2, bl_irr]; simp
theorem sameL_key : ∀ a b : List ByteArray, sameL a b = decide (key a = key b)
  | [], [] => rfl
  | [], _ :: _ => rfl
  | _ :: _, [] => rfl
  | a :: as, b :: bs => by
    show (eqB a b && sameL as bs) = decide (a.toList :: key as = b.toList :: key bs)
    rw [sameL_key as bs]
    have : eqB a b = decide (a.toList = b.toList) := by unfold eqB; rw [Bool.eq_iff_iff]; simp
    rw [this, Bool.eq_iff_iff]; simp
theorem cmpL_key : ∀ a b : List ByteArray, decide (cmpL a b < 0) = lessL a b
  | [], [] => rfl
  | [], _ :: _ => rfl
  | _ :: _, [] => rfl
  | a :: as, b :: bs => by
    show decide ((if cmpB a b != 0 then cmpB a b else cmpL as bs) < 0) = (if !eqB a b then ltB a b else lessL as bs)
    rw [← cmpL_key as bs]
    have hl : ltB a b = true → eqB a b = false := fun h => by
      cases k : eqB a b with
      | false => rfl
      | true =>
        have k' : a.toList = b.toList := by simpa [eqB] using k
        unfold ltB at h; rw [k', bl_irr] at h; cases h
    unfold cmpB
    cases h1 : ltB a b with
    | true => rw [hl h1]; rfl
    | false => cases h2 : eqB a b <;> simp
theorem lessK_irr : ∀ a : Row, lessK a a = false
  | [] => rfl
  | a :: as => by simp [lessK, bl_irr, lessK_irr as]
theorem lessK_tri : ∀ a b : Row, lessK a b = true ∨ a = b ∨ lessK b a = true
  | [], [] => .inr (.inl rfl)
  | [], _ :: _ => .inl rfl
  | _ :: _, [] => .inr (.inr rfl)
  | a :: as, b :: bs => by
    simp only [lessK]
    rcases bl_tri a b with h | h | h
    · exact .inl (by simp [h])
    · subst h
      rcases lessK_tri as bs with k | k | k
      · exact .inl (by simp [k])
      · exact .inr (.inl (by rw [k]))
      · exact .inr (.inr (by simp [k]))
    · exact .inr (.inr (by simp [h]))
theorem lessK_trans : ∀ {x y z : Row}, lessK x y = true → lessK y z = true → lessK x z = true
  | [], [], _, h, _ => by simp [lessK] at h
  | _ :: _, [], _, h, _ => by simp [lessK] at h
  | _, _ :: _, [], _, k => by simp [lessK] at k
  | [], _ :: _, _ :: _, _, _ => rfl
  | a :: x, b :: y, c :: z, h, k => by
    simp only [lessK, Bool.or_eq_true, Bool.and_eq_true, beq_iff_eq] at *
    rcases h with h | ⟨rfl, h⟩
    · rcases k with k | ⟨rfl, k⟩
      · exact .inl (bl_trans h k)
      · exact .inl h
    · rcases k with k | ⟨rfl, k⟩
      · exact .inl k
      · exact .inr ⟨rfl, lessK_trans h k⟩
theorem lessK_asymm {x y : Row} (h : lessK x y = true) : lessK y x = false := by
  cases k : lessK y x with
  | false => rfl
  | true => have := lessK_trans h k; rw [lessK_irr] at this; cases this
theorem lessK_pre : ∀ (b t : Row), t ≠ [] → lessK b (b ++ t) = true
  | [], [], h => absurd rfl h
  | [], _ :: _, _ => rfl
  | a :: b, t, h => by simp [lessK, lessK_pre b t h]
theorem between : ∀ {b t c : Row}, lessK b c = true → lessK c (b ++ t) = true → ∃ u, u ≠ [] ∧ c = b ++ u
  | [], t, [], h, _ => by simp [lessK] at h
  | [], t, y :: c, _, _ => ⟨y :: c, by simp, rfl⟩
  | x :: b, t, [], h, _ => by simp [lessK] at h
  | x :: b, t, y :: c, h, k => by
    simp only [lessK, List.cons_append, Bool.or_eq_true, Bool.and_eq_true, beq_iff_eq] at *
    rcases h with h | ⟨rfl, h⟩
    · rcases k with k | ⟨rfl, k⟩
      · have := bl_asymm h; rw [k] at this; cases this
      · rw [bl_irr] at h; cases h
    · rcases k with k | ⟨_, k⟩
      · rw [bl_irr] at k; cases k
      · obtain ⟨u, hu, hc⟩ := between h k
        exact ⟨u, hu, by rw [hc]⟩
theorem belowL_key {l r : List ByteArray} : belowL l r = true ↔ ∃ u, u ≠ [] ∧ key l = key r ++ u := by
  unfold belowL
  rw [Bool.and_eq_true, decide_eq_true_eq, sameL_key, decide_eq_true_eq]
  have hk : key (l.take r.length) = (key l).take (key r).length := by simp [key, List.map_take]
  have hl : (key l).length = l.length := by simp [key]
  have hr : (key r).length = r.length := by simp [key]
  rw [hk]
  constructor
  · rintro ⟨h1, h2⟩
    refine ⟨(key l).drop (key r).length, fun h3 => ?_, ?_⟩
    · have := List.drop_eq_nil_iff.1 h3; omega
    · rw [← h2]
      conv => lhs; rw [← List.take_append_drop (key r).length (key l)]
      congr 1
      rw [List.length_take]; congr 1; omega
  · rintro ⟨u, hu, h⟩
    have : 0 < u.length := List.length_pos_iff.2 hu
    constructor
    · have := congrArg List.length h; rw [List.length_append] at this; omega
    · rw [h, List.take_left]
/-- What the statement of any three rows asks. -/
theorem total_one (a b : List ByteArray) : (lessL a b = true ∧ lessL b a = false ∧ sameL a b = false) ∨ (lessL a b = false ∧ lessL b a = true ∧ sameL a b = false) ∨ (lessL a b = false ∧ lessL b a = false ∧ sameL a b = true) := by
  rw [lessL_key, lessL_key, sameL_key]
  rcases lessK_tri (key a) (key b) with h | h | h
  · exact .inl ⟨h, lessK_asymm h, decide_eq_false fun e => by rw [e, lessK_irr] at h; cases h⟩
  · exact .inr (.inr ⟨by rw [h, lessK_irr], by rw [h, lessK_irr], decide_eq_true h⟩)
  · exact .inr (.inl ⟨lessK_asymm h, h, decide_eq_false fun e => by rw [e, lessK_irr] at h; cases h⟩)
theorem total_chain {a b c : List ByteArray} (h : lessL a b = true) (k : lessL b c = true) : lessL a c = true := by
  rw [lessL_key] at *; exact lessK_trans h k
theorem total_under {a b : List ByteArray} (h : belowL a b = true) : lessL b a = true ∧ belowL b a = false := by
  have h' := h
  obtain ⟨u, hu, e⟩ := belowL_key.1 h
  refine ⟨by rw [lessL_key, e]; exact lessK_pre _ _ hu, ?_⟩
  cases k : belowL b a with
  | false => rfl
  | true =>
    obtain ⟨v, hv, e2⟩ := belowL_key.1 k
    have h1 := congrArg List.length e; have h2 := congrArg List.length e2
    rw [List.length_append] at h1 h2
    have : 0 < u.length := List.length_pos_iff.2 hu
    omega
theorem total_between {a b c : List ByteArray} (h : belowL a b = true) (k : lessL b c = true) (l : lessL c a = true) : belowL c b = true := by
  obtain ⟨u, hu, e⟩ := belowL_key.1 h
  rw [lessL_key] at k l
  rw [e] at l
  obtain ⟨v, hv, e2⟩ := between k l
  exact belowL_key.2 ⟨v, hv, e2⟩
theorem same_self (a : List ByteArray) : sameL a a = true := by rw [sameL_key]; simp
theorem less_self (a : List ByteArray) : lessL a a = false := by rw [lessL_key, lessK_irr]
theorem below_self (a : List ByteArray) : belowL a a = false := by
  cases h : belowL a a with
  | false => rfl
  | true => have := total_under h; rw [less_self] at this; cases this.1
end Go.Lm
