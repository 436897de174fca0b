/- A region whose order is open, by what each operation gives: whatever order is drawn, in the end each temporary has what was said of it. General: no program in sight. -/
import Derived.Test.YtnmaehdklmgfmaaLmBase
namespace Go.Lm
open Go Go.RowKit

/-- Of what was there nothing has turned. -/
def Le (w w' : World) : Prop := Below w.heap.size w w'
theorem Le.refl (w : World) : Le w w := Below.refl _ _
theorem Le.trans {a b c : World} (h : Le a b) (k : Le b c) : Le a c := Below.trans h (Below.mono k h.size)
theorem Le.drew (w : World) : Le w w.drew := (Below.refl _ _).drew
theorem Le.keep {w w' : World} (h : Le w w') {k : Nat} {x : Obj} (hx : w.heap[k]? = some x) : w'.heap[k]? = some x := by
  rw [h.block k (Array.getElem?_eq_some_iff.1 hx).1]; exact hx

/-- Does operation j wait for operation i, at once or by way of others? -/
def reach (ops : Array Oper) : Nat → Nat → Nat → Bool
  | 0, _, _ => false
  | f + 1, j, i => match ops[j]? with
    | none => false
    | some o => o.after.any fun e => Region.binds .any e && (Nat.beq e.on i || reach ops f e.on i)

/-- Edges lead back; temporaries fit; no two operations write one. -/
def edgesOk (ops : Array Oper) : Bool := (List.range ops.size).all fun i => match ops[i]? with
  | none => true
  | some o => (o.after.all fun e => !Region.binds .any e || Nat.blt e.on i) && noSel o
def dstsOk (ops : Array Oper) (n : Nat) : Bool := (List.range ops.size).all fun i => match (ops[i]?).bind (·.dst) with
  | none => true
  | some d => Nat.blt d n && (List.range i).all fun j => match (ops[j]?).bind (·.dst) with
    | none => true
    | some d' => !Nat.beq d' d

/-- Whoever writes t waits for operation j (or is j). -/
def freeAt (ops : Array Oper) (j t : Nat) : Bool := (List.range ops.size).all fun k => match (ops[k]?).bind (·.dst) with
  | none => true
  | some d => !Nat.beq d t || Nat.beq k j || reach ops ops.size k j

section
variable {P : Program}
/-- What an operation that is carried out gives. -/
def gives (P : Program) (w : World) (R : World → Value → Prop) : Result Next → Prop
  | .ok (.value u) w' => Le w w' ∧ R w' u
  | .ok .skip w' => Le w w' ∧ R w' undef
  | .ok (.enter f args) w' => Le w w' ∧ Calls P f args w' fun e w'' => ∃ v, e = .returned v ∧ Le w' w'' ∧ R w'' v
  | _ => False

theorem wp_of_gives {o : Oper} {a : Act} {w : World} {R : World → Value → Prop} {K : Act → World → Prop} {Q : Exit → Act → World → Prop} (h : gives P w R ((execOp a.eval o).run P w))
    (hK : ∀ v w', Le w w' → R w' v → K (a.put o.dst v) w') : o.wp P a w K Q := by
  unfold Oper.wp
  generalize (execOp a.eval o).run P w = r at h
  cases r with
  | ok x w' =>
    cases x <;> simp only [gives] at h <;> simp only [Oper.upon]
    case value u => exact hK _ _ h.1 h.2
    case skip => exact hK _ _ h.1 h.2
    case enter f args =>
      refine Calls.mono h.2 ?_
      rintro e w'' ⟨v, rfl, hl, hr⟩
      exact hK _ _ (h.1.trans hl) hr
  | halt x w' => exact absurd h (by simp [gives])

theorem filter_lt {p q : Nat → Bool} : ∀ (l : List Nat), (∀ x ∈ l, q x = true → p x = true) → ∀ i ∈ l, p i = true → q i = false → (l.filter q).length < (l.filter p).length
  | [], _, i, hi, _, _ => by cases hi
  | x :: l, h, i, hi, hp, hq => by
    have hle : (l.filter q).length ≤ (l.filter p).length := by
      have this : ∀ y ∈ l, q y = true → p y = true := fun y hy => h y (List.mem_cons_of_mem x hy)
      clear h hi
      induction l with
      | nil => simp
      | cons y l ih =>
        have h1 := this y (by simp)
        have h2 := ih (fun z hz => this z (List.mem_cons_of_mem y hz))
        simp only [List.filter_cons]
        by_cases hy : q y = true
        · simp [hy, h1 hy]; exact h2
        · by_cases hy' : p y = true
          · simp [hy, hy']; omega
          · simp [hy, hy']; exact h2
    rcases List.mem_cons.1 hi with rfl | hi'
    · simp [hp, hq]; omega
    · have ih := filter_lt l (fun y hy => h y (List.mem_cons_of_mem x hy)) i hi' hp hq
      simp only [List.filter_cons]
      by_cases hx : q x = true
      · simp [hx, h x (by simp) hx]; exact ih
      · by_cases hx' : p x = true
        · simp [hx, hx']; omega
        · simp [hx, hx']; exact ih

theorem reach_listed {ops : Array Oper} {listed : Array Bool} (hc : ∀ (j : Nat) (o : Oper), ops[j]? = some o → listed.getD j false = true → ∀ e ∈ o.after, Region.binds .any e = true → listed.getD e.on false = true) :
    ∀ f j i, reach ops f j i = true → listed.getD j false = true → listed.getD i false = true
  | 0, _, _, h, _ => by simp [reach] at h
  | f + 1, j, i, h, hj => by
    unfold reach at h
    cases ho : ops[j]? with
    | none => simp [ho] at h
    | some o =>
      simp only [ho] at h
      obtain ⟨k, hk, hb⟩ := Array.any_eq_true.1 h
      simp only [Bool.and_eq_true, Bool.or_eq_true] at hb
      have hl := hc j o ho hj _ (Array.getElem_mem hk) hb.1
      rcases hb.2 with he | he
      · rw [← Nat.eq_of_beq_eq_true he]; exact hl
      · exact reach_listed hc f _ _ he hl

structure RInv (ops : Array Oper) (n : Nat) (W : World) (a₀ : Act) (R : Nat → World → Value → Prop) (listed : Array Bool) (a : Act) (w : World) : Prop where
  lsize : listed.size = ops.size
  closed : ∀ (j : Nat) (o : Oper), ops[j]? = some o → listed.getD j false = true → ∀ e ∈ o.after, Region.binds .any e = true → listed.getD e.on false = true
  le : Le W w
  size : a.tmps.size = n
  defers : a.defers = []
  old : ∀ t, (∀ (k : Nat) (o : Oper), ops[k]? = some o → o.dst = some t → listed.getD k false = false) → a.tmps.getD t undef = a₀.tmps.getD t undef
  new : ∀ (k : Nat) (o : Oper) (d : Tmp), ops[k]? = some o → o.dst = some d → listed.getD k false = true → R k w (a.tmps.getD d undef)

theorem rep_false (m j : Nat) : (Array.replicate m false).getD j false = false := by
  by_cases h : j < m
  · simp [Array.getD_eq_getD_getElem?, h]
  · simp [Array.getD_eq_getD_getElem?, h]

set_option maxHeartbeats 400000 in
theorem region_rel {ops : Array Oper} {n id : Nat} {a₀ : Act} {W : World} {Q : Exit → Act → World → Prop} (R : Nat → World → Value → Prop) (hm : P.follows .mixedOrders = true)
    (hE : edgesOk ops = true) (hD : dstsOk ops n = true) (hs : a₀.tmps.size = n) (hd : a₀.defers = [])
    (stab : ∀ (i : Nat) (w w' : World) (v : Value), Le w w' → R i w v → R i w' v)
    (hop : ∀ (j : Nat) (o : Oper), ops[j]? = some o → ∀ (a : Act) (w : World), Le W w → a.tmps.size = n → a.defers = [] → (∀ t, freeAt ops j t = true → a.tmps.getD t undef = a₀.tmps.getD t undef) →
      (∀ e ∈ o.after, Region.binds .any e = true → ∀ (oe : Oper) (d : Tmp), ops[e.on]? = some oe → oe.dst = some d → R e.on w (a.tmps.getD d undef)) →
      (Region.wanted o (yielded ops a.tmps) = true → gives P w (R j) ((execOp a.eval o).run P w)) ∧ (Region.wanted o (yielded ops a.tmps) = false → R j w undef))
    (hend : ∀ (a : Act) (w : World), Le W w → a.tmps.size = n → a.defers = [] → (∀ t, (∀ (k : Nat) (o : Oper), ops[k]? = some o → o.dst ≠ some t) → a.tmps.getD t undef = a₀.tmps.getD t undef) →
      (∀ (k : Nat) (o : Oper) (d : Tmp), ops[k]? = some o → o.dst = some d → R k w (a.tmps.getD d undef)) → Q .normal a w) : (Code.region id ops true).wp P Q a₀ W := by
  have edges : ∀ (i : Nat) (o : Oper), ops[i]? = some o → ∀ e ∈ o.after, Region.binds .any e = true → e.on < i := fun i o ho e he hb => by
    have hi : i < ops.size := (Array.getElem?_eq_some_iff.1 ho).1
    have h1 := List.all_eq_true.1 hE i (List.mem_range.2 hi)
    simp only [ho, Bool.and_eq_true] at h1
    have h2 := (Array.all_eq_true_iff_forall_mem.1 h1.1) e he
    simpa [hb] using h2
  have dlt : ∀ (i : Nat) (o : Oper) (d : Tmp), ops[i]? = some o → o.dst = some d → d < n := fun i o d ho hd => by
    have hi : i < ops.size := (Array.getElem?_eq_some_iff.1 ho).1
    have h1 := List.all_eq_true.1 hD i (List.mem_range.2 hi)
    simp only [ho, Option.bind_some, hd, Bool.and_eq_true] at h1
    simpa using h1.1
  have dne' : ∀ (i j : Nat) (oi oj : Oper) (d : Tmp), j < i → ops[i]? = some oi → ops[j]? = some oj → oi.dst = some d → oj.dst = some d → False := fun i j oi oj d hji hi hj hdi hdj => by
    have hi' : i < ops.size := (Array.getElem?_eq_some_iff.1 hi).1
    have h1 := List.all_eq_true.1 hD i (List.mem_range.2 hi')
    simp only [hi, Option.bind_some, hdi, Bool.and_eq_true] at h1
    have h2 := List.all_eq_true.1 h1.2 j (List.mem_range.2 hji)
    simp [hj, hdj] at h2
  have dne : ∀ (i j : Nat) (oi oj : Oper) (d : Tmp), ops[i]? = some oi → ops[j]? = some oj → oi.dst = some d → oj.dst = some d → i = j := fun i j oi oj d hi hj hdi hdj => by
    rcases Nat.lt_trichotomy i j with h | h | h
    · exact (dne' j i oj oi d h hj hi hdj hdi).elim
    · exact h
    · exact (dne' i j oi oj d h hi hj hdi hdj).elim
  have unl : ∀ (listed : Array Bool) i, i < listed.size → (listed.getD i true = false ↔ listed.getD i false = false) := fun listed i hi => by
    simp [Array.getD_eq_getD_getElem?, hi]
  -- all are listed where none is ready
  have done : ∀ (listed : Array Bool) (a : Act) (w : World), RInv ops n W a₀ R listed a w → Region.ready .any ops listed = [] → ∀ i, i < ops.size → listed.getD i false = true := by
    intro listed a w inv hr i
    induction i using Nat.strongRecOn with
    | _ i ih =>
      intro hi
      cases hl : listed.getD i false with
      | true => rfl
      | false =>
        exfalso
        have hu : listed.getD i true = false := (unl listed i (by rw [inv.lsize]; exact hi)).2 hl
        have hmem : i ∈ Region.ready .any ops listed := mem_ready.2 ⟨hu, ops[i], by simp [hi], fun e he hb => by
          have hlt := edges i ops[i] (by simp [hi]) e he hb
          exact ih e.on hlt (by omega)⟩
        rw [hr] at hmem
        cases hmem
  have fin : ∀ (listed : Array Bool) (a : Act) (w : World), RInv ops n W a₀ R listed a w → Region.ready .any ops listed = [] → Q .normal a w := fun listed a w inv hr => by
    have hall := done listed a w inv hr
    refine hend a w inv.le inv.size inv.defers (fun t ht => inv.old t fun k o hk hdk => absurd hdk (ht k o hk)) fun k o d hk hdk => inv.new k o d hk hdk (hall k (Array.getElem?_eq_some_iff.1 hk).1)
  have key : ∀ (fuel : Nat) (listed : Array Bool) (a : Act) (w : World), RInv ops n W a₀ R listed a w → ((List.range ops.size).filter fun i => !listed.getD i true).length ≤ fuel → wpAny P .any ops Q fuel listed a w := by
    intro fuel
    induction fuel with
    | zero =>
      intro listed a w inv hc
      have hr : Region.ready .any ops listed = [] := by
        cases hr : Region.ready .any ops listed with
        | nil => rfl
        | cons i l =>
          exfalso
          have hmem : i ∈ Region.ready .any ops listed := by rw [hr]; simp
          obtain ⟨hu, o, ho, _⟩ := mem_ready.1 hmem
          have : i ∈ (List.range ops.size).filter fun i => !listed.getD i true := List.mem_filter.2 ⟨List.mem_range.2 (Array.getElem?_eq_some_iff.1 ho).1, by simp [hu]⟩
          have := List.length_pos_of_mem this
          omega
      exact ⟨hr, fin listed a w inv hr⟩
    | succ fuel ih =>
      intro listed a w inv hc
      refine ⟨fin listed a w inv, fun i hi => ?_⟩
      obtain ⟨hu, o, ho, hdeps⟩ := mem_ready.1 hi
      have hlt : i < ops.size := (Array.getElem?_eq_some_iff.1 ho).1
      have hlt' : i < listed.size := by rw [inv.lsize]; exact hlt
      have hul : listed.getD i false = false := (unl listed i hlt').1 hu
      have hcount : ((List.range ops.size).filter fun k => !(listed.setIfInBounds i true).getD k true).length ≤ fuel := by
        have := filter_lt (p := fun k => !listed.getD k true) (q := fun k => !(listed.setIfInBounds i true).getD k true) (List.range ops.size) (fun x _ hx => by
            by_cases hxi : i = x
            · subst hxi; simpa using hu
            · simpa [getD_set_ne true hxi] using hx) i (List.mem_range.2 hlt) (by simp [hu]) (by simp [Array.getD_eq_getD_getElem?, hlt'])
        omega
      have set_get : ∀ k, (listed.setIfInBounds i true).getD k false = true → k ≠ i → listed.getD k false = true := fun k hk hne => by
        rwa [getD_set_ne false (Ne.symm hne)] at hk
      have next : ∀ v w', Le w w' → (∀ d, o.dst = some d → R i w' v) → RInv ops n W a₀ R (listed.setIfInBounds i true) (a.put o.dst v) w' := fun v w' hle hv => by
        have hput : ∀ t, o.dst ≠ some t → (a.put o.dst v).tmps.getD t undef = a.tmps.getD t undef := fun t ht => by
          cases hod : o.dst with
          | none => rfl
          | some d =>
            have : d ≠ t := fun e => ht (by rw [hod, e])
            simp [Act.put, Array.getD_eq_getD_getElem?, Array.getElem?_setIfInBounds_ne this]
        refine ⟨by simp [inv.lsize], fun j oj hj hlj e he hb => ?_, inv.le.trans hle, ?_, ?_, fun t ht => ?_, fun k ok d hk hdk hlk => ?_⟩
        · by_cases hji : j = i
          · subst hji
            rw [ho] at hj
            obtain rfl := Option.some.inj hj
            exact getD_set_true (hdeps e he hb)
          · exact getD_set_true (inv.closed j oj hj (set_get j hlj hji) e he hb)
        · cases hod : o.dst <;> simp [Act.put, inv.size]
        · cases hod : o.dst <;> simp [Act.put, inv.defers]
        · have hne : o.dst ≠ some t := fun e => by
            have := ht i o ho e
            simp [Array.getD_eq_getD_getElem?, hlt'] at this
          rw [hput t hne]
          refine inv.old t fun k ok hk hdk => ?_
          have := ht k ok hk hdk
          by_cases hki : i = k
          · subst hki; exact hul
          · rwa [getD_set_ne false hki] at this
        · by_cases hki : k = i
          · subst hki
            rw [ho] at hk
            obtain rfl := Option.some.inj hk
            have hdn : d < a.tmps.size := by rw [inv.size]; exact dlt k o d ho hdk
            have : (a.put o.dst v).tmps.getD d undef = v := by rw [hdk]; simp [Act.put, hdn]
            rw [this]
            exact hv d hdk
          · have hne : o.dst ≠ some d := fun e => hki (dne k i ok o d hk ho hdk e)
            rw [hput d hne]
            exact stab k _ _ _ hle (inv.new k ok d hk hdk (set_get k hlk hki))
      have hfree : ∀ t, freeAt ops i t = true → a.tmps.getD t undef = a₀.tmps.getD t undef := fun t ht => inv.old t fun k ok hk hdk => by
        have hk' : k < ops.size := (Array.getElem?_eq_some_iff.1 hk).1
        have h1 := List.all_eq_true.1 ht k (List.mem_range.2 hk')
        simp only [hk, Option.bind_some, hdk] at h1
        cases hlk : listed.getD k false with
        | false => rfl
        | true =>
          exfalso
          have hbt : Nat.beq t t = true := by simp
          simp only [hbt, Bool.not_true, Bool.false_or, Bool.or_eq_true] at h1
          rcases h1 with h1 | h1
          · have := Nat.eq_of_beq_eq_true h1
            subst this
            rw [hul] at hlk; cases hlk
          · have := reach_listed inv.closed _ _ _ h1 hlk
            rw [hul] at this; cases this
      have hgive := hop i o ho a w inv.le inv.size inv.defers hfree fun e he hb oe d hoe hde => inv.new e.on oe d hoe hde (hdeps e he hb)
      unfold wpOp
      simp only [ho]
      split
      · rename_i hw
        exact .inl (wp_of_gives (hgive.1 hw) fun v w' hle hr => ih _ _ _ (next v w' hle fun _ _ => hr) hcount)
      · rename_i hw
        exact ih _ _ _ (next undef w (Le.refl _) fun _ _ => hgive.2 (by simpa using hw)) hcount
  refine wp_region_any hm (key _ _ _ _ ⟨by simp, fun j o _ hl => ?_, Le.drew W, hs, hd, fun t _ => rfl, fun k o d _ _ hl => ?_⟩ ?_)
  · rw [rep_false] at hl; cases hl
  · rw [rep_false] at hl; cases hl
  · exact Nat.le_trans (List.length_filter_le _ _) (by simp)
end
end Go.Lm
