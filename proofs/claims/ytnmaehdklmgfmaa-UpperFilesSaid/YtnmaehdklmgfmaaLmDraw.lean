/- A region whose order is open, but for its last operations: these wait for all that stand ahead of them. General: no program in sight. -/
import Derived.Test.YtnmaehdklmgfmaaLmOps
namespace Go.Lm
open Go Go.RowKit
/-- From operation m on, each waits for all that stand ahead of it. -/
def tailOk (ops : Array Oper) (m : Nat) : Bool := (List.range ops.size).all fun j => Nat.blt j m || (List.range j).all fun i => reach ops ops.size j i
section
variable {P : Program}
theorem tail_reach {ops : Array Oper} {m i k : Nat} (hT : tailOk ops m = true) (him : m ≤ i) (hi : i < ops.size) (hk : k < i) : reach ops ops.size i k = true := by
  have h1 := List.all_eq_true.1 hT i (List.mem_range.2 hi)
  simp only [Bool.or_eq_true] at h1
  rcases h1 with h1 | h1
  · have : i < m := by simpa using h1
    omega
  · exact List.all_eq_true.1 h1 k (List.mem_range.2 hk)
theorem ready_all {ops : Array Oper} {m i k : Nat} {o : Oper} {listed : Array Bool} (hT : tailOk ops m = true) (him : m ≤ i) (hi : i < ops.size) (hk : k < i) (ho : ops[i]? = some o)
    (hd : ∀ e ∈ o.after, Region.binds .any e = true → listed.getD e.on false = true)
    (hc : ∀ (j : Nat) (o : Oper), ops[j]? = some o → listed.getD j false = true → ∀ e ∈ o.after, Region.binds .any e = true → listed.getD e.on false = true) : listed.getD k false = true := by
  have hr := tail_reach hT him hi hk
  have hs : ∃ f, ops.size = f + 1 := ⟨ops.size - 1, by omega⟩
  obtain ⟨f, hf⟩ := hs
  rw [hf] at hr
  unfold reach at hr
  simp only [ho] at hr
  obtain ⟨q, hq, hb⟩ := Array.any_eq_true.1 hr
  simp only [Bool.and_eq_true, Bool.or_eq_true] at hb
  have hl := hd _ (Array.getElem_mem hq) hb.1
  rcases hb.2 with he | he
  · rw [← Nat.eq_of_beq_eq_true he]; exact hl
  · exact reach_listed hc f _ _ he hl
theorem any_tail {ops : Array Oper} {m : Nat} {Q : Exit → Act → World → Prop} (hE : edgesOk ops = true) (hT : tailOk ops m = true) :
    ∀ (fuel k : Nat) (listed : Array Bool) (a : Act) (w : World), m ≤ k → listed.size = ops.size → (∀ i, listed.getD i false = (decide (i < k) && decide (i < ops.size))) → ops.size - k ≤ fuel → wpList P ops Q (ops.toList.drop k) a w → wpAny P .any ops Q fuel listed a w := by
  have edges : ∀ (i : Nat) (o : Oper), ops[i]? = some o → ∀ e ∈ o.after, Region.binds .any e = true → e.on < i := fun i o ho e he hb => by
    have hi : i < ops.size := (Array.getElem?_eq_some_iff.1 ho).1
    have h1 := List.all_eq_true.1 hE i (List.mem_range.2 hi)
    simp only [ho, Bool.and_eq_true] at h1
    have h2 := (Array.all_eq_true_iff_forall_mem.1 h1.1) e he
    simpa [hb] using h2
  have unl : ∀ (listed : Array Bool) i, i < listed.size → (listed.getD i true = false ↔ listed.getD i false = false) := fun listed i hi => by
    simp [Array.getD_eq_getD_getElem?, hi]
  have rdy : ∀ (k : Nat) (listed : Array Bool), m ≤ k → listed.size = ops.size → (∀ i, listed.getD i false = (decide (i < k) && decide (i < ops.size))) → ∀ i ∈ Region.ready .any ops listed, i = k ∧ k < ops.size := fun k listed hk hs hl i hi => by
    obtain ⟨hu, o, ho, hdeps⟩ := mem_ready.1 hi
    have hlt : i < ops.size := (Array.getElem?_eq_some_iff.1 ho).1
    have h1 := (unl listed i (by rw [hs]; exact hlt)).1 hu
    rw [hl] at h1
    have hik : k ≤ i := by
      simp [hlt] at h1; omega
    rcases Nat.lt_or_ge k i with h | h
    · exfalso
      have h2 := ready_all hT (by omega : m ≤ i) hlt h ho hdeps fun j oj hj hlj e he hb => by
        rw [hl] at hlj ⊢
        have h3 := edges j oj hj e he hb
        have h4 : j < ops.size := (Array.getElem?_eq_some_iff.1 hj).1
        simp at hlj ⊢; omega
      rw [hl] at h2
      simp at h2
    · exact ⟨by omega, by omega⟩
  have notNil : ∀ (k : Nat) (listed : Array Bool), listed.size = ops.size → (∀ i, listed.getD i false = (decide (i < k) && decide (i < ops.size))) → k < ops.size → Region.ready .any ops listed ≠ [] := fun k listed hs hl hk hr => by
    have hmem : k ∈ Region.ready .any ops listed := mem_ready.2 ⟨(unl listed k (by omega)).2 (by rw [hl]; simp), ops[k], by simp [hk], fun e he hb => by
      have := edges k ops[k] (by simp [hk]) e he hb
      rw [hl]; simp; omega⟩
    rw [hr] at hmem; cases hmem
  intro fuel
  induction fuel with
  | zero =>
    intro k listed a w hk hs hl hf h
    have hkk : ops.size ≤ k := by omega
    rw [List.drop_eq_nil_of_le (by simpa using hkk)] at h
    refine ⟨?_, h⟩
    cases hr : Region.ready .any ops listed with
    | nil => rfl
    | cons i r =>
      have := rdy k listed hk hs hl i (by rw [hr]; simp)
      omega
  | succ fuel ih =>
    intro k listed a w hk hs hl hf h
    refine ⟨fun hr => ?_, fun i hi => ?_⟩
    · by_cases hkk : k < ops.size
      · exact absurd hr (notNil k listed hs hl hkk)
      · rw [List.drop_eq_nil_of_le (by simpa using hkk)] at h; exact h
    · obtain ⟨rfl, hlt⟩ := rdy k listed hk hs hl i hi
      have hlt' : i < ops.toList.length := by simpa using hlt
      rw [List.drop_eq_getElem_cons hlt'] at h
      have ho : ops[i]? = some ops.toList[i] := by simp [hlt]
      have hl' : ∀ q, (listed.setIfInBounds i true).getD q false = (decide (q < i + 1) && decide (q < ops.size)) := fun q => by
        by_cases e : i = q
        · subst e
          simp [Array.getD_eq_getD_getElem?, hs, hlt]
        · rw [getD_set_ne false e, hl]
          congr 1
          rw [decide_eq_decide]; omega
      have hK : ∀ a w, wpList P ops Q (ops.toList.drop (i + 1)) a w → wpAny P .any ops Q fuel (listed.setIfInBounds i true) a w := fun a w hw =>
        ih (i + 1) _ a w (by omega) (by simp [hs]) hl' (by omega) hw
      unfold wpOp
      simp only [ho]
      unfold wpList at h
      split at h
      · rename_i hw
        rw [if_pos hw]
        rcases h with h | h
        · exact .inl (Oper.wp_mono hK h)
        · exact .inr h
      · rename_i hw
        rw [if_neg hw]
        exact hK _ _ h
set_option maxHeartbeats 800000 in
theorem region_rel2 {ops : Array Oper} {n id : Nat} {a₀ : Act} {W : World} {Q : Exit → Act → World → Prop} (m : Nat) (R : Nat → World → Value → Prop) (hm : P.follows .mixedOrders = true) (hT : tailOk ops m = true)
    (hE : edgesOk ops = true) (hD : dstsOk ops n = true) (hs : a₀.tmps.size = n) (hd : a₀.defers = [])
    (stab : ∀ (i : Nat) (w w' : World) (v : Value), Le w w' → R i w v → R i w' v)
    (hop : ∀ (j : Nat) (o : Oper), j < m → ops[j]? = some o → ∀ (a : Act) (w : World), Le W w → a.tmps.size = n → a.defers = [] → (∀ t, freeAt ops j t = true → a.tmps.getD t undef = a₀.tmps.getD t undef) →
      (∀ e ∈ o.after, Region.binds .any e = true → ∀ (oe : Oper) (d : Tmp), ops[e.on]? = some oe → oe.dst = some d → R e.on w (a.tmps.getD d undef)) →
      (Region.wanted o (yielded ops a.tmps) = true → gives P w (R j) ((execOp a.eval o).run P w)) ∧ (Region.wanted o (yielded ops a.tmps) = false → R j w undef))
    (hend : ∀ (a : Act) (w : World), Le W w → a.tmps.size = n → a.defers = [] → (∀ t, (∀ (k : Nat) (o : Oper), k < m → ops[k]? = some o → o.dst ≠ some t) → a.tmps.getD t undef = a₀.tmps.getD t undef) →
      (∀ (k : Nat) (o : Oper) (d : Tmp), k < m → ops[k]? = some o → o.dst = some d → R k w (a.tmps.getD d undef)) → wpList P ops Q (ops.toList.drop m) a w) : (Code.region id ops true).wp P Q a₀ W := by
  have edges : ∀ (i : Nat) (o : Oper), ops[i]? = some o → ∀ e ∈ o.after, Region.binds .any e = true → e.on < i := fun i o ho e he hb => by
    have hi : i < ops.size := (Array.getElem?_eq_some_iff.1 ho).1
    have h1 := List.all_eq_true.1 hE i (List.mem_range.2 hi)
    simp only [ho, Bool.and_eq_true] at h1
    have h2 := (Array.all_eq_true_iff_forall_mem.1 h1.1) e he
    simpa [hb] using h2
  have dlt : ∀ (i : Nat) (o : Oper) (d : Tmp), ops[i]? = some o → o.dst = some d → d < n := fun i o d ho hd => by
    have hi : i < ops.size := (Array.getElem?_eq_some_iff.1 ho).1
    have h1 := List.all_eq_true.1 hD i (List.mem_range.2 hi)
    simp only [ho, Option.bind_some, hd, Bool.and_eq_true] at h1
    simpa using h1.1
  have dne' : ∀ (i j : Nat) (oi oj : Oper) (d : Tmp), j < i → ops[i]? = some oi → ops[j]? = some oj → oi.dst = some d → oj.dst = some d → False := fun i j oi oj d hji hi hj hdi hdj => by
    have hi' : i < ops.size := (Array.getElem?_eq_some_iff.1 hi).1
    have h1 := List.all_eq_true.1 hD i (List.mem_range.2 hi')
    simp only [hi, Option.bind_some, hdi, Bool.and_eq_true] at h1
    have h2 := List.all_eq_true.1 h1.2 j (List.mem_range.2 hji)
    simp [hj, hdj] at h2
  have dne : ∀ (i j : Nat) (oi oj : Oper) (d : Tmp), ops[i]? = some oi → ops[j]? = some oj → oi.dst = some d → oj.dst = some d → i = j := fun i j oi oj d hi hj hdi hdj => by
    rcases Nat.lt_trichotomy i j with h | h | h
    · exact (dne' j i oj oi d h hj hi hdj hdi).elim
    · exact h
    · exact (dne' i j oi oj d h hi hj hdi hdj).elim
  have unl : ∀ (listed : Array Bool) i, i < listed.size → (listed.getD i true = false ↔ listed.getD i false = false) := fun listed i hi => by
    simp [Array.getD_eq_getD_getElem?, hi]
  -- all are listed where none is ready
  have done : ∀ (listed : Array Bool) (a : Act) (w : World), RInv ops n W a₀ R listed a w → Region.ready .any ops listed = [] → ∀ i, i < ops.size → listed.getD i false = true := by
    intro listed a w inv hr i
    induction i using Nat.strongRecOn with
    | _ i ih =>
      intro hi
      cases hl : listed.getD i false with
      | true => rfl
      | false =>
        exfalso
        have hu : listed.getD i true = false := (unl listed i (by rw [inv.lsize]; exact hi)).2 hl
        have hmem : i ∈ Region.ready .any ops listed := mem_ready.2 ⟨hu, ops[i], by simp [hi], fun e he hb => by
          have hlt := edges i ops[i] (by simp [hi]) e he hb
          exact ih e.on hlt (by omega)⟩
        rw [hr] at hmem
        cases hmem
  have pre : ∀ (listed : Array Bool) (a : Act) (w : World), RInv ops n W a₀ R listed a w → (∀ i, listed.getD i false = true → i < m) → (∀ i, i < m → i < ops.size → listed.getD i false = true) → wpList P ops Q (ops.toList.drop m) a w := fun listed a w inv hsub hall => by
    refine hend a w inv.le inv.size inv.defers (fun t ht => inv.old t fun k o hk hdk => ?_) fun k o d hkm hk hdk => inv.new k o d hk hdk (hall k hkm (Array.getElem?_eq_some_iff.1 hk).1)
    cases hl : listed.getD k false with
    | false => rfl
    | true => exact absurd hdk (ht k o (hsub k hl) hk)
  have fin : ∀ (listed : Array Bool) (a : Act) (w : World), RInv ops n W a₀ R listed a w → (∀ i, listed.getD i false = true → i < m) → Region.ready .any ops listed = [] → Q .normal a w := fun listed a w inv hsub hr => by
    have hall := done listed a w inv hr
    have h1 := pre listed a w inv hsub fun i _ hi => hall i hi
    have h2 : ops.toList.drop m = [] := by
      rw [List.drop_eq_nil_iff]
      rcases Nat.lt_or_ge m ops.size with h | h
      · have := hsub m (hall m h); omega
      · simpa using h
    rw [h2] at h1; exact h1
  have key : ∀ (fuel : Nat) (listed : Array Bool) (a : Act) (w : World), RInv ops n W a₀ R listed a w → (∀ i, listed.getD i false = true → i < m) → ((List.range ops.size).filter fun i => !listed.getD i true).length ≤ fuel → wpAny P .any ops Q fuel listed a w := by
    intro fuel
    induction fuel with
    | zero =>
      intro listed a w inv hsub hc
      have hr : Region.ready .any ops listed = [] := by
        cases hr : Region.ready .any ops listed with
        | nil => rfl
        | cons i l =>
          exfalso
          have hmem : i ∈ Region.ready .any ops listed := by rw [hr]; simp
          obtain ⟨hu, o, ho, _⟩ := mem_ready.1 hmem
          have : i ∈ (List.range ops.size).filter fun i => !listed.getD i true := List.mem_filter.2 ⟨List.mem_range.2 (Array.getElem?_eq_some_iff.1 ho).1, by simp [hu]⟩
          have := List.length_pos_of_mem this
          omega
      exact ⟨hr, fin listed a w inv hsub hr⟩
    | succ fuel ih =>
      intro listed a w inv hsub hc
      refine ⟨fin listed a w inv hsub, fun i hi => ?_⟩
      obtain ⟨hu, o, ho, hdeps⟩ := mem_ready.1 hi
      have hlt : i < ops.size := (Array.getElem?_eq_some_iff.1 ho).1
      have hlt' : i < listed.size := by rw [inv.lsize]; exact hlt
      by_cases him : m ≤ i
      · -- the tail begins
        have hall : ∀ k, k < i → listed.getD k false = true := fun k hk => ready_all hT him hlt hk ho hdeps inv.closed
        have hi' : i = m := by
          rcases Nat.lt_or_ge m i with h | h
          · have := hsub m (hall m h); omega
          · omega
        subst hi'
        have hpre := pre listed a w inv hsub fun k hk _ => hall k hk
        have hco : ops.size - i ≤ fuel + 1 := by
          have h1 : ((List.range ops.size).filter fun k => decide (i ≤ k)).length ≤ ((List.range ops.size).filter fun k => !listed.getD k true).length := by
            rw [← List.countP_eq_length_filter, ← List.countP_eq_length_filter]
            refine List.countP_mono_left fun k hk hd => ?_
            simp only [decide_eq_true_eq] at hd
            have hk' : k < listed.size := by rw [inv.lsize]; exact List.mem_range.1 hk
            have : listed.getD k false = false := by
              cases hq : listed.getD k false with
              | false => rfl
              | true => have := hsub k hq; omega
            simp [(unl listed k hk').2 this]
          have h2 : ∀ N, ((List.range N).filter fun k => decide (i ≤ k)).length = N - i := fun N => by
            induction N with
            | zero => simp
            | succ N ih => rw [List.range_succ, List.filter_append, List.length_append, ih]; by_cases hh : i ≤ N <;> simp [hh] <;> omega
          rw [h2] at h1; omega
        have := any_tail hE hT (fuel + 1) i listed a w (Nat.le_refl _) inv.lsize (fun k => by
          by_cases hk : k < i
          · rw [hall k hk]; simp [hk]; omega
          · cases hq : listed.getD k false with
            | false => simp [hk]
            | true => have := hsub k hq; omega) hco hpre
        exact this.2 i hi
      have him' : i < m := by omega
      have hul : listed.getD i false = false := (unl listed i hlt').1 hu
      have hcount : ((List.range ops.size).filter fun k => !(listed.setIfInBounds i true).getD k true).length ≤ fuel := by
        have := filter_lt (p := fun k => !listed.getD k true) (q := fun k => !(listed.setIfInBounds i true).getD k true) (List.range ops.size) (fun x _ hx => by
            by_cases hxi : i = x
            · subst hxi; simpa using hu
            · simpa [getD_set_ne true hxi] using hx) i (List.mem_range.2 hlt) (by simp [hu]) (by simp [Array.getD_eq_getD_getElem?, hlt'])
        omega
      have set_get : ∀ k, (listed.setIfInBounds i true).getD k false = true → k ≠ i → listed.getD k false = true := fun k hk hne => by
        rwa [getD_set_ne false (Ne.symm hne)] at hk
      have next : ∀ v w', Le w w' → (∀ d, o.dst = some d → R i w' v) → RInv ops n W a₀ R (listed.setIfInBounds i true) (a.put o.dst v) w' := fun v w' hle hv => by
        have hput : ∀ t, o.dst ≠ some t → (a.put o.dst v).tmps.getD t undef = a.tmps.getD t undef := fun t ht => by
          cases hod : o.dst with
          | none => rfl
          | some d =>
            have : d ≠ t := fun e => ht (by rw [hod, e])
            simp [Act.put, Array.getD_eq_getD_getElem?, Array.getElem?_setIfInBounds_ne this]
        refine ⟨by simp [inv.lsize], fun j oj hj hlj e he hb => ?_, inv.le.trans hle, ?_, ?_, fun t ht => ?_, fun k ok d hk hdk hlk => ?_⟩
        · by_cases hji : j = i
          · subst hji
            rw [ho] at hj
            obtain rfl := Option.some.inj hj
            exact getD_set_true (hdeps e he hb)
          · exact getD_set_true (inv.closed j oj hj (set_get j hlj hji) e he hb)
        · cases hod : o.dst <;> simp [Act.put, inv.size]
        · cases hod : o.dst <;> simp [Act.put, inv.defers]
        · have hne : o.dst ≠ some t := fun e => by
            have := ht i o ho e
            simp [Array.getD_eq_getD_getElem?, hlt'] at this
          rw [hput t hne]
          refine inv.old t fun k ok hk hdk => ?_
          have := ht k ok hk hdk
          by_cases hki : i = k
          · subst hki; exact hul
          · rwa [getD_set_ne false hki] at this
        · by_cases hki : k = i
          · subst hki
            rw [ho] at hk
            obtain rfl := Option.some.inj hk
            have hdn : d < a.tmps.size := by rw [inv.size]; exact dlt k o d ho hdk
            have : (a.put o.dst v).tmps.getD d undef = v := by rw [hdk]; simp [Act.put, hdn]
            rw [this]
            exact hv d hdk
          · have hne : o.dst ≠ some d := fun e => hki (dne k i ok o d hk ho hdk e)
            rw [hput d hne]
            exact stab k _ _ _ hle (inv.new k ok d hk hdk (set_get k hlk hki))
      have hsub' : ∀ k, (listed.setIfInBounds i true).getD k false = true → k < m := fun k hk => by
        by_cases hki : k = i
        · omega
        · exact hsub k (set_get k hk hki)
      have hfree : ∀ t, freeAt ops i t = true → a.tmps.getD t undef = a₀.tmps.getD t undef := fun t ht => inv.old t fun k ok hk hdk => by
        have hk' : k < ops.size := (Array.getElem?_eq_some_iff.1 hk).1
        have h1 := List.all_eq_true.1 ht k (List.mem_range.2 hk')
        simp only [hk, Option.bind_some, hdk] at h1
        cases hlk : listed.getD k false with
        | false => rfl
        | true =>
          exfalso
          have hbt : Nat.beq t t = true := by simp
          simp only [hbt, Bool.not_true, Bool.false_or, Bool.or_eq_true] at h1
          rcases h1 with h1 | h1
          · have := Nat.eq_of_beq_eq_true h1
            subst this
            rw [hul] at hlk; cases hlk
          · have := reach_listed inv.closed _ _ _ h1 hlk
            rw [hul] at this; cases this
      have hgive := hop i o him' ho a w inv.le inv.size inv.defers hfree fun e he hb oe d hoe hde => inv.new e.on oe d hoe hde (hdeps e he hb)
      unfold wpOp
      simp only [ho]
      split
      · rename_i hw
        exact .inl (wp_of_gives (hgive.1 hw) fun v w' hle hr => ih _ _ _ (next v w' hle fun _ _ => hr) hsub' hcount)
      · rename_i hw
        exact ih _ _ _ (next undef w (Le.refl _) fun _ _ => hgive.2 (by simpa using hw)) hsub' hcount
  refine wp_region_any hm (key _ _ _ _ ⟨by simp, fun j o _ hl => ?_, Le.drew W, hs, hd, fun t _ => rfl, fun k o d _ _ hl => ?_⟩ (fun i hl => ?_) ?_)
  · rw [rep_false] at hl; cases hl
  · rw [rep_false] at hl; cases hl
  · rw [rep_false] at hl; cases hl
  · exact Nat.le_trans (List.length_filter_le _ _) (by simp)
end
theorem C_drawT {P : Program} {l : List Oper} {n id : Nat} {s : AL} {Q : Exit → Act → World → Prop} {w : World} (m : Nat) (R : List RP) (hm : P.follows .mixedOrders = true)
    (hE : edgesOk l.toArray = true) (hD : dstsOk l.toArray n = true) (hT : tailOk l.toArray m = true) (hst : StabAll R) (hop : RAll P l.toArray w n s R 0 (l.take m))
    (hend : ∀ (a : Act) (w' : World), Le w w' → Fr n (s.filter fun p => untouched (l.take m) p.1) a → FinAll l.toArray R w' a 0 (l.take m) → wpList P l.toArray Q (l.drop m) a w') : okC P (.region id l.toArray true) n s Q w := fun a₀ ha => by
  refine region_rel2 (n := n) m (getR R) hm hT hE hD ha.size ha.defers (fun i => StabAll.get R i hst) (fun j o hjm ho a w' hl hs hd hfree hdeps => ?_) fun a w' hl hs hd hold hnew => ?_
  · have h1 := RAll.get (l.take m) 0 hop j o (by rw [List.getElem?_take, if_pos hjm]; simpa using ho)
    rw [Nat.zero_add] at h1
    refine h1 a w' hl ⟨hs, hd, fun t v ht => ?_⟩ (DepAll.mk _ fun e he hb oe d hoe hde => hdeps e (by simpa using he) hb oe d hoe hde)
    obtain ⟨h2, h3⟩ := look_filter ht
    rw [hfree t h2]
    exact ha.has t v h3
  · have key : ∀ (l' : List Oper) (j : Nat), (∀ i, i < l'.length → l'[i]? = l[j + i]? ∧ j + i < m) → FinAll l.toArray R w' a j l' := by
      intro l'
      induction l' with
      | nil => exact fun _ _ => trivial
      | cons o r ih =>
        intro j hj
        refine ⟨?_, ih (j + 1) fun i hi => ?_⟩
        · have h0 := hj 0 (by simp)
          cases hd : o.dst with
          | none => trivial
          | some d => exact hnew j o d (by omega) (by have := h0.1; simp at this; simpa using this.symm) hd
        · have := hj (i + 1) (by simpa using hi)
          simp only [List.getElem?_cons_succ] at this
          rw [show j + 1 + i = j + (i + 1) by omega]; exact this
    refine hend a w' hl ⟨hs, hd, fun t v ht => ?_⟩ (key _ _ fun i hi => ?_)
    · obtain ⟨h1, h2⟩ := look_filter ht
      rw [hold t fun k o hkm hk hdk => ?_]
      · exact ha.has t v h2
      · have hk' : (l.take m)[k]? = some o := by rw [List.getElem?_take, if_pos hkm]; simpa using hk
        have := List.all_eq_true.1 h1 o (List.mem_of_getElem? hk')
        rw [hdk] at this
        simp at this
    · have him : i < m := by simp at hi; omega
      rw [Nat.zero_add]
      exact ⟨by rw [List.getElem?_take, if_pos him], him⟩
end Go.Lm
