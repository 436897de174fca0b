/- General texts of mine, merged: LmDraw, LmMore, LmMapV, LmEntry, LmFloat, LmElem, LmApp, LmCopy. No program in sight. -/
import Derived.Test.YtklplgmjccldlaaDoorLmKA
import Derived.Laws.BytesArg
import Derived.Laws.IdiomStrings
import Derived.Lib.ConvBytes
/- A region whose order is open, but for its last operations: these wait for all that stand ahead of them. General: no program in sight. -/
namespace Go.Lm
open Go Go.RowKit
/-- From operation m on, each waits for all that stand ahead of it. -/
def tailOk (ops : Array Oper) (m : Nat) : Bool := (List.range ops.size).all fun j => Nat.blt j m || (List.range j).all fun i => reach ops ops.size j i
section
variable {P : Program}
theorem tail_reach {ops : Array Oper} {m i k : Nat} (hT : tailOk ops m = true) (him : m ≤ i) (hi : i < ops.size) (hk : k < i) : reach ops ops.size i k = true := by
  have h1 := List.all_eq_true.1 hT i (List.mem_range.2 hi)
  simp only [Bool.or_eq_true] at h1
  rcases h1 with h1 | h1
  · have : i < m := by simpa using h1
    omega
  · exact List.all_eq_true.1 h1 k (List.mem_range.2 hk)
theorem ready_all {ops : Array Oper} {m i k : Nat} {o : Oper} {listed : Array Bool} (hT : tailOk ops m = true) (him : m ≤ i) (hi : i < ops.size) (hk : k < i) (ho : ops[i]? = some o)
    (hd : ∀ e ∈ o.after, Region.binds .any e = true → listed.getD e.on false = true)
    (hc : ∀ (j : Nat) (o : Oper), ops[j]? = some o → listed.getD j false = true → ∀ e ∈ o.after, Region.binds .any e = true → listed.getD e.on false = true) : listed.getD k false = true := by
  have hr := tail_reach hT him hi hk
  have hs : ∃ f, ops.size = f + 1 := ⟨ops.size - 1, by omega⟩
  obtain ⟨f, hf⟩ := hs
  rw [hf] at hr
  unfold reach at hr
  simp only [ho] at hr
  obtain ⟨q, hq, hb⟩ := Array.any_eq_true.1 hr
  simp only [Bool.and_eq_true, Bool.or_eq_true] at hb
  have hl := hd _ (Array.getElem_mem hq) hb.1
  rcases hb.2 with he | he
  · rw [← Nat.eq_of_beq_eq_true he]; exact hl
  · exact reach_listed hc f _ _ he hl
theorem any_tail {ops : Array Oper} {m : Nat} {Q : Exit → Act → World → Prop} (hE : edgesOk ops = true) (hT : tailOk ops m = true) :
    ∀ (fuel k : Nat) (listed : Array Bool) (a : Act) (w : World), m ≤ k → listed.size = ops.size → (∀ i, listed.getD i false = (decide (i < k) && decide (i < ops.size))) → ops.size - k ≤ fuel → wpList P ops Q (ops.toList.drop k) a w → wpAny P .any ops Q fuel listed a w := by
  have edges : ∀ (i : Nat) (o : Oper), ops[i]? = some o → ∀ e ∈ o.after, Region.binds .any e = true → e.on < i := fun i o ho e he hb => by
    have hi : i < ops.size := (Array.getElem?_eq_some_iff.1 ho).1
    have h1 := List.all_eq_true.1 hE i (List.mem_range.2 hi)
    simp only [ho, Bool.and_eq_true] at h1
    have h2 := (Array.all_eq_true_iff_forall_mem.1 h1.1) e he
    simpa [hb] using h2
  have unl : ∀ (listed : Array Bool) i, i < listed.size → (listed.getD i true = false ↔ listed.getD i false = false) := fun listed i hi => by
    simp [Array.getD_eq_getD_getElem?, hi]
  have rdy : ∀ (k : Nat) (listed : Array Bool), m ≤ k → listed.size = ops.size → (∀ i, listed.getD i false = (decide (i < k) && decide (i < ops.size))) → ∀ i ∈ Region.ready .any ops listed, i = k ∧ k < ops.size := fun k listed hk hs hl i hi => by
    obtain ⟨hu, o, ho, hdeps⟩ := mem_ready.1 hi
    have hlt : i < ops.size := (Array.getElem?_eq_some_iff.1 ho).1
    have h1 := (unl listed i (by rw [hs]; exact hlt)).1 hu
    rw [hl] at h1
    have hik : k ≤ i := by
      simp [hlt] at h1; omega
    rcases Nat.lt_or_ge k i with h | h
    · exfalso
      have h2 := ready_all hT (by omega : m ≤ i) hlt h ho hdeps fun j oj hj hlj e he hb => by
        rw [hl] at hlj ⊢
        have h3 := edges j oj hj e he hb
        have h4 : j < ops.size := (Array.getElem?_eq_some_iff.1 hj).1
        simp at hlj ⊢; omega
      rw [hl] at h2
      simp at h2
    · exact ⟨by omega, by omega⟩
  have notNil : ∀ (k : Nat) (listed : Array Bool), listed.size = ops.size → (∀ i, listed.getD i false = (decide (i < k) && decide (i < ops.size))) → k < ops.size → Region.ready .any ops listed ≠ [] := fun k listed hs hl hk hr => by
    have hmem : k ∈ Region.ready .any ops listed := mem_ready.2 ⟨(unl listed k (by omega)).2 (by rw [hl]; simp), ops[k], by simp [hk], fun e he hb => by
      have := edges k ops[k] (by simp [hk]) e he hb
      rw [hl]; simp; omega⟩
    rw [hr] at hmem; cases hmem
  intro fuel
  induction fuel with
  | zero =>
    intro k listed a w hk hs hl hf h
    have hkk : ops.size ≤ k := by omega
    rw [List.drop_eq_nil_of_le (by simpa using hkk)] at h
    refine ⟨?_, h⟩
    cases hr : Region.ready .any ops listed with
    | nil => rfl
    | cons i r =>
      have := rdy k listed hk hs hl i (by rw [hr]; simp)
      omega
  | succ fuel ih =>
    intro k listed a w hk hs hl hf h
    refine ⟨fun hr => ?_, fun i hi => ?_⟩
    · by_cases hkk : k < ops.size
      · exact absurd hr (notNil k listed hs hl hkk)
      · rw [List.drop_eq_nil_of_le (by simpa using hkk)] at h; exact h
    · obtain ⟨rfl, hlt⟩ := rdy k listed hk hs hl i hi
      have hlt' : i < ops.toList.length := by simpa using hlt
      rw [List.drop_eq_getElem_cons hlt'] at h
      have ho : ops[i]? = some ops.toList[i] := by simp [hlt]
      have hl' : ∀ q, (listed.setIfInBounds i true).getD q false = (decide (q < i + 1) && decide (q < ops.size)) := fun q => by
        by_cases e : i = q
        · subst e
          simp [Array.getD_eq_getD_getElem?, hs, hlt]
        · rw [getD_set_ne false e, hl]
          congr 1
          rw [decide_eq_decide]; omega
      have hK : ∀ a w, wpList P ops Q (ops.toList.drop (i + 1)) a w → wpAny P .any ops Q fuel (listed.setIfInBounds i true) a w := fun a w hw =>
        ih (i + 1) _ a w (by omega) (by simp [hs]) hl' (by omega) hw
      unfold wpOp
      simp only [ho]
      unfold wpList at h
      split at h
      · rename_i hw
        rw [if_pos hw]
        rcases h with h | h
        · exact .inl (Oper.wp_mono hK h)
        · exact .inr h
      · rename_i hw
        rw [if_neg hw]
        exact hK _ _ h
set_option maxHeartbeats 800000 in
theorem region_rel2 {ops : Array Oper} {n id : Nat} {a₀ : Act} {W : World} {Q : Exit → Act → World → Prop} (m : Nat) (R : Nat → World → Value → Prop) (hm : P.follows .mixedOrders = true) (hT : tailOk ops m = true)
    (hE : edgesOk ops = true) (hD : dstsOk ops n = true) (hs : a₀.tmps.size = n) (hd : a₀.defers = [])
    (stab : ∀ (i : Nat) (w w' : World) (v : Value), Le w w' → R i w v → R i w' v)
    (hop : ∀ (j : Nat) (o : Oper), j < m → ops[j]? = some o → ∀ (a : Act) (w : World), Le W w → a.tmps.size = n → a.defers = [] → (∀ t, freeAt ops j t = true → a.tmps.getD t undef = a₀.tmps.getD t undef) →
      (∀ e ∈ o.after, Region.binds .any e = true → ∀ (oe : Oper) (d : Tmp), ops[e.on]? = some oe → oe.dst = some d → R e.on w (a.tmps.getD d undef)) →
      (Region.wanted o (yielded ops a.tmps) = true → gives P w (R j) ((execOp a.eval o).run P w)) ∧ (Region.wanted o (yielded ops a.tmps) = false → R j w undef))
    (hend : ∀ (a : Act) (w : World), Le W w → a.tmps.size = n → a.defers = [] → (∀ t, (∀ (k : Nat) (o : Oper), k < m → ops[k]? = some o → o.dst ≠ some t) → a.tmps.getD t undef = a₀.tmps.getD t undef) →
      (∀ (k : Nat) (o : Oper) (d : Tmp), k < m → ops[k]? = some o → o.dst = some d → R k w (a.tmps.getD d undef)) → wpList P ops Q (ops.toList.drop m) a w) : (Code.region id ops true).wp P Q a₀ W := by
  have edges : ∀ (i : Nat) (o : Oper), ops[i]? = some o → ∀ e ∈ o.after, Region.binds .any e = true → e.on < i := fun i o ho e he hb => by
    have hi : i < ops.size := (Array.getElem?_eq_some_iff.1 ho).1
    have h1 := List.all_eq_true.1 hE i (List.mem_range.2 hi)
    simp only [ho, Bool.and_eq_true] at h1
    have h2 := (Array.all_eq_true_iff_forall_mem.1 h1.1) e he
    simpa [hb] using h2
  have dlt : ∀ (i : Nat) (o : Oper) (d : Tmp), ops[i]? = some o → o.dst = some d → d < n := fun i o d ho hd => by
    have hi : i < ops.size := (Array.getElem?_eq_some_iff.1 ho).1
    have h1 := List.all_eq_true.1 hD i (List.mem_range.2 hi)
    simp only [ho, Option.bind_some, hd, Bool.and_eq_true] at h1
    simpa using h1.1
  have dne' : ∀ (i j : Nat) (oi oj : Oper) (d : Tmp), j < i → ops[i]? = some oi → ops[j]? = some oj → oi.dst = some d → oj.dst = some d → False := fun i j oi oj d hji hi hj hdi hdj => by
    have hi' : i < ops.size := (Array.getElem?_eq_some_iff.1 hi).1
    have h1 := List.all_eq_true.1 hD i (List.mem_range.2 hi')
    simp only [hi, Option.bind_some, hdi, Bool.and_eq_true] at h1
    have h2 := List.all_eq_true.1 h1.2 j (List.mem_range.2 hji)
    simp [hj, hdj] at h2
  have dne : ∀ (i j : Nat) (oi oj : Oper) (d : Tmp), ops[i]? = some oi → ops[j]? = some oj → oi.dst = some d → oj.dst = some d → i = j := fun i j oi oj d hi hj hdi hdj => by
    rcases Nat.lt_trichotomy i j with h | h | h
    · exact (dne' j i oj oi d h hj hi hdj hdi).elim
    · exact h
    · exact (dne' i j oi oj d h hi hj hdi hdj).elim
  have unl : ∀ (listed : Array Bool) i, i < listed.size → (listed.getD i true = false ↔ listed.getD i false = false) := fun listed i hi => by
    simp [Array.getD_eq_getD_getElem?, hi]
  -- all are listed where none is ready
  have done : ∀ (listed : Array Bool) (a : Act) (w : World), RInv ops n W a₀ R listed a w → Region.ready .any ops listed = [] → ∀ i, i < ops.size → listed.getD i false = true := by
    intro listed a w inv hr i
    induction i using Nat.strongRecOn with
    | _ i ih =>
      intro hi
      cases hl : listed.getD i false with
      | true => rfl
      | false =>
        exfalso
        have hu : listed.getD i true = false := (unl listed i (by rw [inv.lsize]; exact hi)).2 hl
        have hmem : i ∈ Region.ready .any ops listed := mem_ready.2 ⟨hu, ops[i], by simp [hi], fun e he hb => by
          have hlt := edges i ops[i] (by simp [hi]) e he hb
          exact ih e.on hlt (by omega)⟩
        rw [hr] at hmem
        cases hmem
  have pre : ∀ (listed : Array Bool) (a : Act) (w : World), RInv ops n W a₀ R listed a w → (∀ i, listed.getD i false = true → i < m) → (∀ i, i < m → i < ops.size → listed.getD i false = true) → wpList P ops Q (ops.toList.drop m) a w := fun listed a w inv hsub hall => by
    refine hend a w inv.le inv.size inv.defers (fun t ht => inv.old t fun k o hk hdk => ?_) fun k o d hkm hk hdk => inv.new k o d hk hdk (hall k hkm (Array.getElem?_eq_some_iff.1 hk).1)
    cases hl : listed.getD k false with
    | false => rfl
    | true => exact absurd hdk (ht k o (hsub k hl) hk)
  have fin : ∀ (listed : Array Bool) (a : Act) (w : World), RInv ops n W a₀ R listed a w → (∀ i, listed.getD i false = true → i < m) → Region.ready .any ops listed = [] → Q .normal a w := fun listed a w inv hsub hr => by
    have hall := done listed a w inv hr
    have h1 := pre listed a w inv hsub fun i _ hi => hall i hi
    have h2 : ops.toList.drop m = [] := by
      rw [List.drop_eq_nil_iff]
      rcases Nat.lt_or_ge m ops.size with h | h
      · have := hsub m (hall m h); omega
      · simpa using h
    rw [h2] at h1; exact h1
  have key : ∀ (fuel : Nat) (listed : Array Bool) (a : Act) (w : World), RInv ops n W a₀ R listed a w → (∀ i, listed.getD i false = true → i < m) → ((List.range ops.size).filter fun i => !listed.getD i true).length ≤ fuel → wpAny P .any ops Q fuel listed a w := by
    intro fuel
    induction fuel with
    | zero =>
      intro listed a w inv hsub hc
      have hr : Region.ready .any ops listed = [] := by
        cases hr : Region.ready .any ops listed with
        | nil => rfl
        | cons i l =>
          exfalso
          have hmem : i ∈ Region.ready .any ops listed := by rw [hr]; simp
          obtain ⟨hu, o, ho, _⟩ := mem_ready.1 hmem
          have : i ∈ (List.range ops.size).filter fun i => !listed.getD i true := List.mem_filter.2 ⟨List.mem_range.2 (Array.getElem?_eq_some_iff.1 ho).1, by simp [hu]⟩
          have := List.length_pos_of_mem this
          omega
      exact ⟨hr, fin listed a w inv hsub hr⟩
    | succ fuel ih =>
      intro listed a w inv hsub hc
      refine ⟨fin listed a w inv hsub, fun i hi => ?_⟩
      obtain ⟨hu, o, ho, hdeps⟩ := mem_ready.1 hi
      have hlt : i < ops.size := (Array.getElem?_eq_some_iff.1 ho).1
      have hlt' : i < listed.size := by rw [inv.lsize]; exact hlt
      by_cases him : m ≤ i
      · -- the tail begins
        have hall : ∀ k, k < i → listed.getD k false = true := fun k hk => ready_all hT him hlt hk ho hdeps inv.closed
        have hi' : i = m := by
          rcases Nat.lt_or_ge m i with h | h
          · have := hsub m (hall m h); omega
          · omega
        subst hi'
        have hpre := pre listed a w inv hsub fun k hk _ => hall k hk
        have hco : ops.size - i ≤ fuel + 1 := by
          have h1 : ((List.range ops.size).filter fun k => decide (i ≤ k)).length ≤ ((List.range ops.size).filter fun k => !listed.getD k true).length := by
            rw [← List.countP_eq_length_filter, ← List.countP_eq_length_filter]
            refine List.countP_mono_left fun k hk hd => ?_
            simp only [decide_eq_true_eq] at hd
            have hk' : k < listed.size := by rw [inv.lsize]; exact List.mem_range.1 hk
            have : listed.getD k false = false := by
              cases hq : listed.getD k false with
              | false => rfl
              | true => have := hsub k hq; omega
            simp [(unl listed k hk').2 this]
          have h2 : ∀ N, ((List.range N).filter fun k => decide (i ≤ k)).length = N - i := fun N => by
            induction N with
            | zero => simp
            | succ N ih => rw [List.range_succ, List.filter_append, List.length_append, ih]; by_cases hh : i ≤ N <;> simp [hh] <;> omega
          rw [h2] at h1; omega
        have := any_tail hE hT (fuel + 1) i listed a w (Nat.le_refl _) inv.lsize (fun k => by
          by_cases hk : k < i
          · rw [hall k hk]; simp [hk]; omega
          · cases hq : listed.getD k false with
            | false => simp [hk]
            | true => have := hsub k hq; omega) hco hpre
        exact this.2 i hi
      have him' : i < m := by omega
      have hul : listed.getD i false = false := (unl listed i hlt').1 hu
      have hcount : ((List.range ops.size).filter fun k => !(listed.setIfInBounds i true).getD k true).length ≤ fuel := by
        have := filter_lt (p := fun k => !listed.getD k true) (q := fun k => !(listed.setIfInBounds i true).getD k true) (List.range ops.size) (fun x _ hx => by
            by_cases hxi : i = x
            · subst hxi; simpa using hu
            · simpa [getD_set_ne true hxi] using hx) i (List.mem_range.2 hlt) (by simp [hu]) (by simp [Array.getD_eq_getD_getElem?, hlt'])
        omega
      have set_get : ∀ k, (listed.setIfInBounds i true).getD k false = true → k ≠ i → listed.getD k false = true := fun k hk hne => by
        rwa [getD_set_ne false (Ne.symm hne)] at hk
      have next : ∀ v w', Le w w' → (∀ d, o.dst = some d → R i w' v) → RInv ops n W a₀ R (listed.setIfInBounds i true) (a.put o.dst v) w' := fun v w' hle hv => by
        have hput : ∀ t, o.dst ≠ some t → (a.put o.dst v).tmps.getD t undef = a.tmps.getD t undef := fun t ht => by
          cases hod : o.dst with
          | none => rfl
          | some d =>
            have : d ≠ t := fun e => ht (by rw [hod, e])
            simp [Act.put, Array.getD_eq_getD_getElem?, Array.getElem?_setIfInBounds_ne this]
        refine ⟨by simp [inv.lsize], fun j oj hj hlj e he hb => ?_, inv.le.trans hle, ?_, ?_, fun t ht => ?_, fun k ok d hk hdk hlk => ?_⟩
        · by_cases hji : j = i
          · subst hji
            rw [ho] at hj
            obtain rfl := Option.some.inj hj
            exact getD_set_true (hdeps e he hb)
          · exact getD_set_true (inv.closed j oj hj (set_get j hlj hji) e he hb)
        · cases hod : o.dst <;> simp [Act.put, inv.size]
        · cases hod : o.dst <;> simp [Act.put, inv.defers]
        · have hne : o.dst ≠ some t := fun e => by
            have := ht i o ho e
            simp [Array.getD_eq_getD_getElem?, hlt'] at this
          rw [hput t hne]
          refine inv.old t fun k ok hk hdk => ?_
          have := ht k ok hk hdk
          by_cases hki : i = k
          · subst hki; exact hul
          · rwa [getD_set_ne false hki] at this
        · by_cases hki : k = i
          · subst hki
            rw [ho] at hk
            obtain rfl := Option.some.inj hk
            have hdn : d < a.tmps.size := by rw [inv.size]; exact dlt k o d ho hdk
            have : (a.put o.dst v).tmps.getD d undef = v := by rw [hdk]; simp [Act.put, hdn]
            rw [this]
            exact hv d hdk
          · have hne : o.dst ≠ some d := fun e => hki (dne k i ok o d hk ho hdk e)
            rw [hput d hne]
            exact stab k _ _ _ hle (inv.new k ok d hk hdk (set_get k hlk hki))
      have hsub' : ∀ k, (listed.setIfInBounds i true).getD k false = true → k < m := fun k hk => by
        by_cases hki : k = i
        · omega
        · exact hsub k (set_get k hk hki)
      have hfree : ∀ t, freeAt ops i t = true → a.tmps.getD t undef = a₀.tmps.getD t undef := fun t ht => inv.old t fun k ok hk hdk => by
        have hk' : k < ops.size := (Array.getElem?_eq_some_iff.1 hk).1
        have h1 := List.all_eq_true.1 ht k (List.mem_range.2 hk')
        simp only [hk, Option.bind_some, hdk] at h1
        cases hlk : listed.getD k false with
        | false => rfl
        | true =>
          exfalso
          have hbt : Nat.beq t t = true := by simp
          simp only [hbt, Bool.not_true, Bool.false_or, Bool.or_eq_true] at h1
          rcases h1 with h1 | h1
          · have := Nat.eq_of_beq_eq_true h1
            subst this
            rw [hul] at hlk; cases hlk
          · have := reach_listed inv.closed _ _ _ h1 hlk
            rw [hul] at this; cases this
      have hgive := hop i o him' ho a w inv.le inv.size inv.defers hfree fun e he hb oe d hoe hde => inv.new e.on oe d hoe hde (hdeps e he hb)
      unfold wpOp
      simp only [ho]
      split
      · rename_i hw
        exact .inl (wp_of_gives (hgive.1 hw) fun v w' hle hr => ih _ _ _ (next v w' hle fun _ _ => hr) hsub' hcount)
      · rename_i hw
        exact ih _ _ _ (next undef w (Le.refl _) fun _ _ => hgive.2 (by simpa using hw)) hsub' hcount
  refine wp_region_any hm (key _ _ _ _ ⟨by simp, fun j o _ hl => ?_, Le.drew W, hs, hd, fun t _ => rfl, fun k o d _ _ hl => ?_⟩ (fun i hl => ?_) ?_)
  · rw [rep_false] at hl; cases hl
  · rw [rep_false] at hl; cases hl
  · rw [rep_false] at hl; cases hl
  · exact Nat.le_trans (List.length_filter_le _ _) (by simp)
end
theorem C_drawT {P : Program} {l : List Oper} {n id : Nat} {s : AL} {Q : Exit → Act → World → Prop} {w : World} (m : Nat) (R : List RP) (hm : P.follows .mixedOrders = true)
    (hE : edgesOk l.toArray = true) (hD : dstsOk l.toArray n = true) (hT : tailOk l.toArray m = true) (hst : StabAll R) (hop : RAll P l.toArray w n s R 0 (l.take m))
    (hend : ∀ (a : Act) (w' : World), Le w w' → Fr n (s.filter fun p => untouched (l.take m) p.1) a → FinAll l.toArray R w' a 0 (l.take m) → wpList P l.toArray Q (l.drop m) a w') : okC P (.region id l.toArray true) n s Q w := fun a₀ ha => by
  refine region_rel2 (n := n) m (getR R) hm hT hE hD ha.size ha.defers (fun i => StabAll.get R i hst) (fun j o hjm ho a w' hl hs hd hfree hdeps => ?_) fun a w' hl hs hd hold hnew => ?_
  · have h1 := RAll.get (l.take m) 0 hop j o (by rw [List.getElem?_take, if_pos hjm]; simpa using ho)
    rw [Nat.zero_add] at h1
    refine h1 a w' hl ⟨hs, hd, fun t v ht => ?_⟩ (DepAll.mk _ fun e he hb oe d hoe hde => hdeps e (by simpa using he) hb oe d hoe hde)
    obtain ⟨h2, h3⟩ := look_filter ht
    rw [hfree t h2]
    exact ha.has t v h3
  · have key : ∀ (l' : List Oper) (j : Nat), (∀ i, i < l'.length → l'[i]? = l[j + i]? ∧ j + i < m) → FinAll l.toArray R w' a j l' := by
      intro l'
      induction l' with
      | nil => exact fun _ _ => trivial
      | cons o r ih =>
        intro j hj
        refine ⟨?_, ih (j + 1) fun i hi => ?_⟩
        · have h0 := hj 0 (by simp)
          cases hd : o.dst with
          | none => trivial
          | some d => exact hnew j o d (by omega) (by have := h0.1; simp at this; simpa using this.symm) hd
        · have := hj (i + 1) (by simpa using hi)
          simp only [List.getElem?_cons_succ] at this
          rw [show j + 1 + i = j + (i + 1) by omega]; exact this
    refine hend a w' hl ⟨hs, hd, fun t v ht => ?_⟩ (key _ _ fun i hi => ?_)
    · obtain ⟨h1, h2⟩ := look_filter ht
      rw [hold t fun k o hkm hk hdk => ?_]
      · exact ha.has t v h2
      · have hk' : (l.take m)[k]? = some o := by rw [List.getElem?_take, if_pos hkm]; simpa using hk
        have := List.all_eq_true.1 h1 o (List.mem_of_getElem? hk')
        rw [hdk] at this
        simp at this
    · have him : i < m := by simp at hi; omega
      rw [Nat.zero_add]
      exact ⟨by rw [List.getElem?_take, if_pos him], him⟩
end Go.Lm

/- Further steps of walks over what is owned. General: no program in sight. -/
namespace Go.Lm
open Go Go.RowKit
theorem graft_le_mono {g w w1 w2 : World} (s : Sees g w) (l1 : Le w w1) (l2 : Le w1 w2) : Mono (graft g w w1) (graft g w w2) := fun a v hv => by
  by_cases ha : a.block < w.heap.size
  · rw [graft_old s l1.size a ha] at hv
    rw [graft_old s (l1.trans l2).size a ha]; exact hv
  · rw [graft_new a (by omega)] at hv
    rw [graft_new a (by omega)]; exact l2.mono' a v hv
theorem stab_is {g w : World} {α : Type} [GoRep α] {x : α} (s : Sees g w) : Stab fun w1 v => Is (graft g w w1) v x := fun w1 w2 v l h => by
  refine h.mono fun a u hu => ?_
  by_cases ha : a.block < w.heap.size
  · unfold World.cell? graft at hu ⊢
    have hlt1 : ∀ q : World, a.block < q.heap.size ↔ a.block < q.heap.size := fun _ => Iff.rfl
    by_cases h1 : a.block < w1.heap.size
    · have h2 : a.block < w2.heap.size := Nat.lt_of_lt_of_le h1 l.size
      simp only [Array.getElem?_ofFn, h1, h2, dif_pos, ha, if_true] at hu ⊢
      exact hu
    · simp only [Array.getElem?_ofFn, h1, dif_neg, not_false_iff] at hu
      cases hu
  · rw [graft_new a (by omega)] at hu
    rw [graft_new a (by omega)]; exact l.mono' a u hu
theorem graft_in {g w w1 w2 : World} (s : Sees g w) (l1 : Le w w1) (l2 : Le w1 w2) : Mono (graft g w1 w2) (graft g w w2) := fun a v hv => by
  by_cases ha : a.block < w.heap.size
  · rw [graft_old (s.le l1) l2.size a (Nat.lt_of_lt_of_le ha l1.size)] at hv
    rw [graft_old s (l1.trans l2).size a ha]; exact hv
  · by_cases hb : a.block < w1.heap.size
    · rw [graft_old (s.le l1) l2.size a hb] at hv
      have := World.block_lt_of_cell? g a hv
      have := s.size
      omega
    · rw [graft_new a (by omega)] at hv
      rw [graft_new a (by omega)]; exact hv
theorem res_cell_tmp {P : Program} {n : Nat} {s : AL} {w : World} {fn : Func} {t u : Tmp} {ty : TypeId} {p v x : Value} (h : fn.results = #[.cell t ty, .tmp u]) (hl : look s t = some p) (hr : (Instr.loadAt ty p).run P w = .ok v w) (hu : look s u = some x) (a : Act) (ha : Fr n s a) :
    (results fn a.tmps).run P w = .ok (.tuple #[v, x]) w := by
  have h1 := ha.has t p hl
  have h3 := ha.has u x hu
  cases p with
  | pointer q =>
    cases q with
    | none => simp [Instr.loadAt, Instr.sureAddr, go_sem] at hr
    | some q =>
      have hr' : (loadVar ty q).run P w = .ok v w := by simpa [Instr.loadAt, Instr.sureAddr] using hr
      have h2 : a.tmps[t]?.getD undef = .pointer (some q) := by rw [← h1]; simp [Array.getD_eq_getD_getElem?]
      have h4 : a.tmps[u]?.getD undef = x := by rw [← h3]; simp [Array.getD_eq_getD_getElem?]
      simp [results, h, h2, h4, hr', asAddr]
  | _ => simp [Instr.loadAt, Instr.sureAddr, go_sem] at hr
section
variable {P : Program}
theorem X_len_nilmap {ρ : Operand → Value} {w : World} {o : Oper} {x : Operand} {t k e : TypeId} (ho : o.op = .call { callee := .builtin .len, args := #[x], argTypes := #[t] }) (ht : P.underlying t = some (.map k e)) (hx : ρ x = .map none) :
    (execOp ρ o).run P w = .ok (.value (.int .i64 0)) w := by
  simp [execOp, ho, resolve, invoke, builtin, hx, Maps.len_nil ht]
end
end Go.Lm

/- Maps that can be read (nil ones too), and the loop over one that does not turn. General: no program in sight. -/
namespace Go.Lm
open Go Go.RowKit Go.Maps Go.ChangeMaps
open Go.WideElems (Fit rd rg pl rd_key rd_val rg_of)
open Go.WideShapes (sorted_perm)
open Go.MapKept
section
variable {κ : Type} [MKey κ] {P : Program} {k : TypeId}
/-- A map, nil or not: its block's entries ('ob'), and what it reads as. -/
def MapO (P : Program) (k : TypeId) (w : World) (v : Value) (ob : Array MapEntry × Nat) (m : List (κ × Value)) : Prop :=
  (v = .map none ∧ m = []) ∨ ∃ b, v = .map (some b) ∧ w.heap[b]? = some (.map ob.1 ob.2) ∧ MapRep P k ob.1 ob.2 m
def MapV (P : Program) (k : TypeId) (w : World) (v : Value) (m : List (κ × Value)) : Prop := ∃ ob, MapO P k w v ob m
variable {w w' : World} {v : Value} {ob : Array MapEntry × Nat} {m : List (κ × Value)}
theorem MapO.le (h : MapO P k w v ob m) (l : Le w w') : MapO P k w' v ob m := by
  rcases h with h | ⟨b, h1, h2, h3⟩
  · exact .inl h
  · exact .inr ⟨b, h1, l.keep h2, h3⟩
theorem MapV.le (h : MapV P k w v m) (l : Le w w') : MapV P k w' v m := by obtain ⟨ob, h⟩ := h; exact ⟨ob, h.le l⟩
theorem MapV.nodup (h : MapV P k w v m) (K : KeyT P k κ) : (m.map (·.1)).Nodup := by
  obtain ⟨ob, h | ⟨b, _, _, h⟩⟩ := h
  · rw [h.2]; simp
  · exact h.nodup K.keyed
theorem MapV.len_le (h : MapV P k w v m) : m.length ≤ maxLen := by
  obtain ⟨ob, h | ⟨b, _, _, h⟩⟩ := h
  · rw [h.2]; simp
  · rw [← h.size]; exact h.fit.size
theorem MapV.len {t e : TypeId} (h : MapV P k w v m) (ht : P.underlying t = some (.map k e)) (ty : TypeId) : (Builtin.len_ #[t] ty #[v]).run P w = .ok (.int .i64 m.length) w := by
  obtain ⟨ob, ⟨rfl, rfl⟩ | ⟨b, rfl, hb, r⟩⟩ := h
  · rw [Maps.len_nil ht]; rfl
  · rw [← r.size]
    simp [Builtin.len_, run_underlying ht, MapKept.run_getObj_map hb, goInt, Result.andThen]
theorem MapV.look (c : Bool) (h : MapV P k w v m) (K : KeyT P k κ) {t e : TypeId} (ht : P.underlying t = some (.map k e)) {z : Value} (hz : (zeroValue e).run P w = .ok z w) (x : κ) (hx : MKey.ok x) :
    (Instr.lookup t v (MKey.val x) c).run P w = .ok (if c then .tuple #[(getK m x).getD z, .bool (getK m x).isSome] else (getK m x).getD z) w := by
  obtain ⟨ob, ⟨rfl, rfl⟩ | ⟨b, rfl, hb, r⟩⟩ := h
  · have := Maps.look_nil c K.keyed ht hz (K.of x hx)
    exact this
  · have hn := r.nodup K.keyed
    rcases fit_look c K.keyed ht hz hb r.fit (K.of x hx) with ⟨hr, hno, _⟩ | ⟨e0, y, he, hke, hr, hy, _⟩
    · have : getK m x = none := getK_none.2 fun p hp e => by
        have h1 : ent p ∈ ob.1.toList.map (rg P k holdV) := r.perm.mem_iff.2 (List.mem_map.2 ⟨p, hp, rfl⟩)
        obtain ⟨q, hq, hqe⟩ := List.mem_map.1 h1
        obtain ⟨kl, hk, hrg⟩ := rg_val r.fit hq
        rw [hrg] at hqe
        have : kl = MKey.lit p.1 := congrArg Prod.fst hqe
        subst this
        rw [e] at hk
        exact hno q hq (K.inv _ _ hk).1
      rw [this]; exact hr
    · have : getK m x = some e0.val := by
        refine getK_of_mem hn ?_
        obtain ⟨kl, hk, hrg⟩ := rg_val r.fit he
        have h1 : rg P k holdV e0 ∈ m.map ent := r.perm.mem_iff.1 (List.mem_map.2 ⟨e0, he, rfl⟩)
        obtain ⟨p, hp, hpe⟩ := List.mem_map.1 h1
        rw [hrg] at hpe
        have h2 : MKey.lit p.1 = kl := congrArg Prod.fst hpe
        have h3 : (DataW.held p.2 : DataW Value) = .held e0.val := congrArg Prod.snd hpe
        rw [hke, K.of x hx] at hk
        have h4 : p.1 = x := MKey.inj _ _ (h2.trans (Option.some.inj hk).symm)
        have h5 : p.2 = e0.val := DataW.held.inj h3
        rw [← h4, ← h5]; exact hp
      rw [this]; exact hr
/-! ### A map of its own, nil or not -/
def mapVA (P : Program) (k : TypeId) (v : Value) (m : List (κ × Value)) : Atom :=
  ⟨fun _ h => (v = .map none ∧ m = []) ∨ ∃ b es clock, v = .map (some b) ∧ h b = some (.map es clock) ∧ MapRep P k es clock m, fun _ s => s⟩
variable {W : Base} {g : World} {l : List Atom}
theorem SL.mapVO (H : SL W g w (mapVA P k v m :: l)) : (v = .map none ∧ m = [] ∧ SL W g w l) ∨ ∃ b, v = .map (some b) ∧ SL W g w (mapA P k b m :: l) := by
  have Hd := H.drop
  obtain ⟨h, be, s, ow, h1, h2, ap, rfl, q, s2⟩ := H
  rcases q with ⟨rfl, rfl⟩ | ⟨b, es, clock, rfl, hb, r⟩
  · exact .inl ⟨rfl, rfl, Hd⟩
  · exact .inr ⟨b, rfl, _, be, s, ow, h1, h2, ap, rfl, ⟨es, clock, hb, r⟩, s2⟩
theorem SL.mapVI {b : Nat} (H : SL W g w (mapA P k b m :: l)) : SL W g w (mapVA P k (.map (some b)) m :: l) :=
  H.weak fun _ ⟨h1, h2, ap, e, ⟨es, clock, hb, r⟩, s2⟩ => ⟨h1, h2, ap, e, .inr ⟨b, es, clock, rfl, hb, r⟩, s2⟩
theorem SL.mapVnil (κ : Type) [MKey κ] (P : Program) (k : TypeId) (H : SL W g w l) : SL W g w (mapVA P k (.map none) ([] : List (κ × Value)) :: l) :=
  H.weak fun h s => ⟨fun _ => none, h, fun _ => .inl rfl, rfl, .inl ⟨rfl, rfl⟩, s⟩
theorem SL.mapR {b : Nat} (H : SL W g w (mapA P k b m :: l)) : MapV P k w (.map (some b)) m := by
  obtain ⟨es, clock, r, H1⟩ := H.mapO
  exact ⟨(es, clock), .inr ⟨b, rfl, H1.has 0, r⟩⟩
theorem SL.mapVR (H : SL W g w (mapVA P k v m :: l)) : MapV P k w v m := by
  rcases H.mapVO with ⟨rfl, rfl, _⟩ | ⟨b, rfl, H1⟩
  · exact ⟨(#[], 0), .inl ⟨rfl, rfl⟩⟩
  · exact H1.mapR
/-! ### The loop -/
def iterA (P : Program) (k : TypeId) (v : Value) (ob : Array MapEntry × Nat) (r : Nat) (left : List (κ × Value)) : Atom :=
  ⟨fun _ h => (v = .map none ∧ left = [] ∧ ∃ a s c, h r = some (.mapIter none a s c)) ∨
    ∃ b since seen c0, v = .map (some b) ∧ h r = some (.mapIter (some b) since seen c0) ∧ (∀ x ∈ ob.1.toList, x.born < since) ∧ since ≤ c0 ∧ since ≤ ob.2 ∧ ((leftOf ob.1 seen).toList.map (rg P k holdV)).Perm (left.map ent), fun _ s => s⟩
theorem run_range {t e : TypeId} (h : MapO P k w v ob m) (ht : P.underlying t = some (.map k e)) :
    ∃ o, (Instr.range t v).run P w = .ok (.pointer (some ⟨w.heap.size, 0, none⟩)) (w.alloc o) ∧ ∀ {W : Base} {g : World} {l : List Atom}, SL W g w l → SL W g (w.alloc o) (iterA P k v ob w.heap.size m :: l) := by
  rcases h with ⟨rfl, rfl⟩ | ⟨b, rfl, hb, r⟩
  · refine ⟨_, run_range_nilMap w t k e ht, fun H => ?_⟩
    exact (H.new (New.mk' w _)).weak fun _ ⟨h1, h2, ap, e, s1, s2⟩ => ⟨h1, h2, ap, e, .inl ⟨rfl, rfl, _, _, _, s1⟩, s2⟩
  · refine ⟨_, run_range_map w t k e b ob.1 ob.2 ht hb, fun H => ?_⟩
    refine (H.new (New.mk' w _)).weak fun _ ⟨h1, h2, ap, e, s1, s2⟩ => ⟨h1, h2, ap, e, .inr ⟨b, ob.2, #[], ob.2, rfl, s1, r.fit.stamped.1, Nat.le_refl _, Nat.le_refl _, ?_⟩, s2⟩
    have : (leftOf ob.1 #[]).toList = ob.1.toList := by simp [leftOf]
    rw [this]; exact r.perm
theorem run_next_nil {w : World} {r a c : Nat} {s : Array Nat} (ty : TypeId) (hr : w.heap[r]? = some (.mapIter none a s c)) : (Instr.next (.pointer (some ⟨r, 0, none⟩)) false ty).run P w = .ok (.tuple #[.bool false]) w := by
  simp only [Instr.next, getObj, Sem.run_bind, Sem.run, hr, Result.andThen]
  rfl
/-- One step of the loop: its end, or one more entry (whichever). -/
theorem SL.iterNext {r : Nat} {left : List (κ × Value)} (H : SL W g w (iterA P k v ob r left :: l)) (hm : MapO P k w v ob m) (K : KeyT P k κ) (ty : TypeId) :
    (left = [] ∧ (Instr.next (.pointer (some ⟨r, 0, none⟩)) false ty).run P w = .ok (.tuple #[.bool false]) w) ∨
    ∃ x y left' w', left.Perm ((x, y) :: left') ∧ MKey.ok x ∧ (x, y) ∈ m ∧ (Instr.next (.pointer (some ⟨r, 0, none⟩)) false ty).run P w = .ok (.tuple #[.bool true, MKey.val x, y]) w' ∧
      (Instr.entry (.pointer (some ⟨r, 0, none⟩))).run P w' = .ok (.tuple #[MKey.val x, y]) w' ∧ SL W g w' (iterA P k v ob r left' :: l) ∧ (∀ b o, b ≠ r → w.heap[b]? = some o → w'.heap[b]? = some o) := by
  obtain ⟨h, be, s, ow, h1, h2, ap, rfl, q, s2⟩ := H
  rcases q with ⟨rfl, rfl, a, sn, c, hr⟩ | ⟨b, since, seen, c0, rfl, hr, hold, hsc, hsk, hleft⟩
  · exact .inl ⟨rfl, run_next_nil ty (ow r _ (Hp.join_left hr)).2.1⟩
  obtain ⟨hW, hrw, hrn⟩ := ow r _ (Hp.join_left hr)
  rcases hm with ⟨hm, _⟩ | ⟨b', hm, hbw, rep⟩
  · cases hm
  have : b = b' := by cases hm; rfl
  subst this
  have hne : r ≠ b := fun e => by rw [e, hbw] at hrw; cases hrw
  obtain ⟨es, clock⟩ := ob
  simp only at hbw rep hold hsk hleft
  rcases run_next_at (P := P) w ty r b since c0 seen es clock hrw hbw hold hsc with ⟨h0, hrun⟩ | ⟨e, he, w1, hal, hrun⟩
  · refine .inl ⟨?_, hrun⟩
    have : (leftOf es seen).toList = [] := by
      apply List.eq_nil_of_length_eq_zero; simpa using h0
    rw [this] at hleft
    have := hleft.length_eq
    simp at this
    exact List.eq_nil_of_length_eq_zero this.symm
  · right
    obtain ⟨hem, hes⟩ := mem_left he
    obtain ⟨kl, hk, hrg⟩ := rg_val rep.fit hem
    have hin : rg P k holdV e ∈ left.map ent := hleft.mem_iff.1 (List.mem_map.2 ⟨e, he, rfl⟩)
    have hin2 : rg P k holdV e ∈ m.map ent := rep.perm.mem_iff.1 (List.mem_map.2 ⟨e, hem, rfl⟩)
    obtain ⟨p, hp, hpe⟩ := List.mem_map.1 hin
    rw [hrg] at hpe
    have e1 : MKey.lit p.1 = kl := congrArg Prod.fst hpe
    have e2 : (DataW.held p.2 : DataW Value) = .held e.val := congrArg Prod.snd hpe
    subst e1
    have e3 : p.2 = e.val := DataW.held.inj e2
    obtain ⟨hkv, hok⟩ := K.inv _ _ hk
    obtain ⟨a, c, hac⟩ := List.append_of_mem hp
    have hwl : Le w w1 := by rcases hal with rfl | rfl; exact Le.refl _; exact Le.drew _
    have hr1 : w1.heap[r]? = some (.mapIter (some b) since seen c0) := hwl.keep hrw
    have hb1 : w1.heap[b]? = some (.map es clock) := hwl.keep hbw
    have u : UpdO w1 r (.mapIter (some b) since (seen.push e.born) clock) (setBlock w1 r (.mapIter (some b) since (seen.push e.born) clock)) := ⟨rfl, at_lt hr1⟩
    have hpe2 : p = (p.1, e.val) := by rw [← e3]
    refine ⟨p.1, e.val, a ++ c, _, ?_, hok, ?_, by rw [hkv] at hrun; exact hrun, ?_, ?_, fun q o hq ho => u.keep hq (hwl.keep ho)⟩
    · rw [hac, ← hpe2]
      exact List.perm_middle
    · obtain ⟨p2, hp2, hpe3⟩ := List.mem_map.1 hin2
      rw [hrg] at hpe3
      have q1 : MKey.lit p2.1 = MKey.lit p.1 := congrArg Prod.fst hpe3
      have q2 : (DataW.held p2.2 : DataW Value) = .held e.val := congrArg Prod.snd hpe3
      have q3 := MKey.inj _ _ q1
      have q4 := DataW.held.inj q2
      rw [← q3, ← q4]; exact hp2
    · rw [← hkv]
      exact run_entry_at _ r b since seen es clock e u.here (u.keep (Ne.symm hne) hb1) hem ((stamped_iff es clock).1 rep.fit.stamped).2.1
    · have hle := SL.le (l := []) (W := W) (g := g) ⟨fun _ => none, be, s, (fun _ _ h => by cases h), trivial⟩ hwl
      refine ⟨Hp.join (fun q => if q = r then some (.mapIter (some b) since (seen.push e.born) clock) else h1 q) h2, u.below hle.below hW, hle.seesA.updO hrn u, fun q o hq => ?_, _, h2, fun q => ?_, rfl,
        .inr ⟨b, since, seen.push e.born, clock, rfl, if_pos rfl, hold, hsk, hsk, ?_⟩, s2⟩
      · by_cases eq : q = r
        · subst eq
          have : o = .mapIter (some b) since (seen.push e.born) clock := by unfold Hp.join at hq; simp at hq; exact hq.symm
          subst this
          exact ⟨hW, u.here, hrn⟩
        · have hq' : (h1.join h2) q = some o := by unfold Hp.join at hq ⊢; simpa [eq] using hq
          obtain ⟨o1, o2, o3⟩ := ow q o hq'
          exact ⟨o1, u.keep eq (hwl.keep o2), o3⟩
      · by_cases eq : q = r
        · subst eq
          rcases ap q with z | z
          · rw [hr] at z; cases z
          · exact .inr z
        · rcases ap q with z | z
          · left; simp [eq, z]
          · exact .inr z
      · have h3 := (left_push rep.fit.stamped he).map (rg P k holdV)
        rw [List.map_cons, hrg] at h3
        have h4 : (left.map ent).Perm (ent p :: (a ++ c).map ent) := by
          rw [hac, List.map_append, List.map_cons, List.map_append]; exact List.perm_middle
        have h5 := (hleft.symm.trans h3).symm.trans h4
        have h6 : ent p = (MKey.lit p.1, .held e.val) := by unfold ent; rw [e3]
        rw [h6] at h5
        exact List.Perm.cons_inv h5
/-! ### As operations -/
theorem X_lookup {ρ : Operand → Value} {o : Oper} {x y : Operand} {t : TypeId} {c : Bool} {mv kv r : Value} (ho : o.op = .lookup t x y c) (hx : ρ x = mv) (hy : ρ y = kv) (h : (Instr.lookup t mv kv c).run P w = .ok r w) :
    (execOp ρ o).run P w = .ok (.value r) w := by
  simp [execOp, ho, hx, hy, h]
theorem X_len_map {ρ : Operand → Value} {o : Oper} {x : Operand} {t e : TypeId} {n : Nat} (h : MapV P k w v m) (hn : m.length = n) (ho : o.op = .call { callee := .builtin .len, args := #[x], argTypes := #[t] }) (ht : P.underlying t = some (.map k e)) (hx : ρ x = v) :
    (execOp ρ o).run P w = .ok (.value (.int .i64 n)) w := by
  simp [execOp, ho, resolve, invoke, builtin, hx, h.len ht, hn]
theorem S_range {n : Nat} {s : AL} {Q : Exit → Act → World → Prop} {ops : Array Oper} {rest : List Oper} {o : Oper} {d : Nat} {t e : TypeId} {x : Operand} (h : MapO P k w v ob m) (ht : P.underlying t = some (.map k e)) (H : SL W g w l)
    (ho : o.op = .range t x) (hx : ev s x = some v) (hw : wants ops s o = some true) (hd : o.dst = some d) (hn : Nat.blt d n = true)
    (k : ∀ r w', Le w w' → (∀ b o, w.heap[b]? = some o → b ≠ r) → SL W g w' (iterA P k v ob r m :: l) → wpR P ops rest n ((d, ptr r 0) :: s) Q w') : wpR P ops (o :: rest) n s Q w := by
  obtain ⟨ob', hr, hs⟩ := run_range h ht
  refine R_val (v := ptr w.heap.size 0) (w' := w.alloc ob') hw (by simp [knows, noSel, ho, Op.operands, hx]) hd hn ?_ (k _ _ (New.mk' w ob').le (fun b o hb => by have := at_lt hb; omega) (hs H))
  simp [execOp, ho, rho, hx, hr]
theorem S_next {n : Nat} {s : AL} {Q : Exit → Act → World → Prop} {ops : Array Oper} {rest : List Oper} {o : Oper} {d r : Nat} {x : Operand} {left : List (κ × Value)} (H : SL W g w (iterA P k v ob r left :: l)) (hm : MapO P k w v ob m) (K : KeyT P k κ)
    (ho : o.op = .next x false) (hx : ev s x = some (ptr r 0)) (hw : wants ops s o = some true) (hd : o.dst = some d) (hn : Nat.blt d n = true)
    (h0 : left = [] → wpR P ops rest n ((d, .tuple #[.bool false]) :: s) Q w)
    (h1 : ∀ x y left' w', left.Perm ((x, y) :: left') → MKey.ok x → (x, y) ∈ m → (Instr.entry (ptr r 0)).run P w' = .ok (.tuple #[MKey.val x, y]) w' → SL W g w' (iterA P k v ob r left' :: l) → (∀ b o, b ≠ r → w.heap[b]? = some o → w'.heap[b]? = some o) →
      wpR P ops rest n ((d, .tuple #[.bool true, MKey.val x, y]) :: s) Q w') : wpR P ops (o :: rest) n s Q w := by
  rcases H.iterNext hm K o.type with ⟨he, hr⟩ | ⟨a, y, left', w', h2, h3, h4, h5, h6, h7, h8⟩
  · exact R_val (v := .tuple #[.bool false]) (w' := w) hw (by simp [knows, noSel, ho, Op.operands, hx]) hd hn (by simp [execOp, ho, rho, hx, hr]) (h0 he)
  · exact R_val (v := .tuple #[.bool true, MKey.val a, y]) (w' := w') hw (by simp [knows, noSel, ho, Op.operands, hx]) hd hn (by simp [execOp, ho, rho, hx, h5]) (h1 a y left' w' h2 h3 h4 h6 h7 h8)
theorem X_entry {ρ : Operand → Value} {o : Oper} {x : Operand} {r : Nat} {y : Value} (ho : o.op = .entry x) (hx : ρ x = ptr r 0) (h : (Instr.entry (ptr r 0)).run P w = .ok y w) : (execOp ρ o).run P w = .ok (.value y) w := by
  simp [execOp, ho, hx, h]
theorem X_makeMap {ρ : Operand → Value} {o : Oper} {t : TypeId} (ho : o.op = .makeMap t none) : (execOp ρ o).run P w = .ok (.value (.map (some w.heap.size))) (w.alloc (.map #[] 0)) := by
  simp [execOp, ho, Instr.makeMap, go_sem]
theorem X_mapUpdate {ρ : Operand → Value} {o : Oper} {x y z : Operand} {t : TypeId} {mv kv vv : Value} {w' : World} (ho : o.op = .mapUpdate t x y z) (hx : ρ x = mv) (hy : ρ y = kv) (hz : ρ z = vv) (h : (Instr.mapUpdate t mv kv vv).run P w = .ok () w') :
    (execOp ρ o).run P w = .ok .skip w' := by
  simp [execOp, ho, hx, hy, hz, h]
theorem X_delete {ρ : Operand → Value} {o : Oper} {x y : Operand} {t k : TypeId} {mv kv : Value} {w' : World} (ho : o.op = .call { callee := .builtin .delete, args := #[x, y], argTypes := #[t, k] }) (hx : ρ x = mv) (hy : ρ y = kv) (h : (Builtin.delete_ #[t, k] o.type #[mv, kv]).run P w = .ok (.tuple #[]) w') :
    (execOp ρ o).run P w = .ok (.value (.tuple #[])) w' := by
  simp [execOp, ho, resolve, invoke, builtin, hx, hy, h]
end
end Go.Lm

/- 'm[k] = v' in two steps: the entry, and what is laid into it. General: no program in sight. -/
namespace Go.Lm
open Go Go.RowKit Go.Maps Go.ChangeMaps
open Go.WideElems (Fit rd rg pl rd_key rd_val rg_of)
open Go.WideShapes (sorted_perm)
open Go.MapKept
section
variable {κ : Type} [MKey κ] {P : Program} {k : TypeId} {W : Base} {g w : World} {l : List Atom} {m : List (κ × Value)} {b : Nat}
/-- Blocks of cells stand. -/
def KeepsB (w w' : World) : Prop := ∀ (b : Nat) (cs : Array Value) (t : TypeId), Blk w b cs t → Blk w' b cs t
theorem keeps_set {es : Array MapEntry} {c : Nat} {o : Obj} (h : w.heap[b]? = some (.map es c)) : KeepsB w (setBlock w b o) := fun k cs t hk => by
  have hne : b ≠ k := fun e => by
    subst e
    unfold Blk at hk
    rw [h] at hk; cases hk
  unfold Blk at *
  simp only [setBlock]
  rw [Array.getElem?_setIfInBounds_ne hne]; exact hk
/-- A map, of which the entry of key x bears stamp st. -/
def mapSA (P : Program) (k : TypeId) (b : Nat) (m : List (κ × Value)) (x : κ) (st : Nat) : Atom :=
  ⟨fun _ h => ∃ es clock, h b = some (.map es clock) ∧ MapRep P k es clock m ∧ ∃ e ∈ es.toList, e.key = MKey.val x ∧ e.born = st, fun _ s => s⟩
theorem run_mapEntry {t e : TypeId} {es : Array MapEntry} {clock : Nat} {key z : Value} {kl : Lit} (K : Keyed P k) (ht : P.underlying t = some (.map k e)) (hz : (zeroValue e).run P w = .ok z w) (hb : w.heap[b]? = some (.map es clock)) (F : Fit P k holdV es clock) (hkey : keyOf P k key = some kl) :
    ∃ (val : Value) (st : Nat) (es' : Array MapEntry) (clock' : Nat), (Instr.mapEntry t (.map (some b)) key).run P w = .ok (.tuple #[val, goInt st]) (setBlock w b (.map es' clock')) ∧ (Instr.mapUpdate t (.map (some b)) key val).run P w = .ok () (setBlock w b (.map es' clock')) ∧ ∃ e ∈ es'.toList, e.key = key ∧ e.born = st := by
  rcases K.find w hkey es.toList F.keys with ⟨h1, h2⟩ | ⟨j, e0, h1, h2, h3⟩
  · refine ⟨z, clock, es.push ⟨key, z, clock⟩, clock + 1, ?_, ?_, ⟨key, z, clock⟩, by simp, rfl, rfl⟩
    · simp [Instr.mapEntry, run_underlying ht, MapKept.run_getObj_map hb, K.check w false hkey, h1, hz, MapKept.run_setObj_map _ hb, Result.andThen, setBlock]
    · simp [Instr.mapUpdate, run_underlying ht, MapKept.run_getObj_map hb, K.check w false hkey, h1, MapKept.run_setObj_map _ hb, Result.andThen, setBlock]
  · have hj : es[j]? = some e0 := by simpa using h2
    have hm : (es.modify j fun e => { e with key := key }) = es.modify j fun e => { e with key := key, val := e0.val } := by
      apply Array.ext_getElem?
      intro i
      rw [Array.getElem?_modify, Array.getElem?_modify]
      by_cases e : j = i
      · subst e; rw [if_pos rfl, if_pos rfl, hj]; rfl
      · rw [if_neg e, if_neg e]
    refine ⟨e0.val, e0.born, es.modify j fun e => { e with key := key, val := e0.val }, clock, ?_, ?_, { e0 with key := key, val := e0.val }, ?_, rfl, rfl⟩
    · simp [Instr.mapEntry, run_underlying ht, MapKept.run_getObj_map hb, K.check w false hkey, h1, hj, h3, K.stays w hkey, MapKept.run_setObj_map _ hb, Result.andThen, setBlock, hm]
    · simp [Instr.mapUpdate, run_underlying ht, MapKept.run_getObj_map hb, K.check w false hkey, h1, hj, h3, K.stays w hkey, MapKept.run_setObj_map _ hb, Result.andThen, setBlock]
    · refine List.mem_of_getElem? (i := j) ?_
      rw [Array.getElem?_toList, Array.getElem?_modify, if_pos rfl, hj]; rfl
theorem SL.mapEntry (H : SL W g w (mapA P k b m :: l)) (K : KeyT P k κ) {t e : TypeId} (ht : P.underlying t = some (.map k e)) {z : Value} (hz : (zeroValue e).run P w = .ok z w) (hlen : m.length < maxLen) (x : κ) (hx : MKey.ok x) :
    ∃ (val : Value) (st : Nat) (w' : World), (Instr.mapEntry t (.map (some b)) (MKey.val x)).run P w = .ok (.tuple #[val, goInt st]) w' ∧ SL W g w' (mapSA P k b (putK m x val) x st :: l) := by
  obtain ⟨es, clock, r, H1⟩ := H.mapO
  have hb := H1.has 0
  obtain ⟨val, st, es', clock', h1, h2, e', he, hk, hs⟩ := run_mapEntry K.keyed ht hz hb r.fit (K.of x hx)
  obtain ⟨w', h3, H3⟩ := H.mapPut K ht hlen x hx val
  rw [h2] at h3
  cases h3
  refine ⟨val, st, _, h1, ?_⟩
  obtain ⟨h, be, s, ow, g1, g2, ap, rfl, ⟨es2, clock2, hb2, r2⟩, s2⟩ := H3
  have hb3 := (ow b _ (Hp.join_left hb2)).2.1
  have hb4 : (setBlock w b (.map es' clock')).heap[b]? = some (.map es' clock') := by simp [setBlock, at_lt hb]
  rw [hb4] at hb3
  cases hb3
  exact ⟨_, be, s, ow, g1, g2, ap, rfl, ⟨es', clock', hb2, r2, e', he, hk, hs⟩, s2⟩
theorem SL.entryStore {x : κ} {st : Nat} {val : Value} (H : SL W g w (mapSA P k b (putK m x val) x st :: l)) (K : KeyT P k κ) (hx : MKey.ok x) (t : TypeId) (v : Value) :
    ∃ w', (Instr.entryStore t (.map (some b)) (goInt st) v).run P w = .ok () w' ∧ SL W g w' (mapA P k b (putK m x v) :: l) ∧ KeepsB w w' := by
  obtain ⟨h, be, s, ow, g1, g2, ap, rfl, ⟨es, clock, hb, r, e, he, hke, hse⟩, s2⟩ := H
  have hbw := (ow b _ (Hp.join_left hb)).2.1
  have hst := (stamped_iff es clock).1 r.fit.stamped
  obtain ⟨j, hj⟩ := List.getElem?_of_mem he
  have hjl : j < es.size := by simpa using (List.getElem?_eq_some_iff.1 hj).1
  have hje : es[j]? = some e := by simpa using hj
  have hf : es.findIdx? (fun e => (e.born : Int) == (st : Int)) = some j := by
    rw [Array.findIdx?_eq_some_iff_getElem]
    have e1 : es[j] = e := by rw [Array.getElem?_eq_getElem hjl] at hje; exact Option.some.inj hje
    refine ⟨hjl, by rw [e1]; simp [hse], fun i hi => ?_⟩
    have hi' : i < es.size := by omega
    intro hc
    have hb1 : es[i].born = st := Int.ofNat_inj.1 (eq_of_beq hc)
    have h1 := hst.2.1
    have h2 : (es.toList.map (·.born))[i]? = some st := by simp [hi', hb1]
    have h3 : (es.toList.map (·.born))[j]? = some st := by simp [hjl, e1, hse]
    have := (List.getElem?_inj (by simpa using hi') h1).1 (h2.trans h3.symm)
    omega
  let es' := es.modify j fun e => { e with val := v }
  have hrun : (Instr.entryStore t (.map (some b)) (goInt st) v).run P w = .ok () (setBlock w b (.map es' clock)) := by
    simp [Instr.entryStore, MapKept.run_getObj_map hbw, goInt, asInt, asIntOf, hf, MapKept.run_setObj_map _ hbw, Result.andThen, setBlock, es']
  refine ⟨_, hrun, ?_, keeps_set hbw⟩
  have hlist : es'.toList = es.toList.set j { e with val := v } := by
    apply List.ext_getElem?
    intro i
    rw [Array.getElem?_toList, Array.getElem?_modify, List.getElem?_set]
    by_cases q : j = i
    · subst q; rw [if_pos rfl, if_pos rfl, hje]; simp [hjl]
    · rw [if_neg q, if_neg q, Array.getElem?_toList]
  obtain ⟨kl, hk, hrg⟩ := rg_val r.fit he
  have hkl : kl = MKey.lit x := by rw [hke, K.of x hx] at hk; exact (Option.some.inj hk).symm
  have F' : Fit P k holdV es' clock := by
    refine ⟨by simpa [es'] using r.fit.size, stamped_modify r.fit.stamped _ _ (fun _ _ => rfl) (fun _ _ _ => rfl), fun y hy => ?_⟩
    rw [hlist] at hy
    rcases List.mem_or_eq_of_mem_set hy with hy | rfl
    · exact r.fit.reads y hy
    · exact ⟨(kl, .held v), by
        exact Go.WideElems.rd_mk (R := holdV) (born := e.born) hk (show holdV v = some (.held v, []) from rfl)⟩
  have H1 : SL W g w (obj b (.map es clock) :: l) := ⟨_, be, s, ow, g1, g2, ap, rfl, hb, s2⟩
  refine (H1.updO0 ⟨rfl, at_lt hbw⟩).mapI ⟨F', ?_⟩
  -- the readings: only the one entry's element turns
  have hrg' : rg P k holdV { e with val := v } = (MKey.lit x, .held v) := by
    obtain ⟨kl2, hk2, hrg2⟩ := rg_val F' (x := { e with val := v }) (by rw [hlist]; exact List.mem_iff_getElem.2 ⟨j, by simpa using hjl, by simp⟩)
    rw [hrg2]
    have : kl2 = kl := by
      have h1 : keyOf P k e.key = some kl2 := hk2
      rw [h1] at hk; exact Option.some.inj hk
    rw [this, hkl]
  have hap := Maps.fit_apart K.keyed r.fit
  have hset : ∀ (L : List MapEntry) (j : Nat), L[j]? = some e → (L.set j { e with val := v }).Perm ({ e with val := v } :: L.eraseIdx j) := by
    intro L
    induction L with
    | nil => intro j h; simp at h
    | cons y L ih =>
      intro j h
      cases j with
      | zero => simp
      | succ j => simp only [List.set_cons_succ, List.eraseIdx_cons_succ]; exact (List.Perm.cons y (ih j (by simpa using h))).trans (List.Perm.swap _ _ _)
  have hset2 : ∀ (L : List MapEntry) (j : Nat), L[j]? = some e → L.Perm (e :: L.eraseIdx j) := by
    intro L
    induction L with
    | nil => intro j h; simp at h
    | cons y L ih =>
      intro j h
      cases j with
      | zero => simp at h; subst h; simp
      | succ j => simp only [List.eraseIdx_cons_succ]; exact (List.Perm.cons y (ih j (by simpa using h))).trans (List.Perm.swap _ _ _)
  have p1 := (hset es.toList j hj).map (rg P k holdV)
  have p2 := (hset2 es.toList j hj).map (rg P k holdV)
  rw [List.map_cons, hrg'] at p1
  rw [List.map_cons, hrg, hkl] at p2
  have p3 : ((MKey.lit x, DataW.held e.val) :: (es.toList.eraseIdx j).map (rg P k holdV)).Perm (ent (x, val) :: (delK m x).map ent) := p2.symm.trans r.perm
  -- the entry of key x is the one
  have hmem : (MKey.lit x, (DataW.held e.val : DataW Value)) ∈ ent (x, val) :: (delK m x).map ent := p3.mem_iff.1 (by simp)
  have hval : ent (x, val) = (MKey.lit x, (DataW.held e.val : DataW Value)) := by
    rcases List.mem_cons.1 hmem with h | h
    · exact h.symm
    · obtain ⟨q, hq, hqe⟩ := List.mem_map.1 h
      have h1 : MKey.lit q.1 = MKey.lit x := congrArg Prod.fst hqe
      have h2 := MKey.inj _ _ h1
      unfold delK at hq
      have := (List.mem_filter.1 hq).2
      simp [h2] at this
  rw [hval] at p3
  have p4 := List.Perm.cons_inv p3
  rw [hlist]
  refine p1.trans ?_
  unfold putK
  rw [List.map_cons]
  exact List.Perm.cons _ p4
end
end Go.Lm

/- A region whose order is open: what only reads what stands fast may float; the rest keeps its order. General: no program in sight. -/
namespace Go.Lm
open Go Go.RowKit

def Only (K : Act → World → Prop) : Exit → Act → World → Prop := fun e a w => e = .normal ∧ K a w
/-- A list of operations, in its order; Φ holds ahead of each. -/
def wpListF (P : Program) (ops : Array Oper) (Q : Exit → Act → World → Prop) (e : Bool) (Φ : World → Prop) : List Oper → Act → World → Prop
  | [], a, w => ((e = true ∨ Φ w) ∧ a.defers = []) ∧ Q .normal a w
  | o :: rest, a, w => (Φ w ∧ a.defers = []) ∧ wpList P ops (Only (wpListF P ops Q e Φ rest)) [o] a w
theorem wpListF_head {P : Program} {ops : Array Oper} {Q : Exit → Act → World → Prop} {e : Bool} {Φ : World → Prop} {l : List Oper} {a : Act} {w : World} (h : wpListF P ops Q e Φ l a w) : ((e = true ∧ l = []) ∨ Φ w) ∧ a.defers = [] := by
  cases l with
  | nil => exact ⟨h.1.1.imp (fun h => ⟨h, rfl⟩) id, h.1.2⟩
  | cons o l => exact ⟨.inr h.1.1, h.1.2⟩
def wpRF (P : Program) (ops : Array Oper) (e : Bool) (Φ : World → Prop) (rest : List Oper) (n : Nat) (s : AL) (Q : Exit → Act → World → Prop) (w : World) : Prop := ∀ a, Fr n s a → wpListF P ops Q e Φ rest a w
section
variable {P : Program} {ops : Array Oper} {rest : List Oper} {o : Oper} {n : Nat} {s : AL} {Q : Exit → Act → World → Prop} {w : World} {e : Bool} {Φ : World → Prop}
theorem F_nil (h : e = true ∨ Φ w) (k : okE .normal n s Q w) : wpRF P ops e Φ [] n s Q w := fun a ha => ⟨⟨h, ha.defers⟩, k a ha⟩
theorem F_step (h : Φ w) (k : wpR P ops [o] n s (Only (wpListF P ops Q e Φ rest)) w) : wpRF P ops e Φ (o :: rest) n s Q w := fun a ha => ⟨⟨h, ha.defers⟩, k a ha⟩
theorem F_next (h : wpRF P ops e Φ rest n s Q w) : okE .normal n s (Only (wpListF P ops Q e Φ rest)) w := fun a ha => ⟨rfl, h a ha⟩

def fill (fl : AL) (a : Act) : Act := { a with tmps := a.tmps.mapIdx fun t x => (look fl t).getD x }
theorem fill_get (fl : AL) (a : Act) (t : Nat) : (fill fl a).tmps[t]? = a.tmps[t]?.map fun x => (look fl t).getD x := by simp [fill]
theorem fill_size (fl : AL) (a : Act) : (fill fl a).tmps.size = a.tmps.size := by simp [fill]
theorem fill_same {fl : AL} {a : Act} {t : Nat} (h : ∀ v, look fl t = some v → a.tmps.getD t undef = v) : (fill fl a).tmps[t]? = a.tmps[t]? := by
  rw [fill_get]
  cases ha : a.tmps[t]? with
  | none => rfl
  | some x =>
    cases hl : look fl t with
    | none => rfl
    | some v =>
      have := h v hl
      rw [Array.getD_eq_getD_getElem?, ha] at this
      simp at this
      simp [this]
theorem Act.ext' {a b : Act} (h1 : ∀ t : Nat, a.tmps[t]? = b.tmps[t]?) (h2 : a.defers = b.defers) : a = b := by
  cases a; cases b
  simp only at h1 h2
  subst h2
  congr 1
  exact Array.ext_getElem? h1
theorem fill_put {fl : AL} {a : Act} {d : Nat} {v : Value} (h : look fl d = none) : fill fl (a.put (some d) v) = (fill fl a).put (some d) v := by
  refine Act.ext' (fun t => ?_) rfl
  rw [fill_get]
  simp only [Act.put, Array.getElem?_setIfInBounds, fill_size]
  by_cases e : d = t
  · subst e
    simp only [if_true]
    split <;> simp [h]
  · simp only [e, if_false]
    rw [fill_get]
theorem fill_put_fl {fl : AL} {a : Act} {d : Nat} {v : Value} (h : look fl d = some v) : fill fl (a.put (some d) v) = fill fl a := by
  refine Act.ext' (fun t => ?_) rfl
  rw [fill_get, fill_get]
  simp only [Act.put, Array.getElem?_setIfInBounds]
  by_cases e : d = t
  · subst e
    simp only [if_true, h, Option.getD_some]
    by_cases hs : d < a.tmps.size
    · simp [hs]
    · simp [hs]
  · simp only [e, if_false]
theorem upon_fill {fl : AL} {a : Act} {K K' : Act → World → Prop} (hd : ∀ d, o.dst = some d → look fl d = none) (hK : ∀ a' w', K (fill fl a') w' → K' a' w') :
    ∀ r : Result Next, o.upon P (fill fl a) (fun a w => K a w) (Only K) r → o.upon P a K' Q r := fun r h => by
  have hp : ∀ v, (fill fl a).put o.dst v = fill fl (a.put o.dst v) := fun v => by
    cases hq : o.dst with
    | none => rfl
    | some d => rw [fill_put (hd d hq)]
  have hpd : ∀ (b : Act) v, (fill fl b).put o.dst v = fill fl (b.put o.dst v) := fun b v => by
    cases hq : o.dst with
    | none => rfl
    | some d => rw [fill_put (hd d hq)]
  cases r with
  | ok x w' =>
    cases x with
    | value v => simp only [Oper.upon] at h ⊢; rw [hp] at h; exact hK _ _ h
    | skip => simp only [Oper.upon] at h ⊢; rw [hp] at h; exact hK _ _ h
    | defer d =>
      simp only [Oper.upon] at h ⊢
      have e : ({ fill fl a with defers := d :: (fill fl a).defers } : Act) = fill fl { a with defers := d :: a.defers } := rfl
      rw [e, hpd] at h
      exact hK _ _ h
    | enter f args =>
      simp only [Oper.upon] at h ⊢
      refine Calls.mono h fun e w'' he => ?_
      cases e with
      | returned v => simp only at he ⊢; rw [hp] at he; exact hK _ _ he
      | panicked c => exact absurd he.1 (by simp)
      | outgrown => obtain ⟨_, _, he, _⟩ := he; cases he
    | row q args =>
      simp only [Oper.upon] at h ⊢
      refine Rows.mono h fun v w'' he => ?_
      rw [hp] at he; exact hK _ _ he
    | _ => exact absurd h (by simp [Oper.upon])
  | halt x w' =>
    cases x <;> simp only [Oper.upon] at h
    exact absurd h.1 (by simp)

theorem upon_mono2 {a : Act} {K K' : Act → World → Prop} {K0 : Act → World → Prop} (hK : ∀ a' w', K a' w' → K' a' w') : ∀ {r : Result Next}, o.upon P a K (Only K0) r → o.upon P a K' (Only K0) r := fun {r} h => by
  cases r with
  | ok x w' =>
    cases x with
    | value v => exact hK _ _ h
    | skip => exact hK _ _ h
    | defer d => exact hK _ _ h
    | enter f args =>
      simp only [Oper.upon] at h ⊢
      refine Calls.mono h fun e w'' he => ?_
      cases e with
      | returned v => exact hK _ _ he
      | panicked c => exact he
      | outgrown => exact he
    | row q args =>
      simp only [Oper.upon] at h ⊢
      exact Rows.mono h fun v w'' he => hK _ _ he
    | _ => exact absurd h (by simp [Oper.upon])
  | halt x w' =>
    cases x <;> simp only [Oper.upon] at h ⊢
    exact h
def noDefer (o : Oper) : Bool := match o.op with | .defer .. => false | _ => true
theorem upon_fill2 {fl : AL} {a : Act} {K K' : Act → World → Prop} (hd : ∀ d, o.dst = some d → look fl d = none) (hK : ∀ (a' : Act) (v : Value) (w' : World), a'.defers = a.defers → a'.tmps = a.tmps → K (fill fl (a'.put o.dst v)) w' → K' (a'.put o.dst v) w') :
    ∀ r : Result Next, (∀ a w, K a w → a.defers = []) → o.upon P (fill fl a) (fun a w => K a w) (Only K) r → o.upon P a K' Q r := fun r hnd h => by
  have hp : ∀ v, (fill fl a).put o.dst v = fill fl (a.put o.dst v) := fun v => by
    cases hq : o.dst with
    | none => rfl
    | some d => rw [fill_put (hd d hq)]
  cases r with
  | ok x w' =>
    cases x with
    | value v => simp only [Oper.upon] at h ⊢; rw [hp] at h; exact hK a v _ rfl rfl h
    | skip => simp only [Oper.upon] at h ⊢; rw [hp] at h; exact hK a _ _ rfl rfl h
    | defer d =>
      simp only [Oper.upon] at h
      have := hnd _ _ h
      cases hq : o.dst <;> rw [hq] at this <;> simp [Act.put] at this
    | enter f args =>
      simp only [Oper.upon] at h ⊢
      refine Calls.mono h fun e w'' he => ?_
      cases e with
      | returned v => simp only at he ⊢; rw [hp] at he; exact hK a v _ rfl rfl he
      | panicked c => exact absurd he.1 (by simp)
      | outgrown => obtain ⟨_, _, he, _⟩ := he; cases he
    | row q args =>
      simp only [Oper.upon] at h ⊢
      refine Rows.mono h fun v w'' he => ?_
      rw [hp] at he; exact hK a v _ rfl rfl he
    | _ => exact absurd h (by simp [Oper.upon])
  | halt x w' =>
    cases x <;> simp only [Oper.upon] at h
    exact absurd h.1 (by simp)

/-- Which operation floats, and what it yields. -/
abbrev flAt (fl : List (Option Value)) (i : Nat) : Option Value := (fl[i]?).getD none
def fils : List Oper → List (Option Value) → AL
  | o :: l, some v :: fl => match o.dst with | some d => (d, v) :: fils l fl | none => fils l fl
  | _ :: l, none :: fl => fils l fl
  | _, _ => []
def isFl (fl : List (Option Value)) (i : Nat) : Bool := (flAt fl i).isSome
def slotsOf (ops : Array Oper) (o : Oper) : List Nat := (o.op.operands.toList.filterMap fun x => match x with | .tmp t => some t | _ => none) ++ (match o.guard with | some (g, _) => (match (ops[g]?).bind (·.dst) with | some d => [d] | none => []) | none => [])
/-- Floats wait for floats alone, and yield something; what reads what a float yields waits for it; the others keep their order. -/
def floatsOk (ops : Array Oper) (fl : List (Option Value)) : Bool := (List.range ops.size).all fun i => match ops[i]? with
  | none => true
  | some o => if isFl fl i then o.dst.isSome && o.after.all (fun e => !Region.binds .any e || isFl fl e.on)
    else (List.range i).all (fun k => isFl fl k || reach ops ops.size i k) && (List.range ops.size).all fun k => !isFl fl k || match (ops[k]?).bind (·.dst) with
      | none => true
      | some d => !(slotsOf ops o).contains d || reach ops ops.size i k
/-- The last that keeps its order waits for all others. -/
def lastOk (ops : Array Oper) (fl : List (Option Value)) : Bool := (List.range ops.size).all fun i => isFl fl i || (List.range ops.size).any (fun k => Nat.blt i k && !isFl fl k) || (List.range ops.size).all fun k => Nat.beq k i || reach ops ops.size i k
def exactR (fl : List (Option Value)) : List RP := fl.map fun f => match f with | some v => fun _ u => u = v | none => fun _ _ => True
def FStep (P : Program) (ops : Array Oper) (Φ : World → Prop) (n : Nat) (s : AL) (fl : List (Option Value)) (j : Nat) (o : Oper) : Prop := ∀ v, flAt fl j = some v →
  ∀ (a : Act) (w : World), Φ w → Fr n (freeAL ops j s) a → DepAll ops (exactR fl) w a o.after.toList → (Region.wanted o (yielded ops a.tmps) = true → (execOp a.eval o).run P w = .ok (.value v) w) ∧ (Region.wanted o (yielded ops a.tmps) = false → v = undef)
def FAll (P : Program) (ops : Array Oper) (Φ : World → Prop) (n : Nat) (s : AL) (fl : List (Option Value)) : Nat → List Oper → Prop
  | _, [] => True
  | j, o :: r => FStep P ops Φ n s fl j o ∧ FAll P ops Φ n s fl (j + 1) r
theorem FAll.get {fl : List (Option Value)} : ∀ (l : List Oper) (j : Nat), FAll P ops Φ n s fl j l → ∀ i o, l[i]? = some o → FStep P ops Φ n s fl (j + i) o
  | [], _, _, i, o, h => by simp at h
  | x :: r, j, h, 0, o, ho => by
    have : x = o := by simpa using ho
    subst this; exact h.1
  | x :: r, j, h, i + 1, o, ho => by
    have := FAll.get r (j + 1) h.2 i o (by simpa using ho)
    rw [show j + (i + 1) = j + 1 + i from by omega]; exact this
/-- The operations that keep their order, from K on. -/
def keepFrom (ops : Array Oper) (fl : List (Option Value)) (K : Nat) : List Oper := ((List.range ops.size).filter fun i => decide (K ≤ i) && !isFl fl i).filterMap fun i => ops[i]?

theorem look_fils : ∀ {l : List Oper} {fl : List (Option Value)} {t : Nat} {v : Value}, look (fils l fl) t = some v → ∃ (k : Nat) (o : Oper), l[k]? = some o ∧ o.dst = some t ∧ flAt fl k = some v
  | [], fl, t, v, h => by cases fl <;> simp [fils, look] at h
  | o :: l, [], t, v, h => by simp [fils, look] at h
  | o :: l, none :: fl, t, v, h => by
    obtain ⟨k, o', h1, h2, h3⟩ := look_fils (l := l) (fl := fl) (by simpa [fils] using h)
    exact ⟨k + 1, o', by simpa using h1, h2, by simpa [flAt] using h3⟩
  | o :: l, some u :: fl, t, v, h => by
    have rest : look (fils l fl) t = some v → ∃ (k : Nat) (o' : Oper), (o :: l)[k]? = some o' ∧ o'.dst = some t ∧ flAt (some u :: fl) k = some v := fun h => by
      obtain ⟨k, o', h1, h2, h3⟩ := look_fils (l := l) (fl := fl) h
      exact ⟨k + 1, o', by simpa using h1, h2, by simpa [flAt] using h3⟩
    simp only [fils] at h
    cases hd : o.dst with
    | none => rw [hd] at h; exact rest h
    | some d =>
      rw [hd] at h
      simp only [look] at h
      by_cases e : d = t
      · subst e
        have hb : Nat.beq d d = true := by simp
        rw [hb] at h
        exact ⟨0, o, rfl, hd, by simpa [flAt] using h⟩
      · rw [beq_ne e] at h
        exact rest h
theorem fils_look : ∀ {l : List Oper} {fl : List (Option Value)} {k : Nat} {o : Oper} {t : Nat} {v : Value}, l[k]? = some o → o.dst = some t → flAt fl k = some v → ∃ u, look (fils l fl) t = some u
  | [], fl, k, o, t, v, h, _, _ => by simp at h
  | x :: l, [], k, o, t, v, _, _, h => by simp [flAt] at h
  | x :: l, f :: fl, 0, o, t, v, h, hd, hf => by
    obtain rfl : x = o := by simpa using h
    have : f = some v := by simpa [flAt] using hf
    subst this
    refine ⟨v, ?_⟩
    simp [fils, hd, look]
  | x :: l, f :: fl, k + 1, o, t, v, h, hd, hf => by
    obtain ⟨u, hu⟩ := fils_look (l := l) (fl := fl) (k := k) (by simpa using h) hd (by simpa [flAt] using hf)
    cases f with
    | none => exact ⟨u, by simpa [fils] using hu⟩
    | some y =>
      simp only [fils]
      cases hx : x.dst with
      | none => exact ⟨u, hu⟩
      | some d =>
        simp only [look]
        by_cases e : d = t
        · subst e; exact ⟨y, by simp⟩
        · rw [beq_ne e]; exact ⟨u, hu⟩

structure FInv (ops : Array Oper) (fl : List (Option Value)) (n : Nat) (a₀ : Act) (K : Nat) (listed : Array Bool) (a : Act) : Prop where
  lsize : listed.size = ops.size
  closed : ∀ (j : Nat) (o : Oper), ops[j]? = some o → listed.getD j false = true → ∀ e ∈ o.after, Region.binds .any e = true → listed.getD e.on false = true
  size : a.tmps.size = n
  defers : a.defers = []
  old : ∀ t, (∀ (k : Nat) (o : Oper), ops[k]? = some o → o.dst = some t → listed.getD k false = false) → a.tmps.getD t undef = a₀.tmps.getD t undef
  flo : ∀ (k : Nat) (o : Oper) (d : Tmp) (v : Value), ops[k]? = some o → o.dst = some d → flAt fl k = some v → listed.getD k false = true → a.tmps.getD d undef = v
  kept : ∀ i, i < ops.size → isFl fl i = false → (listed.getD i false = true ↔ i < K)

theorem keepFrom_nil {fl : List (Option Value)} {K : Nat} (h : ∀ i, i < ops.size → isFl fl i = false → i < K) : keepFrom ops fl K = [] := by
  unfold keepFrom
  rw [List.filter_eq_nil_iff.2 fun i hi => ?_]
  · rfl
  · have := List.mem_range.1 hi
    cases hf : isFl fl i with
    | true => simp
    | false => have := h i this hf; simp; omega
theorem filter_range_first {N i : Nat} {p : Nat → Bool} (hi : i < N) (hp : p i = true) (h : ∀ k, k < i → p k = false) : (List.range N).filter p = i :: (List.range N).filter fun k => decide (i + 1 ≤ k) && p k := by
  induction N with
  | zero => omega
  | succ N ih =>
    rw [List.range_succ, List.filter_append, List.filter_append]
    by_cases hiN : i < N
    · rw [ih hiN]
      simp only [List.cons_append, List.cons.injEq, true_and]
      congr 1
      have hNi : i + 1 ≤ N := hiN
      by_cases hpN : p N = true
      · simp [hpN, hNi]
      · simp [hpN]
    · have e : i = N := by omega
      rw [← e]
      have e1 : (List.range i).filter p = [] := List.filter_eq_nil_iff.2 fun k hk => by have := h k (List.mem_range.1 hk); simp [this]
      have e2 : (List.range i).filter (fun k => decide (i + 1 ≤ k) && p k) = [] := List.filter_eq_nil_iff.2 fun k hk => by have := List.mem_range.1 hk; simp; omega
      rw [e1, e2]
      simp [hp]
theorem keepFrom_cons {fl : List (Option Value)} {K i : Nat} {o : Oper} (ho : ops[i]? = some o) (hi : isFl fl i = false) (hK : K ≤ i) (h : ∀ k, k < i → isFl fl k = false → k < K) : keepFrom ops fl K = o :: keepFrom ops fl (i + 1) := by
  have hlt : i < ops.size := (Array.getElem?_eq_some_iff.1 ho).1
  unfold keepFrom
  rw [filter_range_first hlt (p := fun k => decide (K ≤ k) && !isFl fl k) (by simp [hK, hi]) fun k hk => by
    cases hf : isFl fl k with
    | true => simp
    | false => have := h k hk hf; simp; omega]
  rw [List.filterMap_cons, ho]
  simp only [List.cons.injEq, true_and]
  congr 1
  apply List.filter_congr
  intro k _
  by_cases hk : i + 1 ≤ k
  · have : K ≤ k := by omega
    simp [hk, this]
  · simp [hk]
set_option maxHeartbeats 800000 in
theorem any_float {fl : List (Option Value)} {a₀ : Act} {l : List Oper} (hl : ops = l.toArray) (hE : edgesOk ops = true) (hD : dstsOk ops n = true) (hF : floatsOk ops fl = true) (hLast : e = true → lastOk ops fl = true) (ha₀ : Fr n s a₀)
    (hop : FAll P ops Φ n s fl 0 l) : ∀ (fuel : Nat) (listed : Array Bool) (a : Act) (w : World) (K : Nat), FInv ops fl n a₀ K listed a → (Φ w ∨ ∀ i, i < ops.size → listed.getD i false = true) → wpListF P ops Q e Φ (keepFrom ops fl K) (fill (fils l fl) a) w →
      ((List.range ops.size).filter fun i => !listed.getD i true).length ≤ fuel → wpAny P .any ops Q fuel listed a w := by
  have edges : ∀ (i : Nat) (o : Oper), ops[i]? = some o → ∀ e ∈ o.after, Region.binds .any e = true → e.on < i := fun i o ho e he hb => by
    have hi : i < ops.size := (Array.getElem?_eq_some_iff.1 ho).1
    have h1 := List.all_eq_true.1 hE i (List.mem_range.2 hi)
    simp only [ho, Bool.and_eq_true] at h1
    have h2 := (Array.all_eq_true_iff_forall_mem.1 h1.1) e he
    simpa [hb] using h2
  have sel : ∀ (i : Nat) (o : Oper), ops[i]? = some o → noSel o = true := fun i o ho => by
    have hi : i < ops.size := (Array.getElem?_eq_some_iff.1 ho).1
    have h1 := List.all_eq_true.1 hE i (List.mem_range.2 hi)
    simp only [ho, Bool.and_eq_true] at h1
    exact h1.2
  have dlt : ∀ (i : Nat) (o : Oper) (d : Tmp), ops[i]? = some o → o.dst = some d → d < n := fun i o d ho hd => by
    have hi : i < ops.size := (Array.getElem?_eq_some_iff.1 ho).1
    have h1 := List.all_eq_true.1 hD i (List.mem_range.2 hi)
    simp only [ho, Option.bind_some, hd, Bool.and_eq_true] at h1
    simpa using h1.1
  have dne' : ∀ (i j : Nat) (oi oj : Oper) (d : Tmp), j < i → ops[i]? = some oi → ops[j]? = some oj → oi.dst = some d → oj.dst = some d → False := fun i j oi oj d hji hi hj hdi hdj => by
    have hi' : i < ops.size := (Array.getElem?_eq_some_iff.1 hi).1
    have h1 := List.all_eq_true.1 hD i (List.mem_range.2 hi')
    simp only [hi, Option.bind_some, hdi, Bool.and_eq_true] at h1
    have h2 := List.all_eq_true.1 h1.2 j (List.mem_range.2 hji)
    simp [hj, hdj] at h2
  have dne : ∀ (i j : Nat) (oi oj : Oper) (d : Tmp), ops[i]? = some oi → ops[j]? = some oj → oi.dst = some d → oj.dst = some d → i = j := fun i j oi oj d hi hj hdi hdj => by
    rcases Nat.lt_trichotomy i j with h | h | h
    · exact (dne' j i oj oi d h hj hi hdj hdi).elim
    · exact h
    · exact (dne' i j oi oj d h hi hj hdi hdj).elim
  have unl : ∀ (listed : Array Bool) i, i < listed.size → (listed.getD i true = false ↔ listed.getD i false = false) := fun listed i hi => by
    simp [Array.getD_eq_getD_getElem?, hi]
  have lop : ∀ i : Nat, l[i]? = ops[i]? := fun i => by rw [hl]; simp
  have flook : ∀ (k : Nat) (o : Oper) (d : Tmp) (v : Value), ops[k]? = some o → o.dst = some d → flAt fl k = some v → look (fils l fl) d = some v := fun k o d v ho hd hv => by
    obtain ⟨u, hu⟩ := fils_look (l := l) (fl := fl) (by rw [lop]; exact ho) hd hv
    obtain ⟨k', o', h1, h2, h3⟩ := look_fils hu
    have := dne k k' o o' d ho (by rw [← lop]; exact h1) hd h2
    subst this
    rw [hv] at h3
    rw [hu]; exact h3.symm
  have done : ∀ (listed : Array Bool) (a : Act) (K : Nat), FInv ops fl n a₀ K listed a → Region.ready .any ops listed = [] → ∀ i, i < ops.size → listed.getD i false = true := by
    intro listed a K inv hr i
    induction i using Nat.strongRecOn with
    | _ i ih =>
      intro hi
      cases hl : listed.getD i false with
      | true => rfl
      | false =>
        exfalso
        have hu : listed.getD i true = false := (unl listed i (by rw [inv.lsize]; exact hi)).2 hl
        have hmem : i ∈ Region.ready .any ops listed := mem_ready.2 ⟨hu, ops[i], by simp [hi], fun e he hb => by
          have hlt := edges i ops[i] (by simp [hi]) e he hb
          exact ih e.on hlt (by omega)⟩
        rw [hr] at hmem
        cases hmem
  have fin : ∀ (listed : Array Bool) (a : Act) (w : World) (K : Nat), FInv ops fl n a₀ K listed a → wpListF P ops Q e Φ (keepFrom ops fl K) (fill (fils l fl) a) w → Region.ready .any ops listed = [] → Q .normal a w := fun listed a w K inv hk hr => by
    have hall := done listed a K inv hr
    rw [keepFrom_nil fun i hi hf => (inv.kept i hi hf).1 (hall i hi)] at hk
    have e : fill (fils l fl) a = a := Act.ext' (fun t => fill_same fun v hv => by
      obtain ⟨k, o, h1, h2, h3⟩ := look_fils hv
      have h1' : ops[k]? = some o := by rw [← lop]; exact h1
      exact inv.flo k o t v h1' h2 h3 (hall k (Array.getElem?_eq_some_iff.1 h1').1)) rfl
    rw [e] at hk
    exact hk.2
  intro fuel
  induction fuel with
  | zero =>
    intro listed a w K inv hΦ hk hc
    have hr : Region.ready .any ops listed = [] := by
      cases hr : Region.ready .any ops listed with
      | nil => rfl
      | cons i r =>
        exfalso
        have hmem : i ∈ Region.ready .any ops listed := by rw [hr]; simp
        obtain ⟨hu, o, ho, _⟩ := mem_ready.1 hmem
        have : i ∈ (List.range ops.size).filter fun i => !listed.getD i true := List.mem_filter.2 ⟨List.mem_range.2 (Array.getElem?_eq_some_iff.1 ho).1, by simp [hu]⟩
        have := List.length_pos_of_mem this
        omega
    exact ⟨hr, fin listed a w K inv hk hr⟩
  | succ fuel ih =>
    intro listed a w K inv hΦ hk hc
    refine ⟨fin listed a w K inv hk, fun i hi => ?_⟩
    obtain ⟨hu, o, ho, hdeps⟩ := mem_ready.1 hi
    have hlt : i < ops.size := (Array.getElem?_eq_some_iff.1 ho).1
    have hlt' : i < listed.size := by rw [inv.lsize]; exact hlt
    have hul : listed.getD i false = false := (unl listed i hlt').1 hu
    have hΦ : Φ w := by
      rcases hΦ with h | h
      · exact h
      · rw [h i hlt] at hul; cases hul
    have hcount : ((List.range ops.size).filter fun k => !(listed.setIfInBounds i true).getD k true).length ≤ fuel := by
      have := filter_lt (p := fun k => !listed.getD k true) (q := fun k => !(listed.setIfInBounds i true).getD k true) (List.range ops.size) (fun x _ hx => by
          by_cases hxi : i = x
          · subst hxi; simpa using hu
          · simpa [getD_set_ne true hxi] using hx) i (List.mem_range.2 hlt) (by simp [hu]) (by simp [Array.getD_eq_getD_getElem?, hlt'])
      omega
    have set_get : ∀ k, (listed.setIfInBounds i true).getD k false = true → k ≠ i → listed.getD k false = true := fun k hk hne => by
      rwa [getD_set_ne false (Ne.symm hne)] at hk
    have closed' : ∀ (j : Nat) (oj : Oper), ops[j]? = some oj → (listed.setIfInBounds i true).getD j false = true → ∀ e ∈ oj.after, Region.binds .any e = true → (listed.setIfInBounds i true).getD e.on false = true := fun j oj hj hlj e he hb => by
      by_cases hji : j = i
      · subst hji
        rw [ho] at hj
        obtain rfl := Option.some.inj hj
        exact getD_set_true (hdeps e he hb)
      · exact getD_set_true (inv.closed j oj hj (set_get j hlj hji) e he hb)
    have next : ∀ (a' : Act) (v : Value) (K' : Nat), a'.tmps = a.tmps → a'.defers = a.defers → (∀ d u, o.dst = some d → flAt fl i = some u → v = u) → (∀ k, k < ops.size → isFl fl k = false → ((listed.setIfInBounds i true).getD k false = true ↔ k < K')) → FInv ops fl n a₀ K' (listed.setIfInBounds i true) (a'.put o.dst v) := fun a' v K' hat had hv hkk => by
      have hput : ∀ t, o.dst ≠ some t → (a'.put o.dst v).tmps.getD t undef = a.tmps.getD t undef := fun t ht => by
        cases hod : o.dst with
        | none => simp [Act.put, hat]
        | some d =>
          have : d ≠ t := fun e => ht (by rw [hod, e])
          simp [Act.put, hat, Array.getD_eq_getD_getElem?, Array.getElem?_setIfInBounds_ne this]
      refine ⟨by simp [inv.lsize], closed', ?_, ?_, fun t ht => ?_, fun k ok d u hk hdk hfk hlk => ?_, hkk⟩
      · cases hod : o.dst <;> simp [Act.put, hat, inv.size]
      · cases hod : o.dst <;> simp [Act.put, had, inv.defers]
      · have hne : o.dst ≠ some t := fun e => by
          have := ht i o ho e
          simp [Array.getD_eq_getD_getElem?, hlt'] at this
        rw [hput t hne]
        refine inv.old t fun k ok hk hdk => ?_
        have := ht k ok hk hdk
        by_cases hki : i = k
        · subst hki; exact hul
        · rwa [getD_set_ne false hki] at this
      · by_cases hki : k = i
        · subst hki
          rw [ho] at hk
          obtain rfl := Option.some.inj hk
          have hdn : d < a'.tmps.size := by rw [hat, inv.size]; exact dlt k o d ho hdk
          have : (a'.put o.dst v).tmps.getD d undef = v := by rw [hdk]; simp [Act.put, hdn]
          rw [this]
          exact hv d u hdk hfk
        · have hne : o.dst ≠ some d := fun e => hki (dne k i ok o d hk ho hdk e)
          rw [hput d hne]
          exact inv.flo k ok d u hk hdk hfk (set_get k hlk hki)
    have hFi := List.all_eq_true.1 hF i (List.mem_range.2 hlt)
    simp only [ho] at hFi
    unfold wpOp
    simp only [ho]
    cases hfi : isFl fl i with
    | true =>
      obtain ⟨v, hv⟩ : ∃ v, flAt fl i = some v := Option.isSome_iff_exists.1 hfi
      rw [hfi] at hFi
      simp only [if_true, Bool.and_eq_true] at hFi
      obtain ⟨d, hd⟩ := Option.isSome_iff_exists.1 hFi.1
      have h1 := FAll.get l 0 hop i o (by rw [lop]; exact ho)
      rw [Nat.zero_add] at h1
      have hfree : ∀ t, freeAt ops i t = true → a.tmps.getD t undef = a₀.tmps.getD t undef := fun t ht => inv.old t fun k ok hk hdk => by
        have hk' : k < ops.size := (Array.getElem?_eq_some_iff.1 hk).1
        have h1 := List.all_eq_true.1 ht k (List.mem_range.2 hk')
        simp only [hk, Option.bind_some, hdk] at h1
        cases hlk : listed.getD k false with
        | false => rfl
        | true =>
          exfalso
          have hbt : Nat.beq t t = true := by simp
          simp only [hbt, Bool.not_true, Bool.false_or, Bool.or_eq_true] at h1
          rcases h1 with h1 | h1
          · have := Nat.eq_of_beq_eq_true h1
            subst this
            rw [hul] at hlk; cases hlk
          · have := reach_listed inv.closed _ _ _ h1 hlk
            rw [hul] at this; cases this
      have h2 := h1 v hv a w hΦ ⟨inv.size, inv.defers, fun t u ht => by
        obtain ⟨q1, q2⟩ := look_filter ht
        rw [hfree t q1]; exact ha₀.has t u q2⟩ (DepAll.mk _ fun e he hb oe de hoe hde => by
          have he' : e ∈ o.after := by simpa using he
          have hle := hdeps e he' hb
          have hfe : isFl fl e.on = true := by
            have := (Array.all_eq_true_iff_forall_mem.1 hFi.2) e he'
            simpa [hb] using this
          obtain ⟨u, hu⟩ := Option.isSome_iff_exists.1 hfe
          have := inv.flo e.on oe de u hoe hde hu hle
          have hR : getR (exactR fl) e.on = fun _ x => x = u := by
            unfold getR exactR
            rw [List.getElem?_map]
            have hu' : fl[e.on]? = some (some u) := by
              unfold flAt at hu
              cases hq : fl[e.on]? with
              | none => rw [hq] at hu; cases hu
              | some z => rw [hq] at hu; simp at hu; rw [hu]
            rw [hu']; rfl
          rw [hR]; exact this)
      have hfill : fill (fils l fl) (a.put (some d) v) = fill (fils l fl) a := fill_put_fl (flook i o d v ho hd hv)
      have hkk : ∀ k, k < ops.size → isFl fl k = false → ((listed.setIfInBounds i true).getD k false = true ↔ k < K) := fun k hk hfk => by
        have hne : i ≠ k := fun e => by rw [← e, hfi] at hfk; cases hfk
        rw [getD_set_ne false hne]; exact inv.kept k hk hfk
      have go : wpAny P .any ops Q fuel (listed.setIfInBounds i true) (a.put o.dst v) w := by
        refine ih _ _ _ K (next a v K rfl rfl (fun _ u _ hu => by rw [hv] at hu; exact Option.some.inj hu) hkk) (.inl hΦ) ?_ hcount
        rw [hd, hfill]; exact hk
      split
      · rename_i hw
        left
        unfold Oper.wp
        rw [h2.1 hw]
        exact go
      · rename_i hw
        have := h2.2 (by simpa using hw)
        rw [← this]; exact go
    | false =>
      rw [hfi] at hFi
      simp only [Bool.false_eq_true, if_false, Bool.and_eq_true] at hFi
      have hreach : ∀ k, ops[k]? ≠ none → reach ops ops.size i k = true → listed.getD k false = true := fun k hk hr => by
        obtain ⟨f, hf⟩ : ∃ f, ops.size = f + 1 := ⟨ops.size - 1, by omega⟩
        rw [hf] at hr
        unfold reach at hr
        simp only [ho] at hr
        obtain ⟨q, hq, hb⟩ := Array.any_eq_true.1 hr
        simp only [Bool.and_eq_true, Bool.or_eq_true] at hb
        have hl := hdeps _ (Array.getElem_mem hq) hb.1
        rcases hb.2 with he | he
        · rw [← Nat.eq_of_beq_eq_true he]; exact hl
        · exact reach_listed inv.closed f _ _ he hl
      have hKi : K ≤ i := by
        rcases Nat.lt_or_ge i K with h | h
        · have := (inv.kept i hlt hfi).2 h
          rw [hul] at this; cases this
        · exact h
      have hbefore : ∀ k, k < i → isFl fl k = false → k < K := fun k hk hfk => by
        have h1 := List.all_eq_true.1 hFi.1 k (List.mem_range.2 hk)
        rw [hfk] at h1
        simp only [Bool.false_or] at h1
        have hk' : k < ops.size := by omega
        exact (inv.kept k hk' hfk).1 (hreach k (by simp [hk']) h1)
      rw [keepFrom_cons ho hfi hKi hbefore] at hk
      obtain ⟨_, hk⟩ := hk
      -- what it reads is filled already
      have same : ∀ t, t ∈ slotsOf ops o → (fill (fils l fl) a).tmps[t]? = a.tmps[t]? := fun t ht => fill_same fun v hv => by
        obtain ⟨k, ok, q1, q2, q3⟩ := look_fils hv
        have q1' : ops[k]? = some ok := by rw [← lop]; exact q1
        have hk' : k < ops.size := (Array.getElem?_eq_some_iff.1 q1').1
        have h1 := List.all_eq_true.1 hFi.2 k (List.mem_range.2 hk')
        have hfk : isFl fl k = true := Option.isSome_iff_exists.2 ⟨v, q3⟩
        rw [hfk] at h1
        simp only [q1', Option.bind_some, q2, Bool.not_true, Bool.false_or, Bool.or_eq_true, Bool.not_eq_true'] at h1
        rcases h1 with h1 | h1
        · rw [List.contains_eq_mem] at h1
          simp [ht] at h1
        · exact inv.flo k ok t v q1' q2 q3 (hreach k (by simp [hk']) h1)
      have hev : execOp (fill (fils l fl) a).eval o = execOp a.eval o := execOp_congr o (fun cs b hb => by
        have := sel i o ho
        simp [noSel, hb] at this) fun x hx => by
          cases x with
          | tmp t =>
            have hm : t ∈ slotsOf ops o := by
              unfold slotsOf
              refine List.mem_append_left _ (List.mem_filterMap.2 ⟨.tmp t, by simpa using hx, rfl⟩)
            have := same t hm
            simp only [Act.eval, Array.getD_eq_getD_getElem?, this]
          | const _ => rfl
          | global _ => rfl
          | func _ => rfl
      have hwant : Region.wanted o (yielded ops (fill (fils l fl) a).tmps) = Region.wanted o (yielded ops a.tmps) := by
        unfold Region.wanted
        cases hg : o.guard with
        | none => rfl
        | some gq =>
          obtain ⟨gi, want⟩ := gq
          have : yielded ops (fill (fils l fl) a).tmps gi = yielded ops a.tmps gi := by
            unfold yielded
            cases hgo : (ops[gi]?).bind (·.dst) with
            | none => rfl
            | some d =>
              have hm : d ∈ slotsOf ops o := by
                unfold slotsOf
                refine List.mem_append_right _ ?_
                rw [hg]; simp [hgo]
              simp [same d hm]
          simp [this]
      have hdn : ∀ d, o.dst = some d → look (fils l fl) d = none := fun d hd => by
        cases hq : look (fils l fl) d with
        | none => rfl
        | some v =>
          obtain ⟨k, ok, q1, q2, q3⟩ := look_fils hq
          have := dne k i ok o d (by rw [← lop]; exact q1) ho q2 hd
          subst this
          unfold isFl at hfi
          rw [q3] at hfi; cases hfi
      have hkk : ∀ k, k < ops.size → isFl fl k = false → ((listed.setIfInBounds i true).getD k false = true ↔ k < i + 1) := fun k hk hfk => by
        by_cases e : i = k
        · subst e
          simp [Array.getD_eq_getD_getElem?, hlt']
        · rw [getD_set_ne false e, inv.kept k hk hfk]
          constructor
          · intro h; omega
          · intro h; exact hbefore k (by omega) hfk
      have hallL : e = true → keepFrom ops fl (i + 1) = [] → ∀ k, k < ops.size → (listed.setIfInBounds i true).getD k false = true := fun he hnil k hk => by
        by_cases hki : i = k
        · subst hki; simp [Array.getD_eq_getD_getElem?, hlt']
        · rw [getD_set_ne false hki]
          have h1 := List.all_eq_true.1 (hLast he) i (List.mem_range.2 hlt)
          rw [hfi] at h1
          simp only [Bool.false_or, Bool.or_eq_true] at h1
          rcases h1 with h1 | h1
          · exfalso
            obtain ⟨q, hq, hqq⟩ := List.any_eq_true.1 h1
            simp only [Bool.and_eq_true, Bool.not_eq_true'] at hqq
            have hqs := List.mem_range.1 hq
            have hiq : i < q := by simpa using hqq.1
            have : ops[q] ∈ keepFrom ops fl (i + 1) := by
              unfold keepFrom
              refine List.mem_filterMap.2 ⟨q, List.mem_filter.2 ⟨hq, ?_⟩, by simp [hqs]⟩
              simp [hqq.2]; omega
            rw [hnil] at this; cases this
          · have h2 := List.all_eq_true.1 h1 k (List.mem_range.2 hk)
            simp only [Bool.or_eq_true] at h2
            rcases h2 with h2 | h2
            · exact absurd (Nat.eq_of_beq_eq_true h2).symm hki
            · exact hreach k (by simp [hk]) h2
      have go : ∀ (a' : Act) (w' : World), wpListF P ops Q e Φ (keepFrom ops fl (i + 1)) (fill (fils l fl) a') w' → FInv ops fl n a₀ (i + 1) (listed.setIfInBounds i true) a' → wpAny P .any ops Q fuel (listed.setIfInBounds i true) a' w' := fun a' w' h hinv =>
        ih _ _ _ (i + 1) hinv ((wpListF_head h).1.elim (fun q => .inr (hallL q.1 q.2)) .inl) h hcount
      have hfl0 : ∀ (u : Value) d, o.dst = some d → ∀ u', flAt fl i = some u' → u = u' := fun u d _ u' hu' => by
        unfold isFl at hfi
        rw [hu'] at hfi; cases hfi
      unfold wpList at hk
      rw [hwant] at hk
      by_cases hw : Region.wanted o (yielded ops a.tmps) = true
      · rw [if_pos hw] at hk ⊢
        left
        rcases hk with hk | ⟨_, hk⟩
        · unfold Oper.wp at hk ⊢
          rw [hev] at hk
          have hk2 : o.upon P (fill (fils l fl) a) (fun a' w' => wpListF P ops Q e Φ (keepFrom ops fl (i + 1)) a' w') (Only (wpListF P ops Q e Φ (keepFrom ops fl (i + 1)))) ((execOp a.eval o).run P w) := by
            have : (wpList P ops (Only (wpListF P ops Q e Φ (keepFrom ops fl (i + 1)))) []) = fun a' w' => Only (wpListF P ops Q e Φ (keepFrom ops fl (i + 1))) .normal a' w' := rfl
            rw [this] at hk
            refine upon_mono2 ?_ hk
            exact fun a' w' h => h.2
          exact upon_fill2 hdn (fun a' v w' had hat h => go _ _ h (next a' v (i + 1) hat had (fun d u hd hu => hfl0 v d hd u hu) hkk)) _ (fun a' w' h => (wpListF_head h).2) hk2
        · obtain ⟨_, _, he, _⟩ := hk; cases he
      · rw [if_neg hw] at hk ⊢
        have epu : (fill (fils l fl) a).put o.dst undef = fill (fils l fl) (a.put o.dst undef) := by
          cases hq : o.dst with
          | none => rfl
          | some d => rw [fill_put (hdn d hq)]
        have hk' : wpListF P ops Q e Φ (keepFrom ops fl (i + 1)) ((fill (fils l fl) a).put o.dst undef) w := hk.2
        rw [epu] at hk'
        exact go _ _ hk' (next a undef (i + 1) rfl rfl (fun d u hd hu => hfl0 undef d hd u hu) hkk)
def nthO : List Oper → Nat → Option Oper
  | [], _ => none
  | o :: _, 0 => some o
  | _ :: l, i + 1 => nthO l i
def pickOps (l : List Oper) : List Nat → List Oper
  | [] => []
  | k :: ks => match nthO l k with
    | some o => o :: pickOps l ks
    | none => pickOps l ks
theorem C_drawF {l : List Oper} {id : Nat} (e : Bool) (fl : List (Option Value)) (Φ : World → Prop) (hm : P.follows .mixedOrders = true)
    (hE : edgesOk l.toArray = true) (hD : dstsOk l.toArray n = true) (hF : floatsOk l.toArray fl = true) (hLast : (!e || lastOk l.toArray fl) = true) (hst : Φ w.drew) (hop : FAll P l.toArray Φ n s fl 0 l) (ks : List Nat) (hr : keepFrom l.toArray fl 0 = pickOps l ks) (s' : AL) (hs : Sub (fils l fl ++ s) s')
    (hend : ∀ w', Le w w' → w' = w.drew → wpRF P l.toArray e Φ (pickOps l ks) n s' Q w') : okC P (.region id l.toArray true) n s Q w := fun a₀ ha => by
  have hL2 : e = true → lastOk l.toArray fl = true := fun he => by subst he; simpa using hLast
  refine wp_region_any hm (any_float (e := e) (n := n) (s := s) (l := l) (a₀ := a₀) rfl hE hD hF hL2 ha hop _ _ a₀ _ 0 ⟨by simp, fun j o _ hl => ?_, ha.size, ha.defers, fun t _ => rfl, fun k o d v _ _ _ hl => ?_, fun i hi _ => ?_⟩ (.inl hst) ?_ ?_)
  · rw [rep_false] at hl; cases hl
  · rw [rep_false] at hl; cases hl
  · rw [rep_false]; simp
  · rw [hr]
    refine hend _ (Le.drew w) rfl _ (Fr.sub ⟨by rw [fill_size]; exact ha.size, ha.defers, fun t v ht => ?_⟩ hs)
    rw [Array.getD_eq_getD_getElem?, fill_get]
    have key : ∀ (f : AL), look (f ++ s) t = match look f t with | some u => some u | none => look s t := fun f => by
      induction f with
      | nil => rfl
      | cons p f ih =>
        obtain ⟨k, u⟩ := p
        simp only [List.cons_append, look]
        by_cases e : k = t
        · subst e
          have hb : Nat.beq k k = true := by simp
          rw [hb]; rfl
        · rw [beq_ne e]; exact ih
    rw [key] at ht
    cases hq : look (fils l fl) t with
    | some u =>
      rw [hq] at ht
      obtain rfl := Option.some.inj ht
      obtain ⟨k, o, q1, q2, q3⟩ := look_fils hq
      have hlt : t < a₀.tmps.size := by
        have hi : k < l.toArray.size := by simpa using (List.getElem?_eq_some_iff.1 q1).1
        have h1 := List.all_eq_true.1 hD k (List.mem_range.2 hi)
        have q1' : l.toArray[k]? = some o := by simpa using q1
        simp only [q1', Option.bind_some, q2, Bool.and_eq_true] at h1
        rw [ha.size]; simpa using h1.1
      simp [hlt]
    | none =>
      rw [hq] at ht
      have := ha.has t v ht
      rw [Array.getD_eq_getD_getElem?] at this
      cases hz : a₀.tmps[t]? with
      | none => rw [hz] at this; simpa using this
      | some z => rw [hz] at this; simpa using this
  · exact Nat.le_trans (List.length_filter_le _ _) (by simp)
/-- One operation that floats. -/
theorem FL_val {a : Act} {v : Value} (hf : Fr n s a) (hw : wants ops s o = some true) (hk : (knows s o && noSel o) = true)
    (hr : (execOp (rho s) o).run P w = .ok (.value v) w) : (Region.wanted o (yielded ops a.tmps) = true → (execOp a.eval o).run P w = .ok (.value v) w) ∧ (Region.wanted o (yielded ops a.tmps) = false → v = undef) :=
  ⟨fun _ => by rw [exec_eq hf hk, hr], fun h2 => by rw [wants_eq hf hw] at h2; cases h2⟩
theorem FL_skip {a : Act} (hf : Fr n s a) (hw : wants ops s o = some false) : (Region.wanted o (yielded ops a.tmps) = true → (execOp a.eval o).run P w = .ok (.value undef) w) ∧ (Region.wanted o (yielded ops a.tmps) = false → undef = undef) :=
  ⟨(fun h2 => by rw [wants_eq hf hw] at h2; cases h2), fun _ => rfl⟩
theorem FS_no {fl : List (Option Value)} {j : Nat} (h : flAt fl j = none) : FStep P ops Φ n s fl j o := fun v hv => by rw [h] at hv; cases hv
theorem FS_yes {fl : List (Option Value)} {j : Nat} (v0 : Value) (h : flAt fl j = some v0)
    (k : ∀ (a : Act) (w : World), Φ w → Fr n (freeAL ops j s) a → DepAll ops (exactR fl) w a o.after.toList → (Region.wanted o (yielded ops a.tmps) = true → (execOp a.eval o).run P w = .ok (.value v0) w) ∧ (Region.wanted o (yielded ops a.tmps) = false → v0 = undef)) : FStep P ops Φ n s fl j o := fun v hv => by
  rw [h] at hv
  obtain rfl := Option.some.inj hv
  exact k
end
end Go.Lm

/- Elements of slices and their fields; conversions; loops that are gone through one round after the other. General: no program in sight. -/
namespace Go.Lm
open Go Go.RowKit
section
variable {P : Program} {ops : Array Oper} {n : Nat} {s : AL} {Q Q'' : Exit → Act → World → Prop} {w : World} {c : Code}
/-! ### A loop, round by round -/
def wpIn (P : Program) (c : Code) (Q : Exit → Act → World → Prop) (a : Act) (w : World) : Prop :=
  ∀ (b : Frame) (kk : List Item) (cs : List Frame), ∃ e a' w', Q e a' w' ∧ Arrives P (lone (b.at a (.inLoop c :: kk)) cs w) b kk cs e a' w'
theorem unroll_arrives {a : Act} (h : c.wp P (Exit.then (wpIn P c Q) Q) a w) (b : Frame) (kk : List Item) (cs : List Frame) : ∃ e a' w', Q e a' w' ∧ Arrives P (lone (b.at a (.code c :: .inLoop c :: kk)) cs w) b kk cs e a' w' := by
  obtain ⟨e, a₁, w₁, hq, harr⟩ := h b (.inLoop c :: kk) cs
  cases e with
  | normal =>
    obtain ⟨e₂, a₂, w₂, hq₂, harr₂⟩ := hq b kk cs
    exact ⟨e₂, a₂, w₂, hq₂, .of_steps harr harr₂⟩
  | exit id => exact ⟨_, a₁, w₁, hq, .pass (x := .inLoop c) rfl (fun _ _ => .inl (by simp)) harr⟩
  | goto l => exact ⟨_, a₁, w₁, hq, .pass (x := .inLoop c) rfl (fun _ _ => .inl (by simp)) harr⟩
  | ret => exact ⟨_, a₁, w₁, hq, .pass (x := .inLoop c) rfl (fun _ _ => .inl (by simp)) harr⟩
  | panic ch => exact ⟨_, a₁, w₁, hq, .pass (x := .inLoop c) rfl (fun _ _ => .inl (by simp)) harr⟩
  | outgrown => exact ⟨_, a₁, w₁, hq, .pass (x := .inLoop c) rfl (fun _ _ => .inl (by simp)) harr⟩
theorem C_unroll (h : okC P c n s (Exit.then (wpIn P c Q) Q) w) : okC P (.loop c) n s Q w := fun a ha b kk cs => by
  obtain ⟨e, a', w', hq, harr⟩ := unroll_arrives (h a ha) b kk cs
  exact ⟨e, a', w', hq, .of_steps (.one step_loop) harr⟩
theorem E_unroll (h : okC P c n s (Exit.then (wpIn P c Q) Q) w) : okE .normal n s (Exit.then (wpIn P c Q) Q'') w := fun a ha b kk cs => by
  obtain ⟨e, a', w', hq, harr⟩ := unroll_arrives (h a ha) b kk cs
  exact ⟨e, a', w', hq, .of_steps (.one step_inLoop) harr⟩
end
/-! ### Elements, cell by cell -/
def addP : Value → Nat → Value
  | .pointer (some a), o => .pointer (some (a.add o))
  | v, _ => v
/-- The cells of an element, wherever what is held fixed is seen. -/
def ElemAt (g : World) (k : Nat) (v : Value) (i : Int) (cs : List Value) : Prop := ∀ w, Mono g w → ∃ a : Addr, elemP k v i = .pointer (some a) ∧ ∀ (j : Nat) (c : Value), cs[j]? = some c → w.cell? (a.add j) = some c
theorem ElemAt.mono {g g' : World} {k : Nat} {v : Value} {i : Int} {cs : List Value} (h : ElemAt g k v i cs) (m : Mono g g') : ElemAt g' k v i cs := fun w hw => h w (m.trans hw)
section
variable {P : Program} {g w : World} {v : Value} {i : Int}
theorem elem_at {α : Type} [GoRep α] {xs : List α} (h : Is g v xs) (h0 : 0 ≤ i) (h1 : i < xs.length) : ∃ cs, ElemAt g (GoRep.size α) v i cs ∧ GoRep.rel g cs (xs[i.toNat]'(by omega)) := by
  rcases is_list.1 h with ⟨rfl, rfl⟩ | ⟨a, cap, rfl, _, _, h3⟩
  · simp at h1; omega
  · obtain ⟨cs, hc, hr⟩ := h3 i.toNat _ (List.getElem?_eq_getElem (by omega))
    exact ⟨cs, fun w hw => ⟨a.add (i.toNat * GoRep.size α), rfl, fun j c hj => by rw [Go.Deep.add_add]; exact hw _ _ (hc j c hj)⟩, hr⟩
theorem xattr_at {xs : List XattrD} (h : Is g v xs) (h0 : 0 ≤ i) (h1 : i < xs.length) : ∃ u, ElemAt g 2 v i [.string (nth xs i).v.1, u] ∧ Is g u (nth xs i).v.2.1 ∧ (nth xs i).v.1.size ≤ maxLen := by
  obtain ⟨cs, h2, h3⟩ := elem_at h h0 h1
  rw [← nth_eq (by omega)] at h3
  obtain ⟨u, e, hs, hu⟩ := xattr_row.1 (is_st.2 ⟨cs.toArray, rfl, h3⟩ : Is g (.agg cs.toArray) (nth xs i))
  have : cs = [.string (nth xs i).v.1, u] := by
    have := congrArg (fun v => match v with | Value.agg x => x.toList | _ => []) e
    simpa using this
  rw [this] at h2
  exact ⟨u, h2, hu, hs⟩
theorem node_at {xs : List NodeD} (h : Is g v xs) (h0 : 0 ≤ i) (h1 : i < xs.length) : ∃ vn vd vx, ElemAt g 10 v i [vn, .int .i64 (nth xs i).ino, .int .i64 (nth xs i).kind, .int .i64 (nth xs i).mode, .int .i64 (nth xs i).uid, .int .i64 (nth xs i).gid, vd, .string (nth xs i).target, vx, .bool (nth xs i).opq] ∧
    Is g vn (nth xs i).names ∧ Is g vd (nth xs i).data ∧ Is g vx (nth xs i).xattrs ∧ (nth xs i).target.size ≤ maxLen := by
  obtain ⟨cs, h2, h3⟩ := elem_at h h0 h1
  rw [← nth_eq (by omega)] at h3
  obtain ⟨vn, vd, vx, e, q1, q2, q3, q4, _⟩ := node_row.1 (is_st.2 ⟨cs.toArray, rfl, h3⟩ : Is g (.agg cs.toArray) (nth xs i))
  have : cs = [vn, .int .i64 (nth xs i).ino, .int .i64 (nth xs i).kind, .int .i64 (nth xs i).mode, .int .i64 (nth xs i).uid, .int .i64 (nth xs i).gid, vd, .string (nth xs i).target, vx, .bool (nth xs i).opq] := by
    have := congrArg (fun v => match v with | Value.agg x => x.toList | _ => []) e
    simpa using this
  rw [this] at h2
  exact ⟨vn, vd, vx, h2, q1, q2, q3, q4⟩
theorem run_elem_row {k : Nat} {cs : List Value} {e : TypeId} {d : TypeDesc} (h : ElemAt g k v i cs) (m : Mono g w) (hu : P.underlying e = some d) (hd : d.isRow = true) (hs : (P.info? e).map (·.size) = some cs.length) :
    (Instr.loadAt e (elemP k v i)).run P w = .ok (.agg cs.toArray) w := by
  obtain ⟨a, ha, hc⟩ := h w m
  cases hq : P.info? e with
  | none => simp [hq] at hs
  | some ie =>
    have hsz : ie.size = cs.length := by simpa [hq] using hs
    have hagg : (isAgg e).run P w = .ok true w := by
      unfold isAgg
      rw [Sem.run_bind, run_underlying hu w]
      cases d <;> simp_all
    have hl := run_loadCells_list (P := P) w a cs hc
    simp [ha, Instr.loadAt, Instr.sureAddr, loadVar, hagg, sizeOf, typeInfo, hq, hsz, hl]
theorem run_elem_field {k off : Nat} {cs : List Value} {t : TypeId} {d : TypeDesc} {c : Value} (h : ElemAt g k v i cs) (m : Mono g w) (hu : P.underlying t = some d) (hd : d.isRow = false) (hc : cs[off]? = some c) :
    (Instr.loadAt t (addP (elemP k v i) off)).run P w = .ok c w := by
  obtain ⟨a, ha, hcs⟩ := h w m
  have hagg : (isAgg t).run P w = .ok false w := by
    unfold isAgg
    rw [Sem.run_bind, run_underlying hu w]
    cases d <;> simp_all
  have h2 := hcs off c hc
  simp [ha, addP, Instr.loadAt, Instr.sureAddr, loadVar, hagg, run_load, h2]
theorem run_elem_part {k off len : Nat} {cs : List Value} {t : TypeId} {d : TypeDesc} (h : ElemAt g k v i cs) (m : Mono g w) (hu : P.underlying t = some d) (hd : d.isRow = true) (hs : (P.info? t).map (·.size) = some len) (hl : off + len ≤ cs.length) :
    (Instr.loadAt t (addP (elemP k v i) off)).run P w = .ok (.agg ((cs.drop off).take len).toArray) w := by
  obtain ⟨a, ha, hc⟩ := h w m
  cases hq : P.info? t with
  | none => simp [hq] at hs
  | some ie =>
    have hll : ((cs.drop off).take len).length = len := by simp; omega
    have hsz : ie.size = len := by simpa [hq] using hs
    have hagg : (isAgg t).run P w = .ok true w := by
      unfold isAgg
      rw [Sem.run_bind, run_underlying hu w]
      cases d <;> simp_all
    have hl := run_loadCells_list (P := P) w (a.add off) ((cs.drop off).take len) (fun j c hj => by
      rw [Go.Deep.add_add]
      refine hc _ c ?_
      rw [List.getElem?_take] at hj
      split at hj
      · rw [List.getElem?_drop] at hj; exact hj
      · cases hj)
    rw [hll] at hl
    simp [ha, addP, Instr.loadAt, Instr.sureAddr, loadVar, hagg, sizeOf, typeInfo, hq, hsz, hl]
theorem X_fieldAddr_elem {ρ : Operand → Value} {o : Oper} {x : Operand} {t : TypeId} {j k off : Nat} {f : Field} {fs : Array Field} {cs : List Value} (h : ElemAt g k v i cs) (m : Mono g w) (ho : o.op = .fieldAddr t x j) (hx : ρ x = elemP k v i) (ht : P.underlying t = some (.struct fs)) (hf : fs[j]? = some f) (hoff : f.offset = off) (hs : ((P.info? f.type).map fun i => Nat.blt 0 i.size) = some true) :
    (execOp ρ o).run P w = .ok (.value (addP (elemP k v i) off)) w := by
  obtain ⟨a, ha, _⟩ := h w m
  cases hq : P.info? f.type with
  | none => simp [hq] at hs
  | some ie =>
    have hz : ¬ ie.size = 0 := by
      simp [hq] at hs; omega
    simp [execOp, ho, hx, ha, Instr.fieldAt, Instr.sureAddr, run_underlying ht, hf, hoff, addP, fieldPlace, sizeOf, typeInfo, hq, hz]
/-! ### Conversions -/
def bstr (l : List UInt8) : ByteArray := ⟨l.toArray⟩
theorem run_str_of {src dst e : TypeId} {l : List UInt8} (h : Is w v l) (hs : P.underlying src = some (.slice e)) (he : P.underlying e = some (.int .u8)) (hd : P.underlying dst = some .string) : (convert src dst v).run P w = .ok (.string (bstr l)) w := by
  rcases is_list.1 h with ⟨rfl, rfl⟩ | ⟨a, cap, rfl, _, _, h3⟩
  · exact run_convert_bytes_nil w src e hs he 0 0 dst hd
  · exact run_convert_bytes_back w src dst e a cap l hs he hd fun j hj => by
      obtain ⟨cs, hc, hr⟩ := h3 j _ (List.getElem?_eq_getElem hj)
      have hr' : cs = [.int .u8 (l[j].toNat : Int)] := hr
      have := hc 0 (.int .u8 (l[j].toNat : Int)) (by rw [hr']; rfl)
      simpa [GoRep.size] using this
theorem X_convert_str {ρ : Operand → Value} {o : Oper} {x : Operand} {src dst e : TypeId} {l : List UInt8} (h : Is w v l) (ho : o.op = .convert src dst x) (hx : ρ x = v) (hs : P.underlying src = some (.slice e)) (he : P.underlying e = some (.int .u8)) (hd : P.underlying dst = some .string) :
    (execOp ρ o).run P w = .ok (.value (.string (bstr l))) w := by
  simp [execOp, ho, hx, run_str_of h hs he hd]
theorem X_conv {ρ : Operand → Value} {o : Oper} {x : Operand} {src dst : TypeId} {u : Value} {w' : World} (ho : o.op = .convert src dst x) (hx : ρ x = v) (h : (convert src dst v).run P w = .ok u w') : (execOp ρ o).run P w = .ok (.value u) w' := by
  simp [execOp, ho, hx, h]
theorem S_convert_bytes {ops : Array Oper} {rest : List Oper} {n : Nat} {s : AL} {Q : Exit → Act → World → Prop} {o : Oper} {x : Operand} {d : Nat} {src dst e : TypeId} {z : ByteArray} (sees : Sees g w) (hs : P.underlying src = some .string) (hd : P.underlying dst = some (.slice e)) (he : P.underlying e = some (.int .u8)) (hz : z.size ≤ 9223372036854775807)
    (ho : o.op = .convert src dst x) (hx : ev s x = some (.string z)) (hw : wants ops s o = some true) (hdd : o.dst = some d) (hn : Nat.blt d n = true)
    (k : ∀ v w', Is (graft g w w') v z.data.toList → Le w w' → wpR P ops rest n ((d, v) :: s) Q w') : wpR P ops (o :: rest) n s Q w := by
  have hr := run_bytes_of_string (P := P) w src dst e z hs hd he
  generalize hW : w.drew.alloc (.cells (bytesRow z (grownCap w z.size 0 e)) e ((bytesRow z (grownCap w z.size 0 e)).size, (bytesRow z (grownCap w z.size 0 e)).size + 1)) = w1 at hr
  have hle : Le w w1 := by rw [← hW]; exact (Le.drew w).trans (New.mk' w.drew _).le
  refine R_val hw (by unfold knows noSel; rw [ho]; simp [Op.operands, hx]) hdd hn (v := .slice (some ⟨w.heap.size, 0, none⟩) z.size (grownCap w z.size 0 e)) (w' := _) (X_conv ho (show rho s x = .string z by simp [rho, hx]) hr) (k _ _ ?_ hle)
  have hlen : z.data.toList.length = z.size := by rw [Array.length_toList]; rfl
  refine is_list.2 (.inr ⟨⟨w.heap.size, 0, none⟩, grownCap w z.size 0 e, by rw [hlen], by rw [hlen]; exact grownCap_ge w z.size 0 e, grownCap_le_maxLen w z.size 0 e (by unfold maxLen; omega), fun i x hx => ⟨[.int .u8 x.toNat], fun j c hj => ?_, rfl⟩⟩)
  rw [Addr.add_mid, graft_new _ (Nat.le_refl _)]
  match j, hj with
  | 0, hj =>
    obtain rfl : c = .int .u8 x.toNat := by simpa using hj.symm
    have hi : i < z.data.toList.length := (List.getElem?_eq_some_iff.1 hx).1
    have hc : (bytesRow z (grownCap w z.size 0 e))[i]? = some (.int .u8 x.toNat) := by
      unfold bytesRow
      have hi2 : i < z.data.size := by simpa using hi
      rw [Array.getElem?_append_left (by simpa using hi2), Array.getElem?_map]
      have : z.data[i]? = some x := by simpa using hx
      rw [this]; rfl
    simp only [GoRep.size, Nat.mul_one, Nat.add_zero]
    have hh : w1.heap[w.heap.size]? = some (.cells (bytesRow z (grownCap w z.size 0 e)) e ((bytesRow z (grownCap w z.size 0 e)).size, (bytesRow z (grownCap w z.size 0 e)).size + 1)) := by rw [← hW]; exact heap_alloc_new w.drew _
    unfold World.cell?
    simp only [hh]
    rw [Nat.zero_add]
    exact hc
end
end Go.Lm

/- Slices of the call's own, as steps of a walk. General: no program in sight. -/
namespace Go.Lm
open Go Go.RowKit
class OneRow (ρ : Type) [RowRep ρ] : Prop where
  one : ∀ {g : World} {cs : List Value} {x : ρ}, RowRep.rrel g cs x → ∀ u ∈ cs, u.oneCell' = true
instance : OneRow PUnit := ⟨fun h u hu => by rw [show _ = _ from h] at hu; cases hu⟩
instance {α ρ : Type} [GoRep α] [RowRep ρ] [OneCells α] [OneRow ρ] : OneRow (α × ρ) := ⟨fun h u hu => by
  obtain ⟨c1, c2, rfl, h1, h2⟩ := h
  rcases List.mem_append.1 hu with hu | hu
  · exact OneCells.one h1 u hu
  · exact OneRow.one h2 u hu⟩
instance {ρ : Type} [RowRep ρ] [OneRow ρ] : OneCells (St ρ) := ⟨fun h u hu => OneRow.one h u hu⟩
def OneAll : List Value → Prop
  | [] => True
  | c :: cs => c.oneCell' = true ∧ OneAll cs
theorem one_all : ∀ {l : List Value}, OneAll l → l.all (·.oneCell') = true
  | [], _ => rfl
  | c :: cs, h => by rw [List.all_cons, h.1, one_all h.2]; rfl
theorem one_is {α : Type} [GoRep α] {g : World} {v : Value} {l : List α} (h : Is g v l) : v.oneCell' = true := by
  rcases is_list.1 h with ⟨rfl, _⟩ | ⟨a, c, rfl, _⟩ <;> rfl
section
variable {P : Program} {W : Base} {g w : World} {l : List Atom}
theorem E_sub {n : Nat} {s : AL} {Q : Exit → Act → World → Prop} {e : Exit} (s' : AL) (hs : Sub s s') (h : okE e n s' Q w) : okE e n s Q w := fun a ha => h a (ha.sub hs)
theorem SL.slEmpty (α : Type) [GoRep α] {b : Nat} {e : TypeId} (H : SL W g w (Lm.blk b #[] e :: l)) : SL W g w (slA (α := α) e (.slice (some ⟨b, 0, none⟩) 0 0) [] :: l) := by
  have h := SL.toRow (size := GoRep.size α) (cap := 0) 0 H (Nat.le_refl _) (by simp [maxLen]) (by simp)
  refine SL.slI (cs := []) trivial ?_
  have e1 : ((#[] : Array Value).toList.take (0 * GoRep.size α)) = ([] : List (List Value)).flatten := by simp
  rw [e1] at h
  exact h
theorem S_app {α : Type} [GoRep α] [OneCells α] {ops : Array Oper} {rest : List Oper} {o : Oper} {n : Nat} {s : AL} {Q : Exit → Act → World → Prop} {d : Nat} {x y : Operand} {t e : TypeId} {v yv : Value} {xs ys : List α} {bytes : Nat} (H : SL W g w (slA e v xs :: l)) (hy : Rd g w yv ys)
    (ht : P.underlying t = some (.slice e)) (hi : (P.info? e).map (fun i => (i.size, i.bytes, i.zero.isSome)) = some (GoRep.size α, bytes, true)) (hz : ((P.info? e).bind (·.zero)).map (·.cells.size) = some (GoRep.size α)) (hpos : 0 < GoRep.size α)
    (hlen : (xs.length + ys.length) * bytes ≤ 140737488355328) (hmax : xs.length + ys.length ≤ 9223372036854775807)
    (ho : o.op = .call { callee := .builtin .append, args := #[x, y], argTypes := #[t, t] }) (hx : ev s x = some v) (hyv : ev s y = some yv) (hw : wants ops s o = some true) (hd : o.dst = some d) (hn : Nat.blt d n = true)
    (k : ∀ v' w', SL W g w' (slA e v' (xs ++ ys) :: l) → (v' = .slice none 0 0 → v = .slice none 0 0 ∧ ys = []) → wpR P ops rest n ((d, v') :: s) Q w') : wpR P ops (o :: rest) n s Q w := by
  obtain ⟨v', w', hr, H', h0⟩ := H.append (ty := o.type) hy ht hi hz hpos hlen hmax
  exact R_val hw (by simp [knows, noSel, ho, Op.operands, Call.operands, hx, hyv]) hd hn (by simp [execOp, ho, resolve, invoke, builtin, rho, hx, hyv, hr]) (k v' w' H' h0)
/-- A literal's elements can be read. -/
theorem SL.litRd {α : Type} [GoRep α] (i : Nat) (H : SL W g w l) {b : Nat} {cs : Array Value} {t : TypeId} {ds : List (List Value)} {xs : List α} (r : RelL g ds xs) (e : nthA l i = some (Lm.blk b cs t) := by exact rfl) (hc : cs.toList = ds.flatten := by exact rfl) (hm : xs.length ≤ maxLen := by (unfold maxLen; decide)) :
    Rd g w (.slice (some ⟨b, 0, none⟩) xs.length xs.length) xs := .inr ⟨⟨b, 0, none⟩, xs.length, rfl, Nat.le_refl _, hm, ds, r, fun j u hj => by
    rw [Addr.add_mid, (H.blk i e).cell, ← Array.getElem?_toList, hc]
    simpa using hj⟩
/-- '== nil' of a slice. -/
def isNilV : Value → Bool
  | .slice none _ _ => true
  | _ => false
theorem X_nil_sl {α : Type} [GoRep α] {ρ : Operand → Value} {o : Oper} {x y : Operand} {t u e : TypeId} {v : Value} {xs : List α} (h : Is w v xs) (ho : o.op = .binOp .eql t x y u) (hx : ρ x = v) (hy : ρ y = .slice none 0 0) (ht : P.underlying t = some (.slice e)) : (execOp ρ o).run P w = .ok (.value (.bool (isNilV v))) w := by
  rcases is_list.1 h with ⟨rfl, rfl⟩ | ⟨a, cap, rfl, _⟩
  · have := Lib.run_eql_slice_nil (P := P) w t e none 0 0 0 0 ht
    simp [execOp, ho, hx, hy, eqGuard, this, isNilV]
  · have := Lib.run_eql_slice_nil (P := P) w t e (some a) xs.length cap 0 0 ht
    simp [execOp, ho, hx, hy, eqGuard, this, isNilV]
/-! ### An element of its own slice, read and written -/
theorem own_elem {α : Type} [GoRep α] {e : TypeId} {v : Value} {xs : List α} {i : Int} (H : SL W g w (slA e v xs :: l)) (h0 : 0 ≤ i) (h1 : i < xs.length) : ∃ cs, ElemAt w (GoRep.size α) v i cs ∧ GoRep.rel g cs (xs[i.toNat]'(by omega)) := by
  obtain ⟨cs, r, H1⟩ := H.slO
  have hrow := H1.row
  rcases hrow.2 with ⟨rfl, h⟩ | ⟨k, cap, cur, rfl, _⟩
  · omega
  · obtain ⟨c, hr, hc⟩ := r.get i.toNat _ (List.getElem?_eq_getElem (by omega))
    refine ⟨c, fun w2 m => ⟨(⟨k, 0, none⟩ : Addr).add (i.toNat * GoRep.size α), rfl, fun j u hj => ?_⟩, hr⟩
    rw [Go.Deep.add_add]
    exact m _ _ (hrow.cells (g := k) rfl _ u (hc j u hj))
theorem own_xattr {e : TypeId} {v : Value} {xs : List XattrD} {i : Int} (H : SL W g w (slA e v xs :: l)) (h0 : 0 ≤ i) (h1 : i < xs.length) : ∃ u, ElemAt w 2 v i [.string (nth xs i).v.1, u] ∧ Is g u (nth xs i).v.2.1 ∧ (nth xs i).v.1.size ≤ maxLen := by
  obtain ⟨cs, h2, h3⟩ := own_elem H h0 h1
  rw [← nth_eq (by omega)] at h3
  obtain ⟨u, e, hs, hu⟩ := xattr_row.1 (is_st.2 ⟨cs.toArray, rfl, h3⟩ : Is g (.agg cs.toArray) (nth xs i))
  have : cs = [.string (nth xs i).v.1, u] := by
    have := congrArg (fun v => match v with | Value.agg x => x.toList | _ => []) e
    simpa using this
  rw [this] at h2
  exact ⟨u, h2, hu, hs⟩
theorem own_node {e : TypeId} {v : Value} {xs : List NodeD} {i : Int} (H : SL W g w (slA e v xs :: l)) (h0 : 0 ≤ i) (h1 : i < xs.length) : ∃ vn vd vx, ElemAt w 10 v i [vn, .int .i64 (nth xs i).ino, .int .i64 (nth xs i).kind, .int .i64 (nth xs i).mode, .int .i64 (nth xs i).uid, .int .i64 (nth xs i).gid, vd, .string (nth xs i).target, vx, .bool (nth xs i).opq] ∧
    Is g vn (nth xs i).names ∧ Is g vd (nth xs i).data ∧ Is g vx (nth xs i).xattrs ∧ (nth xs i).target.size ≤ maxLen := by
  obtain ⟨cs, h2, h3⟩ := own_elem H h0 h1
  rw [← nth_eq (by omega)] at h3
  obtain ⟨vn, vd, vx, e, q1, q2, q3, q4, _⟩ := node_row.1 (is_st.2 ⟨cs.toArray, rfl, h3⟩ : Is g (.agg cs.toArray) (nth xs i))
  have : cs = [vn, .int .i64 (nth xs i).ino, .int .i64 (nth xs i).kind, .int .i64 (nth xs i).mode, .int .i64 (nth xs i).uid, .int .i64 (nth xs i).gid, vd, .string (nth xs i).target, vx, .bool (nth xs i).opq] := by
    have := congrArg (fun v => match v with | Value.agg x => x.toList | _ => []) e
    simpa using this
  rw [this] at h2
  exact ⟨vn, vd, vx, h2, q1, q2, q3, q4⟩
theorem flatten_set {size : Nat} {c : Value} : ∀ (cs : List (List Value)) (i off : Nat), (∀ x ∈ cs, x.length = size) → off < size → ∀ (hi : i < cs.length), (cs.set i ((cs[i]).set off c)).flatten = cs.flatten.set (i * size + off) c
  | [], i, off, _, _, hi => by simp at hi
  | x :: cs, 0, off, h, ho, _ => by
    have hx := h x (by simp)
    simp only [List.set_cons_zero, List.getElem_cons_zero, List.flatten_cons, Nat.zero_mul, Nat.zero_add]
    rw [List.set_append_left _ _ (by omega)]
  | x :: cs, i + 1, off, h, ho, hi => by
    have hx := h x (by simp)
    simp only [List.set_cons_succ, List.getElem_cons_succ, List.flatten_cons]
    rw [flatten_set cs i off (fun y hy => h y (by simp [hy])) ho (by simpa using hi)]
    rw [List.set_append_right _ _ (by rw [hx, Nat.add_mul]; omega)]
    congr 2
    rw [hx, Nat.add_mul]; omega
theorem RelL.set {α : Type} [GoRep α] {x' : α} : ∀ {cs : List (List Value)} {xs : List α} (i : Nat) (c' : List Value), RelL g cs xs → GoRep.rel g c' x' → RelL g (cs.set i c') (xs.set i x')
  | [], [], i, c', _, _ => by simp [RelL]
  | c :: cs, x :: xs, 0, c', h, hr => ⟨hr, h.2⟩
  | c :: cs, x :: xs, i + 1, c', h, hr => ⟨h.1, RelL.set i c' h.2 hr⟩
theorem RelL.at {α : Type} [GoRep α] : ∀ {cs : List (List Value)} {xs : List α} (i : Nat) (hi : i < xs.length) (hc : i < cs.length), RelL g cs xs → GoRep.rel g cs[i] xs[i]
  | c :: cs, x :: xs, 0, _, _, h => h.1
  | c :: cs, x :: xs, i + 1, hi, hc, h => RelL.at i (by simpa using hi) (by simpa using hc) h.2
theorem RelL.lens {α : Type} [GoRep α] : ∀ {cs : List (List Value)} {xs : List α}, RelL g cs xs → ∀ c ∈ cs, c.length = GoRep.size α
  | [], [], _, c, hc => by cases hc
  | c :: cs, x :: xs, h, y, hy => by
    rcases List.mem_cons.1 hy with rfl | hy
    · exact GoRep.len h.1
    · exact RelL.lens h.2 y hy
/-- A cell of an element is written. -/
theorem SL.slSet {α : Type} [GoRep α] {e t : TypeId} {v c : Value} {xs : List α} {i : Int} {off : Nat} {x' : α} (H : SL W g w (slA e v xs :: l)) (h0 : 0 ≤ i) (h1 : i < xs.length) (hoff : off < GoRep.size α) (hc1 : c.oneCell' = true) (hcc : c.cells = #[c]) (hst : (P.info? t).map (·.size) = some 1)
    (hx : ∀ cs, GoRep.rel g cs (xs[i.toNat]'(by omega)) → GoRep.rel g (cs.set off c) x') :
    ∃ w', (Instr.storeAt t (addP (elemP (GoRep.size α) v i) off) c).run P w = .ok () w' ∧ SL W g w' (slA e v (xs.set i.toNat x') :: l) := by
  obtain ⟨cs, r, H1⟩ := H.slO
  have hlen := RelL.length r
  rcases H1.ofRow with ⟨rfl, hn, _, _⟩ | ⟨k, cap, cur, rfl, q1, q2, q3, q4, H2⟩
  · omega
  have hi : i.toNat < xs.length := by omega
  have hic : i.toNat < cs.length := by omega
  have hcur : i.toNat * GoRep.size α + off < xs.length * GoRep.size α := by
    have : (i.toNat + 1) * GoRep.size α ≤ xs.length * GoRep.size α := Nat.mul_le_mul_right _ hi
    rw [Nat.add_mul] at this; omega
  have hcap : xs.length * GoRep.size α ≤ cap * GoRep.size α := Nat.mul_le_mul_right _ q1
  have hrun := run_store_row (P := P) (t := t) (off := i.toNat * GoRep.size α + off) (v := c) (H2.blk 0) (by rw [hcc]; exact hst) (by rw [hcc]; simp [hc1]) (by rw [hcc]; simp; omega)
  refine ⟨w.setRow k (cur.toList.take (i.toNat * GoRep.size α + off) ++ c.cells.toList ++ cur.toList.drop (i.toNat * GoRep.size α + off + c.cells.size)).toArray, ?_, ?_⟩
  · have hp : addP (elemP (GoRep.size α) (.slice (some ⟨k, 0, none⟩) xs.length cap) i) off = ptr k (i.toNat * GoRep.size α + off) := by
      show Value.pointer (some (((⟨k, 0, none⟩ : Addr).add (i.toNat * GoRep.size α)).add off)) = _
      rw [Go.Deep.add_add, Addr.add_mid, Nat.zero_add]
    rw [hp]; exact hrun
  · have e1 : (cur.toList.take (i.toNat * GoRep.size α + off) ++ c.cells.toList ++ cur.toList.drop (i.toNat * GoRep.size α + off + c.cells.size)) = cur.toList.set (i.toNat * GoRep.size α + off) c := by
      rw [hcc]
      rw [List.set_eq_take_append_cons_drop, if_pos (by simp; omega)]
      simp
    have u : Upd w k (cur.toList.set (i.toNat * GoRep.size α + off) c).toArray (w.setRow k (cur.toList.take (i.toNat * GoRep.size α + off) ++ c.cells.toList ++ cur.toList.drop (i.toNat * GoRep.size α + off + c.cells.size)).toArray) := ⟨by rw [e1], (H2.blk 0).lt⟩
    have H3 := H2.upd 0 u
    have H4 := SL.toRow (size := GoRep.size α) (cap := cap) xs.length H3 q1 q2 (by simp; omega)
    have e2 : ((cur.toList.set (i.toNat * GoRep.size α + off) c).toArray.toList.take (xs.length * GoRep.size α)) = (cs.set i.toNat ((cs[i.toNat]).set off c)).flatten := by
      rw [flatten_set (size := GoRep.size α) cs i.toNat off (fun x hx => RelL.lens r x hx) hoff hic, ← q4]
      simp only [List.take_set]
    rw [e2] at H4
    have hlx : (xs.set i.toNat x').length = xs.length := by simp
    refine SL.slI (cs := cs.set i.toNat ((cs[i.toNat]).set off c)) (r.set i.toNat _ (hx _ (r.at i.toNat hi hic))) ?_
    rw [hlx]; exact H4
theorem S_setElem {α : Type} [GoRep α] {ops : Array Oper} {rest : List Oper} {o : Oper} {n : Nat} {s : AL} {Q : Exit → Act → World → Prop} {p y : Operand} {e t : TypeId} {v c : Value} {xs : List α} {i : Int} {off : Nat} (x' : α) (H : SL W g w (slA e v xs :: l)) (h0 : 0 ≤ i) (h1 : i < xs.length) (hoff : off < GoRep.size α) (hc1 : c.oneCell' = true) (hcc : c.cells = #[c]) (hst : (P.info? t).map (·.size) = some 1)
    (hx : ∀ cs, GoRep.rel g cs (xs[i.toNat]'(by omega)) → GoRep.rel g (cs.set off c) x')
    (ho : o.op = .store t p y) (hp : ev s p = some (addP (elemP (GoRep.size α) v i) off)) (hy : ev s y = some c) (hw : wants ops s o = some true) (hd : o.dst = none)
    (k : ∀ w', SL W g w' (slA e v (xs.set i.toNat x') :: l) → wpR P ops rest n s Q w') : wpR P ops (o :: rest) n s Q w := by
  obtain ⟨w', hr, H'⟩ := H.slSet (P := P) (t := t) h0 h1 hoff hc1 hcc hst hx
  exact R_none (v := undef) hw (by simp [knows, noSel, ho, Op.operands, hp, hy]) hd (.inr (X_store ho (by simp [rho, hp]) (by simp [rho, hy]) hr)) (k w' H')
theorem xattr_set1 {cs : List Value} {x : XattrD} {u : Value} {l : List UInt8} (h : GoRep.rel g cs x) (hu : Is g u l) : GoRep.rel (α := XattrD) g (cs.set 1 u) ⟨(x.v.1, l, ⟨⟩)⟩ := by
  obtain ⟨u0, e, hs, _⟩ := xattr_row.1 (is_st.2 ⟨cs.toArray, rfl, h⟩ : Is g (.agg cs.toArray) x)
  have : cs = [.string x.v.1, u0] := by
    have := congrArg (fun v => match v with | Value.agg x => x.toList | _ => []) e
    simpa using this
  subst this
  exact row_str.2 ⟨[u], rfl, hs, row_list.2 ⟨u, [], rfl, hu, row_nil.2 rfl⟩⟩
theorem slice_form {α : Type} [GoRep α] {v : Value} {l : List α} (h : Is g v l) : ∃ a n c, v = .slice a n c := by
  rcases is_list.1 h with ⟨rfl, _⟩ | ⟨a, c, rfl, _⟩
  · exact ⟨_, _, _, rfl⟩
  · exact ⟨_, _, _, rfl⟩
theorem set_nth_self {α : Type} [Inhabited α] {xs : List α} {i : Int} (h0 : 0 ≤ i) (h1 : i < xs.length) : xs.set i.toNat (nth xs i) = xs := by
  rw [nth_eq (by omega)]; exact List.set_getElem_self _
theorem cells_is {α : Type} [GoRep α] {v : Value} {l : List α} (h : Is g v l) : v.cells = #[v] := by
  rcases is_list.1 h with ⟨rfl, _⟩ | ⟨a, c, rfl, _⟩ <;> rfl
end
end Go.Lm

/- Rows of bytes: made, copied into; the least and the greatest of two. General: no program in sight. -/
namespace Go.Lm
open Go Go.RowKit
section
variable {P : Program} {W : Base} {g w : World} {l : List Atom}
theorem X_min {ρ : Operand → Value} {o : Oper} {x y : Operand} {t u : TypeId} {a b : Int} {k : IntKind} (ho : o.op = .call { callee := .builtin .min, args := #[x, y], argTypes := #[t, u] }) (hx : ρ x = .int k a) (hy : ρ y = .int k b) : (execOp ρ o).run P w = .ok (.value (.int k (min a b))) w := by
  simp [execOp, ho, resolve, invoke, builtin, hx, hy, Builtin.min_, Builtin.min2]
  try (split <;> omega)
theorem X_max {ρ : Operand → Value} {o : Oper} {x y : Operand} {t u : TypeId} {a b : Int} {k : IntKind} (ho : o.op = .call { callee := .builtin .max, args := #[x, y], argTypes := #[t, u] }) (hx : ρ x = .int k a) (hy : ρ y = .int k b) : (execOp ρ o).run P w = .ok (.value (.int k (max a b))) w := by
  simp [execOp, ho, resolve, invoke, builtin, hx, hy, Builtin.max_, Builtin.max2]
  try (split <;> omega)
def bV (xs : List UInt8) : List Value := xs.map fun b => .int .u8 b.toNat
theorem relB : ∀ {cs : List (List Value)} {xs : List UInt8}, RelL g cs xs → cs.flatten = bV xs
  | [], [], _ => rfl
  | c :: cs, x :: xs, h => by
    have h1 : c = [.int .u8 x.toNat] := h.1
    rw [List.flatten_cons, relB h.2, h1]; rfl
theorem relB_mk : ∀ xs : List UInt8, RelL g (xs.map fun b => [Value.int .u8 b.toNat]) xs
  | [] => trivial
  | _ :: xs => ⟨rfl, relB_mk xs⟩
theorem flat_mk (xs : List UInt8) : (xs.map fun b => [Value.int .u8 b.toNat]).flatten = bV xs := by
  induction xs with
  | nil => rfl
  | cons x xs ih => rw [List.map_cons, List.flatten_cons, ih]; rfl
theorem SL.slB {e : TypeId} {v : Value} {xs : List UInt8} (H : SL W g w (rowA e 1 v xs.length (bV xs) :: l)) : SL W g w (slA e v xs :: l) := by
  refine SL.slI (cs := xs.map fun b => [Value.int .u8 b.toNat]) (relB_mk xs) ?_
  rw [flat_mk]; exact H
theorem SL.slBO {e : TypeId} {v : Value} {xs : List UInt8} (H : SL W g w (slA e v xs :: l)) : SL W g w (rowA e 1 v xs.length (bV xs) :: l) := by
  obtain ⟨cs, r, H1⟩ := H.slO
  rw [relB r] at H1
  exact H1
/-- What is copied into a row from place off on. -/
def copyL (xs : List UInt8) (off : Nat) (ys : List UInt8) : List UInt8 := xs.take off ++ ys.take (xs.length - off) ++ xs.drop (off + min ys.length (xs.length - off))
theorem copyL_length (xs : List UInt8) (off : Nat) (ys : List UInt8) (h : off ≤ xs.length) : (copyL xs off ys).length = xs.length := by
  unfold copyL; simp; omega
theorem sliceV_all (v : Value) (n : Nat) (k cap : Nat) (h : v = .slice (some ⟨k, 0, none⟩) n cap) : sliceV 1 v 0 n = v := by
  subst h
  unfold sliceV
  simp only [Int.toNat_zero, Nat.zero_mul, Nat.sub_zero, Int.toNat_natCast]
  split
  · rfl
  · simp [Addr.add]
theorem SL.copyB {e dT sT ty : TypeId} {k cap : Nat} {xs ys : List UInt8} {y : Value} {off : Int} (H : SL W g w (slA e (.slice (some ⟨k, 0, none⟩) xs.length cap) xs :: l)) (hy : Rd g w y ys) (h0 : 0 ≤ off) (h1 : off ≤ xs.length) (ht : P.underlying dT = some (.slice e)) (hs : (P.info? e).map (·.size) = some 1) :
    ∃ w', (Builtin.copy_ #[dT, sT] ty #[sliceV 1 (.slice (some ⟨k, 0, none⟩) xs.length cap) off xs.length, y]).run P w = .ok (.int .i64 (min ys.length (xs.length - off.toNat) : Nat)) w' ∧ SL W g w' (slA e (.slice (some ⟨k, 0, none⟩) xs.length cap) (copyL xs off.toNat ys) :: l) := by
  have H1 := H.slBO
  rcases H1.ofRow with ⟨h, _⟩ | ⟨k', cap', cur, hv, q1, q2, q3, q4, H2⟩
  · cases h
  cases hv
  rw [Nat.mul_one] at q4 q3
  have hlc : cur.toList.length = cap := by simpa using q3
  have hbx : (bV xs).length = xs.length := by simp [bV]
  -- the destination
  have hdst : ∃ o, sliceV 1 (.slice (some ⟨k, 0, none⟩) xs.length cap) off xs.length = .slice (some ⟨k, o, none⟩) (xs.length - off.toNat) (cap - off.toNat) ∧ (o = off.toNat ∨ (o = 0 ∧ xs.length - off.toNat = 0)) := by
    unfold sliceV
    simp only [Option.map_some, Int.toNat_natCast, Nat.mul_one]
    by_cases hc : cap = off.toNat
    · exact ⟨0, by rw [if_pos hc], .inr ⟨rfl, by omega⟩⟩
    · refine ⟨off.toNat, by rw [if_neg hc, Addr.add_mid, Nat.zero_add], .inl rfl⟩
  obtain ⟨o, hd, ho⟩ := hdst
  rw [hd]
  rcases hy with ⟨rfl, rfl⟩ | ⟨a, c, rfl, _, _, ds, hds, hcell⟩
  · have hr := run_copy_nil (P := P) w dT sT ty e ⟨k, o, none⟩ (xs.length - off.toNat) (cap - off.toNat) ht (by cases hq : P.info? e <;> simp_all)
    refine ⟨w, by rw [hr]; simp [goInt], ?_⟩
    have : copyL xs off.toNat [] = xs := by unfold copyL; simp
    rw [this]; exact H
  · have hfl := relB hds
    obtain ⟨m, hm⟩ : ∃ m, m = min ys.length (xs.length - off.toNat) := ⟨_, rfl⟩
    have hmN : Nat.min ys.length (xs.length - off.toNat) = m := hm.symm
    have hy1 : ((bV ys).take (xs.length - off.toNat)).length = m := by
      simp [bV]; omega
    have hr := run_copy_row (P := P) w dT sT ty e k o (xs.length - off.toNat) (cap - off.toNat) a ys.length c cur e ((bV ys).take (xs.length - off.toNat)) ht hs (H2.blk 0) (by rw [hmN]; exact hy1)
      (fun j u hj => by
        rw [List.getElem?_take] at hj
        split at hj
        · exact hcell j u (by rw [hfl]; exact hj)
        · cases hj)
      (by rw [hy1, ← Array.length_toList, hlc]; rcases ho with h | h <;> omega)
      (fun u hu => by
        have hu' := List.mem_of_mem_take hu
        unfold bV at hu'
        obtain ⟨b, _, rfl⟩ := List.mem_map.1 hu'
        rfl)
    rw [hy1] at hr
    rw [← hm]
    refine ⟨_, hr, ?_⟩
    have hu : Upd w k (cur.toList.take o ++ (bV ys).take (xs.length - off.toNat) ++ cur.toList.drop (o + m)).toArray (w.setRow k (cur.toList.take o ++ (bV ys).take (xs.length - off.toNat) ++ cur.toList.drop (o + m)).toArray) := ⟨rfl, (H2.blk 0).lt⟩
    have H3 := H2.upd 0 hu
    have hlen : (copyL xs off.toNat ys).length = xs.length := copyL_length _ _ _ (by omega)
    have H4 := SL.toRow (size := 1) (cap := cap) xs.length H3 q1 q2 (by
      simp only [List.size_toArray, List.length_append, List.length_drop, hlc, Nat.mul_one, hy1]
      rw [List.length_take, hlc]
      rcases ho with h | h <;> omega)
    have e1 : (cur.toList.take o ++ (bV ys).take (xs.length - off.toNat) ++ cur.toList.drop (o + m)).toArray.toList.take (xs.length * 1) = bV (copyL xs off.toNat ys) := by
      show (cur.toList.take o ++ (bV ys).take (xs.length - off.toNat) ++ cur.toList.drop (o + m)).take (xs.length * 1) = _
      rw [Nat.mul_one]
      unfold copyL
      rw [← hm]
      generalize hT : (bV ys).take (xs.length - off.toNat) = T at hy1
      have hR : bV (xs.take off.toNat ++ ys.take (xs.length - off.toNat) ++ xs.drop (off.toNat + m)) = (cur.toList.take xs.length).take off.toNat ++ T ++ (cur.toList.take xs.length).drop (off.toNat + m) := by
        rw [q4, ← hT]
        simp only [bV, List.map_append, List.map_take, List.map_drop]
      rw [hR]
      have ho' : cur.toList.take o ++ T ++ cur.toList.drop (o + m) = cur.toList.take off.toNat ++ T ++ cur.toList.drop (off.toNat + m) := by
        rcases ho with h | ⟨h, h2⟩
        · rw [h]
        · have hm0 : m = 0 := by omega
          have hT0 : T = [] := List.eq_nil_of_length_eq_zero (by omega)
          rw [hT0, h, hm0]
          simp
      rw [ho']
      rw [List.take_append, List.take_append, List.take_take, List.length_append, List.length_take, hy1, hlc]
      have m1 : min xs.length off.toNat = off.toNat := by omega
      have m2 : min off.toNat cap = off.toNat := by omega
      rw [m1, m2]
      have m3 : T.take (xs.length - off.toNat) = T := List.take_of_length_le (by omega)
      rw [m3]
      rw [List.take_take, List.drop_take]
      have m4 : min off.toNat xs.length = off.toNat := by omega
      rw [m4]
      first | done | (congr 2; done) | (congr 2; omega)
    rw [e1] at H4
    refine SL.slB ?_
    rw [hlen]; exact H4
theorem S_copyB {ops : Array Oper} {rest : List Oper} {n : Nat} {s : AL} {Q : Exit → Act → World → Prop} {o : Oper} {x z : Operand} {d : Nat} {e dT sT : TypeId} {k cap : Nat} {xs ys : List UInt8} {y v : Value} {off : Int} (H : SL W g w (slA e (.slice (some ⟨k, 0, none⟩) xs.length cap) xs :: l)) (hy : Rd g w y ys) (h0 : 0 ≤ off) (h1 : off ≤ xs.length) (ht : P.underlying dT = some (.slice e)) (hs : (P.info? e).map (·.size) = some 1)
    (hv : sliceV 1 (.slice (some ⟨k, 0, none⟩) xs.length cap) off xs.length = v)
    (ho : o.op = .call { callee := .builtin .copy, args := #[x, z], argTypes := #[dT, sT] }) (hx : ev s x = some v) (hz : ev s z = some y) (hw : wants ops s o = some true) (hd : o.dst = some d) (hn : Nat.blt d n = true)
    (kk : ∀ w', SL W g w' (slA e (.slice (some ⟨k, 0, none⟩) xs.length cap) (copyL xs off.toNat ys) :: l) → wpR P ops rest n ((d, .int .i64 (min ys.length (xs.length - off.toNat) : Nat)) :: s) Q w') : wpR P ops (o :: rest) n s Q w := by
  obtain ⟨w', hr, H'⟩ := H.copyB (P := P) (sT := sT) (ty := o.type) hy h0 h1 ht hs
  rw [hv] at hr
  exact R_val hw (by simp [knows, noSel, ho, Op.operands, Call.operands, hx, hz]) hd hn (by simp [execOp, ho, resolve, invoke, builtin, rho, hx, hz, hr]) (kk w' H')
theorem S_copyV {ops : Array Oper} {rest : List Oper} {n : Nat} {s : AL} {Q : Exit → Act → World → Prop} {o : Oper} {x z : Operand} {d : Nat} {e dT sT : TypeId} {k cap : Nat} {xs ys : List UInt8} {y v vd : Value} {off : Int} (H : SL W g w (slA e v xs :: l)) (hv0 : v = .slice (some ⟨k, 0, none⟩) xs.length cap) (hy : Rd g w y ys) (h0 : 0 ≤ off) (h1 : off ≤ xs.length) (ht : P.underlying dT = some (.slice e)) (hs : (P.info? e).map (·.size) = some 1)
    (hv : sliceV 1 v off xs.length = vd)
    (ho : o.op = .call { callee := .builtin .copy, args := #[x, z], argTypes := #[dT, sT] }) (hx : ev s x = some vd) (hz : ev s z = some y) (hw : wants ops s o = some true) (hd : o.dst = some d) (hn : Nat.blt d n = true)
    (kk : ∀ w', SL W g w' (slA e v (copyL xs off.toNat ys) :: l) → wpR P ops rest n ((d, .int .i64 (min ys.length (xs.length - off.toNat) : Nat)) :: s) Q w') : wpR P ops (o :: rest) n s Q w := by
  subst hv0
  exact S_copyB H hy h0 h1 ht hs hv ho hx hz hw hd hn kk
theorem sliceV_at {v : Value} {n k cap : Nat} (h : v = .slice (some ⟨k, 0, none⟩) n cap) : sliceV 1 v 0 n = v := sliceV_all v n k cap h
theorem S_makeB {ops : Array Oper} {rest : List Oper} {n : Nat} {s : AL} {Q : Exit → Act → World → Prop} {o : Oper} {x z : Operand} {d : Nat} {t e : TypeId} {c : Int} (H : SL W g w l) (ht : P.underlying t = some (.slice e)) (hi : (P.info? e).map (fun i => (i.size, i.bytes, i.zero)) = some (1, 1, some (.int .u8 0))) (h0 : 0 ≤ c) (h1 : c ≤ 281474976710656)
    (ho : o.op = .makeSlice t x z) (hx : ev s x = some (.int .i64 c)) (hz : ev s z = some (.int .i64 c)) (hw : wants ops s o = some true) (hd : o.dst = some d) (hn : Nat.blt d n = true)
    (kk : ∀ b w', SL W g w' (slA e (.slice (some ⟨b, 0, none⟩) c.toNat c.toNat) (List.replicate c.toNat (0 : UInt8)) :: l) → wpR P ops rest n ((d, .slice (some ⟨b, 0, none⟩) c.toNat c.toNat) :: s) Q w') : wpR P ops (o :: rest) n s Q w := by
  cases hq : P.info? e with
  | none => simp [hq] at hi
  | some i =>
    simp only [hq, Option.map_some, Option.some.injEq, Prod.mk.injEq] at hi
    obtain ⟨hs, hb, hz0⟩ := hi
    have hr := run_make (P := P) w t e i (.int .u8 0) ht hq hz0 .i64 .i64 c c h0 (Int.le_refl _) (by rw [hb]; omega) (by omega)
    have hcells : madeCells (Value.int .u8 0).cells (c.toNat * i.size) = (bV (List.replicate c.toNat 0)).toArray := by
      rw [hs, Nat.mul_one]
      apply Array.ext_getElem?
      intro j
      simp only [madeCells, bV, Value.cells, List.map_replicate]
      by_cases hj : j < c.toNat
      · simp [hj, Nat.mod_one]
      · simp [hj]
    rw [hcells] at hr
    refine R_val hw (by simp [knows, noSel, ho, Op.operands, hx, hz]) hd hn (by simp [execOp, ho, rho, hx, hz, hr]; rfl) (kk w.heap.size _ ?_)
    have H1 := H.new (New.mk' w (.cells (bV (List.replicate c.toNat (0 : UInt8))).toArray e (0, 0)))
    have H2 := SL.toRow (size := 1) (cap := c.toNat) c.toNat H1 (Nat.le_refl _) (by unfold maxLen; omega) (by simp [bV])
    have e1 : (bV (List.replicate c.toNat (0 : UInt8))).toArray.toList.take (c.toNat * 1) = bV (List.replicate c.toNat 0) := by
      show (bV (List.replicate c.toNat (0 : UInt8))).take (c.toNat * 1) = _
      exact List.take_of_length_le (by simp [bV])
    rw [e1] at H2
    refine SL.slB ?_
    rw [List.length_replicate]; exact H2
end
end Go.Lm
