/- A region whose order is open: what only reads what stands fast may float; the rest keeps its order. General: no program in sight. -/
import Derived.Test.YtnmaehdklmgfmaaLmDraw
namespace Go.Lm
open Go Go.RowKit

def Only (K : Act → World → Prop) : Exit → Act → World → Prop := fun e a w => e = .normal ∧ K a w
/-- A list of operations, in its order; Φ holds ahead of each. -/
def wpListF (P : Program) (ops : Array Oper) (Q : Exit → Act → World → Prop) (e : Bool) (Φ : World → Prop) : List Oper → Act → World → Prop
  | [], a, w => ((e = true ∨ Φ w) ∧ a.defers = []) ∧ Q .normal a w
  | o :: rest, a, w => (Φ w ∧ a.defers = []) ∧ wpList P ops (Only (wpListF P ops Q e Φ rest)) [o] a w
theorem wpListF_head {P : Program} {ops : Array Oper} {Q : Exit → Act → World → Prop} {e : Bool} {Φ : World → Prop} {l : List Oper} {a : Act} {w : World} (h : wpListF P ops Q e Φ l a w) : ((e = true ∧ l = []) ∨ Φ w) ∧ a.defers = [] := by
  cases l with
  | nil => exact ⟨h.1.1.imp (fun h => ⟨h, rfl⟩) id, h.1.2⟩
  | cons o l => exact ⟨.inr h.1.1, h.1.2⟩
def wpRF (P : Program) (ops : Array Oper) (e : Bool) (Φ : World → Prop) (rest : List Oper) (n : Nat) (s : AL) (Q : Exit → Act → World → Prop) (w : World) : Prop := ∀ a, Fr n s a → wpListF P ops Q e Φ rest a w
section
variable {P : Program} {ops : Array Oper} {rest : List Oper} {o : Oper} {n : Nat} {s : AL} {Q : Exit → Act → World → Prop} {w : World} {e : Bool} {Φ : World → Prop}
theorem F_nil (h : e = true ∨ Φ w) (k : okE .normal n s Q w) : wpRF P ops e Φ [] n s Q w := fun a ha => ⟨⟨h, ha.defers⟩, k a ha⟩
theorem F_step (h : Φ w) (k : wpR P ops [o] n s (Only (wpListF P ops Q e Φ rest)) w) : wpRF P ops e Φ (o :: rest) n s Q w := fun a ha => ⟨⟨h, ha.defers⟩, k a ha⟩
theorem F_next (h : wpRF P ops e Φ rest n s Q w) : okE .normal n s (Only (wpListF P ops Q e Φ rest)) w := fun a ha => ⟨rfl, h a ha⟩

def fill (fl : AL) (a : Act) : Act := { a with tmps := a.tmps.mapIdx fun t x => (look fl t).getD x }
theorem fill_get (fl : AL) (a : Act) (t : Nat) : (fill fl a).tmps[t]? = a.tmps[t]?.map fun x => (look fl t).getD x := by simp [fill]
theorem fill_size (fl : AL) (a : Act) : (fill fl a).tmps.size = a.tmps.size := by simp [fill]
theorem fill_same {fl : AL} {a : Act} {t : Nat} (h : ∀ v, look fl t = some v → a.tmps.getD t undef = v) : (fill fl a).tmps[t]? = a.tmps[t]? := by
  rw [fill_get]
  cases ha : a.tmps[t]? with
  | none => rfl
  | some x =>
    cases hl : look fl t with
    | none => rfl
    | some v =>
      have := h v hl
      rw [Array.getD_eq_getD_getElem?, ha] at this
      simp at this
      simp [this]
theorem Act.ext' {a b : Act} (h1 : ∀ t : Nat, a.tmps[t]? = b.tmps[t]?) (h2 : a.defers = b.defers) : a = b := by
  cases a; cases b
  simp only at h1 h2
  subst h2
  congr 1
  exact Array.ext_getElem? h1
theorem fill_put {fl : AL} {a : Act} {d : Nat} {v : Value} (h : look fl d = none) : fill fl (a.put (some d) v) = (fill fl a).put (some d) v := by
  refine Act.ext' (fun t => ?_) rfl
  rw [fill_get]
  simp only [Act.put, Array.getElem?_setIfInBounds, fill_size]
  by_cases e : d = t
  · subst e
    simp only [if_true]
    split <;> simp [h]
  · simp only [e, if_false]
    rw [fill_get]
theorem fill_put_fl {fl : AL} {a : Act} {d : Nat} {v : Value} (h : look fl d = some v) : fill fl (a.put (some d) v) = fill fl a := by
  refine Act.ext' (fun t => ?_) rfl
  rw [fill_get, fill_get]
  simp only [Act.put, Array.getElem?_setIfInBounds]
  by_cases e : d = t
  · subst e
    simp only [if_true, h, Option.getD_some]
    by_cases hs : d < a.tmps.size
    · simp [hs]
    · simp [hs]
  · simp only [e, if_false]
theorem upon_fill {fl : AL} {a : Act} {K K' : Act → World → Prop} (hd : ∀ d, o.dst = some d → look fl d = none) (hK : ∀ a' w', K (fill fl a') w' → K' a' w') :
    ∀ r : Result Next, o.upon P (fill fl a) (fun a w => K a w) (Only K) r → o.upon P a K' Q r := fun r h => by
  have hp : ∀ v, (fill fl a).put o.dst v = fill fl (a.put o.dst v) := fun v => by
    cases hq : o.dst with
    | none => rfl
    | some d => rw [fill_put (hd d hq)]
  have hpd : ∀ (b : Act) v, (fill fl b).put o.dst v = fill fl (b.put o.dst v) := fun b v => by
    cases hq : o.dst with
    | none => rfl
    | some d => rw [fill_put (hd d hq)]
  cases r with
  | ok x w' =>
    cases x with
    | value v => simp only [Oper.upon] at h ⊢; rw [hp] at h; exact hK _ _ h
    | skip => simp only [Oper.upon] at h ⊢; rw [hp] at h; exact hK _ _ h
    | defer d =>
      simp only [Oper.upon] at h ⊢
      have e : ({ fill fl a with defers := d :: (fill fl a).defers } : Act) = fill fl { a with defers := d :: a.defers } := rfl
      rw [e, hpd] at h
      exact hK _ _ h
    | enter f args =>
      simp only [Oper.upon] at h ⊢
      refine Calls.mono h fun e w'' he => ?_
      cases e with
      | returned v => simp only at he ⊢; rw [hp] at he; exact hK _ _ he
      | panicked c => exact absurd he.1 (by simp)
      | outgrown => obtain ⟨_, _, he, _⟩ := he; cases he
    | row q args =>
      simp only [Oper.upon] at h ⊢
      refine Rows.mono h fun v w'' he => ?_
      rw [hp] at he; exact hK _ _ he
    | _ => exact absurd h (by simp [Oper.upon])
  | halt x w' =>
    cases x <;> simp only [Oper.upon] at h
    exact absurd h.1 (by simp)

theorem upon_mono2 {a : Act} {K K' : Act → World → Prop} {K0 : Act → World → Prop} (hK : ∀ a' w', K a' w' → K' a' w') : ∀ {r : Result Next}, o.upon P a K (Only K0) r → o.upon P a K' (Only K0) r := fun {r} h => by
  cases r with
  | ok x w' =>
    cases x with
    | value v => exact hK _ _ h
    | skip => exact hK _ _ h
    | defer d => exact hK _ _ h
    | enter f args =>
      simp only [Oper.upon] at h ⊢
      refine Calls.mono h fun e w'' he => ?_
      cases e with
      | returned v => exact hK _ _ he
      | panicked c => exact he
      | outgrown => exact he
    | row q args =>
      simp only [Oper.upon] at h ⊢
      exact Rows.mono h fun v w'' he => hK _ _ he
    | _ => exact absurd h (by simp [Oper.upon])
  | halt x w' =>
    cases x <;> simp only [Oper.upon] at h ⊢
    exact h
def noDefer (o : Oper) : Bool := match o.op with | .defer .. => false | _ => true
theorem upon_fill2 {fl : AL} {a : Act} {K K' : Act → World → Prop} (hd : ∀ d, o.dst = some d → look fl d = none) (hK : ∀ (a' : Act) (v : Value) (w' : World), a'.defers = a.defers → a'.tmps = a.tmps → K (fill fl (a'.put o.dst v)) w' → K' (a'.put o.dst v) w') :
    ∀ r : Result Next, (∀ a w, K a w → a.defers = []) → o.upon P (fill fl a) (fun a w => K a w) (Only K) r → o.upon P a K' Q r := fun r hnd h => by
  have hp : ∀ v, (fill fl a).put o.dst v = fill fl (a.put o.dst v) := fun v => by
    cases hq : o.dst with
    | none => rfl
    | some d => rw [fill_put (hd d hq)]
  cases r with
  | ok x w' =>
    cases x with
    | value v => simp only [Oper.upon] at h ⊢; rw [hp] at h; exact hK a v _ rfl rfl h
    | skip => simp only [Oper.upon] at h ⊢; rw [hp] at h; exact hK a _ _ rfl rfl h
    | defer d =>
      simp only [Oper.upon] at h
      have := hnd _ _ h
      cases hq : o.dst <;> rw [hq] at this <;> simp [Act.put] at this
    | enter f args =>
      simp only [Oper.upon] at h ⊢
      refine Calls.mono h fun e w'' he => ?_
      cases e with
      | returned v => simp only at he ⊢; rw [hp] at he; exact hK a v _ rfl rfl he
      | panicked c => exact absurd he.1 (by simp)
      | outgrown => obtain ⟨_, _, he, _⟩ := he; cases he
    | row q args =>
      simp only [Oper.upon] at h ⊢
      refine Rows.mono h fun v w'' he => ?_
      rw [hp] at he; exact hK a v _ rfl rfl he
    | _ => exact absurd h (by simp [Oper.upon])
  | halt x w' =>
    cases x <;> simp only [Oper.upon] at h
    exact absurd h.1 (by simp)

/-- Which operation floats, and what it yields. -/
abbrev flAt (fl : List (Option Value)) (i : Nat) : Option Value := (fl[i]?).getD none
def fils : List Oper → List (Option Value) → AL
  | o :: l, some v :: fl => match o.dst with | some d => (d, v) :: fils l fl | none => fils l fl
  | _ :: l, none :: fl => fils l fl
  | _, _ => []
def isFl (fl : List (Option Value)) (i : Nat) : Bool := (flAt fl i).isSome
def slotsOf (ops : Array Oper) (o : Oper) : List Nat := (o.op.operands.toList.filterMap fun x => match x with | .tmp t => some t | _ => none) ++ (match o.guard with | some (g, _) => (match (ops[g]?).bind (·.dst) with | some d => [d] | none => []) | none => [])
/-- Floats wait for floats alone, and yield something; what reads what a float yields waits for it; the others keep their order. -/
def floatsOk (ops : Array Oper) (fl : List (Option Value)) : Bool := (List.range ops.size).all fun i => match ops[i]? with
  | none => true
  | some o => if isFl fl i then o.dst.isSome && o.after.all (fun e => !Region.binds .any e || isFl fl e.on)
    else (List.range i).all (fun k => isFl fl k || reach ops ops.size i k) && (List.range ops.size).all fun k => !isFl fl k || match (ops[k]?).bind (·.dst) with
      | none => true
      | some d => !(slotsOf ops o).contains d || reach ops ops.size i k
/-- The last that keeps its order waits for all others. -/
def lastOk (ops : Array Oper) (fl : List (Option Value)) : Bool := (List.range ops.size).all fun i => isFl fl i || (List.range ops.size).any (fun k => Nat.blt i k && !isFl fl k) || (List.range ops.size).all fun k => Nat.beq k i || reach ops ops.size i k
def exactR (fl : List (Option Value)) : List RP := fl.map fun f => match f with | some v => fun _ u => u = v | none => fun _ _ => True
def FStep (P : Program) (ops : Array Oper) (Φ : World → Prop) (n : Nat) (s : AL) (fl : List (Option Value)) (j : Nat) (o : Oper) : Prop := ∀ v, flAt fl j = some v →
  ∀ (a : Act) (w : World), Φ w → Fr n (freeAL ops j s) a → DepAll ops (exactR fl) w a o.after.toList → (Region.wanted o (yielded ops a.tmps) = true → (execOp a.eval o).run P w = .ok (.value v) w) ∧ (Region.wanted o (yielded ops a.tmps) = false → v = undef)
def FAll (P : Program) (ops : Array Oper) (Φ : World → Prop) (n : Nat) (s : AL) (fl : List (Option Value)) : Nat → List Oper → Prop
  | _, [] => True
  | j, o :: r => FStep P ops Φ n s fl j o ∧ FAll P ops Φ n s fl (j + 1) r
theorem FAll.get {fl : List (Option Value)} : ∀ (l : List Oper) (j : Nat), FAll P ops Φ n s fl j l → ∀ i o, l[i]? = some o → FStep P ops Φ n s fl (j + i) o
  | [], _, _, i, o, h => by simp at h
  | x :: r, j, h, 0, o, ho => by
    have : x = o := by simpa using ho
    subst this; exact h.1
  | x :: r, j, h, i + 1, o, ho => by
    have := FAll.get r (j + 1) h.2 i o (by simpa using ho)
    rw [show j + (i + 1) = j + 1 + i from by omega]; exact this
/-- The operations that keep their order, from K on. -/
def keepFrom (ops : Array Oper) (fl : List (Option Value)) (K : Nat) : List Oper := ((List.range ops.size).filter fun i => decide (K ≤ i) && !isFl fl i).filterMap fun i => ops[i]?

theorem look_fils : ∀ {l : List Oper} {fl : List (Option Value)} {t : Nat} {v : Value}, look (fils l fl) t = some v → ∃ (k : Nat) (o : Oper), l[k]? = some o ∧ o.dst = some t ∧ flAt fl k = some v
  | [], fl, t, v, h => by cases fl <;> simp [fils, look] at h
  | o :: l, [], t, v, h => by simp [fils, look] at h
  | o :: l, none :: fl, t, v, h => by
    obtain ⟨k, o', h1, h2, h3⟩ := look_fils (l := l) (fl := fl) (by simpa [fils] using h)
    exact ⟨k + 1, o', by simpa using h1, h2, by simpa [flAt] using h3⟩
  | o :: l, some u :: fl, t, v, h => by
    have rest : look (fils l fl) t = some v → ∃ (k : Nat) (o' : Oper), (o :: l)[k]? = some o' ∧ o'.dst = some t ∧ flAt (some u :: fl) k = some v := fun h => by
      obtain ⟨k, o', h1, h2, h3⟩ := look_fils (l := l) (fl := fl) h
      exact ⟨k + 1, o', by simpa using h1, h2, by simpa [flAt] using h3⟩
    simp only [fils] at h
    cases hd : o.dst with
    | none => rw [hd] at h; exact rest h
    | some d =>
      rw [hd] at h
      simp only [look] at h
      by_cases e : d = t
      · subst e
        have hb : Nat.beq d d = true := by simp
        rw [hb] at h
        exact ⟨0, o, rfl, hd, by simpa [flAt] using h⟩
      · rw [beq_ne e] at h
        exact rest h
theorem fils_look : ∀ {l : List Oper} {fl : List (Option Value)} {k : Nat} {o : Oper} {t : Nat} {v : Value}, l[k]? = some o → o.dst = some t → flAt fl k = some v → ∃ u, look (fils l fl) t = some u
  | [], fl, k, o, t, v, h, _, _ => by simp at h
  | x :: l, [], k, o, t, v, _, _, h => by simp [flAt] at h
  | x :: l, f :: fl, 0, o, t, v, h, hd, hf => by
    obtain rfl : x = o := by simpa using h
    have : f = some v := by simpa [flAt] using hf
    subst this
    refine ⟨v, ?_⟩
    simp [fils, hd, look]
  | x :: l, f :: fl, k + 1, o, t, v, h, hd, hf => by
    obtain ⟨u, hu⟩ := fils_look (l := l) (fl := fl) (k := k) (by simpa using h) hd (by simpa [flAt] using hf)
    cases f with
    | none => exact ⟨u, by simpa [fils] using hu⟩
    | some y =>
      simp only [fils]
      cases hx : x.dst with
      | none => exact ⟨u, hu⟩
      | some d =>
        simp only [look]
        by_cases e : d = t
        · subst e; exact ⟨y, by simp⟩
        · rw [beq_ne e]; exact ⟨u, hu⟩

structure FInv (ops : Array Oper) (fl : List (Option Value)) (n : Nat) (a₀ : Act) (K : Nat) (listed : Array Bool) (a : Act) : Prop where
  lsize : listed.size = ops.size
  closed : ∀ (j : Nat) (o : Oper), ops[j]? = some o → listed.getD j false = true → ∀ e ∈ o.after, Region.binds .any e = true → listed.getD e.on false = true
  size : a.tmps.size = n
  defers : a.defers = []
  old : ∀ t, (∀ (k : Nat) (o : Oper), ops[k]? = some o → o.dst = some t → listed.getD k false = false) → a.tmps.getD t undef = a₀.tmps.getD t undef
  flo : ∀ (k : Nat) (o : Oper) (d : Tmp) (v : Value), ops[k]? = some o → o.dst = some d → flAt fl k = some v → listed.getD k false = true → a.tmps.getD d undef = v
  kept : ∀ i, i < ops.size → isFl fl i = false → (listed.getD i false = true ↔ i < K)

theorem keepFrom_nil {fl : List (Option Value)} {K : Nat} (h : ∀ i, i < ops.size → isFl fl i = false → i < K) : keepFrom ops fl K = [] := by
  unfold keepFrom
  rw [List.filter_eq_nil_iff.2 fun i hi => ?_]
  · rfl
  · have := List.mem_range.1 hi
    cases hf : isFl fl i with
    | true => simp
    | false => have := h i this hf; simp; omega
theorem filter_range_first {N i : Nat} {p : Nat → Bool} (hi : i < N) (hp : p i = true) (h : ∀ k, k < i → p k = false) : (List.range N).filter p = i :: (List.range N).filter fun k => decide (i + 1 ≤ k) && p k := by
  induction N with
  | zero => omega
  | succ N ih =>
    rw [List.range_succ, List.filter_append, List.filter_append]
    by_cases hiN : i < N
    · rw [ih hiN]
      simp only [List.cons_append, List.cons.injEq, true_and]
      congr 1
      have hNi : i + 1 ≤ N := hiN
      by_cases hpN : p N = true
      · simp [hpN, hNi]
      · simp [hpN]
    · have e : i = N := by omega
      rw [← e]
      have e1 : (List.range i).filter p = [] := List.filter_eq_nil_iff.2 fun k hk => by have := h k (List.mem_range.1 hk); simp [this]
      have e2 : (List.range i).filter (fun k => decide (i + 1 ≤ k) && p k) = [] := List.filter_eq_nil_iff.2 fun k hk => by have := List.mem_range.1 hk; simp; omega
      rw [e1, e2]
      simp [hp]
theorem keepFrom_cons {fl : List (Option Value)} {K i : Nat} {o : Oper} (ho : ops[i]? = some o) (hi : isFl fl i = false) (hK : K ≤ i) (h : ∀ k, k < i → isFl fl k = false → k < K) : keepFrom ops fl K = o :: keepFrom ops fl (i + 1) := by
  have hlt : i < ops.size := (Array.getElem?_eq_some_iff.1 ho).1
  unfold keepFrom
  rw [filter_range_first hlt (p := fun k => decide (K ≤ k) && !isFl fl k) (by simp [hK, hi]) fun k hk => by
    cases hf : isFl fl k with
    | true => simp
    | false => have := h k hk hf; simp; omega]
  rw [List.filterMap_cons, ho]
  simp only [List.cons.injEq, true_and]
  congr 1
  apply List.filter_congr
  intro k _
  by_cases hk : i + 1 ≤ k
  · have : K ≤ k := by omega
    simp [hk, this]
  · simp [hk]
set_option maxHeartbeats 800000 in
theorem any_float {fl : List (Option Value)} {a₀ : Act} {l : List Oper} (hl : ops = l.toArray) (hE : edgesOk ops = true) (hD : dstsOk ops n = true) (hF : floatsOk ops fl = true) (hLast : e = true → lastOk ops fl = true) (ha₀ : Fr n s a₀)
    (hop : FAll P ops Φ n s fl 0 l) : ∀ (fuel : Nat) (listed : Array Bool) (a : Act) (w : World) (K : Nat), FInv ops fl n a₀ K listed a → (Φ w ∨ ∀ i, i < ops.size → listed.getD i false = true) → wpListF P ops Q e Φ (keepFrom ops fl K) (fill (fils l fl) a) w →
      ((List.range ops.size).filter fun i => !listed.getD i true).length ≤ fuel → wpAny P .any ops Q fuel listed a w := by
  have edges : ∀ (i : Nat) (o : Oper), ops[i]? = some o → ∀ e ∈ o.after, Region.binds .any e = true → e.on < i := fun i o ho e he hb => by
    have hi : i < ops.size := (Array.getElem?_eq_some_iff.1 ho).1
    have h1 := List.all_eq_true.1 hE i (List.mem_range.2 hi)
    simp only [ho, Bool.and_eq_true] at h1
    have h2 := (Array.all_eq_true_iff_forall_mem.1 h1.1) e he
    simpa [hb] using h2
  have sel : ∀ (i : Nat) (o : Oper), ops[i]? = some o → noSel o = true := fun i o ho => by
    have hi : i < ops.size := (Array.getElem?_eq_some_iff.1 ho).1
    have h1 := List.all_eq_true.1 hE i (List.mem_range.2 hi)
    simp only [ho, Bool.and_eq_true] at h1
    exact h1.2
  have dlt : ∀ (i : Nat) (o : Oper) (d : Tmp), ops[i]? = some o → o.dst = some d → d < n := fun i o d ho hd => by
    have hi : i < ops.size := (Array.getElem?_eq_some_iff.1 ho).1
    have h1 := List.all_eq_true.1 hD i (List.mem_range.2 hi)
    simp only [ho, Option.bind_some, hd, Bool.and_eq_true] at h1
    simpa using h1.1
  have dne' : ∀ (i j : Nat) (oi oj : Oper) (d : Tmp), j < i → ops[i]? = some oi → ops[j]? = some oj → oi.dst = some d → oj.dst = some d → False := fun i j oi oj d hji hi hj hdi hdj => by
    have hi' : i < ops.size := (Array.getElem?_eq_some_iff.1 hi).1
    have h1 := List.all_eq_true.1 hD i (List.mem_range.2 hi')
    simp only [hi, Option.bind_some, hdi, Bool.and_eq_true] at h1
    have h2 := List.all_eq_true.1 h1.2 j (List.mem_range.2 hji)
    simp [hj, hdj] at h2
  have dne : ∀ (i j : Nat) (oi oj : Oper) (d : Tmp), ops[i]? = some oi → ops[j]? = some oj → oi.dst = some d → oj.dst = some d → i = j := fun i j oi oj d hi hj hdi hdj => by
    rcases Nat.lt_trichotomy i j with h | h | h
    · exact (dne' j i oj oi d h hj hi hdj hdi).elim
    · exact h
    · exact (dne' i j oi oj d h hi hj hdi hdj).elim
  have unl : ∀ (listed : Array Bool) i, i < listed.size → (listed.getD i true = false ↔ listed.getD i false = false) := fun listed i hi => by
    simp [Array.getD_eq_getD_getElem?, hi]
  have lop : ∀ i : Nat, l[i]? = ops[i]? := fun i => by rw [hl]; simp
  have flook : ∀ (k : Nat) (o : Oper) (d : Tmp) (v : Value), ops[k]? = some o → o.dst = some d → flAt fl k = some v → look (fils l fl) d = some v := fun k o d v ho hd hv => by
    obtain ⟨u, hu⟩ := fils_look (l := l) (fl := fl) (by rw [lop]; exact ho) hd hv
    obtain ⟨k', o', h1, h2, h3⟩ := look_fils hu
    have := dne k k' o o' d ho (by rw [← lop]; exact h1) hd h2
    subst this
    rw [hv] at h3
    rw [hu]; exact h3.symm
  have done : ∀ (listed : Array Bool) (a : Act) (K : Nat), FInv ops fl n a₀ K listed a → Region.ready .any ops listed = [] → ∀ i, i < ops.size → listed.getD i false = true := by
    intro listed a K inv hr i
    induction i using Nat.strongRecOn with
    | _ i ih =>
      intro hi
      cases hl : listed.getD i false with
      | true => rfl
      | false =>
        exfalso
        have hu : listed.getD i true = false := (unl listed i (by rw [inv.lsize]; exact hi)).2 hl
        have hmem : i ∈ Region.ready .any ops listed := mem_ready.2 ⟨hu, ops[i], by simp [hi], fun e he hb => by
          have hlt := edges i ops[i] (by simp [hi]) e he hb
          exact ih e.on hlt (by omega)⟩
        rw [hr] at hmem
        cases hmem
  have fin : ∀ (listed : Array Bool) (a : Act) (w : World) (K : Nat), FInv ops fl n a₀ K listed a → wpListF P ops Q e Φ (keepFrom ops fl K) (fill (fils l fl) a) w → Region.ready .any ops listed = [] → Q .normal a w := fun listed a w K inv hk hr => by
    have hall := done listed a K inv hr
    rw [keepFrom_nil fun i hi hf => (inv.kept i hi hf).1 (hall i hi)] at hk
    have e : fill (fils l fl) a = a := Act.ext' (fun t => fill_same fun v hv => by
      obtain ⟨k, o, h1, h2, h3⟩ := look_fils hv
      have h1' : ops[k]? = some o := by rw [← lop]; exact h1
      exact inv.flo k o t v h1' h2 h3 (hall k (Array.getElem?_eq_some_iff.1 h1').1)) rfl
    rw [e] at hk
    exact hk.2
  intro fuel
  induction fuel with
  | zero =>
    intro listed a w K inv hΦ hk hc
    have hr : Region.ready .any ops listed = [] := by
      cases hr : Region.ready .any ops listed with
      | nil => rfl
      | cons i r =>
        exfalso
        have hmem : i ∈ Region.ready .any ops listed := by rw [hr]; simp
        obtain ⟨hu, o, ho, _⟩ := mem_ready.1 hmem
        have : i ∈ (List.range ops.size).filter fun i => !listed.getD i true := List.mem_filter.2 ⟨List.mem_range.2 (Array.getElem?_eq_some_iff.1 ho).1, by simp [hu]⟩
        have := List.length_pos_of_mem this
        omega
    exact ⟨hr, fin listed a w K inv hk hr⟩
  | succ fuel ih =>
    intro listed a w K inv hΦ hk hc
    refine ⟨fin listed a w K inv hk, fun i hi => ?_⟩
    obtain ⟨hu, o, ho, hdeps⟩ := mem_ready.1 hi
    have hlt : i < ops.size := (Array.getElem?_eq_some_iff.1 ho).1
    have hlt' : i < listed.size := by rw [inv.lsize]; exact hlt
    have hul : listed.getD i false = false := (unl listed i hlt').1 hu
    have hΦ : Φ w := by
      rcases hΦ with h | h
      · exact h
      · rw [h i hlt] at hul; cases hul
    have hcount : ((List.range ops.size).filter fun k => !(listed.setIfInBounds i true).getD k true).length ≤ fuel := by
      have := filter_lt (p := fun k => !listed.getD k true) (q := fun k => !(listed.setIfInBounds i true).getD k true) (List.range ops.size) (fun x _ hx => by
          by_cases hxi : i = x
          · subst hxi; simpa using hu
          · simpa [getD_set_ne true hxi] using hx) i (List.mem_range.2 hlt) (by simp [hu]) (by simp [Array.getD_eq_getD_getElem?, hlt'])
      omega
    have set_get : ∀ k, (listed.setIfInBounds i true).getD k false = true → k ≠ i → listed.getD k false = true := fun k hk hne => by
      rwa [getD_set_ne false (Ne.symm hne)] at hk
    have closed' : ∀ (j : Nat) (oj : Oper), ops[j]? = some oj → (listed.setIfInBounds i true).getD j false = true → ∀ e ∈ oj.after, Region.binds .any e = true → (listed.setIfInBounds i true).getD e.on false = true := fun j oj hj hlj e he hb => by
      by_cases hji : j = i
      · subst hji
        rw [ho] at hj
        obtain rfl := Option.some.inj hj
        exact getD_set_true (hdeps e he hb)
      · exact getD_set_true (inv.closed j oj hj (set_get j hlj hji) e he hb)
    have next : ∀ (a' : Act) (v : Value) (K' : Nat), a'.tmps = a.tmps → a'.defers = a.defers → (∀ d u, o.dst = some d → flAt fl i = some u → v = u) → (∀ k, k < ops.size → isFl fl k = false → ((listed.setIfInBounds i true).getD k false = true ↔ k < K')) → FInv ops fl n a₀ K' (listed.setIfInBounds i true) (a'.put o.dst v) := fun a' v K' hat had hv hkk => by
      have hput : ∀ t, o.dst ≠ some t → (a'.put o.dst v).tmps.getD t undef = a.tmps.getD t undef := fun t ht => by
        cases hod : o.dst with
        | none => simp [Act.put, hat]
        | some d =>
          have : d ≠ t := fun e => ht (by rw [hod, e])
          simp [Act.put, hat, Array.getD_eq_getD_getElem?, Array.getElem?_setIfInBounds_ne this]
      refine ⟨by simp [inv.lsize], closed', ?_, ?_, fun t ht => ?_, fun k ok d u hk hdk hfk hlk => ?_, hkk⟩
      · cases hod : o.dst <;> simp [Act.put, hat, inv.size]
      · cases hod : o.dst <;> simp [Act.put, had, inv.defers]
      · have hne : o.dst ≠ some t := fun e => by
          have := ht i o ho e
          simp [Array.getD_eq_getD_getElem?, hlt'] at this
        rw [hput t hne]
        refine inv.old t fun k ok hk hdk => ?_
        have := ht k ok hk hdk
        by_cases hki : i = k
        · subst hki; exact hul
        · rwa [getD_set_ne false hki] at this
      · by_cases hki : k = i
        · subst hki
          rw [ho] at hk
          obtain rfl := Option.some.inj hk
          have hdn : d < a'.tmps.size := by rw [hat, inv.size]; exact dlt k o d ho hdk
          have : (a'.put o.dst v).tmps.getD d undef = v := by rw [hdk]; simp [Act.put, hdn]
          rw [this]
          exact hv d u hdk hfk
        · have hne : o.dst ≠ some d := fun e => hki (dne k i ok o d hk ho hdk e)
          rw [hput d hne]
          exact inv.flo k ok d u hk hdk hfk (set_get k hlk hki)
    have hFi := List.all_eq_true.1 hF i (List.mem_range.2 hlt)
    simp only [ho] at hFi
    unfold wpOp
    simp only [ho]
    cases hfi : isFl fl i with
    | true =>
      obtain ⟨v, hv⟩ : ∃ v, flAt fl i = some v := Option.isSome_iff_exists.1 hfi
      rw [hfi] at hFi
      simp only [if_true, Bool.and_eq_true] at hFi
      obtain ⟨d, hd⟩ := Option.isSome_iff_exists.1 hFi.1
      have h1 := FAll.get l 0 hop i o (by rw [lop]; exact ho)
      rw [Nat.zero_add] at h1
      have hfree : ∀ t, freeAt ops i t = true → a.tmps.getD t undef = a₀.tmps.getD t undef := fun t ht => inv.old t fun k ok hk hdk => by
        have hk' : k < ops.size := (Array.getElem?_eq_some_iff.1 hk).1
        have h1 := List.all_eq_true.1 ht k (List.mem_range.2 hk')
        simp only [hk, Option.bind_some, hdk] at h1
        cases hlk : listed.getD k false with
        | false => rfl
        | true =>
          exfalso
          have hbt : Nat.beq t t = true := by simp
          simp only [hbt, Bool.not_true, Bool.false_or, Bool.or_eq_true] at h1
          rcases h1 with h1 | h1
          · have := Nat.eq_of_beq_eq_true h1
            subst this
            rw [hul] at hlk; cases hlk
          · have := reach_listed inv.closed _ _ _ h1 hlk
            rw [hul] at this; cases this
      have h2 := h1 v hv a w hΦ ⟨inv.size, inv.defers, fun t u ht => by
        obtain ⟨q1, q2⟩ := look_filter ht
        rw [hfree t q1]; exact ha₀.has t u q2⟩ (DepAll.mk _ fun e he hb oe de hoe hde => by
          have he' : e ∈ o.after := by simpa using he
          have hle := hdeps e he' hb
          have hfe : isFl fl e.on = true := by
            have := (Array.all_eq_true_iff_forall_mem.1 hFi.2) e he'
            simpa [hb] using this
          obtain ⟨u, hu⟩ := Option.isSome_iff_exists.1 hfe
          have := inv.flo e.on oe de u hoe hde hu hle
          have hR : getR (exactR fl) e.on = fun _ x => x = u := by
            unfold getR exactR
            rw [List.getElem?_map]
            have hu' : fl[e.on]? = some (some u) := by
              unfold flAt at hu
              cases hq : fl[e.on]? with
              | none => rw [hq] at hu; cases hu
              | some z => rw [hq] at hu; simp at hu; rw [hu]
            rw [hu']; rfl
          rw [hR]; exact this)
      have hfill : fill (fils l fl) (a.put (some d) v) = fill (fils l fl) a := fill_put_fl (flook i o d v ho hd hv)
      have hkk : ∀ k, k < ops.size → isFl fl k = false → ((listed.setIfInBounds i true).getD k false = true ↔ k < K) := fun k hk hfk => by
        have hne : i ≠ k := fun e => by rw [← e, hfi] at hfk; cases hfk
        rw [getD_set_ne false hne]; exact inv.kept k hk hfk
      have go : wpAny P .any ops Q fuel (listed.setIfInBounds i true) (a.put o.dst v) w := by
        refine ih _ _ _ K (next a v K rfl rfl (fun _ u _ hu => by rw [hv] at hu; exact Option.some.inj hu) hkk) (.inl hΦ) ?_ hcount
        rw [hd, hfill]; exact hk
      split
      · rename_i hw
        left
        unfold Oper.wp
        rw [h2.1 hw]
        exact go
      · rename_i hw
        have := h2.2 (by simpa using hw)
        rw [← this]; exact go
    | false =>
      rw [hfi] at hFi
      simp only [Bool.false_eq_true, if_false, Bool.and_eq_true] at hFi
      have hreach : ∀ k, ops[k]? ≠ none → reach ops ops.size i k = true → listed.getD k false = true := fun k hk hr => by
        obtain ⟨f, hf⟩ : ∃ f, ops.size = f + 1 := ⟨ops.size - 1, by omega⟩
        rw [hf] at hr
        unfold reach at hr
        simp only [ho] at hr
        obtain ⟨q, hq, hb⟩ := Array.any_eq_true.1 hr
        simp only [Bool.and_eq_true, Bool.or_eq_true] at hb
        have hl := hdeps _ (Array.getElem_mem hq) hb.1
        rcases hb.2 with he | he
        · rw [← Nat.eq_of_beq_eq_true he]; exact hl
        · exact reach_listed inv.closed f _ _ he hl
      have hKi : K ≤ i := by
        rcases Nat.lt_or_ge i K with h | h
        · have := (inv.kept i hlt hfi).2 h
          rw [hul] at this; cases this
        · exact h
      have hbefore : ∀ k, k < i → isFl fl k = false → k < K := fun k hk hfk => by
        have h1 := List.all_eq_true.1 hFi.1 k (List.mem_range.2 hk)
        rw [hfk] at h1
        simp only [Bool.false_or] at h1
        have hk' : k < ops.size := by omega
        exact (inv.kept k hk' hfk).1 (hreach k (by simp [hk']) h1)
      rw [keepFrom_cons ho hfi hKi hbefore] at hk
      obtain ⟨_, hk⟩ := hk
      -- what it reads is filled already
      have same : ∀ t, t ∈ slotsOf ops o → (fill (fils l fl) a).tmps[t]? = a.tmps[t]? := fun t ht => fill_same fun v hv => by
        obtain ⟨k, ok, q1, q2, q3⟩ := look_fils hv
        have q1' : ops[k]? = some ok := by rw [← lop]; exact q1
        have hk' : k < ops.size := (Array.getElem?_eq_some_iff.1 q1').1
        have h1 := List.all_eq_true.1 hFi.2 k (List.mem_range.2 hk')
        have hfk : isFl fl k = true := Option.isSome_iff_exists.2 ⟨v, q3⟩
        rw [hfk] at h1
        simp only [q1', Option.bind_some, q2, Bool.not_true, Bool.false_or, Bool.or_eq_true, Bool.not_eq_true'] at h1
        rcases h1 with h1 | h1
        · rw [List.contains_eq_mem] at h1
          simp [ht] at h1
        · exact inv.flo k ok t v q1' q2 q3 (hreach k (by simp [hk']) h1)
      have hev : execOp (fill (fils l fl) a).eval o = execOp a.eval o := execOp_congr o (fun cs b hb => by
        have := sel i o ho
        simp [noSel, hb] at this) fun x hx => by
          cases x with
          | tmp t =>
            have hm : t ∈ slotsOf ops o := by
              unfold slotsOf
              refine List.mem_append_left _ (List.mem_filterMap.2 ⟨.tmp t, by simpa using hx, rfl⟩)
            have := same t hm
            simp only [Act.eval, Array.getD_eq_getD_getElem?, this]
          | const _ => rfl
          | global _ => rfl
          | func _ => rfl
      have hwant : Region.wanted o (yielded ops (fill (fils l fl) a).tmps) = Region.wanted o (yielded ops a.tmps) := by
        unfold Region.wanted
        cases hg : o.guard with
        | none => rfl
        | some gq =>
          obtain ⟨gi, want⟩ := gq
          have : yielded ops (fill (fils l fl) a).tmps gi = yielded ops a.tmps gi := by
            unfold yielded
            cases hgo : (ops[gi]?).bind (·.dst) with
            | none => rfl
            | some d =>
              have hm : d ∈ slotsOf ops o := by
                unfold slotsOf
                refine List.mem_append_right _ ?_
                rw [hg]; simp [hgo]
              simp [same d hm]
          simp [this]
      have hdn : ∀ d, o.dst = some d → look (fils l fl) d = none := fun d hd => by
        cases hq : look (fils l fl) d with
        | none => rfl
        | some v =>
          obtain ⟨k, ok, q1, q2, q3⟩ := look_fils hq
          have := dne k i ok o d (by rw [← lop]; exact q1) ho q2 hd
          subst this
          unfold isFl at hfi
          rw [q3] at hfi; cases hfi
      have hkk : ∀ k, k < ops.size → isFl fl k = false → ((listed.setIfInBounds i true).getD k false = true ↔ k < i + 1) := fun k hk hfk => by
        by_cases e : i = k
        · subst e
          simp [Array.getD_eq_getD_getElem?, hlt']
        · rw [getD_set_ne false e, inv.kept k hk hfk]
          constructor
          · intro h; omega
          · intro h; exact hbefore k (by omega) hfk
      have hallL : e = true → keepFrom ops fl (i + 1) = [] → ∀ k, k < ops.size → (listed.setIfInBounds i true).getD k false = true := fun he hnil k hk => by
        by_cases hki : i = k
        · subst hki; simp [Array.getD_eq_getD_getElem?, hlt']
        · rw [getD_set_ne false hki]
          have h1 := List.all_eq_true.1 (hLast he) i (List.mem_range.2 hlt)
          rw [hfi] at h1
          simp only [Bool.false_or, Bool.or_eq_true] at h1
          rcases h1 with h1 | h1
          · exfalso
            obtain ⟨q, hq, hqq⟩ := List.any_eq_true.1 h1
            simp only [Bool.and_eq_true, Bool.not_eq_true'] at hqq
            have hqs := List.mem_range.1 hq
            have hiq : i < q := by simpa using hqq.1
            have : ops[q] ∈ keepFrom ops fl (i + 1) := by
              unfold keepFrom
              refine List.mem_filterMap.2 ⟨q, List.mem_filter.2 ⟨hq, ?_⟩, by simp [hqs]⟩
              simp [hqq.2]; omega
            rw [hnil] at this; cases this
          · have h2 := List.all_eq_true.1 h1 k (List.mem_range.2 hk)
            simp only [Bool.or_eq_true] at h2
            rcases h2 with h2 | h2
            · exact absurd (Nat.eq_of_beq_eq_true h2).symm hki
            · exact hreach k (by simp [hk]) h2
      have go : ∀ (a' : Act) (w' : World), wpListF P ops Q e Φ (keepFrom ops fl (i + 1)) (fill (fils l fl) a') w' → FInv ops fl n a₀ (i + 1) (listed.setIfInBounds i true) a' → wpAny P .any ops Q fuel (listed.setIfInBounds i true) a' w' := fun a' w' h hinv =>
        ih _ _ _ (i + 1) hinv ((wpListF_head h).1.elim (fun q => .inr (hallL q.1 q.2)) .inl) h hcount
      have hfl0 : ∀ (u : Value) d, o.dst = some d → ∀ u', flAt fl i = some u' → u = u' := fun u d _ u' hu' => by
        unfold isFl at hfi
        rw [hu'] at hfi; cases hfi
      unfold wpList at hk
      rw [hwant] at hk
      by_cases hw : Region.wanted o (yielded ops a.tmps) = true
      · rw [if_pos hw] at hk ⊢
        left
        rcases hk with hk | ⟨_, hk⟩
        · unfold Oper.wp at hk ⊢
          rw [hev] at hk
          have hk2 : o.upon P (fill (fils l fl) a) (fun a' w' => wpListF P ops Q e Φ (keepFrom ops fl (i + 1)) a' w') (Only (wpListF P ops Q e Φ (keepFrom ops fl (i + 1)))) ((execOp a.eval o).run P w) := by
            have : (wpList P ops (Only (wpListF P ops Q e Φ (keepFrom ops fl (i + 1)))) []) = fun a' w' => Only (wpListF P ops Q e Φ (keepFrom ops fl (i + 1))) .normal a' w' := rfl
            rw [this] at hk
            refine upon_mono2 ?_ hk
            exact fun a' w' h => h.2
          exact upon_fill2 hdn (fun a' v w' had hat h => go _ _ h (next a' v (i + 1) hat had (fun d u hd hu => hfl0 v d hd u hu) hkk)) _ (fun a' w' h => (wpListF_head h).2) hk2
        · obtain ⟨_, _, he, _⟩ := hk; cases he
      · rw [if_neg hw] at hk ⊢
        have epu : (fill (fils l fl) a).put o.dst undef = fill (fils l fl) (a.put o.dst undef) := by
          cases hq : o.dst with
          | none => rfl
          | some d => rw [fill_put (hdn d hq)]
        have hk' : wpListF P ops Q e Φ (keepFrom ops fl (i + 1)) ((fill (fils l fl) a).put o.dst undef) w := hk.2
        rw [epu] at hk'
        exact go _ _ hk' (next a undef (i + 1) rfl rfl (fun d u hd hu => hfl0 undef d hd u hu) hkk)
def nthO : List Oper → Nat → Option Oper
  | [], _ => none
  | o :: _, 0 => some o
  | _ :: l, i + 1 => nthO l i
def pickOps (l : List Oper) : List Nat → List Oper
  | [] => []
  | k :: ks => match nthO l k with
    | some o => o :: pickOps l ks
    | none => pickOps l ks
theorem C_drawF {l : List Oper} {id : Nat} (e : Bool) (fl : List (Option Value)) (Φ : World → Prop) (hm : P.follows .mixedOrders = true)
    (hE : edgesOk l.toArray = true) (hD : dstsOk l.toArray n = true) (hF : floatsOk l.toArray fl = true) (hLast : (!e || lastOk l.toArray fl) = true) (hst : Φ w.drew) (hop : FAll P l.toArray Φ n s fl 0 l) (ks : List Nat) (hr : keepFrom l.toArray fl 0 = pickOps l ks) (s' : AL) (hs : Sub (fils l fl ++ s) s')
    (hend : ∀ w', Le w w' → w' = w.drew → wpRF P l.toArray e Φ (pickOps l ks) n s' Q w') : okC P (.region id l.toArray true) n s Q w := fun a₀ ha => by
  have hL2 : e = true → lastOk l.toArray fl = true := fun he => by subst he; simpa using hLast
  refine wp_region_any hm (any_float (e := e) (n := n) (s := s) (l := l) (a₀ := a₀) rfl hE hD hF hL2 ha hop _ _ a₀ _ 0 ⟨by simp, fun j o _ hl => ?_, ha.size, ha.defers, fun t _ => rfl, fun k o d v _ _ _ hl => ?_, fun i hi _ => ?_⟩ (.inl hst) ?_ ?_)
  · rw [rep_false] at hl; cases hl
  · rw [rep_false] at hl; cases hl
  · rw [rep_false]; simp
  · rw [hr]
    refine hend _ (Le.drew w) rfl _ (Fr.sub ⟨by rw [fill_size]; exact ha.size, ha.defers, fun t v ht => ?_⟩ hs)
    rw [Array.getD_eq_getD_getElem?, fill_get]
    have key : ∀ (f : AL), look (f ++ s) t = match look f t with | some u => some u | none => look s t := fun f => by
      induction f with
      | nil => rfl
      | cons p f ih =>
        obtain ⟨k, u⟩ := p
        simp only [List.cons_append, look]
        by_cases e : k = t
        · subst e
          have hb : Nat.beq k k = true := by simp
          rw [hb]; rfl
        · rw [beq_ne e]; exact ih
    rw [key] at ht
    cases hq : look (fils l fl) t with
    | some u =>
      rw [hq] at ht
      obtain rfl := Option.some.inj ht
      obtain ⟨k, o, q1, q2, q3⟩ := look_fils hq
      have hlt : t < a₀.tmps.size := by
        have hi : k < l.toArray.size := by simpa using (List.getElem?_eq_some_iff.1 q1).1
        have h1 := List.all_eq_true.1 hD k (List.mem_range.2 hi)
        have q1' : l.toArray[k]? = some o := by simpa using q1
        simp only [q1', Option.bind_some, q2, Bool.and_eq_true] at h1
        rw [ha.size]; simpa using h1.1
      simp [hlt]
    | none =>
      rw [hq] at ht
      have := ha.has t v ht
      rw [Array.getD_eq_getD_getElem?] at this
      cases hz : a₀.tmps[t]? with
      | none => rw [hz] at this; simpa using this
      | some z => rw [hz] at this; simpa using this
  · exact Nat.le_trans (List.length_filter_le _ _) (by simp)
/-- One operation that floats. -/
theorem FL_val {a : Act} {v : Value} (hf : Fr n s a) (hw : wants ops s o = some true) (hk : (knows s o && noSel o) = true)
    (hr : (execOp (rho s) o).run P w = .ok (.value v) w) : (Region.wanted o (yielded ops a.tmps) = true → (execOp a.eval o).run P w = .ok (.value v) w) ∧ (Region.wanted o (yielded ops a.tmps) = false → v = undef) :=
  ⟨fun _ => by rw [exec_eq hf hk, hr], fun h2 => by rw [wants_eq hf hw] at h2; cases h2⟩
theorem FL_skip {a : Act} (hf : Fr n s a) (hw : wants ops s o = some false) : (Region.wanted o (yielded ops a.tmps) = true → (execOp a.eval o).run P w = .ok (.value undef) w) ∧ (Region.wanted o (yielded ops a.tmps) = false → undef = undef) :=
  ⟨(fun h2 => by rw [wants_eq hf hw] at h2; cases h2), fun _ => rfl⟩
theorem FS_no {fl : List (Option Value)} {j : Nat} (h : flAt fl j = none) : FStep P ops Φ n s fl j o := fun v hv => by rw [h] at hv; cases hv
theorem FS_yes {fl : List (Option Value)} {j : Nat} (v0 : Value) (h : flAt fl j = some v0)
    (k : ∀ (a : Act) (w : World), Φ w → Fr n (freeAL ops j s) a → DepAll ops (exactR fl) w a o.after.toList → (Region.wanted o (yielded ops a.tmps) = true → (execOp a.eval o).run P w = .ok (.value v0) w) ∧ (Region.wanted o (yielded ops a.tmps) = false → v0 = undef)) : FStep P ops Φ n s fl j o := fun v hv => by
  rw [h] at hv
  obtain rfl := Option.some.inj hv
  exact k
end
end Go.Lm
