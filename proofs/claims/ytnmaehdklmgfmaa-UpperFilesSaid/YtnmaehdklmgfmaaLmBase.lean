/- An engine of mine for walks: the frame as an association list, the world as a variable of which facts on blocks are known. General: no program in sight. -/
import Derived.WalkKit
import Derived.WalkSpells
import Derived.WalkLawsBesides
import Derived.Deep.Quiet
namespace Go.Lm
open Go Go.RowKit

/-! ### Frames -/
abbrev AL := List (Nat × Value)
def look : AL → Nat → Option Value
  | [], _ => none
  | (k, v) :: s, t => bif Nat.beq k t then some v else look s t

theorem beq_ne {a b : Nat} (h : ¬ a = b) : Nat.beq a b = false := by
  cases hb : Nat.beq a b with
  | false => rfl
  | true => exact absurd (Nat.eq_of_beq_eq_true hb) h

structure Fr (n : Nat) (s : AL) (a : Act) : Prop where
  size : a.tmps.size = n
  defers : a.defers = []
  has : ∀ t v, look s t = some v → a.tmps.getD t undef = v

/-- What an operand holds, if it is known. -/
def ev (s : AL) : Operand → Option Value
  | .tmp t => look s t
  | .const v => some v
  | .global g => some (.pointer (some ⟨g, 0, none⟩))
  | .func f => some (.func (.func f) #[] #[])
def rho (s : AL) (x : Operand) : Value := (ev s x).getD undef

theorem Fr.ev {n : Nat} {s : AL} {a : Act} (h : Fr n s a) {x : Operand} {v : Value} (hx : ev s x = some v) : a.eval x = v := by
  cases x with
  | tmp t => exact h.has t v hx
  | const u => exact Option.some.inj hx
  | global g => exact Option.some.inj hx
  | func f => exact Option.some.inj hx

theorem Fr.put {n : Nat} {s : AL} {a : Act} (h : Fr n s a) (d : Nat) (hd : Nat.blt d n = true) (v : Value) : Fr n ((d, v) :: s) (a.put (some d) v) := by
  have hd' : d < n := by simpa using hd
  refine ⟨by simp [Act.put, h.size], h.defers, fun t u hu => ?_⟩
  simp only [look] at hu
  by_cases e : d = t
  · subst e
    have : Nat.beq d d = true := by simp
    rw [this] at hu
    simp only [cond_true, Option.some.injEq] at hu
    subst hu
    simp [Act.put, h.size, hd']
  · have : Nat.beq d t = false := beq_ne e
    rw [this] at hu
    simp only [cond_false] at hu
    have := h.has t u hu
    rw [← this]
    simp only [Act.put, Array.getD_eq_getD_getElem?, Array.getElem?_setIfInBounds_ne e]

theorem Fr.put_none {n : Nat} {s : AL} {a : Act} (h : Fr n s a) (v : Value) : Fr n s (a.put none v) := h

/-- Forget: each entry of s' is known in s. -/
def Sub (s : AL) : AL → Prop
  | [] => True
  | (k, v) :: s' => look s k = some v ∧ Sub s s'
theorem Sub.look {s : AL} : ∀ {s' : AL}, Sub s s' → ∀ t v, look s' t = some v → look s t = some v
  | [], _, _, _, h => by simp [Lm.look] at h
  | (k, u) :: s', ⟨h1, h2⟩, t, v, h => by
    simp only [Lm.look] at h
    by_cases e : k = t
    · subst e
      have : Nat.beq k k = true := by simp
      rw [this] at h
      simp only [cond_true, Option.some.injEq] at h
      rw [← h]; exact h1
    · have : Nat.beq k t = false := beq_ne e
      rw [this] at h
      simp only [cond_false] at h
      exact Sub.look h2 t v h
theorem Fr.sub {n : Nat} {s s' : AL} {a : Act} (h : Fr n s a) (hs : Sub s s') : Fr n s' a := ⟨h.size, h.defers, fun t v ht => h.has t v (hs.look t v ht)⟩

/-- All operands are known. -/
def knows (s : AL) (o : Oper) : Bool := o.op.operands.toList.all fun x => (ev s x).isSome
def noSel (o : Oper) : Bool := match o.op with | .select .. => false | _ => true

theorem exec_eq {n : Nat} {s : AL} {a : Act} (h : Fr n s a) {o : Oper} (hk : (knows s o && noSel o) = true) : execOp a.eval o = execOp (rho s) o := by
  simp only [Bool.and_eq_true] at hk
  refine execOp_congr o (fun cs b hb => ?_) fun x hx => ?_
  · have := hk.2
    simp [noSel, hb] at this
  · have h1 := hk.1
    unfold knows at h1
    have h2 := List.all_eq_true.1 h1 x (by simpa using hx)
    obtain ⟨v, hv⟩ := Option.isSome_iff_exists.1 h2
    rw [h.ev hv]; simp [rho, hv]

/-! ### Guards -/
/-- Whether an operation is to be carried out, if that is known. -/
def wants (ops : Array Oper) (s : AL) (o : Oper) : Option Bool :=
  match o.guard with
  | none => some true
  | some (j, want) =>
    match (ops[j]?).bind (·.dst) with
    | none => none
    | some d => match look s d with
      | some (.bool b) => some (b == want)
      | some (.tuple _) => some false
      | _ => none

theorem wants_eq {n : Nat} {s : AL} {a : Act} (h : Fr n s a) {ops : Array Oper} {o : Oper} {b : Bool} (hw : wants ops s o = some b) : Region.wanted o (yielded ops a.tmps) = b := by
  unfold wants at hw
  unfold Region.wanted
  cases hg : o.guard with
  | none => simp [hg] at hw ⊢; exact hw
  | some g =>
    obtain ⟨j, want⟩ := g
    simp only [hg] at hw ⊢
    cases hj : (ops[j]?).bind (·.dst) with
    | none => simp [hj] at hw
    | some d =>
      simp only [hj] at hw
      unfold yielded
      cases hl : look s d with
      | none => simp [hl] at hw
      | some v =>
        have hv := h.has d v hl
        simp only [hl] at hw
        have hgd : a.tmps[d]?.getD undef = v := by rw [← hv]; simp [Array.getD_eq_getD_getElem?]
        cases v <;> simp at hw
        case bool c =>
          cases hx : a.tmps[d]? with
          | none => rw [hx] at hgd; simp [undef] at hgd
          | some y => rw [hx] at hgd; simp at hgd; subst hgd; simp [hj, hx, hw]
        case tuple c =>
          subst hw
          cases hx : a.tmps[d]? with
          | none => simp [hj, hx]
          | some y => rw [hx] at hgd; simp at hgd; subst hgd; simp [hj, hx]

/-! ### Regions in the order of the text -/
/-- What is asked from an operation list on, in whatever frame of which 's' is known. -/
def wpR (P : Program) (ops : Array Oper) (rest : List Oper) (n : Nat) (s : AL) (Q : Exit → Act → World → Prop) (w : World) : Prop := ∀ a, Fr n s a → wpList P ops Q rest a w
def okC (P : Program) (c : Code) (n : Nat) (s : AL) (Q : Exit → Act → World → Prop) (w : World) : Prop := ∀ a, Fr n s a → c.wp P Q a w
def okE (e : Exit) (n : Nat) (s : AL) (Q : Exit → Act → World → Prop) (w : World) : Prop := ∀ a, Fr n s a → Q e a w
/-- A call that returns. -/
def Ret (P : Program) (f : FuncId) (args : Array Value) (w : World) (R : Value → World → Prop) : Prop := Calls P f args w fun e w' => ∃ v, e = .returned v ∧ R v w'

section
variable {P : Program} {ops : Array Oper} {rest : List Oper} {o : Oper} {n : Nat} {s : AL} {Q : Exit → Act → World → Prop} {w : World}

theorem wpR_nil (h : okE .normal n s Q w) : wpR P ops [] n s Q w := fun a ha => wpList_nil (h a ha)
theorem wpR_sub (s' : AL) (hs : Sub s s') (h : wpR P ops rest n s' Q w) : wpR P ops rest n s Q w := fun a ha => h a (ha.sub hs)

theorem wpR_of {a : Act} (hw : Region.wanted o (yielded ops a.tmps) = true) (h : ∀ K : Act → World → Prop, (∀ a w, wpList P ops Q rest a w → K a w) → o.wp P a w K Q) : wpList P ops Q (o :: rest) a w :=
  wpList_step fun K hK => by rw [if_pos hw]; exact h K hK

/-- An operation that yields a value. -/
theorem R_val {d : Nat} {v : Value} {w' : World} (hw : wants ops s o = some true) (hk : (knows s o && noSel o) = true) (hd : o.dst = some d) (hn : Nat.blt d n = true)
    (hr : (execOp (rho s) o).run P w = .ok (.value v) w') (k : wpR P ops rest n ((d, v) :: s) Q w') : wpR P ops (o :: rest) n s Q w := fun a ha =>
  wpR_of (wants_eq ha hw) fun K hK => by
    unfold Oper.wp
    rw [exec_eq ha hk, hr, Oper.upon_value]
    rw [hd]
    exact hK _ _ (k _ (ha.put d hn v))
/-- .. whose value nobody takes. -/
theorem R_none {v : Value} {w' : World} (hw : wants ops s o = some true) (hk : (knows s o && noSel o) = true) (hd : o.dst = none)
    (hr : (execOp (rho s) o).run P w = .ok (.value v) w' ∨ (execOp (rho s) o).run P w = .ok .skip w') (k : wpR P ops rest n s Q w') : wpR P ops (o :: rest) n s Q w := fun a ha =>
  wpR_of (wants_eq ha hw) fun K hK => by
    unfold Oper.wp
    rw [exec_eq ha hk]
    rcases hr with hr | hr <;> rw [hr] <;> simp only [Oper.upon] <;> rw [hd] <;> exact hK _ _ (k _ ha)
/-- An operation whose guard says no. -/
theorem R_skip {d : Nat} (hw : wants ops s o = some false) (hd : o.dst = some d) (hn : Nat.blt d n = true) (k : wpR P ops rest n ((d, undef) :: s) Q w) : wpR P ops (o :: rest) n s Q w := fun a ha =>
  wpList_skip (wants_eq ha hw) (by rw [hd]; exact k _ (ha.put d hn undef))
theorem R_skip_none (hw : wants ops s o = some false) (hd : o.dst = none) (k : wpR P ops rest n s Q w) : wpR P ops (o :: rest) n s Q w := fun a ha =>
  wpList_skip (wants_eq ha hw) (by rw [hd]; exact k _ ha)
/-- A call of a Go function. -/
theorem R_call {d f : Nat} {args : Array Value} {R : Value → World → Prop} (hw : wants ops s o = some true) (hk : (knows s o && noSel o) = true) (hd : o.dst = some d) (hn : Nat.blt d n = true)
    (hr : (execOp (rho s) o).run P w = .ok (.enter f args) w) (hc : Ret P f args w R) (k : ∀ v w', R v w' → wpR P ops rest n ((d, v) :: s) Q w') : wpR P ops (o :: rest) n s Q w := fun a ha =>
  wpR_of (wants_eq ha hw) fun K hK => by
    unfold Oper.wp
    rw [exec_eq ha hk, hr]
    simp only [Oper.upon]
    refine Calls.mono hc ?_
    rintro e w' ⟨v, rfl, hv⟩
    simp only [hd]
    exact hK _ _ (k v w' hv _ (ha.put d hn v))
theorem R_call_none {f : Nat} {args : Array Value} {R : Value → World → Prop} (hw : wants ops s o = some true) (hk : (knows s o && noSel o) = true) (hd : o.dst = none)
    (hr : (execOp (rho s) o).run P w = .ok (.enter f args) w) (hc : Ret P f args w R) (k : ∀ v w', R v w' → wpR P ops rest n s Q w') : wpR P ops (o :: rest) n s Q w := fun a ha =>
  wpR_of (wants_eq ha hw) fun K hK => by
    unfold Oper.wp
    rw [exec_eq ha hk, hr]
    simp only [Oper.upon]
    refine Calls.mono hc ?_
    rintro e w' ⟨v, rfl, hv⟩
    simp only [hd]
    exact hK _ _ (k v w' hv _ ha)

/-! ### Code -/
theorem C_sub {c : Code} (s' : AL) (hs : Sub s s') (h : okC P c n s' Q w) : okC P c n s Q w := fun a ha => h a (ha.sub hs)
theorem C_region {id : Nat} {l : List Oper} (h : wpR P l.toArray l n s Q w) : okC P (.region id l.toArray false) n s Q w := fun a ha => wp_region_lit (h a ha)
theorem C_seq {x y : Code} (h : okC P x n s (Exit.then (y.wp P Q) Q) w) : okC P (.seq x y) n s Q w := fun a ha => wp_seq (h a ha)
/-- Where ways meet again: what is known there. -/
theorem C_seq_mid {x y : Code} (M : Act → World → Prop) (h : okC P x n s (Exit.then M Q) w) (k : ∀ a w', M a w' → y.wp P Q a w') : okC P (.seq x y) n s Q w := fun a ha =>
  wp_seq (wp_mono (h a ha) fun e a w q => by cases e <;> first | exact k _ _ q | exact q)
theorem C_block {id : Nat} {c : Code} (h : okC P c n s (Exit.inBlock id Q) w) : okC P (.block id c) n s Q w := fun a ha => wp_block (h a ha)
theorem C_skip (h : okE .normal n s Q w) : okC P .skip n s Q w := fun a ha => wp_skip (h a ha)
theorem C_exit {id : Nat} (h : okE (.exit id) n s Q w) : okC P (.exit id) n s Q w := fun a ha => wp_exit (h a ha)
theorem C_ret (h : okE .ret n s Q w) : okC P .ret n s Q w := fun a ha => wp_ret (h a ha)
theorem C_cond {c : Operand} {x y : Code} {b : Bool} (hc : ev s c = some (.bool b)) (ht : b = true → okC P x n s Q w) (hf : b = false → okC P y n s Q w) : okC P (.cond c x y) n s Q w := fun a ha =>
  wp_cond_split (ha.ev hc) (fun h => ht h a ha) (fun h => hf h a ha)
theorem C_true {c : Operand} {x y : Code} (hc : ev s c = some (.bool true)) (h : okC P x n s Q w) : okC P (.cond c x y) n s Q w := fun a ha => wp_cond_true (ha.ev hc) (h a ha)
theorem C_false {c : Operand} {x y : Code} (hc : ev s c = some (.bool false)) (h : okC P y n s Q w) : okC P (.cond c x y) n s Q w := fun a ha => wp_cond_false (ha.ev hc) (h a ha)
/-- A loop: the frame at its head by a family over whatever index. -/
theorem C_loop {c : Code} {ι : Type} (S : ι → AL) (I : ι → World → Prop) (μ : ι → Nat) (i₀ : ι) (hs : Sub s (S i₀)) (h₀ : I i₀ w)
    (round : ∀ i w, I i w → okC P c n (S i) (Exit.then (fun a w' => ∃ i', Fr n (S i') a ∧ I i' w' ∧ μ i' < μ i) Q) w) : okC P (.loop c) n s Q w := by
  have key : ∀ k i w, μ i = k → I i w → ∀ a, Fr n (S i) a → ∀ (b : Frame) (kk : List Item) (cs : List Frame),
      ∃ e a' w', Q e a' w' ∧ Arrives P (lone (b.at a (.code c :: .inLoop c :: kk)) cs w) b kk cs e a' w' := by
    intro k
    induction k using Nat.strongRecOn with
    | _ k ih =>
      intro i w hk hi a ha b kk cs
      obtain ⟨e, a₁, w₁, hq, harr⟩ := round i w hi a ha b (.inLoop c :: kk) cs
      cases e with
      | normal =>
        obtain ⟨i', hf, hI, hlt⟩ := hq
        obtain ⟨e₂, a₂, w₂, hq₂, harr₂⟩ := ih (μ i') (by omega) i' w₁ rfl hI a₁ hf b kk cs
        exact ⟨e₂, a₂, w₂, hq₂, .of_steps (Steps.trans harr (.one step_inLoop)) harr₂⟩
      | exit id => exact ⟨_, a₁, w₁, hq, .pass (x := .inLoop c) rfl (fun _ _ => .inl (by simp)) harr⟩
      | goto l => exact ⟨_, a₁, w₁, hq, .pass (x := .inLoop c) rfl (fun _ _ => .inl (by simp)) harr⟩
      | ret => exact ⟨_, a₁, w₁, hq, .pass (x := .inLoop c) rfl (fun _ _ => .inl (by simp)) harr⟩
      | panic ch => exact ⟨_, a₁, w₁, hq, .pass (x := .inLoop c) rfl (fun _ _ => .inl (by simp)) harr⟩
      | outgrown => exact ⟨_, a₁, w₁, hq, .pass (x := .inLoop c) rfl (fun _ _ => .inl (by simp)) harr⟩
  intro a ha b kk cs
  obtain ⟨e, a', w', hq, harr⟩ := key _ i₀ w rfl h₀ a (ha.sub hs) b kk cs
  exact ⟨e, a', w', hq, .of_steps (.one step_loop) harr⟩

/-! ### Ends -/
theorem E_then_normal {c : Code} {Q' Q'' : Exit → Act → World → Prop} (h : okC P c n s Q' w) : okE .normal n s (Exit.then (c.wp P Q') Q'') w := h
theorem E_then_mid {M : Act → World → Prop} (h : ∀ a, Fr n s a → M a w) : okE .normal n s (Exit.then M Q) w := h
theorem E_then_exit {id : Nat} {K : Act → World → Prop} (h : okE (.exit id) n s Q w) : okE (.exit id) n s (Exit.then K Q) w := h
theorem E_then_ret {K : Act → World → Prop} (h : okE .ret n s Q w) : okE .ret n s (Exit.then K Q) w := h
theorem E_block_normal {id : Nat} (h : okE .normal n s Q w) : okE .normal n s (Exit.inBlock id Q) w := h
theorem E_block_ret {id : Nat} (h : okE .ret n s Q w) : okE .ret n s (Exit.inBlock id Q) w := h
theorem E_block_here {id : Nat} (h : okE .normal n s Q w) : okE (.exit id) n s (Exit.inBlock id Q) w := fun a ha => by simp only [Exit.inBlock, if_true]; exact h a ha
theorem E_block_other {id id' : Nat} (hne : Nat.beq id' id = false) (h : okE (.exit id') n s Q w) : okE (.exit id') n s (Exit.inBlock id Q) w := fun a ha => by
  have : id' ≠ id := fun e => by subst e; simp at hne
  simp only [Exit.inBlock, if_neg this]; exact h a ha
/-- The function's end. -/
theorem E_ret {fn : Func} {R : Ending → World → Prop} {v : Value} (hr : ∀ a, Fr n s a → (results fn a.tmps).run P w = .ok v w) (h : R (.returned v) w) : okE .ret n s (bodyPost P fn R) w := fun a ha => ⟨ha.defers, v, hr a ha, h⟩
theorem E_end {fn : Func} {R : Ending → World → Prop} {v : Value} (hr : ∀ a, Fr n s a → (results fn a.tmps).run P w = .ok v w) (h : R (.returned v) w) : okE .normal n s (bodyPost P fn R) w := fun a ha => ⟨ha.defers, v, hr a ha, h⟩
theorem res_one {fn : Func} {t : Tmp} {v : Value} (h : fn.results = #[.tmp t]) (hl : look s t = some v) (a : Act) (ha : Fr n s a) : (results fn a.tmps).run P w = .ok v w := by
  rw [results_tmp h, ha.has t v hl]
theorem res_none {fn : Func} (h : fn.results = #[]) (a : Act) (_ha : Fr n s a) : (results fn a.tmps).run P w = .ok (.tuple #[]) w := results_none h _ _ _
theorem res_two {fn : Func} {t u : Tmp} {v x : Value} (h : fn.results = #[.tmp t, .tmp u]) (hl : look s t = some v) (hu : look s u = some x) (a : Act) (ha : Fr n s a) : (results fn a.tmps).run P w = .ok (.tuple #[v, x]) w := by
  rw [results_tmp2 h, ha.has t v hl, ha.has u x hu]
theorem res_three {fn : Func} {t u r : Tmp} {v x y : Value} (h : fn.results = #[.tmp t, .tmp u, .tmp r]) (hl : look s t = some v) (hu : look s u = some x) (hr : look s r = some y) (a : Act) (ha : Fr n s a) : (results fn a.tmps).run P w = .ok (.tuple #[v, x, y]) w := by
  have h1 := ha.has t v hl
  have h2 := ha.has u x hu
  have h3 := ha.has r y hr
  simp [results, h, ← h1, ← h2, ← h3]

/-- A function is entered. 's0': its frame at the start. -/
def start (args : List Value) : AL := (args.zipIdx).map fun (v, i) => (i, v)
theorem look_start (args : List Value) (k t : Nat) (v : Value) (h : look ((args.zipIdx k).map fun (v, i) => (i, v)) t = some v) : k ≤ t ∧ args[t - k]? = some v := by
  induction args generalizing k with
  | nil => simp [look] at h
  | cons x l ih =>
    simp only [List.zipIdx_cons, List.map_cons, look] at h
    by_cases e : k = t
    · subst e
      have : Nat.beq k k = true := by simp
      rw [this] at h
      simpa using h
    · rw [beq_ne e] at h
      obtain ⟨h1, h2⟩ := ih (k + 1) h
      refine ⟨by omega, ?_⟩
      rw [show t - k = (t - (k + 1)) + 1 from by omega]
      simpa using h2
theorem enter {f : FuncId} {fn : Func} {c : Code} {args : List Value} {R : Value → World → Prop} (hf : P.funcs[f]? = some fn) (hb : fn.body = some c) (hn : fn.ntmps = n) (hl : Nat.ble args.length n = true)
    (h : okC P c n (start args) (bodyPost P fn fun e w' => ∃ v, e = .returned v ∧ R v w') w) : Ret P f args.toArray w R := by
  have hl' : args.length ≤ n := by simpa using hl
  refine calls_of_wp hf hb (h _ ⟨by simp [hn]; omega, rfl, fun t v ht => ?_⟩)
  have := look_start args 0 t v ht
  have h2 : args[t]? = some v := by simpa using this.2
  have h3 : t < args.length := (List.getElem?_eq_some_iff.1 h2).1
  simp [Array.getD_eq_getD_getElem?, Array.getElem?_append, h3]
  exact Option.some.inj ((List.getElem?_eq_getElem h3).symm.trans h2)
end
end Go.Lm
