/- General texts of mine, merged: LmBase, LmReg, LmOps, LmOpen, LmRep, LmOwn, LmShort, LmTwo, LmStruct, LmNode, LmSl, LmMapL, LmRow. No program in sight. -/
import Derived.WalkKit
import Derived.WalkSpells
import Derived.WalkLawsBesides
import Derived.Deep.Quiet
import Derived.Deep.MidRow
import Derived.KernelRfl
import Derived.ProofKit
import Derived.OpenShut
import Derived.ShutString
import Derived.ChangeOld
import Derived.Deep.Slices
import Derived.Deep.Fields
import Derived.ChangeSame
import Derived.Laws.RangeAny
import Derived.Lib.OthersKept
import Derived.Maps.Own
import Derived.Maps.OwnSet
import Derived.Maps.Range
import Derived.Maps.RangeWalk
import Derived.Laws.OwnMore
import Derived.Laws.MakeOwn
import Derived.Laws.CopyRow
/- An engine of mine for walks: the frame as an association list, the world as a variable of which facts on blocks are known. General: no program in sight. -/
namespace Go.Lm
open Go Go.RowKit

/-! ### Frames -/
abbrev AL := List (Nat × Value)
def look : AL → Nat → Option Value
  | [], _ => none
  | (k, v) :: s, t => bif Nat.beq k t then some v else look s t

theorem beq_ne {a b : Nat} (h : ¬ a = b) : Nat.beq a b = false := by
  cases hb : Nat.beq a b with
  | false => rfl
  | true => exact absurd (Nat.eq_of_beq_eq_true hb) h

structure Fr (n : Nat) (s : AL) (a : Act) : Prop where
  size : a.tmps.size = n
  defers : a.defers = []
  has : ∀ t v, look s t = some v → a.tmps.getD t undef = v

/-- What an operand holds, if it is known. -/
def ev (s : AL) : Operand → Option Value
  | .tmp t => look s t
  | .const v => some v
  | .global g => some (.pointer (some ⟨g, 0, none⟩))
  | .func f => some (.func (.func f) #[] #[])
def rho (s : AL) (x : Operand) : Value := (ev s x).getD undef

theorem Fr.ev {n : Nat} {s : AL} {a : Act} (h : Fr n s a) {x : Operand} {v : Value} (hx : ev s x = some v) : a.eval x = v := by
  cases x with
  | tmp t => exact h.has t v hx
  | const u => exact Option.some.inj hx
  | global g => exact Option.some.inj hx
  | func f => exact Option.some.inj hx

theorem Fr.put {n : Nat} {s : AL} {a : Act} (h : Fr n s a) (d : Nat) (hd : Nat.blt d n = true) (v : Value) : Fr n ((d, v) :: s) (a.put (some d) v) := by
  have hd' : d < n := by simpa using hd
  refine ⟨by simp [Act.put, h.size], h.defers, fun t u hu => ?_⟩
  simp only [look] at hu
  by_cases e : d = t
  · subst e
    have : Nat.beq d d = true := by simp
    rw [this] at hu
    simp only [cond_true, Option.some.injEq] at hu
    subst hu
    simp [Act.put, h.size, hd']
  · have : Nat.beq d t = false := beq_ne e
    rw [this] at hu
    simp only [cond_false] at hu
    have := h.has t u hu
    rw [← this]
    simp only [Act.put, Array.getD_eq_getD_getElem?, Array.getElem?_setIfInBounds_ne e]

theorem Fr.put_none {n : Nat} {s : AL} {a : Act} (h : Fr n s a) (v : Value) : Fr n s (a.put none v) := h

/-- Forget: each entry of s' is known in s. -/
def Sub (s : AL) : AL → Prop
  | [] => True
  | (k, v) :: s' => look s k = some v ∧ Sub s s'
theorem Sub.look {s : AL} : ∀ {s' : AL}, Sub s s' → ∀ t v, look s' t = some v → look s t = some v
  | [], _, _, _, h => by simp [Lm.look] at h
  | (k, u) :: s', ⟨h1, h2⟩, t, v, h => by
    simp only [Lm.look] at h
    by_cases e : k = t
    · subst e
      have : Nat.beq k k = true := by simp
      rw [this] at h
      simp only [cond_true, Option.some.injEq] at h
      rw [← h]; exact h1
    · have : Nat.beq k t = false := beq_ne e
      rw [this] at h
      simp only [cond_false] at h
      exact Sub.look h2 t v h
theorem Fr.sub {n : Nat} {s s' : AL} {a : Act} (h : Fr n s a) (hs : Sub s s') : Fr n s' a := ⟨h.size, h.defers, fun t v ht => h.has t v (hs.look t v ht)⟩

/-- All operands are known. -/
def knows (s : AL) (o : Oper) : Bool := o.op.operands.toList.all fun x => (ev s x).isSome
def noSel (o : Oper) : Bool := match o.op with | .select .. => false | _ => true

theorem exec_eq {n : Nat} {s : AL} {a : Act} (h : Fr n s a) {o : Oper} (hk : (knows s o && noSel o) = true) : execOp a.eval o = execOp (rho s) o := by
  simp only [Bool.and_eq_true] at hk
  refine execOp_congr o (fun cs b hb => ?_) fun x hx => ?_
  · have := hk.2
    simp [noSel, hb] at this
  · have h1 := hk.1
    unfold knows at h1
    have h2 := List.all_eq_true.1 h1 x (by simpa using hx)
    obtain ⟨v, hv⟩ := Option.isSome_iff_exists.1 h2
    rw [h.ev hv]; simp [rho, hv]

/-! ### Guards -/
/-- Whether an operation is to be carried out, if that is known. -/
def wants (ops : Array Oper) (s : AL) (o : Oper) : Option Bool :=
  match o.guard with
  | none => some true
  | some (j, want) =>
    match (ops[j]?).bind (·.dst) with
    | none => none
    | some d => match look s d with
      | some (.bool b) => some (b == want)
      | some (.tuple _) => some false
      | _ => none

theorem wants_eq {n : Nat} {s : AL} {a : Act} (h : Fr n s a) {ops : Array Oper} {o : Oper} {b : Bool} (hw : wants ops s o = some b) : Region.wanted o (yielded ops a.tmps) = b := by
  unfold wants at hw
  unfold Region.wanted
  cases hg : o.guard with
  | none => simp [hg] at hw ⊢; exact hw
  | some g =>
    obtain ⟨j, want⟩ := g
    simp only [hg] at hw ⊢
    cases hj : (ops[j]?).bind (·.dst) with
    | none => simp [hj] at hw
    | some d =>
      simp only [hj] at hw
      unfold yielded
      cases hl : look s d with
      | none => simp [hl] at hw
      | some v =>
        have hv := h.has d v hl
        simp only [hl] at hw
        have hgd : a.tmps[d]?.getD undef = v := by rw [← hv]; simp [Array.getD_eq_getD_getElem?]
        cases v <;> simp at hw
        case bool c =>
          cases hx : a.tmps[d]? with
          | none => rw [hx] at hgd; simp [undef] at hgd
          | some y => rw [hx] at hgd; simp at hgd; subst hgd; simp [hj, hx, hw]
        case tuple c =>
          subst hw
          cases hx : a.tmps[d]? with
          | none => simp [hj, hx]
          | some y => rw [hx] at hgd; simp at hgd; subst hgd; simp [hj, hx]

/-! ### Regions in the order of the text -/
/-- What is asked from an operation list on, in whatever frame of which 's' is known. -/
def wpR (P : Program) (ops : Array Oper) (rest : List Oper) (n : Nat) (s : AL) (Q : Exit → Act → World → Prop) (w : World) : Prop := ∀ a, Fr n s a → wpList P ops Q rest a w
def okC (P : Program) (c : Code) (n : Nat) (s : AL) (Q : Exit → Act → World → Prop) (w : World) : Prop := ∀ a, Fr n s a → c.wp P Q a w
def okE (e : Exit) (n : Nat) (s : AL) (Q : Exit → Act → World → Prop) (w : World) : Prop := ∀ a, Fr n s a → Q e a w
/-- A call that returns. -/
def Ret (P : Program) (f : FuncId) (args : Array Value) (w : World) (R : Value → World → Prop) : Prop := Calls P f args w fun e w' => ∃ v, e = .returned v ∧ R v w'

section
variable {P : Program} {ops : Array Oper} {rest : List Oper} {o : Oper} {n : Nat} {s : AL} {Q : Exit → Act → World → Prop} {w : World}

theorem wpR_nil (h : okE .normal n s Q w) : wpR P ops [] n s Q w := fun a ha => wpList_nil (h a ha)
theorem wpR_sub (s' : AL) (hs : Sub s s') (h : wpR P ops rest n s' Q w) : wpR P ops rest n s Q w := fun a ha => h a (ha.sub hs)

theorem wpR_of {a : Act} (hw : Region.wanted o (yielded ops a.tmps) = true) (h : ∀ K : Act → World → Prop, (∀ a w, wpList P ops Q rest a w → K a w) → o.wp P a w K Q) : wpList P ops Q (o :: rest) a w :=
  wpList_step fun K hK => by rw [if_pos hw]; exact h K hK

/-- An operation that yields a value. -/
theorem R_val {d : Nat} {v : Value} {w' : World} (hw : wants ops s o = some true) (hk : (knows s o && noSel o) = true) (hd : o.dst = some d) (hn : Nat.blt d n = true)
    (hr : (execOp (rho s) o).run P w = .ok (.value v) w') (k : wpR P ops rest n ((d, v) :: s) Q w') : wpR P ops (o :: rest) n s Q w := fun a ha =>
  wpR_of (wants_eq ha hw) fun K hK => by
    unfold Oper.wp
    rw [exec_eq ha hk, hr, Oper.upon_value]
    rw [hd]
    exact hK _ _ (k _ (ha.put d hn v))
/-- .. whose value nobody takes. -/
theorem R_none {v : Value} {w' : World} (hw : wants ops s o = some true) (hk : (knows s o && noSel o) = true) (hd : o.dst = none)
    (hr : (execOp (rho s) o).run P w = .ok (.value v) w' ∨ (execOp (rho s) o).run P w = .ok .skip w') (k : wpR P ops rest n s Q w') : wpR P ops (o :: rest) n s Q w := fun a ha =>
  wpR_of (wants_eq ha hw) fun K hK => by
    unfold Oper.wp
    rw [exec_eq ha hk]
    rcases hr with hr | hr <;> rw [hr] <;> simp only [Oper.upon] <;> rw [hd] <;> exact hK _ _ (k _ ha)
/-- An operation whose guard says no. -/
theorem R_skip {d : Nat} (hw : wants ops s o = some false) (hd : o.dst = some d) (hn : Nat.blt d n = true) (k : wpR P ops rest n ((d, undef) :: s) Q w) : wpR P ops (o :: rest) n s Q w := fun a ha =>
  wpList_skip (wants_eq ha hw) (by rw [hd]; exact k _ (ha.put d hn undef))
theorem R_skip_none (hw : wants ops s o = some false) (hd : o.dst = none) (k : wpR P ops rest n s Q w) : wpR P ops (o :: rest) n s Q w := fun a ha =>
  wpList_skip (wants_eq ha hw) (by rw [hd]; exact k _ ha)
/-- A call of a Go function. -/
theorem R_call {d f : Nat} {args : Array Value} {R : Value → World → Prop} (hw : wants ops s o = some true) (hk : (knows s o && noSel o) = true) (hd : o.dst = some d) (hn : Nat.blt d n = true)
    (hr : (execOp (rho s) o).run P w = .ok (.enter f args) w) (hc : Ret P f args w R) (k : ∀ v w', R v w' → wpR P ops rest n ((d, v) :: s) Q w') : wpR P ops (o :: rest) n s Q w := fun a ha =>
  wpR_of (wants_eq ha hw) fun K hK => by
    unfold Oper.wp
    rw [exec_eq ha hk, hr]
    simp only [Oper.upon]
    refine Calls.mono hc ?_
    rintro e w' ⟨v, rfl, hv⟩
    simp only [hd]
    exact hK _ _ (k v w' hv _ (ha.put d hn v))
theorem R_call_none {f : Nat} {args : Array Value} {R : Value → World → Prop} (hw : wants ops s o = some true) (hk : (knows s o && noSel o) = true) (hd : o.dst = none)
    (hr : (execOp (rho s) o).run P w = .ok (.enter f args) w) (hc : Ret P f args w R) (k : ∀ v w', R v w' → wpR P ops rest n s Q w') : wpR P ops (o :: rest) n s Q w := fun a ha =>
  wpR_of (wants_eq ha hw) fun K hK => by
    unfold Oper.wp
    rw [exec_eq ha hk, hr]
    simp only [Oper.upon]
    refine Calls.mono hc ?_
    rintro e w' ⟨v, rfl, hv⟩
    simp only [hd]
    exact hK _ _ (k v w' hv _ ha)

/-! ### Code -/
theorem C_sub {c : Code} (s' : AL) (hs : Sub s s') (h : okC P c n s' Q w) : okC P c n s Q w := fun a ha => h a (ha.sub hs)
theorem C_region {id : Nat} {l : List Oper} (h : wpR P l.toArray l n s Q w) : okC P (.region id l.toArray false) n s Q w := fun a ha => wp_region_lit (h a ha)
theorem C_seq {x y : Code} (h : okC P x n s (Exit.then (y.wp P Q) Q) w) : okC P (.seq x y) n s Q w := fun a ha => wp_seq (h a ha)
/-- Where ways meet again: what is known there. -/
theorem C_seq_mid {x y : Code} (M : Act → World → Prop) (h : okC P x n s (Exit.then M Q) w) (k : ∀ a w', M a w' → y.wp P Q a w') : okC P (.seq x y) n s Q w := fun a ha =>
  wp_seq (wp_mono (h a ha) fun e a w q => by cases e <;> first | exact k _ _ q | exact q)
theorem C_block {id : Nat} {c : Code} (h : okC P c n s (Exit.inBlock id Q) w) : okC P (.block id c) n s Q w := fun a ha => wp_block (h a ha)
theorem C_skip (h : okE .normal n s Q w) : okC P .skip n s Q w := fun a ha => wp_skip (h a ha)
theorem C_exit {id : Nat} (h : okE (.exit id) n s Q w) : okC P (.exit id) n s Q w := fun a ha => wp_exit (h a ha)
theorem C_ret (h : okE .ret n s Q w) : okC P .ret n s Q w := fun a ha => wp_ret (h a ha)
theorem C_cond {c : Operand} {x y : Code} {b : Bool} (hc : ev s c = some (.bool b)) (ht : b = true → okC P x n s Q w) (hf : b = false → okC P y n s Q w) : okC P (.cond c x y) n s Q w := fun a ha =>
  wp_cond_split (ha.ev hc) (fun h => ht h a ha) (fun h => hf h a ha)
theorem C_true {c : Operand} {x y : Code} (hc : ev s c = some (.bool true)) (h : okC P x n s Q w) : okC P (.cond c x y) n s Q w := fun a ha => wp_cond_true (ha.ev hc) (h a ha)
theorem C_false {c : Operand} {x y : Code} (hc : ev s c = some (.bool false)) (h : okC P y n s Q w) : okC P (.cond c x y) n s Q w := fun a ha => wp_cond_false (ha.ev hc) (h a ha)
/-- A loop: the frame at its head by a family over whatever index. -/
theorem C_loop {c : Code} {ι : Type} (S : ι → AL) (I : ι → World → Prop) (μ : ι → Nat) (i₀ : ι) (hs : Sub s (S i₀)) (h₀ : I i₀ w)
    (round : ∀ i w, I i w → okC P c n (S i) (Exit.then (fun a w' => ∃ i', Fr n (S i') a ∧ I i' w' ∧ μ i' < μ i) Q) w) : okC P (.loop c) n s Q w := by
  have key : ∀ k i w, μ i = k → I i w → ∀ a, Fr n (S i) a → ∀ (b : Frame) (kk : List Item) (cs : List Frame),
      ∃ e a' w', Q e a' w' ∧ Arrives P (lone (b.at a (.code c :: .inLoop c :: kk)) cs w) b kk cs e a' w' := by
    intro k
    induction k using Nat.strongRecOn with
    | _ k ih =>
      intro i w hk hi a ha b kk cs
      obtain ⟨e, a₁, w₁, hq, harr⟩ := round i w hi a ha b (.inLoop c :: kk) cs
      cases e with
      | normal =>
        obtain ⟨i', hf, hI, hlt⟩ := hq
        obtain ⟨e₂, a₂, w₂, hq₂, harr₂⟩ := ih (μ i') (by omega) i' w₁ rfl hI a₁ hf b kk cs
        exact ⟨e₂, a₂, w₂, hq₂, .of_steps (Steps.trans harr (.one step_inLoop)) harr₂⟩
      | exit id => exact ⟨_, a₁, w₁, hq, .pass (x := .inLoop c) rfl (fun _ _ => .inl (by simp)) harr⟩
      | goto l => exact ⟨_, a₁, w₁, hq, .pass (x := .inLoop c) rfl (fun _ _ => .inl (by simp)) harr⟩
      | ret => exact ⟨_, a₁, w₁, hq, .pass (x := .inLoop c) rfl (fun _ _ => .inl (by simp)) harr⟩
      | panic ch => exact ⟨_, a₁, w₁, hq, .pass (x := .inLoop c) rfl (fun _ _ => .inl (by simp)) harr⟩
      | outgrown => exact ⟨_, a₁, w₁, hq, .pass (x := .inLoop c) rfl (fun _ _ => .inl (by simp)) harr⟩
  intro a ha b kk cs
  obtain ⟨e, a', w', hq, harr⟩ := key _ i₀ w rfl h₀ a (ha.sub hs) b kk cs
  exact ⟨e, a', w', hq, .of_steps (.one step_loop) harr⟩

/-! ### Ends -/
theorem E_then_normal {c : Code} {Q' Q'' : Exit → Act → World → Prop} (h : okC P c n s Q' w) : okE .normal n s (Exit.then (c.wp P Q') Q'') w := h
theorem E_then_mid {M : Act → World → Prop} (h : ∀ a, Fr n s a → M a w) : okE .normal n s (Exit.then M Q) w := h
theorem E_then_exit {id : Nat} {K : Act → World → Prop} (h : okE (.exit id) n s Q w) : okE (.exit id) n s (Exit.then K Q) w := h
theorem E_then_ret {K : Act → World → Prop} (h : okE .ret n s Q w) : okE .ret n s (Exit.then K Q) w := h
theorem E_block_normal {id : Nat} (h : okE .normal n s Q w) : okE .normal n s (Exit.inBlock id Q) w := h
theorem E_block_ret {id : Nat} (h : okE .ret n s Q w) : okE .ret n s (Exit.inBlock id Q) w := h
theorem E_block_here {id : Nat} (h : okE .normal n s Q w) : okE (.exit id) n s (Exit.inBlock id Q) w := fun a ha => by simp only [Exit.inBlock, if_true]; exact h a ha
theorem E_block_other {id id' : Nat} (hne : Nat.beq id' id = false) (h : okE (.exit id') n s Q w) : okE (.exit id') n s (Exit.inBlock id Q) w := fun a ha => by
  have : id' ≠ id := fun e => by subst e; simp at hne
  simp only [Exit.inBlock, if_neg this]; exact h a ha
/-- The function's end. -/
theorem E_ret {fn : Func} {R : Ending → World → Prop} {v : Value} (hr : ∀ a, Fr n s a → (results fn a.tmps).run P w = .ok v w) (h : R (.returned v) w) : okE .ret n s (bodyPost P fn R) w := fun a ha => ⟨ha.defers, v, hr a ha, h⟩
theorem E_end {fn : Func} {R : Ending → World → Prop} {v : Value} (hr : ∀ a, Fr n s a → (results fn a.tmps).run P w = .ok v w) (h : R (.returned v) w) : okE .normal n s (bodyPost P fn R) w := fun a ha => ⟨ha.defers, v, hr a ha, h⟩
theorem res_one {fn : Func} {t : Tmp} {v : Value} (h : fn.results = #[.tmp t]) (hl : look s t = some v) (a : Act) (ha : Fr n s a) : (results fn a.tmps).run P w = .ok v w := by
  rw [results_tmp h, ha.has t v hl]
theorem res_none {fn : Func} (h : fn.results = #[]) (a : Act) (_ha : Fr n s a) : (results fn a.tmps).run P w = .ok (.tuple #[]) w := results_none h _ _ _
theorem res_two {fn : Func} {t u : Tmp} {v x : Value} (h : fn.results = #[.tmp t, .tmp u]) (hl : look s t = some v) (hu : look s u = some x) (a : Act) (ha : Fr n s a) : (results fn a.tmps).run P w = .ok (.tuple #[v, x]) w := by
  rw [results_tmp2 h, ha.has t v hl, ha.has u x hu]
theorem res_three {fn : Func} {t u r : Tmp} {v x y : Value} (h : fn.results = #[.tmp t, .tmp u, .tmp r]) (hl : look s t = some v) (hu : look s u = some x) (hr : look s r = some y) (a : Act) (ha : Fr n s a) : (results fn a.tmps).run P w = .ok (.tuple #[v, x, y]) w := by
  have h1 := ha.has t v hl
  have h2 := ha.has u x hu
  have h3 := ha.has r y hr
  simp [results, h, ← h1, ← h2, ← h3]

/-- A function is entered. 's0': its frame at the start. -/
def start (args : List Value) : AL := (args.zipIdx).map fun (v, i) => (i, v)
theorem look_start (args : List Value) (k t : Nat) (v : Value) (h : look ((args.zipIdx k).map fun (v, i) => (i, v)) t = some v) : k ≤ t ∧ args[t - k]? = some v := by
  induction args generalizing k with
  | nil => simp [look] at h
  | cons x l ih =>
    simp only [List.zipIdx_cons, List.map_cons, look] at h
    by_cases e : k = t
    · subst e
      have : Nat.beq k k = true := by simp
      rw [this] at h
      simpa using h
    · rw [beq_ne e] at h
      obtain ⟨h1, h2⟩ := ih (k + 1) h
      refine ⟨by omega, ?_⟩
      rw [show t - k = (t - (k + 1)) + 1 from by omega]
      simpa using h2
theorem enter {f : FuncId} {fn : Func} {c : Code} {args : List Value} {R : Value → World → Prop} (hf : P.funcs[f]? = some fn) (hb : fn.body = some c) (hn : fn.ntmps = n) (hl : Nat.ble args.length n = true)
    (h : okC P c n (start args) (bodyPost P fn fun e w' => ∃ v, e = .returned v ∧ R v w') w) : Ret P f args.toArray w R := by
  have hl' : args.length ≤ n := by simpa using hl
  refine calls_of_wp hf hb (h _ ⟨by simp [hn]; omega, rfl, fun t v ht => ?_⟩)
  have := look_start args 0 t v ht
  have h2 : args[t]? = some v := by simpa using this.2
  have h3 : t < args.length := (List.getElem?_eq_some_iff.1 h2).1
  simp [Array.getD_eq_getD_getElem?, Array.getElem?_append, h3]
  exact Option.some.inj ((List.getElem?_eq_getElem h3).symm.trans h2)
end
end Go.Lm

/- A region whose order is open, by what each operation gives: whatever order is drawn, in the end each temporary has what was said of it. General: no program in sight. -/
namespace Go.Lm
open Go Go.RowKit

/-- Of what was there nothing has turned. -/
def Le (w w' : World) : Prop := Below w.heap.size w w'
theorem Le.refl (w : World) : Le w w := Below.refl _ _
theorem Le.trans {a b c : World} (h : Le a b) (k : Le b c) : Le a c := Below.trans h (Below.mono k h.size)
theorem Le.drew (w : World) : Le w w.drew := (Below.refl _ _).drew
theorem Le.keep {w w' : World} (h : Le w w') {k : Nat} {x : Obj} (hx : w.heap[k]? = some x) : w'.heap[k]? = some x := by
  rw [h.block k (Array.getElem?_eq_some_iff.1 hx).1]; exact hx

/-- Does operation j wait for operation i, at once or by way of others? -/
def reach (ops : Array Oper) : Nat → Nat → Nat → Bool
  | 0, _, _ => false
  | f + 1, j, i => match ops[j]? with
    | none => false
    | some o => o.after.any fun e => Region.binds .any e && (Nat.beq e.on i || reach ops f e.on i)

/-- Edges lead back; temporaries fit; no two operations write one. -/
def edgesOk (ops : Array Oper) : Bool := (List.range ops.size).all fun i => match ops[i]? with
  | none => true
  | some o => (o.after.all fun e => !Region.binds .any e || Nat.blt e.on i) && noSel o
def dstsOk (ops : Array Oper) (n : Nat) : Bool := (List.range ops.size).all fun i => match (ops[i]?).bind (·.dst) with
  | none => true
  | some d => Nat.blt d n && (List.range i).all fun j => match (ops[j]?).bind (·.dst) with
    | none => true
    | some d' => !Nat.beq d' d

/-- Whoever writes t waits for operation j (or is j). -/
def freeAt (ops : Array Oper) (j t : Nat) : Bool := (List.range ops.size).all fun k => match (ops[k]?).bind (·.dst) with
  | none => true
  | some d => !Nat.beq d t || Nat.beq k j || reach ops ops.size k j

section
variable {P : Program}
/-- What an operation that is carried out gives. -/
def gives (P : Program) (w : World) (R : World → Value → Prop) : Result Next → Prop
  | .ok (.value u) w' => Le w w' ∧ R w' u
  | .ok .skip w' => Le w w' ∧ R w' undef
  | .ok (.enter f args) w' => Le w w' ∧ Calls P f args w' fun e w'' => ∃ v, e = .returned v ∧ Le w' w'' ∧ R w'' v
  | _ => False

theorem wp_of_gives {o : Oper} {a : Act} {w : World} {R : World → Value → Prop} {K : Act → World → Prop} {Q : Exit → Act → World → Prop} (h : gives P w R ((execOp a.eval o).run P w))
    (hK : ∀ v w', Le w w' → R w' v → K (a.put o.dst v) w') : o.wp P a w K Q := by
  unfold Oper.wp
  generalize (execOp a.eval o).run P w = r at h
  cases r with
  | ok x w' =>
    cases x <;> simp only [gives] at h <;> simp only [Oper.upon]
    case value u => exact hK _ _ h.1 h.2
    case skip => exact hK _ _ h.1 h.2
    case enter f args =>
      refine Calls.mono h.2 ?_
      rintro e w'' ⟨v, rfl, hl, hr⟩
      exact hK _ _ (h.1.trans hl) hr
  | halt x w' => exact absurd h (by simp [gives])

theorem filter_lt {p q : Nat → Bool} : ∀ (l : List Nat), (∀ x ∈ l, q x = true → p x = true) → ∀ i ∈ l, p i = true → q i = false → (l.filter q).length < (l.filter p).length
  | [], _, i, hi, _, _ => by cases hi
  | x :: l, h, i, hi, hp, hq => by
    have hle : (l.filter q).length ≤ (l.filter p).length := by
      have this : ∀ y ∈ l, q y = true → p y = true := fun y hy => h y (List.mem_cons_of_mem x hy)
      clear h hi
      induction l with
      | nil => simp
      | cons y l ih =>
        have h1 := this y (by simp)
        have h2 := ih (fun z hz => this z (List.mem_cons_of_mem y hz))
        simp only [List.filter_cons]
        by_cases hy : q y = true
        · simp [hy, h1 hy]; exact h2
        · by_cases hy' : p y = true
          · simp [hy, hy']; omega
          · simp [hy, hy']; exact h2
    rcases List.mem_cons.1 hi with rfl | hi'
    · simp [hp, hq]; omega
    · have ih := filter_lt l (fun y hy => h y (List.mem_cons_of_mem x hy)) i hi' hp hq
      simp only [List.filter_cons]
      by_cases hx : q x = true
      · simp [hx, h x (by simp) hx]; exact ih
      · by_cases hx' : p x = true
        · simp [hx, hx']; omega
        · simp [hx, hx']; exact ih

theorem reach_listed {ops : Array Oper} {listed : Array Bool} (hc : ∀ (j : Nat) (o : Oper), ops[j]? = some o → listed.getD j false = true → ∀ e ∈ o.after, Region.binds .any e = true → listed.getD e.on false = true) :
    ∀ f j i, reach ops f j i = true → listed.getD j false = true → listed.getD i false = true
  | 0, _, _, h, _ => by simp [reach] at h
  | f + 1, j, i, h, hj => by
    unfold reach at h
    cases ho : ops[j]? with
    | none => simp [ho] at h
    | some o =>
      simp only [ho] at h
      obtain ⟨k, hk, hb⟩ := Array.any_eq_true.1 h
      simp only [Bool.and_eq_true, Bool.or_eq_true] at hb
      have hl := hc j o ho hj _ (Array.getElem_mem hk) hb.1
      rcases hb.2 with he | he
      · rw [← Nat.eq_of_beq_eq_true he]; exact hl
      · exact reach_listed hc f _ _ he hl

structure RInv (ops : Array Oper) (n : Nat) (W : World) (a₀ : Act) (R : Nat → World → Value → Prop) (listed : Array Bool) (a : Act) (w : World) : Prop where
  lsize : listed.size = ops.size
  closed : ∀ (j : Nat) (o : Oper), ops[j]? = some o → listed.getD j false = true → ∀ e ∈ o.after, Region.binds .any e = true → listed.getD e.on false = true
  le : Le W w
  size : a.tmps.size = n
  defers : a.defers = []
  old : ∀ t, (∀ (k : Nat) (o : Oper), ops[k]? = some o → o.dst = some t → listed.getD k false = false) → a.tmps.getD t undef = a₀.tmps.getD t undef
  new : ∀ (k : Nat) (o : Oper) (d : Tmp), ops[k]? = some o → o.dst = some d → listed.getD k false = true → R k w (a.tmps.getD d undef)

theorem rep_false (m j : Nat) : (Array.replicate m false).getD j false = false := by
  by_cases h : j < m
  · simp [Array.getD_eq_getD_getElem?, h]
  · simp [Array.getD_eq_getD_getElem?, h]

set_option maxHeartbeats 400000 in
theorem region_rel {ops : Array Oper} {n id : Nat} {a₀ : Act} {W : World} {Q : Exit → Act → World → Prop} (R : Nat → World → Value → Prop) (hm : P.follows .mixedOrders = true)
    (hE : edgesOk ops = true) (hD : dstsOk ops n = true) (hs : a₀.tmps.size = n) (hd : a₀.defers = [])
    (stab : ∀ (i : Nat) (w w' : World) (v : Value), Le w w' → R i w v → R i w' v)
    (hop : ∀ (j : Nat) (o : Oper), ops[j]? = some o → ∀ (a : Act) (w : World), Le W w → a.tmps.size = n → a.defers = [] → (∀ t, freeAt ops j t = true → a.tmps.getD t undef = a₀.tmps.getD t undef) →
      (∀ e ∈ o.after, Region.binds .any e = true → ∀ (oe : Oper) (d : Tmp), ops[e.on]? = some oe → oe.dst = some d → R e.on w (a.tmps.getD d undef)) →
      (Region.wanted o (yielded ops a.tmps) = true → gives P w (R j) ((execOp a.eval o).run P w)) ∧ (Region.wanted o (yielded ops a.tmps) = false → R j w undef))
    (hend : ∀ (a : Act) (w : World), Le W w → a.tmps.size = n → a.defers = [] → (∀ t, (∀ (k : Nat) (o : Oper), ops[k]? = some o → o.dst ≠ some t) → a.tmps.getD t undef = a₀.tmps.getD t undef) →
      (∀ (k : Nat) (o : Oper) (d : Tmp), ops[k]? = some o → o.dst = some d → R k w (a.tmps.getD d undef)) → Q .normal a w) : (Code.region id ops true).wp P Q a₀ W := by
  have edges : ∀ (i : Nat) (o : Oper), ops[i]? = some o → ∀ e ∈ o.after, Region.binds .any e = true → e.on < i := fun i o ho e he hb => by
    have hi : i < ops.size := (Array.getElem?_eq_some_iff.1 ho).1
    have h1 := List.all_eq_true.1 hE i (List.mem_range.2 hi)
    simp only [ho, Bool.and_eq_true] at h1
    have h2 := (Array.all_eq_true_iff_forall_mem.1 h1.1) e he
    simpa [hb] using h2
  have dlt : ∀ (i : Nat) (o : Oper) (d : Tmp), ops[i]? = some o → o.dst = some d → d < n := fun i o d ho hd => by
    have hi : i < ops.size := (Array.getElem?_eq_some_iff.1 ho).1
    have h1 := List.all_eq_true.1 hD i (List.mem_range.2 hi)
    simp only [ho, Option.bind_some, hd, Bool.and_eq_true] at h1
    simpa using h1.1
  have dne' : ∀ (i j : Nat) (oi oj : Oper) (d : Tmp), j < i → ops[i]? = some oi → ops[j]? = some oj → oi.dst = some d → oj.dst = some d → False := fun i j oi oj d hji hi hj hdi hdj => by
    have hi' : i < ops.size := (Array.getElem?_eq_some_iff.1 hi).1
    have h1 := List.all_eq_true.1 hD i (List.mem_range.2 hi')
    simp only [hi, Option.bind_some, hdi, Bool.and_eq_true] at h1
    have h2 := List.all_eq_true.1 h1.2 j (List.mem_range.2 hji)
    simp [hj, hdj] at h2
  have dne : ∀ (i j : Nat) (oi oj : Oper) (d : Tmp), ops[i]? = some oi → ops[j]? = some oj → oi.dst = some d → oj.dst = some d → i = j := fun i j oi oj d hi hj hdi hdj => by
    rcases Nat.lt_trichotomy i j with h | h | h
    · exact (dne' j i oj oi d h hj hi hdj hdi).elim
    · exact h
    · exact (dne' i j oi oj d h hi hj hdi hdj).elim
  have unl : ∀ (listed : Array Bool) i, i < listed.size → (listed.getD i true = false ↔ listed.getD i false = false) := fun listed i hi => by
    simp [Array.getD_eq_getD_getElem?, hi]
  -- all are listed where none is ready
  have done : ∀ (listed : Array Bool) (a : Act) (w : World), RInv ops n W a₀ R listed a w → Region.ready .any ops listed = [] → ∀ i, i < ops.size → listed.getD i false = true := by
    intro listed a w inv hr i
    induction i using Nat.strongRecOn with
    | _ i ih =>
      intro hi
      cases hl : listed.getD i false with
      | true => rfl
      | false =>
        exfalso
        have hu : listed.getD i true = false := (unl listed i (by rw [inv.lsize]; exact hi)).2 hl
        have hmem : i ∈ Region.ready .any ops listed := mem_ready.2 ⟨hu, ops[i], by simp [hi], fun e he hb => by
          have hlt := edges i ops[i] (by simp [hi]) e he hb
          exact ih e.on hlt (by omega)⟩
        rw [hr] at hmem
        cases hmem
  have fin : ∀ (listed : Array Bool) (a : Act) (w : World), RInv ops n W a₀ R listed a w → Region.ready .any ops listed = [] → Q .normal a w := fun listed a w inv hr => by
    have hall := done listed a w inv hr
    refine hend a w inv.le inv.size inv.defers (fun t ht => inv.old t fun k o hk hdk => absurd hdk (ht k o hk)) fun k o d hk hdk => inv.new k o d hk hdk (hall k (Array.getElem?_eq_some_iff.1 hk).1)
  have key : ∀ (fuel : Nat) (listed : Array Bool) (a : Act) (w : World), RInv ops n W a₀ R listed a w → ((List.range ops.size).filter fun i => !listed.getD i true).length ≤ fuel → wpAny P .any ops Q fuel listed a w := by
    intro fuel
    induction fuel with
    | zero =>
      intro listed a w inv hc
      have hr : Region.ready .any ops listed = [] := by
        cases hr : Region.ready .any ops listed with
        | nil => rfl
        | cons i l =>
          exfalso
          have hmem : i ∈ Region.ready .any ops listed := by rw [hr]; simp
          obtain ⟨hu, o, ho, _⟩ := mem_ready.1 hmem
          have : i ∈ (List.range ops.size).filter fun i => !listed.getD i true := List.mem_filter.2 ⟨List.mem_range.2 (Array.getElem?_eq_some_iff.1 ho).1, by simp [hu]⟩
          have := List.length_pos_of_mem this
          omega
      exact ⟨hr, fin listed a w inv hr⟩
    | succ fuel ih =>
      intro listed a w inv hc
      refine ⟨fin listed a w inv, fun i hi => ?_⟩
      obtain ⟨hu, o, ho, hdeps⟩ := mem_ready.1 hi
      have hlt : i < ops.size := (Array.getElem?_eq_some_iff.1 ho).1
      have hlt' : i < listed.size := by rw [inv.lsize]; exact hlt
      have hul : listed.getD i false = false := (unl listed i hlt').1 hu
      have hcount : ((List.range ops.size).filter fun k => !(listed.setIfInBounds i true).getD k true).length ≤ fuel := by
        have := filter_lt (p := fun k => !listed.getD k true) (q := fun k => !(listed.setIfInBounds i true).getD k true) (List.range ops.size) (fun x _ hx => by
            by_cases hxi : i = x
            · subst hxi; simpa using hu
            · simpa [getD_set_ne true hxi] using hx) i (List.mem_range.2 hlt) (by simp [hu]) (by simp [Array.getD_eq_getD_getElem?, hlt'])
        omega
      have set_get : ∀ k, (listed.setIfInBounds i true).getD k false = true → k ≠ i → listed.getD k false = true := fun k hk hne => by
        rwa [getD_set_ne false (Ne.symm hne)] at hk
      have next : ∀ v w', Le w w' → (∀ d, o.dst = some d → R i w' v) → RInv ops n W a₀ R (listed.setIfInBounds i true) (a.put o.dst v) w' := fun v w' hle hv => by
        have hput : ∀ t, o.dst ≠ some t → (a.put o.dst v).tmps.getD t undef = a.tmps.getD t undef := fun t ht => by
          cases hod : o.dst with
          | none => rfl
          | some d =>
            have : d ≠ t := fun e => ht (by rw [hod, e])
            simp [Act.put, Array.getD_eq_getD_getElem?, Array.getElem?_setIfInBounds_ne this]
        refine ⟨by simp [inv.lsize], fun j oj hj hlj e he hb => ?_, inv.le.trans hle, ?_, ?_, fun t ht => ?_, fun k ok d hk hdk hlk => ?_⟩
        · by_cases hji : j = i
          · subst hji
            rw [ho] at hj
            obtain rfl := Option.some.inj hj
            exact getD_set_true (hdeps e he hb)
          · exact getD_set_true (inv.closed j oj hj (set_get j hlj hji) e he hb)
        · cases hod : o.dst <;> simp [Act.put, inv.size]
        · cases hod : o.dst <;> simp [Act.put, inv.defers]
        · have hne : o.dst ≠ some t := fun e => by
            have := ht i o ho e
            simp [Array.getD_eq_getD_getElem?, hlt'] at this
          rw [hput t hne]
          refine inv.old t fun k ok hk hdk => ?_
          have := ht k ok hk hdk
          by_cases hki : i = k
          · subst hki; exact hul
          · rwa [getD_set_ne false hki] at this
        · by_cases hki : k = i
          · subst hki
            rw [ho] at hk
            obtain rfl := Option.some.inj hk
            have hdn : d < a.tmps.size := by rw [inv.size]; exact dlt k o d ho hdk
            have : (a.put o.dst v).tmps.getD d undef = v := by rw [hdk]; simp [Act.put, hdn]
            rw [this]
            exact hv d hdk
          · have hne : o.dst ≠ some d := fun e => hki (dne k i ok o d hk ho hdk e)
            rw [hput d hne]
            exact stab k _ _ _ hle (inv.new k ok d hk hdk (set_get k hlk hki))
      have hfree : ∀ t, freeAt ops i t = true → a.tmps.getD t undef = a₀.tmps.getD t undef := fun t ht => inv.old t fun k ok hk hdk => by
        have hk' : k < ops.size := (Array.getElem?_eq_some_iff.1 hk).1
        have h1 := List.all_eq_true.1 ht k (List.mem_range.2 hk')
        simp only [hk, Option.bind_some, hdk] at h1
        cases hlk : listed.getD k false with
        | false => rfl
        | true =>
          exfalso
          have hbt : Nat.beq t t = true := by simp
          simp only [hbt, Bool.not_true, Bool.false_or, Bool.or_eq_true] at h1
          rcases h1 with h1 | h1
          · have := Nat.eq_of_beq_eq_true h1
            subst this
            rw [hul] at hlk; cases hlk
          · have := reach_listed inv.closed _ _ _ h1 hlk
            rw [hul] at this; cases this
      have hgive := hop i o ho a w inv.le inv.size inv.defers hfree fun e he hb oe d hoe hde => inv.new e.on oe d hoe hde (hdeps e he hb)
      unfold wpOp
      simp only [ho]
      split
      · rename_i hw
        exact .inl (wp_of_gives (hgive.1 hw) fun v w' hle hr => ih _ _ _ (next v w' hle fun _ _ => hr) hcount)
      · rename_i hw
        exact ih _ _ _ (next undef w (Le.refl _) fun _ _ => hgive.2 (by simpa using hw)) hcount
  refine wp_region_any hm (key _ _ _ _ ⟨by simp, fun j o _ hl => ?_, Le.drew W, hs, hd, fun t _ => rfl, fun k o d _ _ hl => ?_⟩ ?_)
  · rw [rep_false] at hl; cases hl
  · rw [rep_false] at hl; cases hl
  · exact Nat.le_trans (List.length_filter_le _ _) (by simp)
end
end Go.Lm

/- What single operations come to, by facts on blocks. General: no program in sight. -/
namespace Go.Lm
open Go Go.RowKit

/-! ### Worlds -/
/-- A block of cells that may be written. -/
def Blk (w : World) (b : Nat) (cs : Array Value) (t : TypeId) : Prop := w.heap[b]? = some (.cells cs t (0, 0))
abbrev ptr (b o : Nat) : Value := .pointer (some ⟨b, o, none⟩)

/-- A new block. -/
structure New (w : World) (b : Nat) (o : Obj) (w' : World) : Prop where
  eq : w' = w.alloc o
  at_ : b = w.heap.size
/-- A block is written anew. -/
structure Upd (w : World) (b : Nat) (cs : Array Value) (w' : World) : Prop where
  eq : w' = w.setRow b cs
  lt : b < w.heap.size

theorem New.mk' (w : World) (o : Obj) : New w w.heap.size o (w.alloc o) := ⟨rfl, rfl⟩
theorem New.le {w w' : World} {b : Nat} {o : Obj} (h : New w b o w') : Le w w' := by
  rw [h.eq]; exact (Below.refl _ _).alloc (Nat.le_refl _) o
theorem New.here {w w' : World} {b : Nat} {o : Obj} (h : New w b o w') : w'.heap[b]? = some o := by
  rw [h.eq, h.at_]; exact heap_alloc_new w o
theorem New.blk {w w' : World} {b : Nat} {cs : Array Value} {t : TypeId} (h : New w b (.cells cs t (0, 0)) w') : Blk w' b cs t := h.here
theorem New.keep {w w' : World} {b k : Nat} {o x : Obj} (h : New w b o w') (hx : w.heap[k]? = some x) : w'.heap[k]? = some x := h.le.keep hx
theorem New.lt {w w' : World} {b k : Nat} {o x : Obj} (h : New w b o w') (hx : w.heap[k]? = some x) : k < b := by
  rw [h.at_]; exact (Array.getElem?_eq_some_iff.1 hx).1
theorem New.size {w w' : World} {b : Nat} {o : Obj} (h : New w b o w') : w'.heap.size = b + 1 := by rw [h.eq, h.at_]; simp
theorem New.below {w w' a : World} {b B : Nat} {o : Obj} (h : New w b o w') (hb : Below B a w) (hB : B ≤ b) : Below B a w' := by
  rw [h.eq]; exact hb.alloc (by rw [← h.at_]; exact hB) o

theorem setRow_size (w : World) (b : Nat) (cs : Array Value) : (w.setRow b cs).heap.size = w.heap.size := by simp [World.setRow]
theorem setRow_ne (w : World) (b k : Nat) (cs : Array Value) (h : k ≠ b) : (w.setRow b cs).heap[k]? = w.heap[k]? := by
  simp only [World.setRow, Array.getElem?_modify]
  rw [if_neg (Ne.symm h)]
theorem Upd.blk {w w' : World} {b : Nat} {cs old : Array Value} {t : TypeId} (h : Upd w b cs w') (hx : Blk w b old t) : Blk w' b cs t := by
  rw [h.eq]; exact setRow_heap w b old cs t (0, 0) hx
theorem Upd.keep {w w' : World} {b k : Nat} {cs : Array Value} {x : Obj} (h : Upd w b cs w') (hne : k ≠ b) (hx : w.heap[k]? = some x) : w'.heap[k]? = some x := by
  rw [h.eq, setRow_ne w b k cs hne]; exact hx
theorem Upd.size {w w' : World} {b : Nat} {cs : Array Value} (h : Upd w b cs w') : w'.heap.size = w.heap.size := by rw [h.eq]; exact setRow_size w b cs
theorem Upd.below {w w' a : World} {b B : Nat} {cs : Array Value} (h : Upd w b cs w') (hb : Below B a w) (hB : B ≤ b) : Below B a w' := by
  rw [h.eq]
  exact hb.trans ⟨rfl, rfl, rfl, by rw [setRow_size]; exact Nat.le_refl _, fun k hk => setRow_ne w b k cs (by omega)⟩
theorem Le.below {a w w' : World} {B : Nat} (h : Le w w') (hb : Below B a w) (hB : B ≤ w.heap.size) : Below B a w' := hb.trans (h.mono hB)
theorem Le.blk {w w' : World} {b : Nat} {cs : Array Value} {t : TypeId} (h : Le w w') (hx : Blk w b cs t) : Blk w' b cs t := h.keep hx
theorem Blk.lt {w : World} {b : Nat} {cs : Array Value} {t : TypeId} (h : Blk w b cs t) : b < w.heap.size := (Array.getElem?_eq_some_iff.1 h).1
theorem Blk.cell {w : World} {b : Nat} {cs : Array Value} {t : TypeId} (h : Blk w b cs t) (i : Nat) : w.cell? ⟨b, i, none⟩ = cs[i]? := by unfold Blk at h; simp [World.cell?, h]
theorem Blk.free {w : World} {b : Nat} {cs : Array Value} {t : TypeId} (h : Blk w b cs t) (i : Nat) : w.frozen? ⟨b, i, none⟩ = false := by unfold Blk at h; simp [World.frozen?, h]

/-! ### Operations -/
section
variable {P : Program} {w : World} {ρ : Operand → Value} {o : Oper}

theorem run_load_one {b off : Nat} {cs : Array Value} {t t' : TypeId} {d : TypeDesc} {v : Value} (hb : Blk w b cs t') (hu : P.underlying t = some d) (hd : d.isRow = false) (hv : cs[off]? = some v) :
    (Instr.loadAt t (ptr b off)).run P w = .ok v w := by
  have hagg : (isAgg t).run P w = .ok false w := by
    unfold isAgg
    rw [Sem.run_bind, run_underlying hu w]
    cases d <;> simp_all
  have hc := hb.cell off
  rw [hv] at hc
  simp [Instr.loadAt, Instr.sureAddr, loadVar, hagg, run_load, hc]

theorem run_load_row {b off : Nat} {cs : Array Value} {t t' : TypeId} {d : TypeDesc} {vs : List Value} (hb : Blk w b cs t') (hu : P.underlying t = some d) (hd : d.isRow = true)
    (hi : (P.info? t).map (·.size) = some vs.length) (hv : (cs.toList.drop off).take vs.length = vs) : (Instr.loadAt t (ptr b off)).run P w = .ok (.agg vs.toArray) w := by
  refine run_loadAt_mid w b off t vs d (fun j v hj => ?_) hu hd hi
  rw [hb.cell, ← Array.getElem?_toList]
  have hjl : j < vs.length := (List.getElem?_eq_some_iff.1 hj).1
  rw [← hv, List.getElem?_take, if_pos hjl, List.getElem?_drop] at hj
  exact hj

/-- A store: the cells of the value, into the block. -/
theorem run_store_row {b off : Nat} {cs : Array Value} {t t' : TypeId} {v : Value} (hb : Blk w b cs t') (hi : (P.info? t).map (·.size) = some v.cells.size) (h1 : v.cells.toList.all (·.oneCell') = true)
    (hl : off + v.cells.size ≤ cs.size) :
    (Instr.storeAt t (ptr b off) v).run P w = .ok () (w.setRow b (cs.toList.take off ++ v.cells.toList ++ cs.toList.drop (off + v.cells.size)).toArray) := by
  cases hq : P.info? t with
  | none => simp [hq] at hi
  | some i =>
    have hs : i.size = v.cells.size := by simpa [hq] using hi
    have hst := run_storeCells_at P b off t' v.cells.toList 0 cs w hb (by simpa using hl) (fun x hx => List.all_eq_true.1 h1 x hx)
    simp only [Nat.add_zero, Array.length_toList] at hst
    simp [Instr.storeAt, Instr.sureAddr, storeVar, sizeOf, typeInfo, hq, hs, hst]

theorem X_load {t : TypeId} {x : Operand} {p v : Value} (ho : o.op = .load t x) (hx : ρ x = p) (h : (Instr.loadAt t p).run P w = .ok v w) : (execOp ρ o).run P w = .ok (.value v) w := by
  simp [execOp, ho, hx, h]
theorem X_box {t : TypeId} {x : Operand} {v : Value} (ho : o.op = .box t x) (hx : ρ x = v) : (execOp ρ o).run P w = .ok (.value (ptr w.heap.size 0)) (w.alloc (.cells v.cells t)) := by
  simp [execOp, ho, hx, Instr.box, newVar, newRow, go_sem]
theorem X_alloc {t : TypeId} {i : TypeInfo} {z : Value} (ho : o.op = .alloc t) (hi : P.info? t = some i) (hz : i.zero = some z) : (execOp ρ o).run P w = .ok (.value (ptr w.heap.size 0)) (w.alloc (.cells z.cells t)) := by
  simp [execOp, ho, Instr.alloc, zeroValue, typeInfo, hi, hz, newVar, newRow, go_sem]
theorem X_store {t : TypeId} {x y : Operand} {p v : Value} {w' : World} (ho : o.op = .store t x y) (hx : ρ x = p) (hy : ρ y = v) (h : (Instr.storeAt t p v).run P w = .ok () w') : (execOp ρ o).run P w = .ok .skip w' := by
  simp [execOp, ho, hx, hy, h]
end

/-! ### The same as steps of a walk -/
section
variable {P : Program} {ops : Array Oper} {rest : List Oper} {o : Oper} {n : Nat} {s : AL} {Q : Exit → Act → World → Prop} {w : World}

theorem S_box {d : Nat} {t : TypeId} {x : Operand} {v : Value} (ho : o.op = .box t x) (hx : ev s x = some v) (hw : wants ops s o = some true) (hd : o.dst = some d) (hn : Nat.blt d n = true)
    (cs : Array Value) (hc : v.cells = cs) (k : ∀ b w', New w b (.cells cs t) w' → wpR P ops rest n ((d, ptr b 0) :: s) Q w') : wpR P ops (o :: rest) n s Q w :=
  R_val hw (by simp [knows, noSel, ho, Op.operands, hx]) hd hn (X_box (v := v) ho (by simp [rho, hx])) (by rw [hc]; exact k _ _ (New.mk' w _))
theorem S_alloc {d : Nat} {t : TypeId} (cs : Array Value) (hz : ((P.info? t).bind (·.zero)).map (·.cells) = some cs) (ho : o.op = .alloc t) (hw : wants ops s o = some true) (hd : o.dst = some d) (hn : Nat.blt d n = true)
    (k : ∀ b w', New w b (.cells cs t) w' → wpR P ops rest n ((d, ptr b 0) :: s) Q w') : wpR P ops (o :: rest) n s Q w := by
  cases hi : P.info? t with
  | none => simp [hi] at hz
  | some i =>
    cases hzz : i.zero with
    | none => simp [hi, hzz] at hz
    | some z =>
      have hc : z.cells = cs := by simpa [hi, hzz] using hz
      exact R_val hw (by simp [knows, noSel, ho, Op.operands]) hd hn (X_alloc ho hi hzz) (by rw [hc]; exact k _ _ (New.mk' w _))
theorem S_load {d : Nat} {t : TypeId} {x : Operand} {p v : Value} (hr : (Instr.loadAt t p).run P w = .ok v w) (ho : o.op = .load t x) (hx : ev s x = some p) (hw : wants ops s o = some true) (hd : o.dst = some d) (hn : Nat.blt d n = true)
    (k : wpR P ops rest n ((d, v) :: s) Q w) : wpR P ops (o :: rest) n s Q w :=
  R_val hw (by simp [knows, noSel, ho, Op.operands, hx]) hd hn (X_load ho (by simp [rho, hx]) hr) k
theorem S_store {b off : Nat} {cs : Array Value} {t t' : TypeId} {x y : Operand} {v : Value} (hb : Blk w b cs t') (ho : o.op = .store t x y) (hx : ev s x = some (ptr b off)) (hy : ev s y = some v) (hw : wants ops s o = some true) (hd : o.dst = none)
    (hi : (P.info? t).map (·.size) = some v.cells.size) (h1 : v.cells.toList.all (·.oneCell') = true) (hl : off + v.cells.size ≤ cs.size)
    (cs' : Array Value) (hc : (cs.toList.take off ++ v.cells.toList ++ cs.toList.drop (off + v.cells.size)).toArray = cs')
    (k : ∀ w', Upd w b cs' w' → wpR P ops rest n s Q w') : wpR P ops (o :: rest) n s Q w :=
  R_none (v := undef) hw (by simp [knows, noSel, ho, Op.operands, hx, hy]) hd (.inr (X_store ho (by simp [rho, hx]) (by simp [rho, hy]) (run_store_row hb hi h1 hl))) (by rw [hc]; exact k _ ⟨rfl, hb.lt⟩)
end

/-! ### A region whose order is open, operation by operation -/
abbrev RP := World → Value → Prop
def getR (l : List RP) (i : Nat) : RP := (l[i]?).getD fun _ _ => True
def DepAll (ops : Array Oper) (R : List RP) (w : World) (a : Act) : List Edge → Prop
  | [] => True
  | e :: r => (match Region.binds .any e, (ops[e.on]?).bind (·.dst) with
    | true, some d => getR R e.on w (a.tmps.getD d undef)
    | _, _ => True) ∧ DepAll ops R w a r
theorem DepAll.mk {ops : Array Oper} {R : List RP} {w : World} {a : Act} : ∀ (l : List Edge), (∀ e ∈ l, Region.binds .any e = true → ∀ (oe : Oper) (d : Tmp), ops[e.on]? = some oe → oe.dst = some d → getR R e.on w (a.tmps.getD d undef)) → DepAll ops R w a l
  | [], _ => trivial
  | e :: r, h => ⟨by
      cases hb : Region.binds .any e with
      | false => trivial
      | true =>
        cases ho : ops[e.on]? with
        | none => trivial
        | some oe =>
          cases hd : oe.dst with
          | none => simp [hd]
          | some d => simpa [hd] using h e (by simp) hb oe d ho hd, DepAll.mk r fun e he => h e (List.mem_cons_of_mem _ he)⟩
/-- What is known of a frame when operation j comes up. -/
def freeAL (ops : Array Oper) (j : Nat) (s : AL) : AL := s.filter fun p => freeAt ops j p.1
def RStep (P : Program) (ops : Array Oper) (W : World) (n : Nat) (s : AL) (R : List RP) (j : Nat) (o : Oper) : Prop :=
  ∀ (a : Act) (w : World), Le W w → Fr n (freeAL ops j s) a → DepAll ops R w a o.after.toList →
    (Region.wanted o (yielded ops a.tmps) = true → gives P w (getR R j) ((execOp a.eval o).run P w)) ∧ (Region.wanted o (yielded ops a.tmps) = false → getR R j w undef)
def RAll (P : Program) (ops : Array Oper) (W : World) (n : Nat) (s : AL) (R : List RP) : Nat → List Oper → Prop
  | _, [] => True
  | j, o :: r => RStep P ops W n s R j o ∧ RAll P ops W n s R (j + 1) r
def Stab (R : RP) : Prop := ∀ (w w' : World) (v : Value), Le w w' → R w v → R w' v
def StabAll : List RP → Prop
  | [] => True
  | R :: l => Stab R ∧ StabAll l
theorem StabAll.get : ∀ (l : List RP) (i : Nat), StabAll l → Stab (getR l i)
  | [], i, _ => fun _ _ _ _ _ => by simp [getR]
  | R :: l, 0, h => h.1
  | R :: l, i + 1, h => by
    have := StabAll.get l i h.2
    simpa [getR] using this
theorem stab_exact (x : Value) : Stab fun _ v => v = x := fun _ _ _ _ h => h
theorem stab_true : Stab fun _ _ => True := fun _ _ _ _ h => h
def FinAll (ops : Array Oper) (R : List RP) (w : World) (a : Act) : Nat → List Oper → Prop
  | _, [] => True
  | j, o :: r => (match o.dst with | some d => getR R j w (a.tmps.getD d undef) | none => True) ∧ FinAll ops R w a (j + 1) r
theorem FinAll.mk {ops : Array Oper} {R : List RP} {w : World} {a : Act} (h : ∀ (k : Nat) (o : Oper) (d : Tmp), ops[k]? = some o → o.dst = some d → getR R k w (a.tmps.getD d undef)) :
    ∀ (l : List Oper) (j : Nat), (∀ i, l[i]? = ops[j + i]?) → FinAll ops R w a j l
  | [], _, _ => trivial
  | o :: r, j, hl => ⟨by
      cases hd : o.dst with
      | none => trivial
      | some d => exact h j o d (by simpa using (hl 0).symm) hd, FinAll.mk h r (j + 1) fun i => by have := hl (i + 1); simpa [Nat.add_assoc, Nat.add_comm 1 i] using this⟩
theorem RAll.get {P : Program} {ops : Array Oper} {W : World} {n : Nat} {s : AL} {R : List RP} : ∀ (l : List Oper) (j : Nat), RAll P ops W n s R j l → ∀ i o, l[i]? = some o → RStep P ops W n s R (j + i) o
  | [], _, _, i, o, h => by simp at h
  | x :: r, j, h, 0, o, ho => by
    have : x = o := by simpa using ho
    subst this; exact h.1
  | x :: r, j, h, i + 1, o, ho => by
    have := RAll.get r (j + 1) h.2 i o (by simpa using ho)
    rw [show j + (i + 1) = j + 1 + i from by omega]; exact this

theorem Fr.of_look {n : Nat} {s : AL} {a : Act} (hs : a.tmps.size = n) (hd : a.defers = []) (h : ∀ t v, look s t = some v → a.tmps.getD t undef = v) : Fr n s a := ⟨hs, hd, h⟩
theorem look_filter {p : Nat → Bool} : ∀ {s : AL} {t : Nat} {v : Value}, look (s.filter fun q => p q.1) t = some v → p t = true ∧ look s t = some v
  | [], t, v, h => by simp [look] at h
  | (k, u) :: s, t, v, h => by
    simp only [List.filter_cons] at h
    by_cases hk : p k = true
    · simp only [hk, if_true, look] at h ⊢
      by_cases e : k = t
      · subst e
        have hb : Nat.beq k k = true := by simp
        rw [hb] at h ⊢
        exact ⟨hk, h⟩
      · rw [beq_ne e] at h ⊢
        exact look_filter h
    · simp only [hk] at h
      obtain ⟨h1, h2⟩ := look_filter h
      refine ⟨h1, ?_⟩
      have e : ¬ k = t := fun e => hk (by rw [e]; exact h1)
      simp only [look]
      rw [beq_ne e]
      exact h2
theorem Fr.add {n : Nat} {s : AL} {a : Act} (h : Fr n s a) {t : Nat} {v : Value} (hv : a.tmps.getD t undef = v) : Fr n ((t, v) :: s) a :=
  ⟨h.size, h.defers, fun k u hk => by
    simp only [look] at hk
    by_cases e : t = k
    · subst e
      have : Nat.beq t t = true := by simp
      rw [this] at hk
      rw [hv]; exact Option.some.inj hk
    · rw [beq_ne e] at hk
      exact h.has k u hk⟩

/-- Slots that no operation of a region writes. -/
def untouched (l : List Oper) (t : Nat) : Bool := l.all fun o => match o.dst with | some d => !Nat.beq d t | none => true

theorem C_draw {P : Program} {l : List Oper} {n id : Nat} {s : AL} {Q : Exit → Act → World → Prop} {w : World} (R : List RP) (hm : P.follows .mixedOrders = true)
    (hE : edgesOk l.toArray = true) (hD : dstsOk l.toArray n = true) (hst : StabAll R) (hop : RAll P l.toArray w n s R 0 l)
    (hend : ∀ (a : Act) (w' : World), Le w w' → Fr n (s.filter fun p => untouched l p.1) a → FinAll l.toArray R w' a 0 l → Q .normal a w') : okC P (.region id l.toArray true) n s Q w := fun a₀ ha => by
  refine region_rel (n := n) (getR R) hm hE hD ha.size ha.defers (fun i => StabAll.get R i hst) (fun j o ho a w' hl hs hd hfree hdeps => ?_) fun a w' hl hs hd hold hnew => ?_
  · have h1 := RAll.get l 0 hop j o (by simpa using ho)
    rw [Nat.zero_add] at h1
    refine h1 a w' hl ⟨hs, hd, fun t v ht => ?_⟩ (DepAll.mk _ fun e he hb oe d hoe hde => hdeps e (by simpa using he) hb oe d hoe hde)
    obtain ⟨h2, h3⟩ := look_filter ht
    rw [hfree t h2]
    exact ha.has t v h3
  · refine hend a w' hl ⟨hs, hd, fun t v ht => ?_⟩ (FinAll.mk hnew l 0 (by simp))
    obtain ⟨h1, h2⟩ := look_filter ht
    rw [hold t fun k o hk hdk => ?_]
    · exact ha.has t v h2
    · have hk' : l[k]? = some o := by simpa using hk
      have := List.all_eq_true.1 h1 o (List.mem_of_getElem? hk')
      rw [hdk] at this
      simp at this

/-- One operation of such a region that yields a value. -/
theorem G_val {P : Program} {ops : Array Oper} {n : Nat} {s : AL} {a : Act} {w w' : World} {o : Oper} {R : RP} {v : Value} (hf : Fr n s a) (hw : wants ops s o = some true) (hk : (knows s o && noSel o) = true)
    (hr : (execOp (rho s) o).run P w = .ok (.value v) w') (hl : Le w w') (h : R w' v) :
    (Region.wanted o (yielded ops a.tmps) = true → gives P w R ((execOp a.eval o).run P w)) ∧ (Region.wanted o (yielded ops a.tmps) = false → R w undef) :=
  ⟨fun _ => by rw [exec_eq hf hk, hr]; exact ⟨hl, h⟩, fun h2 => by rw [wants_eq hf hw] at h2; cases h2⟩
/-- .. whose guard says no. -/
theorem G_skip {P : Program} {ops : Array Oper} {n : Nat} {s : AL} {a : Act} {w : World} {o : Oper} {R : RP} (hf : Fr n s a) (hw : wants ops s o = some false) (h : R w undef) :
    (Region.wanted o (yielded ops a.tmps) = true → gives P w R ((execOp a.eval o).run P w)) ∧ (Region.wanted o (yielded ops a.tmps) = false → R w undef) :=
  ⟨fun h2 => (by rw [wants_eq hf hw] at h2; cases h2), fun _ => h⟩
/-- .. a call. -/
theorem G_call {P : Program} {ops : Array Oper} {n : Nat} {s : AL} {a : Act} {w : World} {o : Oper} {R : RP} {f : Nat} {args : Array Value} {R' : Value → World → Prop} (hf : Fr n s a) (hw : wants ops s o = some true) (hk : (knows s o && noSel o) = true)
    (hr : (execOp (rho s) o).run P w = .ok (.enter f args) w) (hc : Ret P f args w R') (h : ∀ v w', R' v w' → Le w w' ∧ R w' v) :
    (Region.wanted o (yielded ops a.tmps) = true → gives P w R ((execOp a.eval o).run P w)) ∧ (Region.wanted o (yielded ops a.tmps) = false → R w undef) :=
  ⟨fun _ => by rw [exec_eq hf hk, hr]; exact ⟨Le.refl w, Calls.mono hc fun e w' ⟨v, he, hv⟩ => ⟨v, he, (h v w' hv).1, (h v w' hv).2⟩⟩, fun h2 => by rw [wants_eq hf hw] at h2; cases h2⟩
theorem eq_bool {P : Program} {s : Sem Next} {w w' : World} {b c : Bool} (h : s.run P w = .ok (.value (.bool b)) w') (hb : b = c) : s.run P w = .ok (.value (.bool c)) w' := hb ▸ h
theorem load_ev {P : Program} {ρ : Operand → Value} {w : World} {o : Oper} {t : TypeId} {x : Operand} {p v : Value} (hr : (Instr.loadAt t p).run P w = .ok v w) (ho : o.op = .load t x) (hx : ρ x = p) : (execOp ρ o).run P w = .ok (.value v) w := X_load ho hx hr
theorem New.below' {w w' a : World} {b : Nat} {o : Obj} (h : New w b o w') (hb : Below a.heap.size a w) : Below a.heap.size a w' := h.below hb (by rw [h.at_]; exact hb.size)
theorem New.own {w w' a : World} {b : Nat} {o : Obj} (h : New w b o w') (hb : Below a.heap.size a w) : a.heap.size ≤ b := by rw [h.at_]; exact hb.size
theorem Le.below' {w w' a : World} (h : Le w w') (hb : Below a.heap.size a w) : Below a.heap.size a w' := h.below hb hb.size

theorem res_cell {P : Program} {n : Nat} {s : AL} {w : World} {fn : Func} {t : Tmp} {ty : TypeId} {p v : Value} (h : fn.results = #[.cell t ty]) (hl : look s t = some p) (hr : (Instr.loadAt ty p).run P w = .ok v w) (a : Act) (ha : Fr n s a) :
    (results fn a.tmps).run P w = .ok v w := by
  have h1 := ha.has t p hl
  cases p with
  | pointer q =>
    cases q with
    | none => simp [Instr.loadAt, Instr.sureAddr, go_sem] at hr
    | some q =>
      have hr' : (loadVar ty q).run P w = .ok v w := by simpa [Instr.loadAt, Instr.sureAddr] using hr
      have h2 : a.tmps[t]?.getD undef = .pointer (some q) := by rw [← h1]; simp [Array.getD_eq_getD_getElem?]
      simp [results, h, h2, hr', asAddr]
  | _ => simp [Instr.loadAt, Instr.sureAddr, go_sem] at hr

/-- '==' of two structs, field by field. -/
theorem X_eql_struct {P : Program} {ρ : Operand → Value} {w : World} {o : Oper} {t yt : TypeId} {x y : Operand} {xs ys : Array Value} {fs : Array Field} {b : Bool} (ho : o.op = .binOp .eql t x y yt) (hx : ρ x = .agg xs) (hy : ρ y = .agg ys)
    (hu : P.underlying t = some (.struct fs)) (hg : P.eqGuardType P.depth t = false) (hp : P.stoodInHeld t = false) (hf : (Op.eqFields 9999 xs ys fs.toList).run P w = .ok b w) :
    (execOp ρ o).run P w = .ok (.value (.bool b)) w := by
  have hfs : P.fieldsOf t = fs := by unfold Program.fieldsOf; rw [hu]
  have he : (Op.equal t (.agg xs) (.agg ys)).run P w = .ok b w := by
    unfold Op.equal Op.maxDepth
    rw [run_equalIn_struct w 9999 t xs ys (by rw [hfs]; exact hu) hp, hfs]
    exact hf
  simp [execOp, ho, hx, hy, eqGuard, hg, binOp, he]
theorem X_neq_struct {P : Program} {ρ : Operand → Value} {w : World} {o : Oper} {t yt : TypeId} {x y : Operand} {xs ys : Array Value} {fs : Array Field} {b : Bool} (ho : o.op = .binOp .neq t x y yt) (hx : ρ x = .agg xs) (hy : ρ y = .agg ys)
    (hu : P.underlying t = some (.struct fs)) (hg : P.eqGuardType P.depth t = false) (hp : P.stoodInHeld t = false) (hf : (Op.eqFields 9999 xs ys fs.toList).run P w = .ok b w) :
    (execOp ρ o).run P w = .ok (.value (.bool !b)) w := by
  have hfs : P.fieldsOf t = fs := by unfold Program.fieldsOf; rw [hu]
  have he : (Op.equal t (.agg xs) (.agg ys)).run P w = .ok b w := by
    unfold Op.equal Op.maxDepth
    rw [run_equalIn_struct w 9999 t xs ys (by rw [hfs]; exact hu) hp, hfs]
    exact hf
  simp [execOp, ho, hx, hy, eqGuard, hg, binOp, he]
/-- One field of a number's type, and the rest. -/
theorem eqF_int {P : Program} {w : World} {d : Nat} {xs ys : Array Value} {f : Field} {fs : List Field} {k : IntKind} {m n : Int} {b : Bool} (hn : (f.name != "_") = true) (hu : P.underlying f.type = some (.int k)) (hi : ((P.info? f.type).map (·.size)) = some 1)
    (hx : xs[f.offset]? = some (.int k m)) (hy : ys[f.offset]? = some (.int k n)) (hr : (Op.eqFields (d + 1) xs ys fs).run P w = .ok b w) : (Op.eqFields (d + 1) xs ys (f :: fs)).run P w = .ok ((m == n) && b) w := by
  have hpx : (part f.type xs f.offset).run P w = .ok (.int k m) w := by
    cases hq : P.info? f.type with
    | none => simp [hq] at hi
    | some i => simp [part, isAgg, run_underlying hu, go_sem, hx]
  have hpy : (part f.type ys f.offset).run P w = .ok (.int k n) w := by
    cases hq : P.info? f.type with
    | none => simp [hq] at hi
    | some i => simp [part, isAgg, run_underlying hu, go_sem, hy]
  have hne : f.name ≠ "_" := by simpa using hn
  simp only [Op.eqFields, if_pos hne, Sem.run_bind, hpx, hpy, Result.andThen_ok, run_equalIn_int w d f.type k k m n hu]
  cases hb : m == n
  · simp [go_sem]
  · simp [hr]
theorem eqF_nil {P : Program} {w : World} {d : Nat} {xs ys : Array Value} : (Op.eqFields d xs ys []).run P w = .ok true w := by simp [Op.eqFields]
theorem Fr.cast {n : Nat} {s s' : AL} {a : Act} (h : Fr n s a) (e : s = s') : Fr n s' a := e ▸ h
end Go.Lm

/- Arguments that come in by value, opened to their cells. General: no program in sight. -/
namespace Go.Lm
open Go Go.RowKit Go.WideShapes Go.ChangeShapes

def rowLike : Option TypeDesc → Bool
  | some (.struct _) | some (.array _ _) => true
  | _ => false
theorem agg_of_okWide {P : Program} {w : World} {r : Reach} {base : Nat} {t : TypeId} {v : Value} (hu : rowLike (P.underlying t) = true) (h : Value.okWide P w r base t v) :
    ∃ cs, v = .agg cs ∧ cs.size = P.cellsOf t ∧ Row.okWide P w r base t cs := by
  unfold Value.okWide at h
  cases hd : P.underlying t with
  | none => rw [hd] at hu; simp [rowLike] at hu
  | some d => rw [hd] at h hu; cases d <;> simp [rowLike] at hu <;> exact h

def isI64 (P : Program) (u : TypeId) : Bool := match P.underlying u with | some (.int .i64) => true | _ => false
theorem ints_of_row {P : Program} {w : World} {r : Reach} {base : Nat} {t : TypeId} {cs : Array Value} {ts : List TypeId} (hct : P.cellTypes P.depth t = some ts) (hts : ts.all (isI64 P) = true) (h : Row.okWide P w r base t cs) :
    ∃ l : List Int, cs = (l.map (Value.int .i64)).toArray := by
  obtain ⟨ts', h1, hsz, h2⟩ := h
  clear hsz
  rw [hct] at h1
  obtain rfl := Option.some.inj h1
  have h3 : ∀ v ∈ cs.toList, ∃ n, v = Value.int .i64 n := fun v hv => by
    obtain ⟨i, hi⟩ := List.getElem?_of_mem hv
    obtain ⟨u, hu, hc⟩ := h2 i v (by simpa using hi)
    have hk := List.all_eq_true.1 hts u (List.mem_of_getElem? hu)
    unfold isI64 at hk
    cases hd : P.underlying u with
    | none => rw [hd] at hk; cases hk
    | some d =>
      rw [hd] at hk
      cases d <;> try cases hk
      rename_i k
      cases k <;> try cases hk
      exact okWide_int hd (by unfold Value.okWide; rw [hd]; exact hc)
  obtain ⟨c⟩ := cs
  simp only at h3
  clear h2 h1
  suffices hs : ∃ l : List Int, c = l.map (Value.int .i64) by
    obtain ⟨l, hl⟩ := hs
    exact ⟨l, by rw [hl]⟩
  induction c with
  | nil => exact ⟨[], rfl⟩
  | cons x c ih =>
    obtain ⟨n, rfl⟩ := h3 x (by simp)
    obtain ⟨l, hl⟩ := ih fun v hv => h3 v (by simp [hv])
    exact ⟨n :: l, by simp [hl]⟩
/-- A struct, or an array, of numbers of int alone. -/
theorem open_ints_agg {P : Program} {w : World} {r : Reach} {base : Nat} {t : TypeId} {v : Value} {ts : List TypeId} (n : Nat) (hu : rowLike (P.underlying t) = true) (hn : P.cellsOf t = n) (hct : P.cellTypes P.depth t = some ts) (hts : ts.all (isI64 P) = true)
    (h : Value.okWide P w r base t v) : ∃ l : List Int, l.length = n ∧ v = .agg (l.map (Value.int .i64)).toArray := by
  obtain ⟨cs, rfl, hs, hr⟩ := agg_of_okWide hu h
  obtain ⟨l, rfl⟩ := ints_of_row hct hts hr
  exact ⟨l, by simpa [hn] using hs, rfl⟩
end Go.Lm

/- Go's data as Lean's data: what a value reads as, in a world. General: no program in sight. -/
namespace Go.Lm
open Go Go.RowKit Go.ChangeShapes Go.WideShapes

/-- Each cell of w is one of w', the same. -/
def Mono (w w' : World) : Prop := ∀ (a : Addr) (v : Value), w.cell? a = some v → w'.cell? a = some v
theorem Mono.refl (w : World) : Mono w w := fun _ _ h => h
theorem Mono.trans {a b c : World} (h : Mono a b) (k : Mono b c) : Mono a c := fun x v hx => k x v (h x v hx)
theorem Le.mono' {w w' : World} (h : Le w w') : Mono w w' := fun a v hc => by rw [Below.cell h (World.block_lt_of_cell? w a hc)]; exact hc

/-- What is held fixed of a world: a ghost. -/
structure Sees (g w : World) : Prop where
  size : g.heap.size ≤ w.heap.size
  mono : Mono g w
theorem Sees.refl (w : World) : Sees w w := ⟨Nat.le_refl _, Mono.refl w⟩
theorem Sees.le {g w w' : World} (h : Sees g w) (hl : Le w w') : Sees g w' := ⟨Nat.le_trans h.size hl.size, h.mono.trans hl.mono'⟩
/-- No cell of block b is held fixed. -/
def NotIn (g : World) (b : Nat) : Prop := ∀ (a : Addr), a.block = b → g.cell? a = none
theorem New.notIn {g w w' : World} {b : Nat} {o : Obj} (h : New w b o w') (hs : Sees g w) : NotIn g b := fun a ha => by
  cases hc : g.cell? a with
  | none => rfl
  | some v =>
    have := World.block_lt_of_cell? g a hc
    have h1 := hs.size
    rw [ha, h.at_] at this
    omega
theorem Sees.upd {g w w' : World} {b : Nat} {cs : Array Value} (h : Sees g w) (hn : NotIn g b) (hu : Upd w b cs w') : Sees g w' := by
  refine ⟨by rw [hu.size]; exact h.size, fun a v hv => ?_⟩
  have hne : a.block ≠ b := fun e => by rw [hn a e] at hv; cases hv
  have h1 := h.mono a v hv
  have h2 : w'.heap[a.block]? = w.heap[a.block]? := by rw [hu.eq]; exact setRow_ne w b a.block cs hne
  rw [World.cell?_of_block (w := w) h2]; exact h1
/-- The ghost behind a call: what was held fixed, and all that is new. -/
def graft (g w w' : World) : World := { w' with heap := Array.ofFn (n := w'.heap.size) fun k => if k.val < w.heap.size then (g.heap[k.val]?).getD (.map #[] 0) else w'.heap[k.val] }
theorem graft_old {g w w' : World} (_hs : Sees g w) (hl : w.heap.size ≤ w'.heap.size) (a : Addr) (ha : a.block < w.heap.size) : (graft g w w').cell? a = g.cell? a := by
  unfold World.cell? graft
  have hlt : a.block < w'.heap.size := by omega
  simp only [Array.getElem?_ofFn, hlt, dif_pos, ha, if_true]
  cases hg : g.heap[a.block]? with
  | none => simp
  | some o => simp
theorem graft_new {g w w' : World} (a : Addr) (ha : w.heap.size ≤ a.block) : (graft g w w').cell? a = w'.cell? a := by
  unfold World.cell? graft
  by_cases hlt : a.block < w'.heap.size
  · simp only [Array.getElem?_ofFn, hlt, dif_pos]
    rw [if_neg (by omega)]
    simp [hlt]
  · simp [hlt]
theorem graft_size (g w w' : World) : (graft g w w').heap.size = w'.heap.size := by simp [graft]
theorem graft_sees {g w w' : World} (hs : Sees g w) (hl : Le w w') : Sees (graft g w w') w' := by
  refine ⟨by rw [graft_size]; exact Nat.le_refl _, fun a v hv => ?_⟩
  by_cases ha : a.block < w.heap.size
  · rw [graft_old hs hl.size a ha] at hv
    exact hl.mono' a v (hs.mono a v hv)
  · rw [graft_new a (by omega)] at hv; exact hv
theorem graft_mono {g w w' : World} (hs : Sees g w) (hl : Le w w') : Mono g (graft g w w') := fun a v hv => by
  have ha : a.block < w.heap.size := Nat.lt_of_lt_of_le (World.block_lt_of_cell? g a hv) hs.size
  rw [graft_old hs hl.size a ha]; exact hv
theorem graft_notIn {g w w' : World} {b : Nat} (hs : Sees g w) (hl : Le w w') (hb : b < w.heap.size) (hn : NotIn g b) : NotIn (graft g w w') b := fun a ha => by
  rw [graft_old hs hl.size a (by omega)]; exact hn a ha
/-- Below the size at the start the ghost is the one that came in. -/
def Agr (g₀ w₀ g : World) : Prop := ∀ (a : Addr), a.block < w₀.heap.size → g.cell? a = g₀.cell? a
theorem Agr.refl (g w : World) : Agr g w g := fun _ _ => rfl
theorem Agr.graft {g₀ w₀ g w w' : World} (h : Agr g₀ w₀ g) (hs : Sees g w) (hl : Le w w') (h0 : w₀.heap.size ≤ w.heap.size) : Agr g₀ w₀ (graft g w w') := fun a ha => by
  rw [graft_old hs hl.size a (by omega)]; exact h a ha
/-- At the end: what is held fixed within is held fixed without. -/
theorem Agr.fin {g₀ w₀ g w : World} (h : Agr g₀ w₀ g) (h0 : Sees g₀ w₀) (hs : Sees g w) (hl : w₀.heap.size ≤ w.heap.size) : Mono g (Lm.graft g₀ w₀ w) := fun a v hv => by
  by_cases ha : a.block < w₀.heap.size
  · rw [graft_old h0 hl a ha, ← h a ha]; exact hv
  · rw [graft_new a (by omega)]; exact hs.mono a v hv

/-- The cells of a datum of a Lean type. -/
class GoRep (α : Type) where
  size : Nat
  agg : Bool
  rel : World → List Value → α → Prop
  mono : ∀ {w w' : World} {cs : List Value} {x : α}, Mono w w' → rel w cs x → rel w' cs x
  len : ∀ {w : World} {cs : List Value} {x : α}, rel w cs x → cs.length = size

def Is {α : Type} [GoRep α] (w : World) (v : Value) (x : α) : Prop :=
  if (GoRep.agg α) then ∃ cs, v = .agg cs ∧ GoRep.rel w cs.toList x else GoRep.rel w [v] x
theorem Is.mono {α : Type} [GoRep α] {w w' : World} {v : Value} {x : α} (hl : Mono w w') (h : Is w v x) : Is w' v x := by
  unfold Is at *
  split at h
  · rename_i ha
    rw [if_pos ha]
    obtain ⟨cs, hv, hr⟩ := h
    exact ⟨cs, hv, GoRep.mono hl hr⟩
  · rename_i ha
    rw [if_neg ha]
    exact GoRep.mono hl h

instance : GoRep Int where
  size := 1
  agg := false
  rel _ cs n := cs = [.int .i64 n] ∧ (Lit.int .i64 n).wf = true
  mono _ h := h
  len h := by rw [h.1]; rfl
instance : GoRep Bool where
  size := 1
  agg := false
  rel _ cs b := cs = [.bool b]
  mono _ h := h
  len h := by rw [h]; rfl
instance : GoRep UInt8 where
  size := 1
  agg := false
  rel _ cs b := cs = [.int .u8 b.toNat]
  mono _ h := h
  len h := by rw [h]; rfl
instance : GoRep ByteArray where
  size := 1
  agg := false
  rel _ cs s := cs = [.string s] ∧ s.size ≤ maxLen
  mono _ h := h
  len h := by rw [h.1]; rfl

/-- A slice that reads as a list. -/
def IsSl {α : Type} [GoRep α] (w : World) (v : Value) (xs : List α) : Prop :=
  (v = .slice none 0 0 ∧ xs = []) ∨
  ∃ (a : Addr) (cap : Nat), v = .slice (some a) xs.length cap ∧ xs.length ≤ cap ∧ cap ≤ maxLen ∧
    ∀ (i : Nat) (x : α), xs[i]? = some x → ∃ cs : List Value, (∀ (j : Nat) (c : Value), cs[j]? = some c → w.cell? (a.add (i * GoRep.size α + j)) = some c) ∧ GoRep.rel w cs x
instance {α : Type} [GoRep α] : GoRep (List α) where
  size := 1
  agg := false
  rel w cs xs := ∃ v, cs = [v] ∧ IsSl w v xs
  mono := by
    rintro w w' cs x hl ⟨v, rfl, h⟩
    refine ⟨v, rfl, ?_⟩
    rcases h with h | ⟨a, cap, hv, h1, h2, h3⟩
    · exact .inl h
    · refine .inr ⟨a, cap, hv, h1, h2, fun i x hx => ?_⟩
      obtain ⟨cs, hc, hr⟩ := h3 i x hx
      exact ⟨cs, fun j c hj => hl _ c (hc j c hj), GoRep.mono hl hr⟩
  len := by rintro w cs x ⟨v, rfl, _⟩; rfl

theorem is_int {w : World} {v : Value} {n : Int} : Is w v n ↔ v = .int .i64 n ∧ (Lit.int .i64 n).wf = true := by
  simp [Is, GoRep.agg, GoRep.rel]
theorem is_str {w : World} {v : Value} {s : ByteArray} : Is w v s ↔ v = .string s ∧ s.size ≤ maxLen := by
  simp [Is, GoRep.agg, GoRep.rel]
theorem is_bool {w : World} {v : Value} {b : Bool} : Is w v b ↔ v = .bool b := by
  simp [Is, GoRep.agg, GoRep.rel]
theorem is_byte {w : World} {v : Value} {b : UInt8} : Is w v b ↔ v = .int .u8 b.toNat := by
  simp [Is, GoRep.agg, GoRep.rel]
theorem is_list {α : Type} [GoRep α] {w : World} {v : Value} {xs : List α} : Is w v xs ↔ IsSl w v xs := by
  simp [Is, GoRep.agg, GoRep.rel]

/-! ### Reading what came in -/
/-- Whatever can be read at type t is a datum of α. -/
def Opens (P : Program) (t : TypeId) (α : Type) [GoRep α] : Prop :=
  ∀ {H : Type} (enc : TypeId × Value → H) (w : World) (base : Nat) (spare : Nat → Bool) (held : Bool) (fuel : Nat) (cs : List Value) (y : DataW H × List MemPlace), DataW.trod enc P w base spare held fuel t cs = some y → ∃ x : α, GoRep.rel w cs x
section
variable {P : Program}
theorem opens_int {t : TypeId} (ht : P.underlying t = some (.int .i64)) : Opens P t Int := fun _ _ _ _ _ _ _ _ h => by
  obtain ⟨n, hc, _, hw⟩ := DataW.trod_int ht h
  exact ⟨n, hc, hw⟩
theorem opens_bool {t : TypeId} (ht : P.underlying t = some .bool) : Opens P t Bool := fun _ _ _ _ _ _ _ _ h => by
  obtain ⟨b, hc, _⟩ := DataW.trod_bool ht h
  exact ⟨b, hc⟩
theorem opens_byte {t : TypeId} (ht : P.underlying t = some (.int .u8)) : Opens P t UInt8 := fun _ _ _ _ _ _ cs _ h => by
  obtain ⟨n, hc, _, hw⟩ := DataW.trod_int ht h
  have hb : 0 ≤ n ∧ n ≤ 255 := by
    simp [Lit.wf, IntKind.min, IntKind.max, IntKind.signed, IntKind.bits] at hw
    omega
  refine ⟨UInt8.ofNat n.toNat, ?_⟩
  have : ((UInt8.ofNat n.toNat).toNat : Int) = n := by
    simp [UInt8.toNat_ofNat']
    omega
  show cs = [.int .u8 _]
  rw [this]; exact hc
theorem opens_str {t : TypeId} (ht : P.underlying t = some .string) : Opens P t ByteArray := fun _ _ _ _ _ _ _ _ h => by
  obtain ⟨s, hc, _, hs⟩ := DataW.trod_string ht h
  exact ⟨s, hc, hs⟩
theorem list_choose {α : Type} {p : Nat → α → Prop} : ∀ n : Nat, (∀ i, i < n → ∃ x, p i x) → ∃ l : List α, l.length = n ∧ ∀ i x, l[i]? = some x → p i x
  | 0, _ => ⟨[], rfl, fun i x h => by simp at h⟩
  | n + 1, h => by
    obtain ⟨l, hl, hp⟩ := list_choose n fun i hi => h i (by omega)
    obtain ⟨x, hx⟩ := h n (by omega)
    refine ⟨l ++ [x], by simp [hl], fun i y hy => ?_⟩
    by_cases hi : i < n
    · rw [List.getElem?_append_left (by omega)] at hy; exact hp i y hy
    · have : i = n := by
        have := (List.getElem?_eq_some_iff.1 hy).1
        simp [hl] at this; omega
      subst this
      rw [List.getElem?_append_right (by omega)] at hy
      simp [hl] at hy
      subst hy; exact hx
theorem opens_list {t e : TypeId} {α : Type} [GoRep α] (ht : P.underlying t = some (.slice e)) (hs : P.cellsOf e = GoRep.size α) (he : Opens P e α) : Opens P t (List α) := fun enc w base spare held fuel cs y h => by
  rcases Go.Deep.open_slice ht h with ⟨hc, _⟩ | ⟨a, len, cap, m, n, D, Pl, hc, hb, hl, hm, hmm, _, hi⟩
  · exact ⟨[], _, hc, .inl ⟨rfl, rfl⟩⟩
  · have hlm : len ≤ m := by rw [hmm]; split <;> omega
    obtain ⟨l, hll, hp⟩ := list_choose (α := α) (p := fun i x => ∃ cs : List Value, (∀ (j : Nat) (c : Value), cs[j]? = some c → w.cell? (a.add (i * GoRep.size α + j)) = some c) ∧ GoRep.rel w cs x) len fun i hi' => by
      obtain ⟨cs', h1, h2⟩ := hi i (by omega)
      obtain ⟨x, hx⟩ := he enc w base spare held n cs' _ h2
      refine ⟨x, cs', fun j c hj => ?_, hx⟩
      obtain ⟨_, hcl, hat⟩ := World.cells?_some h1
      have hjl : j < P.cellsOf e := by rw [← hcl]; exact (List.getElem?_eq_some_iff.1 hj).1
      have := hat j hjl
      rw [Go.Deep.add_add, hs] at this
      rw [this, hj]
    subst hll
    exact ⟨l, _, hc, .inr ⟨a, cap, rfl, hl, hm, hp⟩⟩
/-- An argument. -/
theorem open_one {t : TypeId} {α : Type} [GoRep α] (ho : Opens P t α) (ha : GoRep.agg α = false) {H : Type} {enc : TypeId × Value → H} {w : World} {base : Nat} {spare : Nat → Bool} {held : Bool} {v : Value} {d : DataW H} {ps : List MemPlace}
    (hv : v.cells = #[v]) (h : DataW.Trod enc P w base spare held t v d ps) : ∃ x : α, Is w v x := by
  obtain ⟨fuel, hf⟩ := h
  obtain ⟨x, hx⟩ := ho enc w base spare held fuel _ _ hf
  refine ⟨x, ?_⟩
  unfold Is
  rw [if_neg (by rw [ha]; simp)]
  rw [hv] at hx; exact hx
theorem open_many {t : TypeId} {α : Type} [GoRep α] (ho : Opens P t α) (ha : GoRep.agg α = true) {H : Type} {enc : TypeId × Value → H} {w : World} {base : Nat} {spare : Nat → Bool} {held : Bool} {cs : Array Value} {d : DataW H} {ps : List MemPlace}
    (h : DataW.Trod enc P w base spare held t (.agg cs) d ps) : ∃ x : α, Is w (.agg cs) x := by
  obtain ⟨fuel, hf⟩ := h
  obtain ⟨x, hx⟩ := ho enc w base spare held fuel _ _ hf
  refine ⟨x, ?_⟩
  unfold Is
  rw [if_pos ha]
  exact ⟨cs, rfl, hx⟩

/-! ### Operations on data -/
/-- The place of an element. -/
def elemP (k : Nat) : Value → Int → Value
  | .slice (some a) _ _, i => .pointer (some (a.add (i.toNat * k)))
  | _, _ => undef
theorem X_len_str {w : World} {ρ : Operand → Value} {o : Oper} {x : Operand} {t : TypeId} {s : ByteArray} (ho : o.op = .call { callee := .builtin .len, args := #[x], argTypes := #[t] }) (ht : P.underlying t = some .string) (hx : ρ x = .string s) :
    (execOp ρ o).run P w = .ok (.value (.int .i64 s.size)) w := by
  simp [execOp, ho, resolve, invoke, builtin, hx, Builtin.len_, run_underlying ht, goInt]
theorem X_len {α : Type} [GoRep α] {w : World} {ρ : Operand → Value} {o : Oper} {x : Operand} {t e : TypeId} {v : Value} {xs : List α} (h : Is w v xs) (ho : o.op = .call { callee := .builtin .len, args := #[x], argTypes := #[t] }) (ht : P.underlying t = some (.slice e)) (hx : ρ x = v) :
    (execOp ρ o).run P w = .ok (.value (.int .i64 xs.length)) w := by
  rcases is_list.1 h with ⟨rfl, rfl⟩ | ⟨a, cap, rfl, _⟩ <;> simp [execOp, ho, resolve, invoke, builtin, hx, Builtin.len_, run_underlying ht, goInt]
theorem X_indexAddr {α : Type} [GoRep α] {w : World} {ρ : Operand → Value} {o : Oper} {x y : Operand} {t e : TypeId} {v : Value} {xs : List α} {i : Int} (h : Is w v xs) (h0 : 0 ≤ i) (h1 : i < xs.length) (ho : o.op = .indexAddr t x y) (ht : P.underlying t = some (.slice e))
    (hs : (P.info? e).map (·.size) = some (GoRep.size α)) (hx : ρ x = v) (hy : ρ y = .int .i64 i) : (execOp ρ o).run P w = .ok (.value (elemP (GoRep.size α) v i)) w := by
  rcases is_list.1 h with ⟨rfl, rfl⟩ | ⟨a, cap, rfl, _⟩
  · simp at h1; omega
  · cases hq : P.info? e with
    | none => simp [hq] at hs
    | some ie =>
      have hsz : ie.size = GoRep.size α := by simpa [hq] using hs
      simp [execOp, ho, Instr.indexAt, hx, hy, asIntOf, run_underlying ht, h0, h1, sizeOf, typeInfo, hq, hsz, elemP]
/-- The element is read. -/
theorem run_load_elem {α : Type} [GoRep α] {w : World} {e : TypeId} {d : TypeDesc} {v : Value} {xs : List α} {i : Int} (h : Is w v xs) (h0 : 0 ≤ i) (h1 : i < xs.length) (hu : P.underlying e = some d) (ha : d.isRow = GoRep.agg α) (hone : GoRep.agg α = false → GoRep.size α = 1)
    (hs : (P.info? e).map (·.size) = some (GoRep.size α)) : ∃ u, (Instr.loadAt e (elemP (GoRep.size α) v i)).run P w = .ok u w ∧ Is w u (xs[i.toNat]'(by omega)) := by
  rcases is_list.1 h with ⟨rfl, rfl⟩ | ⟨a, cap, rfl, _, _, h3⟩
  · simp at h1; omega
  · obtain ⟨cs, hc, hr⟩ := h3 i.toNat _ (List.getElem?_eq_getElem (by omega))
    have hlen := GoRep.len hr
    have hcell : ∀ j c, cs[j]? = some c → w.cell? ((a.add (i.toNat * GoRep.size α)).add j) = some c := fun j c hj => by rw [Go.Deep.add_add]; exact hc j c hj
    cases hg : GoRep.agg α with
    | false =>
      have h1' := hone hg
      match cs, hlen.trans h1' with
      | [c], _ =>
        refine ⟨c, ?_, by unfold Is; rw [if_neg (by rw [hg]; simp)]; exact hr⟩
        have h2 := hcell 0 c rfl
        have hagg : (isAgg e).run P w = .ok false w := by
          unfold isAgg
          rw [Sem.run_bind, run_underlying hu w]
          rw [hg] at ha
          cases d <;> simp_all
        have e0 : (a.add (i.toNat * GoRep.size α)).add 0 = a.add (i.toNat * GoRep.size α) := by simp [Addr.add]
        rw [e0] at h2
        simp [elemP, Instr.loadAt, Instr.sureAddr, loadVar, hagg, run_load, h2]
    | true =>
      refine ⟨.agg cs.toArray, ?_, by unfold Is; rw [if_pos hg]; exact ⟨cs.toArray, rfl, by simpa using hr⟩⟩
      cases hq : P.info? e with
      | none => simp [hq] at hs
      | some ie =>
        have hsz : ie.size = cs.length := by rw [hlen]; simpa [hq] using hs
        have hagg : (isAgg e).run P w = .ok true w := by
          unfold isAgg
          rw [Sem.run_bind, run_underlying hu w]
          rw [hg] at ha
          cases d <;> simp_all
        have hl := run_loadCells_list (P := P) w (a.add (i.toNat * GoRep.size α)) cs hcell
        simp [elemP, Instr.loadAt, Instr.sureAddr, loadVar, hagg, sizeOf, typeInfo, hq, hsz, hl]
end

/-! ### Elements that are one cell -/
def nth {α : Type} [Inhabited α] (xs : List α) (i : Int) : α := (xs[i.toNat]?).getD default
theorem nth_eq {α : Type} [Inhabited α] {xs : List α} {i : Int} (h : i.toNat < xs.length) : nth xs i = xs[i.toNat] := by simp [nth, h]
section
variable {P : Program}
theorem run_load_str {w : World} {e : TypeId} {v : Value} {xs : List ByteArray} {i : Int} (h : Is w v xs) (h0 : 0 ≤ i) (h1 : i < xs.length) (hu : P.underlying e = some .string) (hs : (P.info? e).map (·.size) = some 1) :
    (Instr.loadAt e (elemP 1 v i)).run P w = .ok (.string (nth xs i)) w := by
  obtain ⟨u, hr, hi⟩ := run_load_elem (P := P) (e := e) h h0 h1 hu rfl (fun _ => rfl) hs
  obtain ⟨rfl, _⟩ := is_str.1 hi
  rw [nth_eq (by omega)]; exact hr
theorem run_load_int {w : World} {e : TypeId} {v : Value} {xs : List Int} {i : Int} (h : Is w v xs) (h0 : 0 ≤ i) (h1 : i < xs.length) (hu : P.underlying e = some (.int .i64)) (hs : (P.info? e).map (·.size) = some 1) :
    (Instr.loadAt e (elemP 1 v i)).run P w = .ok (.int .i64 (nth xs i)) w := by
  obtain ⟨u, hr, hi⟩ := run_load_elem (P := P) (e := e) h h0 h1 hu rfl (fun _ => rfl) hs
  obtain ⟨rfl, _⟩ := is_int.1 hi
  rw [nth_eq (by omega)]; exact hr
theorem run_load_byte {w : World} {e : TypeId} {v : Value} {xs : List UInt8} {i : Int} (h : Is w v xs) (h0 : 0 ≤ i) (h1 : i < xs.length) (hu : P.underlying e = some (.int .u8)) (hs : (P.info? e).map (·.size) = some 1) :
    (Instr.loadAt e (elemP 1 v i)).run P w = .ok (.int .u8 (nth xs i).toNat) w := by
  obtain ⟨u, hr, hi⟩ := run_load_elem (P := P) (e := e) h h0 h1 hu rfl (fun _ => rfl) hs
  obtain rfl := is_byte.1 hi
  rw [nth_eq (by omega)]; exact hr
theorem Is.len_le {α : Type} [GoRep α] {w : World} {v : Value} {xs : List α} (h : Is w v xs) : xs.length ≤ 9223372036854775807 := by
  rcases is_list.1 h with ⟨_, rfl⟩ | ⟨_, cap, _, h1, h2, _⟩
  · simp
  · unfold maxLen at h2; omega
theorem Is.str_le {w : World} {v : Value} {xs : List ByteArray} (h : Is w v xs) {s : ByteArray} (hs : s ∈ xs) : s.size ≤ 9223372036854775807 := by
  rcases is_list.1 h with ⟨_, rfl⟩ | ⟨_, cap, _, _, _, h3⟩
  · cases hs
  · obtain ⟨i, hi⟩ := List.getElem?_of_mem hs
    obtain ⟨cs, _, _, hr⟩ := h3 i s hi
    unfold maxLen at hr; omega
theorem nth_mem {α : Type} [Inhabited α] {xs : List α} {i : Int} (h0 : 0 ≤ i) (h1 : i < xs.length) : nth xs i ∈ xs := by
  rw [nth_eq (by omega)]; exact List.getElem_mem _

/-- A byte of a string. -/
def byteAt (s : ByteArray) (i : Int) : UInt8 := (s[i.toNat]?).getD 0
theorem X_index_str {w : World} {ρ : Operand → Value} {o : Oper} {x y : Operand} {t : TypeId} {s : ByteArray} {i : Int} (h0 : 0 ≤ i) (h1 : i < s.size) (ho : o.op = .index t x y) (ht : P.underlying t = some .string) (hx : ρ x = .string s) (hy : ρ y = .int .i64 i) :
    (execOp ρ o).run P w = .ok (.value (.int .u8 (byteAt s i).toNat)) w := by
  have hlt : i.toNat < s.size := by omega
  have hb : s[i.toNat]? = some s[i.toNat] := by simp [hlt]
  simp [execOp, ho, Instr.index, hx, hy, asIntOf, run_underlying ht, h0, byteAt, hb]
/-- A part of a string. -/
theorem X_slice_str {w : World} {ρ : Operand → Value} {o : Oper} {x : Operand} {lo hi : Option Operand} {t : TypeId} {s : ByteArray} {l h : Int} (hl : 0 ≤ l) (hlh : l ≤ h) (hh : h ≤ s.size) (ho : o.op = .slice t x lo hi none) (ht : P.underlying t = some .string) (hx : ρ x = .string s)
    (h1 : (lo = none ∧ l = 0) ∨ ∃ y, lo = some y ∧ ρ y = .int .i64 l) (h2 : (hi = none ∧ h = s.size) ∨ ∃ y, hi = some y ∧ ρ y = .int .i64 h) :
    (execOp ρ o).run P w = .ok (.value (.string (s.extract l.toNat h.toNat))) w := by
  have e0 : 0 ≤ h := by omega
  have hb : (Instr.sliceBounds false s.size s.size (lo.map ρ) (hi.map ρ) none).run P w = .ok (l.toNat, h.toNat, s.size) w := by
    rcases h1 with ⟨rfl, rfl⟩ | ⟨y, rfl, hy⟩ <;> rcases h2 with ⟨rfl, rfl⟩ | ⟨z, rfl, hz⟩ <;>
      simp_all [Instr.sliceBounds, Instr.sliceBound, asIntOf] <;> omega
  simp [execOp, ho, Instr.sliceAt, hx, run_underlying ht, Instr.slice, hb]
end

/-- A part of a slice. -/
def sliceV (k : Nat) : Value → Int → Int → Value
  | .slice a _ cap, l, h => .slice (if cap = l.toNat then a else a.map (·.add (l.toNat * k))) (h.toNat - l.toNat) (cap - l.toNat)
  | v, _, _ => v
section
variable {P : Program}
theorem X_slice {α : Type} [GoRep α] {w : World} {ρ : Operand → Value} {o : Oper} {x : Operand} {lo hi : Option Operand} {t e : TypeId} {v : Value} {xs : List α} {l h : Int} (hx' : Is w v xs) (hl : 0 ≤ l) (hlh : l ≤ h) (hh : h ≤ xs.length) (ho : o.op = .slice t x lo hi none)
    (ht : P.underlying t = some (.slice e)) (hs : (P.info? e).map (·.size) = some (GoRep.size α)) (hx : ρ x = v)
    (h1 : (lo = none ∧ l = 0) ∨ ∃ y, lo = some y ∧ ρ y = .int .i64 l) (h2 : (hi = none ∧ h = xs.length) ∨ ∃ y, hi = some y ∧ ρ y = .int .i64 h) :
    (execOp ρ o).run P w = .ok (.value (sliceV (GoRep.size α) v l h)) w := by
  obtain ⟨a, cap, rfl, hcap⟩ : ∃ a cap, v = .slice a xs.length cap ∧ xs.length ≤ cap := by
    rcases is_list.1 hx' with ⟨rfl, rfl⟩ | ⟨a, cap, rfl, hc, _⟩
    · exact ⟨none, 0, rfl, Nat.le_refl _⟩
    · exact ⟨some a, cap, rfl, hc⟩
  have e0 : 0 ≤ h := by omega
  have hc' : h ≤ (cap : Int) := by omega
  have hb : (Instr.sliceBounds true xs.length cap (lo.map ρ) (hi.map ρ) none).run P w = .ok (l.toNat, h.toNat, cap) w := by
    rcases h1 with ⟨rfl, rfl⟩ | ⟨y, rfl, hy⟩ <;> rcases h2 with ⟨rfl, rfl⟩ | ⟨z, rfl, hz⟩ <;>
      simp_all [Instr.sliceBounds, Instr.sliceBound, asIntOf] <;> omega
  cases hq : P.info? e with
  | none => simp [hq] at hs
  | some ie =>
    have hsz : ie.size = GoRep.size α := by simpa [hq] using hs
    simp [execOp, ho, Instr.sliceAt, hx, run_underlying ht, Instr.slice, hb, sizeOf, typeInfo, hq, hsz, sliceV]
theorem Is.slice {α : Type} [GoRep α] {w : World} {v : Value} {xs : List α} {l h : Int} (hx : Is w v xs) (hl : 0 ≤ l) (hlh : l ≤ h) (hh : h ≤ xs.length) :
    Is w (sliceV (GoRep.size α) v l h) ((xs.drop l.toNat).take (h.toNat - l.toNat)) := by
  have hlen : ((xs.drop l.toNat).take (h.toNat - l.toNat)).length = h.toNat - l.toNat := by simp; omega
  rcases is_list.1 hx with ⟨rfl, rfl⟩ | ⟨a, cap, rfl, hc, hm, h3⟩
  · refine is_list.2 (.inl ⟨?_, by simp⟩)
    simp at hh
    have h1 : h = 0 := by omega
    have h2 : l = 0 := by omega
    subst h1 h2
    rfl
  · refine is_list.2 (.inr ⟨if cap = l.toNat then a else a.add (l.toNat * GoRep.size α), cap - l.toNat, ?_, by rw [hlen]; omega, by omega, fun i x hi => ?_⟩)
    · rw [hlen]
      unfold sliceV
      simp only [Option.map_some]
      split <;> rfl
    · have hi' : i < h.toNat - l.toNat := by
        have := (List.getElem?_eq_some_iff.1 hi).1
        rwa [hlen] at this
      rw [List.getElem?_take, if_pos hi', List.getElem?_drop] at hi
      obtain ⟨cs, h4, h5⟩ := h3 _ x hi
      refine ⟨cs, fun j c hj => ?_, h5⟩
      have := h4 j c hj
      rw [if_neg (by omega), Go.Deep.add_add]
      rw [← this]
      congr 2
      rw [Nat.add_mul]; omega
theorem S_val_rel {ops : Array Oper} {rest : List Oper} {o : Oper} {n : Nat} {s : AL} {Q : Exit → Act → World → Prop} {w : World} {d : Nat} {R : Value → Prop} (hw : wants ops s o = some true) (hk : (knows s o && noSel o) = true) (hd : o.dst = some d) (hn : Nat.blt d n = true)
    (hr : ∃ u, (execOp (rho s) o).run P w = .ok (.value u) w ∧ R u) (k : ∀ u, R u → wpR P ops rest n ((d, u) :: s) Q w) : wpR P ops (o :: rest) n s Q w := by
  obtain ⟨u, h1, h2⟩ := hr
  exact R_val hw hk hd hn h1 (k u h2)
end
theorem Sees.of_mono {g g' w : World} (h : Sees g' w) (hm : Mono g g') (hs : g.heap.size ≤ w.heap.size) : Sees g w := ⟨hs, hm.trans h.mono⟩
theorem wrap_in {k : IntKind} {n : Int} (h : (Lit.int k n).wf = true) : k.wrap n = n := by
  cases k <;> simp [Lit.wf, IntKind.min, IntKind.max, IntKind.signed, IntKind.bits] at h <;> simp [IntKind.wrap, IntKind.signed, IntKind.bits] <;> omega
theorem wrap64_in {n : Int} (h0 : -9223372036854775808 ≤ n) (h1 : n ≤ 9223372036854775807) : IntKind.i64.wrap n = n := wrap_in (WalkArith.wf_i64 ⟨h0, h1⟩)
theorem eq_int {P : Program} {s : Sem Next} {w w' : World} {k : IntKind} {m n : Int} (h : s.run P w = .ok (.value (.int k m)) w') (hb : m = n) : s.run P w = .ok (.value (.int k n)) w' := hb ▸ h
end Go.Lm

/- Slices that the call itself makes; strings that are gone through. General: no program in sight. -/
namespace Go.Lm
open Go Go.RowKit

/-! ### A block of whatever kind is written anew -/
structure UpdO (w : World) (b : Nat) (o : Obj) (w' : World) : Prop where
  eq : w' = { w with heap := w.heap.setIfInBounds b o }
  lt : b < w.heap.size
theorem UpdO.here {w w' : World} {b : Nat} {o : Obj} (h : UpdO w b o w') : w'.heap[b]? = some o := by rw [h.eq]; simp [h.lt]
theorem UpdO.keep' {w w' : World} {b k : Nat} {o : Obj} (h : UpdO w b o w') (hne : k ≠ b) : w'.heap[k]? = w.heap[k]? := by
  rw [h.eq]; simp [Array.getElem?_setIfInBounds_ne (Ne.symm hne)]
theorem UpdO.keep {w w' : World} {b k : Nat} {o x : Obj} (h : UpdO w b o w') (hne : k ≠ b) (hx : w.heap[k]? = some x) : w'.heap[k]? = some x := by rw [h.keep' hne]; exact hx
theorem UpdO.size {w w' : World} {b : Nat} {o : Obj} (h : UpdO w b o w') : w'.heap.size = w.heap.size := by rw [h.eq]; simp
theorem UpdO.below {w w' a : World} {b B : Nat} {o : Obj} (h : UpdO w b o w') (hb : Below B a w) (hB : B ≤ b) : Below B a w' := by
  refine hb.trans ⟨?_, ?_, ?_, ?_, fun k hk => h.keep' (by omega)⟩
  · rw [h.eq]
  · rw [h.eq]
  · rw [h.eq]
  · rw [h.size]; exact Nat.le_refl _
theorem Sees.updO {g w w' : World} {b : Nat} {o : Obj} (h : Sees g w) (hn : NotIn g b) (hu : UpdO w b o w') : Sees g w' := by
  refine ⟨by rw [hu.size]; exact h.size, fun a v hv => ?_⟩
  have hne : a.block ≠ b := fun e => by rw [hn a e] at hv; cases hv
  have h1 := h.mono a v hv
  rw [World.cell?_of_block (w := w) (hu.keep' hne)]; exact h1

section
variable {P : Program}
theorem X_range_str {w : World} {ρ : Operand → Value} {o : Oper} {x : Operand} {t : TypeId} {s : ByteArray} (ho : o.op = .range t x) (ht : P.underlying t = some .string) (hx : ρ x = .string s) :
    (execOp ρ o).run P w = .ok (.value (ptr w.heap.size 0)) (w.alloc (.stringIter s 0)) := by
  simp [execOp, ho, Instr.range, hx, run_underlying ht, go_sem]
theorem X_next_yes {w : World} {ρ : Operand → Value} {o : Oper} {x : Operand} {s : ByteArray} {b pos : Nat} (hk : w.heap[b]? = some (.stringIter s pos)) (h : pos < s.size) (ho : o.op = .next x true) (hx : ρ x = ptr b 0) :
    (execOp ρ o).run P w = .ok (.value (.tuple #[.bool true, .int .i64 pos, .int .i32 (Utf8.decode s pos).1])) { w with heap := w.heap.setIfInBounds b (.stringIter s (pos + (Utf8.decode s pos).2)) } := by
  have h1 := Lib.run_next_any_at (P := P) w b s pos o.type hk h
  simp only [execOp, ho, hx, Sem.run_bind, h1, Result.andThen_ok, Sem.run_pure]
  rfl
theorem X_next_no {w : World} {ρ : Operand → Value} {o : Oper} {x : Operand} {s : ByteArray} {b pos : Nat} (hk : w.heap[b]? = some (.stringIter s pos)) (h : ¬ pos < s.size) (ho : o.op = .next x true) (hx : ρ x = ptr b 0) :
    (execOp ρ o).run P w = .ok (.value (.tuple #[.bool false])) w := by
  have h1 := Lib.run_next_end_at (P := P) w b s pos o.type hk h
  simp only [execOp, ho, hx, Sem.run_bind, h1, Result.andThen_ok, Sem.run_pure]
end
section
variable {P : Program} {ops : Array Oper} {rest : List Oper} {o : Oper} {n : Nat} {s : AL} {Q : Exit → Act → World → Prop} {w : World}
theorem S_range_str {d : Nat} {t : TypeId} {x : Operand} {z : ByteArray} (ho : o.op = .range t x) (ht : P.underlying t = some .string) (hx : ev s x = some (.string z)) (hw : wants ops s o = some true) (hd : o.dst = some d) (hn : Nat.blt d n = true)
    (k : ∀ b w', New w b (.stringIter z 0) w' → wpR P ops rest n ((d, ptr b 0) :: s) Q w') : wpR P ops (o :: rest) n s Q w :=
  R_val hw (by simp [knows, noSel, ho, Op.operands, hx]) hd hn (X_range_str ho ht (by simp [rho, hx])) (k _ _ (New.mk' w _))
theorem S_next_yes {d : Nat} {x : Operand} {z : ByteArray} {b pos : Nat} (hk : w.heap[b]? = some (.stringIter z pos)) (h : pos < z.size) (ho : o.op = .next x true) (hx : ev s x = some (ptr b 0)) (hw : wants ops s o = some true) (hd : o.dst = some d) (hn : Nat.blt d n = true)
    (k : ∀ w', UpdO w b (.stringIter z (pos + (Utf8.decode z pos).2)) w' → wpR P ops rest n ((d, .tuple #[.bool true, .int .i64 pos, .int .i32 (Utf8.decode z pos).1]) :: s) Q w') : wpR P ops (o :: rest) n s Q w :=
  R_val hw (by simp [knows, noSel, ho, Op.operands, hx]) hd hn (X_next_yes hk h ho (by simp [rho, hx])) (k _ ⟨rfl, (Array.getElem?_eq_some_iff.1 hk).1⟩)
theorem S_next_no {d : Nat} {x : Operand} {z : ByteArray} {b pos : Nat} (hk : w.heap[b]? = some (.stringIter z pos)) (h : ¬ pos < z.size) (ho : o.op = .next x true) (hx : ev s x = some (ptr b 0)) (hw : wants ops s o = some true) (hd : o.dst = some d) (hn : Nat.blt d n = true)
    (k : wpR P ops rest n ((d, .tuple #[.bool false]) :: s) Q w) : wpR P ops (o :: rest) n s Q w :=
  R_val hw (by simp [knows, noSel, ho, Op.operands, hx]) hd hn (X_next_no hk h ho (by simp [rho, hx])) k
theorem S_new {d : Nat} (f : Nat → Value) (ob : Obj) (hr : (execOp (rho s) o).run P w = .ok (.value (f w.heap.size)) (w.alloc ob)) (hk : (knows s o && noSel o) = true) (hw : wants ops s o = some true) (hd : o.dst = some d) (hn : Nat.blt d n = true)
    (k : ∀ b w', New w b ob w' → wpR P ops rest n ((d, f b) :: s) Q w') : wpR P ops (o :: rest) n s Q w := R_val hw hk hd hn hr (k _ _ (New.mk' w _))
end

/-! ### A new block is held fixed from now on -/
theorem New.le' {w w' : World} {b : Nat} {o : Obj} (h : New w b o w') : Le w w' := h.le
theorem graft_cell_new {g w w' : World} {b i : Nat} {cs : Array Value} {t : TypeId} (h : New w b (.cells cs t (0, 0)) w') : (graft g w w').cell? ⟨b, i, none⟩ = cs[i]? := by
  rw [graft_new ⟨b, i, none⟩ (by rw [h.at_]; exact Nat.le_refl _)]
  exact h.blk.cell i
theorem is_lit_strs {g : World} {b : Nat} {xs : List ByteArray} (h : ∀ (i : Nat) (x : ByteArray), xs[i]? = some x → g.cell? ⟨b, i, none⟩ = some (.string x) ∧ x.size ≤ maxLen) (hm : xs.length ≤ maxLen) :
    Is g (.slice (some ⟨b, 0, none⟩) xs.length xs.length) xs := by
  refine is_list.2 (.inr ⟨⟨b, 0, none⟩, xs.length, rfl, Nat.le_refl _, hm, fun i x hx => ?_⟩)
  obtain ⟨h1, h2⟩ := h i x hx
  refine ⟨[.string x], fun j c hj => ?_, rfl, h2⟩
  match j, hj with
  | 0, hj =>
    obtain rfl : c = .string x := by simpa using hj.symm
    have : (⟨b, 0, none⟩ : Addr).add (i * GoRep.size ByteArray + 0) = ⟨b, i, none⟩ := by
      rw [Addr.add_mid]
      simp [GoRep.size]
    rw [this]; exact h1

/-! ### A slice of the call's own, that reads as a list -/
def RelL {α : Type} [GoRep α] (g : World) : List (List Value) → List α → Prop
  | [], [] => True
  | c :: cs, x :: xs => GoRep.rel g c x ∧ RelL g cs xs
  | _, _ => False
theorem RelL.mono {α : Type} [GoRep α] {g g' : World} (h : Mono g g') : ∀ {cs : List (List Value)} {xs : List α}, RelL g cs xs → RelL g' cs xs
  | [], [], _ => trivial
  | _ :: _, _ :: _, hh => ⟨GoRep.mono h hh.1, RelL.mono h hh.2⟩
theorem RelL.snoc {α : Type} [GoRep α] {g : World} {c : List Value} {x : α} (h : GoRep.rel g c x) : ∀ {cs : List (List Value)} {xs : List α}, RelL g cs xs → RelL g (cs ++ [c]) (xs ++ [x])
  | [], [], _ => ⟨h, trivial⟩
  | _ :: _, _ :: _, hh => ⟨hh.1, RelL.snoc h hh.2⟩
theorem RelL.get {α : Type} [GoRep α] {g : World} : ∀ {cs : List (List Value)} {xs : List α}, RelL g cs xs → ∀ (i : Nat) (x : α), xs[i]? = some x → ∃ c, GoRep.rel g c x ∧ ∀ (j : Nat) (v : Value), c[j]? = some v → cs.flatten[i * GoRep.size α + j]? = some v
  | [], [], _, i, x, hx => by simp at hx
  | c :: cs, y :: xs, h, 0, x, hx => by
    obtain rfl : y = x := by simpa using hx
    refine ⟨c, h.1, fun j v hj => ?_⟩
    rw [List.flatten_cons, Nat.zero_mul, Nat.zero_add, List.getElem?_append_left (List.getElem?_eq_some_iff.1 hj).1]; exact hj
  | c :: cs, y :: xs, h, i + 1, x, hx => by
    obtain ⟨c', h1, h2⟩ := RelL.get h.2 i x (by simpa using hx)
    refine ⟨c', h1, fun j v hj => ?_⟩
    have hl := GoRep.len h.1
    rw [List.flatten_cons, List.getElem?_append_right (by rw [hl, Nat.add_mul]; omega), hl]
    have := h2 j v hj
    rw [← this]; congr 1
    rw [Nat.add_mul]; omega

structure OwnsL {α : Type} [GoRep α] (g w : World) (base : Nat) (e : TypeId) (v : Value) (xs : List α) : Prop where
  ex : ∃ cs : List (List Value), RelL g cs xs ∧ w.ownsRow base e (GoRep.size α) v xs.length cs.flatten
theorem OwnsL.nil {α : Type} [GoRep α] (g w : World) (base : Nat) (e : TypeId) : OwnsL g w base e (.slice none 0 0) ([] : List α) := ⟨[], trivial, World.ownsRow_nil w base e _⟩
theorem OwnsL.lt {α : Type} [GoRep α] {g w : World} {base : Nat} {e : TypeId} {v : Value} {xs : List α} (h : OwnsL g w base e v xs) : ∀ k, v.ownBlock = some k → base ≤ k ∧ k < w.heap.size := by
  obtain ⟨_, _, h⟩ := h.ex; exact h.lt
theorem OwnsL.keep {α : Type} [GoRep α] {g g' w w' : World} {base : Nat} {e : TypeId} {v : Value} {xs : List α} (h : OwnsL g w base e v xs) (hg : Mono g g') (hk : ∀ k, v.ownBlock = some k → w'.heap[k]? = w.heap[k]?) : OwnsL g' w' base e v xs := by
  obtain ⟨cs, h1, h2, h3⟩ := h.ex
  refine ⟨cs, h1.mono hg, h2, ?_⟩
  rcases h3 with h3 | ⟨k, cap, cur, rfl, hb, hk', r⟩
  · exact .inl h3
  · exact .inr ⟨k, cap, cur, rfl, hb, by rw [hk k rfl]; exact hk', r⟩
theorem OwnsL.le {α : Type} [GoRep α] {g w w' : World} {base : Nat} {e : TypeId} {v : Value} {xs : List α} (h : OwnsL g w base e v xs) (hl : Le w w') : OwnsL g w' base e v xs :=
  h.keep (Mono.refl g) fun k hk => hl.block k (h.lt k hk).2
/-- It reads as its list, wherever its own block and what was held fixed are seen. -/
theorem OwnsL.is {α : Type} [GoRep α] {g w G : World} {base : Nat} {e : TypeId} {v : Value} {xs : List α} (h : OwnsL g w base e v xs) (hg : Mono g G) (hb : ∀ a : Addr, base ≤ a.block → G.cell? a = w.cell? a) : Is G v xs := by
  obtain ⟨cs, h1, h2, h3⟩ := h.ex
  rcases h3 with ⟨rfl, h0⟩ | ⟨k, cap, cur, rfl, hbk, hk, hnc, hcm, hcs, htake⟩
  · exact is_list.2 (.inl ⟨rfl, List.eq_nil_of_length_eq_zero h0⟩)
  · refine is_list.2 (.inr ⟨⟨k, 0, none⟩, cap, rfl, hnc, hcm, fun i x hx => ?_⟩)
    obtain ⟨c, hr, hc⟩ := h1.get i x hx
    refine ⟨c, fun j v hj => ?_, GoRep.mono hg hr⟩
    rw [Addr.add_mid, hb ⟨k, _, none⟩ hbk]
    have h4 := hc j v hj
    rw [← htake, List.getElem?_take] at h4
    split at h4
    · simp [World.cell?, hk]
      simpa using h4
    · cases h4
theorem OwnsL.fin {α : Type} [GoRep α] {g₀ w₀ g w : World} {base : Nat} {e : TypeId} {v : Value} {xs : List α} (h : OwnsL g w base e v xs) (ha : Agr g₀ w₀ g) (h0 : Sees g₀ w₀) (hs : Sees g w) (hl : w₀.heap.size ≤ w.heap.size) (hb : w₀.heap.size ≤ base) : Is (graft g₀ w₀ w) v xs :=
  h.is (ha.fin h0 hs hl) fun a hab => graft_new a (by omega)

/-- A new row without elements, not nil. -/
theorem OwnsL.empty {α : Type} [GoRep α] {g w w' : World} {b base : Nat} {e : TypeId} (h : New w b (.cells #[] e) w') (hb : base ≤ b) : OwnsL g w' base e (.slice (some ⟨b, 0, none⟩) 0 0) ([] : List α) := by
  refine ⟨[], trivial, by simp, .inr ⟨b, 0, #[], rfl, hb, ?_, Nat.le_refl _, by simp [maxLen], by simp, by simp⟩⟩
  exact h.here
/-- What an append leaves of the others. -/
structure Grew (w w' : World) (base : Nat) : Prop where
  below : Below base w w'
theorem Sees.grew {g w w' : World} {base : Nat} (h : Sees g w) (hb : g.heap.size ≤ base) (hg : Below base w w') : Sees g w' := by
  refine ⟨Nat.le_trans h.size hg.size, fun a v hv => ?_⟩
  have hlt : a.block < base := Nat.lt_of_lt_of_le (World.block_lt_of_cell? g a hv) hb
  rw [hg.cell hlt]; exact h.mono a v hv
section
variable {P : Program} {ops : Array Oper} {rest : List Oper} {o : Oper} {n : Nat} {s : AL} {Q : Exit → Act → World → Prop} {w : World}
/-- append of one element, out of a block of its own. -/
theorem S_append1 {α : Type} [GoRep α] {d : Nat} {x y : Operand} {t e : TypeId} {g : World} {base : Nat} {v : Value} {xs : List α} {b : Nat} {c : List Value} {a : α} {bytes : Nat} (hown : OwnsL g w base e v xs) (hb : Blk w b c.toArray e) (hr : GoRep.rel g c a)
    (ht : P.underlying t = some (.slice e)) (hi : (P.info? e).map (fun i => (i.size, i.bytes, i.zero.isSome)) = some (GoRep.size α, bytes, true)) (hz : ((P.info? e).bind (·.zero)).map (·.cells.size) = some (GoRep.size α)) (hpos : 0 < GoRep.size α) (h1 : c.all (·.oneCell') = true)
    (hlen : (xs.length + 1) * bytes ≤ 140737488355328) (hmax : xs.length + 1 ≤ 9223372036854775807) (hbase : base ≤ w.heap.size)
    (ho : o.op = .call { callee := .builtin .append, args := #[x, y], argTypes := #[t, t] }) (hx : ev s x = some v) (hy : ev s y = some (.slice (some ⟨b, 0, none⟩) 1 1)) (hw : wants ops s o = some true) (hd : o.dst = some d) (hn : Nat.blt d n = true)
    (k : ∀ v' w', OwnsL g w' base e v' (xs ++ [a]) → Below base w w' → wpR P ops rest n ((d, v') :: s) Q w') : wpR P ops (o :: rest) n s Q w := by
  cases hq : P.info? e with
  | none => simp [hq] at hi
  | some i =>
    simp only [hq, Option.map_some, Option.some.injEq, Prod.mk.injEq, Option.bind_some] at hi hz
    obtain ⟨hs, hby, hzz⟩ := hi
    cases hz' : i.zero with
    | none => simp [hz'] at hzz
    | some z =>
      simp only [hz', Option.map_some, Option.some.injEq] at hz
      obtain ⟨cs, hrel, hrow⟩ := hown.ex
      have hcl := GoRep.len hr
      obtain ⟨v', w', hrun, hown', hgrow, _⟩ := run_append_own (P := P) w base t o.type e i z (GoRep.size α) bytes ht hq hz' hs hby hz hpos v xs.length cs.flatten hrow ⟨b, 0, none⟩ 1 1 c (by rw [hcl, Nat.one_mul])
        (fun j u hu => by rw [Addr.add_mid, hb.cell]; simpa using hu) (fun u hu => List.all_eq_true.1 h1 u hu) (by unfold maxLen; omega) hlen hbase
      refine R_val (v := v') (w' := w') hw (by simp [knows, noSel, ho, Op.operands, Call.operands, hx, hy]) hd hn ?_ (k v' w' ⟨cs ++ [c], hrel.snoc hr, ?_⟩ ?_)
      · simp [execOp, ho, resolve, invoke, builtin, rho, hx, hy, hrun]
      · have : (cs ++ [c]).flatten = cs.flatten ++ c := by simp
        rw [this]
        simpa using hown'
      · have hlt := hrow.lt
        exact (Below.refl base w).grown hgrow hbase fun k hk => (hlt k hk).1
end

theorem at_lt {w : World} {k : Nat} {x : Obj} (h : w.heap[k]? = some x) : k < w.heap.size := (Array.getElem?_eq_some_iff.1 h).1
/-- What is new is held fixed from now on. -/
theorem heldFrom {g w w' g₀ w₀ : World} (hs : Sees g w) (hl : Le w w') (h0 : w₀.heap.size ≤ w.heap.size) : ∃ g' : World, graft g w w' = g' ∧ Sees g' w' ∧ Mono g g' ∧ (∀ b, b < w.heap.size → NotIn g b → NotIn g' b) ∧ (Agr g₀ w₀ g → Agr g₀ w₀ g') ∧ g'.heap.size = w'.heap.size :=
  ⟨_, rfl, graft_sees hs hl, graft_mono hs hl, fun _ hb hn => graft_notIn hs hl hb hn, fun ha => ha.graft hs hl h0, graft_size g w w'⟩
theorem is_nil {α : Type} [GoRep α] (g : World) : Is g (.slice none 0 0) ([] : List α) := is_list.2 (.inl ⟨rfl, rfl⟩)
/-- A variable of the library's own that holds some number. -/
def MaxL (k : Nat) (w : World) : Prop := ∃ m : Int, w.cell? ⟨k, 0, none⟩ = some (.int .i64 m)
theorem MaxL.below {k : Nat} {a w : World} (h : MaxL k a) (hb : Below a.heap.size a w) : MaxL k w := by
  obtain ⟨m, hm⟩ := h
  exact ⟨m, Le.mono' hb _ _ hm⟩
/-- A contract of the shelf's, as a call that returns. -/
theorem Ret.of {P : Program} {f : FuncId} {args : Array Value} {w : World} {v : Value} {Q : World → Prop} (h : Calls P f args w fun e w' => e = .returned v ∧ Q w') : Ret P f args w fun u w' => u = v ∧ Q w' :=
  Calls.mono h fun _ _ ⟨h1, h2⟩ => ⟨v, h1, rfl, h2⟩
theorem Ret.mono {P : Program} {f : FuncId} {args : Array Value} {w : World} {R R' : Value → World → Prop} (h : Ret P f args w R) (hr : ∀ v w', R v w' → R' v w') : Ret P f args w R' :=
  Calls.mono h fun _ _ ⟨v, h1, h2⟩ => ⟨v, h1, hr v _ h2⟩
/-- The cells of a new row of strings. -/
theorem is_new_strs {g w w' : World} {b : Nat} {t : TypeId} {xs : List ByteArray} (h : New w b (.cells (xs.map Value.string).toArray t) w') (hx : ∀ x ∈ xs, x.size ≤ maxLen) (hm : xs.length ≤ maxLen) : Is (graft g w w') (.slice (some ⟨b, 0, none⟩) xs.length xs.length) xs :=
  is_lit_strs (fun i x hi => ⟨by rw [graft_cell_new h]; simp [hi], hx x (List.mem_of_getElem? hi)⟩) hm
end Go.Lm

/- Short forms of the engine's rules, their closed facts found by Lean. General: no program in sight. -/
namespace Go.Lm
open Go Go.RowKit
section
variable {P : Program} {ops : Array Oper} {rest : List Oper} {o : Oper} {n : Nat} {s : AL} {Q : Exit → Act → World → Prop} {w : World} {d f : Nat}
theorem Rv (v : Value) (w' : World) (k : wpR P ops rest n ((d, v) :: s) Q w') (hw : wants ops s o = some true := by exact rfl) (hk : (knows s o && noSel o) = true := by kernel_rfl) (hd : o.dst = some d := by exact rfl) (hn : Nat.blt d n = true := by exact rfl)
    (hr : (execOp (rho s) o).run P w = .ok (.value v) w' := by kernel_rfl) : wpR P ops (o :: rest) n s Q w := R_val hw hk hd hn hr k
theorem Rw (v : Value) (w' : World) (hr : (execOp (rho s) o).run P w = .ok (.value v) w') (k : wpR P ops rest n ((d, v) :: s) Q w') (hw : wants ops s o = some true := by exact rfl) (hk : (knows s o && noSel o) = true := by kernel_rfl) (hd : o.dst = some d := by exact rfl) (hn : Nat.blt d n = true := by exact rfl) : wpR P ops (o :: rest) n s Q w := R_val hw hk hd hn hr k
theorem Rs (k : wpR P ops rest n ((d, undef) :: s) Q w) (hw : wants ops s o = some false := by exact rfl) (hd : o.dst = some d := by exact rfl) (hn : Nat.blt d n = true := by exact rfl) : wpR P ops (o :: rest) n s Q w := R_skip hw hd hn k
theorem Rc (args : Array Value) (w : World) {R : Value → World → Prop} (hc : Ret P f args w R) (k : ∀ v w', R v w' → wpR P ops rest n ((d, v) :: s) Q w') (hw : wants ops s o = some true := by exact rfl) (hk : (knows s o && noSel o) = true := by kernel_rfl) (hd : o.dst = some d := by exact rfl) (hn : Nat.blt d n = true := by exact rfl)
    (hr : (execOp (rho s) o).run P w = .ok (.enter f args) w := by kernel_rfl) : wpR P ops (o :: rest) n s Q w := R_call hw hk hd hn hr hc k
theorem Cs {c : Code} (s' : AL) (h : okC P c n s' Q w) (hs : Sub s s' := by repeat (first | exact True.intro | refine And.intro rfl ?_)) : okC P c n s Q w := C_sub s' hs h
end
end Go.Lm

/- Several slices of the call's own at once. General: no program in sight. -/
namespace Go.Lm
open Go Go.RowKit

/-- Two slices do not share a block. -/
def Disj (v u : Value) : Prop := ∀ k, v.ownBlock = some k → u.ownBlock ≠ some k
theorem Disj.symm {v u : Value} (h : Disj v u) : Disj u v := fun k h1 h2 => h k h2 h1
/-- Where the result of an append lies: where it lay, or behind all that was. -/
theorem append_where {P : Program} {w : World} (base : Nat) (t ty e : TypeId) (i : TypeInfo) (z : Value) (size bytes : Nat) (ht : P.underlying t = some (.slice e)) (hi : P.info? e = some i) (hz : i.zero = some z)
    (hsize : i.size = size) (hby : i.bytes = bytes) (v : Value) (n : Nat) (xs : List Value) (hown : w.ownsRow base e size v n xs)
    (a : Addr) (c : Nat) (news : List Value) (hl : news.length = size) (hnews : ∀ j u, news[j]? = some u → w.cell? (a.add j) = some u) (h1 : ∀ u ∈ news, u.oneCell' = true)
    (h63 : n + 1 ≤ maxLen) (hbytes : (n + 1) * bytes ≤ 140737488355328) {v' : Value} {w' : World} (hr : (Builtin.append_ #[t, t] ty #[v, .slice (some a) 1 c]).run P w = .ok v' w') :
    ∀ k, v'.ownBlock = some k → v.ownBlock = some k ∨ w.heap.size ≤ k := by
  subst hsize
  subst hby
  have hl' : news.length = 1 * i.size := by rw [hl, Nat.one_mul]
  have hsmall : n + 1 ≤ 9223372036854775807 := by simp only [maxLen] at h63; omega
  rcases hown.2 with ⟨rfl, rfl⟩ | ⟨g, cap, cur, rfl, hbg, hg, hnc, hcm, hcs, htake⟩
  · rw [run_append_nil (P := P) w t ty e i z ht hi hz a 1 c news hl' hnews (by omega) (by omega) (by omega)] at hr
    cases hr
    intro k hk
    have : w.heap.size = k := by simpa [Value.ownBlock] using hk
    exact .inr (by omega)
  · by_cases hroom : n + 1 ≤ cap
    · have hfit : n * i.size + news.length ≤ cur.size := by rw [hl', hcs, ← Nat.add_mul]; exact Nat.mul_le_mul_right _ hroom
      rw [run_append_room (P := P) w t ty e i ht hi g n cap cur hg a 1 c news hl' hnews h1 hroom hfit] at hr
      cases hr
      exact fun k hk => .inl hk
    · have holds : ∀ j u, xs[j]? = some u → w.cell? ((⟨g, 0, none⟩ : Addr).add j) = some u := hown.cells (g := g) rfl
      rw [run_append_grow (P := P) w t ty e i z ht hi hz ⟨g, 0, none⟩ n cap xs hown.1 holds a 1 c news hl' hnews (by omega) (by omega) (growslice_fits (by omega) hbytes)] at hr
      cases hr
      intro k hk
      have : w.heap.size = k := by simpa [Value.ownBlock] using hk
      exact .inr (by omega)
theorem OwnsL.grown {α : Type} [GoRep α] {g w w' : World} {base : Nat} {e : TypeId} {u v : Value} {ys : List α} (h : OwnsL g w base e u ys) (hd : Disj v u) (hg : w.grownBy w' v.ownBlock) : OwnsL g w' base e u ys :=
  h.keep (Mono.refl g) fun k hk => hg.block k (h.lt k hk).2 fun e => hd k e.symm hk
theorem Disj.grown {α : Type} [GoRep α] {g w : World} {base : Nat} {e : TypeId} {u v v' : Value} {ys : List α} (hd : Disj v u) (h : OwnsL g w base e u ys) (hw : ∀ k, v'.ownBlock = some k → v.ownBlock = some k ∨ w.heap.size ≤ k) : Disj v' u := fun k hk hu => by
  rcases hw k hk with h1 | h1
  · exact hd k h1 hu
  · have := (h.lt k hu).2; omega
theorem Disj.fresh {α : Type} [GoRep α] {g w w' : World} {b base : Nat} {e : TypeId} {u : Value} {o : Obj} {ys : List α} (h : OwnsL g w base e u ys) (hn : New w b o w') : Disj u (.slice (some ⟨b, 0, none⟩) 0 0) := fun k hk hb => by
  have h1 := (h.lt k hk).2
  have h2 : b = k := by simpa [Value.ownBlock] using hb
  have h3 := hn.at_
  omega
section
variable {P : Program} {ops : Array Oper} {rest : List Oper} {o : Oper} {n : Nat} {s : AL} {Q : Exit → Act → World → Prop} {w : World}
/-- append of one element beside other slices of its own. -/
theorem S_append2 {α : Type} [GoRep α] {d : Nat} {x y : Operand} {t e : TypeId} {g : World} {base : Nat} {v : Value} {xs : List α} {b : Nat} {c : List Value} {a : α} {bytes : Nat} (hown : OwnsL g w base e v xs) (hb : Blk w b c.toArray e) (hr : GoRep.rel g c a)
    (ht : P.underlying t = some (.slice e)) (hi : (P.info? e).map (fun i => (i.size, i.bytes, i.zero.isSome)) = some (GoRep.size α, bytes, true)) (hz : ((P.info? e).bind (·.zero)).map (·.cells.size) = some (GoRep.size α)) (hpos : 0 < GoRep.size α) (h1 : c.all (·.oneCell') = true)
    (hlen : (xs.length + 1) * bytes ≤ 140737488355328) (hmax : xs.length + 1 ≤ 9223372036854775807) (hbase : base ≤ w.heap.size)
    (ho : o.op = .call { callee := .builtin .append, args := #[x, y], argTypes := #[t, t] }) (hx : ev s x = some v) (hy : ev s y = some (.slice (some ⟨b, 0, none⟩) 1 1)) (hw : wants ops s o = some true) (hd : o.dst = some d) (hn : Nat.blt d n = true)
    (k : ∀ v' w', OwnsL g w' base e v' (xs ++ [a]) → Below base w w' → w.grownBy w' v.ownBlock → (∀ k, v'.ownBlock = some k → v.ownBlock = some k ∨ w.heap.size ≤ k) → wpR P ops rest n ((d, v') :: s) Q w') : wpR P ops (o :: rest) n s Q w := by
  cases hq : P.info? e with
  | none => simp [hq] at hi
  | some i =>
    simp only [hq, Option.map_some, Option.some.injEq, Prod.mk.injEq, Option.bind_some] at hi hz
    obtain ⟨hs, hby, hzz⟩ := hi
    cases hz' : i.zero with
    | none => simp [hz'] at hzz
    | some z =>
      simp only [hz', Option.map_some, Option.some.injEq] at hz
      obtain ⟨cs, hrel, hrow⟩ := hown.ex
      have hcl := GoRep.len hr
      have hnw : ∀ j u, c[j]? = some u → w.cell? ((⟨b, 0, none⟩ : Addr).add j) = some u := fun j u hu => by rw [Addr.add_mid, hb.cell]; simpa using hu
      have hone : ∀ u ∈ c, u.oneCell' = true := fun u hu => List.all_eq_true.1 h1 u hu
      have h63 : xs.length + 1 ≤ maxLen := by unfold maxLen; omega
      obtain ⟨v', w', hrun, hown', hgrow, _⟩ := run_append_own (P := P) w base t o.type e i z (GoRep.size α) bytes ht hq hz' hs hby hz hpos v xs.length cs.flatten hrow ⟨b, 0, none⟩ 1 1 c (by rw [hcl, Nat.one_mul]) hnw hone h63 hlen hbase
      have hwhere := append_where (P := P) base t o.type e i z (GoRep.size α) bytes ht hq hz' hs hby v xs.length cs.flatten hrow ⟨b, 0, none⟩ 1 c hcl hnw hone h63 hlen hrun
      refine R_val (v := v') (w' := w') hw (by simp [knows, noSel, ho, Op.operands, Call.operands, hx, hy]) hd hn ?_ (k v' w' ⟨cs ++ [c], hrel.snoc hr, ?_⟩ ?_ hgrow hwhere)
      · simp [execOp, ho, resolve, invoke, builtin, rho, hx, hy, hrun]
      · have : (cs ++ [c]).flatten = cs.flatten ++ c := by simp
        rw [this]
        simpa using hown'
      · have hlt := hrow.lt
        exact (Below.refl base w).grown hgrow hbase fun k hk => (hlt k hk).1
end
end Go.Lm

/- Structs as data: rows of fields. General: no program in sight. -/
namespace Go.Lm
open Go Go.RowKit

class RowRep (ρ : Type) where
  rsize : Nat
  rrel : World → List Value → ρ → Prop
  rmono : ∀ {w w' : World} {cs : List Value} {x : ρ}, Mono w w' → rrel w cs x → rrel w' cs x
  rlen : ∀ {w : World} {cs : List Value} {x : ρ}, rrel w cs x → cs.length = rsize
instance : RowRep PUnit where
  rsize := 0
  rrel _ cs _ := cs = []
  rmono _ h := h
  rlen h := by rw [h]; rfl
instance {α ρ : Type} [GoRep α] [RowRep ρ] : RowRep (α × ρ) where
  rsize := GoRep.size α + RowRep.rsize ρ
  rrel w cs x := ∃ c1 c2, cs = c1 ++ c2 ∧ GoRep.rel w c1 x.1 ∧ RowRep.rrel w c2 x.2
  rmono := by rintro w w' cs x hl ⟨c1, c2, rfl, h1, h2⟩; exact ⟨c1, c2, rfl, GoRep.mono hl h1, RowRep.rmono hl h2⟩
  rlen := by rintro w cs x ⟨c1, c2, rfl, h1, h2⟩; rw [List.length_append, GoRep.len h1, RowRep.rlen h2]
/-- A struct of a row of fields. -/
structure St (ρ : Type) where
  v : ρ
instance {ρ : Type} [RowRep ρ] : GoRep (St ρ) where
  size := RowRep.rsize ρ
  agg := true
  rel w cs x := RowRep.rrel w cs x.v
  mono hl h := RowRep.rmono hl h
  len h := RowRep.rlen h
section
variable {P : Program}
def OpensRow (P : Program) (fs : List Field) (off : Nat) (ρ : Type) [RowRep ρ] : Prop :=
  ∀ {H : Type} (enc : TypeId × Value → H) (w : World) (base : Nat) (spare : Nat → Bool) (held : Bool) (fuel : Nat) (cs : List Value), cs.length = off + RowRep.rsize ρ →
    (∀ f ∈ fs, ∃ y, DataW.trod enc P w base spare held fuel f.type ((cs.drop f.offset).take (P.cellsOf f.type)) = some y) → ∃ x : ρ, RowRep.rrel w (cs.drop off) x
theorem opensRow_nil {off : Nat} : OpensRow P [] off PUnit := fun _ _ _ _ _ _ cs hl _ => ⟨⟨⟩, by
  show cs.drop off = []
  exact List.drop_eq_nil_of_le (by rw [hl]; exact Nat.le_refl _)⟩
theorem opensRow_cons {α ρ : Type} [GoRep α] [RowRep ρ] {f : Field} {fs : List Field} {off : Nat} (ho : f.offset = off) (hs : P.cellsOf f.type = GoRep.size α) (h1 : Opens P f.type α) (h2 : OpensRow P fs (off + GoRep.size α) ρ) : OpensRow P (f :: fs) off (α × ρ) := fun enc w base spare held fuel cs hl h => by
  obtain ⟨y, hy⟩ := h f (by simp)
  obtain ⟨x, hx⟩ := h1 enc w base spare held fuel _ y hy
  have hl' : cs.length = off + (GoRep.size α + RowRep.rsize ρ) := hl
  obtain ⟨r, hr⟩ := h2 enc w base spare held fuel cs (by omega) fun g hg => h g (List.mem_cons_of_mem _ hg)
  rw [ho, hs] at hx
  refine ⟨(x, r), _, _, ?_, hx, hr⟩
  rw [← List.drop_drop, List.take_append_drop]
theorem opens_struct {t : TypeId} {ρ : Type} [RowRep ρ] {fs : Array Field} (ht : P.underlying t = some (.struct fs)) (hs : P.cellsOf t = RowRep.rsize ρ) (h : OpensRow P fs.toList 0 ρ) : Opens P t (St ρ) := fun enc w base spare held fuel cs y hy => by
  obtain ⟨xs, n, _, _, hlen, hxl, hf⟩ := DataW.trod_struct ht hy
  obtain ⟨x, hx⟩ := h enc w base spare held n cs (by rw [hlen, hs]; omega) fun f hm => by
    obtain ⟨i, hi⟩ := List.getElem?_of_mem hm
    have hi' : fs[i]? = some f := by simpa using hi
    have hlt : i < xs.length := by rw [hxl]; exact (Array.getElem?_eq_some_iff.1 hi').1
    exact ⟨xs[i], by rw [hf i f hi', List.getElem?_eq_getElem hlt]⟩
  rw [List.drop_zero] at hx
  exact ⟨⟨x⟩, hx⟩
end
theorem is_st {ρ : Type} [RowRep ρ] {w : World} {v : Value} {x : St ρ} : Is w v x ↔ ∃ cs, v = .agg cs ∧ RowRep.rrel w cs.toList x.v := by
  simp [Is, GoRep.agg, GoRep.rel]
/-! One field after the other. -/
section
variable {ρ : Type} [RowRep ρ] {w : World} {cs : List Value}
theorem row_nil {x : PUnit} : RowRep.rrel w cs x ↔ cs = [] := Iff.rfl
theorem row_int {x : Int × ρ} : RowRep.rrel w cs x ↔ ∃ c2, cs = .int .i64 x.1 :: c2 ∧ (Lit.int .i64 x.1).wf = true ∧ RowRep.rrel w c2 x.2 := by
  constructor
  · rintro ⟨c1, c2, rfl, ⟨rfl, h⟩, h2⟩; exact ⟨c2, rfl, h, h2⟩
  · rintro ⟨c2, rfl, h, h2⟩; exact ⟨[_], c2, rfl, ⟨rfl, h⟩, h2⟩
theorem row_bool {x : Bool × ρ} : RowRep.rrel w cs x ↔ ∃ c2, cs = .bool x.1 :: c2 ∧ RowRep.rrel w c2 x.2 := by
  constructor
  · rintro ⟨c1, c2, rfl, rfl, h2⟩; exact ⟨c2, rfl, h2⟩
  · rintro ⟨c2, rfl, h2⟩; exact ⟨[_], c2, rfl, rfl, h2⟩
theorem row_str {x : ByteArray × ρ} : RowRep.rrel w cs x ↔ ∃ c2, cs = .string x.1 :: c2 ∧ x.1.size ≤ maxLen ∧ RowRep.rrel w c2 x.2 := by
  constructor
  · rintro ⟨c1, c2, rfl, ⟨rfl, h⟩, h2⟩; exact ⟨c2, rfl, h, h2⟩
  · rintro ⟨c2, rfl, h, h2⟩; exact ⟨[_], c2, rfl, ⟨rfl, h⟩, h2⟩
theorem row_list {α : Type} [GoRep α] {x : List α × ρ} : RowRep.rrel w cs x ↔ ∃ v c2, cs = v :: c2 ∧ Is w v x.1 ∧ RowRep.rrel w c2 x.2 := by
  constructor
  · rintro ⟨c1, c2, rfl, ⟨v, rfl, h⟩, h2⟩; exact ⟨v, c2, rfl, is_list.2 h, h2⟩
  · rintro ⟨v, c2, rfl, h, h2⟩; exact ⟨[v], c2, rfl, ⟨v, rfl, is_list.1 h⟩, h2⟩
/-- A struct within a struct: its fields stand in the row. -/
theorem row_st {σ : Type} [RowRep σ] {x : St σ × ρ} : RowRep.rrel w cs x ↔ ∃ c1 c2, cs = c1 ++ c2 ∧ RowRep.rrel w c1 x.1.v ∧ RowRep.rrel w c2 x.2 := Iff.rfl
end
end Go.Lm

/- A node of a tree, and its further attributes, as data: their fields, one by one. General: no program in sight. -/
namespace Go.Lm
open Go Go.RowKit
abbrev XattrD := St (ByteArray × List UInt8 × PUnit)
abbrev AttrD := St (Int × Int × Int × PUnit)
abbrev NodeD := St (List ByteArray × Int × Int × AttrD × List UInt8 × ByteArray × List XattrD × Bool × PUnit)
namespace NodeD
def names (x : NodeD) : List ByteArray := x.v.1
def ino (x : NodeD) : Int := x.v.2.1
def kind (x : NodeD) : Int := x.v.2.2.1
def attr (x : NodeD) : AttrD := x.v.2.2.2.1
def mode (x : NodeD) : Int := x.attr.v.1
def uid (x : NodeD) : Int := x.attr.v.2.1
def gid (x : NodeD) : Int := x.attr.v.2.2.1
def data (x : NodeD) : List UInt8 := x.v.2.2.2.2.1
def target (x : NodeD) : ByteArray := x.v.2.2.2.2.2.1
def xattrs (x : NodeD) : List XattrD := x.v.2.2.2.2.2.2.1
def opq (x : NodeD) : Bool := x.v.2.2.2.2.2.2.2.1
end NodeD
def XattrD.name (x : XattrD) : ByteArray := x.v.1
def XattrD.value (x : XattrD) : List UInt8 := x.v.2.1
theorem xattr_row {w : World} {v : Value} {x : XattrD} : Is w v x ↔ ∃ u, v = .agg #[.string x.v.1, u] ∧ x.v.1.size ≤ maxLen ∧ Is w u x.v.2.1 := by
  rw [is_st]
  constructor
  · rintro ⟨⟨cs⟩, rfl, h⟩
    obtain ⟨c2, e1, hs, h⟩ := row_str.1 h
    obtain ⟨u, c3, rfl, hu, h⟩ := row_list.1 h
    obtain rfl := row_nil.1 h
    have e : cs = [.string x.v.1, u] := e1
    subst e
    exact ⟨u, rfl, hs, hu⟩
  · rintro ⟨u, rfl, hs, hu⟩
    exact ⟨_, rfl, row_str.2 ⟨[u], rfl, hs, row_list.2 ⟨u, [], rfl, hu, row_nil.2 rfl⟩⟩⟩
theorem node_row {w : World} {v : Value} {x : NodeD} : Is w v x ↔ ∃ vn vd vx, v = .agg #[vn, .int .i64 x.ino, .int .i64 x.kind, .int .i64 x.mode, .int .i64 x.uid, .int .i64 x.gid, vd, .string x.target, vx, .bool x.opq] ∧
    Is w vn x.names ∧ Is w vd x.data ∧ Is w vx x.xattrs ∧ x.target.size ≤ maxLen ∧ (Lit.int .i64 x.ino).wf = true ∧ (Lit.int .i64 x.kind).wf = true ∧ (Lit.int .i64 x.mode).wf = true ∧ (Lit.int .i64 x.uid).wf = true ∧ (Lit.int .i64 x.gid).wf = true := by
  rw [is_st]
  constructor
  · rintro ⟨⟨cs⟩, rfl, h⟩
    obtain ⟨vn, c1, e1, hn, h⟩ := row_list.1 h
    obtain ⟨c2, rfl, i1, h⟩ := row_int.1 h
    obtain ⟨c3, rfl, i2, h⟩ := row_int.1 h
    obtain ⟨ca, c4, rfl, ha, q4⟩ := row_st.1 h
    obtain ⟨a1, rfl, i3, ha⟩ := row_int.1 ha
    obtain ⟨a2, rfl, i4, ha⟩ := row_int.1 ha
    obtain ⟨a3, rfl, i5, ha⟩ := row_int.1 ha
    obtain rfl := row_nil.1 ha
    obtain ⟨vd, c5, rfl, hd, q5⟩ := row_list.1 q4
    obtain ⟨c6, rfl, ht, q6⟩ := row_str.1 q5
    obtain ⟨vx, c7, rfl, hx, q7⟩ := row_list.1 q6
    obtain ⟨c8, rfl, q8⟩ := row_bool.1 q7
    obtain rfl := row_nil.1 q8
    have e : cs = _ := e1
    subst e
    exact ⟨vn, vd, vx, rfl, hn, hd, hx, ht, i1, i2, i3, i4, i5⟩
  · rintro ⟨vn, vd, vx, rfl, hn, hd, hx, ht, i1, i2, i3, i4, i5⟩
    refine ⟨_, rfl, row_list.2 ⟨vn, _, rfl, hn, row_int.2 ⟨_, rfl, i1, row_int.2 ⟨_, rfl, i2, row_st.2 ⟨[.int .i64 x.mode, .int .i64 x.uid, .int .i64 x.gid], [vd, .string x.target, vx, .bool x.opq], rfl, row_int.2 ⟨_, rfl, i3, row_int.2 ⟨_, rfl, i4, row_int.2 ⟨_, rfl, i5, row_nil.2 rfl⟩⟩⟩, ?_⟩⟩⟩⟩⟩
    exact row_list.2 ⟨vd, _, rfl, hd, row_str.2 ⟨_, rfl, ht, row_list.2 ⟨vx, _, rfl, hx, row_bool.2 ⟨_, rfl, row_nil.2 rfl⟩⟩⟩⟩
/-! ### An element is read; what is held fixed tells of it -/
theorem run_load_at {P : Program} {α : Type} [GoRep α] {g w : World} {e : TypeId} {d : TypeDesc} {v : Value} {xs : List α} {i : Int} (h : Is g v xs) (hm : Mono g w) (h0 : 0 ≤ i) (h1 : i < xs.length) (hu : P.underlying e = some d) (ha : d.isRow = GoRep.agg α) (hone : GoRep.agg α = false → GoRep.size α = 1)
    (hs : (P.info? e).map (·.size) = some (GoRep.size α)) : ∃ u, (Instr.loadAt e (elemP (GoRep.size α) v i)).run P w = .ok u w ∧ Is g u (xs[i.toNat]'(by omega)) := by
  rcases is_list.1 h with ⟨rfl, rfl⟩ | ⟨a, cap, rfl, _, _, h3⟩
  · simp at h1; omega
  · obtain ⟨cs, hc, hr⟩ := h3 i.toNat _ (List.getElem?_eq_getElem (by omega))
    have hlen := GoRep.len hr
    have hcell : ∀ j c, cs[j]? = some c → w.cell? ((a.add (i.toNat * GoRep.size α)).add j) = some c := fun j c hj => by rw [Go.Deep.add_add]; exact hm _ _ (hc j c hj)
    cases hg : GoRep.agg α with
    | false =>
      have h1' := hone hg
      match cs, hlen.trans h1' with
      | [c], _ =>
        refine ⟨c, ?_, by unfold Is; rw [if_neg (by rw [hg]; simp)]; exact hr⟩
        have h2 := hcell 0 c rfl
        have hagg : (isAgg e).run P w = .ok false w := by
          unfold isAgg
          rw [Sem.run_bind, run_underlying hu w]
          rw [hg] at ha
          cases d <;> simp_all
        have e0 : (a.add (i.toNat * GoRep.size α)).add 0 = a.add (i.toNat * GoRep.size α) := by simp [Addr.add]
        rw [e0] at h2
        simp [elemP, Instr.loadAt, Instr.sureAddr, loadVar, hagg, run_load, h2]
    | true =>
      refine ⟨.agg cs.toArray, ?_, by unfold Is; rw [if_pos hg]; exact ⟨cs.toArray, rfl, by simpa using hr⟩⟩
      cases hq : P.info? e with
      | none => simp [hq] at hs
      | some ie =>
        have hsz : ie.size = cs.length := by rw [hlen]; simpa [hq] using hs
        have hagg : (isAgg e).run P w = .ok true w := by
          unfold isAgg
          rw [Sem.run_bind, run_underlying hu w]
          rw [hg] at ha
          cases d <;> simp_all
        have hl := run_loadCells_list (P := P) w (a.add (i.toNat * GoRep.size α)) cs hcell
        simp [elemP, Instr.loadAt, Instr.sureAddr, loadVar, hagg, sizeOf, typeInfo, hq, hsz, hl]
instance : Inhabited XattrD := ⟨⟨(⟨#[]⟩, [], ⟨⟩)⟩⟩
instance : Inhabited NodeD := ⟨⟨([], 0, 0, ⟨(0, 0, 0, ⟨⟩)⟩, [], ⟨#[]⟩, [], false, ⟨⟩)⟩⟩
theorem load_node {P : Program} {g w : World} {e : TypeId} {fs : Array Field} {v : Value} {xs : List NodeD} {i : Int} (h : Is g v xs) (hm : Mono g w) (h0 : 0 ≤ i) (h1 : i < xs.length) (hu : P.underlying e = some (.struct fs)) (hs : (P.info? e).map (·.size) = some 10) :
    ∃ vn vd vx, (Instr.loadAt e (elemP 10 v i)).run P w = .ok (.agg #[vn, .int .i64 (nth xs i).ino, .int .i64 (nth xs i).kind, .int .i64 (nth xs i).mode, .int .i64 (nth xs i).uid, .int .i64 (nth xs i).gid, vd, .string (nth xs i).target, vx, .bool (nth xs i).opq]) w ∧
      Is g vn (nth xs i).names ∧ Is g vd (nth xs i).data ∧ Is g vx (nth xs i).xattrs ∧ (nth xs i).target.size ≤ maxLen := by
  obtain ⟨u, hr, hi⟩ := run_load_at (P := P) (e := e) h hm h0 h1 hu rfl (fun h => by cases h) hs
  rw [← nth_eq (by omega)] at hi
  obtain ⟨vn, vd, vx, rfl, h2, h3, h4, h5, _⟩ := node_row.1 hi
  exact ⟨vn, vd, vx, hr, h2, h3, h4, h5⟩
theorem load_xattr {P : Program} {g w : World} {e : TypeId} {fs : Array Field} {v : Value} {xs : List XattrD} {i : Int} (h : Is g v xs) (hm : Mono g w) (h0 : 0 ≤ i) (h1 : i < xs.length) (hu : P.underlying e = some (.struct fs)) (hs : (P.info? e).map (·.size) = some 2) :
    ∃ u, (Instr.loadAt e (elemP 2 v i)).run P w = .ok (.agg #[.string (nth xs i).v.1, u]) w ∧ Is g u (nth xs i).v.2.1 ∧ (nth xs i).v.1.size ≤ maxLen := by
  obtain ⟨u, hr, hi⟩ := run_load_at (P := P) (e := e) h hm h0 h1 hu rfl (fun h => by cases h) hs
  rw [← nth_eq (by omega)] at hi
  obtain ⟨u', rfl, h2, h3⟩ := xattr_row.1 hi
  exact ⟨u', hr, h3, h2⟩
end Go.Lm

/- What the call owns of the heap, as a list of parts that lie apart; what is held fixed, as a ghost. General: no program in sight. -/
namespace Go.Lm
open Go Go.RowKit

/-! ### Parts of a heap -/
abbrev Hp := Nat → Option Obj
def Hp.join (h k : Hp) : Hp := fun b => match h b with | some o => some o | none => k b
def Hp.apart (h k : Hp) : Prop := ∀ b, h b = none ∨ k b = none
theorem Hp.join_left {h k : Hp} {b : Nat} {o : Obj} (e : h b = some o) : h.join k b = some o := by simp [Hp.join, e]
theorem Hp.join_right {h k : Hp} {b : Nat} (e : h b = none) : h.join k b = k b := by simp [Hp.join, e]
theorem Hp.apart.symm {h k : Hp} (a : h.apart k) : k.apart h := fun b => (a b).symm
theorem Hp.join_comm {h k : Hp} (a : h.apart k) : h.join k = k.join h := by
  funext b
  unfold Hp.join
  rcases a b with e | e <;> rw [e] <;> cases h b <;> cases k b <;> simp_all
theorem Hp.join_assoc (h k m : Hp) : (h.join k).join m = h.join (k.join m) := by
  funext b
  unfold Hp.join
  cases h b <;> rfl
theorem Hp.apart_join {h k m : Hp} : h.apart (k.join m) ↔ h.apart k ∧ h.apart m := by
  constructor
  · intro a
    refine ⟨fun b => ?_, fun b => ?_⟩
    · rcases a b with e | e
      · exact .inl e
      · right; unfold Hp.join at e; cases hk : k b <;> simp_all
    · rcases a b with e | e
      · exact .inl e
      · right; unfold Hp.join at e; cases hk : k b <;> simp_all
  · rintro ⟨a1, a2⟩ b
    rcases a1 b with e | e
    · exact .inl e
    · rcases a2 b with e' | e'
      · exact .inl e'
      · right; simp [Hp.join, e, e']

/-- A part's statement: of what is held fixed, and of the part of the heap that is its own. -/
structure Atom where
  sat : World → Hp → Prop
  mono : ∀ {g g' : World} {h : Hp}, Mono g g' → sat g h → sat g' h

def sats (g : World) : List Atom → Hp → Prop
  | [], _ => True
  | a :: l, h => ∃ h1 h2, Hp.apart h1 h2 ∧ h = h1.join h2 ∧ a.sat g h1 ∧ sats g l h2
theorem sats.mono {g g' : World} (m : Mono g g') : ∀ {l : List Atom} {h : Hp}, sats g l h → sats g' l h
  | [], _, _ => trivial
  | _ :: _, _, ⟨h1, h2, a, e, s1, s2⟩ => ⟨h1, h2, a, e, Atom.mono _ m s1, s2.mono m⟩
theorem sats.swap {g : World} {a b : Atom} {l : List Atom} {h : Hp} (s : sats g (a :: b :: l) h) : sats g (b :: a :: l) h := by
  obtain ⟨h1, h2, ap, rfl, s1, k1, k2, ap2, rfl, s2, s3⟩ := s
  obtain ⟨a1, a2⟩ := Hp.apart_join.1 ap
  refine ⟨k1, h1.join k2, Hp.apart_join.2 ⟨a1.symm, ap2⟩, ?_, s2, h1, k2, a2, rfl, s1, s3⟩
  rw [← Hp.join_assoc, Hp.join_comm a1, Hp.join_assoc]

/-- The i-th part to the front. -/
def nthA : List Atom → Nat → Option Atom
  | [], _ => none
  | a :: _, 0 => some a
  | _ :: l, i + 1 => nthA l i
def dropA : List Atom → Nat → List Atom
  | [], _ => []
  | _ :: l, 0 => l
  | a :: l, i + 1 => a :: dropA l i
def setA : List Atom → Nat → Atom → List Atom
  | [], _, _ => []
  | _ :: l, 0, b => b :: l
  | a :: l, i + 1, b => a :: setA l i b
theorem sats.pick {g : World} : ∀ {l : List Atom} {i : Nat} {a : Atom} {h : Hp}, nthA l i = some a → sats g l h → sats g (a :: dropA l i) h
  | [], _, _, _, e, _ => by cases e
  | b :: l, 0, a, h, e, s => by
    obtain rfl : b = a := Option.some.inj e
    exact s
  | b :: l, i + 1, a, h, e, s => by
    obtain ⟨h1, h2, ap, rfl, s1, s2⟩ := s
    have := sats.pick (l := l) (i := i) e s2
    exact sats.swap ⟨h1, h2, ap, rfl, s1, this⟩
theorem sats.unpick {g : World} : ∀ {l : List Atom} {i : Nat} {a b : Atom} {h : Hp}, nthA l i = some b → sats g (a :: dropA l i) h → sats g (setA l i a) h
  | [], _, _, _, _, e, _ => by cases e
  | c :: l, 0, a, b, h, e, s => s
  | c :: l, i + 1, a, b, h, e, s => by
    obtain ⟨h1, h2, ap, rfl, s1, s2⟩ := s.swap
    exact ⟨h1, h2, ap, rfl, s1, sats.unpick (l := l) (i := i) e s2⟩

/-- The start: the world, and what was held fixed of it. -/
structure Base where
  w : World
  g : World
abbrev Base.n (W : Base) : Nat := W.w.heap.size
/-- What is held fixed; below the start it is what it was. -/
structure SeesA (W : Base) (g w : World) : Prop where
  sees : Sees g w
  agr : Agr W.g W.w g
theorem SeesA.size {W : Base} {g w : World} (s : SeesA W g w) : g.heap.size ≤ w.heap.size := s.sees.size
theorem SeesA.mono {W : Base} {g w : World} (s : SeesA W g w) : Mono g w := s.sees.mono
theorem SeesA.le {W : Base} {g w w' : World} (s : SeesA W g w) (e : Le w w') : SeesA W g w' := ⟨s.sees.le e, s.agr⟩
theorem SeesA.updO {W : Base} {g w w' : World} {b : Nat} {o : Obj} (s : SeesA W g w) (hn : NotIn g b) (u : UpdO w b o w') : SeesA W g w' := ⟨s.sees.updO hn u, s.agr⟩
/-- W: the start, of which nothing turns; g: what is held fixed; l: what is owned. -/
def SL (W : Base) (g w : World) (l : List Atom) : Prop :=
  ∃ h, Below W.n W.w w ∧ SeesA W g w ∧ (∀ b o, h b = some o → W.n ≤ b ∧ w.heap[b]? = some o ∧ NotIn g b) ∧ sats g l h

section
variable {W : Base} {g w w' : World} {l : List Atom}
theorem SL.start (s : Sees g w) : SL ⟨w, g⟩ g w [] := ⟨fun _ => none, Below.refl _ _, ⟨s, Agr.refl g w⟩, (fun _ _ h => by cases h), trivial⟩
theorem SL.seesA (H : SL W g w l) : SeesA W g w := by obtain ⟨_, _, h, _⟩ := H; exact h
theorem SL.sees (H : SL W g w l) : Sees g w := H.seesA.sees
theorem SL.m (H : SL W g w l) : Mono g w := H.sees.mono
theorem SL.below (H : SL W g w l) : Below W.n W.w w := by obtain ⟨_, h, _⟩ := H; exact h
theorem SL.toLe (H : SL W g w l) : Le W.w w := H.below
theorem SL.size (H : SL W g w l) : W.n ≤ w.heap.size := H.below.size
theorem SL.le (H : SL W g w l) (e : Le w w') : SL W g w' l := by
  obtain ⟨h, b, s, o, t⟩ := H
  refine ⟨h, e.below' b, s.le e, fun k x hx => ?_, t⟩
  obtain ⟨o1, o2, o3⟩ := o k x hx
  exact ⟨o1, e.keep o2, o3⟩
theorem SL.weak {l' : List Atom} (H : SL W g w l) (k : ∀ h, sats g l h → sats g l' h) : SL W g w l' := by
  obtain ⟨h, b, s, o, t⟩ := H
  exact ⟨h, b, s, o, k h t⟩
theorem SL.pick (i : Nat) {a : Atom} (H : SL W g w l) (e : nthA l i = some a := by exact rfl) : SL W g w (a :: dropA l i) := H.weak fun _ => sats.pick e
theorem SL.unpick (i : Nat) {a b : Atom} (e : nthA l i = some b) (H : SL W g w (a :: dropA l i)) : SL W g w (setA l i a) := H.weak fun _ => sats.unpick e
theorem SL.drop {a : Atom} (H : SL W g w (a :: l)) : SL W g w l := by
  obtain ⟨h, b, s, o, h1, h2, ap, rfl, s1, s2⟩ := H
  refine ⟨h2, b, s, fun k x hx => o k x ?_, s2⟩
  rcases ap k with e | e
  · rw [Hp.join_right e]; exact hx
  · rw [e] at hx; cases hx
def dropN : Nat → List Atom → List Atom
  | 0, l => l
  | _ + 1, [] => []
  | n + 1, _ :: l => dropN n l
theorem SL.dropN : ∀ (n : Nat) {l : List Atom}, SL W g w l → SL W g w (Lm.dropN n l)
  | 0, _, H => H
  | _ + 1, [], H => H
  | n + 1, _ :: _, H => SL.dropN n H.drop
/-- What is owned, in another order (each place once): the places' list. -/
def perm (l : List Atom) : List Nat → List Atom
  | [] => l
  | i :: r => match nthA l i with
    | some a => a :: perm (dropA l i) r
    | none => l
theorem SL.under {a : Atom} {l' : List Atom} (H : SL W g w (a :: l)) (k : ∀ h, sats g l h → sats g l' h) : SL W g w (a :: l') :=
  H.weak fun _ ⟨h1, h2, ap, e, s1, s2⟩ => ⟨h1, h2, ap, e, s1, k h2 s2⟩
theorem sats.perm : ∀ (r : List Nat) {l : List Atom} {h : Hp}, sats g l h → sats g (Lm.perm l r) h
  | [], _, _, s => s
  | i :: r, l, h, s => by
    unfold Lm.perm
    cases e : nthA l i with
    | none => exact s
    | some a =>
      obtain ⟨h1, h2, ap, q, s1, s2⟩ := s.pick e
      exact ⟨h1, h2, ap, q, s1, sats.perm r s2⟩
theorem SL.perm (r : List Nat) (H : SL W g w l) : SL W g w (Lm.perm l r) := H.weak fun _ => sats.perm r
theorem SL.to {l' : List Atom} (r : List Nat) (H : SL W g w l) (e : Lm.perm l r = l' := by exact rfl) : SL W g w l' := e ▸ H.perm r
theorem SL.cast {l' : List Atom} (H : SL W g w l) (e : l = l' := by exact rfl) : SL W g w l' := e ▸ H

/-! ### Blocks -/
def obj (b : Nat) (o : Obj) : Atom := ⟨fun _ h => h b = some o, fun _ s => s⟩
abbrev blk (b : Nat) (cs : Array Value) (t : TypeId) : Atom := obj b (.cells cs t (0, 0))
theorem SL.has0 {b : Nat} {o : Obj} (H : SL W g w (obj b o :: l)) : W.n ≤ b ∧ w.heap[b]? = some o ∧ NotIn g b := by
  obtain ⟨h, _, _, ow, h1, h2, ap, rfl, s1, s2⟩ := H
  exact ow b o (Hp.join_left s1)
theorem SL.has (i : Nat) {b : Nat} {o : Obj} (H : SL W g w l) (e : nthA l i = some (obj b o) := by exact rfl) : w.heap[b]? = some o := (H.pick i e).has0.2.1
theorem SL.blk (i : Nat) {b : Nat} {cs : Array Value} {t : TypeId} (H : SL W g w l) (e : nthA l i = some (Lm.blk b cs t) := by exact rfl) : Blk w b cs t := H.has i e
theorem SL.new {b : Nat} {o : Obj} (H : SL W g w l) (n : New w b o w') : SL W g w' (obj b o :: l) := by
  obtain ⟨h, be, s, ow, t⟩ := H
  have hb : h b = none := by
    cases hx : h b with
    | none => rfl
    | some x =>
      have := (Array.getElem?_eq_some_iff.1 (ow b x hx).2.1).1
      rw [n.at_] at this; omega
  refine ⟨Hp.join (fun k => if k = b then some o else none) h, n.below be (by rw [n.at_]; exact be.size), s.le n.le, fun k x hx => ?_, _, h, fun k => ?_, rfl, if_pos rfl, t⟩
  · unfold Hp.join at hx
    by_cases e : k = b
    · subst e
      simp at hx
      subst hx
      exact ⟨by rw [n.at_]; exact be.size, n.here, n.notIn s.sees⟩
    · simp [e] at hx
      obtain ⟨o1, o2, o3⟩ := ow k x hx
      exact ⟨o1, n.keep o2, o3⟩
  · by_cases e : k = b
    · subst e; exact .inr hb
    · left; simp [e]
theorem SL.updO0 {b : Nat} {o o' : Obj} (H : SL W g w (obj b o :: l)) (u : UpdO w b o' w') : SL W g w' (obj b o' :: l) := by
  obtain ⟨hW, hw, hn⟩ := H.has0
  obtain ⟨h, be, s, ow, h1, h2, ap, rfl, s1, s2⟩ := H
  have h2b : h2 b = none := by
    rcases ap b with e | e
    · rw [show h1 b = some o from s1] at e; cases e
    · exact e
  refine ⟨Hp.join (fun k => if k = b then some o' else h1 k) h2, u.below be hW, s.updO hn u, fun k x hx => ?_, _, h2, fun k => ?_, rfl, by show (if b = b then some o' else h1 b) = some o'; rw [if_pos rfl], s2⟩
  · by_cases e : k = b
    · subst e
      have : x = o' := by unfold Hp.join at hx; simp at hx; exact hx.symm
      subst this
      exact ⟨hW, u.here, hn⟩
    · have hx' : (h1.join h2) k = some x := by unfold Hp.join at hx ⊢; simpa [e] using hx
      obtain ⟨o1, o2, o3⟩ := ow k x hx'
      exact ⟨o1, u.keep e o2, o3⟩
  · by_cases e : k = b
    · subst e; exact .inr h2b
    · rcases ap k with q | q
      · left; simp [e, q]
      · exact .inr q
theorem SL.updO (i : Nat) {b : Nat} {o o' : Obj} (H : SL W g w l) (u : UpdO w b o' w') (e : nthA l i = some (obj b o) := by exact rfl) : SL W g w' (setA l i (obj b o')) := by
  have := (H.pick i e).updO0 u
  exact this.unpick i e
theorem Upd.updO {b : Nat} {cs old : Array Value} {t : TypeId} (u : Upd w b cs w') (h : Blk w b old t) : UpdO w b (.cells cs t (0, 0)) w' := by
  refine ⟨?_, u.lt⟩
  rw [u.eq]
  unfold World.setRow
  congr 1
  apply Array.ext_getElem?
  intro k
  rw [Array.getElem?_modify]
  by_cases e : b = k
  · subst e
    unfold Blk at h
    rw [if_pos rfl, h]
    simp [u.lt]
  · rw [if_neg e, Array.getElem?_setIfInBounds_ne e]
theorem SL.upd (i : Nat) {b : Nat} {cs old : Array Value} {t : TypeId} (H : SL W g w l) (u : Upd w b cs w') (e : nthA l i = some (Lm.blk b old t) := by exact rfl) : SL W g w' (setA l i (Lm.blk b cs t)) :=
  H.updO i (u.updO (H.blk i e)) e

/-! ### Facts and choices within what is owned -/
def exA {α : Sort _} (f : α → List Atom) : Atom := ⟨fun g h => ∃ x, sats g (f x) h, fun m ⟨x, s⟩ => ⟨x, s.mono m⟩⟩
def pureA (p : Prop) : Atom := ⟨fun _ _ => p, fun _ s => s⟩
def isA {α : Type} [GoRep α] (v : Value) (x : α) : Atom := ⟨fun g _ => Is g v x, fun m s => s.mono m⟩
theorem sats.app : ∀ {a : List Atom} {h1 h2 : Hp}, Hp.apart h1 h2 → sats g a h1 → sats g l h2 → sats g (a ++ l) (h1.join h2)
  | [], h1, h2, ap, _, s2 => by
    -- what is left over joins the rest
    have key : ∀ {l : List Atom} {h2 : Hp}, Hp.apart h1 h2 → sats g l h2 → sats g l (h1.join h2) := by
      intro l
      induction l with
      | nil => intros; trivial
      | cons a l ih =>
        rintro h2 ap ⟨k1, k2, ap2, rfl, s1, s3⟩
        obtain ⟨a1, a2⟩ := Hp.apart_join.1 ap
        refine ⟨k1, h1.join k2, Hp.apart_join.2 ⟨a1.symm, ap2⟩, ?_, s1, ih a2 s3⟩
        rw [← Hp.join_assoc, Hp.join_comm a1, Hp.join_assoc]
    exact key ap s2
  | a :: r, h1, h2, ap, ⟨k1, k2, ap2, e, s1, s3⟩, s2 => by
    subst e
    have ap' := Hp.apart_join.1 ap.symm
    refine ⟨k1, k2.join h2, Hp.apart_join.2 ⟨ap2, ap'.1.symm⟩, by rw [Hp.join_assoc], s1, sats.app ap'.2.symm s3 s2⟩
theorem sats.unapp : ∀ {a : List Atom} {h : Hp}, sats g (a ++ l) h → ∃ h1 h2, Hp.apart h1 h2 ∧ h = h1.join h2 ∧ sats g a h1 ∧ sats g l h2
  | [], h, s => ⟨fun _ => none, h, fun _ => .inl rfl, rfl, trivial, s⟩
  | a :: r, h, ⟨k1, k2, ap, e, s1, s2⟩ => by
    obtain ⟨m1, m2, ap2, rfl, s3, s4⟩ := sats.unapp s2
    obtain ⟨a1, a2⟩ := Hp.apart_join.1 ap
    exact ⟨k1.join m1, m2, (Hp.apart_join.2 ⟨a2.symm, ap2.symm⟩).symm, by rw [e, Hp.join_assoc], ⟨k1, m1, a1, rfl, s1, s3⟩, s4⟩
theorem SL.openE {α : Sort _} {f : α → List Atom} (H : SL W g w (exA f :: l)) : ∃ x, SL W g w (f x ++ l) := by
  obtain ⟨h, b, s, o, h1, h2, ap, rfl, ⟨x, s1⟩, s2⟩ := H
  exact ⟨x, _, b, s, o, s1.app ap s2⟩
theorem SL.shutE {α : Sort _} {f : α → List Atom} (x : α) (H : SL W g w (f x ++ l)) : SL W g w (exA f :: l) := H.weak fun _ s => by
  obtain ⟨h1, h2, ap, rfl, s1, s2⟩ := s.unapp
  exact ⟨h1, h2, ap, rfl, ⟨x, s1⟩, s2⟩
def conjA (a : List Atom) : Atom := ⟨fun g h => sats g a h, fun m s => s.mono m⟩
theorem SL.openC {a : List Atom} (H : SL W g w (conjA a :: l)) : SL W g w (a ++ l) := H.weak fun _ ⟨_, _, ap, e, s1, s2⟩ => e ▸ sats.app ap s1 s2
theorem SL.shutC {a : List Atom} (H : SL W g w (a ++ l)) : SL W g w (conjA a :: l) := H.weak fun _ s => by
  obtain ⟨h1, h2, ap, rfl, s1, s2⟩ := s.unapp
  exact ⟨h1, h2, ap, rfl, s1, s2⟩
theorem SL.pure {p : Prop} (H : SL W g w (pureA p :: l)) : p ∧ SL W g w l := by
  refine ⟨?_, H.drop⟩
  obtain ⟨h, b, s, o, h1, h2, ap, rfl, s1, s2⟩ := H
  exact s1
theorem SL.addPure {p : Prop} (hp : p) (H : SL W g w l) : SL W g w (pureA p :: l) := H.weak fun h s => ⟨fun _ => none, h, fun _ => .inl rfl, rfl, hp, s⟩
theorem SL.isv {α : Type} [GoRep α] {v : Value} {x : α} (H : SL W g w (isA v x :: l)) : Is g v x ∧ SL W g w l := by
  refine ⟨?_, H.drop⟩
  obtain ⟨h, b, s, o, h1, h2, ap, rfl, s1, s2⟩ := H
  exact s1
theorem SL.addIs {α : Type} [GoRep α] {v : Value} {x : α} (hp : Is g v x) (H : SL W g w l) : SL W g w (isA v x :: l) := H.weak fun h s => ⟨fun _ => none, h, fun _ => .inl rfl, rfl, hp, s⟩

/-! ### What is owned is held fixed from now on -/
theorem SL.regraft (H : SL W g w l) (e : Le w w') : SL W (graft g w w') w' l := by
  obtain ⟨h, be, s, o, t⟩ := H
  refine ⟨h, e.below' be, ⟨graft_sees s.sees e, s.agr.graft s.sees e be.size⟩, fun b x hx => ?_, t.mono (graft_mono s.sees e)⟩
  obtain ⟨o1, o2, o3⟩ := o b x hx
  exact ⟨o1, e.keep o2, graft_notIn s.sees e (Array.getElem?_eq_some_iff.1 o2).1 o3⟩
/-- A call whose result is new data, held fixed from now on. -/
theorem SL.data (H : SL W g w l) (e : Le w w') : ∃ g', graft g w w' = g' ∧ Mono g g' ∧ SL W g' w' l := ⟨_, rfl, graft_mono H.sees e, H.regraft e⟩
/-- At the end of a call: what is held fixed within is held fixed without. -/
theorem SL.fin {g₀ w₀ : World} (H : SL ⟨w₀, g₀⟩ g w l) (s : Sees g₀ w₀) : Mono g (graft g₀ w₀ w) := H.seesA.agr.fin s H.sees H.below.size
/-- The ghost with one block more. -/
def withB (g : World) (n b : Nat) (o : Obj) : World := { g with heap := Array.ofFn (n := n) fun k => if k.val = b then o else (g.heap[k.val]?).getD (.map #[] 0) }
theorem withB_cell {g : World} {n b : Nat} {o : Obj} (hs : g.heap.size ≤ n) (a : Addr) (hb : a.block ≠ b) : (withB g n b o).cell? a = g.cell? a := by
  unfold World.cell? withB
  by_cases h : a.block < n
  · simp only [Array.getElem?_ofFn, h, dif_pos]
    rw [if_neg hb]
    cases hg : g.heap[a.block]? <;> simp
  · simp only [Array.getElem?_ofFn, h, dif_neg, not_false_iff]
    rw [Array.getElem?_eq_none (by omega)]
theorem SL.hold0 {b : Nat} {cs : Array Value} {t : TypeId} (H : SL W g w (Lm.blk b cs t :: l)) : ∃ g', Mono g g' ∧ SL W g' w l ∧ (∀ i, g'.cell? ⟨b, i, none⟩ = cs[i]?) := by
  obtain ⟨hW, hw, hn⟩ := H.has0
  obtain ⟨h, be, s, o, h1, h2, ap, rfl, s1, s2⟩ := H
  have hlt : b < w.heap.size := (Array.getElem?_eq_some_iff.1 hw).1
  have m : Mono g (withB g w.heap.size b (.cells cs t (0, 0))) := fun a v hv => by
    have hne : a.block ≠ b := fun e => by rw [hn a e] at hv; cases hv
    rw [withB_cell s.size a hne]; exact hv
  have hc : ∀ (i : Nat) (sp), (withB g w.heap.size b (.cells cs t (0, 0))).cell? ⟨b, i, sp⟩ = w.cell? ⟨b, i, sp⟩ := fun i sp => by
    unfold World.cell? withB
    rw [hw]
    simp [hlt]
  refine ⟨withB g w.heap.size b (.cells cs t (0, 0)), m, ⟨h2, be, ⟨⟨by simp [withB], fun a v hv => ?_⟩, fun a ha => ?_⟩, fun k x hx => ?_, s2.mono m⟩, fun i => ?_⟩
  · by_cases e : a.block = b
    · have : a = ⟨b, a.off, a.spot⟩ := by cases a; simp_all
      rw [this] at hv ⊢
      rw [hc] at hv; exact hv
    · rw [withB_cell s.size a e] at hv; exact s.mono a v hv
  · have hne : a.block ≠ b := fun e => by
      have h1 : W.n ≤ b := hW
      unfold Base.n at h1
      omega
    rw [withB_cell s.size a hne]; exact s.agr a ha
  · have h1k : h1 k = none := by
      rcases ap k with e | e
      · exact e
      · rw [e] at hx; cases hx
    obtain ⟨o1, o2, o3⟩ := o k x (by rw [Hp.join_right h1k]; exact hx)
    refine ⟨o1, o2, fun a ha => ?_⟩
    have hkb : k ≠ b := fun e => by
      subst e
      rw [show h1 k = some _ from s1] at h1k; cases h1k
    rw [withB_cell s.size a (by rw [ha]; exact hkb)]
    exact o3 a ha
  · rw [hc]
    exact Blk.cell hw i
theorem SL.hold (i : Nat) {b : Nat} {cs : Array Value} {t : TypeId} (H : SL W g w l) (e : nthA l i = some (Lm.blk b cs t) := by exact rfl) : ∃ g', Mono g g' ∧ SL W g' w (dropA l i) ∧ (∀ i, g'.cell? ⟨b, i, none⟩ = cs[i]?) := (H.pick i e).hold0
end
end Go.Lm

/- Maps of the call's own, as lists of entries (in whatever order); the loop over a map. General: no program in sight. -/
namespace Go.Lm
open Go Go.RowKit Go.Maps Go.ChangeMaps
open Go.WideElems (Fit rd rg pl rd_key rd_val rg_of)
open Go.WideShapes (sorted_perm)
open Go.MapKept

def holdV (v : Value) : Option (DataW Value × List MemPlace) := some (.held v, [])
/-- A key's type. -/
class MKey (κ : Type) where
  dec : DecidableEq κ
  lit : κ → Lit
  val : κ → Value
  ok : κ → Prop
  same : ∀ a b : κ, (lit a).sameKey (lit b) = @decide (a = b) (dec a b)
  inj : ∀ a b : κ, lit a = lit b → a = b
instance (priority := low) {κ : Type} [MKey κ] : DecidableEq κ := MKey.dec
instance : MKey Int where
  dec := inferInstance
  lit i := .int .i64 i
  val i := .int .i64 i
  ok i := (Lit.int .i64 i).wf = true
  same a b := by simp [Lit.sameKey]
  inj a b h := by cases h; rfl
instance : MKey ByteArray where
  dec := inferInstance
  lit s := .string s.data.toList
  val s := .string s
  ok s := s.size ≤ maxLen
  same a b := by
    simp only [Lit.sameKey]
    rw [Bool.eq_iff_iff]
    simp only [beq_iff_eq, decide_eq_true_eq]
    constructor
    · intro h
      cases a; cases b
      rename_i x y
      cases x; cases y
      simp at h
      rw [h]
    · intro h; rw [h]
  inj a b h := by
    cases a; cases b
    rename_i x y
    cases x; cases y
    simp at h
    rw [h]
/-- The type's keys are those of P's type k. -/
structure KeyT (P : Program) (k : TypeId) (κ : Type) [MKey κ] : Prop where
  keyed : Keyed P k
  of : ∀ x : κ, MKey.ok x → keyOf P k (MKey.val x) = some (MKey.lit x)
  inv : ∀ (v : Value) (x : κ), keyOf P k v = some (MKey.lit x) → v = MKey.val x ∧ MKey.ok x
theorem keyT_int {P : Program} {k : TypeId} (h : P.underlying k = some (.int .i64)) : KeyT P k Int where
  keyed := int_keyed h
  of x hx := keyOf_int_mk h hx
  inv v x hv := by
    obtain ⟨y, rfl, h2, h3⟩ := Maps.keyOf_int_inv h hv
    cases h2
    exact ⟨rfl, h3⟩
theorem keyOf_str_inv {P : Program} {k : TypeId} (hk : P.underlying k = some .string) {key : Value} {kl : Lit} (h : keyOf P k key = some kl) : ∃ x : ByteArray, key = .string x ∧ kl = .string x.data.toList ∧ x.size ≤ maxLen := by
  cases key <;> simp [keyOf, hk, mapKey] at h
  obtain ⟨hw, rfl⟩ := h
  exact ⟨_, rfl, rfl, hw⟩
theorem keyT_str {P : Program} {k : TypeId} (h : P.underlying k = some .string) : KeyT P k ByteArray where
  keyed := string_keyed h
  of x hx := by
    have hx' : x.size ≤ maxLen := hx
    simp [keyOf, h, mapKey, MKey.val, MKey.lit, hx']
  inv v x hv := by
    obtain ⟨y, rfl, h2, h3⟩ := keyOf_str_inv h hv
    obtain rfl := MKey.inj (κ := ByteArray) x y h2
    exact ⟨rfl, h3⟩

section
variable {κ : Type} [MKey κ]
def ent (p : κ × Value) : Lit × DataW Value := (MKey.lit p.1, .held p.2)
def getK {α : Type} (l : List (κ × α)) (x : κ) : Option α := (l.find? fun p => decide (p.1 = x)).map (·.2)
def delK {α : Type} (l : List (κ × α)) (x : κ) : List (κ × α) := l.filter fun p => !decide (p.1 = x)
def putK {α : Type} (l : List (κ × α)) (x : κ) (v : α) : List (κ × α) := (x, v) :: delK l x

theorem ent_filter (l : List (κ × Value)) (x : κ) : (l.map ent).filter (notKey (MKey.lit x)) = (delK l x).map ent := by
  unfold delK
  rw [List.filter_map]
  congr 1
  apply List.filter_congr
  intro p _
  simp [Function.comp, notKey, ent, MKey.same]

structure MapRep (P : Program) (k : TypeId) (es : Array MapEntry) (clock : Nat) (l : List (κ × Value)) : Prop where
  fit : Fit P k holdV es clock
  perm : (es.toList.map (rg P k holdV)).Perm (l.map ent)
theorem MapRep.size {P : Program} {k : TypeId} {es : Array MapEntry} {clock : Nat} {l : List (κ × Value)} (h : MapRep P k es clock l) : es.size = l.length := by
  have := h.perm.length_eq
  simpa using this
theorem MapRep.nodup {P : Program} {k : TypeId} {es : Array MapEntry} {clock : Nat} {l : List (κ × Value)} (h : MapRep P k es clock l) (K : Keyed P k) : (l.map (·.1)).Nodup := by
  have h1 := fit_apart K h.fit
  have h2 : (l.map ent).Pairwise (fun p q => p.1 ≠ q.1) := (h.perm.pairwise_iff (fun {_ _} hne => Ne.symm hne)).1 h1
  rw [List.pairwise_map] at h2
  unfold List.Nodup
  rw [List.pairwise_map]
  exact h2.imp fun hne e => hne (by unfold ent; exact congrArg MKey.lit e)
theorem rg_val {P : Program} {k : TypeId} {es : Array MapEntry} {clock : Nat} (F : Fit P k holdV es clock) {x : MapEntry} (hx : x ∈ es.toList) : ∃ kl, keyOf P k x.key = some kl ∧ rg P k holdV x = (kl, .held x.val) := by
  obtain ⟨y, hy⟩ := F.reads x hx
  refine ⟨y.1, rd_key hy, ?_⟩
  rw [rg_of hy]
  obtain ⟨z, hz, hd⟩ := rd_val hy
  have : z = (.held x.val, []) := by
    have : holdV x.val = some (.held x.val, []) := rfl
    rw [this] at hz
    exact (Option.some.inj hz).symm
  rw [this] at hd
  cases y
  simp at hd ⊢
  exact hd
theorem getK_mem {α : Type} {l : List (κ × α)} {x : κ} {v : α} (h : getK l x = some v) : (x, v) ∈ l := by
  unfold getK at h
  cases hf : l.find? (fun p => decide (p.1 = x)) with
  | none => simp [hf] at h
  | some p =>
    simp only [hf, Option.map_some, Option.some.injEq] at h
    have h1 := List.find?_some hf
    have h2 := List.mem_of_find?_eq_some hf
    simp at h1
    subst h1 h
    exact h2
theorem getK_of_mem {α : Type} {l : List (κ × α)} (hn : (l.map (·.1)).Nodup) {x : κ} {v : α} (h : (x, v) ∈ l) : getK l x = some v := by
  induction l with
  | nil => cases h
  | cons p l ih =>
    simp only [List.map_cons, List.nodup_cons] at hn
    unfold getK
    rw [List.find?_cons]
    rcases List.mem_cons.1 h with h | h
    · subst h
      simp
    · have hne : p.1 ≠ x := fun e => hn.1 (by rw [e]; exact List.mem_map.2 ⟨_, h, rfl⟩)
      simp only [hne, decide_false]
      exact ih hn.2 h
theorem getK_none {α : Type} {l : List (κ × α)} {x : κ} : getK l x = none ↔ ∀ p ∈ l, p.1 ≠ x := by
  unfold getK
  simp [List.find?_eq_none]

/-- A map. -/
def mapA (P : Program) (k : TypeId) (b : Nat) (l : List (κ × Value)) : Atom :=
  ⟨fun _ h => ∃ es clock, h b = some (.map es clock) ∧ MapRep P k es clock l, fun _ s => s⟩
variable {P : Program} {k : TypeId} {W : Base} {g w w' : World} {l : List Atom} {b : Nat} {m : List (κ × Value)}
theorem SL.mapO (H : SL W g w (mapA P k b m :: l)) : ∃ es clock, MapRep P k es clock m ∧ SL W g w (obj b (.map es clock) :: l) := by
  obtain ⟨h, be, s, ow, h1, h2, ap, rfl, ⟨es, clock, e, r⟩, s2⟩ := H
  exact ⟨es, clock, r, _, be, s, ow, h1, h2, ap, rfl, e, s2⟩
theorem SL.mapI {es : Array MapEntry} {clock : Nat} (r : MapRep P k es clock m) (H : SL W g w (obj b (.map es clock) :: l)) : SL W g w (mapA P k b m :: l) := by
  obtain ⟨h, be, s, ow, h1, h2, ap, rfl, e, s2⟩ := H
  exact ⟨_, be, s, ow, h1, h2, ap, rfl, ⟨es, clock, e, r⟩, s2⟩
theorem SL.mapNew (H : SL W g w l) (n : New w b (.map #[] 0) w') : SL W g w' (mapA P k b ([] : List (κ × Value)) :: l) := by
  refine (H.new n).mapI ⟨?_, by simp⟩
  obtain ⟨es, clock, h1, h2, h3, h4⟩ := World.ownsMap_made w P k holdV
  have : (World.alloc w (.map #[] 0)).heap[w.heap.size]? = some (.map #[] 0) := heap_alloc_new w _
  rw [this] at h1
  cases h1
  exact h2
theorem SL.mapNodup (H : SL W g w (mapA P k b m :: l)) (K : KeyT P k κ) : (m.map (·.1)).Nodup := by
  obtain ⟨es, clock, r, _⟩ := H.mapO
  exact r.nodup K.keyed
theorem SL.mapLen_le (H : SL W g w (mapA P k b m :: l)) : m.length ≤ maxLen := by
  obtain ⟨es, clock, r, _⟩ := H.mapO
  rw [← r.size]; exact r.fit.size
theorem SL.mapKeys (H : SL W g w (mapA P k b m :: l)) (K : KeyT P k κ) : ∀ p ∈ m, MKey.ok p.1 := by
  obtain ⟨es, clock, r, _⟩ := H.mapO
  intro p hp
  have h1 : ent p ∈ es.toList.map (rg P k holdV) := r.perm.mem_iff.2 (List.mem_map.2 ⟨p, hp, rfl⟩)
  obtain ⟨x, hx, hxe⟩ := List.mem_map.1 h1
  obtain ⟨kl, hk, hr⟩ := rg_val r.fit hx
  rw [hr] at hxe
  have : kl = MKey.lit p.1 := congrArg Prod.fst hxe
  subst this
  exact (K.inv _ _ hk).2
theorem SL.mapLook (c : Bool) (H : SL W g w (mapA P k b m :: l)) (K : KeyT P k κ) {t e : TypeId} (ht : P.underlying t = some (.map k e)) {z : Value} (hz : (zeroValue e).run P w = .ok z w) (x : κ) (hx : MKey.ok x) :
    (Instr.lookup t (.map (some b)) (MKey.val x) c).run P w = .ok (if c then .tuple #[(getK m x).getD z, .bool (getK m x).isSome] else (getK m x).getD z) w := by
  obtain ⟨es, clock, r, H1⟩ := H.mapO
  have hb := H1.has 0
  have hn := r.nodup K.keyed
  rcases fit_look c K.keyed ht hz hb r.fit (K.of x hx) with ⟨hr, hno, _⟩ | ⟨e0, y, he, hke, hr, hy, _⟩
  · have : getK m x = none := getK_none.2 fun p hp e => by
      have h1 : ent p ∈ es.toList.map (rg P k holdV) := r.perm.mem_iff.2 (List.mem_map.2 ⟨p, hp, rfl⟩)
      obtain ⟨q, hq, hqe⟩ := List.mem_map.1 h1
      obtain ⟨kl, hk, hrg⟩ := rg_val r.fit hq
      rw [hrg] at hqe
      have : kl = MKey.lit p.1 := congrArg Prod.fst hqe
      subst this
      rw [e] at hk
      exact hno q hq (K.inv _ _ hk).1
    rw [this]; exact hr
  · have : getK m x = some e0.val := by
      refine getK_of_mem hn ?_
      obtain ⟨kl, hk, hrg⟩ := rg_val r.fit he
      have h1 : rg P k holdV e0 ∈ m.map ent := r.perm.mem_iff.1 (List.mem_map.2 ⟨e0, he, rfl⟩)
      obtain ⟨p, hp, hpe⟩ := List.mem_map.1 h1
      rw [hrg] at hpe
      have h2 : MKey.lit p.1 = kl := congrArg Prod.fst hpe
      have h3 : (DataW.held p.2 : DataW Value) = .held e0.val := congrArg Prod.snd hpe
      rw [hke, K.of x hx] at hk
      have h4 : p.1 = x := MKey.inj _ _ (h2.trans (Option.some.inj hk).symm)
      have h5 : p.2 = e0.val := DataW.held.inj h3
      rw [← h4, ← h5]; exact hp
    rw [this]; exact hr
theorem SL.mapPut (H : SL W g w (mapA P k b m :: l)) (K : KeyT P k κ) {t e : TypeId} (ht : P.underlying t = some (.map k e)) (hlen : m.length < maxLen) (x : κ) (hx : MKey.ok x) (v : Value) :
    ∃ w', (Instr.mapUpdate t (.map (some b)) (MKey.val x) v).run P w = .ok () w' ∧ SL W g w' (mapA P k b (putK m x v) :: l) := by
  obtain ⟨es, clock, r, H1⟩ := H.mapO
  have hb := H1.has 0
  obtain ⟨es', clock', hr, F', hput, _⟩ := fit_store (R' := holdV) K.keyed ht hb r.fit (by rw [r.size]; exact hlen) (fun _ _ _ _ hz => hz) (K.of x hx) (val := v) (yv := (.held v, [])) rfl
  refine ⟨_, hr, (H1.updO0 ⟨rfl, at_lt hb⟩).mapI ⟨F', ?_⟩⟩
  have h1 : (es'.toList.map (rg P k holdV)).Perm (putKey (MKey.lit x) (.held v) ((es.toList.map (rg P k holdV)).foldr DataW.insert [])) := by
    rw [← hput]; exact (sorted_perm _).symm
  refine h1.trans ?_
  have h2 : ∀ (p : Lit × DataW Value) (q : List (Lit × DataW Value)), (DataW.insert p q).Perm (p :: q) := fun p q => by
    induction q with
    | nil => exact List.Perm.refl _
    | cons a q ih =>
      unfold DataW.insert
      split
      · exact List.Perm.refl _
      · exact (List.Perm.cons a ih).trans (List.Perm.swap _ _ _)
  refine (h2 _ _).trans ?_
  unfold putK
  rw [List.map_cons]
  refine List.Perm.cons _ ?_
  rw [← ent_filter]
  exact ((sorted_perm _).trans r.perm).filter _
theorem SL.mapDel (H : SL W g w (mapA P k b m :: l)) (K : KeyT P k κ) {t e ty : TypeId} (ht : P.underlying t = some (.map k e)) (x : κ) (hx : MKey.ok x) :
    ∃ w', (Builtin.delete_ #[t, k] ty #[.map (some b), MKey.val x]).run P w = .ok (.tuple #[]) w' ∧ SL W g w' (mapA P k b (delK m x) :: l) := by
  obtain ⟨es, clock, r, H1⟩ := H.mapO
  have hb := H1.has 0
  obtain ⟨es', hr, F', hle, hdel, _⟩ := fit_drop (ty := ty) K.keyed ht hb r.fit (K.of x hx)
  refine ⟨_, hr, (H1.updO0 ⟨rfl, at_lt hb⟩).mapI ⟨F', ?_⟩⟩
  have h1 : (es'.toList.map (rg P k holdV)).Perm (delKey (MKey.lit x) ((es.toList.map (rg P k holdV)).foldr DataW.insert [])) := by
    rw [← hdel]; exact (sorted_perm _).symm
  refine h1.trans ?_
  rw [← ent_filter]
  exact ((sorted_perm _).trans r.perm).filter _
theorem SL.mapLen (H : SL W g w (mapA P k b m :: l)) {t e : TypeId} (ht : P.underlying t = some (.map k e)) (ty : TypeId) :
    (Builtin.len_ #[t] ty #[.map (some b)]).run P w = .ok (.int .i64 m.length) w := by
  obtain ⟨es, clock, r, H1⟩ := H.mapO
  have hb := H1.has 0
  rw [← r.size]
  simp [Builtin.len_, run_underlying ht, MapKept.run_getObj_map hb, goInt, Result.andThen]

/-! ### The loop over a map (that does not turn in it): 'left': what is still to come -/
def rangeA (P : Program) (k : TypeId) (b r : Nat) (m left : List (κ × Value)) : Atom :=
  ⟨fun _ h => ∃ es clock since seen c0, h b = some (.map es clock) ∧ h r = some (.mapIter (some b) since seen c0) ∧ r ≠ b ∧ MapRep P k es clock m ∧ (∀ x ∈ es.toList, x.born < since) ∧ since ≤ c0 ∧ since ≤ clock ∧
    ((leftOf es seen).toList.map (rg P k holdV)).Perm (left.map ent), fun _ s => s⟩
theorem SL.rangeStart (H : SL W g w (mapA P k b m :: l)) {t e : TypeId} (ht : P.underlying t = some (.map k e)) :
    (Instr.range t (.map (some b))).run P w = .ok (.pointer (some ⟨w.heap.size, 0, none⟩)) (w.alloc (.mapIter (some b) (match w.heap[b]? with | some (.map _ c) => c | _ => 0) #[] (match w.heap[b]? with | some (.map _ c) => c | _ => 0))) ∧
    SL W g (w.alloc (.mapIter (some b) (match w.heap[b]? with | some (.map _ c) => c | _ => 0) #[] (match w.heap[b]? with | some (.map _ c) => c | _ => 0))) (rangeA P k b w.heap.size m m :: l) := by
  obtain ⟨es, clock, r, H1⟩ := H.mapO
  have hb := H1.has 0
  simp only [hb]
  refine ⟨run_range_map w t k e b es clock ht hb, ?_⟩
  have H2 := H1.new (New.mk' w (.mapIter (some b) clock #[] clock))
  have H3 : SL W g _ (obj b (.map es clock) :: obj w.heap.size (.mapIter (some b) clock #[] clock) :: l) := H2.weak fun _ s => s.swap
  obtain ⟨h, be, s, ow, h1, h2, ap, rfl, e1, k1, k2, ap2, rfl, e2, s2⟩ := H3
  have a2 := Hp.apart_join.1 ap
  have hne : w.heap.size ≠ b := by have := at_lt hb; omega
  have e1' : h1 b = some (.map es clock) := e1
  have e2' : k1 w.heap.size = some (.mapIter (some b) clock #[] clock) := e2
  have h1n : h1 w.heap.size = none := by
    rcases a2.1 w.heap.size with q | q
    · exact q
    · rw [e2'] at q; cases q
  refine ⟨_, be, s, ow, h1.join k1, k2, ?_, by rw [Hp.join_assoc], ⟨es, clock, clock, #[], clock, ?_, ?_, hne, r, ?_, Nat.le_refl _, Nat.le_refl _, ?_⟩, s2⟩
  · exact (Hp.apart_join.2 ⟨a2.2.symm, ap2.symm⟩).symm
  · exact Hp.join_left e1'
  · rw [Hp.join_right h1n]; exact e2'
  · exact r.fit.stamped.1
  · have : (leftOf es #[]).toList = es.toList := by simp [leftOf]
    rw [this]; exact r.perm
theorem left_push {es : Array MapEntry} {clock : Nat} (F : Stamped es clock) {seen : Array Nat} {e : MapEntry} (he : e ∈ (leftOf es seen).toList) : (leftOf es seen).toList.Perm (e :: (leftOf es (seen.push e.born)).toList) := by
  have hst := (stamped_iff es clock).1 F
  have hem : e ∈ es.toList := (mem_left he).1
  have hes := (mem_left he).2
  have e1 : (leftOf es (seen.push e.born)).toList = (leftOf es seen).toList.filter (fun x => !(x.born == e.born)) := by
    unfold leftOf
    simp only [Array.toList_filter, List.filter_filter]
    apply List.filter_congr
    intro x _
    rw [contains_push]
    cases seen.contains x.born <;> cases (x.born == e.born) <;> rfl
  have e2 : ((leftOf es seen).toList.map (·.born)).Nodup := by
    have : (leftOf es seen).toList.Sublist es.toList := by
      unfold leftOf; simp only [Array.toList_filter]; exact List.filter_sublist
    exact (this.map _).nodup hst.2.1
  rw [e1]
  generalize (leftOf es seen).toList = L at he e2
  clear e1 hes
  induction L with
  | nil => cases he
  | cons x L ih =>
    simp only [List.map_cons, List.nodup_cons] at e2
    rcases List.mem_cons.1 he with h | h
    · subst h
      rw [List.filter_cons]
      simp only [beq_self_eq_true, Bool.not_true, Bool.false_eq_true, if_false]
      refine List.Perm.cons _ ?_
      rw [List.filter_eq_self.2 fun y hy => ?_]
      have : y.born ≠ e.born := fun q => e2.1 (by rw [← q]; exact List.mem_map.2 ⟨y, hy, rfl⟩)
      simp [this]
    · have : x.born ≠ e.born := fun q => e2.1 (by rw [q]; exact List.mem_map.2 ⟨e, h, rfl⟩)
      rw [List.filter_cons]
      simp only [this, Bool.not_eq_true', beq_eq_false_iff_ne, ne_eq, not_false_eq_true, if_true]
      exact (List.Perm.cons x (ih h e2.2)).trans (List.Perm.swap _ _ _)
theorem SL.rangeNext {r : Nat} {left : List (κ × Value)} (H : SL W g w (rangeA P k b r m left :: l)) (K : KeyT P k κ) (ty : TypeId) :
    (left = [] ∧ (Instr.next (.pointer (some ⟨r, 0, none⟩)) false ty).run P w = .ok (.tuple #[.bool false]) w) ∨
    ∃ x v left' w', left.Perm ((x, v) :: left') ∧ MKey.ok x ∧ (Instr.next (.pointer (some ⟨r, 0, none⟩)) false ty).run P w = .ok (.tuple #[.bool true, MKey.val x, v]) w' ∧
      (Instr.entry (.pointer (some ⟨r, 0, none⟩))).run P w' = .ok (.tuple #[MKey.val x, v]) w' ∧ SL W g w' (rangeA P k b r m left' :: l) := by
  obtain ⟨h, be, s, ow, h1, h2, ap, rfl, ⟨es, clock, since, seen, c0, hb, hr, hne, rep, hold, hsc, hsk, hleft⟩, s2⟩ := H
  have hbw := (ow b _ (Hp.join_left hb)).2.1
  obtain ⟨hW, hrw, hrn⟩ := ow r _ (Hp.join_left hr)
  rcases run_next_at (P := P) w ty r b since c0 seen es clock hrw hbw hold hsc with ⟨h0, hrun⟩ | ⟨e, he, w1, hal, hrun⟩
  · refine .inl ⟨?_, hrun⟩
    have : (leftOf es seen).toList = [] := by
      apply List.eq_nil_of_length_eq_zero; simpa using h0
    rw [this] at hleft
    have := hleft.length_eq
    simp at this
    exact List.eq_nil_of_length_eq_zero this.symm
  · right
    obtain ⟨hem, hes⟩ := mem_left he
    obtain ⟨kl, hk, hrg⟩ := rg_val rep.fit hem
    have hin : rg P k holdV e ∈ left.map ent := hleft.mem_iff.1 (List.mem_map.2 ⟨e, he, rfl⟩)
    obtain ⟨p, hp, hpe⟩ := List.mem_map.1 hin
    rw [hrg] at hpe
    have e1 : MKey.lit p.1 = kl := congrArg Prod.fst hpe
    have e2 : (DataW.held p.2 : DataW Value) = .held e.val := congrArg Prod.snd hpe
    subst e1
    have e3 : p.2 = e.val := DataW.held.inj e2
    obtain ⟨hkv, hok⟩ := K.inv _ _ hk
    obtain ⟨a, c, hac⟩ := List.append_of_mem hp
    have hwl : Le w w1 := by rcases hal with rfl | rfl; exact Le.refl _; exact Le.drew _
    have hr1 : w1.heap[r]? = some (.mapIter (some b) since seen c0) := hwl.keep hrw
    have hb1 : w1.heap[b]? = some (.map es clock) := hwl.keep hbw
    have u : UpdO w1 r (.mapIter (some b) since (seen.push e.born) clock) (setBlock w1 r (.mapIter (some b) since (seen.push e.born) clock)) := ⟨rfl, at_lt hr1⟩
    refine ⟨p.1, e.val, a ++ c, _, ?_, hok, by rw [hkv] at hrun; exact hrun, ?_, ?_⟩
    · rw [hac]
      have : p = (p.1, e.val) := by rw [← e3]
      rw [← this]
      exact List.perm_middle
    · rw [← hkv]
      exact run_entry_at _ r b since seen es clock e u.here (u.keep (Ne.symm hne) hb1) hem ((stamped_iff es clock).1 rep.fit.stamped).2.1
    · have hle := SL.le (l := []) (W := W) (g := g) ⟨fun _ => none, be, s, (fun _ _ h => by cases h), trivial⟩ hwl
      refine ⟨Hp.join (fun q => if q = r then some (.mapIter (some b) since (seen.push e.born) clock) else h1 q) h2, u.below hle.below hW, hle.seesA.updO hrn u, fun q o hq => ?_, _, h2, fun q => ?_, rfl,
        ⟨es, clock, since, seen.push e.born, clock, ?_, if_pos rfl, hne, rep, hold, hsk, hsk, ?_⟩, s2⟩
      · by_cases eq : q = r
        · subst eq
          have : o = .mapIter (some b) since (seen.push e.born) clock := by unfold Hp.join at hq; simp at hq; exact hq.symm
          subst this
          exact ⟨hW, u.here, hrn⟩
        · have hq' : (h1.join h2) q = some o := by unfold Hp.join at hq ⊢; simpa [eq] using hq
          obtain ⟨o1, o2, o3⟩ := ow q o hq'
          exact ⟨o1, u.keep eq (hwl.keep o2), o3⟩
      · by_cases eq : q = r
        · subst eq
          rcases ap q with z | z
          · rw [hr] at z; cases z
          · exact .inr z
        · rcases ap q with z | z
          · left; simp [eq, z]
          · exact .inr z
      · show (if b = r then _ else h1 b) = _
        rw [if_neg (Ne.symm hne)]; exact hb
      · have h3 := (left_push rep.fit.stamped he).map (rg P k holdV)
        rw [List.map_cons, hrg] at h3
        have h4 : (left.map ent).Perm (ent p :: (a ++ c).map ent) := by
          rw [hac, List.map_append, List.map_cons, List.map_append]; exact List.perm_middle
        have h5 := (hleft.symm.trans h3).symm.trans h4
        have h6 : ent p = (MKey.lit p.1, .held e.val) := by unfold ent; rw [e3]
        rw [h6] at h5
        exact List.Perm.cons_inv h5
theorem SL.rangeEnd {r : Nat} {left : List (κ × Value)} (H : SL W g w (rangeA P k b r m left :: l)) : SL W g w (mapA P k b m :: l) := by
  obtain ⟨h, be, s, ow, h1, h2, ap, rfl, ⟨es, clock, since, seen, c0, hb, hr, hne, rep, _⟩, s2⟩ := H
  exact ⟨_, be, s, ow, h1, h2, ap, rfl, ⟨es, clock, hb, rep⟩, s2⟩
end
end Go.Lm

/- Slices of the call's own as parts of what is owned. General: no program in sight. -/
namespace Go.Lm
open Go Go.RowKit

/-- Where the result of an append lies: where it lay, or behind all that was. -/
theorem append_whereN {P : Program} {w : World} (base : Nat) (t ty e : TypeId) (i : TypeInfo) (z : Value) (size bytes : Nat) (ht : P.underlying t = some (.slice e)) (hi : P.info? e = some i) (hz : i.zero = some z)
    (hsize : i.size = size) (hby : i.bytes = bytes) (v : Value) (n : Nat) (xs : List Value) (hown : w.ownsRow base e size v n xs)
    (a : Addr) (m c : Nat) (news : List Value) (hl : news.length = m * size) (hnews : ∀ j u, news[j]? = some u → w.cell? (a.add j) = some u) (h1 : ∀ u ∈ news, u.oneCell' = true)
    (h63 : n + m ≤ maxLen) (hbytes : (n + m) * bytes ≤ 140737488355328) {v' : Value} {w' : World} (hr : (Builtin.append_ #[t, t] ty #[v, .slice (some a) m c]).run P w = .ok v' w') :
    ∀ k, v'.ownBlock = some k → v.ownBlock = some k ∨ w.heap.size ≤ k := by
  subst hsize
  subst hby
  have hsmall : n + m ≤ 9223372036854775807 := by simp only [maxLen] at h63; omega
  rcases hown.2 with ⟨rfl, rfl⟩ | ⟨g, cap, cur, rfl, hbg, hg, hnc, hcm, hcs, htake⟩
  · by_cases hm : m = 0
    · subst hm
      have hrun : (Builtin.append_ #[t, t] ty #[.slice none 0 0, .slice (some a) 0 c]).run P w = .ok (.slice none 0 0) w := by
        simp [Builtin.append_, run_underlying ht, sizeOf, typeInfo, hi, Builtin.lenOf, Builtin.firstCells, loadCells, loadCellsFrom]
      rw [hrun] at hr
      cases hr
      intro k hk
      simp [Value.ownBlock] at hk
    · rw [run_append_nil (P := P) w t ty e i z ht hi hz a m c news hl hnews (by omega) (by omega) (by have hb := hbytes; simp only [Nat.zero_add] at hb; omega)] at hr
      cases hr
      intro k hk
      have : w.heap.size = k := by simpa [Value.ownBlock] using hk
      exact .inr (by omega)
  · by_cases hroom : n + m ≤ cap
    · have hfit : n * i.size + news.length ≤ cur.size := by rw [hl, hcs, ← Nat.add_mul]; exact Nat.mul_le_mul_right _ hroom
      rw [run_append_room (P := P) w t ty e i ht hi g n cap cur hg a m c news hl hnews h1 hroom hfit] at hr
      cases hr
      exact fun k hk => .inl hk
    · have holds : ∀ j u, xs[j]? = some u → w.cell? ((⟨g, 0, none⟩ : Addr).add j) = some u := hown.cells (g := g) rfl
      rw [run_append_grow (P := P) w t ty e i z ht hi hz ⟨g, 0, none⟩ n cap xs hown.1 holds a m c news hl hnews (by omega) (by omega) (growslice_fits (by omega) hbytes)] at hr
      cases hr
      intro k hk
      have : w.heap.size = k := by simpa [Value.ownBlock] using hk
      exact .inr (by omega)

theorem run_append_none_src {P : Program} (w : World) (t ty e : TypeId) (i : TypeInfo) (ht : P.underlying t = some (.slice e)) (hi : P.info? e = some i) {base : Nat} {v : Value} {n : Nat} {xs : List Value} (hown : w.ownsRow base e i.size v n xs) :
    (Builtin.append_ #[t, t] ty #[v, .slice none 0 0]).run P w = .ok v w := by
  rcases hown.2 with ⟨rfl, rfl⟩ | ⟨g, cap, cur, rfl, hbg, hg, hnc, hcm, hcs, htake⟩
  · simp [Builtin.append_, run_underlying ht, sizeOf, typeInfo, hi, Builtin.lenOf, Builtin.firstCells]
  · simp [Builtin.append_, run_underlying ht, sizeOf, typeInfo, hi, Builtin.lenOf, Builtin.firstCells, hnc, storeCells]

/-- A slice of the call's own: its cells. -/
def rowA (e : TypeId) (size : Nat) (v : Value) (n : Nat) (xs : List Value) : Atom :=
  ⟨fun _ h => xs.length = n * size ∧ ((v = .slice none 0 0 ∧ n = 0) ∨
    ∃ k cap cur, v = .slice (some ⟨k, 0, none⟩) n cap ∧ h k = some (.cells cur e (0, 0)) ∧ n ≤ cap ∧ cap ≤ maxLen ∧ cur.size = cap * size ∧ cur.toList.take (n * size) = xs), fun _ s => s⟩
section
variable {W : Base} {g w w' : World} {l : List Atom} {e : TypeId} {size n : Nat} {v : Value} {xs : List Value}
theorem SL.row (H : SL W g w (rowA e size v n xs :: l)) : w.ownsRow W.n e size v n xs := by
  obtain ⟨h, be, s, ow, h1, h2, ap, rfl, ⟨hl, hv⟩, s2⟩ := H
  refine ⟨hl, ?_⟩
  rcases hv with hv | ⟨k, cap, cur, rfl, hk, r⟩
  · exact .inl hv
  · obtain ⟨o1, o2, o3⟩ := ow k _ (Hp.join_left hk)
    exact .inr ⟨k, cap, cur, rfl, o1, o2, r⟩
theorem SL.rowNil (e : TypeId) (size : Nat) (H : SL W g w l) : SL W g w (rowA e size (.slice none 0 0) 0 [] :: l) :=
  H.weak fun h s => ⟨fun _ => none, h, fun _ => .inl rfl, rfl, ⟨by simp, .inl ⟨rfl, rfl⟩⟩, s⟩
/-- A block becomes a slice. -/
theorem SL.toRow {b cap : Nat} {cur : Array Value} (n : Nat) (H : SL W g w (Lm.blk b cur e :: l)) (hn : n ≤ cap) (hm : cap ≤ maxLen) (hs : cur.size = cap * size) :
    SL W g w (rowA e size (.slice (some ⟨b, 0, none⟩) n cap) n (cur.toList.take (n * size)) :: l) := H.weak fun _ ⟨h1, h2, ap, q, s1, s2⟩ =>
  ⟨h1, h2, ap, q, ⟨by
    have : n * size ≤ cap * size := Nat.mul_le_mul_right _ hn
    simp; omega, .inr ⟨b, cap, cur, rfl, s1, hn, hm, hs, rfl⟩⟩, s2⟩
/-- The slice's block, if it has one. -/
theorem SL.ofRow (H : SL W g w (rowA e size v n xs :: l)) : (v = .slice none 0 0 ∧ n = 0 ∧ xs = [] ∧ SL W g w l) ∨
    ∃ k cap cur, v = .slice (some ⟨k, 0, none⟩) n cap ∧ n ≤ cap ∧ cap ≤ maxLen ∧ cur.size = cap * size ∧ cur.toList.take (n * size) = xs ∧ SL W g w (Lm.blk k cur e :: l) := by
  obtain ⟨h, be, s, ow, h1, h2, ap, rfl, ⟨hl, hv⟩, s2⟩ := H
  rcases hv with ⟨rfl, rfl⟩ | ⟨k, cap, cur, rfl, hk, r1, r2, r3, r4⟩
  · refine .inl ⟨rfl, rfl, List.eq_nil_of_length_eq_zero (by simpa using hl), h2, be, s, fun k x hx => ow k x ?_, s2⟩
    rcases ap k with q | q
    · rw [Hp.join_right q]; exact hx
    · rw [q] at hx; cases hx
  · exact .inr ⟨k, cap, cur, rfl, r1, r2, r3, r4, _, be, s, ow, h1, h2, ap, rfl, hk, s2⟩
theorem SL.grown {v' : Value} {n' : Nat} {xs' : List Value} (H : SL W g w (rowA e size v n xs :: l)) (ho : w'.ownsRow W.n e size v' n' xs') (hg : w.grownBy w' v.ownBlock)
    (hw : ∀ k, v'.ownBlock = some k → v.ownBlock = some k ∨ w.heap.size ≤ k) : SL W g w' (rowA e size v' n' xs' :: l) := by
  have hlt := H.row.lt
  obtain ⟨h, be, s, ow, h1, h2, ap, rfl, ⟨hl, hv⟩, s2⟩ := H
  have hb : Below W.n W.w w' := be.trans ((Below.refl _ w).grown hg be.size fun k hk => (hlt k hk).1)
  have hnot : ∀ k, v.ownBlock = some k → NotIn g k ∧ ∃ o, h1 k = some o := fun k hk => by
    rcases hv with ⟨rfl, _⟩ | ⟨k', cap, cur, rfl, hk', _⟩
    · simp [Value.ownBlock] at hk
    · have : k' = k := by simpa [Value.ownBlock] using hk
      subst this
      exact ⟨(ow k' _ (Hp.join_left hk')).2.2, _, hk'⟩
  have hs : SeesA W g w' := by
    refine ⟨⟨Nat.le_trans s.size hg.size, fun a x hx => ?_⟩, s.agr⟩
    have h1 := s.mono a x hx
    have hlt := World.block_lt_of_cell? w a h1
    have hne : some a.block ≠ v.ownBlock := fun q => by
      have := (hnot a.block q.symm).1 a rfl
      rw [this] at hx; cases hx
    rw [World.cell?_of_block (hg.block a.block hlt hne)]; exact h1
  have rest : ∀ k x, h2 k = some x → W.n ≤ k ∧ w'.heap[k]? = some x ∧ NotIn g k ∧ k < w.heap.size ∧ v.ownBlock ≠ some k := fun k x hx => by
    have h1k : h1 k = none := by
      rcases ap k with q | q
      · exact q
      · rw [q] at hx; cases hx
    obtain ⟨o1, o2, o3⟩ := ow k x (by rw [Hp.join_right h1k]; exact hx)
    have hne : v.ownBlock ≠ some k := fun q => by
      obtain ⟨_, o, ho⟩ := hnot k q
      rw [h1k] at ho; cases ho
    exact ⟨o1, by rw [hg.block k (at_lt o2) (Ne.symm hne)]; exact o2, o3, at_lt o2, hne⟩
  rcases ho.2 with ⟨rfl, rfl⟩ | ⟨k', cap', cur', rfl, hbk, hk', r⟩
  · exact ⟨h2, hb, hs, fun k x hx => ⟨(rest k x hx).1, (rest k x hx).2.1, (rest k x hx).2.2.1⟩, fun _ => none, h2, fun _ => .inl rfl, rfl, ⟨ho.1, .inl ⟨rfl, rfl⟩⟩, s2⟩
  · have hwk := hw k' rfl
    have h2k : h2 k' = none := by
      cases hq : h2 k' with
      | none => rfl
      | some x =>
        obtain ⟨_, _, _, q1, q2⟩ := rest k' x hq
        rcases hwk with z | z
        · exact absurd z q2
        · omega
    refine ⟨Hp.join (fun q => if q = k' then some (.cells cur' e (0, 0)) else none) h2, hb, hs, fun q x hq => ?_, _, h2, fun q => ?_, rfl, ⟨ho.1, .inr ⟨k', cap', cur', rfl, if_pos rfl, r⟩⟩, s2⟩
    · by_cases eq : q = k'
      · subst eq
        have : x = .cells cur' e (0, 0) := by unfold Hp.join at hq; simp at hq; exact hq.symm
        subst this
        refine ⟨hbk, hk', ?_⟩
        rcases hwk with z | z
        · exact (hnot q z).1
        · intro a ha
          cases hc : g.cell? a with
          | none => rfl
          | some x =>
            have h3 := World.block_lt_of_cell? g a hc
            have h4 := s.size
            omega
      · have hq' : h2 q = some x := by unfold Hp.join at hq; simpa [eq] using hq
        obtain ⟨o1, o2, o3, _⟩ := rest q x hq'
        exact ⟨o1, o2, o3⟩
    · by_cases eq : q = k'
      · subst eq; exact .inr h2k
      · left; simp [eq]
end

/-! ### Slices that read as lists -/
theorem RelL.length {α : Type} [GoRep α] {g : World} : ∀ {cs : List (List Value)} {xs : List α}, RelL g cs xs → cs.length = xs.length ∧ cs.flatten.length = xs.length * GoRep.size α
  | [], [], _ => ⟨rfl, by simp⟩
  | c :: cs, x :: xs, h => by
    obtain ⟨h1, h2⟩ := RelL.length h.2
    have h3 := GoRep.len h.1
    refine ⟨by simp [h1], ?_⟩
    rw [List.flatten_cons, List.length_append, h2, h3, List.length_cons, Nat.add_mul]; omega
theorem RelL.append {α : Type} [GoRep α] {g : World} : ∀ {cs ds : List (List Value)} {xs ys : List α}, RelL g cs xs → RelL g ds ys → RelL g (cs ++ ds) (xs ++ ys)
  | [], _, [], _, _, h => h
  | _ :: _, _, _ :: _, _, h, k => ⟨h.1, RelL.append h.2 k⟩
def slA {α : Type} [GoRep α] (e : TypeId) (v : Value) (xs : List α) : Atom :=
  ⟨fun g h => ∃ cs : List (List Value), RelL g cs xs ∧ (rowA e (GoRep.size α) v xs.length cs.flatten).sat g h, fun m ⟨cs, r, s⟩ => ⟨cs, r.mono m, s⟩⟩
section
variable {α : Type} [GoRep α] {W : Base} {g w w' : World} {l : List Atom} {e : TypeId} {v : Value} {xs : List α}
theorem SL.slO (H : SL W g w (slA e v xs :: l)) : ∃ cs : List (List Value), RelL g cs xs ∧ SL W g w (rowA e (GoRep.size α) v xs.length cs.flatten :: l) := by
  obtain ⟨h, be, s, ow, h1, h2, ap, rfl, ⟨cs, r, q⟩, s2⟩ := H
  exact ⟨cs, r, _, be, s, ow, h1, h2, ap, rfl, q, s2⟩
theorem SL.slI {cs : List (List Value)} (r : RelL g cs xs) (H : SL W g w (rowA e (GoRep.size α) v xs.length cs.flatten :: l)) : SL W g w (slA e v xs :: l) :=
  H.weak fun _ ⟨h1, h2, ap, q, s1, s2⟩ => ⟨h1, h2, ap, q, ⟨cs, r, s1⟩, s2⟩
theorem SL.slNil (α : Type) [GoRep α] (e : TypeId) (H : SL W g w l) : SL W g w (slA (α := α) e (.slice none 0 0) [] :: l) := (H.rowNil e (GoRep.size α)).slI (cs := []) trivial
theorem SL.slOwns (H : SL W g w (slA e v xs :: l)) : OwnsL g w W.n e v xs := by
  obtain ⟨cs, r, H1⟩ := H.slO
  exact ⟨cs, r, H1.row⟩
/-- It reads as its list. -/
theorem SL.slIs0 (H : SL W g w (slA e v xs :: l)) : Is w v xs := H.slOwns.is H.m fun _ _ => rfl
theorem SL.slIs (i : Nat) (H : SL W g w l) (q : nthA l i = some (slA e v xs) := by exact rfl) : Is w v xs := (H.pick i q).slIs0
theorem SL.slLen (i : Nat) (H : SL W g w l) (q : nthA l i = some (slA e v xs) := by exact rfl) : (xs.length : Int) ≤ 9223372036854775807 := by
  have := (H.slIs i q).len_le; omega
/-- It is held fixed from now on. -/
theorem SL.slHold0 (H : SL W g w (slA e v xs :: l)) : ∃ g', Mono g g' ∧ SL W g' w l ∧ Is g' v xs := by
  have ho := H.slOwns
  obtain ⟨cs, r, H1⟩ := H.slO
  rcases H1.ofRow with ⟨rfl, hn, hx, H2⟩ | ⟨k, cap, cur, rfl, h1, h2, h3, h4, H2⟩
  · refine ⟨g, Mono.refl g, H2, ?_⟩
    have : xs = [] := List.eq_nil_of_length_eq_zero hn
    subst this
    exact is_nil g
  · obtain ⟨g', m, H3, hc⟩ := H2.hold0
    refine ⟨g', m, H3, is_list.2 (.inr ⟨⟨k, 0, none⟩, cap, rfl, h1, h2, fun i x hx => ?_⟩)⟩
    obtain ⟨c, hr, hcc⟩ := r.get i x hx
    refine ⟨c, fun j v hj => ?_, GoRep.mono m hr⟩
    rw [Addr.add_mid, hc]
    have h5 := hcc j v hj
    rw [← h4, List.getElem?_take] at h5
    split at h5
    · simpa using h5
    · cases h5
theorem SL.slHold (i : Nat) (H : SL W g w l) (q : nthA l i = some (slA e v xs) := by exact rfl) : ∃ g', Mono g g' ∧ SL W g' w (dropA l i) ∧ Is g' v xs := (H.pick i q).slHold0
/-- The cells of what reads as a list. -/
theorem cells_of_is {ys : List α} {a : Addr} {n c : Nat} (h : Is w (.slice (some a) n c) ys) : n = ys.length ∧ ∃ ds : List (List Value), RelL w ds ys ∧ ∀ j u, ds.flatten[j]? = some u → w.cell? (a.add j) = some u := by
  rcases is_list.1 h with ⟨h, _⟩ | ⟨a', cap, h, _, _, h3⟩
  · cases h
  · cases h
    refine ⟨rfl, ?_⟩
    clear h
    have key : ∀ (ys : List α) (a : Addr), (∀ (i : Nat) (x : α), ys[i]? = some x → ∃ cs : List Value, (∀ (j : Nat) (c : Value), cs[j]? = some c → w.cell? (a.add (i * GoRep.size α + j)) = some c) ∧ GoRep.rel w cs x) →
        ∃ ds : List (List Value), RelL w ds ys ∧ ∀ j u, ds.flatten[j]? = some u → w.cell? (a.add j) = some u := by
      intro ys
      induction ys with
      | nil => exact fun _ _ => ⟨[], trivial, fun j u h => by simp at h⟩
      | cons y ys ih =>
        intro a h
        obtain ⟨c, h1, h2⟩ := h 0 y rfl
        have hl := GoRep.len h2
        obtain ⟨ds, h4, h5⟩ := ih (a.add (GoRep.size α)) fun i x hx => by
          obtain ⟨cs, q1, q2⟩ := h (i + 1) x (by simpa using hx)
          refine ⟨cs, fun j c hj => ?_, q2⟩
          have := q1 j c hj
          rw [Go.Deep.add_add, ← this]
          congr 2
          rw [Nat.add_mul]; omega
        refine ⟨c :: ds, ⟨h2, h4⟩, fun j u hj => ?_⟩
        rw [List.flatten_cons] at hj
        by_cases hjl : j < c.length
        · rw [List.getElem?_append_left hjl] at hj
          have := h1 j u hj
          rw [← this]
          congr 2
          omega
        · rw [List.getElem?_append_right (by omega)] at hj
          have := h5 _ u hj
          rw [Go.Deep.add_add] at this
          rw [← this]
          congr 2
          omega
    exact key ys a h3
theorem cells_of_is_at {ys : List α} {a : Addr} {n c : Nat} {g w : World} (h : Is g (.slice (some a) n c) ys) (m : Mono g w) : n = ys.length ∧ ∃ ds : List (List Value), RelL g ds ys ∧ ∀ j u, ds.flatten[j]? = some u → w.cell? (a.add j) = some u := by
  obtain ⟨h1, ds, h2, h3⟩ := cells_of_is h
  exact ⟨h1, ds, h2, fun j u hj => m _ _ (h3 j u hj)⟩
/-- What reads as a datum has cells that are one cell each. -/
class OneCells (α : Type) [GoRep α] : Prop where
  one : ∀ {g : World} {cs : List Value} {x : α}, GoRep.rel g cs x → ∀ u ∈ cs, u.oneCell' = true
theorem RelL.one [OneCells α] {g : World} : ∀ {cs : List (List Value)} {xs : List α}, RelL g cs xs → ∀ u ∈ cs.flatten, u.oneCell' = true
  | [], [], _, u, h => by simp at h
  | c :: cs, x :: xs, h, u, hu => by
    rw [List.flatten_cons, List.mem_append] at hu
    rcases hu with hu | hu
    · exact OneCells.one h.1 u hu
    · exact RelL.one h.2 u hu
instance : OneCells Int := ⟨fun h u hu => by rw [h.1] at hu; simp at hu; rw [hu]; rfl⟩
instance : OneCells Bool := ⟨fun h u hu => by rw [show _ = _ from h] at hu; simp at hu; rw [hu]; rfl⟩
instance : OneCells UInt8 := ⟨fun h u hu => by rw [show _ = _ from h] at hu; simp at hu; rw [hu]; rfl⟩
instance : OneCells ByteArray := ⟨fun h u hu => by rw [h.1] at hu; simp at hu; rw [hu]; rfl⟩
instance : OneCells (List α) := ⟨fun h u hu => by
  obtain ⟨v, rfl, hv⟩ := h
  simp at hu
  subst hu
  rcases hv with ⟨rfl, _⟩ | ⟨a, cap, rfl, _⟩ <;> rfl⟩
/-- What can be read of a slice now; what its elements read as is held fixed. -/
def Rd {α : Type} [GoRep α] (g w : World) (y : Value) (ys : List α) : Prop :=
  (y = .slice none 0 0 ∧ ys = []) ∨ ∃ a c, y = .slice (some a) ys.length c ∧ ys.length ≤ c ∧ c ≤ maxLen ∧ ∃ ds : List (List Value), RelL g ds ys ∧ ∀ j u, ds.flatten[j]? = some u → w.cell? (a.add j) = some u
theorem Is.rd {y : Value} {ys : List α} (h : Is g y ys) (m : Mono g w) : Rd g w y ys := by
  rcases is_list.1 h with ⟨rfl, rfl⟩ | ⟨a, cap, rfl, h1, h2, _⟩
  · exact .inl ⟨rfl, rfl⟩
  · obtain ⟨_, ds, h3, h4⟩ := cells_of_is_at h m
    exact .inr ⟨a, cap, rfl, h1, h2, ds, h3, h4⟩
theorem SL.slRd0 (H : SL W g w (slA e v xs :: l)) : Rd g w v xs := by
  obtain ⟨cs, r, H1⟩ := H.slO
  have hrow := H1.row
  rcases hrow.2 with ⟨rfl, h0⟩ | ⟨k, cap, cur, rfl, _, _, h1, h2, _⟩
  · exact .inl ⟨rfl, List.eq_nil_of_length_eq_zero h0⟩
  · exact .inr ⟨⟨k, 0, none⟩, cap, rfl, h1, h2, cs, r, hrow.cells (g := k) rfl⟩
theorem SL.slRd (i : Nat) (H : SL W g w l) (q : nthA l i = some (slA e v xs) := by exact rfl) : Rd g w v xs := (H.pick i q).slRd0
theorem RelL.part {g : World} : ∀ {cs : List (List Value)} {xs : List α} (i n : Nat), RelL g cs xs → RelL g ((cs.drop i).take n) ((xs.drop i).take n)
  | cs, xs, 0, 0, _ => by simp [RelL]
  | [], [], 0, _ + 1, _ => trivial
  | _ :: _, _ :: _, 0, n + 1, h => ⟨h.1, by simpa using RelL.part 0 n h.2⟩
  | [], [], i + 1, n, h => by simp [RelL]
  | _ :: cs, _ :: xs, i + 1, n, h => by simpa using RelL.part i n h.2
theorem RelL.dropLen {g : World} : ∀ {cs : List (List Value)} {xs : List α} (i : Nat), RelL g cs xs → i ≤ xs.length → (cs.take i).flatten.length = i * GoRep.size α
  | _, _, 0, _, _ => by simp
  | [], [], i + 1, _, hi => by simp at hi
  | c :: cs, x :: xs, i + 1, h, hi => by
    have := RelL.dropLen i h.2 (by simpa using hi)
    simp only [List.take_succ_cons, List.flatten_cons, List.length_append, this, GoRep.len h.1, Nat.add_mul]; omega
theorem Rd.slice {y : Value} {ys : List α} {a b : Int} (h : Rd g w y ys) (ha : 0 ≤ a) (hab : a ≤ b) (hb : b ≤ ys.length) :
    Rd g w (sliceV (GoRep.size α) y a b) ((ys.drop a.toNat).take (b.toNat - a.toNat)) := by
  rcases h with ⟨rfl, rfl⟩ | ⟨ad, c, rfl, h1, h2, ds, h3, h4⟩
  · left
    simp at hb
    have h1 : b = 0 := by omega
    have h2 : a = 0 := by omega
    subst h1 h2
    exact ⟨rfl, rfl⟩
  · have hlen : ((ys.drop a.toNat).take (b.toNat - a.toNat)).length = b.toNat - a.toNat := by simp; omega
    refine .inr ⟨if c = a.toNat then ad else ad.add (a.toNat * GoRep.size α), c - a.toNat, ?_, by rw [hlen]; omega, by omega, (ds.drop a.toNat).take (b.toNat - a.toNat), h3.part _ _, fun j u hj => ?_⟩
    · rw [hlen]; unfold sliceV; simp only [Option.map_some]; split <;> rfl
    · by_cases he : b.toNat - a.toNat = 0
      · rw [he] at hj; simp at hj
      · rw [if_neg (by omega), Go.Deep.add_add]
        refine h4 _ u ?_
        have e1 : ds = ds.take a.toNat ++ ((ds.drop a.toNat).take (b.toNat - a.toNat) ++ (ds.drop a.toNat).drop (b.toNat - a.toNat)) := by rw [List.take_append_drop, List.take_append_drop]
        rw [e1, List.flatten_append, List.flatten_append, List.getElem?_append_right (by rw [h3.dropLen a.toNat (by omega)]; omega), h3.dropLen a.toNat (by omega)]
        rw [List.getElem?_append_left (by
          have := (List.getElem?_eq_some_iff.1 hj).1
          omega)]
        rw [show a.toNat * GoRep.size α + j - a.toNat * GoRep.size α = j by omega]
        exact hj
theorem Rd.len_le {y : Value} {ys : List α} (h : Rd g w y ys) : ys.length ≤ 9223372036854775807 := by
  rcases h with ⟨_, rfl⟩ | ⟨_, c, _, h1, h2, _⟩
  · simp
  · unfold maxLen at h2; omega
theorem Rd.is {y : Value} {ys : List α} (h : Rd g w y ys) (m : Mono g w) : Is w y ys := by
  rcases h with ⟨rfl, rfl⟩ | ⟨a, c, rfl, h1, h2, ds, h3, h4⟩
  · exact is_nil w
  · refine is_list.2 (.inr ⟨a, c, rfl, h1, h2, fun i x hx => ?_⟩)
    obtain ⟨cs, hr, hc⟩ := h3.get i x hx
    exact ⟨cs, fun j u hj => h4 _ u (hc j u hj), GoRep.mono m hr⟩
/-- 'append(v, y...)'. -/
theorem SL.append {P : Program} {t ty : TypeId} {bytes : Nat} [OneCells α] (H : SL W g w (slA e v xs :: l)) {y : Value} {ys : List α} (hy : Rd g w y ys)
    (ht : P.underlying t = some (.slice e)) (hi : (P.info? e).map (fun i => (i.size, i.bytes, i.zero.isSome)) = some (GoRep.size α, bytes, true)) (hz : ((P.info? e).bind (·.zero)).map (·.cells.size) = some (GoRep.size α)) (hpos : 0 < GoRep.size α)
    (hlen : (xs.length + ys.length) * bytes ≤ 140737488355328) (hmax : xs.length + ys.length ≤ 9223372036854775807) :
    ∃ v' w', (Builtin.append_ #[t, t] ty #[v, y]).run P w = .ok v' w' ∧ SL W g w' (slA e v' (xs ++ ys) :: l) ∧ (v' = .slice none 0 0 → v = .slice none 0 0 ∧ ys = []) := by
  cases hq : P.info? e with
  | none => simp [hq] at hi
  | some i =>
    simp only [hq, Option.map_some, Option.some.injEq, Prod.mk.injEq, Option.bind_some] at hi hz
    obtain ⟨hs, hby, hzz⟩ := hi
    cases hz' : i.zero with
    | none => simp [hz'] at hzz
    | some z =>
      simp only [hz', Option.map_some, Option.some.injEq] at hz
      obtain ⟨cs, hrel, H1⟩ := H.slO
      have hrow := H1.row
      have H2 := H
      rcases hy with ⟨rfl, rfl⟩ | ⟨a, cap, rfl, hcap, hcm, ds, hds, hcell⟩
      · have hrun := run_append_none_src (P := P) w t ty e i ht hq (base := W.n) (v := v) (n := xs.length) (xs := cs.flatten) (by rw [hs]; exact hrow)
        exact ⟨v, w, hrun, by simpa using H2, fun q => ⟨q, rfl⟩⟩
      · have hlen2 := (RelL.length hds).2
        obtain ⟨v', w', hrun, hown', hgrow, hnil⟩ := run_append_own (P := P) w W.n t ty e i z (GoRep.size α) bytes ht hq hz' hs hby hz hpos v xs.length cs.flatten hrow a ys.length cap ds.flatten hlen2
          hcell (RelL.one hds) (by unfold maxLen; omega) hlen H.size
        have hwhere := append_whereN (P := P) W.n t ty e i z (GoRep.size α) bytes ht hq hz' hs hby v xs.length cs.flatten hrow a ys.length cap ds.flatten hlen2 hcell (RelL.one hds) (by unfold maxLen; omega) hlen hrun
        refine ⟨v', w', hrun, ?_, fun q => ⟨(hnil.1 q).1, List.eq_nil_of_length_eq_zero (hnil.1 q).2⟩⟩
        refine SL.slI (cs := cs ++ ds) (hrel.append hds) ?_
        have e1 : (cs ++ ds).flatten = cs.flatten ++ ds.flatten := by simp
        rw [e1, List.length_append]
        exact H1.grown hown' hgrow hwhere
end
end Go.Lm
