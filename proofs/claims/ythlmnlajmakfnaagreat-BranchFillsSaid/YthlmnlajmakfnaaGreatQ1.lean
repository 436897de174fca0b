/- Texts of mine, laid together: LmKA LmSaid LmKB LmVa LmVb LmVc. -/
import Derived.WalkKit
import Derived.WalkSpells
import Derived.WalkLawsBesides
import Derived.Deep.Quiet
import Derived.Deep.MidRow
import Derived.KernelRfl
import Derived.ProofKit
import Derived.OpenShut
import Derived.ShutString
import Derived.ChangeOld
import Derived.Deep.Slices
import Derived.Deep.Fields
import Derived.ChangeSame
import Derived.Laws.RangeAny
import Derived.Lib.OthersKept
import Derived.Maps.Own
import Derived.Maps.OwnSet
import Derived.Maps.Range
import Derived.Maps.RangeWalk
import Derived.Laws.OwnMore
import Derived.Laws.MakeOwn
import Derived.Laws.CopyRow
import Derived.Laws.BytesArg
import Derived.Laws.IdiomStrings
import Derived.Lib.ConvBytes
set_option linter.unusedVariables false
/- An engine of mine for walks: the frame as an association list, the world as a variable of which facts on blocks are known. General: no program in sight. -/
namespace Go.Lm
open Go Go.RowKit

abbrev AL := List (Nat × Value)
def look : AL → Nat → Option Value
 | [], _ => none
 | (k, v) :: s, t => bif Nat.beq k t then some v else look s t

theorem beq_ne {a b : Nat} (h : ¬ a = b) : Nat.beq a b = false := by
 cases hb : Nat.beq a b with
 | false => rfl
 | true => exact absurd (Nat.eq_of_beq_eq_true hb) h

structure Fr (n : Nat) (s : AL) (a : Act) : Prop where
 size : a.tmps.size = n
 defers : a.defers = []
 has : ∀ t v, look s t = some v → a.tmps.getD t undef = v

def ev (s : AL) : Operand → Option Value
 | .tmp t => look s t
 | .const v => some v
 | .global g => some (.pointer (some ⟨g, 0, none⟩))
 | .func f => some (.func (.func f) #[] #[])
def rho (s : AL) (x : Operand) : Value := (ev s x).getD undef

theorem Fr.ev {n : Nat} {s : AL} {a : Act} (h : Fr n s a) {x : Operand} {v : Value} (hx : ev s x = some v) : a.eval x = v := by
 cases x with
 | tmp t => exact h.has t v hx
 | const u => exact Option.some.inj hx
 | global g => exact Option.some.inj hx
 | func f => exact Option.some.inj hx

def knows (s : AL) (o : Oper) : Bool := o.op.operands.toList.all fun x => (ev s x).isSome
def noSel (o : Oper) : Bool := match o.op with | .select .. => false | _ => true

theorem exec_eq {n : Nat} {s : AL} {a : Act} (h : Fr n s a) {o : Oper} (hk : (knows s o && noSel o) = true) : execOp a.eval o = execOp (rho s) o := by
 simp only [Bool.and_eq_true] at hk
 refine execOp_congr o (fun cs b hb => ?_) fun x hx => ?_
 ·have := hk.2
  simp [noSel, hb] at this
 ·have h1 := hk.1
  unfold knows at h1
  have h2 := List.all_eq_true.1 h1 x (by simpa using hx)
  obtain ⟨v, hv⟩ := Option.isSome_iff_exists.1 h2
  rw [h.ev hv]; simp [rho, hv]

def wants (ops : Array Oper) (s : AL) (o : Oper) : Option Bool :=
 match o.guard with
 | none => some true
 | some (j, want) =>
  match (ops[j]?).bind (·.dst) with
  | none => none
  | some d => match look s d with
   | some (.bool b) => some (b == want)
   | some (.tuple _) => some false
   | _ => none

theorem wants_eq {n : Nat} {s : AL} {a : Act} (h : Fr n s a) {ops : Array Oper} {o : Oper} {b : Bool} (hw : wants ops s o = some b) : Region.wanted o (yielded ops a.tmps) = b := by
 unfold wants at hw
 unfold Region.wanted
 cases hg : o.guard with
 | none => simp [hg] at hw ⊢; exact hw
 | some g =>
  obtain ⟨j, want⟩ := g
  simp only [hg] at hw ⊢
  cases hj : (ops[j]?).bind (·.dst) with
  | none => simp [hj] at hw
  | some d =>
   simp only [hj] at hw
   unfold yielded
   cases hl : look s d with
   | none => simp [hl] at hw
   | some v =>
    have hv := h.has d v hl
    simp only [hl] at hw
    have hgd : a.tmps[d]?.getD undef = v := by rw [← hv]; simp [Array.getD_eq_getD_getElem?]
    cases v <;> simp at hw
    case bool c =>
     cases hx : a.tmps[d]? with
     | none => rw [hx] at hgd; simp [undef] at hgd
     | some y => rw [hx] at hgd; simp at hgd; subst hgd; simp [hj, hx, hw]
    case tuple c =>
     subst hw
     cases hx : a.tmps[d]? with
     | none => simp [hj, hx]
     | some y => rw [hx] at hgd; simp at hgd; subst hgd; simp [hj, hx]

def okC (P : Program) (c : Code) (n : Nat) (s : AL) (Q : Exit → Act → World → Prop) (w : World) : Prop := ∀ a, Fr n s a → c.wp P Q a w
def Ret (P : Program) (f : FuncId) (args : Array Value) (w : World) (R : Value → World → Prop) : Prop := Calls P f args w fun e w' => ∃ v, e = .returned v ∧ R v w'

section
variable {P : Program} {ops : Array Oper} {rest : List Oper} {o : Oper} {n : Nat} {s : AL} {Q : Exit → Act → World → Prop} {w : World}

theorem wpR_of {a : Act} (hw : Region.wanted o (yielded ops a.tmps) = true) (h : ∀ K : Act → World → Prop, (∀ a w, wpList P ops Q rest a w → K a w) → o.wp P a w K Q) : wpList P ops Q (o :: rest) a w :=
 wpList_step fun K hK => by rw [if_pos hw]; exact h K hK

def start (args : List Value) : AL := (args.zipIdx).map fun (v, i) => (i, v)
theorem look_start (args : List Value) (k t : Nat) (v : Value) (h : look ((args.zipIdx k).map fun (v, i) => (i, v)) t = some v) : k ≤ t ∧ args[t - k]? = some v := by
 induction args generalizing k with
 | nil => simp [look] at h
 | cons x l ih =>
  simp only [List.zipIdx_cons, List.map_cons, look] at h
  by_cases e : k = t
  ·subst e
   have : Nat.beq k k = true := by simp
   rw [this] at h
   simpa using h
  ·rw [beq_ne e] at h
   obtain ⟨h1, h2⟩ := ih (k + 1) h
   refine ⟨by omega, ?_⟩
   rw [show t - k = (t - (k + 1)) + 1 from by omega]
   simpa using h2
theorem enter {f : FuncId} {fn : Func} {c : Code} {args : List Value} {R : Value → World → Prop} (hf : P.funcs[f]? = some fn) (hb : fn.body = some c) (hn : fn.ntmps = n) (hl : Nat.ble args.length n = true)
  (h : okC P c n (start args) (bodyPost P fn fun e w' => ∃ v, e = .returned v ∧ R v w') w) : Ret P f args.toArray w R := by
 have hl' : args.length ≤ n := by simpa using hl
 refine calls_of_wp hf hb (h _ ⟨by simp [hn]; omega, rfl, fun t v ht => ?_⟩)
 have := look_start args 0 t v ht
 have h2 : args[t]? = some v := by simpa using this.2
 have h3 : t < args.length := (List.getElem?_eq_some_iff.1 h2).1
 simp [Array.getD_eq_getD_getElem?, Array.getElem?_append, h3]
 exact Option.some.inj ((List.getElem?_eq_getElem h3).symm.trans h2)
end
end Go.Lm

/- A region whose order is open, by what each operation gives: whatever order is drawn, in the end each temporary has what was said of it. General: no program in sight. -/
namespace Go.Lm
open Go Go.RowKit

def Le (w w' : World) : Prop := Below w.heap.size w w'
theorem Le.refl (w : World) : Le w w := Below.refl _ _
theorem Le.trans {a b c : World} (h : Le a b) (k : Le b c) : Le a c := Below.trans h (Below.mono k h.size)
theorem Le.drew (w : World) : Le w w.drew := (Below.refl _ _).drew
theorem Le.keep {w w' : World} (h : Le w w') {k : Nat} {x : Obj} (hx : w.heap[k]? = some x) : w'.heap[k]? = some x := by
 rw [h.block k (Array.getElem?_eq_some_iff.1 hx).1]; exact hx

def reach (ops : Array Oper) : Nat → Nat → Nat → Bool
 | 0, _, _ => false
 | f + 1, j, i => match ops[j]? with
  | none => false
  | some o => o.after.any fun e => Region.binds .any e && (Nat.beq e.on i || reach ops f e.on i)

def edgesOk (ops : Array Oper) : Bool := (List.range ops.size).all fun i => match ops[i]? with
 | none => true
 | some o => (o.after.all fun e => !Region.binds .any e || Nat.blt e.on i) && noSel o
def dstsOk (ops : Array Oper) (n : Nat) : Bool := (List.range ops.size).all fun i => match (ops[i]?).bind (·.dst) with
 | none => true
 | some d => Nat.blt d n && (List.range i).all fun j => match (ops[j]?).bind (·.dst) with
  | none => true
  | some d' => !Nat.beq d' d

section
variable {P : Program}
def gives (P : Program) (w : World) (R : World → Value → Prop) : Result Next → Prop
 | .ok (.value u) w' => Le w w' ∧ R w' u
 | .ok .skip w' => Le w w' ∧ R w' undef
 | .ok (.enter f args) w' => Le w w' ∧ Calls P f args w' fun e w'' => ∃ v, e = .returned v ∧ Le w' w'' ∧ R w'' v
 | _ => False

theorem filter_lt {p q : Nat → Bool} : ∀ (l : List Nat), (∀ x ∈ l, q x = true → p x = true) → ∀ i ∈ l, p i = true → q i = false → (l.filter q).length < (l.filter p).length
 | [], _, i, hi, _, _ => by cases hi
 | x :: l, h, i, hi, hp, hq => by
  have hle : (l.filter q).length ≤ (l.filter p).length := by
   have this : ∀ y ∈ l, q y = true → p y = true := fun y hy => h y (List.mem_cons_of_mem x hy)
   clear h hi
   induction l with
   | nil => simp
   | cons y l ih =>
    have h1 := this y (by simp)
    have h2 := ih (fun z hz => this z (List.mem_cons_of_mem y hz))
    simp only [List.filter_cons]
    by_cases hy : q y = true
    ·simp [hy, h1 hy]; exact h2
    ·by_cases hy' : p y = true
     ·simp [hy, hy']; omega
     ·simp [hy, hy']; exact h2
  rcases List.mem_cons.1 hi with rfl | hi'
  ·simp [hp, hq]; omega
  ·have ih := filter_lt l (fun y hy => h y (List.mem_cons_of_mem x hy)) i hi' hp hq
   simp only [List.filter_cons]
   by_cases hx : q x = true
   ·simp [hx, h x (by simp) hx]; exact ih
   ·by_cases hx' : p x = true
    ·simp [hx, hx']; omega
    ·simp [hx, hx']; exact ih

theorem reach_listed {ops : Array Oper} {listed : Array Bool} (hc : ∀ (j : Nat) (o : Oper), ops[j]? = some o → listed.getD j false = true → ∀ e ∈ o.after, Region.binds .any e = true → listed.getD e.on false = true) :
  ∀ f j i, reach ops f j i = true → listed.getD j false = true → listed.getD i false = true
 | 0, _, _, h, _ => by simp [reach] at h
 | f + 1, j, i, h, hj => by
  unfold reach at h
  cases ho : ops[j]? with
  | none => simp [ho] at h
  | some o =>
   simp only [ho] at h
   obtain ⟨k, hk, hb⟩ := Array.any_eq_true.1 h
   simp only [Bool.and_eq_true, Bool.or_eq_true] at hb
   have hl := hc j o ho hj _ (Array.getElem_mem hk) hb.1
   rcases hb.2 with he | he
   ·rw [← Nat.eq_of_beq_eq_true he]; exact hl
   ·exact reach_listed hc f _ _ he hl

theorem rep_false (m j : Nat) : (Array.replicate m false).getD j false = false := by
 by_cases h : j < m
 ·simp [Array.getD_eq_getD_getElem?, h]
 ·simp [Array.getD_eq_getD_getElem?, h]

end
end Go.Lm

/- What single operations come to, by facts on blocks. General: no program in sight. -/
namespace Go.Lm
open Go Go.RowKit

def Blk (w : World) (b : Nat) (cs : Array Value) (t : TypeId) : Prop := w.heap[b]? = some (.cells cs t (0, 0))
abbrev ptr (b o : Nat) : Value := .pointer (some ⟨b, o, none⟩)

structure New (w : World) (b : Nat) (o : Obj) (w' : World) : Prop where
 eq : w' = w.alloc o
 at_ : b = w.heap.size
structure Upd (w : World) (b : Nat) (cs : Array Value) (w' : World) : Prop where
 eq : w' = w.setRow b cs
 lt : b < w.heap.size

theorem New.mk' (w : World) (o : Obj) : New w w.heap.size o (w.alloc o) := ⟨rfl, rfl⟩
theorem New.le {w w' : World} {b : Nat} {o : Obj} (h : New w b o w') : Le w w' := by
 rw [h.eq]; exact (Below.refl _ _).alloc (Nat.le_refl _) o
theorem New.here {w w' : World} {b : Nat} {o : Obj} (h : New w b o w') : w'.heap[b]? = some o := by
 rw [h.eq, h.at_]; exact heap_alloc_new w o
theorem New.keep {w w' : World} {b k : Nat} {o x : Obj} (h : New w b o w') (hx : w.heap[k]? = some x) : w'.heap[k]? = some x := h.le.keep hx
theorem New.size {w w' : World} {b : Nat} {o : Obj} (h : New w b o w') : w'.heap.size = b + 1 := by rw [h.eq, h.at_]; simp
theorem New.below {w w' a : World} {b B : Nat} {o : Obj} (h : New w b o w') (hb : Below B a w) (hB : B ≤ b) : Below B a w' := by
 rw [h.eq]; exact hb.alloc (by rw [← h.at_]; exact hB) o

theorem setRow_size (w : World) (b : Nat) (cs : Array Value) : (w.setRow b cs).heap.size = w.heap.size := by simp [World.setRow]
theorem setRow_ne (w : World) (b k : Nat) (cs : Array Value) (h : k ≠ b) : (w.setRow b cs).heap[k]? = w.heap[k]? := by
 simp only [World.setRow, Array.getElem?_modify]
 rw [if_neg (Ne.symm h)]
theorem Upd.size {w w' : World} {b : Nat} {cs : Array Value} (h : Upd w b cs w') : w'.heap.size = w.heap.size := by rw [h.eq]; exact setRow_size w b cs
theorem Upd.below {w w' a : World} {b B : Nat} {cs : Array Value} (h : Upd w b cs w') (hb : Below B a w) (hB : B ≤ b) : Below B a w' := by
 rw [h.eq]
 exact hb.trans ⟨rfl, rfl, rfl, by rw [setRow_size]; exact Nat.le_refl _, fun k hk => setRow_ne w b k cs (by omega)⟩
theorem Le.below {a w w' : World} {B : Nat} (h : Le w w') (hb : Below B a w) (hB : B ≤ w.heap.size) : Below B a w' := hb.trans (h.mono hB)
theorem Blk.lt {w : World} {b : Nat} {cs : Array Value} {t : TypeId} (h : Blk w b cs t) : b < w.heap.size := (Array.getElem?_eq_some_iff.1 h).1
theorem Blk.cell {w : World} {b : Nat} {cs : Array Value} {t : TypeId} (h : Blk w b cs t) (i : Nat) : w.cell? ⟨b, i, none⟩ = cs[i]? := by unfold Blk at h; simp [World.cell?, h]
section
variable {P : Program} {w : World} {ρ : Operand → Value} {o : Oper}

theorem run_load_one {b off : Nat} {cs : Array Value} {t t' : TypeId} {d : TypeDesc} {v : Value} (hb : Blk w b cs t') (hu : P.underlying t = some d) (hd : d.isRow = false) (hv : cs[off]? = some v) :
  (Instr.loadAt t (ptr b off)).run P w = .ok v w := by
 have hagg : (isAgg t).run P w = .ok false w := by
  unfold isAgg
  rw [Sem.run_bind, run_underlying hu w]
  cases d <;> simp_all
 have hc := hb.cell off
 rw [hv] at hc
 simp [Instr.loadAt, Instr.sureAddr, loadVar, hagg, run_load, hc]

theorem run_load_row {b off : Nat} {cs : Array Value} {t t' : TypeId} {d : TypeDesc} {vs : List Value} (hb : Blk w b cs t') (hu : P.underlying t = some d) (hd : d.isRow = true)
  (hi : (P.info? t).map (·.size) = some vs.length) (hv : (cs.toList.drop off).take vs.length = vs) : (Instr.loadAt t (ptr b off)).run P w = .ok (.agg vs.toArray) w := by
 refine run_loadAt_mid w b off t vs d (fun j v hj => ?_) hu hd hi
 rw [hb.cell, ← Array.getElem?_toList]
 have hjl : j < vs.length := (List.getElem?_eq_some_iff.1 hj).1
 rw [← hv, List.getElem?_take, if_pos hjl, List.getElem?_drop] at hj
 exact hj

theorem run_store_row {b off : Nat} {cs : Array Value} {t t' : TypeId} {v : Value} (hb : Blk w b cs t') (hi : (P.info? t).map (·.size) = some v.cells.size) (h1 : v.cells.toList.all (·.oneCell') = true)
  (hl : off + v.cells.size ≤ cs.size) :
  (Instr.storeAt t (ptr b off) v).run P w = .ok () (w.setRow b (cs.toList.take off ++ v.cells.toList ++ cs.toList.drop (off + v.cells.size)).toArray) := by
 cases hq : P.info? t with
 | none => simp [hq] at hi
 | some i =>
  have hs : i.size = v.cells.size := by simpa [hq] using hi
  have hst := run_storeCells_at P b off t' v.cells.toList 0 cs w hb (by simpa using hl) (fun x hx => List.all_eq_true.1 h1 x hx)
  simp only [Nat.add_zero, Array.length_toList] at hst
  simp [Instr.storeAt, Instr.sureAddr, storeVar, sizeOf, typeInfo, hq, hs, hst]

theorem X_box {t : TypeId} {x : Operand} {v : Value} (ho : o.op = .box t x) (hx : ρ x = v) : (execOp ρ o).run P w = .ok (.value (ptr w.heap.size 0)) (w.alloc (.cells v.cells t)) := by
 simp [execOp, ho, hx, Instr.box, newVar, newRow, go_sem]
theorem X_alloc {t : TypeId} {i : TypeInfo} {z : Value} (ho : o.op = .alloc t) (hi : P.info? t = some i) (hz : i.zero = some z) : (execOp ρ o).run P w = .ok (.value (ptr w.heap.size 0)) (w.alloc (.cells z.cells t)) := by
 simp [execOp, ho, Instr.alloc, zeroValue, typeInfo, hi, hz, newVar, newRow, go_sem]
end

section
variable {P : Program} {ops : Array Oper} {rest : List Oper} {o : Oper} {n : Nat} {s : AL} {Q : Exit → Act → World → Prop} {w : World}

end

abbrev RP := World → Value → Prop
theorem G_call {P : Program} {ops : Array Oper} {n : Nat} {s : AL} {a : Act} {w : World} {o : Oper} {R : RP} {f : Nat} {args : Array Value} {R' : Value → World → Prop} (hf : Fr n s a) (hw : wants ops s o = some true) (hk : (knows s o && noSel o) = true)
  (hr : (execOp (rho s) o).run P w = .ok (.enter f args) w) (hc : Ret P f args w R') (h : ∀ v w', R' v w' → Le w w' ∧ R w' v) :
  (Region.wanted o (yielded ops a.tmps) = true → gives P w R ((execOp a.eval o).run P w)) ∧ (Region.wanted o (yielded ops a.tmps) = false → R w undef) :=
 ⟨fun _ => by rw [exec_eq hf hk, hr]; exact ⟨Le.refl w, Calls.mono hc fun e w' ⟨v, he, hv⟩ => ⟨v, he, (h v w' hv).1, (h v w' hv).2⟩⟩, fun h2 => by rw [wants_eq hf hw] at h2; cases h2⟩
theorem Le.below' {w w' a : World} (h : Le w w') (hb : Below a.heap.size a w) : Below a.heap.size a w' := h.below hb hb.size

theorem eqF_int {P : Program} {w : World} {d : Nat} {xs ys : Array Value} {f : Field} {fs : List Field} {k : IntKind} {m n : Int} {b : Bool} (hn : (f.name != "_") = true) (hu : P.underlying f.type = some (.int k)) (hi : ((P.info? f.type).map (·.size)) = some 1)
  (hx : xs[f.offset]? = some (.int k m)) (hy : ys[f.offset]? = some (.int k n)) (hr : (Op.eqFields (d + 1) xs ys fs).run P w = .ok b w) : (Op.eqFields (d + 1) xs ys (f :: fs)).run P w = .ok ((m == n) && b) w := by
 have hpx : (part f.type xs f.offset).run P w = .ok (.int k m) w := by
  cases hq : P.info? f.type with
  | none => simp [hq] at hi
  | some i => simp [part, isAgg, run_underlying hu, go_sem, hx]
 have hpy : (part f.type ys f.offset).run P w = .ok (.int k n) w := by
  cases hq : P.info? f.type with
  | none => simp [hq] at hi
  | some i => simp [part, isAgg, run_underlying hu, go_sem, hy]
 have hne : f.name ≠ "_" := by simpa using hn
 simp only [Op.eqFields, if_pos hne, Sem.run_bind, hpx, hpy, Result.andThen_ok, run_equalIn_int w d f.type k k m n hu]
 cases hb : m == n
 ·simp [go_sem]
 ·simp [hr]
theorem eqF_nil {P : Program} {w : World} {d : Nat} {xs ys : Array Value} : (Op.eqFields d xs ys []).run P w = .ok true w := by simp [Op.eqFields]
end Go.Lm

/- Arguments that come in by value, opened to their cells. General: no program in sight. -/
namespace Go.Lm
open Go Go.RowKit Go.WideShapes Go.ChangeShapes

end Go.Lm

/- Go's data as Lean's data: what a value reads as, in a world. General: no program in sight. -/
namespace Go.Lm
open Go Go.RowKit Go.ChangeShapes Go.WideShapes

def Mono (w w' : World) : Prop := ∀ (a : Addr) (v : Value), w.cell? a = some v → w'.cell? a = some v
theorem Mono.refl (w : World) : Mono w w := fun _ _ h => h
theorem Mono.trans {a b c : World} (h : Mono a b) (k : Mono b c) : Mono a c := fun x v hx => k x v (h x v hx)
theorem Le.mono' {w w' : World} (h : Le w w') : Mono w w' := fun a v hc => by rw [Below.cell h (World.block_lt_of_cell? w a hc)]; exact hc

structure Sees (g w : World) : Prop where
 size : g.heap.size ≤ w.heap.size
 mono : Mono g w
theorem Sees.refl (w : World) : Sees w w := ⟨Nat.le_refl _, Mono.refl w⟩
theorem Sees.le {g w w' : World} (h : Sees g w) (hl : Le w w') : Sees g w' := ⟨Nat.le_trans h.size hl.size, h.mono.trans hl.mono'⟩
def NotIn (g : World) (b : Nat) : Prop := ∀ (a : Addr), a.block = b → g.cell? a = none
theorem New.notIn {g w w' : World} {b : Nat} {o : Obj} (h : New w b o w') (hs : Sees g w) : NotIn g b := fun a ha => by
 cases hc : g.cell? a with
 | none => rfl
 | some v =>
  have := World.block_lt_of_cell? g a hc
  have h1 := hs.size
  rw [ha, h.at_] at this
  omega
def graft (g w w' : World) : World := { w' with heap := Array.ofFn (n := w'.heap.size) fun k => if k.val < w.heap.size then (g.heap[k.val]?).getD (.map #[] 0) else w'.heap[k.val] }
theorem graft_old {g w w' : World} (_hs : Sees g w) (hl : w.heap.size ≤ w'.heap.size) (a : Addr) (ha : a.block < w.heap.size) : (graft g w w').cell? a = g.cell? a := by
 unfold World.cell? graft
 have hlt : a.block < w'.heap.size := by omega
 simp only [Array.getElem?_ofFn, hlt, dif_pos, ha, if_true]
 cases hg : g.heap[a.block]? with
 | none => simp
 | some o => simp
theorem graft_new {g w w' : World} (a : Addr) (ha : w.heap.size ≤ a.block) : (graft g w w').cell? a = w'.cell? a := by
 unfold World.cell? graft
 by_cases hlt : a.block < w'.heap.size
 ·simp only [Array.getElem?_ofFn, hlt, dif_pos]
  rw [if_neg (by omega)]
  simp [hlt]
 ·simp [hlt]
theorem graft_size (g w w' : World) : (graft g w w').heap.size = w'.heap.size := by simp [graft]
theorem graft_sees {g w w' : World} (hs : Sees g w) (hl : Le w w') : Sees (graft g w w') w' := by
 refine ⟨by rw [graft_size]; exact Nat.le_refl _, fun a v hv => ?_⟩
 by_cases ha : a.block < w.heap.size
 ·rw [graft_old hs hl.size a ha] at hv
  exact hl.mono' a v (hs.mono a v hv)
 ·rw [graft_new a (by omega)] at hv; exact hv
theorem graft_mono {g w w' : World} (hs : Sees g w) (hl : Le w w') : Mono g (graft g w w') := fun a v hv => by
 have ha : a.block < w.heap.size := Nat.lt_of_lt_of_le (World.block_lt_of_cell? g a hv) hs.size
 rw [graft_old hs hl.size a ha]; exact hv
theorem graft_notIn {g w w' : World} {b : Nat} (hs : Sees g w) (hl : Le w w') (hb : b < w.heap.size) (hn : NotIn g b) : NotIn (graft g w w') b := fun a ha => by
 rw [graft_old hs hl.size a (by omega)]; exact hn a ha
def Agr (g₀ w₀ g : World) : Prop := ∀ (a : Addr), a.block < w₀.heap.size → g.cell? a = g₀.cell? a
theorem Agr.refl (g w : World) : Agr g w g := fun _ _ => rfl
theorem Agr.graft {g₀ w₀ g w w' : World} (h : Agr g₀ w₀ g) (hs : Sees g w) (hl : Le w w') (h0 : w₀.heap.size ≤ w.heap.size) : Agr g₀ w₀ (graft g w w') := fun a ha => by
 rw [graft_old hs hl.size a (by omega)]; exact h a ha
class GoRep (α : Type) where
 size : Nat
 agg : Bool
 rel : World → List Value → α → Prop
 mono : ∀ {w w' : World} {cs : List Value} {x : α}, Mono w w' → rel w cs x → rel w' cs x
 len : ∀ {w : World} {cs : List Value} {x : α}, rel w cs x → cs.length = size

def Is {α : Type} [GoRep α] (w : World) (v : Value) (x : α) : Prop :=
 if (GoRep.agg α) then ∃ cs, v = .agg cs ∧ GoRep.rel w cs.toList x else GoRep.rel w [v] x
theorem Is.mono {α : Type} [GoRep α] {w w' : World} {v : Value} {x : α} (hl : Mono w w') (h : Is w v x) : Is w' v x := by
 unfold Is at *
 split at h
 ·rename_i ha
  rw [if_pos ha]
  obtain ⟨cs, hv, hr⟩ := h
  exact ⟨cs, hv, GoRep.mono hl hr⟩
 ·rename_i ha
  rw [if_neg ha]
  exact GoRep.mono hl h

instance : GoRep Int where
 size := 1
 agg := false
 rel _ cs n := cs = [.int .i64 n] ∧ (Lit.int .i64 n).wf = true
 mono _ h := h
 len h := by rw [h.1]; rfl
instance : GoRep Bool where
 size := 1
 agg := false
 rel _ cs b := cs = [.bool b]
 mono _ h := h
 len h := by rw [h]; rfl
instance : GoRep UInt8 where
 size := 1
 agg := false
 rel _ cs b := cs = [.int .u8 b.toNat]
 mono _ h := h
 len h := by rw [h]; rfl
instance : GoRep ByteArray where
 size := 1
 agg := false
 rel _ cs s := cs = [.string s] ∧ s.size ≤ maxLen
 mono _ h := h
 len h := by rw [h.1]; rfl

def IsSl {α : Type} [GoRep α] (w : World) (v : Value) (xs : List α) : Prop :=
 (v = .slice none 0 0 ∧ xs = []) ∨
 ∃ (a : Addr) (cap : Nat), v = .slice (some a) xs.length cap ∧ xs.length ≤ cap ∧ cap ≤ maxLen ∧
  ∀ (i : Nat) (x : α), xs[i]? = some x → ∃ cs : List Value, (∀ (j : Nat) (c : Value), cs[j]? = some c → w.cell? (a.add (i * GoRep.size α + j)) = some c) ∧ GoRep.rel w cs x
instance {α : Type} [GoRep α] : GoRep (List α) where
 size := 1
 agg := false
 rel w cs xs := ∃ v, cs = [v] ∧ IsSl w v xs
 mono := by
  rintro w w' cs x hl ⟨v, rfl, h⟩
  refine ⟨v, rfl, ?_⟩
  rcases h with h | ⟨a, cap, hv, h1, h2, h3⟩
  ·exact .inl h
  ·refine .inr ⟨a, cap, hv, h1, h2, fun i x hx => ?_⟩
   obtain ⟨cs, hc, hr⟩ := h3 i x hx
   exact ⟨cs, fun j c hj => hl _ c (hc j c hj), GoRep.mono hl hr⟩
 len := by rintro w cs x ⟨v, rfl, _⟩; rfl

theorem is_list {α : Type} [GoRep α] {w : World} {v : Value} {xs : List α} : Is w v xs ↔ IsSl w v xs := by
 simp [Is, GoRep.agg, GoRep.rel]

def Opens (P : Program) (t : TypeId) (α : Type) [GoRep α] : Prop :=
 ∀ {H : Type} (enc : TypeId × Value → H) (w : World) (base : Nat) (spare : Nat → Bool) (held : Bool) (fuel : Nat) (cs : List Value) (y : DataW H × List MemPlace), DataW.trod enc P w base spare held fuel t cs = some y → ∃ x : α, GoRep.rel w cs x
section
variable {P : Program}
theorem opens_bool {t : TypeId} (ht : P.underlying t = some .bool) : Opens P t Bool := fun _ _ _ _ _ _ _ _ h => by
 obtain ⟨b, hc, _⟩ := DataW.trod_bool ht h
 exact ⟨b, hc⟩
theorem opens_byte {t : TypeId} (ht : P.underlying t = some (.int .u8)) : Opens P t UInt8 := fun _ _ _ _ _ _ cs _ h => by
 obtain ⟨n, hc, _, hw⟩ := DataW.trod_int ht h
 have hb : 0 ≤ n ∧ n ≤ 255 := by
  simp [Lit.wf, IntKind.min, IntKind.max, IntKind.signed, IntKind.bits] at hw
  omega
 refine ⟨UInt8.ofNat n.toNat, ?_⟩
 have : ((UInt8.ofNat n.toNat).toNat : Int) = n := by
  simp [UInt8.toNat_ofNat']
  omega
 show cs = [.int .u8 _]
 rw [this]; exact hc
theorem opens_str {t : TypeId} (ht : P.underlying t = some .string) : Opens P t ByteArray := fun _ _ _ _ _ _ _ _ h => by
 obtain ⟨s, hc, _, hs⟩ := DataW.trod_string ht h
 exact ⟨s, hc, hs⟩
theorem list_choose {α : Type} {p : Nat → α → Prop} : ∀ n : Nat, (∀ i, i < n → ∃ x, p i x) → ∃ l : List α, l.length = n ∧ ∀ i x, l[i]? = some x → p i x
 | 0, _ => ⟨[], rfl, fun i x h => by simp at h⟩
 | n + 1, h => by
  obtain ⟨l, hl, hp⟩ := list_choose n fun i hi => h i (by omega)
  obtain ⟨x, hx⟩ := h n (by omega)
  refine ⟨l ++ [x], by simp [hl], fun i y hy => ?_⟩
  by_cases hi : i < n
  ·rw [List.getElem?_append_left (by omega)] at hy; exact hp i y hy
  ·have : i = n := by
    have := (List.getElem?_eq_some_iff.1 hy).1
    simp [hl] at this; omega
   subst this
   rw [List.getElem?_append_right (by omega)] at hy
   simp [hl] at hy
   subst hy; exact hx
theorem opens_list {t e : TypeId} {α : Type} [GoRep α] (ht : P.underlying t = some (.slice e)) (hs : P.cellsOf e = GoRep.size α) (he : Opens P e α) : Opens P t (List α) := fun enc w base spare held fuel cs y h => by
 rcases Go.Deep.open_slice ht h with ⟨hc, _⟩ | ⟨a, len, cap, m, n, D, Pl, hc, hb, hl, hm, hmm, _, hi⟩
 ·exact ⟨[], _, hc, .inl ⟨rfl, rfl⟩⟩
 ·have hlm : len ≤ m := by rw [hmm]; split <;> omega
  obtain ⟨l, hll, hp⟩ := list_choose (α := α) (p := fun i x => ∃ cs : List Value, (∀ (j : Nat) (c : Value), cs[j]? = some c → w.cell? (a.add (i * GoRep.size α + j)) = some c) ∧ GoRep.rel w cs x) len fun i hi' => by
   obtain ⟨cs', h1, h2⟩ := hi i (by omega)
   obtain ⟨x, hx⟩ := he enc w base spare held n cs' _ h2
   refine ⟨x, cs', fun j c hj => ?_, hx⟩
   obtain ⟨_, hcl, hat⟩ := World.cells?_some h1
   have hjl : j < P.cellsOf e := by rw [← hcl]; exact (List.getElem?_eq_some_iff.1 hj).1
   have := hat j hjl
   rw [Go.Deep.add_add, hs] at this
   rw [this, hj]
  subst hll
  exact ⟨l, _, hc, .inr ⟨a, cap, rfl, hl, hm, hp⟩⟩
theorem open_one {t : TypeId} {α : Type} [GoRep α] (ho : Opens P t α) (ha : GoRep.agg α = false) {H : Type} {enc : TypeId × Value → H} {w : World} {base : Nat} {spare : Nat → Bool} {held : Bool} {v : Value} {d : DataW H} {ps : List MemPlace}
  (hv : v.cells = #[v]) (h : DataW.Trod enc P w base spare held t v d ps) : ∃ x : α, Is w v x := by
 obtain ⟨fuel, hf⟩ := h
 obtain ⟨x, hx⟩ := ho enc w base spare held fuel _ _ hf
 refine ⟨x, ?_⟩
 unfold Is
 rw [if_neg (by rw [ha]; simp)]
 rw [hv] at hx; exact hx
def elemP (k : Nat) : Value → Int → Value
 | .slice (some a) _ _, i => .pointer (some (a.add (i.toNat * k)))
 | _, _ => undef
theorem X_len_str {w : World} {ρ : Operand → Value} {o : Oper} {x : Operand} {t : TypeId} {s : ByteArray} (ho : o.op = .call { callee := .builtin .len, args := #[x], argTypes := #[t] }) (ht : P.underlying t = some .string) (hx : ρ x = .string s) :
  (execOp ρ o).run P w = .ok (.value (.int .i64 s.size)) w := by
 simp [execOp, ho, resolve, invoke, builtin, hx, Builtin.len_, run_underlying ht, goInt]
theorem X_len {α : Type} [GoRep α] {w : World} {ρ : Operand → Value} {o : Oper} {x : Operand} {t e : TypeId} {v : Value} {xs : List α} (h : Is w v xs) (ho : o.op = .call { callee := .builtin .len, args := #[x], argTypes := #[t] }) (ht : P.underlying t = some (.slice e)) (hx : ρ x = v) :
  (execOp ρ o).run P w = .ok (.value (.int .i64 xs.length)) w := by
 rcases is_list.1 h with ⟨rfl, rfl⟩ | ⟨a, cap, rfl, _⟩ <;> simp [execOp, ho, resolve, invoke, builtin, hx, Builtin.len_, run_underlying ht, goInt]
theorem X_indexAddr {α : Type} [GoRep α] {w : World} {ρ : Operand → Value} {o : Oper} {x y : Operand} {t e : TypeId} {v : Value} {xs : List α} {i : Int} (h : Is w v xs) (h0 : 0 ≤ i) (h1 : i < xs.length) (ho : o.op = .indexAddr t x y) (ht : P.underlying t = some (.slice e))
  (hs : (P.info? e).map (·.size) = some (GoRep.size α)) (hx : ρ x = v) (hy : ρ y = .int .i64 i) : (execOp ρ o).run P w = .ok (.value (elemP (GoRep.size α) v i)) w := by
 rcases is_list.1 h with ⟨rfl, rfl⟩ | ⟨a, cap, rfl, _⟩
 ·simp at h1; omega
 ·cases hq : P.info? e with
  | none => simp [hq] at hs
  | some ie =>
   have hsz : ie.size = GoRep.size α := by simpa [hq] using hs
   simp [execOp, ho, Instr.indexAt, hx, hy, asIntOf, run_underlying ht, h0, h1, sizeOf, typeInfo, hq, hsz, elemP]
end

def nth {α : Type} [Inhabited α] (xs : List α) (i : Int) : α := (xs[i.toNat]?).getD default
theorem nth_eq {α : Type} [Inhabited α] {xs : List α} {i : Int} (h : i.toNat < xs.length) : nth xs i = xs[i.toNat] := by simp [nth, h]
section
variable {P : Program}
theorem Is.len_le {α : Type} [GoRep α] {w : World} {v : Value} {xs : List α} (h : Is w v xs) : xs.length ≤ 9223372036854775807 := by
 rcases is_list.1 h with ⟨_, rfl⟩ | ⟨_, cap, _, h1, h2, _⟩
 ·simp
 ·unfold maxLen at h2; omega
def byteAt (s : ByteArray) (i : Int) : UInt8 := (s[i.toNat]?).getD 0
theorem X_slice_str {w : World} {ρ : Operand → Value} {o : Oper} {x : Operand} {lo hi : Option Operand} {t : TypeId} {s : ByteArray} {l h : Int} (hl : 0 ≤ l) (hlh : l ≤ h) (hh : h ≤ s.size) (ho : o.op = .slice t x lo hi none) (ht : P.underlying t = some .string) (hx : ρ x = .string s)
  (h1 : (lo = none ∧ l = 0) ∨ ∃ y, lo = some y ∧ ρ y = .int .i64 l) (h2 : (hi = none ∧ h = s.size) ∨ ∃ y, hi = some y ∧ ρ y = .int .i64 h) :
  (execOp ρ o).run P w = .ok (.value (.string (s.extract l.toNat h.toNat))) w := by
 have e0 : 0 ≤ h := by omega
 have hb : (Instr.sliceBounds false s.size s.size (lo.map ρ) (hi.map ρ) none).run P w = .ok (l.toNat, h.toNat, s.size) w := by
  rcases h1 with ⟨rfl, rfl⟩ | ⟨y, rfl, hy⟩ <;> rcases h2 with ⟨rfl, rfl⟩ | ⟨z, rfl, hz⟩ <;>
   simp_all [Instr.sliceBounds, Instr.sliceBound, asIntOf] <;> omega
 simp [execOp, ho, Instr.sliceAt, hx, run_underlying ht, Instr.slice, hb]
end

def sliceV (k : Nat) : Value → Int → Int → Value
 | .slice a _ cap, l, h => .slice (if cap = l.toNat then a else a.map (·.add (l.toNat * k))) (h.toNat - l.toNat) (cap - l.toNat)
 | v, _, _ => v
section
variable {P : Program}
theorem X_slice {α : Type} [GoRep α] {w : World} {ρ : Operand → Value} {o : Oper} {x : Operand} {lo hi : Option Operand} {t e : TypeId} {v : Value} {xs : List α} {l h : Int} (hx' : Is w v xs) (hl : 0 ≤ l) (hlh : l ≤ h) (hh : h ≤ xs.length) (ho : o.op = .slice t x lo hi none)
  (ht : P.underlying t = some (.slice e)) (hs : (P.info? e).map (·.size) = some (GoRep.size α)) (hx : ρ x = v)
  (h1 : (lo = none ∧ l = 0) ∨ ∃ y, lo = some y ∧ ρ y = .int .i64 l) (h2 : (hi = none ∧ h = xs.length) ∨ ∃ y, hi = some y ∧ ρ y = .int .i64 h) :
  (execOp ρ o).run P w = .ok (.value (sliceV (GoRep.size α) v l h)) w := by
 obtain ⟨a, cap, rfl, hcap⟩ : ∃ a cap, v = .slice a xs.length cap ∧ xs.length ≤ cap := by
  rcases is_list.1 hx' with ⟨rfl, rfl⟩ | ⟨a, cap, rfl, hc, _⟩
  ·exact ⟨none, 0, rfl, Nat.le_refl _⟩
  ·exact ⟨some a, cap, rfl, hc⟩
 have e0 : 0 ≤ h := by omega
 have hc' : h ≤ (cap : Int) := by omega
 have hb : (Instr.sliceBounds true xs.length cap (lo.map ρ) (hi.map ρ) none).run P w = .ok (l.toNat, h.toNat, cap) w := by
  rcases h1 with ⟨rfl, rfl⟩ | ⟨y, rfl, hy⟩ <;> rcases h2 with ⟨rfl, rfl⟩ | ⟨z, rfl, hz⟩ <;>
   simp_all [Instr.sliceBounds, Instr.sliceBound, asIntOf] <;> omega
 cases hq : P.info? e with
 | none => simp [hq] at hs
 | some ie =>
  have hsz : ie.size = GoRep.size α := by simpa [hq] using hs
  simp [execOp, ho, Instr.sliceAt, hx, run_underlying ht, Instr.slice, hb, sizeOf, typeInfo, hq, hsz, sliceV]
theorem Is.slice {α : Type} [GoRep α] {w : World} {v : Value} {xs : List α} {l h : Int} (hx : Is w v xs) (hl : 0 ≤ l) (hlh : l ≤ h) (hh : h ≤ xs.length) :
  Is w (sliceV (GoRep.size α) v l h) ((xs.drop l.toNat).take (h.toNat - l.toNat)) := by
 have hlen : ((xs.drop l.toNat).take (h.toNat - l.toNat)).length = h.toNat - l.toNat := by simp; omega
 rcases is_list.1 hx with ⟨rfl, rfl⟩ | ⟨a, cap, rfl, hc, hm, h3⟩
 ·refine is_list.2 (.inl ⟨?_, by simp⟩)
  simp at hh
  have h1 : h = 0 := by omega
  have h2 : l = 0 := by omega
  subst h1 h2
  rfl
 ·refine is_list.2 (.inr ⟨if cap = l.toNat then a else a.add (l.toNat * GoRep.size α), cap - l.toNat, ?_, by rw [hlen]; omega, by omega, fun i x hi => ?_⟩)
  ·rw [hlen]
   unfold sliceV
   simp only [Option.map_some]
   split <;> rfl
  ·have hi' : i < h.toNat - l.toNat := by
    have := (List.getElem?_eq_some_iff.1 hi).1
    rwa [hlen] at this
   rw [List.getElem?_take, if_pos hi', List.getElem?_drop] at hi
   obtain ⟨cs, h4, h5⟩ := h3 _ x hi
   refine ⟨cs, fun j c hj => ?_, h5⟩
   have := h4 j c hj
   rw [if_neg (by omega), Go.Deep.add_add]
   rw [← this]
   congr 2
   rw [Nat.add_mul]; omega
end
theorem wrap_in {k : IntKind} {n : Int} (h : (Lit.int k n).wf = true) : k.wrap n = n := by
 cases k <;> simp [Lit.wf, IntKind.min, IntKind.max, IntKind.signed, IntKind.bits] at h <;> simp [IntKind.wrap, IntKind.signed, IntKind.bits] <;> omega
end Go.Lm

/- Slices that the call itself makes; strings that are gone through. General: no program in sight. -/
namespace Go.Lm
open Go Go.RowKit

structure UpdO (w : World) (b : Nat) (o : Obj) (w' : World) : Prop where
 eq : w' = { w with heap := w.heap.setIfInBounds b o }
 lt : b < w.heap.size
theorem UpdO.here {w w' : World} {b : Nat} {o : Obj} (h : UpdO w b o w') : w'.heap[b]? = some o := by rw [h.eq]; simp [h.lt]
theorem UpdO.keep' {w w' : World} {b k : Nat} {o : Obj} (h : UpdO w b o w') (hne : k ≠ b) : w'.heap[k]? = w.heap[k]? := by
 rw [h.eq]; simp [Array.getElem?_setIfInBounds_ne (Ne.symm hne)]
theorem UpdO.keep {w w' : World} {b k : Nat} {o x : Obj} (h : UpdO w b o w') (hne : k ≠ b) (hx : w.heap[k]? = some x) : w'.heap[k]? = some x := by rw [h.keep' hne]; exact hx
theorem UpdO.size {w w' : World} {b : Nat} {o : Obj} (h : UpdO w b o w') : w'.heap.size = w.heap.size := by rw [h.eq]; simp
theorem UpdO.below {w w' a : World} {b B : Nat} {o : Obj} (h : UpdO w b o w') (hb : Below B a w) (hB : B ≤ b) : Below B a w' := by
 refine hb.trans ⟨?_, ?_, ?_, ?_, fun k hk => h.keep' (by omega)⟩
 ·rw [h.eq]
 ·rw [h.eq]
 ·rw [h.eq]
 ·rw [h.size]; exact Nat.le_refl _
theorem Sees.updO {g w w' : World} {b : Nat} {o : Obj} (h : Sees g w) (hn : NotIn g b) (hu : UpdO w b o w') : Sees g w' := by
 refine ⟨by rw [hu.size]; exact h.size, fun a v hv => ?_⟩
 have hne : a.block ≠ b := fun e => by rw [hn a e] at hv; cases hv
 have h1 := h.mono a v hv
 rw [World.cell?_of_block (w := w) (hu.keep' hne)]; exact h1

section
variable {P : Program}
theorem X_range_str {w : World} {ρ : Operand → Value} {o : Oper} {x : Operand} {t : TypeId} {s : ByteArray} (ho : o.op = .range t x) (ht : P.underlying t = some .string) (hx : ρ x = .string s) :
  (execOp ρ o).run P w = .ok (.value (ptr w.heap.size 0)) (w.alloc (.stringIter s 0)) := by
 simp [execOp, ho, Instr.range, hx, run_underlying ht, go_sem]
theorem X_next_yes {w : World} {ρ : Operand → Value} {o : Oper} {x : Operand} {s : ByteArray} {b pos : Nat} (hk : w.heap[b]? = some (.stringIter s pos)) (h : pos < s.size) (ho : o.op = .next x true) (hx : ρ x = ptr b 0) :
  (execOp ρ o).run P w = .ok (.value (.tuple #[.bool true, .int .i64 pos, .int .i32 (Utf8.decode s pos).1])) { w with heap := w.heap.setIfInBounds b (.stringIter s (pos + (Utf8.decode s pos).2)) } := by
 have h1 := Lib.run_next_any_at (P := P) w b s pos o.type hk h
 simp only [execOp, ho, hx, Sem.run_bind, h1, Result.andThen_ok, Sem.run_pure]
 rfl
theorem X_next_no {w : World} {ρ : Operand → Value} {o : Oper} {x : Operand} {s : ByteArray} {b pos : Nat} (hk : w.heap[b]? = some (.stringIter s pos)) (h : ¬ pos < s.size) (ho : o.op = .next x true) (hx : ρ x = ptr b 0) :
  (execOp ρ o).run P w = .ok (.value (.tuple #[.bool false])) w := by
 have h1 := Lib.run_next_end_at (P := P) w b s pos o.type hk h
 simp only [execOp, ho, hx, Sem.run_bind, h1, Result.andThen_ok, Sem.run_pure]
end
section
variable {P : Program} {ops : Array Oper} {rest : List Oper} {o : Oper} {n : Nat} {s : AL} {Q : Exit → Act → World → Prop} {w : World}
end

def RelL {α : Type} [GoRep α] (g : World) : List (List Value) → List α → Prop
 | [], [] => True
 | c :: cs, x :: xs => GoRep.rel g c x ∧ RelL g cs xs
 | _, _ => False
theorem RelL.mono {α : Type} [GoRep α] {g g' : World} (h : Mono g g') : ∀ {cs : List (List Value)} {xs : List α}, RelL g cs xs → RelL g' cs xs
 | [], [], _ => trivial
 | _ :: _, _ :: _, hh => ⟨GoRep.mono h hh.1, RelL.mono h hh.2⟩
theorem RelL.get {α : Type} [GoRep α] {g : World} : ∀ {cs : List (List Value)} {xs : List α}, RelL g cs xs → ∀ (i : Nat) (x : α), xs[i]? = some x → ∃ c, GoRep.rel g c x ∧ ∀ (j : Nat) (v : Value), c[j]? = some v → cs.flatten[i * GoRep.size α + j]? = some v
 | [], [], _, i, x, hx => by simp at hx
 | c :: cs, y :: xs, h, 0, x, hx => by
  obtain rfl : y = x := by simpa using hx
  refine ⟨c, h.1, fun j v hj => ?_⟩
  rw [List.flatten_cons, Nat.zero_mul, Nat.zero_add, List.getElem?_append_left (List.getElem?_eq_some_iff.1 hj).1]; exact hj
 | c :: cs, y :: xs, h, i + 1, x, hx => by
  obtain ⟨c', h1, h2⟩ := RelL.get h.2 i x (by simpa using hx)
  refine ⟨c', h1, fun j v hj => ?_⟩
  have hl := GoRep.len h.1
  rw [List.flatten_cons, List.getElem?_append_right (by rw [hl, Nat.add_mul]; omega), hl]
  have := h2 j v hj
  rw [← this]; congr 1
  rw [Nat.add_mul]; omega

structure OwnsL {α : Type} [GoRep α] (g w : World) (base : Nat) (e : TypeId) (v : Value) (xs : List α) : Prop where
 ex : ∃ cs : List (List Value), RelL g cs xs ∧ w.ownsRow base e (GoRep.size α) v xs.length cs.flatten
theorem OwnsL.is {α : Type} [GoRep α] {g w G : World} {base : Nat} {e : TypeId} {v : Value} {xs : List α} (h : OwnsL g w base e v xs) (hg : Mono g G) (hb : ∀ a : Addr, base ≤ a.block → G.cell? a = w.cell? a) : Is G v xs := by
 obtain ⟨cs, h1, h2, h3⟩ := h.ex
 rcases h3 with ⟨rfl, h0⟩ | ⟨k, cap, cur, rfl, hbk, hk, hnc, hcm, hcs, htake⟩
 ·exact is_list.2 (.inl ⟨rfl, List.eq_nil_of_length_eq_zero h0⟩)
 ·refine is_list.2 (.inr ⟨⟨k, 0, none⟩, cap, rfl, hnc, hcm, fun i x hx => ?_⟩)
  obtain ⟨c, hr, hc⟩ := h1.get i x hx
  refine ⟨c, fun j v hj => ?_, GoRep.mono hg hr⟩
  rw [Addr.add_mid, hb ⟨k, _, none⟩ hbk]
  have h4 := hc j v hj
  rw [← htake, List.getElem?_take] at h4
  split at h4
  ·simp [World.cell?, hk]
   simpa using h4
  ·cases h4
section
variable {P : Program} {ops : Array Oper} {rest : List Oper} {o : Oper} {n : Nat} {s : AL} {Q : Exit → Act → World → Prop} {w : World}
end

theorem at_lt {w : World} {k : Nat} {x : Obj} (h : w.heap[k]? = some x) : k < w.heap.size := (Array.getElem?_eq_some_iff.1 h).1
theorem is_nil {α : Type} [GoRep α] (g : World) : Is g (.slice none 0 0) ([] : List α) := is_list.2 (.inl ⟨rfl, rfl⟩)
theorem Ret.of {P : Program} {f : FuncId} {args : Array Value} {w : World} {v : Value} {Q : World → Prop} (h : Calls P f args w fun e w' => e = .returned v ∧ Q w') : Ret P f args w fun u w' => u = v ∧ Q w' :=
 Calls.mono h fun _ _ ⟨h1, h2⟩ => ⟨v, h1, rfl, h2⟩
theorem Ret.mono {P : Program} {f : FuncId} {args : Array Value} {w : World} {R R' : Value → World → Prop} (h : Ret P f args w R) (hr : ∀ v w', R v w' → R' v w') : Ret P f args w R' :=
 Calls.mono h fun _ _ ⟨v, h1, h2⟩ => ⟨v, h1, hr v _ h2⟩
end Go.Lm

/- Short forms of the engine's rules, their closed facts found by Lean. General: no program in sight. -/
namespace Go.Lm
open Go Go.RowKit
section
variable {P : Program} {ops : Array Oper} {rest : List Oper} {o : Oper} {n : Nat} {s : AL} {Q : Exit → Act → World → Prop} {w : World} {d f : Nat}
end
end Go.Lm

/- Several slices of the call's own at once. General: no program in sight. -/
namespace Go.Lm
open Go Go.RowKit

def Disj (v u : Value) : Prop := ∀ k, v.ownBlock = some k → u.ownBlock ≠ some k
theorem Disj.symm {v u : Value} (h : Disj v u) : Disj u v := fun k h1 h2 => h k h2 h1
section
variable {P : Program} {ops : Array Oper} {rest : List Oper} {o : Oper} {n : Nat} {s : AL} {Q : Exit → Act → World → Prop} {w : World}
end
end Go.Lm

/- Structs as data: rows of fields. General: no program in sight. -/
namespace Go.Lm
open Go Go.RowKit

class RowRep (ρ : Type) where
 rsize : Nat
 rrel : World → List Value → ρ → Prop
 rmono : ∀ {w w' : World} {cs : List Value} {x : ρ}, Mono w w' → rrel w cs x → rrel w' cs x
 rlen : ∀ {w : World} {cs : List Value} {x : ρ}, rrel w cs x → cs.length = rsize
instance : RowRep PUnit where
 rsize := 0
 rrel _ cs _ := cs = []
 rmono _ h := h
 rlen h := by rw [h]; rfl
instance {α ρ : Type} [GoRep α] [RowRep ρ] : RowRep (α × ρ) where
 rsize := GoRep.size α + RowRep.rsize ρ
 rrel w cs x := ∃ c1 c2, cs = c1 ++ c2 ∧ GoRep.rel w c1 x.1 ∧ RowRep.rrel w c2 x.2
 rmono := by rintro w w' cs x hl ⟨c1, c2, rfl, h1, h2⟩; exact ⟨c1, c2, rfl, GoRep.mono hl h1, RowRep.rmono hl h2⟩
 rlen := by rintro w cs x ⟨c1, c2, rfl, h1, h2⟩; rw [List.length_append, GoRep.len h1, RowRep.rlen h2]
structure St (ρ : Type) where
 v : ρ
instance {ρ : Type} [RowRep ρ] : GoRep (St ρ) where
 size := RowRep.rsize ρ
 agg := true
 rel w cs x := RowRep.rrel w cs x.v
 mono hl h := RowRep.rmono hl h
 len h := RowRep.rlen h
section
variable {P : Program}
end
section
variable {ρ : Type} [RowRep ρ] {w : World} {cs : List Value}
end
end Go.Lm

/- A node of a tree, and its further attributes, as data: their fields, one by one. General: no program in sight. -/
namespace Go.Lm
open Go Go.RowKit
abbrev XattrD := St (ByteArray × List UInt8 × PUnit)
abbrev AttrD := St (Int × Int × Int × PUnit)
abbrev NodeD := St (List ByteArray × Int × Int × AttrD × List UInt8 × ByteArray × List XattrD × Bool × PUnit)
namespace NodeD
def names (x : NodeD) : List ByteArray := x.v.1
def ino (x : NodeD) : Int := x.v.2.1
def kind (x : NodeD) : Int := x.v.2.2.1
def attr (x : NodeD) : AttrD := x.v.2.2.2.1
def mode (x : NodeD) : Int := x.attr.v.1
def uid (x : NodeD) : Int := x.attr.v.2.1
def gid (x : NodeD) : Int := x.attr.v.2.2.1
def data (x : NodeD) : List UInt8 := x.v.2.2.2.2.1
def target (x : NodeD) : ByteArray := x.v.2.2.2.2.2.1
def xattrs (x : NodeD) : List XattrD := x.v.2.2.2.2.2.2.1
def opq (x : NodeD) : Bool := x.v.2.2.2.2.2.2.2.1
end NodeD
instance : Inhabited XattrD := ⟨⟨(⟨#[]⟩, [], ⟨⟩)⟩⟩
instance : Inhabited NodeD := ⟨⟨([], 0, 0, ⟨(0, 0, 0, ⟨⟩)⟩, [], ⟨#[]⟩, [], false, ⟨⟩)⟩⟩
end Go.Lm

/- What the call owns of the heap, as a list of parts that lie apart; what is held fixed, as a ghost. General: no program in sight. -/
namespace Go.Lm
open Go Go.RowKit

abbrev Hp := Nat → Option Obj
def Hp.join (h k : Hp) : Hp := fun b => match h b with | some o => some o | none => k b
def Hp.apart (h k : Hp) : Prop := ∀ b, h b = none ∨ k b = none
theorem Hp.join_left {h k : Hp} {b : Nat} {o : Obj} (e : h b = some o) : h.join k b = some o := by simp [Hp.join, e]
theorem Hp.join_right {h k : Hp} {b : Nat} (e : h b = none) : h.join k b = k b := by simp [Hp.join, e]
theorem Hp.apart.symm {h k : Hp} (a : h.apart k) : k.apart h := fun b => (a b).symm
theorem Hp.join_comm {h k : Hp} (a : h.apart k) : h.join k = k.join h := by
 funext b
 unfold Hp.join
 rcases a b with e | e <;> rw [e] <;> cases h b <;> cases k b <;> simp_all
theorem Hp.join_assoc (h k m : Hp) : (h.join k).join m = h.join (k.join m) := by
 funext b
 unfold Hp.join
 cases h b <;> rfl
theorem Hp.apart_join {h k m : Hp} : h.apart (k.join m) ↔ h.apart k ∧ h.apart m := by
 constructor
 ·intro a
  refine ⟨fun b => ?_, fun b => ?_⟩
  ·rcases a b with e | e
   ·exact .inl e
   ·right; unfold Hp.join at e; cases hk : k b <;> simp_all
  ·rcases a b with e | e
   ·exact .inl e
   ·right; unfold Hp.join at e; cases hk : k b <;> simp_all
 ·rintro ⟨a1, a2⟩ b
  rcases a1 b with e | e
  ·exact .inl e
  ·rcases a2 b with e' | e'
   ·exact .inl e'
   ·right; simp [Hp.join, e, e']

structure Atom where
 sat : World → Hp → Prop
 mono : ∀ {g g' : World} {h : Hp}, Mono g g' → sat g h → sat g' h

def sats (g : World) : List Atom → Hp → Prop
 | [], _ => True
 | a :: l, h => ∃ h1 h2, Hp.apart h1 h2 ∧ h = h1.join h2 ∧ a.sat g h1 ∧ sats g l h2
theorem sats.mono {g g' : World} (m : Mono g g') : ∀ {l : List Atom} {h : Hp}, sats g l h → sats g' l h
 | [], _, _ => trivial
 | _ :: _, _, ⟨h1, h2, a, e, s1, s2⟩ => ⟨h1, h2, a, e, Atom.mono _ m s1, s2.mono m⟩
theorem sats.swap {g : World} {a b : Atom} {l : List Atom} {h : Hp} (s : sats g (a :: b :: l) h) : sats g (b :: a :: l) h := by
 obtain ⟨h1, h2, ap, rfl, s1, k1, k2, ap2, rfl, s2, s3⟩ := s
 obtain ⟨a1, a2⟩ := Hp.apart_join.1 ap
 refine ⟨k1, h1.join k2, Hp.apart_join.2 ⟨a1.symm, ap2⟩, ?_, s2, h1, k2, a2, rfl, s1, s3⟩
 rw [← Hp.join_assoc, Hp.join_comm a1, Hp.join_assoc]

def nthA : List Atom → Nat → Option Atom
 | [], _ => none
 | a :: _, 0 => some a
 | _ :: l, i + 1 => nthA l i
def dropA : List Atom → Nat → List Atom
 | [], _ => []
 | _ :: l, 0 => l
 | a :: l, i + 1 => a :: dropA l i
def setA : List Atom → Nat → Atom → List Atom
 | [], _, _ => []
 | _ :: l, 0, b => b :: l
 | a :: l, i + 1, b => a :: setA l i b
theorem sats.pick {g : World} : ∀ {l : List Atom} {i : Nat} {a : Atom} {h : Hp}, nthA l i = some a → sats g l h → sats g (a :: dropA l i) h
 | [], _, _, _, e, _ => by cases e
 | b :: l, 0, a, h, e, s => by
  obtain rfl : b = a := Option.some.inj e
  exact s
 | b :: l, i + 1, a, h, e, s => by
  obtain ⟨h1, h2, ap, rfl, s1, s2⟩ := s
  have := sats.pick (l := l) (i := i) e s2
  exact sats.swap ⟨h1, h2, ap, rfl, s1, this⟩
theorem sats.unpick {g : World} : ∀ {l : List Atom} {i : Nat} {a b : Atom} {h : Hp}, nthA l i = some b → sats g (a :: dropA l i) h → sats g (setA l i a) h
 | [], _, _, _, _, e, _ => by cases e
 | c :: l, 0, a, b, h, e, s => s
 | c :: l, i + 1, a, b, h, e, s => by
  obtain ⟨h1, h2, ap, rfl, s1, s2⟩ := s.swap
  exact ⟨h1, h2, ap, rfl, s1, sats.unpick (l := l) (i := i) e s2⟩

structure Base where
 w : World
 g : World
abbrev Base.n (W : Base) : Nat := W.w.heap.size
structure SeesA (W : Base) (g w : World) : Prop where
 sees : Sees g w
 agr : Agr W.g W.w g
theorem SeesA.size {W : Base} {g w : World} (s : SeesA W g w) : g.heap.size ≤ w.heap.size := s.sees.size
theorem SeesA.mono {W : Base} {g w : World} (s : SeesA W g w) : Mono g w := s.sees.mono
theorem SeesA.le {W : Base} {g w w' : World} (s : SeesA W g w) (e : Le w w') : SeesA W g w' := ⟨s.sees.le e, s.agr⟩
theorem SeesA.updO {W : Base} {g w w' : World} {b : Nat} {o : Obj} (s : SeesA W g w) (hn : NotIn g b) (u : UpdO w b o w') : SeesA W g w' := ⟨s.sees.updO hn u, s.agr⟩
def SL (W : Base) (g w : World) (l : List Atom) : Prop :=
 ∃ h, Below W.n W.w w ∧ SeesA W g w ∧ (∀ b o, h b = some o → W.n ≤ b ∧ w.heap[b]? = some o ∧ NotIn g b) ∧ sats g l h

section
variable {W : Base} {g w w' : World} {l : List Atom}
theorem SL.start (s : Sees g w) : SL ⟨w, g⟩ g w [] := ⟨fun _ => none, Below.refl _ _, ⟨s, Agr.refl g w⟩, (fun _ _ h => by cases h), trivial⟩
theorem SL.seesA (H : SL W g w l) : SeesA W g w := by obtain ⟨_, _, h, _⟩ := H; exact h
theorem SL.sees (H : SL W g w l) : Sees g w := H.seesA.sees
theorem SL.m (H : SL W g w l) : Mono g w := H.sees.mono
theorem SL.below (H : SL W g w l) : Below W.n W.w w := by obtain ⟨_, h, _⟩ := H; exact h
theorem SL.toLe (H : SL W g w l) : Le W.w w := H.below
theorem SL.size (H : SL W g w l) : W.n ≤ w.heap.size := H.below.size
theorem SL.le (H : SL W g w l) (e : Le w w') : SL W g w' l := by
 obtain ⟨h, b, s, o, t⟩ := H
 refine ⟨h, e.below' b, s.le e, fun k x hx => ?_, t⟩
 obtain ⟨o1, o2, o3⟩ := o k x hx
 exact ⟨o1, e.keep o2, o3⟩
theorem SL.weak {l' : List Atom} (H : SL W g w l) (k : ∀ h, sats g l h → sats g l' h) : SL W g w l' := by
 obtain ⟨h, b, s, o, t⟩ := H
 exact ⟨h, b, s, o, k h t⟩
theorem SL.pick (i : Nat) {a : Atom} (H : SL W g w l) (e : nthA l i = some a := by exact rfl) : SL W g w (a :: dropA l i) := H.weak fun _ => sats.pick e
theorem SL.unpick (i : Nat) {a b : Atom} (e : nthA l i = some b) (H : SL W g w (a :: dropA l i)) : SL W g w (setA l i a) := H.weak fun _ => sats.unpick e
theorem SL.drop {a : Atom} (H : SL W g w (a :: l)) : SL W g w l := by
 obtain ⟨h, b, s, o, h1, h2, ap, rfl, s1, s2⟩ := H
 refine ⟨h2, b, s, fun k x hx => o k x ?_, s2⟩
 rcases ap k with e | e
 ·rw [Hp.join_right e]; exact hx
 ·rw [e] at hx; cases hx
def perm (l : List Atom) : List Nat → List Atom
 | [] => l
 | i :: r => match nthA l i with
  | some a => a :: perm (dropA l i) r
  | none => l
theorem SL.under {a : Atom} {l' : List Atom} (H : SL W g w (a :: l)) (k : ∀ h, sats g l h → sats g l' h) : SL W g w (a :: l') :=
 H.weak fun _ ⟨h1, h2, ap, e, s1, s2⟩ => ⟨h1, h2, ap, e, s1, k h2 s2⟩
theorem sats.perm : ∀ (r : List Nat) {l : List Atom} {h : Hp}, sats g l h → sats g (Lm.perm l r) h
 | [], _, _, s => s
 | i :: r, l, h, s => by
  unfold Lm.perm
  cases e : nthA l i with
  | none => exact s
  | some a =>
   obtain ⟨h1, h2, ap, q, s1, s2⟩ := s.pick e
   exact ⟨h1, h2, ap, q, s1, sats.perm r s2⟩
theorem SL.perm (r : List Nat) (H : SL W g w l) : SL W g w (Lm.perm l r) := H.weak fun _ => sats.perm r
theorem SL.to {l' : List Atom} (r : List Nat) (H : SL W g w l) (e : Lm.perm l r = l' := by exact rfl) : SL W g w l' := e ▸ H.perm r
theorem SL.cast {l' : List Atom} (H : SL W g w l) (e : l = l' := by exact rfl) : SL W g w l' := e ▸ H

def obj (b : Nat) (o : Obj) : Atom := ⟨fun _ h => h b = some o, fun _ s => s⟩
abbrev blk (b : Nat) (cs : Array Value) (t : TypeId) : Atom := obj b (.cells cs t (0, 0))
theorem SL.has0 {b : Nat} {o : Obj} (H : SL W g w (obj b o :: l)) : W.n ≤ b ∧ w.heap[b]? = some o ∧ NotIn g b := by
 obtain ⟨h, _, _, ow, h1, h2, ap, rfl, s1, s2⟩ := H
 exact ow b o (Hp.join_left s1)
theorem SL.has (i : Nat) {b : Nat} {o : Obj} (H : SL W g w l) (e : nthA l i = some (obj b o) := by exact rfl) : w.heap[b]? = some o := (H.pick i e).has0.2.1
theorem SL.blk (i : Nat) {b : Nat} {cs : Array Value} {t : TypeId} (H : SL W g w l) (e : nthA l i = some (Lm.blk b cs t) := by exact rfl) : Blk w b cs t := H.has i e
theorem SL.new {b : Nat} {o : Obj} (H : SL W g w l) (n : New w b o w') : SL W g w' (obj b o :: l) := by
 obtain ⟨h, be, s, ow, t⟩ := H
 have hb : h b = none := by
  cases hx : h b with
  | none => rfl
  | some x =>
   have := (Array.getElem?_eq_some_iff.1 (ow b x hx).2.1).1
   rw [n.at_] at this; omega
 refine ⟨Hp.join (fun k => if k = b then some o else none) h, n.below be (by rw [n.at_]; exact be.size), s.le n.le, fun k x hx => ?_, _, h, fun k => ?_, rfl, if_pos rfl, t⟩
 ·unfold Hp.join at hx
  by_cases e : k = b
  ·subst e
   simp at hx
   subst hx
   exact ⟨by rw [n.at_]; exact be.size, n.here, n.notIn s.sees⟩
  ·simp [e] at hx
   obtain ⟨o1, o2, o3⟩ := ow k x hx
   exact ⟨o1, n.keep o2, o3⟩
 ·by_cases e : k = b
  ·subst e; exact .inr hb
  ·left; simp [e]
theorem SL.updO0 {b : Nat} {o o' : Obj} (H : SL W g w (obj b o :: l)) (u : UpdO w b o' w') : SL W g w' (obj b o' :: l) := by
 obtain ⟨hW, hw, hn⟩ := H.has0
 obtain ⟨h, be, s, ow, h1, h2, ap, rfl, s1, s2⟩ := H
 have h2b : h2 b = none := by
  rcases ap b with e | e
  ·rw [show h1 b = some o from s1] at e; cases e
  ·exact e
 refine ⟨Hp.join (fun k => if k = b then some o' else h1 k) h2, u.below be hW, s.updO hn u, fun k x hx => ?_, _, h2, fun k => ?_, rfl, by show (if b = b then some o' else h1 b) = some o'; rw [if_pos rfl], s2⟩
 ·by_cases e : k = b
  ·subst e
   have : x = o' := by unfold Hp.join at hx; simp at hx; exact hx.symm
   subst this
   exact ⟨hW, u.here, hn⟩
  ·have hx' : (h1.join h2) k = some x := by unfold Hp.join at hx ⊢; simpa [e] using hx
   obtain ⟨o1, o2, o3⟩ := ow k x hx'
   exact ⟨o1, u.keep e o2, o3⟩
 ·by_cases e : k = b
  ·subst e; exact .inr h2b
  ·rcases ap k with q | q
   ·left; simp [e, q]
   ·exact .inr q
theorem SL.updO (i : Nat) {b : Nat} {o o' : Obj} (H : SL W g w l) (u : UpdO w b o' w') (e : nthA l i = some (obj b o) := by exact rfl) : SL W g w' (setA l i (obj b o')) := by
 have := (H.pick i e).updO0 u
 exact this.unpick i e
theorem Upd.updO {b : Nat} {cs old : Array Value} {t : TypeId} (u : Upd w b cs w') (h : Blk w b old t) : UpdO w b (.cells cs t (0, 0)) w' := by
 refine ⟨?_, u.lt⟩
 rw [u.eq]
 unfold World.setRow
 congr 1
 apply Array.ext_getElem?
 intro k
 rw [Array.getElem?_modify]
 by_cases e : b = k
 ·subst e
  unfold Blk at h
  rw [if_pos rfl, h]
  simp [u.lt]
 ·rw [if_neg e, Array.getElem?_setIfInBounds_ne e]
theorem SL.upd (i : Nat) {b : Nat} {cs old : Array Value} {t : TypeId} (H : SL W g w l) (u : Upd w b cs w') (e : nthA l i = some (Lm.blk b old t) := by exact rfl) : SL W g w' (setA l i (Lm.blk b cs t)) :=
 H.updO i (u.updO (H.blk i e)) e

def exA {α : Sort _} (f : α → List Atom) : Atom := ⟨fun g h => ∃ x, sats g (f x) h, fun m ⟨x, s⟩ => ⟨x, s.mono m⟩⟩
def pureA (p : Prop) : Atom := ⟨fun _ _ => p, fun _ s => s⟩
def isA {α : Type} [GoRep α] (v : Value) (x : α) : Atom := ⟨fun g _ => Is g v x, fun m s => s.mono m⟩
theorem sats.app : ∀ {a : List Atom} {h1 h2 : Hp}, Hp.apart h1 h2 → sats g a h1 → sats g l h2 → sats g (a ++ l) (h1.join h2)
 | [], h1, h2, ap, _, s2 => by
  -- what is left over joins the rest
  have key : ∀ {l : List Atom} {h2 : Hp}, Hp.apart h1 h2 → sats g l h2 → sats g l (h1.join h2) := by
   intro l
   induction l with
   | nil => intros; trivial
   | cons a l ih =>
    rintro h2 ap ⟨k1, k2, ap2, rfl, s1, s3⟩
    obtain ⟨a1, a2⟩ := Hp.apart_join.1 ap
    refine ⟨k1, h1.join k2, Hp.apart_join.2 ⟨a1.symm, ap2⟩, ?_, s1, ih a2 s3⟩
    rw [← Hp.join_assoc, Hp.join_comm a1, Hp.join_assoc]
  exact key ap s2
 | a :: r, h1, h2, ap, ⟨k1, k2, ap2, e, s1, s3⟩, s2 => by
  subst e
  have ap' := Hp.apart_join.1 ap.symm
  refine ⟨k1, k2.join h2, Hp.apart_join.2 ⟨ap2, ap'.1.symm⟩, by rw [Hp.join_assoc], s1, sats.app ap'.2.symm s3 s2⟩
theorem sats.unapp : ∀ {a : List Atom} {h : Hp}, sats g (a ++ l) h → ∃ h1 h2, Hp.apart h1 h2 ∧ h = h1.join h2 ∧ sats g a h1 ∧ sats g l h2
 | [], h, s => ⟨fun _ => none, h, fun _ => .inl rfl, rfl, trivial, s⟩
 | a :: r, h, ⟨k1, k2, ap, e, s1, s2⟩ => by
  obtain ⟨m1, m2, ap2, rfl, s3, s4⟩ := sats.unapp s2
  obtain ⟨a1, a2⟩ := Hp.apart_join.1 ap
  exact ⟨k1.join m1, m2, (Hp.apart_join.2 ⟨a2.symm, ap2.symm⟩).symm, by rw [e, Hp.join_assoc], ⟨k1, m1, a1, rfl, s1, s3⟩, s4⟩
theorem SL.openE {α : Sort _} {f : α → List Atom} (H : SL W g w (exA f :: l)) : ∃ x, SL W g w (f x ++ l) := by
 obtain ⟨h, b, s, o, h1, h2, ap, rfl, ⟨x, s1⟩, s2⟩ := H
 exact ⟨x, _, b, s, o, s1.app ap s2⟩
theorem SL.shutE {α : Sort _} {f : α → List Atom} (x : α) (H : SL W g w (f x ++ l)) : SL W g w (exA f :: l) := H.weak fun _ s => by
 obtain ⟨h1, h2, ap, rfl, s1, s2⟩ := s.unapp
 exact ⟨h1, h2, ap, rfl, ⟨x, s1⟩, s2⟩
def conjA (a : List Atom) : Atom := ⟨fun g h => sats g a h, fun m s => s.mono m⟩
theorem SL.openC {a : List Atom} (H : SL W g w (conjA a :: l)) : SL W g w (a ++ l) := H.weak fun _ ⟨_, _, ap, e, s1, s2⟩ => e ▸ sats.app ap s1 s2
theorem SL.shutC {a : List Atom} (H : SL W g w (a ++ l)) : SL W g w (conjA a :: l) := H.weak fun _ s => by
 obtain ⟨h1, h2, ap, rfl, s1, s2⟩ := s.unapp
 exact ⟨h1, h2, ap, rfl, s1, s2⟩
theorem SL.pure {p : Prop} (H : SL W g w (pureA p :: l)) : p ∧ SL W g w l := by
 refine ⟨?_, H.drop⟩
 obtain ⟨h, b, s, o, h1, h2, ap, rfl, s1, s2⟩ := H
 exact s1
theorem SL.addPure {p : Prop} (hp : p) (H : SL W g w l) : SL W g w (pureA p :: l) := H.weak fun h s => ⟨fun _ => none, h, fun _ => .inl rfl, rfl, hp, s⟩
theorem SL.isv {α : Type} [GoRep α] {v : Value} {x : α} (H : SL W g w (isA v x :: l)) : Is g v x ∧ SL W g w l := by
 refine ⟨?_, H.drop⟩
 obtain ⟨h, b, s, o, h1, h2, ap, rfl, s1, s2⟩ := H
 exact s1
theorem SL.addIs {α : Type} [GoRep α] {v : Value} {x : α} (hp : Is g v x) (H : SL W g w l) : SL W g w (isA v x :: l) := H.weak fun h s => ⟨fun _ => none, h, fun _ => .inl rfl, rfl, hp, s⟩

theorem SL.regraft (H : SL W g w l) (e : Le w w') : SL W (graft g w w') w' l := by
 obtain ⟨h, be, s, o, t⟩ := H
 refine ⟨h, e.below' be, ⟨graft_sees s.sees e, s.agr.graft s.sees e be.size⟩, fun b x hx => ?_, t.mono (graft_mono s.sees e)⟩
 obtain ⟨o1, o2, o3⟩ := o b x hx
 exact ⟨o1, e.keep o2, graft_notIn s.sees e (Array.getElem?_eq_some_iff.1 o2).1 o3⟩
def withB (g : World) (n b : Nat) (o : Obj) : World := { g with heap := Array.ofFn (n := n) fun k => if k.val = b then o else (g.heap[k.val]?).getD (.map #[] 0) }
theorem withB_cell {g : World} {n b : Nat} {o : Obj} (hs : g.heap.size ≤ n) (a : Addr) (hb : a.block ≠ b) : (withB g n b o).cell? a = g.cell? a := by
 unfold World.cell? withB
 by_cases h : a.block < n
 ·simp only [Array.getElem?_ofFn, h, dif_pos]
  rw [if_neg hb]
  cases hg : g.heap[a.block]? <;> simp
 ·simp only [Array.getElem?_ofFn, h, dif_neg, not_false_iff]
  rw [Array.getElem?_eq_none (by omega)]
theorem SL.hold0 {b : Nat} {cs : Array Value} {t : TypeId} (H : SL W g w (Lm.blk b cs t :: l)) : ∃ g', Mono g g' ∧ SL W g' w l ∧ (∀ i, g'.cell? ⟨b, i, none⟩ = cs[i]?) := by
 obtain ⟨hW, hw, hn⟩ := H.has0
 obtain ⟨h, be, s, o, h1, h2, ap, rfl, s1, s2⟩ := H
 have hlt : b < w.heap.size := (Array.getElem?_eq_some_iff.1 hw).1
 have m : Mono g (withB g w.heap.size b (.cells cs t (0, 0))) := fun a v hv => by
  have hne : a.block ≠ b := fun e => by rw [hn a e] at hv; cases hv
  rw [withB_cell s.size a hne]; exact hv
 have hc : ∀ (i : Nat) (sp), (withB g w.heap.size b (.cells cs t (0, 0))).cell? ⟨b, i, sp⟩ = w.cell? ⟨b, i, sp⟩ := fun i sp => by
  unfold World.cell? withB
  rw [hw]
  simp [hlt]
 refine ⟨withB g w.heap.size b (.cells cs t (0, 0)), m, ⟨h2, be, ⟨⟨by simp [withB], fun a v hv => ?_⟩, fun a ha => ?_⟩, fun k x hx => ?_, s2.mono m⟩, fun i => ?_⟩
 ·by_cases e : a.block = b
  ·have : a = ⟨b, a.off, a.spot⟩ := by cases a; simp_all
   rw [this] at hv ⊢
   rw [hc] at hv; exact hv
  ·rw [withB_cell s.size a e] at hv; exact s.mono a v hv
 ·have hne : a.block ≠ b := fun e => by
   have h1 : W.n ≤ b := hW
   unfold Base.n at h1
   omega
  rw [withB_cell s.size a hne]; exact s.agr a ha
 ·have h1k : h1 k = none := by
   rcases ap k with e | e
   ·exact e
   ·rw [e] at hx; cases hx
  obtain ⟨o1, o2, o3⟩ := o k x (by rw [Hp.join_right h1k]; exact hx)
  refine ⟨o1, o2, fun a ha => ?_⟩
  have hkb : k ≠ b := fun e => by
   subst e
   rw [show h1 k = some _ from s1] at h1k; cases h1k
  rw [withB_cell s.size a (by rw [ha]; exact hkb)]
  exact o3 a ha
 ·rw [hc]
  exact Blk.cell hw i
end
end Go.Lm

/- Maps of the call's own, as lists of entries (in whatever order); the loop over a map. General: no program in sight. -/
namespace Go.Lm
open Go Go.RowKit Go.Maps Go.ChangeMaps
open Go.WideElems (Fit rd rg pl rd_key rd_val rg_of)
open Go.WideShapes (sorted_perm)
open Go.MapKept

def holdV (v : Value) : Option (DataW Value × List MemPlace) := some (.held v, [])
class MKey (κ : Type) where
 dec : DecidableEq κ
 lit : κ → Lit
 val : κ → Value
 ok : κ → Prop
 same : ∀ a b : κ, (lit a).sameKey (lit b) = @decide (a = b) (dec a b)
 inj : ∀ a b : κ, lit a = lit b → a = b
instance (priority := low) {κ : Type} [MKey κ] : DecidableEq κ := MKey.dec
instance : MKey Int where
 dec := inferInstance
 lit i := .int .i64 i
 val i := .int .i64 i
 ok i := (Lit.int .i64 i).wf = true
 same a b := by simp [Lit.sameKey]
 inj a b h := by cases h; rfl
instance : MKey ByteArray where
 dec := inferInstance
 lit s := .string s.data.toList
 val s := .string s
 ok s := s.size ≤ maxLen
 same a b := by
  simp only [Lit.sameKey]
  rw [Bool.eq_iff_iff]
  simp only [beq_iff_eq, decide_eq_true_eq]
  constructor
  ·intro h
   cases a; cases b
   rename_i x y
   cases x; cases y
   simp at h
   rw [h]
  ·intro h; rw [h]
 inj a b h := by
  cases a; cases b
  rename_i x y
  cases x; cases y
  simp at h
  rw [h]
structure KeyT (P : Program) (k : TypeId) (κ : Type) [MKey κ] : Prop where
 keyed : Keyed P k
 of : ∀ x : κ, MKey.ok x → keyOf P k (MKey.val x) = some (MKey.lit x)
 inv : ∀ (v : Value) (x : κ), keyOf P k v = some (MKey.lit x) → v = MKey.val x ∧ MKey.ok x
theorem keyT_int {P : Program} {k : TypeId} (h : P.underlying k = some (.int .i64)) : KeyT P k Int where
 keyed := int_keyed h
 of x hx := keyOf_int_mk h hx
 inv v x hv := by
  obtain ⟨y, rfl, h2, h3⟩ := Maps.keyOf_int_inv h hv
  cases h2
  exact ⟨rfl, h3⟩
theorem keyOf_str_inv {P : Program} {k : TypeId} (hk : P.underlying k = some .string) {key : Value} {kl : Lit} (h : keyOf P k key = some kl) : ∃ x : ByteArray, key = .string x ∧ kl = .string x.data.toList ∧ x.size ≤ maxLen := by
 cases key <;> simp [keyOf, hk, mapKey] at h
 obtain ⟨hw, rfl⟩ := h
 exact ⟨_, rfl, rfl, hw⟩
theorem keyT_str {P : Program} {k : TypeId} (h : P.underlying k = some .string) : KeyT P k ByteArray where
 keyed := string_keyed h
 of x hx := by
  have hx' : x.size ≤ maxLen := hx
  simp [keyOf, h, mapKey, MKey.val, MKey.lit, hx']
 inv v x hv := by
  obtain ⟨y, rfl, h2, h3⟩ := keyOf_str_inv h hv
  obtain rfl := MKey.inj (κ := ByteArray) x y h2
  exact ⟨rfl, h3⟩

section
variable {κ : Type} [MKey κ]
def ent (p : κ × Value) : Lit × DataW Value := (MKey.lit p.1, .held p.2)
def getK {α : Type} (l : List (κ × α)) (x : κ) : Option α := (l.find? fun p => decide (p.1 = x)).map (·.2)
def delK {α : Type} (l : List (κ × α)) (x : κ) : List (κ × α) := l.filter fun p => !decide (p.1 = x)
def putK {α : Type} (l : List (κ × α)) (x : κ) (v : α) : List (κ × α) := (x, v) :: delK l x

theorem ent_filter (l : List (κ × Value)) (x : κ) : (l.map ent).filter (notKey (MKey.lit x)) = (delK l x).map ent := by
 unfold delK
 rw [List.filter_map]
 congr 1
 apply List.filter_congr
 intro p _
 simp [Function.comp, notKey, ent, MKey.same]

structure MapRep (P : Program) (k : TypeId) (es : Array MapEntry) (clock : Nat) (l : List (κ × Value)) : Prop where
 fit : Fit P k holdV es clock
 perm : (es.toList.map (rg P k holdV)).Perm (l.map ent)
theorem MapRep.size {P : Program} {k : TypeId} {es : Array MapEntry} {clock : Nat} {l : List (κ × Value)} (h : MapRep P k es clock l) : es.size = l.length := by
 have := h.perm.length_eq
 simpa using this
theorem MapRep.nodup {P : Program} {k : TypeId} {es : Array MapEntry} {clock : Nat} {l : List (κ × Value)} (h : MapRep P k es clock l) (K : Keyed P k) : (l.map (·.1)).Nodup := by
 have h1 := fit_apart K h.fit
 have h2 : (l.map ent).Pairwise (fun p q => p.1 ≠ q.1) := (h.perm.pairwise_iff (fun {_ _} hne => Ne.symm hne)).1 h1
 rw [List.pairwise_map] at h2
 unfold List.Nodup
 rw [List.pairwise_map]
 exact h2.imp fun hne e => hne (by unfold ent; exact congrArg MKey.lit e)
theorem rg_val {P : Program} {k : TypeId} {es : Array MapEntry} {clock : Nat} (F : Fit P k holdV es clock) {x : MapEntry} (hx : x ∈ es.toList) : ∃ kl, keyOf P k x.key = some kl ∧ rg P k holdV x = (kl, .held x.val) := by
 obtain ⟨y, hy⟩ := F.reads x hx
 refine ⟨y.1, rd_key hy, ?_⟩
 rw [rg_of hy]
 obtain ⟨z, hz, hd⟩ := rd_val hy
 have : z = (.held x.val, []) := by
  have : holdV x.val = some (.held x.val, []) := rfl
  rw [this] at hz
  exact (Option.some.inj hz).symm
 rw [this] at hd
 cases y
 simp at hd ⊢
 exact hd
theorem getK_mem {α : Type} {l : List (κ × α)} {x : κ} {v : α} (h : getK l x = some v) : (x, v) ∈ l := by
 unfold getK at h
 cases hf : l.find? (fun p => decide (p.1 = x)) with
 | none => simp [hf] at h
 | some p =>
  simp only [hf, Option.map_some, Option.some.injEq] at h
  have h1 := List.find?_some hf
  have h2 := List.mem_of_find?_eq_some hf
  simp at h1
  subst h1 h
  exact h2
theorem getK_of_mem {α : Type} {l : List (κ × α)} (hn : (l.map (·.1)).Nodup) {x : κ} {v : α} (h : (x, v) ∈ l) : getK l x = some v := by
 induction l with
 | nil => cases h
 | cons p l ih =>
  simp only [List.map_cons, List.nodup_cons] at hn
  unfold getK
  rw [List.find?_cons]
  rcases List.mem_cons.1 h with h | h
  ·subst h
   simp
  ·have hne : p.1 ≠ x := fun e => hn.1 (by rw [e]; exact List.mem_map.2 ⟨_, h, rfl⟩)
   simp only [hne, decide_false]
   exact ih hn.2 h
theorem getK_none {α : Type} {l : List (κ × α)} {x : κ} : getK l x = none ↔ ∀ p ∈ l, p.1 ≠ x := by
 unfold getK
 simp [List.find?_eq_none]

def mapA (P : Program) (k : TypeId) (b : Nat) (l : List (κ × Value)) : Atom :=
 ⟨fun _ h => ∃ es clock, h b = some (.map es clock) ∧ MapRep P k es clock l, fun _ s => s⟩
variable {P : Program} {k : TypeId} {W : Base} {g w w' : World} {l : List Atom} {b : Nat} {m : List (κ × Value)}
theorem SL.mapO (H : SL W g w (mapA P k b m :: l)) : ∃ es clock, MapRep P k es clock m ∧ SL W g w (obj b (.map es clock) :: l) := by
 obtain ⟨h, be, s, ow, h1, h2, ap, rfl, ⟨es, clock, e, r⟩, s2⟩ := H
 exact ⟨es, clock, r, _, be, s, ow, h1, h2, ap, rfl, e, s2⟩
theorem SL.mapI {es : Array MapEntry} {clock : Nat} (r : MapRep P k es clock m) (H : SL W g w (obj b (.map es clock) :: l)) : SL W g w (mapA P k b m :: l) := by
 obtain ⟨h, be, s, ow, h1, h2, ap, rfl, e, s2⟩ := H
 exact ⟨_, be, s, ow, h1, h2, ap, rfl, ⟨es, clock, e, r⟩, s2⟩
theorem SL.mapNew (H : SL W g w l) (n : New w b (.map #[] 0) w') : SL W g w' (mapA P k b ([] : List (κ × Value)) :: l) := by
 refine (H.new n).mapI ⟨?_, by simp⟩
 obtain ⟨es, clock, h1, h2, h3, h4⟩ := World.ownsMap_made w P k holdV
 have : (World.alloc w (.map #[] 0)).heap[w.heap.size]? = some (.map #[] 0) := heap_alloc_new w _
 rw [this] at h1
 cases h1
 exact h2
theorem SL.mapNodup (H : SL W g w (mapA P k b m :: l)) (K : KeyT P k κ) : (m.map (·.1)).Nodup := by
 obtain ⟨es, clock, r, _⟩ := H.mapO
 exact r.nodup K.keyed
theorem SL.mapLen_le (H : SL W g w (mapA P k b m :: l)) : m.length ≤ maxLen := by
 obtain ⟨es, clock, r, _⟩ := H.mapO
 rw [← r.size]; exact r.fit.size
theorem SL.mapLook (c : Bool) (H : SL W g w (mapA P k b m :: l)) (K : KeyT P k κ) {t e : TypeId} (ht : P.underlying t = some (.map k e)) {z : Value} (hz : (zeroValue e).run P w = .ok z w) (x : κ) (hx : MKey.ok x) :
  (Instr.lookup t (.map (some b)) (MKey.val x) c).run P w = .ok (if c then .tuple #[(getK m x).getD z, .bool (getK m x).isSome] else (getK m x).getD z) w := by
 obtain ⟨es, clock, r, H1⟩ := H.mapO
 have hb := H1.has 0
 have hn := r.nodup K.keyed
 rcases fit_look c K.keyed ht hz hb r.fit (K.of x hx) with ⟨hr, hno, _⟩ | ⟨e0, y, he, hke, hr, hy, _⟩
 ·have : getK m x = none := getK_none.2 fun p hp e => by
   have h1 : ent p ∈ es.toList.map (rg P k holdV) := r.perm.mem_iff.2 (List.mem_map.2 ⟨p, hp, rfl⟩)
   obtain ⟨q, hq, hqe⟩ := List.mem_map.1 h1
   obtain ⟨kl, hk, hrg⟩ := rg_val r.fit hq
   rw [hrg] at hqe
   have : kl = MKey.lit p.1 := congrArg Prod.fst hqe
   subst this
   rw [e] at hk
   exact hno q hq (K.inv _ _ hk).1
  rw [this]; exact hr
 ·have : getK m x = some e0.val := by
   refine getK_of_mem hn ?_
   obtain ⟨kl, hk, hrg⟩ := rg_val r.fit he
   have h1 : rg P k holdV e0 ∈ m.map ent := r.perm.mem_iff.1 (List.mem_map.2 ⟨e0, he, rfl⟩)
   obtain ⟨p, hp, hpe⟩ := List.mem_map.1 h1
   rw [hrg] at hpe
   have h2 : MKey.lit p.1 = kl := congrArg Prod.fst hpe
   have h3 : (DataW.held p.2 : DataW Value) = .held e0.val := congrArg Prod.snd hpe
   rw [hke, K.of x hx] at hk
   have h4 : p.1 = x := MKey.inj _ _ (h2.trans (Option.some.inj hk).symm)
   have h5 : p.2 = e0.val := DataW.held.inj h3
   rw [← h4, ← h5]; exact hp
  rw [this]; exact hr
theorem SL.mapPut (H : SL W g w (mapA P k b m :: l)) (K : KeyT P k κ) {t e : TypeId} (ht : P.underlying t = some (.map k e)) (hlen : m.length < maxLen) (x : κ) (hx : MKey.ok x) (v : Value) :
  ∃ w', (Instr.mapUpdate t (.map (some b)) (MKey.val x) v).run P w = .ok () w' ∧ SL W g w' (mapA P k b (putK m x v) :: l) := by
 obtain ⟨es, clock, r, H1⟩ := H.mapO
 have hb := H1.has 0
 obtain ⟨es', clock', hr, F', hput, _⟩ := fit_store (R' := holdV) K.keyed ht hb r.fit (by rw [r.size]; exact hlen) (fun _ _ _ _ hz => hz) (K.of x hx) (val := v) (yv := (.held v, [])) rfl
 refine ⟨_, hr, (H1.updO0 ⟨rfl, at_lt hb⟩).mapI ⟨F', ?_⟩⟩
 have h1 : (es'.toList.map (rg P k holdV)).Perm (putKey (MKey.lit x) (.held v) ((es.toList.map (rg P k holdV)).foldr DataW.insert [])) := by
  rw [← hput]; exact (sorted_perm _).symm
 refine h1.trans ?_
 have h2 : ∀ (p : Lit × DataW Value) (q : List (Lit × DataW Value)), (DataW.insert p q).Perm (p :: q) := fun p q => by
  induction q with
  | nil => exact List.Perm.refl _
  | cons a q ih =>
   unfold DataW.insert
   split
   ·exact List.Perm.refl _
   ·exact (List.Perm.cons a ih).trans (List.Perm.swap _ _ _)
 refine (h2 _ _).trans ?_
 unfold putK
 rw [List.map_cons]
 refine List.Perm.cons _ ?_
 rw [← ent_filter]
 exact ((sorted_perm _).trans r.perm).filter _
theorem SL.mapDel (H : SL W g w (mapA P k b m :: l)) (K : KeyT P k κ) {t e ty : TypeId} (ht : P.underlying t = some (.map k e)) (x : κ) (hx : MKey.ok x) :
  ∃ w', (Builtin.delete_ #[t, k] ty #[.map (some b), MKey.val x]).run P w = .ok (.tuple #[]) w' ∧ SL W g w' (mapA P k b (delK m x) :: l) := by
 obtain ⟨es, clock, r, H1⟩ := H.mapO
 have hb := H1.has 0
 obtain ⟨es', hr, F', hle, hdel, _⟩ := fit_drop (ty := ty) K.keyed ht hb r.fit (K.of x hx)
 refine ⟨_, hr, (H1.updO0 ⟨rfl, at_lt hb⟩).mapI ⟨F', ?_⟩⟩
 have h1 : (es'.toList.map (rg P k holdV)).Perm (delKey (MKey.lit x) ((es.toList.map (rg P k holdV)).foldr DataW.insert [])) := by
  rw [← hdel]; exact (sorted_perm _).symm
 refine h1.trans ?_
 rw [← ent_filter]
 exact ((sorted_perm _).trans r.perm).filter _
theorem SL.mapLen (H : SL W g w (mapA P k b m :: l)) {t e : TypeId} (ht : P.underlying t = some (.map k e)) (ty : TypeId) :
  (Builtin.len_ #[t] ty #[.map (some b)]).run P w = .ok (.int .i64 m.length) w := by
 obtain ⟨es, clock, r, H1⟩ := H.mapO
 have hb := H1.has 0
 rw [← r.size]
 simp [Builtin.len_, run_underlying ht, MapKept.run_getObj_map hb, goInt, Result.andThen]

theorem left_push {es : Array MapEntry} {clock : Nat} (F : Stamped es clock) {seen : Array Nat} {e : MapEntry} (he : e ∈ (leftOf es seen).toList) : (leftOf es seen).toList.Perm (e :: (leftOf es (seen.push e.born)).toList) := by
 have hst := (stamped_iff es clock).1 F
 have hem : e ∈ es.toList := (mem_left he).1
 have hes := (mem_left he).2
 have e1 : (leftOf es (seen.push e.born)).toList = (leftOf es seen).toList.filter (fun x => !(x.born == e.born)) := by
  unfold leftOf
  simp only [Array.toList_filter, List.filter_filter]
  apply List.filter_congr
  intro x _
  rw [contains_push]
  cases seen.contains x.born <;> cases (x.born == e.born) <;> rfl
 have e2 : ((leftOf es seen).toList.map (·.born)).Nodup := by
  have : (leftOf es seen).toList.Sublist es.toList := by
   unfold leftOf; simp only [Array.toList_filter]; exact List.filter_sublist
  exact (this.map _).nodup hst.2.1
 rw [e1]
 generalize (leftOf es seen).toList = L at he e2
 clear e1 hes
 induction L with
 | nil => cases he
 | cons x L ih =>
  simp only [List.map_cons, List.nodup_cons] at e2
  rcases List.mem_cons.1 he with h | h
  ·subst h
   rw [List.filter_cons]
   simp only [beq_self_eq_true, Bool.not_true, Bool.false_eq_true, if_false]
   refine List.Perm.cons _ ?_
   rw [List.filter_eq_self.2 fun y hy => ?_]
   have : y.born ≠ e.born := fun q => e2.1 (by rw [← q]; exact List.mem_map.2 ⟨y, hy, rfl⟩)
   simp [this]
  ·have : x.born ≠ e.born := fun q => e2.1 (by rw [q]; exact List.mem_map.2 ⟨e, h, rfl⟩)
   rw [List.filter_cons]
   simp only [this, Bool.not_eq_true', beq_eq_false_iff_ne, ne_eq, not_false_eq_true, if_true]
   exact (List.Perm.cons x (ih h e2.2)).trans (List.Perm.swap _ _ _)
end
end Go.Lm

/- Slices of the call's own as parts of what is owned. General: no program in sight. -/
namespace Go.Lm
open Go Go.RowKit

theorem append_whereN {P : Program} {w : World} (base : Nat) (t ty e : TypeId) (i : TypeInfo) (z : Value) (size bytes : Nat) (ht : P.underlying t = some (.slice e)) (hi : P.info? e = some i) (hz : i.zero = some z)
  (hsize : i.size = size) (hby : i.bytes = bytes) (v : Value) (n : Nat) (xs : List Value) (hown : w.ownsRow base e size v n xs)
  (a : Addr) (m c : Nat) (news : List Value) (hl : news.length = m * size) (hnews : ∀ j u, news[j]? = some u → w.cell? (a.add j) = some u) (h1 : ∀ u ∈ news, u.oneCell' = true)
  (h63 : n + m ≤ maxLen) (hbytes : (n + m) * bytes ≤ 140737488355328) {v' : Value} {w' : World} (hr : (Builtin.append_ #[t, t] ty #[v, .slice (some a) m c]).run P w = .ok v' w') :
  ∀ k, v'.ownBlock = some k → v.ownBlock = some k ∨ w.heap.size ≤ k := by
 subst hsize
 subst hby
 have hsmall : n + m ≤ 9223372036854775807 := by simp only [maxLen] at h63; omega
 rcases hown.2 with ⟨rfl, rfl⟩ | ⟨g, cap, cur, rfl, hbg, hg, hnc, hcm, hcs, htake⟩
 ·by_cases hm : m = 0
  ·subst hm
   have hrun : (Builtin.append_ #[t, t] ty #[.slice none 0 0, .slice (some a) 0 c]).run P w = .ok (.slice none 0 0) w := by
    simp [Builtin.append_, run_underlying ht, sizeOf, typeInfo, hi, Builtin.lenOf, Builtin.firstCells, loadCells, loadCellsFrom]
   rw [hrun] at hr
   cases hr
   intro k hk
   simp [Value.ownBlock] at hk
  ·rw [run_append_nil (P := P) w t ty e i z ht hi hz a m c news hl hnews (by omega) (by omega) (by have hb := hbytes; simp only [Nat.zero_add] at hb; omega)] at hr
   cases hr
   intro k hk
   have : w.heap.size = k := by simpa [Value.ownBlock] using hk
   exact .inr (by omega)
 ·by_cases hroom : n + m ≤ cap
  ·have hfit : n * i.size + news.length ≤ cur.size := by rw [hl, hcs, ← Nat.add_mul]; exact Nat.mul_le_mul_right _ hroom
   rw [run_append_room (P := P) w t ty e i ht hi g n cap cur hg a m c news hl hnews h1 hroom hfit] at hr
   cases hr
   exact fun k hk => .inl hk
  ·have holds : ∀ j u, xs[j]? = some u → w.cell? ((⟨g, 0, none⟩ : Addr).add j) = some u := hown.cells (g := g) rfl
   rw [run_append_grow (P := P) w t ty e i z ht hi hz ⟨g, 0, none⟩ n cap xs hown.1 holds a m c news hl hnews (by omega) (by omega) (growslice_fits (by omega) hbytes)] at hr
   cases hr
   intro k hk
   have : w.heap.size = k := by simpa [Value.ownBlock] using hk
   exact .inr (by omega)

theorem run_append_none_src {P : Program} (w : World) (t ty e : TypeId) (i : TypeInfo) (ht : P.underlying t = some (.slice e)) (hi : P.info? e = some i) {base : Nat} {v : Value} {n : Nat} {xs : List Value} (hown : w.ownsRow base e i.size v n xs) :
  (Builtin.append_ #[t, t] ty #[v, .slice none 0 0]).run P w = .ok v w := by
 rcases hown.2 with ⟨rfl, rfl⟩ | ⟨g, cap, cur, rfl, hbg, hg, hnc, hcm, hcs, htake⟩
 ·simp [Builtin.append_, run_underlying ht, sizeOf, typeInfo, hi, Builtin.lenOf, Builtin.firstCells]
 ·simp [Builtin.append_, run_underlying ht, sizeOf, typeInfo, hi, Builtin.lenOf, Builtin.firstCells, hnc, storeCells]

def rowA (e : TypeId) (size : Nat) (v : Value) (n : Nat) (xs : List Value) : Atom :=
 ⟨fun _ h => xs.length = n * size ∧ ((v = .slice none 0 0 ∧ n = 0) ∨
  ∃ k cap cur, v = .slice (some ⟨k, 0, none⟩) n cap ∧ h k = some (.cells cur e (0, 0)) ∧ n ≤ cap ∧ cap ≤ maxLen ∧ cur.size = cap * size ∧ cur.toList.take (n * size) = xs), fun _ s => s⟩
section
variable {W : Base} {g w w' : World} {l : List Atom} {e : TypeId} {size n : Nat} {v : Value} {xs : List Value}
theorem SL.row (H : SL W g w (rowA e size v n xs :: l)) : w.ownsRow W.n e size v n xs := by
 obtain ⟨h, be, s, ow, h1, h2, ap, rfl, ⟨hl, hv⟩, s2⟩ := H
 refine ⟨hl, ?_⟩
 rcases hv with hv | ⟨k, cap, cur, rfl, hk, r⟩
 ·exact .inl hv
 ·obtain ⟨o1, o2, o3⟩ := ow k _ (Hp.join_left hk)
  exact .inr ⟨k, cap, cur, rfl, o1, o2, r⟩
theorem SL.rowNil (e : TypeId) (size : Nat) (H : SL W g w l) : SL W g w (rowA e size (.slice none 0 0) 0 [] :: l) :=
 H.weak fun h s => ⟨fun _ => none, h, fun _ => .inl rfl, rfl, ⟨by simp, .inl ⟨rfl, rfl⟩⟩, s⟩
theorem SL.toRow {b cap : Nat} {cur : Array Value} (n : Nat) (H : SL W g w (Lm.blk b cur e :: l)) (hn : n ≤ cap) (hm : cap ≤ maxLen) (hs : cur.size = cap * size) :
  SL W g w (rowA e size (.slice (some ⟨b, 0, none⟩) n cap) n (cur.toList.take (n * size)) :: l) := H.weak fun _ ⟨h1, h2, ap, q, s1, s2⟩ =>
 ⟨h1, h2, ap, q, ⟨by
  have : n * size ≤ cap * size := Nat.mul_le_mul_right _ hn
  simp; omega, .inr ⟨b, cap, cur, rfl, s1, hn, hm, hs, rfl⟩⟩, s2⟩
theorem SL.ofRow (H : SL W g w (rowA e size v n xs :: l)) : (v = .slice none 0 0 ∧ n = 0 ∧ xs = [] ∧ SL W g w l) ∨
  ∃ k cap cur, v = .slice (some ⟨k, 0, none⟩) n cap ∧ n ≤ cap ∧ cap ≤ maxLen ∧ cur.size = cap * size ∧ cur.toList.take (n * size) = xs ∧ SL W g w (Lm.blk k cur e :: l) := by
 obtain ⟨h, be, s, ow, h1, h2, ap, rfl, ⟨hl, hv⟩, s2⟩ := H
 rcases hv with ⟨rfl, rfl⟩ | ⟨k, cap, cur, rfl, hk, r1, r2, r3, r4⟩
 ·refine .inl ⟨rfl, rfl, List.eq_nil_of_length_eq_zero (by simpa using hl), h2, be, s, fun k x hx => ow k x ?_, s2⟩
  rcases ap k with q | q
  ·rw [Hp.join_right q]; exact hx
  ·rw [q] at hx; cases hx
 ·exact .inr ⟨k, cap, cur, rfl, r1, r2, r3, r4, _, be, s, ow, h1, h2, ap, rfl, hk, s2⟩
theorem SL.grown {v' : Value} {n' : Nat} {xs' : List Value} (H : SL W g w (rowA e size v n xs :: l)) (ho : w'.ownsRow W.n e size v' n' xs') (hg : w.grownBy w' v.ownBlock)
  (hw : ∀ k, v'.ownBlock = some k → v.ownBlock = some k ∨ w.heap.size ≤ k) : SL W g w' (rowA e size v' n' xs' :: l) := by
 have hlt := H.row.lt
 obtain ⟨h, be, s, ow, h1, h2, ap, rfl, ⟨hl, hv⟩, s2⟩ := H
 have hb : Below W.n W.w w' := be.trans ((Below.refl _ w).grown hg be.size fun k hk => (hlt k hk).1)
 have hnot : ∀ k, v.ownBlock = some k → NotIn g k ∧ ∃ o, h1 k = some o := fun k hk => by
  rcases hv with ⟨rfl, _⟩ | ⟨k', cap, cur, rfl, hk', _⟩
  ·simp [Value.ownBlock] at hk
  ·have : k' = k := by simpa [Value.ownBlock] using hk
   subst this
   exact ⟨(ow k' _ (Hp.join_left hk')).2.2, _, hk'⟩
 have hs : SeesA W g w' := by
  refine ⟨⟨Nat.le_trans s.size hg.size, fun a x hx => ?_⟩, s.agr⟩
  have h1 := s.mono a x hx
  have hlt := World.block_lt_of_cell? w a h1
  have hne : some a.block ≠ v.ownBlock := fun q => by
   have := (hnot a.block q.symm).1 a rfl
   rw [this] at hx; cases hx
  rw [World.cell?_of_block (hg.block a.block hlt hne)]; exact h1
 have rest : ∀ k x, h2 k = some x → W.n ≤ k ∧ w'.heap[k]? = some x ∧ NotIn g k ∧ k < w.heap.size ∧ v.ownBlock ≠ some k := fun k x hx => by
  have h1k : h1 k = none := by
   rcases ap k with q | q
   ·exact q
   ·rw [q] at hx; cases hx
  obtain ⟨o1, o2, o3⟩ := ow k x (by rw [Hp.join_right h1k]; exact hx)
  have hne : v.ownBlock ≠ some k := fun q => by
   obtain ⟨_, o, ho⟩ := hnot k q
   rw [h1k] at ho; cases ho
  exact ⟨o1, by rw [hg.block k (at_lt o2) (Ne.symm hne)]; exact o2, o3, at_lt o2, hne⟩
 rcases ho.2 with ⟨rfl, rfl⟩ | ⟨k', cap', cur', rfl, hbk, hk', r⟩
 ·exact ⟨h2, hb, hs, fun k x hx => ⟨(rest k x hx).1, (rest k x hx).2.1, (rest k x hx).2.2.1⟩, fun _ => none, h2, fun _ => .inl rfl, rfl, ⟨ho.1, .inl ⟨rfl, rfl⟩⟩, s2⟩
 ·have hwk := hw k' rfl
  have h2k : h2 k' = none := by
   cases hq : h2 k' with
   | none => rfl
   | some x =>
    obtain ⟨_, _, _, q1, q2⟩ := rest k' x hq
    rcases hwk with z | z
    ·exact absurd z q2
    ·omega
  refine ⟨Hp.join (fun q => if q = k' then some (.cells cur' e (0, 0)) else none) h2, hb, hs, fun q x hq => ?_, _, h2, fun q => ?_, rfl, ⟨ho.1, .inr ⟨k', cap', cur', rfl, if_pos rfl, r⟩⟩, s2⟩
  ·by_cases eq : q = k'
   ·subst eq
    have : x = .cells cur' e (0, 0) := by unfold Hp.join at hq; simp at hq; exact hq.symm
    subst this
    refine ⟨hbk, hk', ?_⟩
    rcases hwk with z | z
    ·exact (hnot q z).1
    ·intro a ha
     cases hc : g.cell? a with
     | none => rfl
     | some x =>
      have h3 := World.block_lt_of_cell? g a hc
      have h4 := s.size
      omega
   ·have hq' : h2 q = some x := by unfold Hp.join at hq; simpa [eq] using hq
    obtain ⟨o1, o2, o3, _⟩ := rest q x hq'
    exact ⟨o1, o2, o3⟩
  ·by_cases eq : q = k'
   ·subst eq; exact .inr h2k
   ·left; simp [eq]
end

theorem RelL.length {α : Type} [GoRep α] {g : World} : ∀ {cs : List (List Value)} {xs : List α}, RelL g cs xs → cs.length = xs.length ∧ cs.flatten.length = xs.length * GoRep.size α
 | [], [], _ => ⟨rfl, by simp⟩
 | c :: cs, x :: xs, h => by
  obtain ⟨h1, h2⟩ := RelL.length h.2
  have h3 := GoRep.len h.1
  refine ⟨by simp [h1], ?_⟩
  rw [List.flatten_cons, List.length_append, h2, h3, List.length_cons, Nat.add_mul]; omega
theorem RelL.append {α : Type} [GoRep α] {g : World} : ∀ {cs ds : List (List Value)} {xs ys : List α}, RelL g cs xs → RelL g ds ys → RelL g (cs ++ ds) (xs ++ ys)
 | [], _, [], _, _, h => h
 | _ :: _, _, _ :: _, _, h, k => ⟨h.1, RelL.append h.2 k⟩
def slA {α : Type} [GoRep α] (e : TypeId) (v : Value) (xs : List α) : Atom :=
 ⟨fun g h => ∃ cs : List (List Value), RelL g cs xs ∧ (rowA e (GoRep.size α) v xs.length cs.flatten).sat g h, fun m ⟨cs, r, s⟩ => ⟨cs, r.mono m, s⟩⟩
section
variable {α : Type} [GoRep α] {W : Base} {g w w' : World} {l : List Atom} {e : TypeId} {v : Value} {xs : List α}
theorem SL.slO (H : SL W g w (slA e v xs :: l)) : ∃ cs : List (List Value), RelL g cs xs ∧ SL W g w (rowA e (GoRep.size α) v xs.length cs.flatten :: l) := by
 obtain ⟨h, be, s, ow, h1, h2, ap, rfl, ⟨cs, r, q⟩, s2⟩ := H
 exact ⟨cs, r, _, be, s, ow, h1, h2, ap, rfl, q, s2⟩
theorem SL.slI {cs : List (List Value)} (r : RelL g cs xs) (H : SL W g w (rowA e (GoRep.size α) v xs.length cs.flatten :: l)) : SL W g w (slA e v xs :: l) :=
 H.weak fun _ ⟨h1, h2, ap, q, s1, s2⟩ => ⟨h1, h2, ap, q, ⟨cs, r, s1⟩, s2⟩
theorem SL.slNil (α : Type) [GoRep α] (e : TypeId) (H : SL W g w l) : SL W g w (slA (α := α) e (.slice none 0 0) [] :: l) := (H.rowNil e (GoRep.size α)).slI (cs := []) trivial
theorem SL.slOwns (H : SL W g w (slA e v xs :: l)) : OwnsL g w W.n e v xs := by
 obtain ⟨cs, r, H1⟩ := H.slO
 exact ⟨cs, r, H1.row⟩
theorem SL.slIs0 (H : SL W g w (slA e v xs :: l)) : Is w v xs := H.slOwns.is H.m fun _ _ => rfl
theorem SL.slIs (i : Nat) (H : SL W g w l) (q : nthA l i = some (slA e v xs) := by exact rfl) : Is w v xs := (H.pick i q).slIs0
theorem SL.slHold0 (H : SL W g w (slA e v xs :: l)) : ∃ g', Mono g g' ∧ SL W g' w l ∧ Is g' v xs := by
 have ho := H.slOwns
 obtain ⟨cs, r, H1⟩ := H.slO
 rcases H1.ofRow with ⟨rfl, hn, hx, H2⟩ | ⟨k, cap, cur, rfl, h1, h2, h3, h4, H2⟩
 ·refine ⟨g, Mono.refl g, H2, ?_⟩
  have : xs = [] := List.eq_nil_of_length_eq_zero hn
  subst this
  exact is_nil g
 ·obtain ⟨g', m, H3, hc⟩ := H2.hold0
  refine ⟨g', m, H3, is_list.2 (.inr ⟨⟨k, 0, none⟩, cap, rfl, h1, h2, fun i x hx => ?_⟩)⟩
  obtain ⟨c, hr, hcc⟩ := r.get i x hx
  refine ⟨c, fun j v hj => ?_, GoRep.mono m hr⟩
  rw [Addr.add_mid, hc]
  have h5 := hcc j v hj
  rw [← h4, List.getElem?_take] at h5
  split at h5
  ·simpa using h5
  ·cases h5
theorem cells_of_is {ys : List α} {a : Addr} {n c : Nat} (h : Is w (.slice (some a) n c) ys) : n = ys.length ∧ ∃ ds : List (List Value), RelL w ds ys ∧ ∀ j u, ds.flatten[j]? = some u → w.cell? (a.add j) = some u := by
 rcases is_list.1 h with ⟨h, _⟩ | ⟨a', cap, h, _, _, h3⟩
 ·cases h
 ·cases h
  refine ⟨rfl, ?_⟩
  clear h
  have key : ∀ (ys : List α) (a : Addr), (∀ (i : Nat) (x : α), ys[i]? = some x → ∃ cs : List Value, (∀ (j : Nat) (c : Value), cs[j]? = some c → w.cell? (a.add (i * GoRep.size α + j)) = some c) ∧ GoRep.rel w cs x) →
    ∃ ds : List (List Value), RelL w ds ys ∧ ∀ j u, ds.flatten[j]? = some u → w.cell? (a.add j) = some u := by
   intro ys
   induction ys with
   | nil => exact fun _ _ => ⟨[], trivial, fun j u h => by simp at h⟩
   | cons y ys ih =>
    intro a h
    obtain ⟨c, h1, h2⟩ := h 0 y rfl
    have hl := GoRep.len h2
    obtain ⟨ds, h4, h5⟩ := ih (a.add (GoRep.size α)) fun i x hx => by
     obtain ⟨cs, q1, q2⟩ := h (i + 1) x (by simpa using hx)
     refine ⟨cs, fun j c hj => ?_, q2⟩
     have := q1 j c hj
     rw [Go.Deep.add_add, ← this]
     congr 2
     rw [Nat.add_mul]; omega
    refine ⟨c :: ds, ⟨h2, h4⟩, fun j u hj => ?_⟩
    rw [List.flatten_cons] at hj
    by_cases hjl : j < c.length
    ·rw [List.getElem?_append_left hjl] at hj
     have := h1 j u hj
     rw [← this]
     congr 2
     omega
    ·rw [List.getElem?_append_right (by omega)] at hj
     have := h5 _ u hj
     rw [Go.Deep.add_add] at this
     rw [← this]
     congr 2
     omega
  exact key ys a h3
theorem cells_of_is_at {ys : List α} {a : Addr} {n c : Nat} {g w : World} (h : Is g (.slice (some a) n c) ys) (m : Mono g w) : n = ys.length ∧ ∃ ds : List (List Value), RelL g ds ys ∧ ∀ j u, ds.flatten[j]? = some u → w.cell? (a.add j) = some u := by
 obtain ⟨h1, ds, h2, h3⟩ := cells_of_is h
 exact ⟨h1, ds, h2, fun j u hj => m _ _ (h3 j u hj)⟩
class OneCells (α : Type) [GoRep α] : Prop where
 one : ∀ {g : World} {cs : List Value} {x : α}, GoRep.rel g cs x → ∀ u ∈ cs, u.oneCell' = true
theorem RelL.one [OneCells α] {g : World} : ∀ {cs : List (List Value)} {xs : List α}, RelL g cs xs → ∀ u ∈ cs.flatten, u.oneCell' = true
 | [], [], _, u, h => by simp at h
 | c :: cs, x :: xs, h, u, hu => by
  rw [List.flatten_cons, List.mem_append] at hu
  rcases hu with hu | hu
  ·exact OneCells.one h.1 u hu
  ·exact RelL.one h.2 u hu
instance : OneCells Int := ⟨fun h u hu => by rw [h.1] at hu; simp at hu; rw [hu]; rfl⟩
instance : OneCells Bool := ⟨fun h u hu => by rw [show _ = _ from h] at hu; simp at hu; rw [hu]; rfl⟩
instance : OneCells UInt8 := ⟨fun h u hu => by rw [show _ = _ from h] at hu; simp at hu; rw [hu]; rfl⟩
instance : OneCells ByteArray := ⟨fun h u hu => by rw [h.1] at hu; simp at hu; rw [hu]; rfl⟩
instance : OneCells (List α) := ⟨fun h u hu => by
 obtain ⟨v, rfl, hv⟩ := h
 simp at hu
 subst hu
 rcases hv with ⟨rfl, _⟩ | ⟨a, cap, rfl, _⟩ <;> rfl⟩
def Rd {α : Type} [GoRep α] (g w : World) (y : Value) (ys : List α) : Prop :=
 (y = .slice none 0 0 ∧ ys = []) ∨ ∃ a c, y = .slice (some a) ys.length c ∧ ys.length ≤ c ∧ c ≤ maxLen ∧ ∃ ds : List (List Value), RelL g ds ys ∧ ∀ j u, ds.flatten[j]? = some u → w.cell? (a.add j) = some u
theorem Is.rd {y : Value} {ys : List α} (h : Is g y ys) (m : Mono g w) : Rd g w y ys := by
 rcases is_list.1 h with ⟨rfl, rfl⟩ | ⟨a, cap, rfl, h1, h2, _⟩
 ·exact .inl ⟨rfl, rfl⟩
 ·obtain ⟨_, ds, h3, h4⟩ := cells_of_is_at h m
  exact .inr ⟨a, cap, rfl, h1, h2, ds, h3, h4⟩
theorem SL.slRd0 (H : SL W g w (slA e v xs :: l)) : Rd g w v xs := by
 obtain ⟨cs, r, H1⟩ := H.slO
 have hrow := H1.row
 rcases hrow.2 with ⟨rfl, h0⟩ | ⟨k, cap, cur, rfl, _, _, h1, h2, _⟩
 ·exact .inl ⟨rfl, List.eq_nil_of_length_eq_zero h0⟩
 ·exact .inr ⟨⟨k, 0, none⟩, cap, rfl, h1, h2, cs, r, hrow.cells (g := k) rfl⟩
theorem RelL.part {g : World} : ∀ {cs : List (List Value)} {xs : List α} (i n : Nat), RelL g cs xs → RelL g ((cs.drop i).take n) ((xs.drop i).take n)
 | cs, xs, 0, 0, _ => by simp [RelL]
 | [], [], 0, _ + 1, _ => trivial
 | _ :: _, _ :: _, 0, n + 1, h => ⟨h.1, by simpa using RelL.part 0 n h.2⟩
 | [], [], i + 1, n, h => by simp [RelL]
 | _ :: cs, _ :: xs, i + 1, n, h => by simpa using RelL.part i n h.2
theorem RelL.dropLen {g : World} : ∀ {cs : List (List Value)} {xs : List α} (i : Nat), RelL g cs xs → i ≤ xs.length → (cs.take i).flatten.length = i * GoRep.size α
 | _, _, 0, _, _ => by simp
 | [], [], i + 1, _, hi => by simp at hi
 | c :: cs, x :: xs, i + 1, h, hi => by
  have := RelL.dropLen i h.2 (by simpa using hi)
  simp only [List.take_succ_cons, List.flatten_cons, List.length_append, this, GoRep.len h.1, Nat.add_mul]; omega
theorem Rd.slice {y : Value} {ys : List α} {a b : Int} (h : Rd g w y ys) (ha : 0 ≤ a) (hab : a ≤ b) (hb : b ≤ ys.length) :
  Rd g w (sliceV (GoRep.size α) y a b) ((ys.drop a.toNat).take (b.toNat - a.toNat)) := by
 rcases h with ⟨rfl, rfl⟩ | ⟨ad, c, rfl, h1, h2, ds, h3, h4⟩
 ·left
  simp at hb
  have h1 : b = 0 := by omega
  have h2 : a = 0 := by omega
  subst h1 h2
  exact ⟨rfl, rfl⟩
 ·have hlen : ((ys.drop a.toNat).take (b.toNat - a.toNat)).length = b.toNat - a.toNat := by simp; omega
  refine .inr ⟨if c = a.toNat then ad else ad.add (a.toNat * GoRep.size α), c - a.toNat, ?_, by rw [hlen]; omega, by omega, (ds.drop a.toNat).take (b.toNat - a.toNat), h3.part _ _, fun j u hj => ?_⟩
  ·rw [hlen]; unfold sliceV; simp only [Option.map_some]; split <;> rfl
  ·by_cases he : b.toNat - a.toNat = 0
   ·rw [he] at hj; simp at hj
   ·rw [if_neg (by omega), Go.Deep.add_add]
    refine h4 _ u ?_
    have e1 : ds = ds.take a.toNat ++ ((ds.drop a.toNat).take (b.toNat - a.toNat) ++ (ds.drop a.toNat).drop (b.toNat - a.toNat)) := by rw [List.take_append_drop, List.take_append_drop]
    rw [e1, List.flatten_append, List.flatten_append, List.getElem?_append_right (by rw [h3.dropLen a.toNat (by omega)]; omega), h3.dropLen a.toNat (by omega)]
    rw [List.getElem?_append_left (by
     have := (List.getElem?_eq_some_iff.1 hj).1
     omega)]
    rw [show a.toNat * GoRep.size α + j - a.toNat * GoRep.size α = j by omega]
    exact hj
theorem SL.append {P : Program} {t ty : TypeId} {bytes : Nat} [OneCells α] (H : SL W g w (slA e v xs :: l)) {y : Value} {ys : List α} (hy : Rd g w y ys)
  (ht : P.underlying t = some (.slice e)) (hi : (P.info? e).map (fun i => (i.size, i.bytes, i.zero.isSome)) = some (GoRep.size α, bytes, true)) (hz : ((P.info? e).bind (·.zero)).map (·.cells.size) = some (GoRep.size α)) (hpos : 0 < GoRep.size α)
  (hlen : (xs.length + ys.length) * bytes ≤ 140737488355328) (hmax : xs.length + ys.length ≤ 9223372036854775807) :
  ∃ v' w', (Builtin.append_ #[t, t] ty #[v, y]).run P w = .ok v' w' ∧ SL W g w' (slA e v' (xs ++ ys) :: l) ∧ (v' = .slice none 0 0 → v = .slice none 0 0 ∧ ys = []) := by
 cases hq : P.info? e with
 | none => simp [hq] at hi
 | some i =>
  simp only [hq, Option.map_some, Option.some.injEq, Prod.mk.injEq, Option.bind_some] at hi hz
  obtain ⟨hs, hby, hzz⟩ := hi
  cases hz' : i.zero with
  | none => simp [hz'] at hzz
  | some z =>
   simp only [hz', Option.map_some, Option.some.injEq] at hz
   obtain ⟨cs, hrel, H1⟩ := H.slO
   have hrow := H1.row
   have H2 := H
   rcases hy with ⟨rfl, rfl⟩ | ⟨a, cap, rfl, hcap, hcm, ds, hds, hcell⟩
   ·have hrun := run_append_none_src (P := P) w t ty e i ht hq (base := W.n) (v := v) (n := xs.length) (xs := cs.flatten) (by rw [hs]; exact hrow)
    exact ⟨v, w, hrun, by simpa using H2, fun q => ⟨q, rfl⟩⟩
   ·have hlen2 := (RelL.length hds).2
    obtain ⟨v', w', hrun, hown', hgrow, hnil⟩ := run_append_own (P := P) w W.n t ty e i z (GoRep.size α) bytes ht hq hz' hs hby hz hpos v xs.length cs.flatten hrow a ys.length cap ds.flatten hlen2
     hcell (RelL.one hds) (by unfold maxLen; omega) hlen H.size
    have hwhere := append_whereN (P := P) W.n t ty e i z (GoRep.size α) bytes ht hq hz' hs hby v xs.length cs.flatten hrow a ys.length cap ds.flatten hlen2 hcell (RelL.one hds) (by unfold maxLen; omega) hlen hrun
    refine ⟨v', w', hrun, ?_, fun q => ⟨(hnil.1 q).1, List.eq_nil_of_length_eq_zero (hnil.1 q).2⟩⟩
    refine SL.slI (cs := cs ++ ds) (hrel.append hds) ?_
    have e1 : (cs ++ ds).flatten = cs.flatten ++ ds.flatten := by simp
    rw [e1, List.length_append]
    exact H1.grown hown' hgrow hwhere
end
end Go.Lm

namespace Go.Lm
open Go Go.RowKit
theorem cells_slice1 {P : Program} {w : World} {r : Reach} {base : Nat} {t e : TypeId} {v : Value} (ht : P.underlying t = some (.slice e)) (h : Value.okWide P w r base t v) : v.cells = #[v] := by
 obtain ⟨a, l, c, rfl⟩ := WideShapes.okWide_slice ht h; rfl
end Go.Lm
namespace Go.Lm
open Go Go.RowKit
end Go.Lm

/- A region whose order is open, but for its last operations: these wait for all that stand ahead of them. General: no program in sight. -/
namespace Go.Lm
open Go Go.RowKit
section
variable {P : Program}
end
end Go.Lm

/- Further steps of walks over what is owned. General: no program in sight. -/
namespace Go.Lm
open Go Go.RowKit
section
variable {P : Program}
theorem X_len_nilmap {ρ : Operand → Value} {w : World} {o : Oper} {x : Operand} {t k e : TypeId} (ho : o.op = .call { callee := .builtin .len, args := #[x], argTypes := #[t] }) (ht : P.underlying t = some (.map k e)) (hx : ρ x = .map none) :
  (execOp ρ o).run P w = .ok (.value (.int .i64 0)) w := by
 simp [execOp, ho, resolve, invoke, builtin, hx, Maps.len_nil ht]
end
end Go.Lm

/- Maps that can be read (nil ones too), and the loop over one that does not turn. General: no program in sight. -/
namespace Go.Lm
open Go Go.RowKit Go.Maps Go.ChangeMaps
open Go.WideElems (Fit rd rg pl rd_key rd_val rg_of)
open Go.WideShapes (sorted_perm)
open Go.MapKept
section
variable {κ : Type} [MKey κ] {P : Program} {k : TypeId}
def MapO (P : Program) (k : TypeId) (w : World) (v : Value) (ob : Array MapEntry × Nat) (m : List (κ × Value)) : Prop :=
 (v = .map none ∧ m = []) ∨ ∃ b, v = .map (some b) ∧ w.heap[b]? = some (.map ob.1 ob.2) ∧ MapRep P k ob.1 ob.2 m
def MapV (P : Program) (k : TypeId) (w : World) (v : Value) (m : List (κ × Value)) : Prop := ∃ ob, MapO P k w v ob m
variable {w w' : World} {v : Value} {ob : Array MapEntry × Nat} {m : List (κ × Value)}
theorem MapV.len_le (h : MapV P k w v m) : m.length ≤ maxLen := by
 obtain ⟨ob, h | ⟨b, _, _, h⟩⟩ := h
 ·rw [h.2]; simp
 ·rw [← h.size]; exact h.fit.size
theorem MapV.len {t e : TypeId} (h : MapV P k w v m) (ht : P.underlying t = some (.map k e)) (ty : TypeId) : (Builtin.len_ #[t] ty #[v]).run P w = .ok (.int .i64 m.length) w := by
 obtain ⟨ob, ⟨rfl, rfl⟩ | ⟨b, rfl, hb, r⟩⟩ := h
 ·rw [Maps.len_nil ht]; rfl
 ·rw [← r.size]
  simp [Builtin.len_, run_underlying ht, MapKept.run_getObj_map hb, goInt, Result.andThen]
theorem MapV.look (c : Bool) (h : MapV P k w v m) (K : KeyT P k κ) {t e : TypeId} (ht : P.underlying t = some (.map k e)) {z : Value} (hz : (zeroValue e).run P w = .ok z w) (x : κ) (hx : MKey.ok x) :
  (Instr.lookup t v (MKey.val x) c).run P w = .ok (if c then .tuple #[(getK m x).getD z, .bool (getK m x).isSome] else (getK m x).getD z) w := by
 obtain ⟨ob, ⟨rfl, rfl⟩ | ⟨b, rfl, hb, r⟩⟩ := h
 ·have := Maps.look_nil c K.keyed ht hz (K.of x hx)
  exact this
 ·have hn := r.nodup K.keyed
  rcases fit_look c K.keyed ht hz hb r.fit (K.of x hx) with ⟨hr, hno, _⟩ | ⟨e0, y, he, hke, hr, hy, _⟩
  ·have : getK m x = none := getK_none.2 fun p hp e => by
    have h1 : ent p ∈ ob.1.toList.map (rg P k holdV) := r.perm.mem_iff.2 (List.mem_map.2 ⟨p, hp, rfl⟩)
    obtain ⟨q, hq, hqe⟩ := List.mem_map.1 h1
    obtain ⟨kl, hk, hrg⟩ := rg_val r.fit hq
    rw [hrg] at hqe
    have : kl = MKey.lit p.1 := congrArg Prod.fst hqe
    subst this
    rw [e] at hk
    exact hno q hq (K.inv _ _ hk).1
   rw [this]; exact hr
  ·have : getK m x = some e0.val := by
    refine getK_of_mem hn ?_
    obtain ⟨kl, hk, hrg⟩ := rg_val r.fit he
    have h1 : rg P k holdV e0 ∈ m.map ent := r.perm.mem_iff.1 (List.mem_map.2 ⟨e0, he, rfl⟩)
    obtain ⟨p, hp, hpe⟩ := List.mem_map.1 h1
    rw [hrg] at hpe
    have h2 : MKey.lit p.1 = kl := congrArg Prod.fst hpe
    have h3 : (DataW.held p.2 : DataW Value) = .held e0.val := congrArg Prod.snd hpe
    rw [hke, K.of x hx] at hk
    have h4 : p.1 = x := MKey.inj _ _ (h2.trans (Option.some.inj hk).symm)
    have h5 : p.2 = e0.val := DataW.held.inj h3
    rw [← h4, ← h5]; exact hp
   rw [this]; exact hr
def mapVA (P : Program) (k : TypeId) (v : Value) (m : List (κ × Value)) : Atom :=
 ⟨fun _ h => (v = .map none ∧ m = []) ∨ ∃ b es clock, v = .map (some b) ∧ h b = some (.map es clock) ∧ MapRep P k es clock m, fun _ s => s⟩
variable {W : Base} {g : World} {l : List Atom}
theorem SL.mapVO (H : SL W g w (mapVA P k v m :: l)) : (v = .map none ∧ m = [] ∧ SL W g w l) ∨ ∃ b, v = .map (some b) ∧ SL W g w (mapA P k b m :: l) := by
 have Hd := H.drop
 obtain ⟨h, be, s, ow, h1, h2, ap, rfl, q, s2⟩ := H
 rcases q with ⟨rfl, rfl⟩ | ⟨b, es, clock, rfl, hb, r⟩
 ·exact .inl ⟨rfl, rfl, Hd⟩
 ·exact .inr ⟨b, rfl, _, be, s, ow, h1, h2, ap, rfl, ⟨es, clock, hb, r⟩, s2⟩
theorem SL.mapVI {b : Nat} (H : SL W g w (mapA P k b m :: l)) : SL W g w (mapVA P k (.map (some b)) m :: l) :=
 H.weak fun _ ⟨h1, h2, ap, e, ⟨es, clock, hb, r⟩, s2⟩ => ⟨h1, h2, ap, e, .inr ⟨b, es, clock, rfl, hb, r⟩, s2⟩
theorem SL.mapR {b : Nat} (H : SL W g w (mapA P k b m :: l)) : MapV P k w (.map (some b)) m := by
 obtain ⟨es, clock, r, H1⟩ := H.mapO
 exact ⟨(es, clock), .inr ⟨b, rfl, H1.has 0, r⟩⟩
theorem SL.mapVR (H : SL W g w (mapVA P k v m :: l)) : MapV P k w v m := by
 rcases H.mapVO with ⟨rfl, rfl, _⟩ | ⟨b, rfl, H1⟩
 ·exact ⟨(#[], 0), .inl ⟨rfl, rfl⟩⟩
 ·exact H1.mapR
def iterA (P : Program) (k : TypeId) (v : Value) (ob : Array MapEntry × Nat) (r : Nat) (left : List (κ × Value)) : Atom :=
 ⟨fun _ h => (v = .map none ∧ left = [] ∧ ∃ a s c, h r = some (.mapIter none a s c)) ∨
  ∃ b since seen c0, v = .map (some b) ∧ h r = some (.mapIter (some b) since seen c0) ∧ (∀ x ∈ ob.1.toList, x.born < since) ∧ since ≤ c0 ∧ since ≤ ob.2 ∧ ((leftOf ob.1 seen).toList.map (rg P k holdV)).Perm (left.map ent), fun _ s => s⟩
theorem run_range {t e : TypeId} (h : MapO P k w v ob m) (ht : P.underlying t = some (.map k e)) :
  ∃ o, (Instr.range t v).run P w = .ok (.pointer (some ⟨w.heap.size, 0, none⟩)) (w.alloc o) ∧ ∀ {W : Base} {g : World} {l : List Atom}, SL W g w l → SL W g (w.alloc o) (iterA P k v ob w.heap.size m :: l) := by
 rcases h with ⟨rfl, rfl⟩ | ⟨b, rfl, hb, r⟩
 ·refine ⟨_, run_range_nilMap w t k e ht, fun H => ?_⟩
  exact (H.new (New.mk' w _)).weak fun _ ⟨h1, h2, ap, e, s1, s2⟩ => ⟨h1, h2, ap, e, .inl ⟨rfl, rfl, _, _, _, s1⟩, s2⟩
 ·refine ⟨_, run_range_map w t k e b ob.1 ob.2 ht hb, fun H => ?_⟩
  refine (H.new (New.mk' w _)).weak fun _ ⟨h1, h2, ap, e, s1, s2⟩ => ⟨h1, h2, ap, e, .inr ⟨b, ob.2, #[], ob.2, rfl, s1, r.fit.stamped.1, Nat.le_refl _, Nat.le_refl _, ?_⟩, s2⟩
  have : (leftOf ob.1 #[]).toList = ob.1.toList := by simp [leftOf]
  rw [this]; exact r.perm
theorem run_next_nil {w : World} {r a c : Nat} {s : Array Nat} (ty : TypeId) (hr : w.heap[r]? = some (.mapIter none a s c)) : (Instr.next (.pointer (some ⟨r, 0, none⟩)) false ty).run P w = .ok (.tuple #[.bool false]) w := by
 simp only [Instr.next, getObj, Sem.run_bind, Sem.run, hr, Result.andThen]
 rfl
theorem X_lookup {ρ : Operand → Value} {o : Oper} {x y : Operand} {t : TypeId} {c : Bool} {mv kv r : Value} (ho : o.op = .lookup t x y c) (hx : ρ x = mv) (hy : ρ y = kv) (h : (Instr.lookup t mv kv c).run P w = .ok r w) :
  (execOp ρ o).run P w = .ok (.value r) w := by
 simp [execOp, ho, hx, hy, h]
theorem X_len_map {ρ : Operand → Value} {o : Oper} {x : Operand} {t e : TypeId} {n : Nat} (h : MapV P k w v m) (hn : m.length = n) (ho : o.op = .call { callee := .builtin .len, args := #[x], argTypes := #[t] }) (ht : P.underlying t = some (.map k e)) (hx : ρ x = v) :
  (execOp ρ o).run P w = .ok (.value (.int .i64 n)) w := by
 simp [execOp, ho, resolve, invoke, builtin, hx, h.len ht, hn]
theorem X_makeMap {ρ : Operand → Value} {o : Oper} {t : TypeId} (ho : o.op = .makeMap t none) : (execOp ρ o).run P w = .ok (.value (.map (some w.heap.size))) (w.alloc (.map #[] 0)) := by
 simp [execOp, ho, Instr.makeMap, go_sem]
theorem X_mapUpdate {ρ : Operand → Value} {o : Oper} {x y z : Operand} {t : TypeId} {mv kv vv : Value} {w' : World} (ho : o.op = .mapUpdate t x y z) (hx : ρ x = mv) (hy : ρ y = kv) (hz : ρ z = vv) (h : (Instr.mapUpdate t mv kv vv).run P w = .ok () w') :
  (execOp ρ o).run P w = .ok .skip w' := by
 simp [execOp, ho, hx, hy, hz, h]
theorem X_delete {ρ : Operand → Value} {o : Oper} {x y : Operand} {t k : TypeId} {mv kv : Value} {w' : World} (ho : o.op = .call { callee := .builtin .delete, args := #[x, y], argTypes := #[t, k] }) (hx : ρ x = mv) (hy : ρ y = kv) (h : (Builtin.delete_ #[t, k] o.type #[mv, kv]).run P w = .ok (.tuple #[]) w') :
  (execOp ρ o).run P w = .ok (.value (.tuple #[])) w' := by
 simp [execOp, ho, resolve, invoke, builtin, hx, hy, h]
end
end Go.Lm

/- The loop over a map, with the entry that it is at. General: no program in sight. -/
namespace Go.Lm
open Go Go.RowKit Go.Maps Go.ChangeMaps
open Go.WideElems (Fit rd rg pl rd_key rd_val rg_of)
open Go.WideShapes (sorted_perm)
open Go.MapKept
section
variable {κ : Type} [MKey κ] {P : Program} {k : TypeId} {W : Base} {g w : World} {l : List Atom} {v : Value} {ob : Array MapEntry × Nat} {m : List (κ × Value)}
def iterC (P : Program) (k : TypeId) (v : Value) (ob : Array MapEntry × Nat) (r : Nat) (left : List (κ × Value)) (cur : Option (κ × Value)) : Atom :=
 ⟨fun g h => (iterA P k v ob r left).sat g h ∧ ∀ x y, cur = some (x, y) → ∃ b since seen e, v = .map (some b) ∧ h r = some (.mapIter (some b) since (Array.push seen (MapEntry.born e)) ob.2) ∧ e ∈ ob.1.toList ∧ e.key = MKey.val x ∧ e.val = y, fun mm s => ⟨(iterA P k v ob r left).mono mm s.1, s.2⟩⟩
theorem SL.iterCA {r : Nat} {left : List (κ × Value)} {cur : Option (κ × Value)} (H : SL W g w (iterC P k v ob r left cur :: l)) : SL W g w (iterA P k v ob r left :: l) := H.weak fun _ ⟨h1, h2, ap, e, s1, s2⟩ => ⟨h1, h2, ap, e, s1.1, s2⟩
theorem SL.iterC0 {r : Nat} {left : List (κ × Value)} (H : SL W g w (iterA P k v ob r left :: l)) : SL W g w (iterC P k v ob r left none :: l) := H.weak fun _ ⟨h1, h2, ap, e, s1, s2⟩ => ⟨h1, h2, ap, e, ⟨s1, fun _ _ h => by cases h⟩, s2⟩
theorem SL.iterEntry {r : Nat} {left : List (κ × Value)} {x : κ} {y : Value} (H : SL W g w (iterC P k v ob r left (some (x, y)) :: l)) (hm : MapO P k w v ob m) : (Instr.entry (.pointer (some ⟨r, 0, none⟩))).run P w = .ok (.tuple #[MKey.val x, y]) w := by
 obtain ⟨h, be, s, ow, h1, h2, ap, rfl, ⟨_, q⟩, s2⟩ := H
 obtain ⟨b, since, seen, e, hv, hr, hem, hk, hy⟩ := q x y rfl
 rcases hm with ⟨hm, _⟩ | ⟨b', hm, hbw, rep⟩
 ·rw [hv] at hm; cases hm
 have : b = b' := by rw [hv] at hm; cases hm; rfl
 subst this
 have hrw := (ow r _ (Hp.join_left hr)).2.1
 obtain ⟨es, clock⟩ := ob
 rw [← hk, ← hy]
 exact run_entry_at _ r b since seen es clock e hrw hbw hem ((stamped_iff es clock).1 rep.fit.stamped).2.1
theorem SL.iterEntry2 {r : Nat} {left : List (κ × Value)} {x : κ} {y : Value} (H : SL W g w (iterC P k v ob r left (some (x, y)) :: l)) (hm : MapO P k w v ob m) (K : KeyT P k κ) (hinj : ∀ a b : κ, MKey.val a = MKey.val b → a = b) : MKey.ok x ∧ (x, y) ∈ m := by
 obtain ⟨h, be, s, ow, h1, h2, ap, rfl, ⟨_, q⟩, s2⟩ := H
 obtain ⟨b, since, seen, e, hv, hr, hem, hk, hy⟩ := q x y rfl
 rcases hm with ⟨hm, _⟩ | ⟨b', hm, hbw, rep⟩
 ·rw [hv] at hm; cases hm
 obtain ⟨kl, hkl, hrg⟩ := rg_val rep.fit hem
 have hin2 : rg P k holdV e ∈ m.map ent := rep.perm.mem_iff.1 (List.mem_map.2 ⟨e, hem, rfl⟩)
 obtain ⟨p2, hp2, hpe3⟩ := List.mem_map.1 hin2
 rw [hrg] at hpe3
 have q1 : MKey.lit p2.1 = kl := congrArg Prod.fst hpe3
 have q2 : (DataW.held p2.2 : DataW Value) = .held e.val := congrArg Prod.snd hpe3
 subst q1
 obtain ⟨hkv, hok⟩ := K.inv _ _ hkl
 have q4 := DataW.held.inj q2
 have hx : p2.1 = x := hinj _ _ (hkv.symm.trans hk)
 subst hx
 rw [← hy, ← q4]
 exact ⟨hok, hp2⟩
theorem iterC_perm {r : Nat} {left left' : List (κ × Value)} {cur : Option (κ × Value)} {h : Hp} (p : left.Perm left') (s : (iterC P k v ob r left cur).sat g h) : (iterC P k v ob r left' cur).sat g h := by
 refine ⟨?_, s.2⟩
 rcases s.1 with ⟨h1, h2, h3⟩ | ⟨b, since, seen, c0, h1, h2, h3, h4, h5, h6⟩
 ·exact .inl ⟨h1, by rw [h2] at p; exact p.symm.eq_nil, h3⟩
 ·exact .inr ⟨b, since, seen, c0, h1, h2, h3, h4, h5, h6.trans (p.map ent)⟩
theorem SL.iterNext2 {r : Nat} {left : List (κ × Value)} {cur : Option (κ × Value)} (H0 : SL W g w (iterC P k v ob r left cur :: l)) (hm : MapO P k w v ob m) (K : KeyT P k κ) (ty : TypeId) :
  (left = [] ∧ (Instr.next (.pointer (some ⟨r, 0, none⟩)) false ty).run P w = .ok (.tuple #[.bool false]) w) ∨
  ∃ x y left' w', left.Perm ((x, y) :: left') ∧ MKey.ok x ∧ (x, y) ∈ m ∧ (Instr.next (.pointer (some ⟨r, 0, none⟩)) false ty).run P w = .ok (.tuple #[.bool true, MKey.val x, y]) w' ∧ SL W g w' (iterC P k v ob r left' (some (x, y)) :: l) := by
 have H := H0.iterCA
 obtain ⟨h, be, s, ow, h1, h2, ap, rfl, q, s2⟩ := H
 rcases q with ⟨rfl, rfl, a, sn, c, hr⟩ | ⟨b, since, seen, c0, rfl, hr, hold, hsc, hsk, hleft⟩
 ·exact .inl ⟨rfl, run_next_nil ty (ow r _ (Hp.join_left hr)).2.1⟩
 obtain ⟨hW, hrw, hrn⟩ := ow r _ (Hp.join_left hr)
 rcases hm with ⟨hm, _⟩ | ⟨b', hm, hbw, rep⟩
 ·cases hm
 have : b = b' := by cases hm; rfl
 subst this
 have hne : r ≠ b := fun e => by rw [e, hbw] at hrw; cases hrw
 obtain ⟨es, clock⟩ := ob
 simp only at hbw rep hold hsk hleft
 rcases run_next_at (P := P) w ty r b since c0 seen es clock hrw hbw hold hsc with ⟨h0, hrun⟩ | ⟨e, he, w1, hal, hrun⟩
 ·refine .inl ⟨?_, hrun⟩
  have : (leftOf es seen).toList = [] := by
   apply List.eq_nil_of_length_eq_zero; simpa using h0
  rw [this] at hleft
  have := hleft.length_eq
  simp at this
  exact List.eq_nil_of_length_eq_zero this.symm
 ·right
  obtain ⟨hem, hes⟩ := mem_left he
  obtain ⟨kl, hk, hrg⟩ := rg_val rep.fit hem
  have hin : rg P k holdV e ∈ left.map ent := hleft.mem_iff.1 (List.mem_map.2 ⟨e, he, rfl⟩)
  have hin2 : rg P k holdV e ∈ m.map ent := rep.perm.mem_iff.1 (List.mem_map.2 ⟨e, hem, rfl⟩)
  obtain ⟨p, hp, hpe⟩ := List.mem_map.1 hin
  rw [hrg] at hpe
  have e1 : MKey.lit p.1 = kl := congrArg Prod.fst hpe
  have e2 : (DataW.held p.2 : DataW Value) = .held e.val := congrArg Prod.snd hpe
  subst e1
  have e3 : p.2 = e.val := DataW.held.inj e2
  obtain ⟨hkv, hok⟩ := K.inv _ _ hk
  obtain ⟨a, c, hac⟩ := List.append_of_mem hp
  have hwl : Le w w1 := by rcases hal with rfl | rfl; exact Le.refl _; exact Le.drew _
  have hr1 : w1.heap[r]? = some (.mapIter (some b) since seen c0) := hwl.keep hrw
  have u : UpdO w1 r (.mapIter (some b) since (seen.push e.born) clock) (setBlock w1 r (.mapIter (some b) since (seen.push e.born) clock)) := ⟨rfl, at_lt hr1⟩
  have hpe2 : p = (p.1, e.val) := by rw [← e3]
  refine ⟨p.1, e.val, a ++ c, _, ?_, hok, ?_, by rw [hkv] at hrun; exact hrun, ?_⟩
  ·rw [hac, ← hpe2]
   exact List.perm_middle
  ·obtain ⟨p2, hp2, hpe3⟩ := List.mem_map.1 hin2
   rw [hrg] at hpe3
   have q1 : MKey.lit p2.1 = MKey.lit p.1 := congrArg Prod.fst hpe3
   have q2 : (DataW.held p2.2 : DataW Value) = .held e.val := congrArg Prod.snd hpe3
   have q3 := MKey.inj _ _ q1
   have q4 := DataW.held.inj q2
   rw [← q3, ← q4]; exact hp2
  ·have hle := SL.le (l := []) (W := W) (g := g) ⟨fun _ => none, be, s, (fun _ _ h => by cases h), trivial⟩ hwl
   refine ⟨Hp.join (fun q => if q = r then some (.mapIter (some b) since (seen.push e.born) clock) else h1 q) h2, u.below hle.below hW, hle.seesA.updO hrn u, fun q o hq => ?_, _, h2, fun q => ?_, rfl,
    ⟨.inr ⟨b, since, seen.push e.born, clock, rfl, if_pos rfl, hold, hsk, hsk, ?_⟩, fun x y hxy => ?_⟩, s2⟩
   ·by_cases eq : q = r
    ·subst eq
     have : o = .mapIter (some b) since (seen.push e.born) clock := by unfold Hp.join at hq; simp at hq; exact hq.symm
     subst this
     exact ⟨hW, u.here, hrn⟩
    ·have hq' : (h1.join h2) q = some o := by unfold Hp.join at hq ⊢; simpa [eq] using hq
     obtain ⟨o1, o2, o3⟩ := ow q o hq'
     exact ⟨o1, u.keep eq (hwl.keep o2), o3⟩
   ·by_cases eq : q = r
    ·subst eq
     rcases ap q with z | z
     ·rw [hr] at z; cases z
     ·exact .inr z
    ·rcases ap q with z | z
     ·left; simp [eq, z]
     ·exact .inr z
   ·have h3 := (left_push rep.fit.stamped he).map (rg P k holdV)
    rw [List.map_cons, hrg] at h3
    have h4 : (left.map ent).Perm (ent p :: (a ++ c).map ent) := by
     rw [hac, List.map_append, List.map_cons, List.map_append]; exact List.perm_middle
    have h5 := (hleft.symm.trans h3).symm.trans h4
    have h6 : ent p = (MKey.lit p.1, .held e.val) := by unfold ent; rw [e3]
    rw [h6] at h5
    exact List.Perm.cons_inv h5
   ·have hxy := Option.some.inj hxy
    cases hxy
    exact ⟨b, since, seen, e, rfl, if_pos rfl, hem, hkv, rfl⟩
end
end Go.Lm

/- 'm[k] = v' in two steps: the entry, and what is laid into it. General: no program in sight. -/
namespace Go.Lm
open Go Go.RowKit Go.Maps Go.ChangeMaps
open Go.WideElems (Fit rd rg pl rd_key rd_val rg_of)
open Go.WideShapes (sorted_perm)
open Go.MapKept
section
variable {κ : Type} [MKey κ] {P : Program} {k : TypeId} {W : Base} {g w : World} {l : List Atom} {m : List (κ × Value)} {b : Nat}
def KeepsB (w w' : World) : Prop := ∀ (b : Nat) (cs : Array Value) (t : TypeId), Blk w b cs t → Blk w' b cs t
theorem keeps_set {es : Array MapEntry} {c : Nat} {o : Obj} (h : w.heap[b]? = some (.map es c)) : KeepsB w (setBlock w b o) := fun k cs t hk => by
 have hne : b ≠ k := fun e => by
  subst e
  unfold Blk at hk
  rw [h] at hk; cases hk
 unfold Blk at *
 simp only [setBlock]
 rw [Array.getElem?_setIfInBounds_ne hne]; exact hk
def mapSA (P : Program) (k : TypeId) (b : Nat) (m : List (κ × Value)) (x : κ) (st : Nat) : Atom :=
 ⟨fun _ h => ∃ es clock, h b = some (.map es clock) ∧ MapRep P k es clock m ∧ ∃ e ∈ es.toList, e.key = MKey.val x ∧ e.born = st, fun _ s => s⟩
theorem run_mapEntryV {t e : TypeId} {es : Array MapEntry} {clock : Nat} {key z : Value} {kl : Lit} (K : Keyed P k) (ht : P.underlying t = some (.map k e)) (hz : (zeroValue e).run P w = .ok z w) (hb : w.heap[b]? = some (.map es clock)) (F : Fit P k holdV es clock) (hkey : keyOf P k key = some kl) :
  ∃ (val : Value) (st : Nat) (es' : Array MapEntry) (clock' : Nat), (Instr.mapEntry t (.map (some b)) key).run P w = .ok (.tuple #[val, goInt st]) (setBlock w b (.map es' clock')) ∧ (Instr.mapUpdate t (.map (some b)) key val).run P w = .ok () (setBlock w b (.map es' clock')) ∧ (∃ e ∈ es'.toList, e.key = key ∧ e.born = st) ∧ (val = z ∨ ∃ e ∈ es.toList, e.val = val) := by
 rcases K.find w hkey es.toList F.keys with ⟨h1, h2⟩ | ⟨j, e0, h1, h2, h3⟩
 ·refine ⟨z, clock, es.push ⟨key, z, clock⟩, clock + 1, ?_, ?_, ⟨⟨key, z, clock⟩, by simp, rfl, rfl⟩, .inl rfl⟩
  ·simp [Instr.mapEntry, run_underlying ht, MapKept.run_getObj_map hb, K.check w false hkey, h1, hz, MapKept.run_setObj_map _ hb, Result.andThen, setBlock]
  ·simp [Instr.mapUpdate, run_underlying ht, MapKept.run_getObj_map hb, K.check w false hkey, h1, MapKept.run_setObj_map _ hb, Result.andThen, setBlock]
 ·have hj : es[j]? = some e0 := by simpa using h2
  have hm : (es.modify j fun e => { e with key := key }) = es.modify j fun e => { e with key := key, val := e0.val } := by
   apply Array.ext_getElem?
   intro i
   rw [Array.getElem?_modify, Array.getElem?_modify]
   by_cases e : j = i
   ·subst e; rw [if_pos rfl, if_pos rfl, hj]; rfl
   ·rw [if_neg e, if_neg e]
  refine ⟨e0.val, e0.born, es.modify j fun e => { e with key := key, val := e0.val }, clock, ?_, ?_, ⟨{ e0 with key := key, val := e0.val }, ?_, rfl, rfl⟩, .inr ⟨e0, List.mem_of_getElem? h2, rfl⟩⟩
  ·simp [Instr.mapEntry, run_underlying ht, MapKept.run_getObj_map hb, K.check w false hkey, h1, hj, h3, K.stays w hkey, MapKept.run_setObj_map _ hb, Result.andThen, setBlock, hm]
  ·simp [Instr.mapUpdate, run_underlying ht, MapKept.run_getObj_map hb, K.check w false hkey, h1, hj, h3, K.stays w hkey, MapKept.run_setObj_map _ hb, Result.andThen, setBlock]
  ·refine List.mem_of_getElem? (i := j) ?_
   rw [Array.getElem?_toList, Array.getElem?_modify, if_pos rfl, hj]; rfl
theorem SL.mapEntryV (H : SL W g w (mapA P k b m :: l)) (K : KeyT P k κ) {t e : TypeId} (ht : P.underlying t = some (.map k e)) {z : Value} (hz : (zeroValue e).run P w = .ok z w) (hlen : m.length < maxLen) (x : κ) (hx : MKey.ok x) :
  ∃ (val : Value) (st : Nat) (w' : World), (Instr.mapEntry t (.map (some b)) (MKey.val x)).run P w = .ok (.tuple #[val, goInt st]) w' ∧ SL W g w' (mapSA P k b (putK m x val) x st :: l) ∧ (val = z ∨ ∃ p ∈ m, p.2 = val) := by
 obtain ⟨es, clock, r, H1⟩ := H.mapO
 have hb := H1.has 0
 obtain ⟨val, st, es', clock', h1, h2, ⟨e', he, hk, hs⟩, hval⟩ := run_mapEntryV K.keyed ht hz hb r.fit (K.of x hx)
 obtain ⟨w', h3, H3⟩ := H.mapPut K ht hlen x hx val
 rw [h2] at h3
 cases h3
 refine ⟨val, st, _, h1, ?_, ?_⟩
 rotate_left
 ·rcases hval with h | ⟨e0, he0, h⟩
  ·exact .inl h
  ·obtain ⟨kl, hkl, hrg⟩ := rg_val r.fit he0
   have hin : rg P k holdV e0 ∈ m.map ent := r.perm.mem_iff.1 (List.mem_map.2 ⟨e0, he0, rfl⟩)
   obtain ⟨p, hp, hpe⟩ := List.mem_map.1 hin
   rw [hrg] at hpe
   have q2 : (DataW.held p.2 : DataW Value) = .held e0.val := congrArg Prod.snd hpe
   exact .inr ⟨p, hp, (DataW.held.inj q2).trans h⟩
 obtain ⟨h, be, s, ow, g1, g2, ap, rfl, ⟨es2, clock2, hb2, r2⟩, s2⟩ := H3
 have hb3 := (ow b _ (Hp.join_left hb2)).2.1
 have hb4 : (setBlock w b (.map es' clock')).heap[b]? = some (.map es' clock') := by simp [setBlock, at_lt hb]
 rw [hb4] at hb3
 cases hb3
 exact ⟨_, be, s, ow, g1, g2, ap, rfl, ⟨es', clock', hb2, r2, e', he, hk, hs⟩, s2⟩
theorem SL.entryStore {x : κ} {st : Nat} {val : Value} (H : SL W g w (mapSA P k b (putK m x val) x st :: l)) (K : KeyT P k κ) (hx : MKey.ok x) (t : TypeId) (v : Value) :
  ∃ w', (Instr.entryStore t (.map (some b)) (goInt st) v).run P w = .ok () w' ∧ SL W g w' (mapA P k b (putK m x v) :: l) ∧ KeepsB w w' := by
 obtain ⟨h, be, s, ow, g1, g2, ap, rfl, ⟨es, clock, hb, r, e, he, hke, hse⟩, s2⟩ := H
 have hbw := (ow b _ (Hp.join_left hb)).2.1
 have hst := (stamped_iff es clock).1 r.fit.stamped
 obtain ⟨j, hj⟩ := List.getElem?_of_mem he
 have hjl : j < es.size := by simpa using (List.getElem?_eq_some_iff.1 hj).1
 have hje : es[j]? = some e := by simpa using hj
 have hf : es.findIdx? (fun e => (e.born : Int) == (st : Int)) = some j := by
  rw [Array.findIdx?_eq_some_iff_getElem]
  have e1 : es[j] = e := by rw [Array.getElem?_eq_getElem hjl] at hje; exact Option.some.inj hje
  refine ⟨hjl, by rw [e1]; simp [hse], fun i hi => ?_⟩
  have hi' : i < es.size := by omega
  intro hc
  have hb1 : es[i].born = st := Int.ofNat_inj.1 (eq_of_beq hc)
  have h1 := hst.2.1
  have h2 : (es.toList.map (·.born))[i]? = some st := by simp [hi', hb1]
  have h3 : (es.toList.map (·.born))[j]? = some st := by simp [hjl, e1, hse]
  have := (List.getElem?_inj (by simpa using hi') h1).1 (h2.trans h3.symm)
  omega
 let es' := es.modify j fun e => { e with val := v }
 have hrun : (Instr.entryStore t (.map (some b)) (goInt st) v).run P w = .ok () (setBlock w b (.map es' clock)) := by
  simp [Instr.entryStore, MapKept.run_getObj_map hbw, goInt, asInt, asIntOf, hf, MapKept.run_setObj_map _ hbw, Result.andThen, setBlock, es']
 refine ⟨_, hrun, ?_, keeps_set hbw⟩
 have hlist : es'.toList = es.toList.set j { e with val := v } := by
  apply List.ext_getElem?
  intro i
  rw [Array.getElem?_toList, Array.getElem?_modify, List.getElem?_set]
  by_cases q : j = i
  ·subst q; rw [if_pos rfl, if_pos rfl, hje]; simp [hjl]
  ·rw [if_neg q, if_neg q, Array.getElem?_toList]
 obtain ⟨kl, hk, hrg⟩ := rg_val r.fit he
 have hkl : kl = MKey.lit x := by rw [hke, K.of x hx] at hk; exact (Option.some.inj hk).symm
 have F' : Fit P k holdV es' clock := by
  refine ⟨by simpa [es'] using r.fit.size, stamped_modify r.fit.stamped _ _ (fun _ _ => rfl) (fun _ _ _ => rfl), fun y hy => ?_⟩
  rw [hlist] at hy
  rcases List.mem_or_eq_of_mem_set hy with hy | rfl
  ·exact r.fit.reads y hy
  ·exact ⟨(kl, .held v), by
    exact Go.WideElems.rd_mk (R := holdV) (born := e.born) hk (show holdV v = some (.held v, []) from rfl)⟩
 have H1 : SL W g w (obj b (.map es clock) :: l) := ⟨_, be, s, ow, g1, g2, ap, rfl, hb, s2⟩
 refine (H1.updO0 ⟨rfl, at_lt hbw⟩).mapI ⟨F', ?_⟩
 -- the readings: only the one entry's element turns
 have hrg' : rg P k holdV { e with val := v } = (MKey.lit x, .held v) := by
  obtain ⟨kl2, hk2, hrg2⟩ := rg_val F' (x := { e with val := v }) (by rw [hlist]; exact List.mem_iff_getElem.2 ⟨j, by simpa using hjl, by simp⟩)
  rw [hrg2]
  have : kl2 = kl := by
   have h1 : keyOf P k e.key = some kl2 := hk2
   rw [h1] at hk; exact Option.some.inj hk
  rw [this, hkl]
 have hap := Maps.fit_apart K.keyed r.fit
 have hset : ∀ (L : List MapEntry) (j : Nat), L[j]? = some e → (L.set j { e with val := v }).Perm ({ e with val := v } :: L.eraseIdx j) := by
  intro L
  induction L with
  | nil => intro j h; simp at h
  | cons y L ih =>
   intro j h
   cases j with
   | zero => simp
   | succ j => simp only [List.set_cons_succ, List.eraseIdx_cons_succ]; exact (List.Perm.cons y (ih j (by simpa using h))).trans (List.Perm.swap _ _ _)
 have hset2 : ∀ (L : List MapEntry) (j : Nat), L[j]? = some e → L.Perm (e :: L.eraseIdx j) := by
  intro L
  induction L with
  | nil => intro j h; simp at h
  | cons y L ih =>
   intro j h
   cases j with
   | zero => simp at h; subst h; simp
   | succ j => simp only [List.eraseIdx_cons_succ]; exact (List.Perm.cons y (ih j (by simpa using h))).trans (List.Perm.swap _ _ _)
 have p1 := (hset es.toList j hj).map (rg P k holdV)
 have p2 := (hset2 es.toList j hj).map (rg P k holdV)
 rw [List.map_cons, hrg'] at p1
 rw [List.map_cons, hrg, hkl] at p2
 have p3 : ((MKey.lit x, DataW.held e.val) :: (es.toList.eraseIdx j).map (rg P k holdV)).Perm (ent (x, val) :: (delK m x).map ent) := p2.symm.trans r.perm
 -- the entry of key x is the one
 have hmem : (MKey.lit x, (DataW.held e.val : DataW Value)) ∈ ent (x, val) :: (delK m x).map ent := p3.mem_iff.1 (by simp)
 have hval : ent (x, val) = (MKey.lit x, (DataW.held e.val : DataW Value)) := by
  rcases List.mem_cons.1 hmem with h | h
  ·exact h.symm
  ·obtain ⟨q, hq, hqe⟩ := List.mem_map.1 h
   have h1 : MKey.lit q.1 = MKey.lit x := congrArg Prod.fst hqe
   have h2 := MKey.inj _ _ h1
   unfold delK at hq
   have := (List.mem_filter.1 hq).2
   simp [h2] at this
 rw [hval] at p3
 have p4 := List.Perm.cons_inv p3
 rw [hlist]
 refine p1.trans ?_
 unfold putK
 rw [List.map_cons]
 exact List.Perm.cons _ p4
end
end Go.Lm

/- An upper branch as a part of what is owned: its nodes, their entries. General: no program in sight. -/
namespace Go.Lm
open Go Go.RowKit

theorem nthA_mid (x : Atom) (B : List Atom) : ∀ A : List Atom, nthA (A ++ x :: B) A.length = some x
 | [] => rfl
 | _ :: A => nthA_mid x B A
theorem dropA_mid (x : Atom) (B : List Atom) : ∀ A : List Atom, dropA (A ++ x :: B) A.length = A ++ B
 | [] => rfl
 | a :: A => by
  show a :: dropA (A ++ x :: B) A.length = a :: (A ++ B)
  rw [dropA_mid x B A]
theorem setA_mid (x y : Atom) (B : List Atom) : ∀ A : List Atom, setA (A ++ x :: B) A.length y = A ++ y :: B
 | [] => rfl
 | a :: A => by
  show a :: setA (A ++ x :: B) A.length y = a :: (A ++ y :: B)
  rw [setA_mid x y B A]
section
variable {W : Base} {g w : World}
theorem SL.mid {A B : List Atom} {x : Atom} (H : SL W g w (A ++ x :: B)) : SL W g w (x :: (A ++ B)) := by
 have := H.pick A.length (nthA_mid x B A)
 rw [dropA_mid] at this; exact this
theorem SL.unmid {A B : List Atom} {x y : Atom} (H : SL W g w (y :: (A ++ B))) : SL W g w (A ++ y :: B) := by
 have h : SL W g w (y :: dropA (A ++ x :: B) A.length) := by rw [dropA_mid]; exact H
 have := h.unpick A.length (nthA_mid x B A)
 rw [setA_mid] at this; exact this
end

structure UTy where
 U : TypeId
 N : TypeId
 kI : TypeId
 kS : TypeId
structure LNode where
 blk : Nat
 kind : Int
 mode : Int
 uid : Int
 gid : Int
 vd : Value
 data : List UInt8
 target : ByteArray
 vx : Value
 xattrs : List XattrD
 opq : Bool
 vi : Value
 ents : List (ByteArray × Int)
 up : Int
 links : Int
abbrev LNode.cells (n : LNode) : Array Value := #[.slice none 0 0, .int .i64 0, .int .i64 n.kind, .int .i64 n.mode, .int .i64 n.uid, .int .i64 n.gid, n.vd, .string n.target, n.vx, .bool n.opq, n.vi, .int .i64 n.up, .int .i64 n.links]
def entsV (l : List (ByteArray × Int)) : List (ByteArray × Value) := l.map fun p => (p.1, .int .i64 p.2)
def ptrsV (L : List (Int × LNode)) : List (Int × Value) := L.map fun p => (p.1, ptr p.2.blk 0)
def setK {κ α : Type} [MKey κ] (l : List (κ × α)) (x : κ) (v : α) : List (κ × α) := l.map fun p => if p.1 = x then (p.1, v) else p

section
variable {κ : Type} [MKey κ] {α β : Type}
theorem getK_map (f : α → β) (l : List (κ × α)) (x : κ) : getK (l.map fun p => (p.1, f p.2)) x = (getK l x).map f := by
 unfold getK
 rw [List.find?_map]
 cases h : l.find? ((fun p => decide (p.1 = x)) ∘ fun p => (p.1, f p.2)) with
 | none =>
  have : l.find? (fun p => decide (p.1 = x)) = none := h
  rw [this]; rfl
 | some p =>
  have : l.find? (fun p => decide (p.1 = x)) = some p := h
  rw [this]; rfl
theorem delK_map (f : α → β) (l : List (κ × α)) (x : κ) : delK (l.map fun p => (p.1, f p.2)) x = (delK l x).map fun p => (p.1, f p.2) := by
 unfold delK
 rw [List.filter_map]; rfl
theorem putK_map (f : α → β) (l : List (κ × α)) (x : κ) (v : α) : putK (l.map fun p => (p.1, f p.2)) x (f v) = (putK l x v).map fun p => (p.1, f p.2) := by
 unfold putK
 rw [delK_map]; rfl
theorem delK_none {l : List (κ × α)} {x : κ} (h : getK l x = none) : delK l x = l := by
 unfold delK
 refine List.filter_eq_self.2 fun p hp => ?_
 have := getK_none.1 h p hp
 simp [this]
theorem setK_split {l1 l2 : List (κ × α)} {x : κ} {v u : α} (h1 : ∀ p ∈ l1, p.1 ≠ x) (h2 : ∀ p ∈ l2, p.1 ≠ x) : setK (l1 ++ (x, v) :: l2) x u = l1 ++ (x, u) :: l2 := by
 unfold setK
 have e : ∀ l : List (κ × α), (∀ p ∈ l, p.1 ≠ x) → l.map (fun p => if p.1 = x then (p.1, u) else p) = l := fun l h => by
  conv => rhs; rw [← List.map_id l]
  exact List.map_congr_left fun p hp => by simp [h p hp]
 rw [List.map_append, List.map_cons, e l1 h1, e l2 h2]
 simp
theorem getK_split {l : List (κ × α)} {x : κ} {v : α} (hn : (l.map (·.1)).Nodup) (h : getK l x = some v) : ∃ l1 l2, l = l1 ++ (x, v) :: l2 ∧ (∀ p ∈ l1, p.1 ≠ x) ∧ (∀ p ∈ l2, p.1 ≠ x) := by
 obtain ⟨l1, l2, e⟩ := List.append_of_mem (getK_mem h)
 refine ⟨l1, l2, e, fun p hp q => ?_, fun p hp q => ?_⟩
 ·rw [e, List.map_append, List.map_cons] at hn
  have h1 := (List.nodup_append.1 hn).2.2 p.1 (List.mem_map.2 ⟨p, hp, rfl⟩) x (by simp)
  exact h1 q
 ·rw [e, List.map_append, List.map_cons] at hn
  have h1 := (List.nodup_cons.1 (List.nodup_append.1 hn).2.1).1
  exact h1 (by rw [← q]; exact List.mem_map.2 ⟨p, hp, rfl⟩)
end
theorem ptrs_keys (L : List (Int × LNode)) : (ptrsV L).map (·.1) = L.map (·.1) := by unfold ptrsV; rw [List.map_map]; rfl
theorem getK_ptrs (L : List (Int × LNode)) (r : Int) : getK (ptrsV L) r = (getK L r).map fun n => ptr n.blk 0 := getK_map (fun n : LNode => ptr n.blk 0) L r
theorem getK_ents (l : List (ByteArray × Int)) (s : ByteArray) : getK (entsV l) s = (getK l s).map fun x => .int .i64 x := getK_map (fun x : Int => Value.int .i64 x) l s
theorem ptrs_setK {L : List (Int × LNode)} {r : Int} {n n' : LNode} (hn : (L.map (·.1)).Nodup) (h : getK L r = some n) (hb : n'.blk = n.blk) : ptrsV (setK L r n') = ptrsV L := by
 obtain ⟨l1, l2, e, h1, h2⟩ := getK_split hn h
 rw [e, setK_split h1 h2]
 unfold ptrsV
 rw [List.map_append, List.map_append, List.map_cons, List.map_cons, hb]

section
variable {P : Program} {T : UTy} {W : Base} {g w w' : World} {l : List Atom}
def nodeL (P : Program) (T : UTy) (n : LNode) : List Atom :=
 [isA n.vd n.data, isA n.vx n.xattrs, pureA (n.target.size ≤ maxLen ∧ (n.kind = 1 → ∃ b, n.vi = .map (some b))), blk n.blk n.cells T.N, mapVA P T.kS n.vi (entsV n.ents)]
def nodeA (P : Program) (T : UTy) (n : LNode) : Atom := conjA (nodeL P T n)
def upA (P : Program) (T : UTy) (u : Nat) (q1 q2 : Int) (mb : Nat) (nx : Int) (L : List (Int × LNode)) : Atom :=
 conjA (blk u #[.int .i64 q1, .int .i64 q2, .map (some mb), .int .i64 nx] T.U :: mapA P T.kI mb (ptrsV L) :: L.map fun p => nodeA P T p.2)
variable {u mb : Nat} {q1 q2 nx : Int} {L : List (Int × LNode)}
theorem SL.upO (H : SL W g w (upA P T u q1 q2 mb nx L :: l)) : SL W g w (Lm.blk u #[.int .i64 q1, .int .i64 q2, .map (some mb), .int .i64 nx] T.U :: mapA P T.kI mb (ptrsV L) :: ((L.map fun p => Lm.nodeA P T p.2) ++ l)) := H.openC
theorem SL.upI (H : SL W g w (Lm.blk u #[.int .i64 q1, .int .i64 q2, .map (some mb), .int .i64 nx] T.U :: mapA P T.kI mb (ptrsV L) :: ((L.map fun p => Lm.nodeA P T p.2) ++ l))) : SL W g w (upA P T u q1 q2 mb nx L :: l) :=
 SL.shutC (a := Lm.blk u #[.int .i64 q1, .int .i64 q2, .map (some mb), .int .i64 nx] T.U :: mapA P T.kI mb (ptrsV L) :: L.map fun p => Lm.nodeA P T p.2) H
theorem SL.nodeO {n : LNode} (H : SL W g w (Lm.nodeA P T n :: l)) : Is g n.vd n.data ∧ Is g n.vx n.xattrs ∧ n.target.size ≤ maxLen ∧ (n.kind = 1 → ∃ b, n.vi = .map (some b)) ∧ SL W g w (Lm.blk n.blk n.cells T.N :: mapVA P T.kS n.vi (entsV n.ents) :: l) := by
 have h := SL.openC H
 obtain ⟨h1, h⟩ := SL.isv h
 obtain ⟨h2, h⟩ := SL.isv h
 obtain ⟨h3, h⟩ := SL.pure h
 exact ⟨h1, h2, h3.1, h3.2, h⟩
theorem SL.nodeI {n : LNode} (h1 : Is g n.vd n.data) (h2 : Is g n.vx n.xattrs) (h3 : n.target.size ≤ maxLen) (h4 : n.kind = 1 → ∃ b, n.vi = .map (some b)) (H : SL W g w (Lm.blk n.blk n.cells T.N :: mapVA P T.kS n.vi (entsV n.ents) :: l)) : SL W g w (Lm.nodeA P T n :: l) :=
 SL.shutC (a := nodeL P T n) ((H.addPure (p := n.target.size ≤ maxLen ∧ (n.kind = 1 → ∃ b, n.vi = .map (some b))) ⟨h3, h4⟩).addIs h2 |>.addIs h1)
theorem SL.upNode (H : SL W g w (upA P T u q1 q2 mb nx L :: l)) (KI : KeyT P T.kI Int) {r : Int} {n : LNode} (h : getK L r = some n) :
  ∃ R : List Atom, SL W g w (Lm.nodeA P T n :: R) ∧ ∀ (g' w' : World) (n' : LNode), n'.blk = n.blk → SL W g' w' (Lm.nodeA P T n' :: R) → SL W g' w' (upA P T u q1 q2 mb nx (setK L r n') :: l) := by
 have H1 := H.upO
 have hn : (L.map (·.1)).Nodup := by
  have := (H1.pick 1).mapNodup KI
  rwa [ptrs_keys] at this
 obtain ⟨l1, l2, e, h1, h2⟩ := getK_split hn h
 have hs : ∀ n', setK L r n' = l1 ++ (r, n') :: l2 := fun n' => by rw [e, setK_split h1 h2]
 have hp : ∀ n' : LNode, n'.blk = n.blk → ptrsV (l1 ++ (r, n') :: l2) = ptrsV L := fun n' hb => by rw [← hs n']; exact ptrs_setK hn h hb
 refine ⟨(Lm.blk u #[.int .i64 q1, .int .i64 q2, .map (some mb), .int .i64 nx] T.U :: mapA P T.kI mb (ptrsV L) :: l1.map fun p => Lm.nodeA P T p.2) ++ ((l2.map fun p => Lm.nodeA P T p.2) ++ l), ?_, fun g' w' n' hb H2 => ?_⟩
 ·refine SL.mid ?_
  refine SL.cast H1 ?_
  rw [e]
  simp
 ·refine SL.upI ?_
  rw [hs n', hp n' hb]
  refine SL.cast (SL.unmid (x := Lm.nodeA P T n) H2) ?_
  simp
structure NodeR (P : Program) (T : UTy) (g w : World) (n : LNode) : Prop where
 blk : Blk w n.blk n.cells T.N
 data : Is g n.vd n.data
 xattrs : Is g n.vx n.xattrs
 target : n.target.size ≤ maxLen
 dir : n.kind = 1 → ∃ b, n.vi = .map (some b)
 ents : MapV P T.kS w n.vi (entsV n.ents)
structure UpR (P : Program) (T : UTy) (g w : World) (u : Nat) (q1 q2 : Int) (mb : Nat) (nx : Int) (L : List (Int × LNode)) : Prop where
 ublk : Blk w u #[.int .i64 q1, .int .i64 q2, .map (some mb), .int .i64 nx] T.U
 map : MapV P T.kI w (.map (some mb)) (ptrsV L)
 nodes : ∀ r n, getK L r = some n → NodeR P T g w n
theorem SL.upR0 (H : SL W g w (upA P T u q1 q2 mb nx L :: l)) (KI : KeyT P T.kI Int) : UpR P T g w u q1 q2 mb nx L := by
 refine ⟨H.upO.blk 0, (H.upO.pick 1).mapR, fun r n hr => ?_⟩
 obtain ⟨R, H1, _⟩ := H.upNode KI hr
 obtain ⟨h1, h2, h3, h4, H2⟩ := H1.nodeO
 exact ⟨H2.blk 0, h1, h2, h3, h4, (H2.pick 1).mapVR⟩
theorem SL.upStore {r : Int} {n n' : LNode} (H : SL W g w (upA P T u q1 q2 mb nx L :: l)) (KI : KeyT P T.kI Int) (h : getK L r = some n) (hd : Is g n'.vd n'.data) (hx : Is g n'.vx n'.xattrs) (ht : n'.target.size ≤ maxLen)
  (hb : n'.blk = n.blk) (hk : n'.kind = n.kind) (hv : n'.vi = n.vi) (he : n'.ents = n.ents) (up : Upd w n.blk n'.cells w') : SL W g w' (upA P T u q1 q2 mb nx (setK L r n') :: l) := by
 obtain ⟨R, H1, back⟩ := H.upNode KI h
 obtain ⟨_, _, _, h4, H2⟩ := H1.nodeO
 refine back g w' n' hb (SL.nodeI hd hx ht (by rw [hk, hv]; exact h4) ?_)
 rw [hb, hv, he]
 exact H2.upd 0 up
theorem SL.upPut {r : Int} {n : LNode} {t e : TypeId} (H : SL W g w (upA P T u q1 q2 mb nx L :: l)) (KI : KeyT P T.kI Int) (KS : KeyT P T.kS ByteArray) (h : getK L r = some n) (hk : n.kind = 1) (ht : P.underlying t = some (.map T.kS e)) (s : ByteArray) (hs : s.size ≤ maxLen) (x : Int) (hlen : n.ents.length < maxLen) :
  ∃ w', (Instr.mapUpdate t n.vi (.string s) (.int .i64 x)).run P w = .ok () w' ∧ SL W g w' (upA P T u q1 q2 mb nx (setK L r { n with ents := putK n.ents s x }) :: l) := by
 obtain ⟨R, H1, back⟩ := H.upNode KI h
 obtain ⟨h1, h2, h3, h4, H2⟩ := H1.nodeO
 obtain ⟨b, hb⟩ := h4 hk
 rcases (H2.pick 1).mapVO with ⟨hv, _⟩ | ⟨b', hv, H3⟩
 ·rw [hb] at hv; cases hv
 ·obtain ⟨w', hr, H4⟩ := H3.mapPut KS ht (by unfold entsV; rw [List.length_map]; exact hlen) s hs (.int .i64 x)
  refine ⟨w', by rw [hv]; exact hr, back g w' { n with ents := putK n.ents s x } rfl (SL.nodeI h1 h2 h3 h4 ?_)⟩
  have e1 : putK (entsV n.ents) s (.int .i64 x) = entsV (putK n.ents s x) := putK_map (fun x : Int => Value.int .i64 x) n.ents s x
  rw [e1] at H4
  have H5 := H4.mapVI
  rw [← hv] at H5
  exact H5.weak fun _ q => q.swap
theorem SL.upDel {r : Int} {n : LNode} {t e ty : TypeId} (H : SL W g w (upA P T u q1 q2 mb nx L :: l)) (KI : KeyT P T.kI Int) (KS : KeyT P T.kS ByteArray) (h : getK L r = some n) (hk : n.kind = 1) (ht : P.underlying t = some (.map T.kS e)) (s : ByteArray) (hs : s.size ≤ maxLen) :
  ∃ w', (Builtin.delete_ #[t, T.kS] ty #[n.vi, .string s]).run P w = .ok (.tuple #[]) w' ∧ SL W g w' (upA P T u q1 q2 mb nx (setK L r { n with ents := delK n.ents s }) :: l) := by
 obtain ⟨R, H1, back⟩ := H.upNode KI h
 obtain ⟨h1, h2, h3, h4, H2⟩ := H1.nodeO
 obtain ⟨b, hb⟩ := h4 hk
 rcases (H2.pick 1).mapVO with ⟨hv, _⟩ | ⟨b', hv, H3⟩
 ·rw [hb] at hv; cases hv
 ·obtain ⟨w', hr, H4⟩ := H3.mapDel KS ht s hs (ty := ty)
  refine ⟨w', by rw [hv]; exact hr, back g w' { n with ents := delK n.ents s } rfl (SL.nodeI h1 h2 h3 h4 ?_)⟩
  have e1 : delK (entsV n.ents) s = entsV (delK n.ents s) := delK_map (fun x : Int => Value.int .i64 x) n.ents s
  rw [e1] at H4
  have H5 := H4.mapVI
  rw [← hv] at H5
  exact H5.weak fun _ q => q.swap
end
end Go.Lm

/- A region whose order is open: what only reads what stands fast may float; the rest keeps its order. General: no program in sight. -/
namespace Go.Lm
open Go Go.RowKit

section
variable {P : Program} {ops : Array Oper} {rest : List Oper} {o : Oper} {n : Nat} {s : AL} {Q : Exit → Act → World → Prop} {w : World} {e : Bool} {Φ : World → Prop}
theorem Act.ext' {a b : Act} (h1 : ∀ t : Nat, a.tmps[t]? = b.tmps[t]?) (h2 : a.defers = b.defers) : a = b := by
 cases a; cases b
 simp only at h1 h2
 subst h2
 congr 1
 exact Array.ext_getElem? h1
def fils : List Oper → List (Option Value) → AL
 | o :: l, some v :: fl => match o.dst with | some d => (d, v) :: fils l fl | none => fils l fl
 | _ :: l, none :: fl => fils l fl
 | _, _ => []
def slotsOf (ops : Array Oper) (o : Oper) : List Nat := (o.op.operands.toList.filterMap fun x => match x with | .tmp t => some t | _ => none) ++ (match o.guard with | some (g, _) => (match (ops[g]?).bind (·.dst) with | some d => [d] | none => []) | none => [])
end
end Go.Lm

/- Elements of slices and their fields; conversions; loops that are gone through one round after the other. General: no program in sight. -/
namespace Go.Lm
open Go Go.RowKit
section
variable {P : Program} {ops : Array Oper} {n : Nat} {s : AL} {Q Q'' : Exit → Act → World → Prop} {w : World} {c : Code}
end
def addP : Value → Nat → Value
 | .pointer (some a), o => .pointer (some (a.add o))
 | v, _ => v
def ElemAt (g : World) (k : Nat) (v : Value) (i : Int) (cs : List Value) : Prop := ∀ w, Mono g w → ∃ a : Addr, elemP k v i = .pointer (some a) ∧ ∀ (j : Nat) (c : Value), cs[j]? = some c → w.cell? (a.add j) = some c
section
variable {P : Program} {g w : World} {v : Value} {i : Int}
theorem elem_at {α : Type} [GoRep α] {xs : List α} (h : Is g v xs) (h0 : 0 ≤ i) (h1 : i < xs.length) : ∃ cs, ElemAt g (GoRep.size α) v i cs ∧ GoRep.rel g cs (xs[i.toNat]'(by omega)) := by
 rcases is_list.1 h with ⟨rfl, rfl⟩ | ⟨a, cap, rfl, _, _, h3⟩
 ·simp at h1; omega
 ·obtain ⟨cs, hc, hr⟩ := h3 i.toNat _ (List.getElem?_eq_getElem (by omega))
  exact ⟨cs, fun w hw => ⟨a.add (i.toNat * GoRep.size α), rfl, fun j c hj => by rw [Go.Deep.add_add]; exact hw _ _ (hc j c hj)⟩, hr⟩
theorem run_elem_field {k off : Nat} {cs : List Value} {t : TypeId} {d : TypeDesc} {c : Value} (h : ElemAt g k v i cs) (m : Mono g w) (hu : P.underlying t = some d) (hd : d.isRow = false) (hc : cs[off]? = some c) :
  (Instr.loadAt t (addP (elemP k v i) off)).run P w = .ok c w := by
 obtain ⟨a, ha, hcs⟩ := h w m
 have hagg : (isAgg t).run P w = .ok false w := by
  unfold isAgg
  rw [Sem.run_bind, run_underlying hu w]
  cases d <;> simp_all
 have h2 := hcs off c hc
 simp [ha, addP, Instr.loadAt, Instr.sureAddr, loadVar, hagg, run_load, h2]
theorem run_elem_part {k off len : Nat} {cs : List Value} {t : TypeId} {d : TypeDesc} (h : ElemAt g k v i cs) (m : Mono g w) (hu : P.underlying t = some d) (hd : d.isRow = true) (hs : (P.info? t).map (·.size) = some len) (hl : off + len ≤ cs.length) :
  (Instr.loadAt t (addP (elemP k v i) off)).run P w = .ok (.agg ((cs.drop off).take len).toArray) w := by
 obtain ⟨a, ha, hc⟩ := h w m
 cases hq : P.info? t with
 | none => simp [hq] at hs
 | some ie =>
  have hll : ((cs.drop off).take len).length = len := by simp; omega
  have hsz : ie.size = len := by simpa [hq] using hs
  have hagg : (isAgg t).run P w = .ok true w := by
   unfold isAgg
   rw [Sem.run_bind, run_underlying hu w]
   cases d <;> simp_all
  have hl := run_loadCells_list (P := P) w (a.add off) ((cs.drop off).take len) (fun j c hj => by
   rw [Go.Deep.add_add]
   refine hc _ c ?_
   rw [List.getElem?_take] at hj
   split at hj
   ·rw [List.getElem?_drop] at hj; exact hj
   ·cases hj)
  rw [hll] at hl
  simp [ha, addP, Instr.loadAt, Instr.sureAddr, loadVar, hagg, sizeOf, typeInfo, hq, hsz, hl]
def bstr (l : List UInt8) : ByteArray := ⟨l.toArray⟩
theorem run_str_of {src dst e : TypeId} {l : List UInt8} (h : Is w v l) (hs : P.underlying src = some (.slice e)) (he : P.underlying e = some (.int .u8)) (hd : P.underlying dst = some .string) : (convert src dst v).run P w = .ok (.string (bstr l)) w := by
 rcases is_list.1 h with ⟨rfl, rfl⟩ | ⟨a, cap, rfl, _, _, h3⟩
 ·exact run_convert_bytes_nil w src e hs he 0 0 dst hd
 ·exact run_convert_bytes_back w src dst e a cap l hs he hd fun j hj => by
   obtain ⟨cs, hc, hr⟩ := h3 j _ (List.getElem?_eq_getElem hj)
   have hr' : cs = [.int .u8 (l[j].toNat : Int)] := hr
   have := hc 0 (.int .u8 (l[j].toNat : Int)) (by rw [hr']; rfl)
   simpa [GoRep.size] using this
end
end Go.Lm

/- Slices of the call's own, as steps of a walk. General: no program in sight. -/
namespace Go.Lm
open Go Go.RowKit
class OneRow (ρ : Type) [RowRep ρ] : Prop where
 one : ∀ {g : World} {cs : List Value} {x : ρ}, RowRep.rrel g cs x → ∀ u ∈ cs, u.oneCell' = true
instance : OneRow PUnit := ⟨fun h u hu => by rw [show _ = _ from h] at hu; cases hu⟩
instance {α ρ : Type} [GoRep α] [RowRep ρ] [OneCells α] [OneRow ρ] : OneRow (α × ρ) := ⟨fun h u hu => by
 obtain ⟨c1, c2, rfl, h1, h2⟩ := h
 rcases List.mem_append.1 hu with hu | hu
 ·exact OneCells.one h1 u hu
 ·exact OneRow.one h2 u hu⟩
instance {ρ : Type} [RowRep ρ] [OneRow ρ] : OneCells (St ρ) := ⟨fun h u hu => OneRow.one h u hu⟩
theorem one_is {α : Type} [GoRep α] {g : World} {v : Value} {l : List α} (h : Is g v l) : v.oneCell' = true := by
 rcases is_list.1 h with ⟨rfl, _⟩ | ⟨a, c, rfl, _⟩ <;> rfl
section
variable {P : Program} {W : Base} {g w : World} {l : List Atom}
theorem own_elem {α : Type} [GoRep α] {e : TypeId} {v : Value} {xs : List α} {i : Int} (H : SL W g w (slA e v xs :: l)) (h0 : 0 ≤ i) (h1 : i < xs.length) : ∃ cs, ElemAt w (GoRep.size α) v i cs ∧ GoRep.rel g cs (xs[i.toNat]'(by omega)) := by
 obtain ⟨cs, r, H1⟩ := H.slO
 have hrow := H1.row
 rcases hrow.2 with ⟨rfl, h⟩ | ⟨k, cap, cur, rfl, _⟩
 ·omega
 ·obtain ⟨c, hr, hc⟩ := r.get i.toNat _ (List.getElem?_eq_getElem (by omega))
  refine ⟨c, fun w2 m => ⟨(⟨k, 0, none⟩ : Addr).add (i.toNat * GoRep.size α), rfl, fun j u hj => ?_⟩, hr⟩
  rw [Go.Deep.add_add]
  exact m _ _ (hrow.cells (g := k) rfl _ u (hc j u hj))
theorem flatten_set {size : Nat} {c : Value} : ∀ (cs : List (List Value)) (i off : Nat), (∀ x ∈ cs, x.length = size) → off < size → ∀ (hi : i < cs.length), (cs.set i ((cs[i]).set off c)).flatten = cs.flatten.set (i * size + off) c
 | [], i, off, _, _, hi => by simp at hi
 | x :: cs, 0, off, h, ho, _ => by
  have hx := h x (by simp)
  simp only [List.set_cons_zero, List.getElem_cons_zero, List.flatten_cons, Nat.zero_mul, Nat.zero_add]
  rw [List.set_append_left _ _ (by omega)]
 | x :: cs, i + 1, off, h, ho, hi => by
  have hx := h x (by simp)
  simp only [List.set_cons_succ, List.getElem_cons_succ, List.flatten_cons]
  rw [flatten_set cs i off (fun y hy => h y (by simp [hy])) ho (by simpa using hi)]
  rw [List.set_append_right _ _ (by rw [hx, Nat.add_mul]; omega)]
  congr 2
  rw [hx, Nat.add_mul]; omega
theorem RelL.set {α : Type} [GoRep α] {x' : α} : ∀ {cs : List (List Value)} {xs : List α} (i : Nat) (c' : List Value), RelL g cs xs → GoRep.rel g c' x' → RelL g (cs.set i c') (xs.set i x')
 | [], [], i, c', _, _ => by simp [RelL]
 | c :: cs, x :: xs, 0, c', h, hr => ⟨hr, h.2⟩
 | c :: cs, x :: xs, i + 1, c', h, hr => ⟨h.1, RelL.set i c' h.2 hr⟩
theorem RelL.at {α : Type} [GoRep α] : ∀ {cs : List (List Value)} {xs : List α} (i : Nat) (hi : i < xs.length) (hc : i < cs.length), RelL g cs xs → GoRep.rel g cs[i] xs[i]
 | c :: cs, x :: xs, 0, _, _, h => h.1
 | c :: cs, x :: xs, i + 1, hi, hc, h => RelL.at i (by simpa using hi) (by simpa using hc) h.2
theorem RelL.lens {α : Type} [GoRep α] : ∀ {cs : List (List Value)} {xs : List α}, RelL g cs xs → ∀ c ∈ cs, c.length = GoRep.size α
 | [], [], _, c, hc => by cases hc
 | c :: cs, x :: xs, h, y, hy => by
  rcases List.mem_cons.1 hy with rfl | hy
  ·exact GoRep.len h.1
  ·exact RelL.lens h.2 y hy
theorem SL.slSet {α : Type} [GoRep α] {e t : TypeId} {v c : Value} {xs : List α} {i : Int} {off : Nat} {x' : α} (H : SL W g w (slA e v xs :: l)) (h0 : 0 ≤ i) (h1 : i < xs.length) (hoff : off < GoRep.size α) (hc1 : c.oneCell' = true) (hcc : c.cells = #[c]) (hst : (P.info? t).map (·.size) = some 1)
  (hx : ∀ cs, GoRep.rel g cs (xs[i.toNat]'(by omega)) → GoRep.rel g (cs.set off c) x') :
  ∃ w', (Instr.storeAt t (addP (elemP (GoRep.size α) v i) off) c).run P w = .ok () w' ∧ SL W g w' (slA e v (xs.set i.toNat x') :: l) := by
 obtain ⟨cs, r, H1⟩ := H.slO
 have hlen := RelL.length r
 rcases H1.ofRow with ⟨rfl, hn, _, _⟩ | ⟨k, cap, cur, rfl, q1, q2, q3, q4, H2⟩
 ·omega
 have hi : i.toNat < xs.length := by omega
 have hic : i.toNat < cs.length := by omega
 have hcur : i.toNat * GoRep.size α + off < xs.length * GoRep.size α := by
  have : (i.toNat + 1) * GoRep.size α ≤ xs.length * GoRep.size α := Nat.mul_le_mul_right _ hi
  rw [Nat.add_mul] at this; omega
 have hcap : xs.length * GoRep.size α ≤ cap * GoRep.size α := Nat.mul_le_mul_right _ q1
 have hrun := run_store_row (P := P) (t := t) (off := i.toNat * GoRep.size α + off) (v := c) (H2.blk 0) (by rw [hcc]; exact hst) (by rw [hcc]; simp [hc1]) (by rw [hcc]; simp; omega)
 refine ⟨w.setRow k (cur.toList.take (i.toNat * GoRep.size α + off) ++ c.cells.toList ++ cur.toList.drop (i.toNat * GoRep.size α + off + c.cells.size)).toArray, ?_, ?_⟩
 ·have hp : addP (elemP (GoRep.size α) (.slice (some ⟨k, 0, none⟩) xs.length cap) i) off = ptr k (i.toNat * GoRep.size α + off) := by
   show Value.pointer (some (((⟨k, 0, none⟩ : Addr).add (i.toNat * GoRep.size α)).add off)) = _
   rw [Go.Deep.add_add, Addr.add_mid, Nat.zero_add]
  rw [hp]; exact hrun
 ·have e1 : (cur.toList.take (i.toNat * GoRep.size α + off) ++ c.cells.toList ++ cur.toList.drop (i.toNat * GoRep.size α + off + c.cells.size)) = cur.toList.set (i.toNat * GoRep.size α + off) c := by
   rw [hcc]
   rw [List.set_eq_take_append_cons_drop, if_pos (by simp; omega)]
   simp
  have u : Upd w k (cur.toList.set (i.toNat * GoRep.size α + off) c).toArray (w.setRow k (cur.toList.take (i.toNat * GoRep.size α + off) ++ c.cells.toList ++ cur.toList.drop (i.toNat * GoRep.size α + off + c.cells.size)).toArray) := ⟨by rw [e1], (H2.blk 0).lt⟩
  have H3 := H2.upd 0 u
  have H4 := SL.toRow (size := GoRep.size α) (cap := cap) xs.length H3 q1 q2 (by simp; omega)
  have e2 : ((cur.toList.set (i.toNat * GoRep.size α + off) c).toArray.toList.take (xs.length * GoRep.size α)) = (cs.set i.toNat ((cs[i.toNat]).set off c)).flatten := by
   rw [flatten_set (size := GoRep.size α) cs i.toNat off (fun x hx => RelL.lens r x hx) hoff hic, ← q4]
   simp only [List.take_set]
  rw [e2] at H4
  have hlx : (xs.set i.toNat x').length = xs.length := by simp
  refine SL.slI (cs := cs.set i.toNat ((cs[i.toNat]).set off c)) (r.set i.toNat _ (hx _ (r.at i.toNat hi hic))) ?_
  rw [hlx]; exact H4
end
end Go.Lm

/- Rows of bytes: made, copied into; the least and the greatest of two. General: no program in sight. -/
namespace Go.Lm
open Go Go.RowKit
section
variable {P : Program} {W : Base} {g w : World} {l : List Atom}
theorem X_min {ρ : Operand → Value} {o : Oper} {x y : Operand} {t u : TypeId} {a b : Int} {k : IntKind} (ho : o.op = .call { callee := .builtin .min, args := #[x, y], argTypes := #[t, u] }) (hx : ρ x = .int k a) (hy : ρ y = .int k b) : (execOp ρ o).run P w = .ok (.value (.int k (min a b))) w := by
 simp [execOp, ho, resolve, invoke, builtin, hx, hy, Builtin.min_, Builtin.min2]
 try (split <;> omega)
theorem X_max {ρ : Operand → Value} {o : Oper} {x y : Operand} {t u : TypeId} {a b : Int} {k : IntKind} (ho : o.op = .call { callee := .builtin .max, args := #[x, y], argTypes := #[t, u] }) (hx : ρ x = .int k a) (hy : ρ y = .int k b) : (execOp ρ o).run P w = .ok (.value (.int k (max a b))) w := by
 simp [execOp, ho, resolve, invoke, builtin, hx, hy, Builtin.max_, Builtin.max2]
 try (split <;> omega)
def bV (xs : List UInt8) : List Value := xs.map fun b => .int .u8 b.toNat
theorem relB : ∀ {cs : List (List Value)} {xs : List UInt8}, RelL g cs xs → cs.flatten = bV xs
 | [], [], _ => rfl
 | c :: cs, x :: xs, h => by
  have h1 : c = [.int .u8 x.toNat] := h.1
  rw [List.flatten_cons, relB h.2, h1]; rfl
theorem relB_mk : ∀ xs : List UInt8, RelL g (xs.map fun b => [Value.int .u8 b.toNat]) xs
 | [] => trivial
 | _ :: xs => ⟨rfl, relB_mk xs⟩
theorem flat_mk (xs : List UInt8) : (xs.map fun b => [Value.int .u8 b.toNat]).flatten = bV xs := by
 induction xs with
 | nil => rfl
 | cons x xs ih => rw [List.map_cons, List.flatten_cons, ih]; rfl
theorem SL.slB {e : TypeId} {v : Value} {xs : List UInt8} (H : SL W g w (rowA e 1 v xs.length (bV xs) :: l)) : SL W g w (slA e v xs :: l) := by
 refine SL.slI (cs := xs.map fun b => [Value.int .u8 b.toNat]) (relB_mk xs) ?_
 rw [flat_mk]; exact H
theorem SL.slBO {e : TypeId} {v : Value} {xs : List UInt8} (H : SL W g w (slA e v xs :: l)) : SL W g w (rowA e 1 v xs.length (bV xs) :: l) := by
 obtain ⟨cs, r, H1⟩ := H.slO
 rw [relB r] at H1
 exact H1
def copyL (xs : List UInt8) (off : Nat) (ys : List UInt8) : List UInt8 := xs.take off ++ ys.take (xs.length - off) ++ xs.drop (off + min ys.length (xs.length - off))
theorem copyL_length (xs : List UInt8) (off : Nat) (ys : List UInt8) (h : off ≤ xs.length) : (copyL xs off ys).length = xs.length := by
 unfold copyL; simp; omega
theorem sliceV_all (v : Value) (n : Nat) (k cap : Nat) (h : v = .slice (some ⟨k, 0, none⟩) n cap) : sliceV 1 v 0 n = v := by
 subst h
 unfold sliceV
 simp only [Int.toNat_zero, Nat.zero_mul, Nat.sub_zero, Int.toNat_natCast]
 split
 ·rfl
 ·simp [Addr.add]
theorem SL.copyB {e dT sT ty : TypeId} {k cap : Nat} {xs ys : List UInt8} {y : Value} {off : Int} (H : SL W g w (slA e (.slice (some ⟨k, 0, none⟩) xs.length cap) xs :: l)) (hy : Rd g w y ys) (h0 : 0 ≤ off) (h1 : off ≤ xs.length) (ht : P.underlying dT = some (.slice e)) (hs : (P.info? e).map (·.size) = some 1) :
  ∃ w', (Builtin.copy_ #[dT, sT] ty #[sliceV 1 (.slice (some ⟨k, 0, none⟩) xs.length cap) off xs.length, y]).run P w = .ok (.int .i64 (min ys.length (xs.length - off.toNat) : Nat)) w' ∧ SL W g w' (slA e (.slice (some ⟨k, 0, none⟩) xs.length cap) (copyL xs off.toNat ys) :: l) := by
 have H1 := H.slBO
 rcases H1.ofRow with ⟨h, _⟩ | ⟨k', cap', cur, hv, q1, q2, q3, q4, H2⟩
 ·cases h
 cases hv
 rw [Nat.mul_one] at q4 q3
 have hlc : cur.toList.length = cap := by simpa using q3
 have hbx : (bV xs).length = xs.length := by simp [bV]
 -- the destination
 have hdst : ∃ o, sliceV 1 (.slice (some ⟨k, 0, none⟩) xs.length cap) off xs.length = .slice (some ⟨k, o, none⟩) (xs.length - off.toNat) (cap - off.toNat) ∧ (o = off.toNat ∨ (o = 0 ∧ xs.length - off.toNat = 0)) := by
  unfold sliceV
  simp only [Option.map_some, Int.toNat_natCast, Nat.mul_one]
  by_cases hc : cap = off.toNat
  ·exact ⟨0, by rw [if_pos hc], .inr ⟨rfl, by omega⟩⟩
  ·refine ⟨off.toNat, by rw [if_neg hc, Addr.add_mid, Nat.zero_add], .inl rfl⟩
 obtain ⟨o, hd, ho⟩ := hdst
 rw [hd]
 rcases hy with ⟨rfl, rfl⟩ | ⟨a, c, rfl, _, _, ds, hds, hcell⟩
 ·have hr := run_copy_nil (P := P) w dT sT ty e ⟨k, o, none⟩ (xs.length - off.toNat) (cap - off.toNat) ht (by cases hq : P.info? e <;> simp_all)
  refine ⟨w, by rw [hr]; simp [goInt], ?_⟩
  have : copyL xs off.toNat [] = xs := by unfold copyL; simp
  rw [this]; exact H
 ·have hfl := relB hds
  obtain ⟨m, hm⟩ : ∃ m, m = min ys.length (xs.length - off.toNat) := ⟨_, rfl⟩
  have hmN : Nat.min ys.length (xs.length - off.toNat) = m := hm.symm
  have hy1 : ((bV ys).take (xs.length - off.toNat)).length = m := by
   simp [bV]; omega
  have hr := run_copy_row (P := P) w dT sT ty e k o (xs.length - off.toNat) (cap - off.toNat) a ys.length c cur e ((bV ys).take (xs.length - off.toNat)) ht hs (H2.blk 0) (by rw [hmN]; exact hy1)
   (fun j u hj => by
    rw [List.getElem?_take] at hj
    split at hj
    ·exact hcell j u (by rw [hfl]; exact hj)
    ·cases hj)
   (by rw [hy1, ← Array.length_toList, hlc]; rcases ho with h | h <;> omega)
   (fun u hu => by
    have hu' := List.mem_of_mem_take hu
    unfold bV at hu'
    obtain ⟨b, _, rfl⟩ := List.mem_map.1 hu'
    rfl)
  rw [hy1] at hr
  rw [← hm]
  refine ⟨_, hr, ?_⟩
  have hu : Upd w k (cur.toList.take o ++ (bV ys).take (xs.length - off.toNat) ++ cur.toList.drop (o + m)).toArray (w.setRow k (cur.toList.take o ++ (bV ys).take (xs.length - off.toNat) ++ cur.toList.drop (o + m)).toArray) := ⟨rfl, (H2.blk 0).lt⟩
  have H3 := H2.upd 0 hu
  have hlen : (copyL xs off.toNat ys).length = xs.length := copyL_length _ _ _ (by omega)
  have H4 := SL.toRow (size := 1) (cap := cap) xs.length H3 q1 q2 (by
   simp only [List.size_toArray, List.length_append, List.length_drop, hlc, Nat.mul_one, hy1]
   rw [List.length_take, hlc]
   rcases ho with h | h <;> omega)
  have e1 : (cur.toList.take o ++ (bV ys).take (xs.length - off.toNat) ++ cur.toList.drop (o + m)).toArray.toList.take (xs.length * 1) = bV (copyL xs off.toNat ys) := by
   show (cur.toList.take o ++ (bV ys).take (xs.length - off.toNat) ++ cur.toList.drop (o + m)).take (xs.length * 1) = _
   rw [Nat.mul_one]
   unfold copyL
   rw [← hm]
   generalize hT : (bV ys).take (xs.length - off.toNat) = T at hy1
   have hR : bV (xs.take off.toNat ++ ys.take (xs.length - off.toNat) ++ xs.drop (off.toNat + m)) = (cur.toList.take xs.length).take off.toNat ++ T ++ (cur.toList.take xs.length).drop (off.toNat + m) := by
    rw [q4, ← hT]
    simp only [bV, List.map_append, List.map_take, List.map_drop]
   rw [hR]
   have ho' : cur.toList.take o ++ T ++ cur.toList.drop (o + m) = cur.toList.take off.toNat ++ T ++ cur.toList.drop (off.toNat + m) := by
    rcases ho with h | ⟨h, h2⟩
    ·rw [h]
    ·have hm0 : m = 0 := by omega
     have hT0 : T = [] := List.eq_nil_of_length_eq_zero (by omega)
     rw [hT0, h, hm0]
     simp
   rw [ho']
   rw [List.take_append, List.take_append, List.take_take, List.length_append, List.length_take, hy1, hlc]
   have m1 : min xs.length off.toNat = off.toNat := by omega
   have m2 : min off.toNat cap = off.toNat := by omega
   rw [m1, m2]
   have m3 : T.take (xs.length - off.toNat) = T := List.take_of_length_le (by omega)
   rw [m3]
   rw [List.take_take, List.drop_take]
   have m4 : min off.toNat xs.length = off.toNat := by omega
   rw [m4]
   first | done | (congr 2; done) | (congr 2; omega)
  rw [e1] at H4
  refine SL.slB ?_
  rw [hlen]; exact H4
end
end Go.Lm



namespace Go.Lm
open Go Go.RowKit

inductive Ty
 | int (k : IntKind) | u8 | str | bool | unit
 | pair (a b : Ty)
 | sl (e : Ty)
def IntKind.beq : IntKind → IntKind → Bool
 | .i8, .i8 | .i16, .i16 | .i32, .i32 | .i64, .i64 | .u8, .u8 | .u16, .u16 | .u32, .u32 | .u64, .u64 => true
 | _, _ => false
theorem IntKind.eq_of_beq : ∀ {a b : IntKind}, IntKind.beq a b = true → a = b := by
 intro a b; cases a <;> cases b <;> intro h <;> first | rfl | cases h
def Ty.beq : Ty → Ty → Bool
 | .int k, .int k' => IntKind.beq k k'
 | .u8, .u8 | .str, .str | .bool, .bool | .unit, .unit => true
 | .pair a b, .pair c d => a.beq c && b.beq d
 | .sl a, .sl b => a.beq b
 | _, _ => false
theorem Ty.eq_of_beq : ∀ {a b : Ty}, a.beq b = true → a = b
 | .int k, b, h => by
  cases b <;> first | cases h | (rw [IntKind.eq_of_beq (a := k) h])
 | .u8, b, h => by cases b <;> first | rfl | cases h
 | .str, b, h => by cases b <;> first | rfl | cases h
 | .bool, b, h => by cases b <;> first | rfl | cases h
 | .unit, b, h => by cases b <;> first | rfl | cases h
 | .pair a b, t, h => by
  cases t <;> try cases h
  rename_i c d
  have h' : (a.beq c && b.beq d) = true := h
  rw [Bool.and_eq_true] at h'
  rw [Ty.eq_of_beq h'.1, Ty.eq_of_beq h'.2]
 | .sl a, b, h => by
  cases b <;> try cases h
  rename_i c
  rw [Ty.eq_of_beq (a := a) (b := c) h]
@[reducible] def Ty.den : Ty → Type
 | .int _ => Int
 | .u8 => UInt8
 | .str => ByteArray
 | .bool => Bool
 | .unit => Unit
 | .pair a b => a.den × b.den
 | .sl e => List e.den
def Ty.dflt : (τ : Ty) → τ.den
 | .int _ => (0 : Int)
 | .u8 => (0 : UInt8)
 | .str => (⟨#[]⟩ : ByteArray)
 | .bool => false
 | .unit => ()
 | .pair a b => (a.dflt, b.dflt)
 | .sl _ => []
def Ty.size : Ty → Nat
 | .unit => 0
 | .pair a b => a.size + b.size
 | _ => 1
def Ty.row : Ty → Bool
 | .unit | .pair .. => true
 | _ => false
@[reducible] def listRep (α : Type) (r : GoRep α) : GoRep (List α) := inferInstance
@[reducible] def Ty.rep : (τ : Ty) → GoRep τ.den
 | .int k => { size := 1, agg := false, rel := fun _ cs n => cs = [.int k n] ∧ (Lit.int k n).wf = true, mono := fun _ h => h, len := fun h => by rw [h.1]; rfl }
 | .u8 => (inferInstance : GoRep UInt8)
 | .str => (inferInstance : GoRep ByteArray)
 | .bool => (inferInstance : GoRep Bool)
 | .unit => { size := 0, agg := true, rel := fun _ cs _ => cs = [], mono := fun _ h => h, len := fun h => by rw [h]; rfl }
 | .pair a b =>
  {size := a.rep.size + b.rep.size, agg := true
   rel := fun w cs x => ∃ c1 c2, cs = c1 ++ c2 ∧ a.rep.rel w c1 x.1 ∧ b.rep.rel w c2 x.2
   mono := fun hl h => by
    obtain ⟨c1, c2, e, h1, h2⟩ := h
    exact ⟨c1, c2, e, a.rep.mono hl h1, b.rep.mono hl h2⟩
   len := fun h => by
    obtain ⟨c1, c2, e, h1, h2⟩ := h
    rw [e, List.length_append, a.rep.len h1, b.rep.len h2] }
 | .sl e => listRep e.den e.rep
theorem Ty.rep_size : ∀ τ : Ty, τ.rep.size = τ.size
 | .int _ | .u8 | .str | .bool | .unit | .sl _ => rfl
 | .pair a b => by
  show a.rep.size + b.rep.size = a.size + b.size
  rw [a.rep_size, b.rep_size]
def IsD (e : Ty) (g : World) (v : Value) (x : List e.den) : Prop := @Is (List e.den) (listRep e.den e.rep) g v x
theorem IsD.mono {e : Ty} {g g' : World} {v : Value} {x : List e.den} (m : Mono g g') (h : IsD e g v x) : IsD e g' v x := @Is.mono _ (listRep e.den e.rep) _ _ _ _ m h

def ixD (e : Ty) (x : List e.den) (i : Int) : e.den := x.getD i.toNat e.dflt
theorem elemD {e : Ty} {g : World} {v : Value} {x : List e.den} {i : Int} (h : IsD e g v x) (h0 : 0 ≤ i) (h1 : i < x.length) : ∃ cs, ElemAt g e.size v i cs ∧ e.rep.rel g cs (ixD e x i) := by
 letI := e.rep
 obtain ⟨cs, h2, h3⟩ := elem_at (α := e.den) (xs := x) (g := g) (v := v) (i := i) h h0 h1
 have hs : GoRep.size e.den = e.size := Ty.rep_size e
 rw [hs] at h2
 refine ⟨cs, h2, ?_⟩
 have : ixD e x i = x[i.toNat]'(by omega) := by
  unfold ixD
  rw [List.getD_eq_getElem?_getD, List.getElem?_eq_getElem (by omega)]; rfl
 rw [this]; exact h3

inductive Cl
 | k (v : Value)
 | d (e : Ty) (x : List e.den)
 | de (e : Ty) (x : List e.den) (i : Int) (off : Nat)
 | p (l : Nat) (off : Nat)
 | o (l : Nat)
 | os (l : Nat) (sz : Nat) (lo hi : Int)
 | oe (l : Nat) (sz : Nat) (i : Int) (off : Nat)
 | m (l : Nat)
 | sc (l off n : Nat)
 | fn (f : FuncId) (caps : List Cl)
 | ifc (t : TypeId) (c : Cl)
 | kl (l : Nat) (v : Value)
 | unk
def inK : IntKind → Int → Prop
 | .i8, n => -128 ≤ n ∧ n ≤ 127
 | .i16, n => -32768 ≤ n ∧ n ≤ 32767
 | .i32, n => -2147483648 ≤ n ∧ n ≤ 2147483647
 | .i64, n => -9223372036854775808 ≤ n ∧ n ≤ 9223372036854775807
 | .u8, n => 0 ≤ n ∧ n ≤ 255
 | .u16, n => 0 ≤ n ∧ n ≤ 65535
 | .u32, n => 0 ≤ n ∧ n ≤ 4294967295
 | .u64, n => 0 ≤ n ∧ n ≤ 18446744073709551615
theorem inK_wf {k : IntKind} {n : Int} : inK k n ↔ (Lit.int k n).wf = true := by
 cases k <;> simp [inK, Lit.wf, IntKind.min, IntKind.max, IntKind.signed, IntKind.bits]
def okV : Value → Prop
 | .int k n => inK k n
 | .string s => s.size ≤ maxLen
 | v => v.oneCell' = true
abbrev Env := List Value
mutual
def RelC (E : Env) (g : World) : Cl → Value → Prop
 | .k v, u => u = v ∧ okV v
 | .d e x, u => IsD e g u x
 | .de e x i off, u => (0 ≤ i ∧ i < x.length ∧ off ≤ e.size) ∧ ∃ v, IsD e g v x ∧ u = addP (elemP e.size v i) off
 | .p l off, u => ∃ b, E[l]? = some (ptr b 0) ∧ u = ptr b off
 | .o l, u => E[l]? = some u ∧ ∃ a n c, u = .slice a n c
 | .os l sz lo hi, u => ∃ v, E[l]? = some v ∧ u = sliceV sz v lo hi ∧ ∃ a n c, u = .slice a n c
 | .oe l sz i off, u => ∃ v, E[l]? = some v ∧ u = addP (elemP sz v i) off ∧ ∃ a, u = .pointer (some a)
 | .m l, u => ∃ b, E[l]? = some (ptr b 0) ∧ u = .map (some b)
 | .sc l off n, u => ∃ b c, E[l]? = some (ptr b 0) ∧ (n ≤ c ∧ c ≤ maxLen) ∧ u = .slice (some ⟨b, off, none⟩) n c
 | .fn f caps, u => ∃ us, RelCs E g caps us ∧ u = .func (.func f) #[] us.toArray
 | .ifc t c, u => ∃ v, RelC E g c v ∧ u = .iface t v
 | .kl l v, u => (∃ x, E[l]? = some x) ∧ u = v ∧ v.oneCell' = true
 | .unk, u => u.oneCell' = true
def RelCs (E : Env) (g : World) : List Cl → List Value → Prop
 | [], us => us = []
 | c :: l, us => ∃ u r, us = u :: r ∧ RelC E g c u ∧ RelCs E g l r
end
section
variable {E E' : Env} {g g' : World}
def EnvLe (E E' : Env) : Prop := ∀ (l : Nat) (v : Value), E[l]? = some v → E'[l]? = some v
theorem EnvLe.refl (E : Env) : EnvLe E E := fun _ _ h => h
theorem EnvLe.trans {A B C : Env} (h : EnvLe A B) (k : EnvLe B C) : EnvLe A C := fun l v e => k l v (h l v e)
theorem EnvLe.app (E L : Env) : EnvLe E (E ++ L) := fun l v h => by
 have hl := (List.getElem?_eq_some_iff.1 h).1
 rw [List.getElem?_append_left hl]; exact h
mutual
theorem RelC.mono (he : EnvLe E E') (m : Mono g g') : ∀ {c : Cl} {u : Value}, RelC E g c u → RelC E' g' c u
 | .k _, _, h => h
 | .d _ _, _, h => IsD.mono m h
 | .de _ _ _ _, _, ⟨h, v, h1, h2⟩ => ⟨h, v, h1.mono m, h2⟩
 | .p _ _, _, ⟨b, h1, h2⟩ => ⟨b, he _ _ h1, h2⟩
 | .o _, _, ⟨h, h2⟩ => ⟨he _ _ h, h2⟩
 | .os _ _ _ _, _, ⟨v, h1, h2⟩ => ⟨v, he _ _ h1, h2⟩
 | .oe _ _ _ _, _, ⟨v, h1, h2⟩ => ⟨v, he _ _ h1, h2⟩
 | .m _, _, ⟨b, h1, h2⟩ => ⟨b, he _ _ h1, h2⟩
 | .sc _ _ _, _, ⟨b, c, h1, h2⟩ => ⟨b, c, he _ _ h1, h2⟩
 | .fn _ _, _, ⟨us, h1, h2⟩ => ⟨us, h1.mono he m, h2⟩
 | .ifc _ _, _, ⟨v, h1, h2⟩ => ⟨v, h1.mono he m, h2⟩
 | .kl _ _, _, ⟨⟨x, h1⟩, h2⟩ => ⟨⟨x, he _ _ h1⟩, h2⟩
 | .unk, _, h => h
theorem RelCs.mono (he : EnvLe E E') (m : Mono g g') : ∀ {l : List Cl} {us : List Value}, RelCs E g l us → RelCs E' g' l us
 | [], _, h => h
 | _ :: _, _, ⟨u, r, e, h1, h2⟩ => ⟨u, r, e, h1.mono he m, h2.mono he m⟩
end
theorem RelCs.nil : RelCs E g [] [] := rfl
theorem RelCs.cons {c : Cl} {u : Value} {l : List Cl} {us : List Value} (h : RelC E g c u) (k : RelCs E g l us) : RelCs E g (c :: l) (u :: us) := ⟨u, us, rfl, h, k⟩
theorem RelCs.length : ∀ {l : List Cl} {us : List Value}, RelCs E g l us → us.length = l.length
 | [], _, h => by rw [show _ = _ from h]; rfl
 | _ :: _, _, ⟨_, _, e, _, h⟩ => by rw [e, List.length_cons, List.length_cons, h.length]
theorem RelCs.app : ∀ {l k : List Cl} {us vs : List Value}, RelCs E g l us → RelCs E g k vs → RelCs E g (l ++ k) (us ++ vs)
 | [], _, _, _, h, hk => by rw [show _ = _ from h]; exact hk
 | _ :: _, _, _, _, ⟨u, r, e, h1, h2⟩, hk => by rw [e]; exact ⟨u, r ++ _, rfl, h1, h2.app hk⟩
theorem RelCs.get : ∀ {l : List Cl} {us : List Value} {i : Nat} {c : Cl}, RelCs E g l us → l[i]? = some c → ∃ u, us[i]? = some u ∧ RelC E g c u
 | [], _, _, _, _, h => by simp at h
 | x :: l, _, 0, c, ⟨u, r, e, h1, _⟩, h => by
  have : x = c := by simpa using h
  subst this
  exact ⟨u, by rw [e]; rfl, h1⟩
 | x :: l, _, i + 1, c, ⟨u, r, e, _, h2⟩, h => by
  obtain ⟨v, h3, h4⟩ := RelCs.get (i := i) h2 (by simpa using h)
  exact ⟨v, by rw [e]; simpa using h3, h4⟩
theorem RelCs.drop : ∀ {l : List Cl} {us : List Value} (n : Nat), RelCs E g l us → RelCs E g (l.drop n) (us.drop n)
 | _, _, 0, h => h
 | [], us, n + 1, h => by rw [show us = [] from h]; exact RelCs.nil
 | _ :: l, _, n + 1, ⟨u, r, e, _, h2⟩ => by rw [e]; exact h2.drop n
theorem RelCs.take : ∀ {l : List Cl} {us : List Value} (n : Nat), RelCs E g l us → RelCs E g (l.take n) (us.take n)
 | _, _, 0, h => rfl
 | [], us, n + 1, h => by rw [show us = [] from h]; exact RelCs.nil
 | _ :: l, _, n + 1, ⟨u, r, e, h1, h2⟩ => by rw [e]; exact ⟨u, r.take n, rfl, h1, h2.take n⟩
theorem RelCs.set : ∀ {l : List Cl} {us : List Value} (i : Nat) {c : Cl} {u : Value}, RelCs E g l us → RelC E g c u → RelCs E g (l.set i c) (us.set i u)
 | [], us, _, _, _, h, _ => by rw [show us = [] from h]; exact RelCs.nil
 | _ :: l, _, 0, c, u, ⟨x, r, e, _, h2⟩, hc => by rw [e]; exact ⟨u, r, rfl, hc, h2⟩
 | _ :: l, _, i + 1, c, u, ⟨x, r, e, h1, h2⟩, hc => by rw [e]; exact ⟨x, r.set i u, rfl, h1, h2.set i hc⟩
end

def Ty.cells : (τ : Ty) → τ.den → List Cl
 | .int k, n => [.k (.int k n)]
 | .u8, b => [.k (.int .u8 (b.toNat : Int))]
 | .str, s => [.k (.string s)]
 | .bool, b => [.k (.bool b)]
 | .unit, _ => []
 | .pair a b, x => a.cells x.1 ++ b.cells x.2
 | .sl e, x => [.d e x]
def Ty.ok : (τ : Ty) → τ.den → Prop
 | .int k, n => inK k n
 | .str, s => s.size ≤ 9223372036854775807
 | .pair a b, x => a.ok x.1 ∧ b.ok x.2
 | .sl _, x => x.length ≤ 9223372036854775807
 | _, _ => True
theorem isD_len {e : Ty} {g : World} {v : Value} {x : List e.den} (h : IsD e g v x) : x.length ≤ 9223372036854775807 := by
 have := @Is.len_le e.den e.rep g v x h
 omega
theorem rel_cells (E : Env) (g : World) : ∀ (τ : Ty) {x : τ.den} {us : List Value}, τ.rep.rel g us x → RelCs E g (τ.cells x) us ∧ τ.ok x
 | .int k, x, us, h => ⟨⟨_, [], h.1, ⟨rfl, inK_wf.2 h.2⟩, rfl⟩, inK_wf.2 h.2⟩
 | .u8, x, us, h => ⟨⟨_, [], h, ⟨rfl, by
   have h1 : x.toNat < 256 := UInt8.toNat_lt x
   show (0 : Int) ≤ (x.toNat : Int) ∧ (x.toNat : Int) ≤ 255
   omega⟩, rfl⟩, trivial⟩
 | .str, x, us, h => ⟨⟨_, [], h.1, ⟨rfl, h.2⟩, rfl⟩, h.2⟩
 | .bool, x, us, h => ⟨⟨_, [], h, ⟨rfl, rfl⟩, rfl⟩, trivial⟩
 | .unit, x, us, h => ⟨h, trivial⟩
 | .pair a b, x, us, ⟨c1, c2, e, h1, h2⟩ => by
  obtain ⟨p1, p2⟩ := rel_cells E g a h1
  obtain ⟨q1, q2⟩ := rel_cells E g b h2
  rw [e]
  exact ⟨p1.app q1, p2, q2⟩
 | .sl e, x, us, ⟨v, h1, h2⟩ => by
  have hv : IsD e g v x := (@is_list e.den e.rep g v x).2 h2
  exact ⟨⟨v, [], h1, hv, rfl⟩, isD_len hv⟩
def ofInt (k : IntKind) : List Cl → Option (Int × List Cl)
 | .k (.int k' n) :: r => if k' = k then some (n, r) else none
 | _ => none
def ofU8 : List Cl → Option (UInt8 × List Cl)
 | .k (.int .u8 n) :: r => some (UInt8.ofNat n.toNat, r)
 | _ => none
def ofStr : List Cl → Option (ByteArray × List Cl)
 | .k (.string s) :: r => some (s, r)
 | _ => none
def ofBool : List Cl → Option (Bool × List Cl)
 | .k (.bool b) :: r => some (b, r)
 | _ => none
def castD {e e' : Ty} (h : e' = e) (x : List e'.den) : List e.den := h ▸ x
def asD {e' : Ty} (e : Ty) (x : List e'.den) : Option (List e.den) := if h : e'.beq e = true then some (castD (Ty.eq_of_beq h) x) else none
theorem asD_some {e e' : Ty} {x : List e'.den} {y : List e.den} (h : asD e x = some y) : ∃ q : e' = e, y = castD q x := by
 unfold asD at h
 split at h
 ·exact ⟨_, (Option.some.inj h).symm⟩
 ·cases h
def ofSl (e : Ty) : List Cl → Option (List e.den × List Cl)
 | .k (.slice none 0 0) :: r => some ([], r)
 | .d _ x :: r => match asD e x with
  | some y => some (y, r)
  | none => none
 | _ => none
def Ty.of : (τ : Ty) → List Cl → Option (τ.den × List Cl)
 | .int k, l => ofInt k l
 | .u8, l => ofU8 l
 | .str, l => ofStr l
 | .bool, l => ofBool l
 | .unit, l => some ((), l)
 | .pair a b, l => match a.of l with
  | some (x, r) => match b.of r with
   | some (y, r') => some ((x, y), r')
   | none => none
  | none => none
 | .sl e, l => ofSl e l
theorem of_cells {E : Env} {g : World} : ∀ (τ : Ty) {l r : List Cl} {x : τ.den} {us : List Value}, τ.of l = some (x, r) → RelCs E g l us → ∃ u1 u2, us = u1 ++ u2 ∧ τ.rep.rel g u1 x ∧ RelCs E g r u2
 | .int k, l, r, x, us, h, hr => by
  change ofInt k l = _ at h
  unfold ofInt at h
  split at h
  ·split at h
   ·rename_i hk
    subst hk
    cases h
    obtain ⟨u, r1, e, ⟨h1, h2⟩, h3⟩ := hr
    subst h1
    exact ⟨[_], r1, e, ⟨rfl, inK_wf.1 h2⟩, h3⟩
   ·cases h
  ·cases h
 | .u8, l, r, x, us, h, hr => by
  change ofU8 l = _ at h
  unfold ofU8 at h
  split at h
  ·cases h
   obtain ⟨u, r1, e, ⟨h1, h2⟩, h3⟩ := hr
   subst h1
   refine ⟨[_], r1, e, ?_, h3⟩
   rename_i n
   have h2' : 0 ≤ n ∧ n ≤ 255 := h2
   show [Value.int .u8 n] = [Value.int .u8 ((UInt8.ofNat n.toNat).toNat : Int)]
   have : ((UInt8.ofNat n.toNat).toNat : Int) = n := by
    simp [UInt8.toNat_ofNat']
    omega
   rw [this]
  ·cases h
 | .str, l, r, x, us, h, hr => by
  change ofStr l = _ at h
  unfold ofStr at h
  split at h
  ·cases h
   obtain ⟨u, r1, e, ⟨h1, h2⟩, h3⟩ := hr
   subst h1
   exact ⟨[_], r1, e, ⟨rfl, h2⟩, h3⟩
  ·cases h
 | .bool, l, r, x, us, h, hr => by
  change ofBool l = _ at h
  unfold ofBool at h
  split at h
  ·cases h
   obtain ⟨u, r1, e, ⟨h1, h2⟩, h3⟩ := hr
   subst h1
   exact ⟨[_], r1, e, rfl, h3⟩
  ·cases h
 | .unit, l, r, x, us, h, hr => by
  cases h
  exact ⟨[], us, rfl, rfl, hr⟩
 | .pair a b, l, r, x, us, h, hr => by
  unfold Ty.of at h
  cases ha : a.of l with
  | none => simp [ha] at h
  | some p =>
   obtain ⟨x1, r1⟩ := p
   cases hb : b.of r1 with
   | none => simp [ha, hb] at h
   | some q =>
    obtain ⟨x2, r2⟩ := q
    simp [ha, hb] at h
    obtain ⟨rfl, rfl⟩ := h
    obtain ⟨u1, u2, e1, h1, h2⟩ := of_cells a ha hr
    obtain ⟨u3, u4, e2, h3, h4⟩ := of_cells b hb h2
    exact ⟨u1 ++ u3, u4, by rw [e1, e2, List.append_assoc], ⟨u1, u3, rfl, h1, h3⟩, h4⟩
 | .sl e, l, r, x, us, h, hr => by
  change ofSl e l = _ at h
  unfold ofSl at h
  split at h
  ·cases h
   obtain ⟨u, r1, eq, ⟨h1, h2⟩, h3⟩ := hr
   subst h1
   exact ⟨[_], r1, eq, ⟨_, rfl, .inl ⟨rfl, rfl⟩⟩, h3⟩
  ·split at h
   ·rename_i he
    obtain ⟨q, hy⟩ := asD_some he
    subst q
    cases h
    subst hy
    obtain ⟨u, r1, eq, h1, h3⟩ := hr
    exact ⟨[u], r1, eq, ⟨u, rfl, (@is_list _ (Ty.rep _) g u _).1 h1⟩, h3⟩
   ·cases h
  ·cases h
end Go.Lm

namespace Go.Lm
open Go Go.RowKit

inductive S1
 | c (x : Cl)
 | agg (l : List Cl)
inductive SV
 | v (x : S1)
 | tup (l : List S1)
 | any
abbrev SV.c (x : Cl) : SV := .v (.c x)
abbrev SV.k (v : Value) : SV := .v (.c (.k v))
abbrev SV.int (n : Int) : SV := .v (.c (.k (.int .i64 n)))
abbrev SV.bool (b : Bool) : SV := .v (.c (.k (.bool b)))
abbrev SV.str (s : ByteArray) : SV := .v (.c (.k (.string s)))
abbrev SV.und : SV := .tup []
def RelS (E : Env) (g : World) : S1 → Value → Prop
 | .c x, u => RelC E g x u
 | .agg l, u => ∃ us, RelCs E g l us ∧ u = .agg us.toArray
def RelSs (E : Env) (g : World) : List S1 → List Value → Prop
 | [], us => us = []
 | c :: l, us => ∃ u r, us = u :: r ∧ RelS E g c u ∧ RelSs E g l r
def RelV (E : Env) (g : World) : SV → Value → Prop
 | .v x, u => RelS E g x u
 | .tup l, u => ∃ us, RelSs E g l us ∧ u = .tuple us.toArray
 | .any, _ => True
section
variable {E E' : Env} {g g' : World}
theorem RelS.mono (he : EnvLe E E') (m : Mono g g') : ∀ {x : S1} {u : Value}, RelS E g x u → RelS E' g' x u
 | .c _, _, h => RelC.mono he m h
 | .agg _, _, ⟨us, h1, h2⟩ => ⟨us, h1.mono he m, h2⟩
theorem RelSs.mono (he : EnvLe E E') (m : Mono g g') : ∀ {l : List S1} {us : List Value}, RelSs E g l us → RelSs E' g' l us
 | [], _, h => h
 | _ :: _, _, ⟨u, r, e, h1, h2⟩ => ⟨u, r, e, h1.mono he m, h2.mono he m⟩
theorem RelV.mono (he : EnvLe E E') (m : Mono g g') : ∀ {x : SV} {u : Value}, RelV E g x u → RelV E' g' x u
 | .v _, _, h => RelS.mono he m h
 | .tup _, _, ⟨us, h1, h2⟩ => ⟨us, h1.mono he m, h2⟩
 | .any, _, _ => trivial
theorem RelSs.get : ∀ {l : List S1} {us : List Value} {i : Nat} {c : S1}, RelSs E g l us → l[i]? = some c → ∃ u, us[i]? = some u ∧ RelS E g c u
 | [], _, _, _, _, h => by simp at h
 | x :: l, _, 0, c, ⟨u, r, e, h1, _⟩, h => by
  have : x = c := by simpa using h
  subst this
  exact ⟨u, by rw [e]; rfl, h1⟩
 | x :: l, _, i + 1, c, ⟨u, r, e, _, h2⟩, h => by
  obtain ⟨v, h3, h4⟩ := RelSs.get (i := i) h2 (by simpa using h)
  exact ⟨v, by rw [e]; simpa using h3, h4⟩
theorem RelSs.length : ∀ {l : List S1} {us : List Value}, RelSs E g l us → us.length = l.length
 | [], _, h => by rw [show _ = _ from h]; rfl
 | _ :: _, _, ⟨_, _, e, _, h⟩ => by rw [e, List.length_cons, List.length_cons, h.length]
theorem relV_und : RelV E g .und undef := ⟨[], rfl, rfl⟩
def S1.cells : S1 → List Cl
 | .c x => [x]
 | .agg l => l
theorem RelC.one : ∀ {c : Cl} {u : Value}, RelC E g c u → u.oneCell' = true
 | .k v, _, ⟨h, hk⟩ => by
  rw [h]
  cases v <;> first | rfl | exact hk
 | .d e x, u, h => @one_is e.den e.rep _ _ _ h
 | .de e x i off, u, ⟨h0, v, h1, h2⟩ => by
  obtain ⟨cs, h3, _⟩ := elemD h1 h0.1 h0.2.1
  obtain ⟨a, ha, _⟩ := h3 g (Mono.refl g)
  rw [h2, ha]; rfl
 | .p l off, _, ⟨b, _, h⟩ => by rw [h]; rfl
 | .m l, _, ⟨b, _, h⟩ => by rw [h]; rfl
 | .sc l off n, _, ⟨b, c, _, _, h⟩ => by rw [h]; rfl
 | .fn f caps, _, ⟨us, _, h⟩ => by rw [h]; rfl
 | .ifc t c, _, ⟨v, _, h⟩ => by rw [h]; rfl
 | .unk, _, h => h
 | .kl _ _, _, ⟨_, h, h2⟩ => by rw [h]; exact h2
 | .o l, _, ⟨_, a, n, c, h⟩ => by rw [h]; rfl
 | .os l sz lo hi, _, ⟨_, _, _, a, n, c, h⟩ => by rw [h]; rfl
 | .oe l sz i off, _, ⟨_, _, _, a, h⟩ => by rw [h]; rfl
theorem RelCs.one : ∀ {l : List Cl} {us : List Value}, RelCs E g l us → ∀ u ∈ us, u.oneCell' = true
 | [], us, h, u, hu => by rw [show us = [] from h] at hu; cases hu
 | _ :: _, _, ⟨x, r, e, h1, h2⟩, u, hu => by
  rw [e] at hu
  rcases List.mem_cons.1 hu with hu | hu
  ·rw [hu]; exact h1.one
  ·exact h2.one u hu
theorem one_cells {u : Value} (h : u.oneCell' = true) : u.cells = #[u] := by cases u <;> first | rfl | cases h
theorem RelS.cells : ∀ {x : S1} {u : Value}, RelS E g x u → RelCs E g x.cells u.cells.toList
 | .c x, u, h => by
  have h' : RelC E g x u := h
  rw [one_cells h'.one]
  exact ⟨u, [], rfl, h', rfl⟩
 | .agg l, u, ⟨us, h1, h2⟩ => by rw [h2]; exact h1

inductive Kk
 | int | str
@[reducible] def Kk.den : Kk → Type
 | .int => Int
 | .str => ByteArray
@[reducible] def Kk.key : (k : Kk) → MKey k.den
 | .int => (inferInstance : MKey Int)
 | .str => (inferInstance : MKey ByteArray)
def Kk.get {α : Type} (k : Kk) (l : List (k.den × α)) (x : k.den) : Option α := @getK k.den k.key α l x
def Kk.put {α : Type} (k : Kk) (l : List (k.den × α)) (x : k.den) (v : α) : List (k.den × α) := @putK k.den k.key α l x v
def Kk.del {α : Type} (k : Kk) (l : List (k.den × α)) (x : k.den) : List (k.den × α) := @delK k.den k.key α l x
def kkOk (P : Program) (t : TypeId) (k : Kk) : Bool := match P.underlying t, k with
 | some (.int .i64), .int => true
 | some .string, .str => true
 | _, _ => false
def Kk.beq : Kk → Kk → Bool
 | .int, .int | .str, .str => true
 | _, _ => false
theorem Kk.eq_of_beq : ∀ {a b : Kk}, a.beq b = true → a = b := by
 intro a b; cases a <;> cases b <;> intro h <;> first | rfl | cases h
def castM {k' k : Kk} {e' e : Ty} (h : k' = k) (q : e' = e) (x : List (k'.den × e'.den)) : List (k.den × e.den) := h ▸ q ▸ x
def asM {k' : Kk} {e' : Ty} (k : Kk) (e : Ty) (x : List (k'.den × e'.den)) : Option (List (k.den × e.den)) :=
 if h : k'.beq k = true then (if q : e'.beq e = true then some (castM (Kk.eq_of_beq h) (Ty.eq_of_beq q) x) else none) else none
theorem asM_some {k' k : Kk} {e' e : Ty} {x : List (k'.den × e'.den)} {y : List (k.den × e.den)} (h : asM k e x = some y) : ∃ (p : k' = k) (q : e' = e), y = castM p q x := by
 unfold asM at h
 split at h
 ·split at h
  ·exact ⟨_, _, (Option.some.inj h).symm⟩
  ·cases h
 ·cases h
def IsV (g : World) (e : Ty) (u : Value) (x : e.den) : Prop := ∃ cs, e.rep.rel g cs x ∧ if e.row then u = .agg cs.toArray else cs = [u]
def MapVs (g : World) (k : Kk) (e : Ty) : List (k.den × Value) → List (k.den × e.den) → Prop
 | [], xs => xs = []
 | p :: m, xs => ∃ x r, xs = (p.1, x) :: r ∧ IsV g e p.2 x ∧ MapVs g k e m r
theorem IsV.mono (m : Mono g g') {e : Ty} {u : Value} {x : e.den} : IsV g e u x → IsV g' e u x := fun ⟨cs, h1, h2⟩ => ⟨cs, e.rep.mono m h1, h2⟩
theorem MapVs.mono (m : Mono g g') {k : Kk} {e : Ty} : ∀ {l : List (k.den × Value)} {xs : List (k.den × e.den)}, MapVs g k e l xs → MapVs g' k e l xs
 | [], _, h => h
 | _ :: _, _, ⟨x, r, q, h1, h2⟩ => ⟨x, r, q, h1.mono m, h2.mono m⟩

abbrev xaTy : Ty := .pair .str (.pair (.sl .u8) .unit)
def xaT (x : XattrD) : xaTy.den := (x.v.1, x.v.2.1, ())
def xaO (x : xaTy.den) : XattrD := ⟨(x.1, x.2.1, ⟨⟩)⟩
structure NodeIn (n : LNode) : Prop where
 kind : inK .i64 n.kind
 mode : inK .i64 n.mode
 uid : inK .i64 n.uid
 gid : inK .i64 n.gid
 up : inK .i64 n.up
 links : inK .i64 n.links
 ents : ∀ p ∈ n.ents, inK .i64 p.2
structure UpIn (q1 q2 nx : Int) (L : List (Int × LNode)) : Prop where
 q1 : inK .i64 q1
 q2 : inK .i64 q2
 nx : inK .i64 nx
 nodes : ∀ r n, getK L r = some n → NodeIn n
structure NodeOk (n : LNode) : Prop where
 toIn : NodeIn n
 data : n.data.length ≤ 9223372036854775807
 xattrs : n.xattrs.length ≤ 9223372036854775807
 target : n.target.size ≤ 9223372036854775807
 ents : n.ents.length ≤ 9223372036854775807
def nodeCs (l : Nat) (n : LNode) : List Cl := [.k (.slice none 0 0), .k (.int .i64 0), .k (.int .i64 n.kind), .k (.int .i64 n.mode), .k (.int .i64 n.uid), .k (.int .i64 n.gid), .d .u8 n.data, .k (.string n.target), .d xaTy (n.xattrs.map xaT), .k (.bool n.opq), .kl l n.vi, .k (.int .i64 n.up), .k (.int .i64 n.links)]
def upCs (l : Nat) (q1 q2 : Int) (mb : Nat) (nx : Int) : List Cl := [.k (.int .i64 q1), .k (.int .i64 q2), .kl l (.map (some mb)), .k (.int .i64 nx)]
abbrev noTy : Ty := .pair (.sl .str) (.pair (.int .i64) (.pair (.int .i64) (.pair (.pair (.int .i64) (.pair (.int .i64) (.pair (.int .i64) .unit))) (.pair (.sl .u8) (.pair .str (.pair (.sl xaTy) (.pair .bool .unit)))))))
abbrev enTy : Ty := .pair (.int .i64) (.pair .str (.pair (.int .i64) .unit))
abbrev NoD := List ByteArray × Int × Int × (Int × Int × Int × Unit) × List UInt8 × ByteArray × List (ByteArray × List UInt8 × Unit) × Bool × Unit
abbrev EnD := Int × ByteArray × Int × Unit
structure UpY where
 q1 : Int
 q2 : Int
 L : List NoD
 E : List EnD
 nx : Int
def isI (r : Int) (n : NoD) : Bool := n.2.1 == r
def isE (d : Int) (s : ByteArray) (e : EnD) : Bool := e.1 == d && decide (e.2.1 = s)
def toR (r : Int) (e : EnD) : Bool := e.2.2.1 == r
def ofD (d : Int) (e : EnD) : Bool := e.1 == d
def UpY.at (Y : UpY) (r : Int) : Option NoD := Y.L.find? (isI r)
def UpY.ent (Y : UpY) (d : Int) (s : ByteArray) : Option EnD := Y.E.find? (isE d s)
def UpY.links (Y : UpY) (r : Int) : Int := if r = 1 then 1 else (Y.E.countP (toR r) : Int)
structure RepN (Y : UpY) (r : Int) (n : LNode) (y : NoD) : Prop where
 kind : n.kind = y.2.2.1
 mode : n.mode = y.2.2.2.1.1
 uid : n.uid = y.2.2.2.1.2.1
 gid : n.gid = y.2.2.2.1.2.2.1
 data : n.data = y.2.2.2.2.1
 target : n.target = y.2.2.2.2.2.1
 xattrs : n.xattrs.map xaT = y.2.2.2.2.2.2.1
 opq : n.opq = y.2.2.2.2.2.2.2.1
 ents : n.ents.Perm ((Y.E.filter (ofD r)).map fun e => (e.2.1, e.2.2.1))
 links : n.links = Y.links r
 up : n.kind = 1 → ∀ e ∈ Y.E, e.2.2.1 = r → n.up = e.1
structure RepY (L : List (Int × LNode)) (Y : UpY) : Prop where
 keys : (L.map (·.1)).Perm (Y.L.map (·.2.1))
 nodes : ∀ r n, getK L r = some n → ∃ y, Y.at r = some y ∧ RepN Y r n y
def kk2 (P : Program) (T : UTy) : Prop := P.underlying T.kI = some (.int .i64) ∧ P.underlying T.kS = some .string
def restA (P : Program) (T : UTy) (u : Nat) (q1 q2 : Int) (mb : Nat) (nx : Int) (L l1 l2 : List (Int × LNode)) : Atom :=
 conjA ((Lm.blk u #[.int .i64 q1, .int .i64 q2, .map (some mb), .int .i64 nx] T.U :: mapA P T.kI mb (ptrsV L) :: l1.map fun p => Lm.nodeA P T p.2) ++ (l2.map fun p => Lm.nodeA P T p.2))
def OutN (L : List (Int × LNode)) (r : Int) (n : LNode) (l1 l2 : List (Int × LNode)) : Prop := L = l1 ++ (r, n) :: l2 ∧ (∀ p ∈ l1, p.1 ≠ r) ∧ (∀ p ∈ l2, p.1 ≠ r)
inductive Pend
 | node (r : Int)
 | ent (d : Int) (z : ByteArray)
@[reducible] def Kk.uv : Kk → Type
 | .int => LNode
 | .str => Int
def Kk.uV : (k : Kk) → k.uv → Value
 | .int, n => ptr n.blk 0
 | .str, x => .int .i64 x
def Kk.lV (k : Kk) (l : List (k.den × k.uv)) : List (k.den × Value) := l.map fun p => (p.1, k.uV p.2)
inductive AbK
 | iter (z : ByteArray) (p : Nat)
 | bld (t e : TypeId) (x : List UInt8)
 | fz (T : UTy) (q1 q2 : Int) (mb : Nat) (nx : Int) (L : List (Int × LNode)) (z : Option LNode) (hz : Hp)
 | um (T : UTy) (mb : Nat) (L : List (Int × LNode))
 | pe (T : UTy) (q1 q2 : Int) (mb : Nat) (nx : Int) (L : List (Int × LNode)) (p : Pend) (st : Nat)
 | pw (T : UTy) (q1 q2 : Int) (mb : Nat) (nx : Int) (L : List (Int × LNode)) (r : Int) (m : LNode) (e : TypeId) (xs : List UInt8)
 | mit (k : Kk) (kt : TypeId) (l : Nat) (hz : Hp) (v : Value) (left : List (k.den × k.uv)) (cur : Option (k.den × k.uv))
 | upr (T : UTy) (Y : UpY)
 | rf (tU tN tE : TypeId) (Y : UpY)
def slO (e : Ty) (t : TypeId) (v : Value) (xs : List e.den) : Atom := @slA e.den e.rep t v xs
def bldA (t e : TypeId) (x : List UInt8) (v : Value) : Atom :=
 exA fun (q : Nat × Value × Value) => [pureA (v = ptr q.1 0 ∧ (q.2.1 = .pointer none ∨ q.2.1 = ptr q.1 0)), Lm.blk q.1 #[q.2.1, q.2.2] t, slO .u8 e q.2.2 x]
def fzA (P : Program) (T : UTy) (u : Nat) (q1 q2 : Int) (mb : Nat) (nx : Int) (L : List (Int × LNode)) (hz : Hp) : Option LNode → Atom
 | none => ⟨fun g h => h = hz ∧ (upA P T u q1 q2 mb nx L).sat g h, fun m ⟨e, s⟩ => ⟨e, Atom.mono _ m s⟩⟩
 | some n => ⟨fun g h => NodeIn n ∧ ∃ h1, Hp.apart h1 hz ∧ h = h1.join hz ∧ (upA P T u q1 q2 mb nx L).sat g h1 ∧ (nodeA P T n).sat g hz, fun m ⟨i, h1, a, e, s1, s2⟩ => ⟨i, h1, a, e, Atom.mono _ m s1, Atom.mono _ m s2⟩⟩
def peA (P : Program) (T : UTy) (u : Nat) (q1 q2 : Int) (mb : Nat) (nx : Int) (L : List (Int × LNode)) (st : Nat) : Pend → Atom
 | .node r => exA fun val : Value => Lm.blk u #[.int .i64 q1, .int .i64 q2, .map (some mb), .int .i64 nx] T.U :: mapSA P T.kI mb (putK (ptrsV L) r val) r st :: L.map fun p => nodeA P T p.2
 | .ent d z => exA fun x : Value × Nat × LNode × List (Int × LNode) × List (Int × LNode) => [pureA (OutN L d x.2.2.1 x.2.2.2.1 x.2.2.2.2 ∧ x.2.2.1.vi = .map (some x.2.1)), isA x.2.2.1.vd x.2.2.1.data, isA x.2.2.1.vx x.2.2.1.xattrs, pureA (x.2.2.1.target.size ≤ maxLen ∧ (x.2.2.1.kind = 1 → ∃ b, x.2.2.1.vi = .map (some b))), Lm.blk x.2.2.1.blk x.2.2.1.cells T.N, mapSA P T.kS x.2.1 (putK (entsV x.2.2.1.ents) z x.1) z st, restA P T u q1 q2 mb nx L x.2.2.2.1 x.2.2.2.2]
def pwA (P : Program) (T : UTy) (u : Nat) (q1 q2 : Int) (mb : Nat) (nx : Int) (L : List (Int × LNode)) (r : Int) (m : LNode) (e : TypeId) (xs : List UInt8) : Atom :=
 exA fun x : LNode × List (Int × LNode) × List (Int × LNode) => [pureA (OutN L r x.1 x.2.1 x.2.2 ∧ x.1.blk = m.blk ∧ NodeIn m), slO .u8 e m.vd xs, isA m.vx m.xattrs, pureA (m.target.size ≤ maxLen ∧ (m.kind = 1 → ∃ b, m.vi = .map (some b))), Lm.blk m.blk m.cells T.N, mapVA P T.kS m.vi (entsV m.ents), restA P T u q1 q2 mb nx L x.2.1 x.2.2]
def rfA (tU tN tE : TypeId) (Y : UpY) (v : Value) : Atom :=
 exA fun x : Nat × Value × Value => [pureA (v = ptr x.1 0 ∧ inK .i64 Y.q1 ∧ inK .i64 Y.q2 ∧ inK .i64 Y.nx), Lm.blk x.1 #[.int .i64 Y.q1, .int .i64 Y.q2, x.2.1, x.2.2, .int .i64 Y.nx] tU, slO noTy tN x.2.1 Y.L, slO enTy tE x.2.2 Y.E]
def umA (T : UTy) (mb : Nat) (L : List (Int × LNode)) : Atom :=
 exA fun P : Program => pureA (kk2 P T ∧ ∀ r n, getK L r = some n → NodeIn n) :: mapA P T.kI mb (ptrsV L) :: L.map fun p => nodeA P T p.2
def Kk.und : Kk → TypeDesc
 | .int => .int .i64
 | .str => .string
def Kk.lO (k : Kk) (c : Option (k.den × k.uv)) : Option (k.den × Value) := c.map fun p => (p.1, k.uV p.2)
def ObOf (hz : Hp) (v0 : Value) (ob : Array MapEntry × Nat) : Prop := v0 = .map none ∨ ∃ b, v0 = .map (some b) ∧ hz b = some (.map ob.1 ob.2)
def mitA (k : Kk) (kt : TypeId) (hz : Hp) (v0 : Value) (left : List (k.den × k.uv)) (cur : Option (k.den × k.uv)) (v : Value) : Atom :=
 exA fun x : Nat × Program × (Array MapEntry × Nat) => [pureA (v = ptr x.1 0 ∧ x.2.1.underlying kt = some k.und ∧ ObOf hz v0 x.2.2), @iterC k.den k.key x.2.1 kt v0 x.2.2 x.1 (k.lV left) (k.lO cur)]
def AbK.atom : AbK → Value → Atom
 | .fz T q1 q2 mb nx L z hz, v => ⟨fun g h => ∃ u P, v = ptr u 0 ∧ kk2 P T ∧ UpIn q1 q2 nx L ∧ (fzA P T u q1 q2 mb nx L hz z).sat g h, fun m ⟨u, P, h1, h2, h4, h3⟩ => ⟨u, P, h1, h2, h4, Atom.mono _ m h3⟩⟩
 | .um T mb L, _ => umA T mb L
 | .pe T q1 q2 mb nx L p st, v => ⟨fun g h => ∃ u P, v = ptr u 0 ∧ kk2 P T ∧ UpIn q1 q2 nx L ∧ (peA P T u q1 q2 mb nx L st p).sat g h, fun m ⟨u, P, h1, h2, h4, h3⟩ => ⟨u, P, h1, h2, h4, Atom.mono _ m h3⟩⟩
 | .pw T q1 q2 mb nx L r n e xs, v => ⟨fun g h => ∃ u P, v = ptr u 0 ∧ kk2 P T ∧ UpIn q1 q2 nx L ∧ (pwA P T u q1 q2 mb nx L r n e xs).sat g h, fun m ⟨u, P, h1, h2, h4, h3⟩ => ⟨u, P, h1, h2, h4, Atom.mono _ m h3⟩⟩
 | .mit k kt _ hz v0 left cur, v => mitA k kt hz v0 left cur v
 | .upr T Y, v => ⟨fun g h => ∃ u P mb L, v = ptr u 0 ∧ kk2 P T ∧ UpIn Y.q1 Y.q2 Y.nx L ∧ RepY L Y ∧ (upA P T u Y.q1 Y.q2 mb Y.nx L).sat g h, fun m ⟨u, P, mb, L, h1, h2, h4, h5, h3⟩ => ⟨u, P, mb, L, h1, h2, h4, h5, Atom.mono _ m h3⟩⟩
 | .rf tU tN tE Y, v => rfA tU tN tE Y v
 | .iter z p, v => ⟨fun _ h => z.size ≤ maxLen ∧ ∃ b, v = ptr b 0 ∧ h b = some (.stringIter z p), fun _ h => h⟩
 | .bld t e x, v => bldA t e x v
inductive HO
 | cells (t : TypeId) (cs : List Cl)
 | sl (t : TypeId) (e : Ty) (xs : List e.den)
 | held (t : TypeId) (e : Ty) (xs : List e.den)
 | map (t : TypeId) (k : Kk) (e : Ty) (xs : List (k.den × e.den))
 | abs (a : Value → Atom)
 | ab (k : AbK)
 | up (T : UTy) (q1 q2 : Int) (mb : Nat) (nx : Int) (L : List (Int × LNode))
 | gone
def cellsA (E : Env) (l : Nat) (t : TypeId) (cs : List Cl) : Atom :=
 ⟨fun g h => ∃ b us, E[l]? = some (ptr b 0) ∧ RelCs E g cs us ∧ h b = some (.cells us.toArray t (0, 0)), fun m ⟨b, us, h1, h2, h3⟩ => ⟨b, us, h1, h2.mono (EnvLe.refl _) m, h3⟩⟩
def atomO (E : Env) (l : Nat) : HO → Atom
 | .cells t cs => cellsA E l t cs
 | .sl t e xs => ⟨fun g h => ∃ v, E[l]? = some v ∧ (slO e t v xs).sat g h, fun m ⟨v, h1, h2⟩ => ⟨v, h1, Atom.mono _ m h2⟩⟩
 | .held _ e xs => ⟨fun g _ => ∃ v, E[l]? = some v ∧ IsD e g v xs, fun m ⟨v, h1, h2⟩ => ⟨v, h1, h2.mono m⟩⟩
 | .map t k e xs => ⟨fun g h => ∃ b m, E[l]? = some (ptr b 0) ∧ MapVs g k e m xs ∧ ∃ P, kkOk P t k = true ∧ (@mapA k.den k.key P t b m).sat g h, fun m ⟨b, l, h1, h2, h3⟩ => ⟨b, l, h1, h2.mono m, h3⟩⟩
 | .abs a => ⟨fun g h => ∃ v, E[l]? = some v ∧ (a v).sat g h, fun m ⟨v, h1, h2⟩ => ⟨v, h1, Atom.mono _ m h2⟩⟩
 | .ab k => ⟨fun g h => ∃ v, E[l]? = some v ∧ (k.atom v).sat g h, fun m ⟨v, h1, h2⟩ => ⟨v, h1, Atom.mono _ m h2⟩⟩
 | .up T q1 q2 mb nx L => ⟨fun g h => ∃ u P, E[l]? = some (ptr u 0) ∧ (kkOk P T.kI .int && kkOk P T.kS .str) = true ∧ UpIn q1 q2 nx L ∧ (upA P T u q1 q2 mb nx L).sat g h, fun m ⟨u, P, h1, h2, h4, h3⟩ => ⟨u, P, h1, h2, h4, Atom.mono _ m h3⟩⟩
 | .gone => pureA True
def atomsO (E : Env) : Nat → List HO → List Atom
 | _, [] => []
 | l, o :: r => atomO E l o :: atomsO E (l + 1) r
theorem atomO.env (he : EnvLe E E') {l : Nat} : ∀ {o : HO} {h : Hp}, (atomO E l o).sat g h → (atomO E' l o).sat g h
 | .cells _ _, _, ⟨b, us, h1, h2, h3⟩ => ⟨b, us, he _ _ h1, h2.mono he (Mono.refl _), h3⟩
 | .sl _ _ _, _, ⟨v, h1, h2⟩ => ⟨v, he _ _ h1, h2⟩
 | .held _ _ _, _, ⟨v, h1, h2⟩ => ⟨v, he _ _ h1, h2⟩
 | .map .., _, ⟨b, m, h1, h2⟩ => ⟨b, m, he _ _ h1, h2⟩
 | .abs _, _, ⟨v, h1, h2⟩ => ⟨v, he _ _ h1, h2⟩
 | .ab _, _, ⟨v, h1, h2⟩ => ⟨v, he _ _ h1, h2⟩
 | .up .., _, ⟨u, P, h1, h2⟩ => ⟨u, P, he _ _ h1, h2⟩
 | .gone, _, h => h
variable {F : List Atom}
theorem atomsO.env (he : EnvLe E E') : ∀ {H : List HO} {k : Nat} {h : Hp}, sats g (atomsO E k H ++ F) h → sats g (atomsO E' k H ++ F) h
 | [], _, _, s => s
 | _ :: _, _, _, ⟨h1, h2, ap, e, s1, s2⟩ => ⟨h1, h2, ap, e, atomO.env he s1, atomsO.env he s2⟩
theorem atomsO_length : ∀ (H : List HO) (k : Nat), (atomsO E k H).length = H.length
 | [], _ => rfl
 | _ :: r, k => by simp [atomsO, atomsO_length r (k + 1)]
theorem nthA_atoms : ∀ {H : List HO} {k l : Nat} {o : HO}, H[l]? = some o → nthA (atomsO E k H ++ F) l = some (atomO E (k + l) o)
 | [], _, _, _, h => by simp at h
 | x :: r, k, 0, o, h => by
  have : x = o := by simpa using h
  subst this; rfl
 | x :: r, k, l + 1, o, h => by
  have := nthA_atoms (H := r) (k := k + 1) (l := l) (o := o) (by simpa using h)
  rw [show k + (l + 1) = k + 1 + l by omega]
  exact this
theorem setA_atoms : ∀ {H : List HO} {k l : Nat} {o' : HO}, l < H.length → setA (atomsO E k H ++ F) l (atomO E (k + l) o') = atomsO E k (H.set l o') ++ F
 | [], _, _, _, h => by simp at h
 | x :: r, k, 0, o', h => rfl
 | x :: r, k, l + 1, o', h => by
  have := setA_atoms (H := r) (k := k + 1) (l := l) (o' := o') (by simpa using h)
  rw [show k + (l + 1) = k + 1 + l by omega]
  show atomO E k x :: setA (atomsO E (k + 1) r ++ F) l _ = atomO E k x :: (atomsO E (k + 1) (r.set l o') ++ F)
  rw [this]
theorem sats.toEnd {a : Atom} : ∀ {A : List Atom} {h : Hp}, sats g (a :: (A ++ F)) h → sats g (A ++ a :: F) h
 | [], _, s => s
 | _ :: _, _, s => by
  obtain ⟨h1, h2, ap, e, s1, s2⟩ := s.swap
  exact ⟨h1, h2, ap, e, s1, sats.toEnd s2⟩
theorem sats.ofEnd {a : Atom} : ∀ {A : List Atom} {h : Hp}, sats g (A ++ a :: F) h → sats g (a :: (A ++ F)) h
 | [], _, s => s
 | _ :: _, _, ⟨h1, h2, ap, e, s1, s2⟩ => sats.swap ⟨h1, h2, ap, e, s1, sats.ofEnd s2⟩
theorem atomsO_app : ∀ (H K : List HO) (k : Nat), atomsO E k (H ++ K) = atomsO E k H ++ atomsO E (k + H.length) K
 | [], _, _ => rfl
 | x :: r, K, k => by
  show atomO E k x :: atomsO E (k + 1) (r ++ K) = atomO E k x :: (atomsO E (k + 1) r ++ atomsO E (k + (r.length + 1)) K)
  rw [atomsO_app r K (k + 1), show k + 1 + r.length = k + (r.length + 1) by omega]
structure Sat (W : Base) (E : Env) (g w : World) (H : List HO) (F : List Atom) : Prop where
 sl : SL W g w (atomsO E 0 H ++ F)
 len : E.length = H.length
variable {W : Base} {w w' : World} {H : List HO}
theorem Sat.pick {l : Nat} {o : HO} (S : Sat W E g w H F) (h : H[l]? = some o) : SL W g w (atomO E l o :: dropA (atomsO E 0 H ++ F) l) := by
 have := S.sl.pick l (nthA_atoms h)
 rw [Nat.zero_add] at this; exact this
theorem Sat.back {l : Nat} {o : HO} (o' : HO) (hl : E.length = H.length) (h : H[l]? = some o) (S : SL W g w (atomO E l o' :: dropA (atomsO E 0 H ++ F) l)) : Sat W E g w (H.set l o') F := by
 have hlt := (List.getElem?_eq_some_iff.1 h).1
 refine ⟨?_, by simp [hl]⟩
 have := S.unpick l (nthA_atoms h)
 have h2 := setA_atoms (E := E) (F := F) (k := 0) (o' := o') hlt
 rw [Nat.zero_add] at h2
 rw [← h2]; exact this
theorem Sat.push {o : HO} {v : Value} (hl : E.length = H.length) (S : SL W g w (atomO (E ++ [v]) H.length o :: (atomsO E 0 H ++ F))) : Sat W (E ++ [v]) g w (H ++ [o]) F := by
 refine ⟨?_, by simp [hl]⟩
 rw [atomsO_app, List.append_assoc, Nat.zero_add]
 refine S.weak fun h s => ?_
 obtain ⟨h1, h2, ap, e, s1, s2⟩ := s
 exact sats.toEnd ⟨h1, h2, ap, e, s1, atomsO.env (EnvLe.app E [v]) s2⟩
theorem Sat.move {l : Nat} {o o2 : HO} {v : Value} (hl : E.length = H.length) (h : H[l]? = some o) (S : SL W g w (atomO (E ++ [v]) H.length o2 :: dropA (atomsO E 0 H ++ F) l)) : Sat W (E ++ [v]) g w (H.set l .gone ++ [o2]) F := by
 have hlen : (H.set l .gone).length = H.length := List.length_set
 refine Sat.push (H := H.set l .gone) (by simp [hl]) ?_
 rw [hlen]
 refine S.weak fun h0 s => ?_
 obtain ⟨h1, h2, ap, e, s1, s2⟩ := s
 refine ⟨h1, h2, ap, e, s1, ?_⟩
 have hlt := (List.getElem?_eq_some_iff.1 h).1
 have h3 := setA_atoms (E := E) (F := F) (k := 0) (o' := .gone) hlt
 rw [Nat.zero_add] at h3
 rw [← h3]
 exact sats.unpick (nthA_atoms h) ⟨fun _ => none, h2, fun _ => .inl rfl, by funext b; rfl, trivial, s2⟩
theorem Sat.le (S : Sat W E g w H F) (l : Le w w') : Sat W E g w' H F := ⟨S.sl.le l, S.len⟩
theorem Sat.m (S : Sat W E g w H F) : Mono g w := S.sl.m
end
end Go.Lm

namespace Go.Lm
open Go Go.RowKit

abbrev Slots := List (Nat × SV)
def lookS : Slots → Nat → Option SV
 | [], _ => none
 | (k, v) :: s, t => bif Nat.beq k t then some v else lookS s t
def lookO : List (Nat × HO) → Nat → Option HO
 | [], _ => none
 | (k, v) :: s, t => bif Nat.beq k t then some v else lookO s t
def nthH : List HO → Nat → HO
 | [], _ => .gone
 | o :: _, 0 => o
 | _ :: r, i + 1 => nthH r i
structure Bs where
 f : Slots
 h : List HO
structure Ov where
 f : Slots
 h : List (Nat × HO)
 n : Nat
def Bs.slot (b : Bs) (s : Ov) (t : Nat) : Option SV := match lookS s.f t with
 | some v => some v
 | none => lookS b.f t
def Bs.obj (b : Bs) (s : Ov) (l : Nat) : HO := match lookO s.h l with
 | some o => o
 | none => nthH b.h l
def Bs.heap (b : Bs) (s : Ov) : List HO := (List.range s.n).map (b.obj s)
def Ov.put (s : Ov) (d : Option Nat) (v : SV) : Ov := match d with
 | some t => { s with f := (t, v) :: s.f }
 | none => s
def Ov.setO (s : Ov) (l : Nat) (o : HO) : Ov := { s with h := (l, o) :: s.h }
def Ov.new (s : Ov) (o : HO) : Ov := { s with h := (s.n, o) :: s.h, n := s.n + 1 }

def okB : Value → Bool
 | .int k n => (Lit.int k n).wf
 | .string s => decide (s.size ≤ maxLen)
 | v => v.oneCell'
def constCs : List Value → Option (List Cl)
 | [] => some []
 | v :: r => if okB v then (match constCs r with | some l => some (.k v :: l) | none => none) else none
def constV : Value → Option SV
 | .agg cs => match constCs cs.toList with
  | some l => some (.v (.agg l))
  | none => none
 | v => if okB v then some (.k v) else none
def opd (b : Bs) (s : Ov) : Operand → Option SV
 | .tmp t => b.slot s t
 | .const v => constV v
 | .func f => some (.c (.fn f []))
 | .global _ => none

def br (c : Bool) (p q : Prop) : Prop := Bool.rec q p c
def sEq (a b : ByteArray) : Bool := a.toList == b.toList
def sLt (a b : ByteArray) : Bool := Op.bytesLess a.toList b.toList
def arith (k : IntKind) (z : Int) (K : SV → Prop) : Prop := match k with
 | .i64 => inK .i64 z ∧ K (.int z)
 | k => inK k (k.wrap z) → K (.k (.int k (k.wrap z)))
def bitsI (op : BinOp) (k : IntKind) (x y : Int) : Int :=
 let a := BitVec.ofInt k.bits x
 let b := BitVec.ofInt k.bits y
 k.wrap ((match op with
  | .and => a &&& b
  | .or => a ||| b
  | .xor => a ^^^ b
  | _ => a &&& ~~~b).toNat)
def shlI (k : IntKind) (x y : Int) : Int := k.wrap (x * 2 ^ (min y.toNat k.bits))
def shrI (k : IntKind) (x y : Int) : Int := x.fdiv (2 ^ (min y.toNat k.bits))
def intB (op : BinOp) (k : IntKind) (x y : Int) (K : SV → Prop) : Prop := match op with
 | .add => arith k (x + y) K
 | .sub => arith k (x - y) K
 | .mul => arith k (x * y) K
 | .quo => y ≠ 0 ∧ arith k (x.tdiv y) K
 | .rem => y ≠ 0 ∧ (inK k (x.tmod y) → K (.k (.int k (x.tmod y))))
 | .eql => K (.bool (x == y))
 | .neq => K (.bool (x != y))
 | .lss => K (.bool (decide (x < y)))
 | .leq => K (.bool (decide (x ≤ y)))
 | .gtr => K (.bool (decide (x > y)))
 | .geq => K (.bool (decide (x ≥ y)))
 | .shl | .shr => False
 | op => inK k (bitsI op k x y) → K (.k (.int k (bitsI op k x y)))
def strB (op : BinOp) (x y : ByteArray) (K : SV → Prop) : Prop := match op with
 | .add => x.size + y.size ≤ 9223372036854775807 ∧ K (.str (x ++ y))
 | .eql => K (.bool (sEq x y))
 | .neq => K (.bool (!sEq x y))
 | .lss => K (.bool (sLt x y))
 | .leq => K (.bool (sLt x y || sEq x y))
 | .gtr => K (.bool (!(sLt x y || sEq x y)))
 | .geq => K (.bool (!sLt x y))
 | _ => False
inductive Nil
 | yes | no | may (p : Prop) | unknown
def nilOf (b : Bs) (s : Ov) : Cl → Nil
 | .k (.pointer none) | .k (.slice none 0 0) | .k (.map none) | .k .nilFunc | .k .nilIface => .yes
 | .p .. | .de .. | .oe .. | .m .. | .fn .. | .ifc .. => .no
 | .d _ x => .may (x = [])
 | .o l => match b.obj s l with
  | .sl _ _ x | .held _ _ x => .may (x = [])
  | _ => .unknown
 | _ => .unknown
def nilTy (d : Option TypeDesc) (y : Cl) : Bool := match d, y with
 | some (.pointer _), .k (.pointer none) => true
 | some (.slice _), .k (.slice none 0 0) => true
 | some (.map _ _), .k (.map none) => true
 | some (.func _ _ _), .k .nilFunc => true
 | some (.interface _), .k .nilIface => true
 | _, _ => false
def ofTy (d : Option TypeDesc) (y : Cl) : Bool := match d, y with
 | some (.pointer _), .k (.pointer none) | some (.pointer _), .p .. | some (.pointer _), .de .. | some (.pointer _), .oe .. => true
 | some (.slice _), .k (.slice none 0 0) | some (.slice _), .d .. | some (.slice _), .o .. => true
 | some (.map _ _), .k (.map none) | some (.map _ _), .m .. => true
 | some (.func _ _ _), .k .nilFunc | some (.func _ _ _), .fn .. => true
 | some (.interface _), .k .nilIface | some (.interface _), .ifc .. => true
 | _, _ => false
def isIface : Cl → Bool
 | .k .nilIface => true
 | _ => false
def nilK (b : Bs) (s : Ov) (cst : Bool) (c : Cl) (eq : Bool) (K : SV → Prop) : Prop := match nilOf b s c with
 | .yes => if isIface c && !cst then False else K (.bool eq)
 | .no => K (.bool (!eq))
 | .may p => ∀ c : Bool, (c = true → p) → K (.bool (if eq then c else !c))
 | .unknown => False
def isEq : BinOp → Option Bool
 | .eql => some true
 | .neq => some false
 | _ => none
def eqFs (P : Program) : (fuel : Nat) → List Field → List Cl → List Cl → Option Bool
 | 0, _, _, _ => none
 | _ + 1, [], _, _ => some true
 | d + 1, f :: fs, xs, ys => if f.name != "_" then (match P.underlying f.type, P.info? f.type with
  | some (.int k0), some i => if Nat.beq i.size 1 then (match xs[f.offset]?, ys[f.offset]? with
   | some (.k (.int k a)), some (.k (.int k' b)) => if IntKind.beq k0 k && IntKind.beq k k' then (match eqFs P d fs xs ys with
    | some r => some ((a == b) && r)
    | none => none) else none
   | _, _ => none) else none
  | some .bool, some i => if Nat.beq i.size 1 then (match xs[f.offset]?, ys[f.offset]? with
   | some (.k (.bool a)), some (.k (.bool b)) => (match eqFs P d fs xs ys with
    | some r => some ((a == b) && r)
    | none => none)
   | _, _ => none) else none
  | some .string, some i => if Nat.beq i.size 1 then (match xs[f.offset]?, ys[f.offset]? with
   | some (.k (.string a)), some (.k (.string b)) => (match eqFs P d fs xs ys with
    | some r => some (sEq a b && r)
    | none => none)
   | _, _ => none) else none
  | some (.struct gs), some i => if P.stoodInHeld f.type then none else (match eqFs P d gs.toList ((xs.drop f.offset).take i.size) ((ys.drop f.offset).take i.size) with
   | some a => (match eqFs P d fs xs ys with
    | some r => some (a && r)
    | none => none)
   | none => none)
  | _, _ => none) else none
def intW (wr : Bool) (op : BinOp) (k : IntKind) (x y : Int) (K : SV → Prop) : Prop := match wr with
 | true => (match k, op with
  | .i64, .add => inK .i64 (IntKind.wrap .i64 (x + y)) → K (.int (IntKind.wrap .i64 (x + y)))
  | .i64, .sub => inK .i64 (IntKind.wrap .i64 (x - y)) → K (.int (IntKind.wrap .i64 (x - y)))
  | .i64, .mul => inK .i64 (IntKind.wrap .i64 (x * y)) → K (.int (IntKind.wrap .i64 (x * y)))
  | k, op => intB op k x y K)
 | false => intB op k x y K
def eqInts (k0 : IntKind) : List Cl → List Cl → Option Bool
 | [], [] => some true
 | .k (.int k a) :: l, .k (.int k' b) :: m => if IntKind.beq k0 k && IntKind.beq k k' then (match eqInts k0 l m with
  | some r => some ((a == b) && r)
  | none => none) else none
 | _, _ => none
def eqArr (P : Program) (n : Nat) (e : TypeId) (l m : List Cl) : Option Bool := match P.underlying e, P.info? e with
 | some (.int k0), some i => if Nat.beq i.size 1 && Nat.beq l.length n then eqInts k0 l m else none
 | _, _ => none
def binV (wr : Bool) (P : Program) (b : Bs) (s : Ov) (cst : Bool) (op : BinOp) (t : TypeId) (x y : SV) (K : SV → Prop) : Prop := match x, y with
 | .v (.c (.k (.int k m))), .v (.c (.k (.int k' n))) => match op with
  | .shl => 0 ≤ n ∧ (inK k (shlI k m n) → K (.k (.int k (shlI k m n))))
  | .shr => 0 ≤ n ∧ (inK k (shrI k m n) → K (.k (.int k (shrI k m n))))
  | op => if IntKind.beq k k' then intW wr op k m n K else False
 | .v (.c (.k (.string m))), .v (.c (.k (.string n))) => strB op m n K
 | .v (.c (.k (.bool m))), .v (.c (.k (.bool n))) => match P.underlying t, op with
  | some .bool, .eql => K (.bool (m == n))
  | some .bool, .neq => K (.bool (!(m == n)))
  | _, _ => False
 | .v (.agg l), .v (.agg m) => match P.underlying t with
  | some (.struct fs) => if P.eqGuardType P.depth t || P.stoodInHeld t then False else (match isEq op, eqFs P 9999 fs.toList l m with
   | some true, some r => K (.bool r)
   | some false, some r => K (.bool (!r))
   | _, _ => False)
  | some (.array n e) => if P.eqGuardType P.depth t then False else (match isEq op, eqArr P n e l m with
   | some true, some r => K (.bool r)
   | some false, some r => K (.bool (!r))
   | _, _ => False)
  | _ => False
 | .v (.c x), .v (.c y) => match isEq op with
  | some e => if nilTy (P.underlying t) y && ofTy (P.underlying t) x then nilK b s cst x e K else if nilTy (P.underlying t) x && ofTy (P.underlying t) y then nilK b s cst y e K else False
  | none => False
 | _, _ => False
def unV (wr : Bool) (op : UnOp) (x : SV) (K : SV → Prop) : Prop := match op, x with
 | .not, .v (.c (.k (.bool b))) => K (.bool (!b))
 | .neg, .v (.c (.k (.int k n))) => intW wr .sub k 0 n K
 | .xor, .v (.c (.k (.int k n))) => inK k (bitsI .xor k (if k.signed then -1 else k.max) n) → K (.k (.int k (bitsI .xor k (if k.signed then -1 else k.max) n)))
 | _, _ => False
def part1 (P : Program) (t : TypeId) (cs : List Cl) (off : Nat) : Option S1 := match P.underlying t with
 | none => none
 | some d => if d.isRow then (match P.info? t with
   | some i => if Nat.ble (off + i.size) cs.length then some (.agg ((cs.drop off).take i.size)) else none
   | none => none)
  else match cs[off]? with
   | some c => some (.c c)
   | none => none
def zeroCs (P : Program) (t : TypeId) : Option (List Cl) := match P.info? t with
 | some i => match i.zero with
  | some z => constCs z.cells.toList
  | none => none
 | none => none
def rfCs (Y : UpY) : List Cl := [.k (.int .i64 Y.q1), .k (.int .i64 Y.q2), .unk, .unk, .k (.int .i64 Y.nx)]
def nodeCw (l : Nat) (n : LNode) : List Cl := [.k (.slice none 0 0), .k (.int .i64 0), .k (.int .i64 n.kind), .k (.int .i64 n.mode), .k (.int .i64 n.uid), .k (.int .i64 n.gid), .kl l n.vd, .k (.string n.target), .d xaTy (n.xattrs.map xaT), .k (.bool n.opq), .kl l n.vi, .k (.int .i64 n.up), .k (.int .i64 n.links)]
def loadV (P : Program) (b : Bs) (s : Ov) (t : TypeId) (x : Cl) (K : SV → Prop) : Prop := match x with
 | .p l off => match b.obj s l with
  | .cells _ cs => match part1 P t cs off with
   | some v => K (.v v)
   | none => False
  | .up _ q1 q2 mb nx _ => match part1 P t (upCs l q1 q2 mb nx) off with
   | some v => inK .i64 q1 → inK .i64 q2 → inK .i64 nx → K (.v v)
   | none => False
  | .ab (.fz _ q1 q2 mb nx _ _ _) => match part1 P t (upCs l q1 q2 mb nx) off with
   | some v => inK .i64 q1 → inK .i64 q2 → inK .i64 nx → K (.v v)
   | none => False
  | .ab (.rf _ _ _ Y) => match part1 P t (rfCs Y) off with
   | some v => inK .i64 Y.q1 → inK .i64 Y.q2 → inK .i64 Y.nx → K (.v v)
   | none => False
  | _ => False
 | .kl l (.pointer (some ⟨bb, off, none⟩)) => match b.obj s l with
  | .up _ _ _ _ _ L => ∃ r m, getK L r = some m ∧ m.blk = bb ∧ match part1 P t (nodeCs l m) off with
   | some v => NodeOk m → K (.v v)
   | none => False
  | .ab (.fz _ _ _ _ _ L z _) => ∃ m, ((∃ r, getK L r = some m) ∨ z = some m) ∧ m.blk = bb ∧ match part1 P t (nodeCs l m) off with
   | some v => NodeOk m → K (.v v)
   | none => False
  | .ab (.pw _ _ _ _ _ _ _ m _ _) => m.blk = bb ∧ match part1 P t (nodeCw l m) off with
   | some v => K (.v v)
   | none => False
  | _ => False
 | .de e x i off => match part1 P t (e.cells (ixD e x i)) off with
  | some v => e.ok (ixD e x i) → K (.v v)
  | none => False
 | .oe l sz i off => match b.obj s l with
  | .sl _ e xs => if Nat.beq e.size sz then (0 ≤ i ∧ i < xs.length ∧ match part1 P t (e.cells (ixD e xs i)) off with
    | some v => e.ok (ixD e xs i) → K (.v v)
    | none => False) else False
  | _ => False
 | _ => False
def setCs (cs : List Cl) (off : Nat) (l : List Cl) : List Cl := cs.take off ++ (l ++ cs.drop (off + l.length))
def storeV (P : Program) (b : Bs) (s : Ov) (t : TypeId) (x : Cl) (v : S1) (K : Ov → Prop) : Prop := match P.info? t with
 | none => False
 | some i => if Nat.beq v.cells.length i.size then match x with
  | .p l off => match b.obj s l with
   | .cells u cs => if Nat.ble (off + i.size) cs.length then K (s.setO l (.cells u (setCs cs off v.cells))) else False
   | _ => False
  | .oe l sz i off => match b.obj s l, v with
   | .sl u e xs, .c c => if Nat.beq e.size sz && Nat.blt off e.size then (0 ≤ i ∧ i < xs.length ∧ match e.of ((e.cells (ixD e xs i)).set off c) with
     | some (x', []) => K (s.setO l (.sl u e (xs.set i.toNat x')))
     | _ => False) else False
   | .sl u e xs, .agg l' => if Nat.beq e.size sz && Nat.ble (off + l'.length) e.size then (0 ≤ i ∧ i < xs.length ∧ match e.of (setCs (e.cells (ixD e xs i)) off l') with
     | some (x', []) => K (s.setO l (.sl u e (xs.set i.toNat x')))
     | _ => False) else False
   | _, _ => False
  | _ => False
 else False
def fieldOf (P : Program) (t : TypeId) (j : Nat) : Option Field := match P.underlying t with
 | some (.struct fs) => fs[j]?
 | _ => none
def addrF (x : Cl) (o : Nat) : Option Cl := match x with
 | .p l off => some (.p l (off + o))
 | .de e x i off => if Nat.ble (off + o) e.size then some (.de e x i (off + o)) else none
 | .oe l sz i off => some (.oe l sz i (off + o))
 | .kl l (.pointer (some ⟨bb, off, none⟩)) => some (.kl l (.pointer (some ⟨bb, off + o, none⟩)))
 | _ => none
def lenV (P : Program) (b : Bs) (s : Ov) (t : TypeId) (x : Cl) (K : SV → Prop) : Prop := match P.underlying t, x with
 | some .string, .k (.string z) => K (.int z.size)
 | some (.slice _), .k (.slice none 0 0) => K (.int 0)
 | some (.map _ _), .k (.map none) => K (.int 0)
 | some (.slice _), .d _ x => x.length ≤ 9223372036854775807 → K (.int x.length)
 | some (.slice _), .sc _ _ n => n ≤ 9223372036854775807 ∧ K (.int n)
 | some (.slice _), .o l => match b.obj s l with
  | .sl _ _ xs | .held _ _ xs => xs.length ≤ 9223372036854775807 → K (.int xs.length)
  | _ => False
 | some (.map k _), .m l => match b.obj s l with
  | .map k' kk _ xs => if Nat.beq k k' && kkOk P k kk then (xs.length ≤ 9223372036854775807 → K (.int xs.length)) else False
  | _ => False
 | some (.map k _), .kl l v => match b.obj s l with
  | .up T _ _ mb _ L => if kkOk P T.kI .int && kkOk P T.kS .str then (if Nat.beq k T.kI then (v = .map (some mb) ∧ (L.length ≤ 9223372036854775807 → K (.int L.length))) else if Nat.beq k T.kS then (∃ r m, getK L r = some m ∧ m.vi = v ∧ (NodeOk m → K (.int m.ents.length))) else False) else False
  | _ => False
 | _, _ => False
def indexAddrV (P : Program) (b : Bs) (s : Ov) (t : TypeId) (x : Cl) (i : Int) (K : SV → Prop) : Prop := match P.underlying t with
 | some (.array n et) => match P.info? et, x with
  | some ie, .p l off => 0 ≤ i ∧ i < n ∧ K (.c (.p l (off + i.toNat * ie.size)))
  | _, _ => False
 | some (.slice et) => match P.info? et with
  | none => False
  | some ie => match x with
   | .d e x => if Nat.beq e.size ie.size then (0 ≤ i ∧ i < x.length ∧ K (.c (.de e x i 0))) else False
   | .sc l off n => 0 ≤ i ∧ i < n ∧ K (.c (.p l (off + i.toNat * ie.size)))
   | .o l => match b.obj s l with
    | .sl _ e xs => if Nat.beq e.size ie.size then (0 ≤ i ∧ i < xs.length ∧ K (.c (.oe l e.size i 0))) else False
    | .held _ e xs => if Nat.beq e.size ie.size then (0 ≤ i ∧ i < xs.length ∧ K (.c (.de e xs i 0))) else False
    | _ => False
   | _ => False
 | _ => False
def boundV : Option Int → Int → Int
 | none, n => n
 | some l, _ => l
def sliceK (P : Program) (b : Bs) (s : Ov) (t : TypeId) (x : Cl) (lo hi : Option Int) (K : SV → Prop) : Prop := match P.underlying t with
 | some .string => match x with
  | .k (.string z) => 0 ≤ boundV lo 0 ∧ boundV lo 0 ≤ boundV hi z.size ∧ boundV hi z.size ≤ z.size ∧ K (.str (z.extract (boundV lo 0).toNat (boundV hi z.size).toNat))
  | _ => False
 | some (.slice et) => match P.info? et with
  | none => False
  | some ie => match x with
   | .d e x => if Nat.beq e.size ie.size then 0 ≤ boundV lo 0 ∧ boundV lo 0 ≤ boundV hi x.length ∧ boundV hi x.length ≤ x.length ∧ K (.c (.d e ((x.drop (boundV lo 0).toNat).take ((boundV hi x.length).toNat - (boundV lo 0).toNat)))) else False
   | .o q => match b.obj s q with
    | .sl _ e x => if Nat.beq e.size ie.size then 0 ≤ boundV lo 0 ∧ boundV lo 0 ≤ boundV hi x.length ∧ boundV hi x.length ≤ x.length ∧ K (.c (.os q e.size (boundV lo 0) (boundV hi x.length))) else False
    | .held _ e x => if Nat.beq e.size ie.size then 0 ≤ boundV lo 0 ∧ boundV lo 0 ≤ boundV hi x.length ∧ boundV hi x.length ≤ x.length ∧ K (.c (.d e ((x.drop (boundV lo 0).toNat).take ((boundV hi x.length).toNat - (boundV lo 0).toNat)))) else False
    | _ => False
   | .kl q v => match b.obj s q with
    | .ab (.pw _ _ _ _ _ _ _ m _ x) => if Nat.beq 1 ie.size then v = m.vd ∧ 0 ≤ boundV lo 0 ∧ boundV lo 0 ≤ boundV hi x.length ∧ boundV hi x.length ≤ x.length ∧ K (.c (.kl q (sliceV 1 m.vd (boundV lo 0) (boundV hi x.length)))) else False
    | _ => False
   | _ => False
 | some (.array n et) => match P.info? et with
  | none => False
  | some ie => match x with
   | .p l off => n ≤ 9223372036854775807 ∧ 0 ≤ boundV lo 0 ∧ boundV lo 0 < n ∧ boundV lo 0 ≤ boundV hi n ∧ boundV hi n ≤ n ∧ K (.c (.sc l (off + (boundV lo 0).toNat * ie.size) ((boundV hi n).toNat - (boundV lo 0).toNat)))
   | _ => False
 | _ => False
def intOf (b : Option SV) : Option (Option Int) := match b with
 | none => some none
 | some (.v (.c (.k (.int .i64 n)))) => some (some n)
 | _ => none
end Go.Lm

