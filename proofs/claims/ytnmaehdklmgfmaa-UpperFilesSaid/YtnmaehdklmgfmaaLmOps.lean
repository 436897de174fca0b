/- What single operations come to, by facts on blocks. General: no program in sight. -/
import Derived.Test.YtnmaehdklmgfmaaLmReg
import Derived.Deep.MidRow
import Derived.KernelRfl
namespace Go.Lm
open Go Go.RowKit

/-! ### Worlds -/
/-- A block of cells that may be written. -/
def Blk (w : World) (b : Nat) (cs : Array Value) (t : TypeId) : Prop := w.heap[b]? = some (.cells cs t (0, 0))
abbrev ptr (b o : Nat) : Value := .pointer (some ⟨b, o, none⟩)

/-- A new block. -/
structure New (w : World) (b : Nat) (o : Obj) (w' : World) : Prop where
  eq : w' = w.alloc o
  at_ : b = w.heap.size
/-- A block is written anew. -/
structure Upd (w : World) (b : Nat) (cs : Array Value) (w' : World) : Prop where
  eq : w' = w.setRow b cs
  lt : b < w.heap.size

theorem New.mk' (w : World) (o : Obj) : New w w.heap.size o (w.alloc o) := ⟨rfl, rfl⟩
theorem New.le {w w' : World} {b : Nat} {o : Obj} (h : New w b o w') : Le w w' := by
  rw [h.eq]; exact (Below.refl _ _).alloc (Nat.le_refl _) o
theorem New.here {w w' : World} {b : Nat} {o : Obj} (h : New w b o w') : w'.heap[b]? = some o := by
  rw [h.eq, h.at_]; exact heap_alloc_new w o
theorem New.blk {w w' : World} {b : Nat} {cs : Array Value} {t : TypeId} (h : New w b (.cells cs t (0, 0)) w') : Blk w' b cs t := h.here
theorem New.keep {w w' : World} {b k : Nat} {o x : Obj} (h : New w b o w') (hx : w.heap[k]? = some x) : w'.heap[k]? = some x := h.le.keep hx
theorem New.lt {w w' : World} {b k : Nat} {o x : Obj} (h : New w b o w') (hx : w.heap[k]? = some x) : k < b := by
  rw [h.at_]; exact (Array.getElem?_eq_some_iff.1 hx).1
theorem New.size {w w' : World} {b : Nat} {o : Obj} (h : New w b o w') : w'.heap.size = b + 1 := by rw [h.eq, h.at_]; simp
theorem New.below {w w' a : World} {b B : Nat} {o : Obj} (h : New w b o w') (hb : Below B a w) (hB : B ≤ b) : Below B a w' := by
  rw [h.eq]; exact hb.alloc (by rw [← h.at_]; exact hB) o

theorem setRow_size (w : World) (b : Nat) (cs : Array Value) : (w.setRow b cs).heap.size = w.heap.size := by simp [World.setRow]
theorem setRow_ne (w : World) (b k : Nat) (cs : Array Value) (h : k ≠ b) : (w.setRow b cs).heap[k]? = w.heap[k]? := by
  simp only [World.setRow, Array.getElem?_modify]
  rw [if_neg (Ne.symm h)]
theorem Upd.blk {w w' : World} {b : Nat} {cs old : Array Value} {t : TypeId} (h : Upd w b cs w') (hx : Blk w b old t) : Blk w' b cs t := by
  rw [h.eq]; exact setRow_heap w b old cs t (0, 0) hx
theorem Upd.keep {w w' : World} {b k : Nat} {cs : Array Value} {x : Obj} (h : Upd w b cs w') (hne : k ≠ b) (hx : w.heap[k]? = some x) : w'.heap[k]? = some x := by
  rw [h.eq, setRow_ne w b k cs hne]; exact hx
theorem Upd.size {w w' : World} {b : Nat} {cs : Array Value} (h : Upd w b cs w') : w'.heap.size = w.heap.size := by rw [h.eq]; exact setRow_size w b cs
theorem Upd.below {w w' a : World} {b B : Nat} {cs : Array Value} (h : Upd w b cs w') (hb : Below B a w) (hB : B ≤ b) : Below B a w' := by
  rw [h.eq]
  exact hb.trans ⟨rfl, rfl, rfl, by rw [setRow_size]; exact Nat.le_refl _, fun k hk => setRow_ne w b k cs (by omega)⟩
theorem Le.below {a w w' : World} {B : Nat} (h : Le w w') (hb : Below B a w) (hB : B ≤ w.heap.size) : Below B a w' := hb.trans (h.mono hB)
theorem Le.blk {w w' : World} {b : Nat} {cs : Array Value} {t : TypeId} (h : Le w w') (hx : Blk w b cs t) : Blk w' b cs t := h.keep hx
theorem Blk.lt {w : World} {b : Nat} {cs : Array Value} {t : TypeId} (h : Blk w b cs t) : b < w.heap.size := (Array.getElem?_eq_some_iff.1 h).1
theorem Blk.cell {w : World} {b : Nat} {cs : Array Value} {t : TypeId} (h : Blk w b cs t) (i : Nat) : w.cell? ⟨b, i, none⟩ = cs[i]? := by unfold Blk at h; simp [World.cell?, h]
theorem Blk.free {w : World} {b : Nat} {cs : Array Value} {t : TypeId} (h : Blk w b cs t) (i : Nat) : w.frozen? ⟨b, i, none⟩ = false := by unfold Blk at h; simp [World.frozen?, h]

/-! ### Operations -/
section
variable {P : Program} {w : World} {ρ : Operand → Value} {o : Oper}

theorem run_load_one {b off : Nat} {cs : Array Value} {t t' : TypeId} {d : TypeDesc} {v : Value} (hb : Blk w b cs t') (hu : P.underlying t = some d) (hd : d.isRow = false) (hv : cs[off]? = some v) :
    (Instr.loadAt t (ptr b off)).run P w = .ok v w := by
  have hagg : (isAgg t).run P w = .ok false w := by
    unfold isAgg
    rw [Sem.run_bind, run_underlying hu w]
    cases d <;> simp_all
  have hc := hb.cell off
  rw [hv] at hc
  simp [Instr.loadAt, Instr.sureAddr, loadVar, hagg, run_load, hc]

theorem run_load_row {b off : Nat} {cs : Array Value} {t t' : TypeId} {d : TypeDesc} {vs : List Value} (hb : Blk w b cs t') (hu : P.underlying t = some d) (hd : d.isRow = true)
    (hi : (P.info? t).map (·.size) = some vs.length) (hv : (cs.toList.drop off).take vs.length = vs) : (Instr.loadAt t (ptr b off)).run P w = .ok (.agg vs.toArray) w := by
  refine run_loadAt_mid w b off t vs d (fun j v hj => ?_) hu hd hi
  rw [hb.cell, ← Array.getElem?_toList]
  have hjl : j < vs.length := (List.getElem?_eq_some_iff.1 hj).1
  rw [← hv, List.getElem?_take, if_pos hjl, List.getElem?_drop] at hj
  exact hj

/-- A store: the cells of the value, into the block. -/
theorem run_store_row {b off : Nat} {cs : Array Value} {t t' : TypeId} {v : Value} (hb : Blk w b cs t') (hi : (P.info? t).map (·.size) = some v.cells.size) (h1 : v.cells.toList.all (·.oneCell') = true)
    (hl : off + v.cells.size ≤ cs.size) :
    (Instr.storeAt t (ptr b off) v).run P w = .ok () (w.setRow b (cs.toList.take off ++ v.cells.toList ++ cs.toList.drop (off + v.cells.size)).toArray) := by
  cases hq : P.info? t with
  | none => simp [hq] at hi
  | some i =>
    have hs : i.size = v.cells.size := by simpa [hq] using hi
    have hst := run_storeCells_at P b off t' v.cells.toList 0 cs w hb (by simpa using hl) (fun x hx => List.all_eq_true.1 h1 x hx)
    simp only [Nat.add_zero, Array.length_toList] at hst
    simp [Instr.storeAt, Instr.sureAddr, storeVar, sizeOf, typeInfo, hq, hs, hst]

theorem X_load {t : TypeId} {x : Operand} {p v : Value} (ho : o.op = .load t x) (hx : ρ x = p) (h : (Instr.loadAt t p).run P w = .ok v w) : (execOp ρ o).run P w = .ok (.value v) w := by
  simp [execOp, ho, hx, h]
theorem X_box {t : TypeId} {x : Operand} {v : Value} (ho : o.op = .box t x) (hx : ρ x = v) : (execOp ρ o).run P w = .ok (.value (ptr w.heap.size 0)) (w.alloc (.cells v.cells t)) := by
  simp [execOp, ho, hx, Instr.box, newVar, newRow, go_sem]
theorem X_alloc {t : TypeId} {i : TypeInfo} {z : Value} (ho : o.op = .alloc t) (hi : P.info? t = some i) (hz : i.zero = some z) : (execOp ρ o).run P w = .ok (.value (ptr w.heap.size 0)) (w.alloc (.cells z.cells t)) := by
  simp [execOp, ho, Instr.alloc, zeroValue, typeInfo, hi, hz, newVar, newRow, go_sem]
theorem X_store {t : TypeId} {x y : Operand} {p v : Value} {w' : World} (ho : o.op = .store t x y) (hx : ρ x = p) (hy : ρ y = v) (h : (Instr.storeAt t p v).run P w = .ok () w') : (execOp ρ o).run P w = .ok .skip w' := by
  simp [execOp, ho, hx, hy, h]
end

/-! ### The same as steps of a walk -/
section
variable {P : Program} {ops : Array Oper} {rest : List Oper} {o : Oper} {n : Nat} {s : AL} {Q : Exit → Act → World → Prop} {w : World}

theorem S_box {d : Nat} {t : TypeId} {x : Operand} {v : Value} (ho : o.op = .box t x) (hx : ev s x = some v) (hw : wants ops s o = some true) (hd : o.dst = some d) (hn : Nat.blt d n = true)
    (cs : Array Value) (hc : v.cells = cs) (k : ∀ b w', New w b (.cells cs t) w' → wpR P ops rest n ((d, ptr b 0) :: s) Q w') : wpR P ops (o :: rest) n s Q w :=
  R_val hw (by simp [knows, noSel, ho, Op.operands, hx]) hd hn (X_box (v := v) ho (by simp [rho, hx])) (by rw [hc]; exact k _ _ (New.mk' w _))
theorem S_alloc {d : Nat} {t : TypeId} (cs : Array Value) (hz : ((P.info? t).bind (·.zero)).map (·.cells) = some cs) (ho : o.op = .alloc t) (hw : wants ops s o = some true) (hd : o.dst = some d) (hn : Nat.blt d n = true)
    (k : ∀ b w', New w b (.cells cs t) w' → wpR P ops rest n ((d, ptr b 0) :: s) Q w') : wpR P ops (o :: rest) n s Q w := by
  cases hi : P.info? t with
  | none => simp [hi] at hz
  | some i =>
    cases hzz : i.zero with
    | none => simp [hi, hzz] at hz
    | some z =>
      have hc : z.cells = cs := by simpa [hi, hzz] using hz
      exact R_val hw (by simp [knows, noSel, ho, Op.operands]) hd hn (X_alloc ho hi hzz) (by rw [hc]; exact k _ _ (New.mk' w _))
theorem S_load {d : Nat} {t : TypeId} {x : Operand} {p v : Value} (hr : (Instr.loadAt t p).run P w = .ok v w) (ho : o.op = .load t x) (hx : ev s x = some p) (hw : wants ops s o = some true) (hd : o.dst = some d) (hn : Nat.blt d n = true)
    (k : wpR P ops rest n ((d, v) :: s) Q w) : wpR P ops (o :: rest) n s Q w :=
  R_val hw (by simp [knows, noSel, ho, Op.operands, hx]) hd hn (X_load ho (by simp [rho, hx]) hr) k
theorem S_store {b off : Nat} {cs : Array Value} {t t' : TypeId} {x y : Operand} {v : Value} (hb : Blk w b cs t') (ho : o.op = .store t x y) (hx : ev s x = some (ptr b off)) (hy : ev s y = some v) (hw : wants ops s o = some true) (hd : o.dst = none)
    (hi : (P.info? t).map (·.size) = some v.cells.size) (h1 : v.cells.toList.all (·.oneCell') = true) (hl : off + v.cells.size ≤ cs.size)
    (cs' : Array Value) (hc : (cs.toList.take off ++ v.cells.toList ++ cs.toList.drop (off + v.cells.size)).toArray = cs')
    (k : ∀ w', Upd w b cs' w' → wpR P ops rest n s Q w') : wpR P ops (o :: rest) n s Q w :=
  R_none (v := undef) hw (by simp [knows, noSel, ho, Op.operands, hx, hy]) hd (.inr (X_store ho (by simp [rho, hx]) (by simp [rho, hy]) (run_store_row hb hi h1 hl))) (by rw [hc]; exact k _ ⟨rfl, hb.lt⟩)
end

/-! ### A region whose order is open, operation by operation -/
abbrev RP := World → Value → Prop
def getR (l : List RP) (i : Nat) : RP := (l[i]?).getD fun _ _ => True
def DepAll (ops : Array Oper) (R : List RP) (w : World) (a : Act) : List Edge → Prop
  | [] => True
  | e :: r => (match Region.binds .any e, (ops[e.on]?).bind (·.dst) with
    | true, some d => getR R e.on w (a.tmps.getD d undef)
    | _, _ => True) ∧ DepAll ops R w a r
theorem DepAll.mk {ops : Array Oper} {R : List RP} {w : World} {a : Act} : ∀ (l : List Edge), (∀ e ∈ l, Region.binds .any e = true → ∀ (oe : Oper) (d : Tmp), ops[e.on]? = some oe → oe.dst = some d → getR R e.on w (a.tmps.getD d undef)) → DepAll ops R w a l
  | [], _ => trivial
  | e :: r, h => ⟨by
      cases hb : Region.binds .any e with
      | false => trivial
      | true =>
        cases ho : ops[e.on]? with
        | none => trivial
        | some oe =>
          cases hd : oe.dst with
          | none => simp [hd]
          | some d => simpa [hd] using h e (by simp) hb oe d ho hd, DepAll.mk r fun e he => h e (List.mem_cons_of_mem _ he)⟩
/-- What is known of a frame when operation j comes up. -/
def freeAL (ops : Array Oper) (j : Nat) (s : AL) : AL := s.filter fun p => freeAt ops j p.1
def RStep (P : Program) (ops : Array Oper) (W : World) (n : Nat) (s : AL) (R : List RP) (j : Nat) (o : Oper) : Prop :=
  ∀ (a : Act) (w : World), Le W w → Fr n (freeAL ops j s) a → DepAll ops R w a o.after.toList →
    (Region.wanted o (yielded ops a.tmps) = true → gives P w (getR R j) ((execOp a.eval o).run P w)) ∧ (Region.wanted o (yielded ops a.tmps) = false → getR R j w undef)
def RAll (P : Program) (ops : Array Oper) (W : World) (n : Nat) (s : AL) (R : List RP) : Nat → List Oper → Prop
  | _, [] => True
  | j, o :: r => RStep P ops W n s R j o ∧ RAll P ops W n s R (j + 1) r
def Stab (R : RP) : Prop := ∀ (w w' : World) (v : Value), Le w w' → R w v → R w' v
def StabAll : List RP → Prop
  | [] => True
  | R :: l => Stab R ∧ StabAll l
theorem StabAll.get : ∀ (l : List RP) (i : Nat), StabAll l → Stab (getR l i)
  | [], i, _ => fun _ _ _ _ _ => by simp [getR]
  | R :: l, 0, h => h.1
  | R :: l, i + 1, h => by
    have := StabAll.get l i h.2
    simpa [getR] using this
theorem stab_exact (x : Value) : Stab fun _ v => v = x := fun _ _ _ _ h => h
theorem stab_true : Stab fun _ _ => True := fun _ _ _ _ h => h
def FinAll (ops : Array Oper) (R : List RP) (w : World) (a : Act) : Nat → List Oper → Prop
  | _, [] => True
  | j, o :: r => (match o.dst with | some d => getR R j w (a.tmps.getD d undef) | none => True) ∧ FinAll ops R w a (j + 1) r
theorem FinAll.mk {ops : Array Oper} {R : List RP} {w : World} {a : Act} (h : ∀ (k : Nat) (o : Oper) (d : Tmp), ops[k]? = some o → o.dst = some d → getR R k w (a.tmps.getD d undef)) :
    ∀ (l : List Oper) (j : Nat), (∀ i, l[i]? = ops[j + i]?) → FinAll ops R w a j l
  | [], _, _ => trivial
  | o :: r, j, hl => ⟨by
      cases hd : o.dst with
      | none => trivial
      | some d => exact h j o d (by simpa using (hl 0).symm) hd, FinAll.mk h r (j + 1) fun i => by have := hl (i + 1); simpa [Nat.add_assoc, Nat.add_comm 1 i] using this⟩
theorem RAll.get {P : Program} {ops : Array Oper} {W : World} {n : Nat} {s : AL} {R : List RP} : ∀ (l : List Oper) (j : Nat), RAll P ops W n s R j l → ∀ i o, l[i]? = some o → RStep P ops W n s R (j + i) o
  | [], _, _, i, o, h => by simp at h
  | x :: r, j, h, 0, o, ho => by
    have : x = o := by simpa using ho
    subst this; exact h.1
  | x :: r, j, h, i + 1, o, ho => by
    have := RAll.get r (j + 1) h.2 i o (by simpa using ho)
    rw [show j + (i + 1) = j + 1 + i from by omega]; exact this

theorem Fr.of_look {n : Nat} {s : AL} {a : Act} (hs : a.tmps.size = n) (hd : a.defers = []) (h : ∀ t v, look s t = some v → a.tmps.getD t undef = v) : Fr n s a := ⟨hs, hd, h⟩
theorem look_filter {p : Nat → Bool} : ∀ {s : AL} {t : Nat} {v : Value}, look (s.filter fun q => p q.1) t = some v → p t = true ∧ look s t = some v
  | [], t, v, h => by simp [look] at h
  | (k, u) :: s, t, v, h => by
    simp only [List.filter_cons] at h
    by_cases hk : p k = true
    · simp only [hk, if_true, look] at h ⊢
      by_cases e : k = t
      · subst e
        have hb : Nat.beq k k = true := by simp
        rw [hb] at h ⊢
        exact ⟨hk, h⟩
      · rw [beq_ne e] at h ⊢
        exact look_filter h
    · simp only [hk] at h
      obtain ⟨h1, h2⟩ := look_filter h
      refine ⟨h1, ?_⟩
      have e : ¬ k = t := fun e => hk (by rw [e]; exact h1)
      simp only [look]
      rw [beq_ne e]
      exact h2
theorem Fr.add {n : Nat} {s : AL} {a : Act} (h : Fr n s a) {t : Nat} {v : Value} (hv : a.tmps.getD t undef = v) : Fr n ((t, v) :: s) a :=
  ⟨h.size, h.defers, fun k u hk => by
    simp only [look] at hk
    by_cases e : t = k
    · subst e
      have : Nat.beq t t = true := by simp
      rw [this] at hk
      rw [hv]; exact Option.some.inj hk
    · rw [beq_ne e] at hk
      exact h.has k u hk⟩

/-- Slots that no operation of a region writes. -/
def untouched (l : List Oper) (t : Nat) : Bool := l.all fun o => match o.dst with | some d => !Nat.beq d t | none => true

theorem C_draw {P : Program} {l : List Oper} {n id : Nat} {s : AL} {Q : Exit → Act → World → Prop} {w : World} (R : List RP) (hm : P.follows .mixedOrders = true)
    (hE : edgesOk l.toArray = true) (hD : dstsOk l.toArray n = true) (hst : StabAll R) (hop : RAll P l.toArray w n s R 0 l)
    (hend : ∀ (a : Act) (w' : World), Le w w' → Fr n (s.filter fun p => untouched l p.1) a → FinAll l.toArray R w' a 0 l → Q .normal a w') : okC P (.region id l.toArray true) n s Q w := fun a₀ ha => by
  refine region_rel (n := n) (getR R) hm hE hD ha.size ha.defers (fun i => StabAll.get R i hst) (fun j o ho a w' hl hs hd hfree hdeps => ?_) fun a w' hl hs hd hold hnew => ?_
  · have h1 := RAll.get l 0 hop j o (by simpa using ho)
    rw [Nat.zero_add] at h1
    refine h1 a w' hl ⟨hs, hd, fun t v ht => ?_⟩ (DepAll.mk _ fun e he hb oe d hoe hde => hdeps e (by simpa using he) hb oe d hoe hde)
    obtain ⟨h2, h3⟩ := look_filter ht
    rw [hfree t h2]
    exact ha.has t v h3
  · refine hend a w' hl ⟨hs, hd, fun t v ht => ?_⟩ (FinAll.mk hnew l 0 (by simp))
    obtain ⟨h1, h2⟩ := look_filter ht
    rw [hold t fun k o hk hdk => ?_]
    · exact ha.has t v h2
    · have hk' : l[k]? = some o := by simpa using hk
      have := List.all_eq_true.1 h1 o (List.mem_of_getElem? hk')
      rw [hdk] at this
      simp at this

/-- One operation of such a region that yields a value. -/
theorem G_val {P : Program} {ops : Array Oper} {n : Nat} {s : AL} {a : Act} {w w' : World} {o : Oper} {R : RP} {v : Value} (hf : Fr n s a) (hw : wants ops s o = some true) (hk : (knows s o && noSel o) = true)
    (hr : (execOp (rho s) o).run P w = .ok (.value v) w') (hl : Le w w') (h : R w' v) :
    (Region.wanted o (yielded ops a.tmps) = true → gives P w R ((execOp a.eval o).run P w)) ∧ (Region.wanted o (yielded ops a.tmps) = false → R w undef) :=
  ⟨fun _ => by rw [exec_eq hf hk, hr]; exact ⟨hl, h⟩, fun h2 => by rw [wants_eq hf hw] at h2; cases h2⟩
/-- .. whose guard says no. -/
theorem G_skip {P : Program} {ops : Array Oper} {n : Nat} {s : AL} {a : Act} {w : World} {o : Oper} {R : RP} (hf : Fr n s a) (hw : wants ops s o = some false) (h : R w undef) :
    (Region.wanted o (yielded ops a.tmps) = true → gives P w R ((execOp a.eval o).run P w)) ∧ (Region.wanted o (yielded ops a.tmps) = false → R w undef) :=
  ⟨fun h2 => (by rw [wants_eq hf hw] at h2; cases h2), fun _ => h⟩
/-- .. a call. -/
theorem G_call {P : Program} {ops : Array Oper} {n : Nat} {s : AL} {a : Act} {w : World} {o : Oper} {R : RP} {f : Nat} {args : Array Value} {R' : Value → World → Prop} (hf : Fr n s a) (hw : wants ops s o = some true) (hk : (knows s o && noSel o) = true)
    (hr : (execOp (rho s) o).run P w = .ok (.enter f args) w) (hc : Ret P f args w R') (h : ∀ v w', R' v w' → Le w w' ∧ R w' v) :
    (Region.wanted o (yielded ops a.tmps) = true → gives P w R ((execOp a.eval o).run P w)) ∧ (Region.wanted o (yielded ops a.tmps) = false → R w undef) :=
  ⟨fun _ => by rw [exec_eq hf hk, hr]; exact ⟨Le.refl w, Calls.mono hc fun e w' ⟨v, he, hv⟩ => ⟨v, he, (h v w' hv).1, (h v w' hv).2⟩⟩, fun h2 => by rw [wants_eq hf hw] at h2; cases h2⟩
theorem eq_bool {P : Program} {s : Sem Next} {w w' : World} {b c : Bool} (h : s.run P w = .ok (.value (.bool b)) w') (hb : b = c) : s.run P w = .ok (.value (.bool c)) w' := hb ▸ h
theorem load_ev {P : Program} {ρ : Operand → Value} {w : World} {o : Oper} {t : TypeId} {x : Operand} {p v : Value} (hr : (Instr.loadAt t p).run P w = .ok v w) (ho : o.op = .load t x) (hx : ρ x = p) : (execOp ρ o).run P w = .ok (.value v) w := X_load ho hx hr
theorem New.below' {w w' a : World} {b : Nat} {o : Obj} (h : New w b o w') (hb : Below a.heap.size a w) : Below a.heap.size a w' := h.below hb (by rw [h.at_]; exact hb.size)
theorem New.own {w w' a : World} {b : Nat} {o : Obj} (h : New w b o w') (hb : Below a.heap.size a w) : a.heap.size ≤ b := by rw [h.at_]; exact hb.size
theorem Le.below' {w w' a : World} (h : Le w w') (hb : Below a.heap.size a w) : Below a.heap.size a w' := h.below hb hb.size

theorem res_cell {P : Program} {n : Nat} {s : AL} {w : World} {fn : Func} {t : Tmp} {ty : TypeId} {p v : Value} (h : fn.results = #[.cell t ty]) (hl : look s t = some p) (hr : (Instr.loadAt ty p).run P w = .ok v w) (a : Act) (ha : Fr n s a) :
    (results fn a.tmps).run P w = .ok v w := by
  have h1 := ha.has t p hl
  cases p with
  | pointer q =>
    cases q with
    | none => simp [Instr.loadAt, Instr.sureAddr, go_sem] at hr
    | some q =>
      have hr' : (loadVar ty q).run P w = .ok v w := by simpa [Instr.loadAt, Instr.sureAddr] using hr
      have h2 : a.tmps[t]?.getD undef = .pointer (some q) := by rw [← h1]; simp [Array.getD_eq_getD_getElem?]
      simp [results, h, h2, hr', asAddr]
  | _ => simp [Instr.loadAt, Instr.sureAddr, go_sem] at hr

/-- '==' of two structs, field by field. -/
theorem X_eql_struct {P : Program} {ρ : Operand → Value} {w : World} {o : Oper} {t yt : TypeId} {x y : Operand} {xs ys : Array Value} {fs : Array Field} {b : Bool} (ho : o.op = .binOp .eql t x y yt) (hx : ρ x = .agg xs) (hy : ρ y = .agg ys)
    (hu : P.underlying t = some (.struct fs)) (hg : P.eqGuardType P.depth t = false) (hp : P.stoodInHeld t = false) (hf : (Op.eqFields 9999 xs ys fs.toList).run P w = .ok b w) :
    (execOp ρ o).run P w = .ok (.value (.bool b)) w := by
  have hfs : P.fieldsOf t = fs := by unfold Program.fieldsOf; rw [hu]
  have he : (Op.equal t (.agg xs) (.agg ys)).run P w = .ok b w := by
    unfold Op.equal Op.maxDepth
    rw [run_equalIn_struct w 9999 t xs ys (by rw [hfs]; exact hu) hp, hfs]
    exact hf
  simp [execOp, ho, hx, hy, eqGuard, hg, binOp, he]
theorem X_neq_struct {P : Program} {ρ : Operand → Value} {w : World} {o : Oper} {t yt : TypeId} {x y : Operand} {xs ys : Array Value} {fs : Array Field} {b : Bool} (ho : o.op = .binOp .neq t x y yt) (hx : ρ x = .agg xs) (hy : ρ y = .agg ys)
    (hu : P.underlying t = some (.struct fs)) (hg : P.eqGuardType P.depth t = false) (hp : P.stoodInHeld t = false) (hf : (Op.eqFields 9999 xs ys fs.toList).run P w = .ok b w) :
    (execOp ρ o).run P w = .ok (.value (.bool !b)) w := by
  have hfs : P.fieldsOf t = fs := by unfold Program.fieldsOf; rw [hu]
  have he : (Op.equal t (.agg xs) (.agg ys)).run P w = .ok b w := by
    unfold Op.equal Op.maxDepth
    rw [run_equalIn_struct w 9999 t xs ys (by rw [hfs]; exact hu) hp, hfs]
    exact hf
  simp [execOp, ho, hx, hy, eqGuard, hg, binOp, he]
/-- One field of a number's type, and the rest. -/
theorem eqF_int {P : Program} {w : World} {d : Nat} {xs ys : Array Value} {f : Field} {fs : List Field} {k : IntKind} {m n : Int} {b : Bool} (hn : (f.name != "_") = true) (hu : P.underlying f.type = some (.int k)) (hi : ((P.info? f.type).map (·.size)) = some 1)
    (hx : xs[f.offset]? = some (.int k m)) (hy : ys[f.offset]? = some (.int k n)) (hr : (Op.eqFields (d + 1) xs ys fs).run P w = .ok b w) : (Op.eqFields (d + 1) xs ys (f :: fs)).run P w = .ok ((m == n) && b) w := by
  have hpx : (part f.type xs f.offset).run P w = .ok (.int k m) w := by
    cases hq : P.info? f.type with
    | none => simp [hq] at hi
    | some i => simp [part, isAgg, run_underlying hu, go_sem, hx]
  have hpy : (part f.type ys f.offset).run P w = .ok (.int k n) w := by
    cases hq : P.info? f.type with
    | none => simp [hq] at hi
    | some i => simp [part, isAgg, run_underlying hu, go_sem, hy]
  have hne : f.name ≠ "_" := by simpa using hn
  simp only [Op.eqFields, if_pos hne, Sem.run_bind, hpx, hpy, Result.andThen_ok, run_equalIn_int w d f.type k k m n hu]
  cases hb : m == n
  · simp [go_sem]
  · simp [hr]
theorem eqF_nil {P : Program} {w : World} {d : Nat} {xs ys : Array Value} : (Op.eqFields d xs ys []).run P w = .ok true w := by simp [Op.eqFields]
theorem Fr.cast {n : Nat} {s s' : AL} {a : Act} (h : Fr n s a) (e : s = s') : Fr n s' a := e ▸ h
end Go.Lm
