/- Slices that the call itself makes; strings that are gone through. General: no program in sight. -/
import Derived.Test.YtnmaehdklmgfmaaLmRep
import Derived.Laws.RangeAny
import Derived.Lib.OthersKept
namespace Go.Lm
open Go Go.RowKit

/-! ### A block of whatever kind is written anew -/
structure UpdO (w : World) (b : Nat) (o : Obj) (w' : World) : Prop where
  eq : w' = { w with heap := w.heap.setIfInBounds b o }
  lt : b < w.heap.size
theorem UpdO.here {w w' : World} {b : Nat} {o : Obj} (h : UpdO w b o w') : w'.heap[b]? = some o := by rw [h.eq]; simp [h.lt]
theorem UpdO.keep' {w w' : World} {b k : Nat} {o : Obj} (h : UpdO w b o w') (hne : k ≠ b) : w'.heap[k]? = w.heap[k]? := by
  rw [h.eq]; simp [Array.getElem?_setIfInBounds_ne (Ne.symm hne)]
theorem UpdO.keep {w w' : World} {b k : Nat} {o x : Obj} (h : UpdO w b o w') (hne : k ≠ b) (hx : w.heap[k]? = some x) : w'.heap[k]? = some x := by rw [h.keep' hne]; exact hx
theorem UpdO.size {w w' : World} {b : Nat} {o : Obj} (h : UpdO w b o w') : w'.heap.size = w.heap.size := by rw [h.eq]; simp
theorem UpdO.below {w w' a : World} {b B : Nat} {o : Obj} (h : UpdO w b o w') (hb : Below B a w) (hB : B ≤ b) : Below B a w' := by
  refine hb.trans ⟨?_, ?_, ?_, ?_, fun k hk => h.keep' (by omega)⟩
  · rw [h.eq]
  · rw [h.eq]
  · rw [h.eq]
  · rw [h.size]; exact Nat.le_refl _
theorem Sees.updO {g w w' : World} {b : Nat} {o : Obj} (h : Sees g w) (hn : NotIn g b) (hu : UpdO w b o w') : Sees g w' := by
  refine ⟨by rw [hu.size]; exact h.size, fun a v hv => ?_⟩
  have hne : a.block ≠ b := fun e => by rw [hn a e] at hv; cases hv
  have h1 := h.mono a v hv
  rw [World.cell?_of_block (w := w) (hu.keep' hne)]; exact h1

section
variable {P : Program}
theorem X_range_str {w : World} {ρ : Operand → Value} {o : Oper} {x : Operand} {t : TypeId} {s : ByteArray} (ho : o.op = .range t x) (ht : P.underlying t = some .string) (hx : ρ x = .string s) :
    (execOp ρ o).run P w = .ok (.value (ptr w.heap.size 0)) (w.alloc (.stringIter s 0)) := by
  simp [execOp, ho, Instr.range, hx, run_underlying ht, go_sem]
theorem X_next_yes {w : World} {ρ : Operand → Value} {o : Oper} {x : Operand} {s : ByteArray} {b pos : Nat} (hk : w.heap[b]? = some (.stringIter s pos)) (h : pos < s.size) (ho : o.op = .next x true) (hx : ρ x = ptr b 0) :
    (execOp ρ o).run P w = .ok (.value (.tuple #[.bool true, .int .i64 pos, .int .i32 (Utf8.decode s pos).1])) { w with heap := w.heap.setIfInBounds b (.stringIter s (pos + (Utf8.decode s pos).2)) } := by
  have h1 := Lib.run_next_any_at (P := P) w b s pos o.type hk h
  simp only [execOp, ho, hx, Sem.run_bind, h1, Result.andThen_ok, Sem.run_pure]
  rfl
theorem X_next_no {w : World} {ρ : Operand → Value} {o : Oper} {x : Operand} {s : ByteArray} {b pos : Nat} (hk : w.heap[b]? = some (.stringIter s pos)) (h : ¬ pos < s.size) (ho : o.op = .next x true) (hx : ρ x = ptr b 0) :
    (execOp ρ o).run P w = .ok (.value (.tuple #[.bool false])) w := by
  have h1 := Lib.run_next_end_at (P := P) w b s pos o.type hk h
  simp only [execOp, ho, hx, Sem.run_bind, h1, Result.andThen_ok, Sem.run_pure]
end
section
variable {P : Program} {ops : Array Oper} {rest : List Oper} {o : Oper} {n : Nat} {s : AL} {Q : Exit → Act → World → Prop} {w : World}
theorem S_range_str {d : Nat} {t : TypeId} {x : Operand} {z : ByteArray} (ho : o.op = .range t x) (ht : P.underlying t = some .string) (hx : ev s x = some (.string z)) (hw : wants ops s o = some true) (hd : o.dst = some d) (hn : Nat.blt d n = true)
    (k : ∀ b w', New w b (.stringIter z 0) w' → wpR P ops rest n ((d, ptr b 0) :: s) Q w') : wpR P ops (o :: rest) n s Q w :=
  R_val hw (by simp [knows, noSel, ho, Op.operands, hx]) hd hn (X_range_str ho ht (by simp [rho, hx])) (k _ _ (New.mk' w _))
theorem S_next_yes {d : Nat} {x : Operand} {z : ByteArray} {b pos : Nat} (hk : w.heap[b]? = some (.stringIter z pos)) (h : pos < z.size) (ho : o.op = .next x true) (hx : ev s x = some (ptr b 0)) (hw : wants ops s o = some true) (hd : o.dst = some d) (hn : Nat.blt d n = true)
    (k : ∀ w', UpdO w b (.stringIter z (pos + (Utf8.decode z pos).2)) w' → wpR P ops rest n ((d, .tuple #[.bool true, .int .i64 pos, .int .i32 (Utf8.decode z pos).1]) :: s) Q w') : wpR P ops (o :: rest) n s Q w :=
  R_val hw (by simp [knows, noSel, ho, Op.operands, hx]) hd hn (X_next_yes hk h ho (by simp [rho, hx])) (k _ ⟨rfl, (Array.getElem?_eq_some_iff.1 hk).1⟩)
theorem S_next_no {d : Nat} {x : Operand} {z : ByteArray} {b pos : Nat} (hk : w.heap[b]? = some (.stringIter z pos)) (h : ¬ pos < z.size) (ho : o.op = .next x true) (hx : ev s x = some (ptr b 0)) (hw : wants ops s o = some true) (hd : o.dst = some d) (hn : Nat.blt d n = true)
    (k : wpR P ops rest n ((d, .tuple #[.bool false]) :: s) Q w) : wpR P ops (o :: rest) n s Q w :=
  R_val hw (by simp [knows, noSel, ho, Op.operands, hx]) hd hn (X_next_no hk h ho (by simp [rho, hx])) k
theorem S_new {d : Nat} (f : Nat → Value) (ob : Obj) (hr : (execOp (rho s) o).run P w = .ok (.value (f w.heap.size)) (w.alloc ob)) (hk : (knows s o && noSel o) = true) (hw : wants ops s o = some true) (hd : o.dst = some d) (hn : Nat.blt d n = true)
    (k : ∀ b w', New w b ob w' → wpR P ops rest n ((d, f b) :: s) Q w') : wpR P ops (o :: rest) n s Q w := R_val hw hk hd hn hr (k _ _ (New.mk' w _))
end

/-! ### A new block is held fixed from now on -/
theorem New.le' {w w' : World} {b : Nat} {o : Obj} (h : New w b o w') : Le w w' := h.le
theorem graft_cell_new {g w w' : World} {b i : Nat} {cs : Array Value} {t : TypeId} (h : New w b (.cells cs t (0, 0)) w') : (graft g w w').cell? ⟨b, i, none⟩ = cs[i]? := by
  rw [graft_new ⟨b, i, none⟩ (by rw [h.at_]; exact Nat.le_refl _)]
  exact h.blk.cell i
theorem is_lit_strs {g : World} {b : Nat} {xs : List ByteArray} (h : ∀ (i : Nat) (x : ByteArray), xs[i]? = some x → g.cell? ⟨b, i, none⟩ = some (.string x) ∧ x.size ≤ maxLen) (hm : xs.length ≤ maxLen) :
    Is g (.slice (some ⟨b, 0, none⟩) xs.length xs.length) xs := by
  refine is_list.2 (.inr ⟨⟨b, 0, none⟩, xs.length, rfl, Nat.le_refl _, hm, fun i x hx => ?_⟩)
  obtain ⟨h1, h2⟩ := h i x hx
  refine ⟨[.string x], fun j c hj => ?_, rfl, h2⟩
  match j, hj with
  | 0, hj =>
    obtain rfl : c = .string x := by simpa using hj.symm
    have : (⟨b, 0, none⟩ : Addr).add (i * GoRep.size ByteArray + 0) = ⟨b, i, none⟩ := by
      rw [Addr.add_mid]
      simp [GoRep.size]
    rw [this]; exact h1

/-! ### A slice of the call's own, that reads as a list -/
def RelL {α : Type} [GoRep α] (g : World) : List (List Value) → List α → Prop
  | [], [] => True
  | c :: cs, x :: xs => GoRep.rel g c x ∧ RelL g cs xs
  | _, _ => False
theorem RelL.mono {α : Type} [GoRep α] {g g' : World} (h : Mono g g') : ∀ {cs : List (List Value)} {xs : List α}, RelL g cs xs → RelL g' cs xs
  | [], [], _ => trivial
  | _ :: _, _ :: _, hh => ⟨GoRep.mono h hh.1, RelL.mono h hh.2⟩
theorem RelL.snoc {α : Type} [GoRep α] {g : World} {c : List Value} {x : α} (h : GoRep.rel g c x) : ∀ {cs : List (List Value)} {xs : List α}, RelL g cs xs → RelL g (cs ++ [c]) (xs ++ [x])
  | [], [], _ => ⟨h, trivial⟩
  | _ :: _, _ :: _, hh => ⟨hh.1, RelL.snoc h hh.2⟩
theorem RelL.get {α : Type} [GoRep α] {g : World} : ∀ {cs : List (List Value)} {xs : List α}, RelL g cs xs → ∀ (i : Nat) (x : α), xs[i]? = some x → ∃ c, GoRep.rel g c x ∧ ∀ (j : Nat) (v : Value), c[j]? = some v → cs.flatten[i * GoRep.size α + j]? = some v
  | [], [], _, i, x, hx => by simp at hx
  | c :: cs, y :: xs, h, 0, x, hx => by
    obtain rfl : y = x := by simpa using hx
    refine ⟨c, h.1, fun j v hj => ?_⟩
    rw [List.flatten_cons, Nat.zero_mul, Nat.zero_add, List.getElem?_append_left (List.getElem?_eq_some_iff.1 hj).1]; exact hj
  | c :: cs, y :: xs, h, i + 1, x, hx => by
    obtain ⟨c', h1, h2⟩ := RelL.get h.2 i x (by simpa using hx)
    refine ⟨c', h1, fun j v hj => ?_⟩
    have hl := GoRep.len h.1
    rw [List.flatten_cons, List.getElem?_append_right (by rw [hl, Nat.add_mul]; omega), hl]
    have := h2 j v hj
    rw [← this]; congr 1
    rw [Nat.add_mul]; omega

structure OwnsL {α : Type} [GoRep α] (g w : World) (base : Nat) (e : TypeId) (v : Value) (xs : List α) : Prop where
  ex : ∃ cs : List (List Value), RelL g cs xs ∧ w.ownsRow base e (GoRep.size α) v xs.length cs.flatten
theorem OwnsL.nil {α : Type} [GoRep α] (g w : World) (base : Nat) (e : TypeId) : OwnsL g w base e (.slice none 0 0) ([] : List α) := ⟨[], trivial, World.ownsRow_nil w base e _⟩
theorem OwnsL.lt {α : Type} [GoRep α] {g w : World} {base : Nat} {e : TypeId} {v : Value} {xs : List α} (h : OwnsL g w base e v xs) : ∀ k, v.ownBlock = some k → base ≤ k ∧ k < w.heap.size := by
  obtain ⟨_, _, h⟩ := h.ex; exact h.lt
theorem OwnsL.keep {α : Type} [GoRep α] {g g' w w' : World} {base : Nat} {e : TypeId} {v : Value} {xs : List α} (h : OwnsL g w base e v xs) (hg : Mono g g') (hk : ∀ k, v.ownBlock = some k → w'.heap[k]? = w.heap[k]?) : OwnsL g' w' base e v xs := by
  obtain ⟨cs, h1, h2, h3⟩ := h.ex
  refine ⟨cs, h1.mono hg, h2, ?_⟩
  rcases h3 with h3 | ⟨k, cap, cur, rfl, hb, hk', r⟩
  · exact .inl h3
  · exact .inr ⟨k, cap, cur, rfl, hb, by rw [hk k rfl]; exact hk', r⟩
theorem OwnsL.le {α : Type} [GoRep α] {g w w' : World} {base : Nat} {e : TypeId} {v : Value} {xs : List α} (h : OwnsL g w base e v xs) (hl : Le w w') : OwnsL g w' base e v xs :=
  h.keep (Mono.refl g) fun k hk => hl.block k (h.lt k hk).2
/-- It reads as its list, wherever its own block and what was held fixed are seen. -/
theorem OwnsL.is {α : Type} [GoRep α] {g w G : World} {base : Nat} {e : TypeId} {v : Value} {xs : List α} (h : OwnsL g w base e v xs) (hg : Mono g G) (hb : ∀ a : Addr, base ≤ a.block → G.cell? a = w.cell? a) : Is G v xs := by
  obtain ⟨cs, h1, h2, h3⟩ := h.ex
  rcases h3 with ⟨rfl, h0⟩ | ⟨k, cap, cur, rfl, hbk, hk, hnc, hcm, hcs, htake⟩
  · exact is_list.2 (.inl ⟨rfl, List.eq_nil_of_length_eq_zero h0⟩)
  · refine is_list.2 (.inr ⟨⟨k, 0, none⟩, cap, rfl, hnc, hcm, fun i x hx => ?_⟩)
    obtain ⟨c, hr, hc⟩ := h1.get i x hx
    refine ⟨c, fun j v hj => ?_, GoRep.mono hg hr⟩
    rw [Addr.add_mid, hb ⟨k, _, none⟩ hbk]
    have h4 := hc j v hj
    rw [← htake, List.getElem?_take] at h4
    split at h4
    · simp [World.cell?, hk]
      simpa using h4
    · cases h4
theorem OwnsL.fin {α : Type} [GoRep α] {g₀ w₀ g w : World} {base : Nat} {e : TypeId} {v : Value} {xs : List α} (h : OwnsL g w base e v xs) (ha : Agr g₀ w₀ g) (h0 : Sees g₀ w₀) (hs : Sees g w) (hl : w₀.heap.size ≤ w.heap.size) (hb : w₀.heap.size ≤ base) : Is (graft g₀ w₀ w) v xs :=
  h.is (ha.fin h0 hs hl) fun a hab => graft_new a (by omega)

/-- A new row without elements, not nil. -/
theorem OwnsL.empty {α : Type} [GoRep α] {g w w' : World} {b base : Nat} {e : TypeId} (h : New w b (.cells #[] e) w') (hb : base ≤ b) : OwnsL g w' base e (.slice (some ⟨b, 0, none⟩) 0 0) ([] : List α) := by
  refine ⟨[], trivial, by simp, .inr ⟨b, 0, #[], rfl, hb, ?_, Nat.le_refl _, by simp [maxLen], by simp, by simp⟩⟩
  exact h.here
/-- What an append leaves of the others. -/
structure Grew (w w' : World) (base : Nat) : Prop where
  below : Below base w w'
theorem Sees.grew {g w w' : World} {base : Nat} (h : Sees g w) (hb : g.heap.size ≤ base) (hg : Below base w w') : Sees g w' := by
  refine ⟨Nat.le_trans h.size hg.size, fun a v hv => ?_⟩
  have hlt : a.block < base := Nat.lt_of_lt_of_le (World.block_lt_of_cell? g a hv) hb
  rw [hg.cell hlt]; exact h.mono a v hv
section
variable {P : Program} {ops : Array Oper} {rest : List Oper} {o : Oper} {n : Nat} {s : AL} {Q : Exit → Act → World → Prop} {w : World}
/-- append of one element, out of a block of its own. -/
theorem S_append1 {α : Type} [GoRep α] {d : Nat} {x y : Operand} {t e : TypeId} {g : World} {base : Nat} {v : Value} {xs : List α} {b : Nat} {c : List Value} {a : α} {bytes : Nat} (hown : OwnsL g w base e v xs) (hb : Blk w b c.toArray e) (hr : GoRep.rel g c a)
    (ht : P.underlying t = some (.slice e)) (hi : (P.info? e).map (fun i => (i.size, i.bytes, i.zero.isSome)) = some (GoRep.size α, bytes, true)) (hz : ((P.info? e).bind (·.zero)).map (·.cells.size) = some (GoRep.size α)) (hpos : 0 < GoRep.size α) (h1 : c.all (·.oneCell') = true)
    (hlen : (xs.length + 1) * bytes ≤ 140737488355328) (hmax : xs.length + 1 ≤ 9223372036854775807) (hbase : base ≤ w.heap.size)
    (ho : o.op = .call { callee := .builtin .append, args := #[x, y], argTypes := #[t, t] }) (hx : ev s x = some v) (hy : ev s y = some (.slice (some ⟨b, 0, none⟩) 1 1)) (hw : wants ops s o = some true) (hd : o.dst = some d) (hn : Nat.blt d n = true)
    (k : ∀ v' w', OwnsL g w' base e v' (xs ++ [a]) → Below base w w' → wpR P ops rest n ((d, v') :: s) Q w') : wpR P ops (o :: rest) n s Q w := by
  cases hq : P.info? e with
  | none => simp [hq] at hi
  | some i =>
    simp only [hq, Option.map_some, Option.some.injEq, Prod.mk.injEq, Option.bind_some] at hi hz
    obtain ⟨hs, hby, hzz⟩ := hi
    cases hz' : i.zero with
    | none => simp [hz'] at hzz
    | some z =>
      simp only [hz', Option.map_some, Option.some.injEq] at hz
      obtain ⟨cs, hrel, hrow⟩ := hown.ex
      have hcl := GoRep.len hr
      obtain ⟨v', w', hrun, hown', hgrow, _⟩ := run_append_own (P := P) w base t o.type e i z (GoRep.size α) bytes ht hq hz' hs hby hz hpos v xs.length cs.flatten hrow ⟨b, 0, none⟩ 1 1 c (by rw [hcl, Nat.one_mul])
        (fun j u hu => by rw [Addr.add_mid, hb.cell]; simpa using hu) (fun u hu => List.all_eq_true.1 h1 u hu) (by unfold maxLen; omega) hlen hbase
      refine R_val (v := v') (w' := w') hw (by simp [knows, noSel, ho, Op.operands, Call.operands, hx, hy]) hd hn ?_ (k v' w' ⟨cs ++ [c], hrel.snoc hr, ?_⟩ ?_)
      · simp [execOp, ho, resolve, invoke, builtin, rho, hx, hy, hrun]
      · have : (cs ++ [c]).flatten = cs.flatten ++ c := by simp
        rw [this]
        simpa using hown'
      · have hlt := hrow.lt
        exact (Below.refl base w).grown hgrow hbase fun k hk => (hlt k hk).1
end

theorem at_lt {w : World} {k : Nat} {x : Obj} (h : w.heap[k]? = some x) : k < w.heap.size := (Array.getElem?_eq_some_iff.1 h).1
/-- What is new is held fixed from now on. -/
theorem heldFrom {g w w' g₀ w₀ : World} (hs : Sees g w) (hl : Le w w') (h0 : w₀.heap.size ≤ w.heap.size) : ∃ g' : World, graft g w w' = g' ∧ Sees g' w' ∧ Mono g g' ∧ (∀ b, b < w.heap.size → NotIn g b → NotIn g' b) ∧ (Agr g₀ w₀ g → Agr g₀ w₀ g') ∧ g'.heap.size = w'.heap.size :=
  ⟨_, rfl, graft_sees hs hl, graft_mono hs hl, fun _ hb hn => graft_notIn hs hl hb hn, fun ha => ha.graft hs hl h0, graft_size g w w'⟩
theorem is_nil {α : Type} [GoRep α] (g : World) : Is g (.slice none 0 0) ([] : List α) := is_list.2 (.inl ⟨rfl, rfl⟩)
/-- A variable of the library's own that holds some number. -/
def MaxL (k : Nat) (w : World) : Prop := ∃ m : Int, w.cell? ⟨k, 0, none⟩ = some (.int .i64 m)
theorem MaxL.below {k : Nat} {a w : World} (h : MaxL k a) (hb : Below a.heap.size a w) : MaxL k w := by
  obtain ⟨m, hm⟩ := h
  exact ⟨m, Le.mono' hb _ _ hm⟩
/-- A contract of the shelf's, as a call that returns. -/
theorem Ret.of {P : Program} {f : FuncId} {args : Array Value} {w : World} {v : Value} {Q : World → Prop} (h : Calls P f args w fun e w' => e = .returned v ∧ Q w') : Ret P f args w fun u w' => u = v ∧ Q w' :=
  Calls.mono h fun _ _ ⟨h1, h2⟩ => ⟨v, h1, rfl, h2⟩
theorem Ret.mono {P : Program} {f : FuncId} {args : Array Value} {w : World} {R R' : Value → World → Prop} (h : Ret P f args w R) (hr : ∀ v w', R v w' → R' v w') : Ret P f args w R' :=
  Calls.mono h fun _ _ ⟨v, h1, h2⟩ => ⟨v, h1, hr v _ h2⟩
/-- The cells of a new row of strings. -/
theorem is_new_strs {g w w' : World} {b : Nat} {t : TypeId} {xs : List ByteArray} (h : New w b (.cells (xs.map Value.string).toArray t) w') (hx : ∀ x ∈ xs, x.size ≤ maxLen) (hm : xs.length ≤ maxLen) : Is (graft g w w') (.slice (some ⟨b, 0, none⟩) xs.length xs.length) xs :=
  is_lit_strs (fun i x hi => ⟨by rw [graft_cell_new h]; simp [hi], hx x (List.mem_of_getElem? hi)⟩) hm
end Go.Lm
