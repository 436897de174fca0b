/- Go's data as Lean's data: what a value reads as, in a world. General: no program in sight. -/
import Derived.Test.YtnmaehdklmgfmaaLmOpen
import Derived.Deep.Slices
import Derived.Deep.Fields
import Derived.ChangeSame
namespace Go.Lm
open Go Go.RowKit Go.ChangeShapes Go.WideShapes

/-- Each cell of w is one of w', the same. -/
def Mono (w w' : World) : Prop := ∀ (a : Addr) (v : Value), w.cell? a = some v → w'.cell? a = some v
theorem Mono.refl (w : World) : Mono w w := fun _ _ h => h
theorem Mono.trans {a b c : World} (h : Mono a b) (k : Mono b c) : Mono a c := fun x v hx => k x v (h x v hx)
theorem Le.mono' {w w' : World} (h : Le w w') : Mono w w' := fun a v hc => by rw [Below.cell h (World.block_lt_of_cell? w a hc)]; exact hc

/-- What is held fixed of a world: a ghost. -/
structure Sees (g w : World) : Prop where
  size : g.heap.size ≤ w.heap.size
  mono : Mono g w
theorem Sees.refl (w : World) : Sees w w := ⟨Nat.le_refl _, Mono.refl w⟩
theorem Sees.le {g w w' : World} (h : Sees g w) (hl : Le w w') : Sees g w' := ⟨Nat.le_trans h.size hl.size, h.mono.trans hl.mono'⟩
/-- No cell of block b is held fixed. -/
def NotIn (g : World) (b : Nat) : Prop := ∀ (a : Addr), a.block = b → g.cell? a = none
theorem New.notIn {g w w' : World} {b : Nat} {o : Obj} (h : New w b o w') (hs : Sees g w) : NotIn g b := fun a ha => by
  cases hc : g.cell? a with
  | none => rfl
  | some v =>
    have := World.block_lt_of_cell? g a hc
    have h1 := hs.size
    rw [ha, h.at_] at this
    omega
theorem Sees.upd {g w w' : World} {b : Nat} {cs : Array Value} (h : Sees g w) (hn : NotIn g b) (hu : Upd w b cs w') : Sees g w' := by
  refine ⟨by rw [hu.size]; exact h.size, fun a v hv => ?_⟩
  have hne : a.block ≠ b := fun e => by rw [hn a e] at hv; cases hv
  have h1 := h.mono a v hv
  have h2 : w'.heap[a.block]? = w.heap[a.block]? := by rw [hu.eq]; exact setRow_ne w b a.block cs hne
  rw [World.cell?_of_block (w := w) h2]; exact h1
/-- The ghost behind a call: what was held fixed, and all that is new. -/
def graft (g w w' : World) : World := { w' with heap := Array.ofFn (n := w'.heap.size) fun k => if k.val < w.heap.size then (g.heap[k.val]?).getD (.map #[] 0) else w'.heap[k.val] }
theorem graft_old {g w w' : World} (_hs : Sees g w) (hl : w.heap.size ≤ w'.heap.size) (a : Addr) (ha : a.block < w.heap.size) : (graft g w w').cell? a = g.cell? a := by
  unfold World.cell? graft
  have hlt : a.block < w'.heap.size := by omega
  simp only [Array.getElem?_ofFn, hlt, dif_pos, ha, if_true]
  cases hg : g.heap[a.block]? with
  | none => simp
  | some o => simp
theorem graft_new {g w w' : World} (a : Addr) (ha : w.heap.size ≤ a.block) : (graft g w w').cell? a = w'.cell? a := by
  unfold World.cell? graft
  by_cases hlt : a.block < w'.heap.size
  · simp only [Array.getElem?_ofFn, hlt, dif_pos]
    rw [if_neg (by omega)]
    simp [hlt]
  · simp [hlt]
theorem graft_size (g w w' : World) : (graft g w w').heap.size = w'.heap.size := by simp [graft]
theorem graft_sees {g w w' : World} (hs : Sees g w) (hl : Le w w') : Sees (graft g w w') w' := by
  refine ⟨by rw [graft_size]; exact Nat.le_refl _, fun a v hv => ?_⟩
  by_cases ha : a.block < w.heap.size
  · rw [graft_old hs hl.size a ha] at hv
    exact hl.mono' a v (hs.mono a v hv)
  · rw [graft_new a (by omega)] at hv; exact hv
theorem graft_mono {g w w' : World} (hs : Sees g w) (hl : Le w w') : Mono g (graft g w w') := fun a v hv => by
  have ha : a.block < w.heap.size := Nat.lt_of_lt_of_le (World.block_lt_of_cell? g a hv) hs.size
  rw [graft_old hs hl.size a ha]; exact hv
theorem graft_notIn {g w w' : World} {b : Nat} (hs : Sees g w) (hl : Le w w') (hb : b < w.heap.size) (hn : NotIn g b) : NotIn (graft g w w') b := fun a ha => by
  rw [graft_old hs hl.size a (by omega)]; exact hn a ha
/-- Below the size at the start the ghost is the one that came in. -/
def Agr (g₀ w₀ g : World) : Prop := ∀ (a : Addr), a.block < w₀.heap.size → g.cell? a = g₀.cell? a
theorem Agr.refl (g w : World) : Agr g w g := fun _ _ => rfl
theorem Agr.graft {g₀ w₀ g w w' : World} (h : Agr g₀ w₀ g) (hs : Sees g w) (hl : Le w w') (h0 : w₀.heap.size ≤ w.heap.size) : Agr g₀ w₀ (graft g w w') := fun a ha => by
  rw [graft_old hs hl.size a (by omega)]; exact h a ha
/-- At the end: what is held fixed within is held fixed without. -/
theorem Agr.fin {g₀ w₀ g w : World} (h : Agr g₀ w₀ g) (h0 : Sees g₀ w₀) (hs : Sees g w) (hl : w₀.heap.size ≤ w.heap.size) : Mono g (Lm.graft g₀ w₀ w) := fun a v hv => by
  by_cases ha : a.block < w₀.heap.size
  · rw [graft_old h0 hl a ha, ← h a ha]; exact hv
  · rw [graft_new a (by omega)]; exact hs.mono a v hv

/-- The cells of a datum of a Lean type. -/
class GoRep (α : Type) where
  size : Nat
  agg : Bool
  rel : World → List Value → α → Prop
  mono : ∀ {w w' : World} {cs : List Value} {x : α}, Mono w w' → rel w cs x → rel w' cs x
  len : ∀ {w : World} {cs : List Value} {x : α}, rel w cs x → cs.length = size

def Is {α : Type} [GoRep α] (w : World) (v : Value) (x : α) : Prop :=
  if (GoRep.agg α) then ∃ cs, v = .agg cs ∧ GoRep.rel w cs.toList x else GoRep.rel w [v] x
theorem Is.mono {α : Type} [GoRep α] {w w' : World} {v : Value} {x : α} (hl : Mono w w') (h : Is w v x) : Is w' v x := by
  unfold Is at *
  split at h
  · rename_i ha
    rw [if_pos ha]
    obtain ⟨cs, hv, hr⟩ := h
    exact ⟨cs, hv, GoRep.mono hl hr⟩
  · rename_i ha
    rw [if_neg ha]
    exact GoRep.mono hl h

instance : GoRep Int where
  size := 1
  agg := false
  rel _ cs n := cs = [.int .i64 n] ∧ (Lit.int .i64 n).wf = true
  mono _ h := h
  len h := by rw [h.1]; rfl
instance : GoRep Bool where
  size := 1
  agg := false
  rel _ cs b := cs = [.bool b]
  mono _ h := h
  len h := by rw [h]; rfl
instance : GoRep UInt8 where
  size := 1
  agg := false
  rel _ cs b := cs = [.int .u8 b.toNat]
  mono _ h := h
  len h := by rw [h]; rfl
instance : GoRep ByteArray where
  size := 1
  agg := false
  rel _ cs s := cs = [.string s] ∧ s.size ≤ maxLen
  mono _ h := h
  len h := by rw [h.1]; rfl

/-- A slice that reads as a list. -/
def IsSl {α : Type} [GoRep α] (w : World) (v : Value) (xs : List α) : Prop :=
  (v = .slice none 0 0 ∧ xs = []) ∨
  ∃ (a : Addr) (cap : Nat), v = .slice (some a) xs.length cap ∧ xs.length ≤ cap ∧ cap ≤ maxLen ∧
    ∀ (i : Nat) (x : α), xs[i]? = some x → ∃ cs : List Value, (∀ (j : Nat) (c : Value), cs[j]? = some c → w.cell? (a.add (i * GoRep.size α + j)) = some c) ∧ GoRep.rel w cs x
instance {α : Type} [GoRep α] : GoRep (List α) where
  size := 1
  agg := false
  rel w cs xs := ∃ v, cs = [v] ∧ IsSl w v xs
  mono := by
    rintro w w' cs x hl ⟨v, rfl, h⟩
    refine ⟨v, rfl, ?_⟩
    rcases h with h | ⟨a, cap, hv, h1, h2, h3⟩
    · exact .inl h
    · refine .inr ⟨a, cap, hv, h1, h2, fun i x hx => ?_⟩
      obtain ⟨cs, hc, hr⟩ := h3 i x hx
      exact ⟨cs, fun j c hj => hl _ c (hc j c hj), GoRep.mono hl hr⟩
  len := by rintro w cs x ⟨v, rfl, _⟩; rfl

theorem is_int {w : World} {v : Value} {n : Int} : Is w v n ↔ v = .int .i64 n ∧ (Lit.int .i64 n).wf = true := by
  simp [Is, GoRep.agg, GoRep.rel]
theorem is_str {w : World} {v : Value} {s : ByteArray} : Is w v s ↔ v = .string s ∧ s.size ≤ maxLen := by
  simp [Is, GoRep.agg, GoRep.rel]
theorem is_bool {w : World} {v : Value} {b : Bool} : Is w v b ↔ v = .bool b := by
  simp [Is, GoRep.agg, GoRep.rel]
theorem is_byte {w : World} {v : Value} {b : UInt8} : Is w v b ↔ v = .int .u8 b.toNat := by
  simp [Is, GoRep.agg, GoRep.rel]
theorem is_list {α : Type} [GoRep α] {w : World} {v : Value} {xs : List α} : Is w v xs ↔ IsSl w v xs := by
  simp [Is, GoRep.agg, GoRep.rel]

/-! ### Reading what came in -/
/-- Whatever can be read at type t is a datum of α. -/
def Opens (P : Program) (t : TypeId) (α : Type) [GoRep α] : Prop :=
  ∀ {H : Type} (enc : TypeId × Value → H) (w : World) (base : Nat) (spare : Nat → Bool) (held : Bool) (fuel : Nat) (cs : List Value) (y : DataW H × List MemPlace), DataW.trod enc P w base spare held fuel t cs = some y → ∃ x : α, GoRep.rel w cs x
section
variable {P : Program}
theorem opens_int {t : TypeId} (ht : P.underlying t = some (.int .i64)) : Opens P t Int := fun _ _ _ _ _ _ _ _ h => by
  obtain ⟨n, hc, _, hw⟩ := DataW.trod_int ht h
  exact ⟨n, hc, hw⟩
theorem opens_bool {t : TypeId} (ht : P.underlying t = some .bool) : Opens P t Bool := fun _ _ _ _ _ _ _ _ h => by
  obtain ⟨b, hc, _⟩ := DataW.trod_bool ht h
  exact ⟨b, hc⟩
theorem opens_byte {t : TypeId} (ht : P.underlying t = some (.int .u8)) : Opens P t UInt8 := fun _ _ _ _ _ _ cs _ h => by
  obtain ⟨n, hc, _, hw⟩ := DataW.trod_int ht h
  have hb : 0 ≤ n ∧ n ≤ 255 := by
    simp [Lit.wf, IntKind.min, IntKind.max, IntKind.signed, IntKind.bits] at hw
    omega
  refine ⟨UInt8.ofNat n.toNat, ?_⟩
  have : ((UInt8.ofNat n.toNat).toNat : Int) = n := by
    simp [UInt8.toNat_ofNat']
    omega
  show cs = [.int .u8 _]
  rw [this]; exact hc
theorem opens_str {t : TypeId} (ht : P.underlying t = some .string) : Opens P t ByteArray := fun _ _ _ _ _ _ _ _ h => by
  obtain ⟨s, hc, _, hs⟩ := DataW.trod_string ht h
  exact ⟨s, hc, hs⟩
theorem list_choose {α : Type} {p : Nat → α → Prop} : ∀ n : Nat, (∀ i, i < n → ∃ x, p i x) → ∃ l : List α, l.length = n ∧ ∀ i x, l[i]? = some x → p i x
  | 0, _ => ⟨[], rfl, fun i x h => by simp at h⟩
  | n + 1, h => by
    obtain ⟨l, hl, hp⟩ := list_choose n fun i hi => h i (by omega)
    obtain ⟨x, hx⟩ := h n (by omega)
    refine ⟨l ++ [x], by simp [hl], fun i y hy => ?_⟩
    by_cases hi : i < n
    · rw [List.getElem?_append_left (by omega)] at hy; exact hp i y hy
    · have : i = n := by
        have := (List.getElem?_eq_some_iff.1 hy).1
        simp [hl] at this; omega
      subst this
      rw [List.getElem?_append_right (by omega)] at hy
      simp [hl] at hy
      subst hy; exact hx
theorem opens_list {t e : TypeId} {α : Type} [GoRep α] (ht : P.underlying t = some (.slice e)) (hs : P.cellsOf e = GoRep.size α) (he : Opens P e α) : Opens P t (List α) := fun enc w base spare held fuel cs y h => by
  rcases Go.Deep.open_slice ht h with ⟨hc, _⟩ | ⟨a, len, cap, m, n, D, Pl, hc, hb, hl, hm, hmm, _, hi⟩
  · exact ⟨[], _, hc, .inl ⟨rfl, rfl⟩⟩
  · have hlm : len ≤ m := by rw [hmm]; split <;> omega
    obtain ⟨l, hll, hp⟩ := list_choose (α := α) (p := fun i x => ∃ cs : List Value, (∀ (j : Nat) (c : Value), cs[j]? = some c → w.cell? (a.add (i * GoRep.size α + j)) = some c) ∧ GoRep.rel w cs x) len fun i hi' => by
      obtain ⟨cs', h1, h2⟩ := hi i (by omega)
      obtain ⟨x, hx⟩ := he enc w base spare held n cs' _ h2
      refine ⟨x, cs', fun j c hj => ?_, hx⟩
      obtain ⟨_, hcl, hat⟩ := World.cells?_some h1
      have hjl : j < P.cellsOf e := by rw [← hcl]; exact (List.getElem?_eq_some_iff.1 hj).1
      have := hat j hjl
      rw [Go.Deep.add_add, hs] at this
      rw [this, hj]
    subst hll
    exact ⟨l, _, hc, .inr ⟨a, cap, rfl, hl, hm, hp⟩⟩
/-- An argument. -/
theorem open_one {t : TypeId} {α : Type} [GoRep α] (ho : Opens P t α) (ha : GoRep.agg α = false) {H : Type} {enc : TypeId × Value → H} {w : World} {base : Nat} {spare : Nat → Bool} {held : Bool} {v : Value} {d : DataW H} {ps : List MemPlace}
    (hv : v.cells = #[v]) (h : DataW.Trod enc P w base spare held t v d ps) : ∃ x : α, Is w v x := by
  obtain ⟨fuel, hf⟩ := h
  obtain ⟨x, hx⟩ := ho enc w base spare held fuel _ _ hf
  refine ⟨x, ?_⟩
  unfold Is
  rw [if_neg (by rw [ha]; simp)]
  rw [hv] at hx; exact hx
theorem open_many {t : TypeId} {α : Type} [GoRep α] (ho : Opens P t α) (ha : GoRep.agg α = true) {H : Type} {enc : TypeId × Value → H} {w : World} {base : Nat} {spare : Nat → Bool} {held : Bool} {cs : Array Value} {d : DataW H} {ps : List MemPlace}
    (h : DataW.Trod enc P w base spare held t (.agg cs) d ps) : ∃ x : α, Is w (.agg cs) x := by
  obtain ⟨fuel, hf⟩ := h
  obtain ⟨x, hx⟩ := ho enc w base spare held fuel _ _ hf
  refine ⟨x, ?_⟩
  unfold Is
  rw [if_pos ha]
  exact ⟨cs, rfl, hx⟩

/-! ### Operations on data -/
/-- The place of an element. -/
def elemP (k : Nat) : Value → Int → Value
  | .slice (some a) _ _, i => .pointer (some (a.add (i.toNat * k)))
  | _, _ => undef
theorem X_len_str {w : World} {ρ : Operand → Value} {o : Oper} {x : Operand} {t : TypeId} {s : ByteArray} (ho : o.op = .call { callee := .builtin .len, args := #[x], argTypes := #[t] }) (ht : P.underlying t = some .string) (hx : ρ x = .string s) :
    (execOp ρ o).run P w = .ok (.value (.int .i64 s.size)) w := by
  simp [execOp, ho, resolve, invoke, builtin, hx, Builtin.len_, run_underlying ht, goInt]
theorem X_len {α : Type} [GoRep α] {w : World} {ρ : Operand → Value} {o : Oper} {x : Operand} {t e : TypeId} {v : Value} {xs : List α} (h : Is w v xs) (ho : o.op = .call { callee := .builtin .len, args := #[x], argTypes := #[t] }) (ht : P.underlying t = some (.slice e)) (hx : ρ x = v) :
    (execOp ρ o).run P w = .ok (.value (.int .i64 xs.length)) w := by
  rcases is_list.1 h with ⟨rfl, rfl⟩ | ⟨a, cap, rfl, _⟩ <;> simp [execOp, ho, resolve, invoke, builtin, hx, Builtin.len_, run_underlying ht, goInt]
theorem X_indexAddr {α : Type} [GoRep α] {w : World} {ρ : Operand → Value} {o : Oper} {x y : Operand} {t e : TypeId} {v : Value} {xs : List α} {i : Int} (h : Is w v xs) (h0 : 0 ≤ i) (h1 : i < xs.length) (ho : o.op = .indexAddr t x y) (ht : P.underlying t = some (.slice e))
    (hs : (P.info? e).map (·.size) = some (GoRep.size α)) (hx : ρ x = v) (hy : ρ y = .int .i64 i) : (execOp ρ o).run P w = .ok (.value (elemP (GoRep.size α) v i)) w := by
  rcases is_list.1 h with ⟨rfl, rfl⟩ | ⟨a, cap, rfl, _⟩
  · simp at h1; omega
  · cases hq : P.info? e with
    | none => simp [hq] at hs
    | some ie =>
      have hsz : ie.size = GoRep.size α := by simpa [hq] using hs
      simp [execOp, ho, Instr.indexAt, hx, hy, asIntOf, run_underlying ht, h0, h1, sizeOf, typeInfo, hq, hsz, elemP]
/-- The element is read. -/
theorem run_load_elem {α : Type} [GoRep α] {w : World} {e : TypeId} {d : TypeDesc} {v : Value} {xs : List α} {i : Int} (h : Is w v xs) (h0 : 0 ≤ i) (h1 : i < xs.length) (hu : P.underlying e = some d) (ha : d.isRow = GoRep.agg α) (hone : GoRep.agg α = false → GoRep.size α = 1)
    (hs : (P.info? e).map (·.size) = some (GoRep.size α)) : ∃ u, (Instr.loadAt e (elemP (GoRep.size α) v i)).run P w = .ok u w ∧ Is w u (xs[i.toNat]'(by omega)) := by
  rcases is_list.1 h with ⟨rfl, rfl⟩ | ⟨a, cap, rfl, _, _, h3⟩
  · simp at h1; omega
  · obtain ⟨cs, hc, hr⟩ := h3 i.toNat _ (List.getElem?_eq_getElem (by omega))
    have hlen := GoRep.len hr
    have hcell : ∀ j c, cs[j]? = some c → w.cell? ((a.add (i.toNat * GoRep.size α)).add j) = some c := fun j c hj => by rw [Go.Deep.add_add]; exact hc j c hj
    cases hg : GoRep.agg α with
    | false =>
      have h1' := hone hg
      match cs, hlen.trans h1' with
      | [c], _ =>
        refine ⟨c, ?_, by unfold Is; rw [if_neg (by rw [hg]; simp)]; exact hr⟩
        have h2 := hcell 0 c rfl
        have hagg : (isAgg e).run P w = .ok false w := by
          unfold isAgg
          rw [Sem.run_bind, run_underlying hu w]
          rw [hg] at ha
          cases d <;> simp_all
        have e0 : (a.add (i.toNat * GoRep.size α)).add 0 = a.add (i.toNat * GoRep.size α) := by simp [Addr.add]
        rw [e0] at h2
        simp [elemP, Instr.loadAt, Instr.sureAddr, loadVar, hagg, run_load, h2]
    | true =>
      refine ⟨.agg cs.toArray, ?_, by unfold Is; rw [if_pos hg]; exact ⟨cs.toArray, rfl, by simpa using hr⟩⟩
      cases hq : P.info? e with
      | none => simp [hq] at hs
      | some ie =>
        have hsz : ie.size = cs.length := by rw [hlen]; simpa [hq] using hs
        have hagg : (isAgg e).run P w = .ok true w := by
          unfold isAgg
          rw [Sem.run_bind, run_underlying hu w]
          rw [hg] at ha
          cases d <;> simp_all
        have hl := run_loadCells_list (P := P) w (a.add (i.toNat * GoRep.size α)) cs hcell
        simp [elemP, Instr.loadAt, Instr.sureAddr, loadVar, hagg, sizeOf, typeInfo, hq, hsz, hl]
end

/-! ### Elements that are one cell -/
def nth {α : Type} [Inhabited α] (xs : List α) (i : Int) : α := (xs[i.toNat]?).getD default
theorem nth_eq {α : Type} [Inhabited α] {xs : List α} {i : Int} (h : i.toNat < xs.length) : nth xs i = xs[i.toNat] := by simp [nth, h]
section
variable {P : Program}
theorem run_load_str {w : World} {e : TypeId} {v : Value} {xs : List ByteArray} {i : Int} (h : Is w v xs) (h0 : 0 ≤ i) (h1 : i < xs.length) (hu : P.underlying e = some .string) (hs : (P.info? e).map (·.size) = some 1) :
    (Instr.loadAt e (elemP 1 v i)).run P w = .ok (.string (nth xs i)) w := by
  obtain ⟨u, hr, hi⟩ := run_load_elem (P := P) (e := e) h h0 h1 hu rfl (fun _ => rfl) hs
  obtain ⟨rfl, _⟩ := is_str.1 hi
  rw [nth_eq (by omega)]; exact hr
theorem run_load_int {w : World} {e : TypeId} {v : Value} {xs : List Int} {i : Int} (h : Is w v xs) (h0 : 0 ≤ i) (h1 : i < xs.length) (hu : P.underlying e = some (.int .i64)) (hs : (P.info? e).map (·.size) = some 1) :
    (Instr.loadAt e (elemP 1 v i)).run P w = .ok (.int .i64 (nth xs i)) w := by
  obtain ⟨u, hr, hi⟩ := run_load_elem (P := P) (e := e) h h0 h1 hu rfl (fun _ => rfl) hs
  obtain ⟨rfl, _⟩ := is_int.1 hi
  rw [nth_eq (by omega)]; exact hr
theorem run_load_byte {w : World} {e : TypeId} {v : Value} {xs : List UInt8} {i : Int} (h : Is w v xs) (h0 : 0 ≤ i) (h1 : i < xs.length) (hu : P.underlying e = some (.int .u8)) (hs : (P.info? e).map (·.size) = some 1) :
    (Instr.loadAt e (elemP 1 v i)).run P w = .ok (.int .u8 (nth xs i).toNat) w := by
  obtain ⟨u, hr, hi⟩ := run_load_elem (P := P) (e := e) h h0 h1 hu rfl (fun _ => rfl) hs
  obtain rfl := is_byte.1 hi
  rw [nth_eq (by omega)]; exact hr
theorem Is.len_le {α : Type} [GoRep α] {w : World} {v : Value} {xs : List α} (h : Is w v xs) : xs.length ≤ 9223372036854775807 := by
  rcases is_list.1 h with ⟨_, rfl⟩ | ⟨_, cap, _, h1, h2, _⟩
  · simp
  · unfold maxLen at h2; omega
theorem Is.str_le {w : World} {v : Value} {xs : List ByteArray} (h : Is w v xs) {s : ByteArray} (hs : s ∈ xs) : s.size ≤ 9223372036854775807 := by
  rcases is_list.1 h with ⟨_, rfl⟩ | ⟨_, cap, _, _, _, h3⟩
  · cases hs
  · obtain ⟨i, hi⟩ := List.getElem?_of_mem hs
    obtain ⟨cs, _, _, hr⟩ := h3 i s hi
    unfold maxLen at hr; omega
theorem nth_mem {α : Type} [Inhabited α] {xs : List α} {i : Int} (h0 : 0 ≤ i) (h1 : i < xs.length) : nth xs i ∈ xs := by
  rw [nth_eq (by omega)]; exact List.getElem_mem _

/-- A byte of a string. -/
def byteAt (s : ByteArray) (i : Int) : UInt8 := (s[i.toNat]?).getD 0
theorem X_index_str {w : World} {ρ : Operand → Value} {o : Oper} {x y : Operand} {t : TypeId} {s : ByteArray} {i : Int} (h0 : 0 ≤ i) (h1 : i < s.size) (ho : o.op = .index t x y) (ht : P.underlying t = some .string) (hx : ρ x = .string s) (hy : ρ y = .int .i64 i) :
    (execOp ρ o).run P w = .ok (.value (.int .u8 (byteAt s i).toNat)) w := by
  have hlt : i.toNat < s.size := by omega
  have hb : s[i.toNat]? = some s[i.toNat] := by simp [hlt]
  simp [execOp, ho, Instr.index, hx, hy, asIntOf, run_underlying ht, h0, byteAt, hb]
/-- A part of a string. -/
theorem X_slice_str {w : World} {ρ : Operand → Value} {o : Oper} {x : Operand} {lo hi : Option Operand} {t : TypeId} {s : ByteArray} {l h : Int} (hl : 0 ≤ l) (hlh : l ≤ h) (hh : h ≤ s.size) (ho : o.op = .slice t x lo hi none) (ht : P.underlying t = some .string) (hx : ρ x = .string s)
    (h1 : (lo = none ∧ l = 0) ∨ ∃ y, lo = some y ∧ ρ y = .int .i64 l) (h2 : (hi = none ∧ h = s.size) ∨ ∃ y, hi = some y ∧ ρ y = .int .i64 h) :
    (execOp ρ o).run P w = .ok (.value (.string (s.extract l.toNat h.toNat))) w := by
  have e0 : 0 ≤ h := by omega
  have hb : (Instr.sliceBounds false s.size s.size (lo.map ρ) (hi.map ρ) none).run P w = .ok (l.toNat, h.toNat, s.size) w := by
    rcases h1 with ⟨rfl, rfl⟩ | ⟨y, rfl, hy⟩ <;> rcases h2 with ⟨rfl, rfl⟩ | ⟨z, rfl, hz⟩ <;>
      simp_all [Instr.sliceBounds, Instr.sliceBound, asIntOf] <;> omega
  simp [execOp, ho, Instr.sliceAt, hx, run_underlying ht, Instr.slice, hb]
end

/-- A part of a slice. -/
def sliceV (k : Nat) : Value → Int → Int → Value
  | .slice a _ cap, l, h => .slice (if cap = l.toNat then a else a.map (·.add (l.toNat * k))) (h.toNat - l.toNat) (cap - l.toNat)
  | v, _, _ => v
section
variable {P : Program}
theorem X_slice {α : Type} [GoRep α] {w : World} {ρ : Operand → Value} {o : Oper} {x : Operand} {lo hi : Option Operand} {t e : TypeId} {v : Value} {xs : List α} {l h : Int} (hx' : Is w v xs) (hl : 0 ≤ l) (hlh : l ≤ h) (hh : h ≤ xs.length) (ho : o.op = .slice t x lo hi none)
    (ht : P.underlying t = some (.slice e)) (hs : (P.info? e).map (·.size) = some (GoRep.size α)) (hx : ρ x = v)
    (h1 : (lo = none ∧ l = 0) ∨ ∃ y, lo = some y ∧ ρ y = .int .i64 l) (h2 : (hi = none ∧ h = xs.length) ∨ ∃ y, hi = some y ∧ ρ y = .int .i64 h) :
    (execOp ρ o).run P w = .ok (.value (sliceV (GoRep.size α) v l h)) w := by
  obtain ⟨a, cap, rfl, hcap⟩ : ∃ a cap, v = .slice a xs.length cap ∧ xs.length ≤ cap := by
    rcases is_list.1 hx' with ⟨rfl, rfl⟩ | ⟨a, cap, rfl, hc, _⟩
    · exact ⟨none, 0, rfl, Nat.le_refl _⟩
    · exact ⟨some a, cap, rfl, hc⟩
  have e0 : 0 ≤ h := by omega
  have hc' : h ≤ (cap : Int) := by omega
  have hb : (Instr.sliceBounds true xs.length cap (lo.map ρ) (hi.map ρ) none).run P w = .ok (l.toNat, h.toNat, cap) w := by
    rcases h1 with ⟨rfl, rfl⟩ | ⟨y, rfl, hy⟩ <;> rcases h2 with ⟨rfl, rfl⟩ | ⟨z, rfl, hz⟩ <;>
      simp_all [Instr.sliceBounds, Instr.sliceBound, asIntOf] <;> omega
  cases hq : P.info? e with
  | none => simp [hq] at hs
  | some ie =>
    have hsz : ie.size = GoRep.size α := by simpa [hq] using hs
    simp [execOp, ho, Instr.sliceAt, hx, run_underlying ht, Instr.slice, hb, sizeOf, typeInfo, hq, hsz, sliceV]
theorem Is.slice {α : Type} [GoRep α] {w : World} {v : Value} {xs : List α} {l h : Int} (hx : Is w v xs) (hl : 0 ≤ l) (hlh : l ≤ h) (hh : h ≤ xs.length) :
    Is w (sliceV (GoRep.size α) v l h) ((xs.drop l.toNat).take (h.toNat - l.toNat)) := by
  have hlen : ((xs.drop l.toNat).take (h.toNat - l.toNat)).length = h.toNat - l.toNat := by simp; omega
  rcases is_list.1 hx with ⟨rfl, rfl⟩ | ⟨a, cap, rfl, hc, hm, h3⟩
  · refine is_list.2 (.inl ⟨?_, by simp⟩)
    simp at hh
    have h1 : h = 0 := by omega
    have h2 : l = 0 := by omega
    subst h1 h2
    rfl
  · refine is_list.2 (.inr ⟨if cap = l.toNat then a else a.add (l.toNat * GoRep.size α), cap - l.toNat, ?_, by rw [hlen]; omega, by omega, fun i x hi => ?_⟩)
    · rw [hlen]
      unfold sliceV
      simp only [Option.map_some]
      split <;> rfl
    · have hi' : i < h.toNat - l.toNat := by
        have := (List.getElem?_eq_some_iff.1 hi).1
        rwa [hlen] at this
      rw [List.getElem?_take, if_pos hi', List.getElem?_drop] at hi
      obtain ⟨cs, h4, h5⟩ := h3 _ x hi
      refine ⟨cs, fun j c hj => ?_, h5⟩
      have := h4 j c hj
      rw [if_neg (by omega), Go.Deep.add_add]
      rw [← this]
      congr 2
      rw [Nat.add_mul]; omega
theorem S_val_rel {ops : Array Oper} {rest : List Oper} {o : Oper} {n : Nat} {s : AL} {Q : Exit → Act → World → Prop} {w : World} {d : Nat} {R : Value → Prop} (hw : wants ops s o = some true) (hk : (knows s o && noSel o) = true) (hd : o.dst = some d) (hn : Nat.blt d n = true)
    (hr : ∃ u, (execOp (rho s) o).run P w = .ok (.value u) w ∧ R u) (k : ∀ u, R u → wpR P ops rest n ((d, u) :: s) Q w) : wpR P ops (o :: rest) n s Q w := by
  obtain ⟨u, h1, h2⟩ := hr
  exact R_val hw hk hd hn h1 (k u h2)
end
theorem Sees.of_mono {g g' w : World} (h : Sees g' w) (hm : Mono g g') (hs : g.heap.size ≤ w.heap.size) : Sees g w := ⟨hs, hm.trans h.mono⟩
theorem wrap_in {k : IntKind} {n : Int} (h : (Lit.int k n).wf = true) : k.wrap n = n := by
  cases k <;> simp [Lit.wf, IntKind.min, IntKind.max, IntKind.signed, IntKind.bits] at h <;> simp [IntKind.wrap, IntKind.signed, IntKind.bits] <;> omega
theorem wrap64_in {n : Int} (h0 : -9223372036854775808 ≤ n) (h1 : n ≤ 9223372036854775807) : IntKind.i64.wrap n = n := wrap_in (WalkArith.wf_i64 ⟨h0, h1⟩)
theorem eq_int {P : Program} {s : Sem Next} {w w' : World} {k : IntKind} {m n : Int} (h : s.run P w = .ok (.value (.int k m)) w') (hb : m = n) : s.run P w = .ok (.value (.int k n)) w' := hb ▸ h
end Go.Lm
