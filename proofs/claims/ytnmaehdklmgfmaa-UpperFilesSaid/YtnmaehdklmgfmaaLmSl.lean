/- What the call owns of the heap, as a list of parts that lie apart; what is held fixed, as a ghost. General: no program in sight. -/
import Derived.Test.YtnmaehdklmgfmaaLmOwn
import Derived.Test.YtnmaehdklmgfmaaLmTwo
import Derived.Test.YtnmaehdklmgfmaaLmShort
namespace Go.Lm
open Go Go.RowKit

/-! ### Parts of a heap -/
abbrev Hp := Nat → Option Obj
def Hp.join (h k : Hp) : Hp := fun b => match h b with | some o => some o | none => k b
def Hp.apart (h k : Hp) : Prop := ∀ b, h b = none ∨ k b = none
theorem Hp.join_left {h k : Hp} {b : Nat} {o : Obj} (e : h b = some o) : h.join k b = some o := by simp [Hp.join, e]
theorem Hp.join_right {h k : Hp} {b : Nat} (e : h b = none) : h.join k b = k b := by simp [Hp.join, e]
theorem Hp.apart.symm {h k : Hp} (a : h.apart k) : k.apart h := fun b => (a b).symm
theorem Hp.join_comm {h k : Hp} (a : h.apart k) : h.join k = k.join h := by
  funext b
  unfold Hp.join
  rcases a b with e | e <;> rw [e] <;> cases h b <;> cases k b <;> simp_all
theorem Hp.join_assoc (h k m : Hp) : (h.join k).join m = h.join (k.join m) := by
  funext b
  unfold Hp.join
  cases h b <;> rfl
theorem Hp.apart_join {h k m : Hp} : h.apart (k.join m) ↔ h.apart k ∧ h.apart m := by
  constructor
  · intro a
    refine ⟨fun b => ?_, fun b => ?_⟩
    · rcases a b with e | e
      · exact .inl e
      · right; unfold Hp.join at e; cases hk : k b <;> simp_all
    · rcases a b with e | e
      · exact .inl e
      · right; unfold Hp.join at e; cases hk : k b <;> simp_all
  · rintro ⟨a1, a2⟩ b
    rcases a1 b with e | e
    · exact .inl e
    · rcases a2 b with e' | e'
      · exact .inl e'
      · right; simp [Hp.join, e, e']

/-- A part's statement: of what is held fixed, and of the part of the heap that is its own. -/
structure Atom where
  sat : World → Hp → Prop
  mono : ∀ {g g' : World} {h : Hp}, Mono g g' → sat g h → sat g' h

def sats (g : World) : List Atom → Hp → Prop
  | [], _ => True
  | a :: l, h => ∃ h1 h2, Hp.apart h1 h2 ∧ h = h1.join h2 ∧ a.sat g h1 ∧ sats g l h2
theorem sats.mono {g g' : World} (m : Mono g g') : ∀ {l : List Atom} {h : Hp}, sats g l h → sats g' l h
  | [], _, _ => trivial
  | _ :: _, _, ⟨h1, h2, a, e, s1, s2⟩ => ⟨h1, h2, a, e, Atom.mono _ m s1, s2.mono m⟩
theorem sats.swap {g : World} {a b : Atom} {l : List Atom} {h : Hp} (s : sats g (a :: b :: l) h) : sats g (b :: a :: l) h := by
  obtain ⟨h1, h2, ap, rfl, s1, k1, k2, ap2, rfl, s2, s3⟩ := s
  obtain ⟨a1, a2⟩ := Hp.apart_join.1 ap
  refine ⟨k1, h1.join k2, Hp.apart_join.2 ⟨a1.symm, ap2⟩, ?_, s2, h1, k2, a2, rfl, s1, s3⟩
  rw [← Hp.join_assoc, Hp.join_comm a1, Hp.join_assoc]

/-- The i-th part to the front. -/
def nthA : List Atom → Nat → Option Atom
  | [], _ => none
  | a :: _, 0 => some a
  | _ :: l, i + 1 => nthA l i
def dropA : List Atom → Nat → List Atom
  | [], _ => []
  | _ :: l, 0 => l
  | a :: l, i + 1 => a :: dropA l i
def setA : List Atom → Nat → Atom → List Atom
  | [], _, _ => []
  | _ :: l, 0, b => b :: l
  | a :: l, i + 1, b => a :: setA l i b
theorem sats.pick {g : World} : ∀ {l : List Atom} {i : Nat} {a : Atom} {h : Hp}, nthA l i = some a → sats g l h → sats g (a :: dropA l i) h
  | [], _, _, _, e, _ => by cases e
  | b :: l, 0, a, h, e, s => by
    obtain rfl : b = a := Option.some.inj e
    exact s
  | b :: l, i + 1, a, h, e, s => by
    obtain ⟨h1, h2, ap, rfl, s1, s2⟩ := s
    have := sats.pick (l := l) (i := i) e s2
    exact sats.swap ⟨h1, h2, ap, rfl, s1, this⟩
theorem sats.unpick {g : World} : ∀ {l : List Atom} {i : Nat} {a b : Atom} {h : Hp}, nthA l i = some b → sats g (a :: dropA l i) h → sats g (setA l i a) h
  | [], _, _, _, _, e, _ => by cases e
  | c :: l, 0, a, b, h, e, s => s
  | c :: l, i + 1, a, b, h, e, s => by
    obtain ⟨h1, h2, ap, rfl, s1, s2⟩ := s.swap
    exact ⟨h1, h2, ap, rfl, s1, sats.unpick (l := l) (i := i) e s2⟩

/-- The start: the world, and what was held fixed of it. -/
structure Base where
  w : World
  g : World
abbrev Base.n (W : Base) : Nat := W.w.heap.size
/-- What is held fixed; below the start it is what it was. -/
structure SeesA (W : Base) (g w : World) : Prop where
  sees : Sees g w
  agr : Agr W.g W.w g
theorem SeesA.size {W : Base} {g w : World} (s : SeesA W g w) : g.heap.size ≤ w.heap.size := s.sees.size
theorem SeesA.mono {W : Base} {g w : World} (s : SeesA W g w) : Mono g w := s.sees.mono
theorem SeesA.le {W : Base} {g w w' : World} (s : SeesA W g w) (e : Le w w') : SeesA W g w' := ⟨s.sees.le e, s.agr⟩
theorem SeesA.updO {W : Base} {g w w' : World} {b : Nat} {o : Obj} (s : SeesA W g w) (hn : NotIn g b) (u : UpdO w b o w') : SeesA W g w' := ⟨s.sees.updO hn u, s.agr⟩
/-- W: the start, of which nothing turns; g: what is held fixed; l: what is owned. -/
def SL (W : Base) (g w : World) (l : List Atom) : Prop :=
  ∃ h, Below W.n W.w w ∧ SeesA W g w ∧ (∀ b o, h b = some o → W.n ≤ b ∧ w.heap[b]? = some o ∧ NotIn g b) ∧ sats g l h

section
variable {W : Base} {g w w' : World} {l : List Atom}
theorem SL.start (s : Sees g w) : SL ⟨w, g⟩ g w [] := ⟨fun _ => none, Below.refl _ _, ⟨s, Agr.refl g w⟩, (fun _ _ h => by cases h), trivial⟩
theorem SL.seesA (H : SL W g w l) : SeesA W g w := by obtain ⟨_, _, h, _⟩ := H; exact h
theorem SL.sees (H : SL W g w l) : Sees g w := H.seesA.sees
theorem SL.m (H : SL W g w l) : Mono g w := H.sees.mono
theorem SL.below (H : SL W g w l) : Below W.n W.w w := by obtain ⟨_, h, _⟩ := H; exact h
theorem SL.toLe (H : SL W g w l) : Le W.w w := H.below
theorem SL.size (H : SL W g w l) : W.n ≤ w.heap.size := H.below.size
theorem SL.le (H : SL W g w l) (e : Le w w') : SL W g w' l := by
  obtain ⟨h, b, s, o, t⟩ := H
  refine ⟨h, e.below' b, s.le e, fun k x hx => ?_, t⟩
  obtain ⟨o1, o2, o3⟩ := o k x hx
  exact ⟨o1, e.keep o2, o3⟩
theorem SL.weak {l' : List Atom} (H : SL W g w l) (k : ∀ h, sats g l h → sats g l' h) : SL W g w l' := by
  obtain ⟨h, b, s, o, t⟩ := H
  exact ⟨h, b, s, o, k h t⟩
theorem SL.pick (i : Nat) {a : Atom} (H : SL W g w l) (e : nthA l i = some a := by exact rfl) : SL W g w (a :: dropA l i) := H.weak fun _ => sats.pick e
theorem SL.unpick (i : Nat) {a b : Atom} (e : nthA l i = some b) (H : SL W g w (a :: dropA l i)) : SL W g w (setA l i a) := H.weak fun _ => sats.unpick e
theorem SL.drop {a : Atom} (H : SL W g w (a :: l)) : SL W g w l := by
  obtain ⟨h, b, s, o, h1, h2, ap, rfl, s1, s2⟩ := H
  refine ⟨h2, b, s, fun k x hx => o k x ?_, s2⟩
  rcases ap k with e | e
  · rw [Hp.join_right e]; exact hx
  · rw [e] at hx; cases hx
def dropN : Nat → List Atom → List Atom
  | 0, l => l
  | _ + 1, [] => []
  | n + 1, _ :: l => dropN n l
theorem SL.dropN : ∀ (n : Nat) {l : List Atom}, SL W g w l → SL W g w (Lm.dropN n l)
  | 0, _, H => H
  | _ + 1, [], H => H
  | n + 1, _ :: _, H => SL.dropN n H.drop
/-- What is owned, in another order (each place once): the places' list. -/
def perm (l : List Atom) : List Nat → List Atom
  | [] => l
  | i :: r => match nthA l i with
    | some a => a :: perm (dropA l i) r
    | none => l
theorem SL.under {a : Atom} {l' : List Atom} (H : SL W g w (a :: l)) (k : ∀ h, sats g l h → sats g l' h) : SL W g w (a :: l') :=
  H.weak fun _ ⟨h1, h2, ap, e, s1, s2⟩ => ⟨h1, h2, ap, e, s1, k h2 s2⟩
theorem sats.perm : ∀ (r : List Nat) {l : List Atom} {h : Hp}, sats g l h → sats g (Lm.perm l r) h
  | [], _, _, s => s
  | i :: r, l, h, s => by
    unfold Lm.perm
    cases e : nthA l i with
    | none => exact s
    | some a =>
      obtain ⟨h1, h2, ap, q, s1, s2⟩ := s.pick e
      exact ⟨h1, h2, ap, q, s1, sats.perm r s2⟩
theorem SL.perm (r : List Nat) (H : SL W g w l) : SL W g w (Lm.perm l r) := H.weak fun _ => sats.perm r
theorem SL.to {l' : List Atom} (r : List Nat) (H : SL W g w l) (e : Lm.perm l r = l' := by exact rfl) : SL W g w l' := e ▸ H.perm r
theorem SL.cast {l' : List Atom} (H : SL W g w l) (e : l = l' := by exact rfl) : SL W g w l' := e ▸ H

/-! ### Blocks -/
def obj (b : Nat) (o : Obj) : Atom := ⟨fun _ h => h b = some o, fun _ s => s⟩
abbrev blk (b : Nat) (cs : Array Value) (t : TypeId) : Atom := obj b (.cells cs t (0, 0))
theorem SL.has0 {b : Nat} {o : Obj} (H : SL W g w (obj b o :: l)) : W.n ≤ b ∧ w.heap[b]? = some o ∧ NotIn g b := by
  obtain ⟨h, _, _, ow, h1, h2, ap, rfl, s1, s2⟩ := H
  exact ow b o (Hp.join_left s1)
theorem SL.has (i : Nat) {b : Nat} {o : Obj} (H : SL W g w l) (e : nthA l i = some (obj b o) := by exact rfl) : w.heap[b]? = some o := (H.pick i e).has0.2.1
theorem SL.blk (i : Nat) {b : Nat} {cs : Array Value} {t : TypeId} (H : SL W g w l) (e : nthA l i = some (Lm.blk b cs t) := by exact rfl) : Blk w b cs t := H.has i e
theorem SL.new {b : Nat} {o : Obj} (H : SL W g w l) (n : New w b o w') : SL W g w' (obj b o :: l) := by
  obtain ⟨h, be, s, ow, t⟩ := H
  have hb : h b = none := by
    cases hx : h b with
    | none => rfl
    | some x =>
      have := (Array.getElem?_eq_some_iff.1 (ow b x hx).2.1).1
      rw [n.at_] at this; omega
  refine ⟨Hp.join (fun k => if k = b then some o else none) h, n.below be (by rw [n.at_]; exact be.size), s.le n.le, fun k x hx => ?_, _, h, fun k => ?_, rfl, if_pos rfl, t⟩
  · unfold Hp.join at hx
    by_cases e : k = b
    · subst e
      simp at hx
      subst hx
      exact ⟨by rw [n.at_]; exact be.size, n.here, n.notIn s.sees⟩
    · simp [e] at hx
      obtain ⟨o1, o2, o3⟩ := ow k x hx
      exact ⟨o1, n.keep o2, o3⟩
  · by_cases e : k = b
    · subst e; exact .inr hb
    · left; simp [e]
theorem SL.updO0 {b : Nat} {o o' : Obj} (H : SL W g w (obj b o :: l)) (u : UpdO w b o' w') : SL W g w' (obj b o' :: l) := by
  obtain ⟨hW, hw, hn⟩ := H.has0
  obtain ⟨h, be, s, ow, h1, h2, ap, rfl, s1, s2⟩ := H
  have h2b : h2 b = none := by
    rcases ap b with e | e
    · rw [show h1 b = some o from s1] at e; cases e
    · exact e
  refine ⟨Hp.join (fun k => if k = b then some o' else h1 k) h2, u.below be hW, s.updO hn u, fun k x hx => ?_, _, h2, fun k => ?_, rfl, by show (if b = b then some o' else h1 b) = some o'; rw [if_pos rfl], s2⟩
  · by_cases e : k = b
    · subst e
      have : x = o' := by unfold Hp.join at hx; simp at hx; exact hx.symm
      subst this
      exact ⟨hW, u.here, hn⟩
    · have hx' : (h1.join h2) k = some x := by unfold Hp.join at hx ⊢; simpa [e] using hx
      obtain ⟨o1, o2, o3⟩ := ow k x hx'
      exact ⟨o1, u.keep e o2, o3⟩
  · by_cases e : k = b
    · subst e; exact .inr h2b
    · rcases ap k with q | q
      · left; simp [e, q]
      · exact .inr q
theorem SL.updO (i : Nat) {b : Nat} {o o' : Obj} (H : SL W g w l) (u : UpdO w b o' w') (e : nthA l i = some (obj b o) := by exact rfl) : SL W g w' (setA l i (obj b o')) := by
  have := (H.pick i e).updO0 u
  exact this.unpick i e
theorem Upd.updO {b : Nat} {cs old : Array Value} {t : TypeId} (u : Upd w b cs w') (h : Blk w b old t) : UpdO w b (.cells cs t (0, 0)) w' := by
  refine ⟨?_, u.lt⟩
  rw [u.eq]
  unfold World.setRow
  congr 1
  apply Array.ext_getElem?
  intro k
  rw [Array.getElem?_modify]
  by_cases e : b = k
  · subst e
    unfold Blk at h
    rw [if_pos rfl, h]
    simp [u.lt]
  · rw [if_neg e, Array.getElem?_setIfInBounds_ne e]
theorem SL.upd (i : Nat) {b : Nat} {cs old : Array Value} {t : TypeId} (H : SL W g w l) (u : Upd w b cs w') (e : nthA l i = some (Lm.blk b old t) := by exact rfl) : SL W g w' (setA l i (Lm.blk b cs t)) :=
  H.updO i (u.updO (H.blk i e)) e

/-! ### Facts and choices within what is owned -/
def exA {α : Sort _} (f : α → List Atom) : Atom := ⟨fun g h => ∃ x, sats g (f x) h, fun m ⟨x, s⟩ => ⟨x, s.mono m⟩⟩
def pureA (p : Prop) : Atom := ⟨fun _ _ => p, fun _ s => s⟩
def isA {α : Type} [GoRep α] (v : Value) (x : α) : Atom := ⟨fun g _ => Is g v x, fun m s => s.mono m⟩
theorem sats.app : ∀ {a : List Atom} {h1 h2 : Hp}, Hp.apart h1 h2 → sats g a h1 → sats g l h2 → sats g (a ++ l) (h1.join h2)
  | [], h1, h2, ap, _, s2 => by
    -- what is left over joins the rest
    have key : ∀ {l : List Atom} {h2 : Hp}, Hp.apart h1 h2 → sats g l h2 → sats g l (h1.join h2) := by
      intro l
      induction l with
      | nil => intros; trivial
      | cons a l ih =>
        rintro h2 ap ⟨k1, k2, ap2, rfl, s1, s3⟩
        obtain ⟨a1, a2⟩ := Hp.apart_join.1 ap
        refine ⟨k1, h1.join k2, Hp.apart_join.2 ⟨a1.symm, ap2⟩, ?_, s1, ih a2 s3⟩
        rw [← Hp.join_assoc, Hp.join_comm a1, Hp.join_assoc]
    exact key ap s2
  | a :: r, h1, h2, ap, ⟨k1, k2, ap2, e, s1, s3⟩, s2 => by
    subst e
    have ap' := Hp.apart_join.1 ap.symm
    refine ⟨k1, k2.join h2, Hp.apart_join.2 ⟨ap2, ap'.1.symm⟩, by rw [Hp.join_assoc], s1, sats.app ap'.2.symm s3 s2⟩
theorem sats.unapp : ∀ {a : List Atom} {h : Hp}, sats g (a ++ l) h → ∃ h1 h2, Hp.apart h1 h2 ∧ h = h1.join h2 ∧ sats g a h1 ∧ sats g l h2
  | [], h, s => ⟨fun _ => none, h, fun _ => .inl rfl, rfl, trivial, s⟩
  | a :: r, h, ⟨k1, k2, ap, e, s1, s2⟩ => by
    obtain ⟨m1, m2, ap2, rfl, s3, s4⟩ := sats.unapp s2
    obtain ⟨a1, a2⟩ := Hp.apart_join.1 ap
    exact ⟨k1.join m1, m2, (Hp.apart_join.2 ⟨a2.symm, ap2.symm⟩).symm, by rw [e, Hp.join_assoc], ⟨k1, m1, a1, rfl, s1, s3⟩, s4⟩
theorem SL.openE {α : Sort _} {f : α → List Atom} (H : SL W g w (exA f :: l)) : ∃ x, SL W g w (f x ++ l) := by
  obtain ⟨h, b, s, o, h1, h2, ap, rfl, ⟨x, s1⟩, s2⟩ := H
  exact ⟨x, _, b, s, o, s1.app ap s2⟩
theorem SL.shutE {α : Sort _} {f : α → List Atom} (x : α) (H : SL W g w (f x ++ l)) : SL W g w (exA f :: l) := H.weak fun _ s => by
  obtain ⟨h1, h2, ap, rfl, s1, s2⟩ := s.unapp
  exact ⟨h1, h2, ap, rfl, ⟨x, s1⟩, s2⟩
def conjA (a : List Atom) : Atom := ⟨fun g h => sats g a h, fun m s => s.mono m⟩
theorem SL.openC {a : List Atom} (H : SL W g w (conjA a :: l)) : SL W g w (a ++ l) := H.weak fun _ ⟨_, _, ap, e, s1, s2⟩ => e ▸ sats.app ap s1 s2
theorem SL.shutC {a : List Atom} (H : SL W g w (a ++ l)) : SL W g w (conjA a :: l) := H.weak fun _ s => by
  obtain ⟨h1, h2, ap, rfl, s1, s2⟩ := s.unapp
  exact ⟨h1, h2, ap, rfl, s1, s2⟩
theorem SL.pure {p : Prop} (H : SL W g w (pureA p :: l)) : p ∧ SL W g w l := by
  refine ⟨?_, H.drop⟩
  obtain ⟨h, b, s, o, h1, h2, ap, rfl, s1, s2⟩ := H
  exact s1
theorem SL.addPure {p : Prop} (hp : p) (H : SL W g w l) : SL W g w (pureA p :: l) := H.weak fun h s => ⟨fun _ => none, h, fun _ => .inl rfl, rfl, hp, s⟩
theorem SL.isv {α : Type} [GoRep α] {v : Value} {x : α} (H : SL W g w (isA v x :: l)) : Is g v x ∧ SL W g w l := by
  refine ⟨?_, H.drop⟩
  obtain ⟨h, b, s, o, h1, h2, ap, rfl, s1, s2⟩ := H
  exact s1
theorem SL.addIs {α : Type} [GoRep α] {v : Value} {x : α} (hp : Is g v x) (H : SL W g w l) : SL W g w (isA v x :: l) := H.weak fun h s => ⟨fun _ => none, h, fun _ => .inl rfl, rfl, hp, s⟩

/-! ### What is owned is held fixed from now on -/
theorem SL.regraft (H : SL W g w l) (e : Le w w') : SL W (graft g w w') w' l := by
  obtain ⟨h, be, s, o, t⟩ := H
  refine ⟨h, e.below' be, ⟨graft_sees s.sees e, s.agr.graft s.sees e be.size⟩, fun b x hx => ?_, t.mono (graft_mono s.sees e)⟩
  obtain ⟨o1, o2, o3⟩ := o b x hx
  exact ⟨o1, e.keep o2, graft_notIn s.sees e (Array.getElem?_eq_some_iff.1 o2).1 o3⟩
/-- A call whose result is new data, held fixed from now on. -/
theorem SL.data (H : SL W g w l) (e : Le w w') : ∃ g', graft g w w' = g' ∧ Mono g g' ∧ SL W g' w' l := ⟨_, rfl, graft_mono H.sees e, H.regraft e⟩
/-- At the end of a call: what is held fixed within is held fixed without. -/
theorem SL.fin {g₀ w₀ : World} (H : SL ⟨w₀, g₀⟩ g w l) (s : Sees g₀ w₀) : Mono g (graft g₀ w₀ w) := H.seesA.agr.fin s H.sees H.below.size
/-- The ghost with one block more. -/
def withB (g : World) (n b : Nat) (o : Obj) : World := { g with heap := Array.ofFn (n := n) fun k => if k.val = b then o else (g.heap[k.val]?).getD (.map #[] 0) }
theorem withB_cell {g : World} {n b : Nat} {o : Obj} (hs : g.heap.size ≤ n) (a : Addr) (hb : a.block ≠ b) : (withB g n b o).cell? a = g.cell? a := by
  unfold World.cell? withB
  by_cases h : a.block < n
  · simp only [Array.getElem?_ofFn, h, dif_pos]
    rw [if_neg hb]
    cases hg : g.heap[a.block]? <;> simp
  · simp only [Array.getElem?_ofFn, h, dif_neg, not_false_iff]
    rw [Array.getElem?_eq_none (by omega)]
theorem SL.hold0 {b : Nat} {cs : Array Value} {t : TypeId} (H : SL W g w (Lm.blk b cs t :: l)) : ∃ g', Mono g g' ∧ SL W g' w l ∧ (∀ i, g'.cell? ⟨b, i, none⟩ = cs[i]?) := by
  obtain ⟨hW, hw, hn⟩ := H.has0
  obtain ⟨h, be, s, o, h1, h2, ap, rfl, s1, s2⟩ := H
  have hlt : b < w.heap.size := (Array.getElem?_eq_some_iff.1 hw).1
  have m : Mono g (withB g w.heap.size b (.cells cs t (0, 0))) := fun a v hv => by
    have hne : a.block ≠ b := fun e => by rw [hn a e] at hv; cases hv
    rw [withB_cell s.size a hne]; exact hv
  have hc : ∀ (i : Nat) (sp), (withB g w.heap.size b (.cells cs t (0, 0))).cell? ⟨b, i, sp⟩ = w.cell? ⟨b, i, sp⟩ := fun i sp => by
    unfold World.cell? withB
    rw [hw]
    simp [hlt]
  refine ⟨withB g w.heap.size b (.cells cs t (0, 0)), m, ⟨h2, be, ⟨⟨by simp [withB], fun a v hv => ?_⟩, fun a ha => ?_⟩, fun k x hx => ?_, s2.mono m⟩, fun i => ?_⟩
  · by_cases e : a.block = b
    · have : a = ⟨b, a.off, a.spot⟩ := by cases a; simp_all
      rw [this] at hv ⊢
      rw [hc] at hv; exact hv
    · rw [withB_cell s.size a e] at hv; exact s.mono a v hv
  · have hne : a.block ≠ b := fun e => by
      have h1 : W.n ≤ b := hW
      unfold Base.n at h1
      omega
    rw [withB_cell s.size a hne]; exact s.agr a ha
  · have h1k : h1 k = none := by
      rcases ap k with e | e
      · exact e
      · rw [e] at hx; cases hx
    obtain ⟨o1, o2, o3⟩ := o k x (by rw [Hp.join_right h1k]; exact hx)
    refine ⟨o1, o2, fun a ha => ?_⟩
    have hkb : k ≠ b := fun e => by
      subst e
      rw [show h1 k = some _ from s1] at h1k; cases h1k
    rw [withB_cell s.size a (by rw [ha]; exact hkb)]
    exact o3 a ha
  · rw [hc]
    exact Blk.cell hw i
theorem SL.hold (i : Nat) {b : Nat} {cs : Array Value} {t : TypeId} (H : SL W g w l) (e : nthA l i = some (Lm.blk b cs t) := by exact rfl) : ∃ g', Mono g g' ∧ SL W g' w (dropA l i) ∧ (∀ i, g'.cell? ⟨b, i, none⟩ = cs[i]?) := (H.pick i e).hold0
end
end Go.Lm
